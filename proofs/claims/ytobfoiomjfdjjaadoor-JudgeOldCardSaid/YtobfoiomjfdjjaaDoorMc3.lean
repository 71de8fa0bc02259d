/- The machine: abstract values and stores, and the laws by which a walk goes through code. Its parts in order. -/
import Derived.Test.YtobfoiomjfdjjaaDoorMc2
import Derived.Laws.RangeString
import Derived.Lib.AppendStr
import Derived.Lib.ConvBytes
set_option linter.unusedVariables false
set_option linter.unusedSimpArgs false
set_option linter.constructorNameAsVariable false
namespace Go.Proofs.YtobfoiomjfdjjaaDoor.Mc
open Go.RowKit
variable [Mo]
variable {P:Program}{D:Ah}
def Wo (g:XG):X->Option ((r:Row) × List r.den)
 | .fz _ r xs=>some ⟨r,xs⟩
 | .sl _ o=>match gx g o with | some (.ar _ r xs)=>some ⟨r,xs⟩ | _=>none
 | .sw o off len=>match gx g o with | some (.ar _ r xs)=>some ⟨r,(xs.drop off).take len⟩ | _=>none
 | _=>none
omit [Mo] in
theorem MZ {g:XG}{s:AE}(ha:Ad g s){x:X}{r:Row}{xs:List r.den}(h:Wo g x=some ⟨r,xs⟩):Hm s x.enc=some (xs.map r.en):=by
 unfold Wo at h
 split at h
 · cases h; rfl
 · split at h
   · rename_i hgx; cases h; exact Zk rfl (ha.is _ _ (BU hgx))
   · cases h
 · split at h
   · rename_i hgx; cases h; exact Yl rfl (ha.is _ _ (BU hgx))
   · cases h
 · cases h
def Tk (g:XG)(e:Nat):X->Option (Nl × ((r:Row) × List r.den) × Nat)
 | .sl nl o=>match gx g o with
   | some (.ar e' r xs)=>cond (Nat.beq e' e && Nat.blt e' 1000000) (some (nl,⟨r,xs⟩,o)) none
   | _=>none
 | .sw o 0 len=>match gx g o with
   | some (.ar e' r xs)=>cond (Nat.beq e' e && Nat.blt e' 1000000) (some (.u,⟨r,xs.take len⟩,o)) none
   | _=>none
 | _=>none
omit [Mo] in
theorem He {g:XG} {s:AE} (ha:Ad g s) {e:Nat} {x:X} {nl:Nl} {r:Row} {xs:List r.den} {o:Nat} (h:Tk g e x=some (nl,⟨r,xs⟩,o)):IL s e r.len x.enc=some (nl,xs.map r.en,some o):=by
 unfold Tk at h
 split at h
 · split at h
   · rename_i hgx
     obtain ⟨h1,h2⟩:=AO h
     cases h2
     simp [IL,X.enc,ha.get hgx,XO.enc,h1]
   · cases h
 · split at h
   · rename_i hgx
     obtain ⟨h1,h2⟩:=AO h
     cases h2
     simp [IL,X.enc,ha.get hgx,XO.enc,h1,List.map_take]
   · cases h
 · cases h
def Ct:X->Bool | .c v=>Cv v | _=>false
omit [Mo] in
theorem Cq {x:X}(h:Ct x=true):x=.c (.slice none 0 0):=by
 unfold Ct at h
 split at h
 · rw [CR h]
 · cases h
def NB (D:Ah) (g:XG) (dst:Option Nat) (t:TypeId) (x y:X):Out :=
 match dst,Bt (D.AW t) with
 | some d, some e=>match g d with
   | none => cond (Mz D e) (match Wo g y with
     | some ⟨r,ys⟩=>cond (Nat.beq r.len (D.size e)) (cond (Ct x)
         (.Bl (decide ((([]:List r.den).length+ys.length) * D.bytes e<=140737488355328)) (.sl .n d) [(d,some (.ar e r (([]:List r.den) ++ ys)))])
         (match Tk g e x with
           | some (nl,⟨r', xs⟩,o)=>match Row.eq? r' r with
             | some h=>.Bl (decide (((h.down ▸ xs:List r.den).length+ys.length) * D.bytes e<=140737488355328)) (.sl nl d) [(d,some (.ar e r ((h.down ▸ xs:List r.den) ++ ys))),(o,none)]
             | none=>.bad
           | none=>.bad)) .bad
     | none=>cond (Ct y) (match Tk g e x with
         | some (nl,⟨r,xs⟩,o)=>cond (Nat.beq r.len (D.size e)) (.Bl (decide ((xs.length+([]:List r.den).length) * D.bytes e<=140737488355328)) (.sl nl d) [(d,some (.ar e r (xs ++ []))),(o,none)]) .bad
         | none=>.bad) .bad) .bad
   | some _=>.bad
 | _,_=>.bad
theorem ND (hg:Good P D) {g:XG} {o:Oper} {st:St} (ha:Ad g st.s) {t:TypeId} {ox oy:Operand} {x y:X} (hop:o.op=.call ⟨.builtin .append,#[ox,oy],#[t,t]⟩) (hx:ev AM st.t ox=x.enc) (hy:ev AM st.t oy=y.enc) :
   Au P o st (NB D g o.dst t x y):=by
 unfold NB
 split
 · rename_i d e hd he
   have hu:=Ag he
   split
   · rename_i hn
     have hfree:=ha.no d hn
     refine AB (fun hok=>?_) (fun _=>trivial)
     split
     · rename_i r ys hs
       have hsr:=MZ ha hs
       refine AB (fun hl=>?_) (fun _=>trivial)
       have hlen:r.len=D.size e:=Nat.eq_of_beq_eq_true hl
       refine AB (fun hnx=>?_) (fun _=>?_)
       · intro hq
         obtain rfl:=Cq hnx
         show CD P AM o st (.sl .n d) (Ae st.s d (some (some (.ar e r.len ((([]:List r.den) ++ ys).map r.en)))))
         rw [hlen]
         exact QU (oo:=none) (enc:=r.en) (xs:=([]:List r.den)) (ys:=ys) hg hop hu hok hfree (by rw [hx]; simp [IL,X.enc,plain]) (by rw [hy]; exact hsr) (r.wide hl) rfl hq
       · split
         · rename_i nl r' xs n ht
           split
           · rename_i h _
             obtain ⟨h⟩:=h
             subst h
             intro hq
             have htg:=He ha ht
             rw [hlen] at htg
             show CD P AM o st (.sl nl d) (Ae (Ae st.s n (some none)) d (some (some (.ar e r'.len ((xs ++ ys).map r'.en)))))
             rw [hlen]
             exact QU (oo:=some n) (enc:=r'.en) (xs:=xs) (ys:=ys) hg hop hu hok hfree (by rw [hx]; exact htg) (by rw [hy]; exact hsr) (r'.wide hl) rfl hq
           · trivial
         · trivial
     · refine AB (fun hny=>?_) (fun _=>trivial)
       obtain rfl:=Cq hny
       split
       · rename_i nl r xs n ht
         refine AB (fun hl=>?_) (fun _=>trivial)
         have hlen:r.len=D.size e:=Nat.eq_of_beq_eq_true hl
         intro hq
         have htg:=He ha ht
         rw [hlen] at htg
         show CD P AM o st (.sl nl d) (Ae (Ae st.s n (some none)) d (some (some (.ar e r.len ((xs ++ []).map r.en)))))
         rw [hlen]
         exact QU (oo:=some n) (enc:=r.en) (xs:=xs) (ys:=[]) hg hop hu hok hfree (by rw [hx]; exact htg) (by rw [hy]; simp [Hm,X.enc,plain]) (r.wide hl) rfl hq
       · trivial
   · trivial
 · trivial
def AU:Row:=.int .u8 .nil
def Np:Option TypeDesc->Bool | some (.int .u8)=>true | _=>false
omit [Mo] in
theorem Ed {o:Option TypeDesc}(h:Np o=true):o=some (.int .u8):=by
 unfold Np at h
 split at h
 · rfl
 · cases h
def Mv:Option Value->Bool | some (.int .u8 n)=>decide (n=0) | _=>false
omit [Mo] in
theorem Mm {o:Option Value}(h:Mv o=true):o=some (.int .u8 0):=by
 unfold Mv at h
 split at h
 · rw [of_decide_eq_true h]
 · cases h
def Ab (s:ByteArray):List Int:=s.data.toList.map fun b=>((b.toNat:Nat):Int)
omit [Mo] in
theorem CX (s:ByteArray):(Ab s).length=s.size:=by
 unfold Ab
 rw [List.length_map,Array.length_toList]; rfl
omit [Mo] in
theorem KD {t u ty e:TypeId} {i:TypeInfo} (ht:P.underlying t=some (.slice e)) (hu:P.underlying u=some .string) (hi:P.info? e=some i) (hz:i.zero=some (.int .u8 0)) (hsize:i.size=1) (hby:i.bytes=1)
   {w:World} {v:Value} {n:Nat} {xs:List Value} (hown:w.ownsRow 0 e 1 v n xs) (s:ByteArray) (hm0:0 < s.size) (WH:n+s.size<=maxLen) (hbytes:n+s.size<=140737488355328) :
   ∃ g cap w', (Builtin.append_ #[t,u] ty #[v,.string s]).run P w=.ok (.slice (some ⟨g,0,none⟩) (n+s.size) cap) w' /\ w'.ownsRow 0 e 1 (.slice (some ⟨g,0,none⟩) (n+s.size) cap) (n+s.size) (xs ++ Lib.strCells s)/\w.grownBy w' v.ownBlock /\
     (v.ownBlock=some g\/g=w.heap.size)/\g < w'.heap.size/\w.drawn<=w'.drawn:=by
 have hsmall:n+s.size<=9223372036854775807:=by simp only [maxLen] at WH; omega
 have hxl:xs.length=n:=by simpa using hown.1
 have hlen:(xs ++ Lib.strCells s).length=(n+s.size) * 1:=by rw [List.length_append,hxl,Lib.strCells_length,Nat.mul_one]
 have grown:∀ (Hd:Nat),Hd < n+s.size->∀ (row:Option Nat),
     (w.drew.alloc (.cells (xs.toArray ++ (Lib.strCells s).toArray ++ Builtin.zeroCells (Value.int .u8 0).cells (grownCap w (n+s.size) Hd e - (n+s.size))) e)).ownsRow 0 e 1
       (.slice (some ⟨w.heap.size,0,none⟩) (n+s.size) (grownCap w (n+s.size) Hd e)) (n+s.size) (xs ++ Lib.strCells s) /\
     w.grownBy (w.drew.alloc (.cells (xs.toArray ++ (Lib.strCells s).toArray ++ Builtin.zeroCells (Value.int .u8 0).cells (grownCap w (n+s.size) Hd e - (n+s.size))) e)) row:=by
   intro Hd ho row
   have hge:=grownCap_ge w (n+s.size) Hd e
   have hcm:grownCap w (n+s.size) Hd e<=maxLen:=grownCap_le_maxLen w (n+s.size) Hd e WH
   refine ⟨⟨hlen,.inr ⟨w.heap.size,_,_,rfl,Nat.zero_le _,heap_alloc_new w.drew _,hge,hcm,?_,?_⟩⟩,⟨rfl,rfl,rfl,by simp,fun k hk _=>heap_alloc_old w.drew _ hk⟩⟩
   · have hz1:(Value.int IntKind.u8 0).cells.size=1:=rfl
     simp only [Array.size_append,List.size_toArray,size_zeroCells,hz1,hxl,Lib.strCells_length]
     omega
   · simp only [Array.toList_append,List.append_assoc]
     rw [<- List.append_assoc,<- hlen]
     exact List.take_left
 rcases hown.2 with ⟨rfl,rfl⟩ | ⟨g,cap,cur,rfl,hbg,hg,hnc,hcm,hcs,htake⟩
 · have hx:xs=[]:=List.eq_nil_of_length_eq_zero hxl
   subst hx
   have hr:=run_append_nil_string (P:=P) w t u ty e i (.int .u8 0) ht hu hi hz s (by omega) (by omega) (by rw [hby]; omega)
   have hgr:=grown 0 (by omega) (Value.ownBlock (.slice none 0 0))
   simp only [Nat.zero_add,List.nil_append,Array.empty_append] at hgr ⊢
   have e1:(s.data.map fun b=>Value.int .u8 b.toNat)=(Lib.strCells s).toArray:=by
     apply Array.ext'
     simp [Lib.strCells]
   rw [e1] at hr
   exact ⟨_,_,_,hr,hgr.1,hgr.2,.inr rfl,by simp,Nat.le_succ _⟩
 · by_cases hroom:n+s.size<=cap
   · have hcs':cur.size=cap:=by simpa using hcs
     have hr:=Lib.run_append_room_string (P:=P) w t u ty e i ht hu hi hsize g n cap cur hg s hroom (by omega)
     refine ⟨g,cap,_,hr,⟨hlen,.inr ⟨g,cap,_,rfl,hbg,setRow_heap w g cur _ e _ hg,hroom,hcm,?_,?_⟩⟩,⟨rfl,rfl,rfl,by simp,fun k _ hk=>setRow_other w g k _ (fun e=>hk (by simp [Value.ownBlock,e]))⟩,.inl rfl,by simpa using (Array.getElem?_eq_some_iff.1 hg).1,Nat.le_refl _⟩
     · simp only [List.size_toArray,List.length_append,List.length_take,List.length_drop,Array.length_toList,Lib.strCells_length]
       omega
     · have ht':cur.toList.take n=xs:=by simpa using htake
       rw [ht', <- hlen]
       exact List.take_left
   · have holds:∀ j u,xs[j]? = some u->w.cell? ((⟨g,0,none⟩:Addr).add j)=some u:=hown.cells (g:=g) rfl
     have hr:=Lib.run_append_grow_string (P:=P) w t u ty e i (.int .u8 0) ht hu hi hz ⟨g,0,none⟩ n cap xs (by rw [hsize]; simpa using hxl) holds s (by omega) (by omega) (by rw [hby]; exact growslice_fits (by omega) (by omega))
     have hgr:=grown cap (by omega) (Value.ownBlock (.slice (some ⟨g,0,none⟩) n cap))
     exact ⟨_,_,_,hr,hgr.1,hgr.2,.inr rfl,by simp,Nat.le_succ _⟩
omit [Mo] in
theorem JO {t u e ty:TypeId}{i:TypeInfo}{w:World}{a:Option Addr}{n c:Nat}{s:ByteArray}(ht:P.underlying t=some (.slice e))(hu:P.underlying u=some .string)(hi:P.info? e=some i)(hs:s.size=0)(hn:n<=c) :
   (Builtin.append_ #[t,u] ty #[.slice a n c,.string s]).run P w=.ok (.slice a n c) w:=by
 have hf:=Lib.run_firstCells_string (P:=P) w i.size s
 rw [hs] at hf
 have hn2:Lib.strCells s=[]:=List.eq_nil_of_length_eq_zero (by rw [Lib.strCells_length]; exact hs)
 rw [hn2] at hf
 cases a with
 | none=>simp [Builtin.append_,run_underlying ht,run_underlying hu,sizeOf,typeInfo,hi,Builtin.lenOf,hs,hf,hn]
 | some a=>simp [Builtin.append_,run_underlying ht,run_underlying hu,sizeOf,typeInfo,hi,Builtin.lenOf,hs,hf,hn,storeCells]
omit [Mo] in
theorem Ik {s:ByteArray}{F:Nat->Prop}{w:World}{i:Nat}{r:List T}(hi:((Ab s).map AU.en)[i]? = some r){j:Nat}{x:T}(hj:r[j]? = some x):j=0/\∃ v,(Lib.strCells s)[i]? = some v/\BG w F x v:=by
 have hi':((s.data.toList.map fun b=>((b.toNat:Nat):Int)).map fun n:Int=>[T.sc (.int .u8 n)])[i]? = some r:=hi
 simp only [List.getElem?_map,Option.map_eq_some_iff] at hi'
 obtain ⟨n,⟨b,hb,rfl⟩,rfl⟩:=hi'
 cases j with
 | zero =>
   cases hj
   exact ⟨rfl,_,by unfold Lib.strCells; rw [List.getElem?_map,hb]; rfl,.sc _ rfl⟩
 | succ j=>simp at hj
theorem Rs (hg:Good P D) {o:Oper} {st:St} {x y:Operand} {t u e d:Nat} {nl:Nl} {rows:List (List T)} {oo:Option Nat} {s:ByteArray}
   (ho:o.op=.call ⟨.builtin .append,#[x,y],#[t,u]⟩) (hu:D.AW t=some (.slice e)) (hs:D.AW u=some .string) (he:D.AW e=some (.int .u8)) (hz:D.zero e=some (.int .u8 0)) (hp:D.size e=1) (hb:D.bytes e=1)
   (hd:st.s d=none) (htg:IL st.s e 1 (ev AM st.t x)=some (nl,rows,oo)) (hy:ev AM st.t y=vS s) (hby:rows.length+s.size<=140737488355328) :
   CD P AM o st (.sl nl d) (Ae (JA st.s oo) d (some (some (.ar e 1 (rows ++ (Ab s).map AU.en))))):=by
 intro B F loc a w hR
 have hS:=hR.s
 obtain ⟨hu', _⟩:=hg.AW t _ hu
 obtain ⟨hus,_⟩:=hg.AW u _ hs
 obtain ⟨_,i,hi,hsz,hbt,hzi⟩:=hg.AW e _ he
 obtain ⟨b,cap,cells,hv,hown,hrl,h1,hr,hne,hnn,hn0,hbo,hoo⟩:=(MS hS htg (AV hR x) (by decide)).out
 have hys:a.eval y=.string s:=by
   have:=AV hR y
   rw [hy] at this
   exact AP this
 have hcl:cells.length=rows.length:=by have:=hown.1; omega
 have hcat:∀ (i:Nat) (r:List T),(rows ++ (Ab s).map AU.en)[i]? = some r->∀ (j:Nat) (x:T),r[j]? = some x->∃ v,(cells ++ Lib.strCells s)[i * 1+j]? = some v/\BG w F x v:=by
   intro i r hi j x hj
   rw [List.getElem?_append] at hi
   split at hi
   · rename_i hlt
     have hjl:j < 1:=by have:=(List.getElem?_eq_some_iff.1 hj).1; have:=BX hrl hi; omega
     obtain ⟨u,hu,hrel⟩:=hr i r hi j x hj
     exact ⟨u,by rw [List.getElem?_append,if_pos (by omega)]; exact hu,hrel⟩
   · rename_i hge
     obtain ⟨rfl,u,hu,hrel⟩:=Ik (w:=w) (F:=F) hi hj
     refine ⟨u,?_,hrel⟩
     rw [List.getElem?_append,if_neg (by omega),<- hu]
     congr 1
     omega
 have hrl2:∀ r ∈ rows ++ (Ab s).map AU.en,r.length=1:=fun r hr=>(List.mem_append.1 hr).elim (hrl r) (fun h=>by
   obtain ⟨n,_,rfl⟩:=List.mem_map.1 h; rfl)
 have h1':∀ u ∈ cells ++ Lib.strCells s,u.oneCell' = true:=fun u hu=>(List.mem_append.1 hu).elim (h1 u) (Lib.strCells_oneCell s u)
 have hob:(a.eval x).ownBlock=b:=by rw [hv]; cases b <;> rfl
 have hll:(rows ++ (Ab s).map AU.en).length=rows.length+s.size:=by rw [List.length_append]; congr 1; exact (List.length_map _).trans (CX s)
 by_cases hm:s.size=0
 · have hnil:Ab s=[]:=List.eq_nil_of_length_eq_zero (by rw [CX]; exact hm)
   have hcap:rows.length<=cap:=by rw [hv] at hown; exact Hz (Bx hown (hg.lt e _ he))
   have hrun:(Builtin.append_ #[t,u] o.type #[a.eval x,a.eval y]).run P w=.ok (a.eval x) w:=by
     rw [hv,hys]; exact JO hu' hus hi hm hcap
   have e0:rows ++ (Ab s).map AU.en=rows:=by rw [hnil]; exact List.append_nil _
   rw [e0]
   have hx:∀ loc', Ak loc loc' -> Kept w F w F->BZ w F loc' (some (.ar e 1 rows)) (.arr b rows.length cap 1):=by
     intro loc' _ _
     exact .ar e _ rows b cap cells (by decide) hrl (by rw [hv] at hown; exact Bx hown (hg.lt e _ he)) h1 hr
   have hgb:w.grownBy w none:=⟨rfl,rfl,rfl,Nat.le_refl _,fun _ _ _=>rfl⟩
   obtain ⟨hS', hk,hsm⟩:=hS.replace (oo:=oo) (row:=none) (d:=d) (x:=.ar e 1 rows) (l:=.arr b rows.length cap 1) hd hoo (FN htg) hgb (fun _ h=>by cases h) (fun g hg=>by
     obtain ⟨o', l', h1,h2,h3⟩:=hbo g hg
     exact ⟨.inl ⟨o', l', h1,h2,h3⟩,(hS.own o' l' g h2 h3).1⟩) hx
   refine ⟨F,_,w,a.eval x,_,DZ ho hrun,.inl rfl,hS', hk,hsm,?_⟩
   rw [hv]
   exact .sl _ _ b _ cap 1 (AA _ _ _) hne hnn hn0
 · obtain ⟨g,cap', w', hrun,hown', hgb,hplace,hgs,hdr⟩:=KD (P:=P) (ty:=o.type) hu' hus hi (hzi.trans hz) (hsz.trans hp) (hbt.trans hb) hown s (by omega) (Nat.le_trans (show rows.length+s.size<=9223372036854775807 by omega) LB) hby
   have hx:∀ loc', Ak loc loc' -> Kept w F w' F->BZ w' F loc' (some (.ar e 1 (rows ++ (Ab s).map AU.en))) (.arr (some g) (rows ++ (Ab s).map AU.en).length cap' 1):=by
     intro loc' _ hk
     refine .ar e _ _ (some g) cap' (cells ++ Lib.strCells s) (by decide) hrl2 (by rw [hll]; exact Bx hown' (hg.lt e _ he)) h1' fun i r hi j x hj=>?_
     obtain ⟨u,hu,hrel⟩:=hcat i r hi j x hj
     exact ⟨u,hu,hrel.mono hk⟩
   obtain ⟨hS', hk,hsm⟩:=hS.replace (oo:=oo) (row:=b) (d:=d) (x:=.ar e 1 (rows ++ (Ab s).map AU.en)) (l:=.arr (some g) (rows ++ (Ab s).map AU.en).length cap' 1) hd hoo (FN htg) (by rw [<- hob]; exact hgb) hbo (fun g' hg'=>by
     cases hg'
     refine ⟨?_,hgs⟩
     rcases hplace with h | h
     · rw [hob] at h; exact .inl (hbo g h)
     · exact .inr (by omega)) hx hdr
   refine ⟨F,_,w', _,_,DZ ho (by rw [hys]; exact hrun),.inl rfl,hS', hk,hsm,?_⟩
   have:=AF.sl (w:=w') (F:=F) (loc:=Ae (Eo loc oo) d (some (.arr (some g) (rows ++ (Ab s).map AU.en).length cap' 1))) nl d (some g) _ cap' 1 (AA _ _ _) (fun _=>rfl) (fun _ _=>by rw [hll]; omega) (by simp)
   rw [hll] at this
   simpa [hll] using this
def Eu (s:ByteArray):List AU.den:=Ab s
def Kj (D:Ah) (g:XG) (dst:Option Nat) (t u:TypeId) (x:X) (s:ByteArray):Out :=
 match dst,Bt (D.AW t) with
 | some d, some e=>match g d with
   | none=>cond (Np (D.AW e) && DR (D.AW u) && Mv (D.zero e) && Nat.beq (D.size e) 1 && Nat.beq (D.bytes e) 1) (cond (Ct x)
       (.Bl (decide (([]:List AU.den).length+s.size<=140737488355328)) (.sl .n d) [(d,some (.ar e AU (([]:List AU.den) ++ Eu s)))])
       (match Tk g e x with
         | some (nl,⟨r,xs⟩,o)=>match Row.eq? r AU with
           | some h=>.Bl (decide ((h.down ▸ xs:List AU.den).length+s.size<=140737488355328)) (.sl nl d) [(d,some (.ar e AU ((h.down ▸ xs:List AU.den) ++ Eu s))),(o,none)]
           | none=>.bad
         | none=>.bad)) .bad
   | some _=>.bad
 | _,_=>.bad
theorem LI (hg:Good P D) {g:XG} {o:Oper} {st:St} (ha:Ad g st.s) {t u:TypeId} {ox oy:Operand} {x:X} {s:ByteArray} (hop:o.op=.call ⟨.builtin .append,#[ox,oy],#[t,u]⟩) (hx:ev AM st.t ox=x.enc) (hy:ev AM st.t oy=(X.s s).enc) :
   Au P o st (Kj D g o.dst t u x s):=by
 unfold Kj
 split
 · rename_i d e hd he
   have hu:=Ag he
   split
   · rename_i hn
     have hfree:=ha.no d hn
     refine AB (fun hok=>?_) (fun _=>trivial)
     simp only [Bool.and_eq_true] at hok
     obtain ⟨⟨⟨⟨k1,k2⟩,k3⟩,k4⟩,k5⟩:=hok
     have k1:=Ed k1
     have k2:=BP k2
     have k3:=Mm k3
     have k4:D.size e=1:=Nat.eq_of_beq_eq_true k4
     have k5:D.bytes e=1:=Nat.eq_of_beq_eq_true k5
     refine AB (fun hnx=>?_) (fun _=>?_)
     · intro hq
       obtain rfl:=Cq hnx
       show CD P AM o st (.sl .n d) (Ae st.s d (some (some (.ar e 1 ((([]:List AU.den) ++ Eu s).map AU.en)))))
       exact Rs (oo:=none) (rows:=[]) hg hop hu k2 k1 k3 k4 k5 hfree (by rw [hx]; simp [IL,X.enc,plain]) hy (by simpa using of_decide_eq_true hq)
     · split
       · rename_i nl r xs n ht
         split
         · rename_i h _
           obtain ⟨h⟩:=h
           subst h
           intro hq
           have htg:=He ha ht
           show CD P AM o st (.sl nl d) (Ae (Ae st.s n (some none)) d (some (some (.ar e 1 ((xs ++ Eu s).map AU.en)))))
           rw [List.map_append]
           exact Rs (oo:=some n) hg hop hu k2 k1 k3 k4 k5 hfree (by rw [hx]; exact htg) hy (by rw [List.length_map]; exact of_decide_eq_true hq)
         · trivial
       · trivial
   · trivial
 · trivial
def VX (g:XG)(r:Row):Nat->List (Nat × X)->Option (List r.den)
 | _,[]=>some []
 | k,(i,v) :: rest=>cond (Nat.beq i k && Ez g v) (match r.Az (BN v),VX g r (k+1) rest with
   | some a,some az=>some (a :: az)
   | _,_=>none) none
omit [Mo] in
theorem BK.refl:∀ (l:List T),BK l l
 | []=>.nil
 | x :: l=>.cons _ _ _ _ (.refl x) (BK.refl l)
omit [Mo] in
theorem Ly {g:XG} {s:AE} (ha:Ad g s) {r:Row} {sz:Nat} (hsz:r.len=sz):∀ (parts:List (Nat × X)) (k:Nat) (xs:List r.den) (cells:List V),VX g r k parts=some xs->(k+parts.length) * sz<=cells.length ->
   xs.length=parts.length/\∃ tss:List (List T),tss.length=parts.length/\(∀ (i:Nat) (a:r.den),xs[i]? = some a->∃ ts,tss[i]? = some ts/\BK ts (r.en a))/\(∀ ts ∈ tss,ts.length=sz)/\(∀ v ∈ tss.flatten.map V.t,JJ s v=true) /\
     EE s (fun i=>some (i * sz,sz)) cells (parts.map fun p=>(p.1,p.2.enc))=some (cells.take (k * sz) ++ tss.flatten.map V.t ++ cells.drop ((k+parts.length) * sz))
 | [],k,xs,cells,h,_=>by
   cases h
   exact ⟨rfl,[],rfl,fun i a h=>by simp at h,fun _ h=>by simp at h,fun _ h=>by simp at h,by simp [EE]⟩
 | (i, v) :: rest,k,xs,cells,h,hc=>by
   unfold VX at h
   cases hb:(Nat.beq i k && Ez g v) with
   | false=>rw [hb] at h; cases h
   | true =>
     rw [hb] at h
     simp only [Bool.and_eq_true] at hb
     obtain ⟨hik,hsol⟩:=hb
     have hik':=Nat.eq_of_beq_eq_true hik
     subst hik'
     simp only [cond_true] at h
     split at h
     · rename_i a az h1 h2
       cases h
       obtain ⟨hso,hce⟩:=Dh ha hsol
       obtain ⟨ts,hts,hw⟩:=r.BS _ a h1
       rw [hce] at hts
       have hcv:=Cz hts
       have htl:ts.length=sz:=by rw [hw.get.1,r.CS,hsz]
       have hlen:(Af v.enc).length=sz:=by rw [hcv,List.length_map,htl]
       simp only [List.length_cons] at hc
       have hmul:(i+(rest.length+1)) * sz=i * sz+sz+rest.length * sz:=by rw [Nat.add_mul,Nat.add_mul]; omega
       have hc1:i * sz+sz<=cells.length:=by omega
       obtain ⟨h3,tss,h4,h5,h6,h7,h8⟩:=Ly ha hsz rest (i+1) az (cells.take (i * sz) ++ Af v.enc ++ cells.drop (i * sz+sz)) h2 (by
         have:(i+1+rest.length) * sz=i * sz+sz+rest.length * sz:=by rw [Nat.add_mul,Nat.add_mul]; omega
         simp only [List.length_append,List.length_take,List.length_drop,hlen]; omega)
       refine ⟨by simp [h3],ts :: tss,by simp [h4],fun j b hj=>?_,fun u hu=>?_,fun u hu=>?_,?_⟩
       · cases j with
         | zero=>cases hj; exact ⟨ts,rfl,hw⟩
         | succ j=>exact h5 j b (by simpa using hj)
       · rcases List.mem_cons.1 hu with rfl | hu
         · exact htl
         · exact h6 u hu
       · rw [List.flatten_cons,List.map_append,List.mem_append] at hu
         rcases hu with hu | hu
         · rw [<- hcv] at hu; exact IX hso u hu
         · exact h7 u hu
       · simp only [List.map_cons,EE,Ky hso,hlen,Nat.beq_refl,Bool.true_and]
         rw [if_pos (by simpa using hc1)]
         rw [h8]
         congr 1
         have e1:(i+1) * sz=i * sz+sz:=by rw [Nat.add_mul,Nat.one_mul]
         have e2:(i+1+rest.length) * sz=i * sz+sz+rest.length * sz:=by rw [Nat.add_mul,Nat.add_mul]; omega
         have t1:(cells.take (i * sz) ++ Af v.enc).length=i * sz+sz:=by rw [List.length_append,List.length_take,hlen]; omega
         rw [e1,List.take_left' t1,List.drop_append,List.drop_eq_nil_of_le (by omega),List.nil_append,t1,List.drop_drop,e2,List.length_cons,hmul,List.flatten_cons,List.map_append,<- hcv]
         simp only [List.append_assoc]
         congr 4
         omega
     · cases h
omit [Mo] in
theorem JC {sz:Nat}:∀ (tss:List (List T)),(∀ ts ∈ tss,ts.length=sz)->∀ (i:Nat) (ts:List T),tss[i]? = some ts->(tss.flatten.drop (i * sz)).take sz=ts
 | [],_,i,ts,h=>by simp at h
 | t :: tss,hl,0,ts,h=>by
   cases h
   have:=hl t (by simp)
   rw [Nat.zero_mul,List.drop_zero,List.flatten_cons]
   exact List.take_left' this
 | t :: tss,hl,i+1,ts,h=>by
   have ht:=hl t (by simp)
   rw [List.flatten_cons,Nat.add_mul,Nat.one_mul,Nat.add_comm,<- List.drop_drop,List.drop_left' ht]
   exact JC tss (fun x hx=>hl x (by simp [hx])) i ts (by simpa using h)
omit [Mo] in
theorem Pb {e:Nat} {z:List T} (h:Bi D e=some z):z.length=D.size e:=by
 unfold Bi at h
 split at h
 · rename_i v hv
   split at h
   · rename_i hb
     cases h
     simp only [Bool.and_eq_true] at hb
     have:=Nat.eq_of_beq_eq_true hb.1.2
     simpa using this
   · cases h
 · cases h
omit [Mo] in
theorem Sm {g:XG}{s:AE}(ha:Ad g s){r:Row}{e len:Nat}(hsz:r.len=D.size e){parts:List (Nat × X)}{xs:List r.den}(h:VX g r 0 parts=some xs)(hlen:parts.length=len){z:List T}(hz:Bi D e=some z) :
   ∃ rows,HT D s e len (parts.map fun p=>(p.1,p.2.enc))=some rows/\rows.length=xs.length/\∀ (i:Nat) (r':List T),(xs.map r.en)[i]? = some r' -> ∃ q,rows[i]? = some q/\BK q r':=by
 have hfl:=DY (Pb hz) len
 obtain ⟨h1,tss,h2,h3,h4,h5,h6⟩:=Ly ha hsz parts 0 xs ((List.replicate len (z.map V.t)).flatten) h (by rw [hfl,Nat.zero_add,hlen]; exact Nat.le_refl _)
 have h7:(List.replicate len (z.map V.t)).flatten.take (0 * D.size e) ++ tss.flatten.map V.t ++ (List.replicate len (z.map V.t)).flatten.drop ((0+parts.length) * D.size e)=tss.flatten.map V.t:=by
   rw [Nat.zero_mul,List.take_zero,List.nil_append,Nat.zero_add,hlen,<- hfl,List.drop_length,List.append_nil]
 rw [h7] at h6
 refine ⟨(List.range len).map fun i=>(tss.flatten.drop (i * D.size e)).take (D.size e),?_,by simp [h1,hlen],fun i r' hi=>?_⟩
 · unfold HT
   rw [hz]
   simp only [h6]
   rw [List.all_eq_true.2 h5,EK]
 · rw [List.getElem?_map] at hi
   obtain ⟨a,ha', rfl⟩:=Option.map_eq_some_iff.1 hi
   obtain ⟨ts,hts,hw⟩:=h3 i a ha'
   have hil:i < len:=by have:=(List.getElem?_eq_some_iff.1 ha').1; omega
   exact ⟨ts,by rw [List.getElem?_map,List.getElem?_range hil]; exact congrArg some (JC tss h4 i ts hts),hw⟩
def Er (D:Ah) (g:XG) (rw? : Option Row) (dst:Option Nat) (t:TypeId) (len:Nat) (parts:List (Nat × X)):Out :=
 match dst,Bt (D.AW t),rw? with
 | some d,some e,some r=>match g d with
   | none=>cond (D.has e && Nat.beq r.len (D.size e) && Nat.beq parts.length len && (Bi D e).isSome && Nat.ble (len * D.size e) 16777216) (match VX g r 0 parts with
     | some xs=>.ok (.sl .e d) [(d,some (.ar e r xs))]
     | none=>.bad) .bad
   | some _=>.bad
 | _,_,_=>.bad
theorem Hi (hg:Good P D) {g:XG} {o:Oper} {st:St} (ha:Ad g st.s) {t:TypeId} {len:Nat} {ops:Array (Nat × Operand)} {parts:List (Nat × X)} {rw? : Option Row} (hop:o.op=.buildSlice t len ops)
   (hp:(ops.toList.map fun p=>(p.1,ev AM st.t p.2))=parts.map fun p=>(p.1,p.2.enc)):Au P o st (Er D g rw? o.dst t len parts):=by
 unfold Er
 split
 · rename_i d e r hd he
   split
   · rename_i hn
     refine AB (fun hc=>?_) (fun _=>trivial)
     simp only [Bool.and_eq_true] at hc
     obtain ⟨⟨⟨⟨h1,h2⟩,h3⟩,h4⟩,h5⟩:=hc
     split
     · rename_i xs hxs
       obtain ⟨z,hz⟩:=Option.isSome_iff_exists.1 h4
       have hlen:r.len=D.size e:=Nat.eq_of_beq_eq_true h2
       obtain ⟨rows,k1,k2,k3⟩:=Sm ha hlen hxs (Nat.eq_of_beq_eq_true h3) hz
       have:=ZZ (st:=st) (d:=d) hg hop (Ag he) h1 (ha.no d hn) (by rw [hp]; exact k1) h5
       have:=this.Eg (n:=d) (rows':=xs.map r.en) (AA _ _ _) (by simp [k2]) k3
       show CD P AM o st (.sl .e d) (Ae st.s d (some (some (.ar e r.len (xs.map r.en)))))
       have hu:∀ (y z:Option (Option O)),Ae (Ae st.s d y) d z=Ae st.s d z:=by
         intro y z; funext m; by_cases hm:m=d
         · subst hm; simp [AA]
         · simp [AJ _ _ hm]
       rw [hu] at this
       rw [hlen]; exact this
     · trivial
   · trivial
 · trivial
def Me:Operand->Operand->Bool
 | .tmp i,.tmp j=>Nat.beq i j
 | .const (.int k a),.const (.int k' b)=>decide (k=k' /\ a=b)
 | _,_=>false
def GR (D:Ah) (g:XG) (rw? : Option Row) (dst:Option Nat) (t:TypeId) (ox oy:Operand) (x:X):Out :=
 match dst,Bt (D.AW t),rw? with
 | some d,some e,some r=>match g d,x with
   | none,.i _ n=>match D.zero e with
     | some z=>match r.Az (z.cells.toList.map Bj) with
       | some a=>cond (Me ox oy && D.has e && (Bi D e).isSome && Nat.beq r.len (D.size e)) (.Bl (decide (0<=n/\n<=9223372036854775807/\D.bytes e * n.toNat<=281474976710656)) (.sl .e d) [(d,some (.ar e r (List.replicate n.toNat a)))]) .bad
       | none=>.bad
     | none=>.bad
   | _,_=>.bad
 | _,_,_=>.bad
omit [Mo] in
theorem NX {ox oy:Operand}(h:Me ox oy=true){st:St}{k:IntKind}{n:Int}(hx:ev AM st.t ox=vI k n):ev AM st.t oy=vI k n:=by
 unfold Me at h
 split at h
 · rw [<- Nat.eq_of_beq_eq_true h]; exact hx
 · rename_i k1 a k2 b
   have hab:=of_decide_eq_true h
   rw [<- hab.1,<- hab.2]; exact hx
 · cases h
theorem JK (hg : Good P D) {g:XG} {o:Oper} {st:St} (ha:Ad g st.s) {t:TypeId} {ox oy:Operand} {x:X} {rw? : Option Row} (hop:o.op=.makeSlice t ox oy) (hx:ev AM st.t ox=x.enc) :
   Au P o st (GR D g rw? o.dst t ox oy x):=by
 unfold GR
 split
 · rename_i d e r hd he
   split
   · rename_i k n hn
     split
     · rename_i z hz
       split
       · rename_i a hra
         refine AB (fun hc=>?_) (fun _=>trivial)
         simp only [Bool.and_eq_true] at hc
         obtain ⟨⟨⟨h1,h2⟩,h3⟩,h4⟩:=hc
         intro hq
         obtain ⟨q1,q2,q3⟩:=of_decide_eq_true hq
         obtain ⟨row,hrow⟩:=Option.isSome_iff_exists.1 h3
         obtain ⟨de,hde⟩:=BH h2
         have hlen:r.len=D.size e:=Nat.eq_of_beq_eq_true h4
         have:=NS (st:=st) (d:=d) hg hop (Ag he) hde (ha.no d hn) hx (NX h1 hx) hrow q1 q2 q3
         have hw:BK row (r.en a):=by
           obtain ⟨ts,hts,hw⟩:=r.BS _ a hra
           unfold Bi at hrow
           rw [hz] at hrow
           simp only at hrow
           split at hrow
           · rename_i hb
             cases hrow
             simp only [Bool.and_eq_true] at hb
             have hpl:z.cells.toList.all plain=true:=by simpa using hb.1.1
             have h5:(z.cells.toList.map Bj).map X.enc=(z.cells.toList.map T.sc).map V.t:=by
               have:=Cb hpl
               unfold Ef at this
               rw [if_pos hpl] at this
               simp only [Option.some.injEq] at this
               rw [<- this,List.map_map]; rfl
             rw [h5,EK] at hts
             cases hts; exact hw
           · cases hrow
         have:=this.Eg (n:=d) (rows':=(List.replicate n.toNat a).map r.en) (AA _ _ _) (by simp) (fun i r' hi=>by
           rw [List.map_replicate] at hi
           obtain ⟨hi1,hi2⟩:=List.getElem?_eq_some_iff.1 hi
           rw [List.getElem_replicate] at hi2
           refine ⟨row,?_,hi2 ▸ hw⟩
           rw [List.getElem?_replicate,if_pos (by simpa using hi1)])
         show CD P AM o st (.sl .e d) (Ae st.s d (some (some (.ar e r.len ((List.replicate n.toNat a).map r.en)))))
         have hu:∀ (y z:Option (Option O)),Ae (Ae st.s d y) d z=Ae st.s d z:=by
           intro y z; funext m; by_cases hm:m=d
           · subst hm; simp [AA]
           · simp [AJ _ _ hm]
         rw [hu] at this
         rw [hlen]; exact this
       · trivial
     · trivial
   · trivial
 · trivial
def IG (D:Ah) (g:XG) (src dst:TypeId) (x:X):Out :=
 match Bt (D.AW src) with
 | some e=>cond (Np (D.AW e) && DR (D.AW dst)) (cond (Ct x) (.ok (.s (strOfNums [])) []) (match Wo g x with
   | some ⟨r,xs⟩=>match Row.eq? r AU with
     | some h=>.ok (.s (strOfNums (h.down ▸ xs:List AU.den))) []
     | none=>.bad
   | none=>.bad)) .bad
 | none=>.bad
theorem KL (hg:Good P D) {g:XG} {o:Oper} {st:St} (ha:Ad g st.s) {src dst:TypeId} {ox:Operand} {x:X} (hop:o.op=.convert src dst ox) (hx:ev AM st.t ox=x.enc):Au P o st (IG D g src dst x):=by
 unfold IG
 split
 · rename_i e he
   refine AB (fun hc=>?_) (fun _=>trivial)
   simp only [Bool.and_eq_true] at hc
   refine AB (fun hn=>?_) (fun _=>?_)
   · obtain rfl:=Cq hn
     exact Ia (xs:=[]) hg hop (Ag he) (Ed hc.1) (BP hc.2) (by rw [hx]; simp [Hm,X.enc,plain])
   · split
     · rename_i r xs hs
       split
       · rename_i h _
         obtain ⟨h⟩:=h
         subst h
         exact Ia (xs:=xs) hg hop (Ag he) (Ed hc.1) (BP hc.2) (by rw [hx]; exact MZ ha hs)
       · trivial
     · trivial
 · trivial
def Hl (D:Ah)(g:XG)(dst:Option Nat)(ts:TypeId)(e:Nat)(s:ByteArray):Out :=
 match dst with
 | some d=>match g d with
   | none=>cond (DR (D.AW ts) && Np (D.AW e)) (.Bl (decide (s.size<=9223372036854775807)) (.sl .e d) [(d,some (.ar (e+1000000) AU (Eu s)))]) .bad
   | some _=>.bad
 | none=>.bad
theorem PI (hg:Good P D) {o:Oper} {st:St} {x:Operand} {ts td e d:Nat} {s:ByteArray} (hop:o.op=.convert ts td x) (hs:D.AW ts=some .string) (hd':D.AW td=some (.slice e)) (he:D.AW e=some (.int .u8)) (hd:st.s d=none) (hx:ev AM st.t x=vS s) (hm:s.size<=9223372036854775807) :
   CD P AM o st (.sl .e d) (Ae st.s d (some (some (.ar (e+1000000) 1 ((Ab s).map AU.en))))):=by
 intro B F loc a w hR
 have hS:=hR.s
 have hlt:=hg.lt e _ he
 have hv:a.eval x=.string s:=by
   have:=AV hR x
   rw [hx] at this
   exact AP this
 have hrun:=Lib.run_convert_string_bytes (P:=P) w ts td e s (hg.AW ts _ hs).1 (hg.AW td _ hd').1 (hg.AW e _ he).1
 have hge:=grownCap_ge w s.size 0 e
 have hcm:=grownCap_le_maxLen w s.size 0 e (Nat.le_trans hm LB)
 have hcs:(Lib.bytesCells w e s).size=grownCap w s.size 0 e:=by
   unfold Lib.bytesCells
   rw [Array.size_append,Array.size_map,Array.size_replicate]
   show s.data.size+(grownCap w s.size 0 e - s.size)=_
   have:s.data.size=s.size:=rfl
   omega
 have hsl:(Lib.strCells s).length=s.size:=by unfold Lib.strCells; rw [List.length_map]; rfl
 have htk:(Lib.bytesCells w e s).toList.take (s.size * 1)=Lib.strCells s:=by
   unfold Lib.bytesCells
   rw [Array.toList_append,Array.toList_map,Nat.mul_one]
   show List.take s.size (Lib.strCells s ++ _)=_
   rw [<- hsl,List.take_left]
 have hll:((Ab s).map AU.en).length=s.size:=(List.length_map _).trans (CX s)
 have hrl:∀ r ∈ (Ab s).map AU.en,r.length=1:=fun r hr=>by
   obtain ⟨n,_,rfl⟩:=List.mem_map.1 hr; rfl
 have hgb:w.grownBy (Lib.bytesWorld w e s) none:=⟨rfl,rfl,rfl,by rw [Lib.bytesWorld_size]; omega,fun k hk _=>Lib.bytesWorld_at_old w e s k hk⟩
 obtain ⟨hS', hk,hsm⟩:=hS.replace (oo:=none) (row:=none) (d:=d) (x:=.ar (e+1000000) 1 ((Ab s).map AU.en)) (l:=.arr (some w.heap.size) s.size (grownCap w s.size 0 e) 1) hd (by simp) (by simp) hgb (by simp) (fun g hg=>by
   cases hg; exact ⟨.inr (Nat.le_refl _),by rw [Lib.bytesWorld_size]; omega⟩) (fun loc' _ hk=>by
   have:=BZ.ar (w:=Lib.bytesWorld w e s) (F:=F) (loc:=loc') (e+1000000) 1 ((Ab s).map AU.en) (some w.heap.size) (grownCap w s.size 0 e) (Lib.strCells s) (by decide) hrl (by
     rw [hll]
     exact FJ (by rw [hsl,Nat.mul_one]) (Lib.bytesWorld_at_new w e s) (.inr ⟨by omega,by omega,fun _=>by rw [hcs]; omega⟩) hge hcm (by rw [hcs,Nat.mul_one]) htk) (Lib.strCells_oneCell s) (fun i r hi j x hj=>by
     obtain ⟨rfl,u,hu,hrel⟩:=Ik (w:=Lib.bytesWorld w e s) (F:=F) hi hj
     exact ⟨u,by rw [Nat.mul_one,Nat.add_zero]; exact hu,hrel⟩)
   rw [hll] at this
   exact this) (by simp [Lib.bytesWorld,World.freeze])
 refine ⟨F,_,Lib.bytesWorld w e s,.slice (some ⟨w.heap.size,0,none⟩) s.size (grownCap w s.size 0 e),_,?_,.inl rfl,hS', hk,hsm,?_⟩
 · simp only [execOp,hop]
   rw [hv]
   simp [hrun]
 · exact AF.sl .e d (some w.heap.size) _ _ 1 (AA _ _ _) (fun _=>rfl) (fun h=>by cases h) (by simp)
theorem KW (hg:Good P D) {g:XG} {o:Oper} {st:St} (ha:Ad g st.s) {ts td e:TypeId} {ox:Operand} {s:ByteArray} (hop:o.op=.convert ts td ox) (hd':D.AW td=some (.slice e)) (hx:ev AM st.t ox=(X.s s).enc):Au P o st (Hl D g o.dst ts e s):=by
 unfold Hl
 split
 · rename_i d hd
   split
   · rename_i hn
     refine AB (fun hc=>?_) (fun _=>trivial)
     simp only [Bool.and_eq_true] at hc
     intro hq
     exact PI hg hop (BP hc.1) hd' (Ed hc.2) (ha.no d hn) hx (of_decide_eq_true hq)
   · trivial
 · trivial
theorem AK.SZ {B:BB} {w:World} {F:Nat->Prop} {loc:Nat->Option Loc} {s:AE} (hS:AK AM B w F loc s) {o e sz g cap off:Nat} (he1:e < 1000000) {rows new:List (List T)} {cells news:List Value} {cur:Array Value}
   (hlo:loc o=some (.arr (some g) rows.length cap sz)) (hz:0 < sz) (hszz:∀ r ∈ rows,r.length=sz) (hg:w.heap[g]? = some (.cells cur e (0,0))) (hnc:rows.length<=cap) (hcm:cap<=maxLen) (hcs:cur.size=cap * sz)
   (htk:cur.toList.take (rows.length * sz)=cells) (h1c:∀ u ∈ cells,u.oneCell' = true) (hrr:∀ (i:Nat) (r:List T),rows[i]? = some r->∀ (j:Nat) (x:T),r[j]? = some x->∃ v,cells[i * sz+j]? = some v/\BG w F x v)
   (hoff:off+new.length<=rows.length) (hnl:∀ r ∈ new,r.length=sz) (hl:news.length=new.length * sz) (h1:∀ u ∈ news,u.oneCell' = true)
   (hnr:∀ (i:Nat) (r:List T),new[i]? = some r->∀ (j:Nat) (x:T),r[j]? = some x->∃ v,news[i * sz+j]? = some v/\BG w F x v) :
   AK AM B (w.setRow g (cur.toList.take (off * sz) ++ news ++ cur.toList.drop (off * sz+news.length)).toArray) F loc (Ae s o (some (some (.ar e sz (rows.take off ++ new ++ rows.drop (off+new.length)))))) /\
     Kept w F (w.setRow g (cur.toList.take (off * sz) ++ news ++ cur.toList.drop (off * sz+news.length)).toArray) F:=by
 have hcap:rows.length * sz<=cur.size:=by rw [hcs]; exact Nat.mul_le_mul_right _ hnc
 have hin:off * sz+news.length<=rows.length * sz:=by rw [hl,<- Nat.add_mul]; exact Nat.mul_le_mul_right _ hoff
 have hlens:(rows.take off ++ new ++ rows.drop (off+new.length)).length=rows.length:=by simp; omega
 have hfull:(cur.toList.take (off * sz) ++ news ++ cur.toList.drop (off * sz+news.length)).length=cur.size:=by simp; omega
 have hnew:∀ k,k < rows.length * sz->(cur.toList.take (off * sz) ++ news ++ cur.toList.drop (off * sz+news.length))[k]? = if off * sz<=k/\k < off * sz+news.length then news[k - off * sz]? else cells[k]? := by
   intro k hk
   have ht2:(cur.toList.take (off * sz)).length=off * sz:=by rw [List.length_take]; simp; omega
   have hck:cells[k]? = cur.toList[k]? := by rw [<- htk,List.getElem?_take,if_pos hk]
   rw [List.append_assoc,List.getElem?_append,ht2]
   by_cases c1:k < off * sz
   · rw [if_pos c1,if_neg (by omega),List.getElem?_take,if_pos c1,hck]
   · rw [if_neg c1,List.getElem?_append]
     by_cases c2:k < off * sz+news.length
     · rw [if_pos (by omega),if_pos (by omega)]
     · rw [if_neg (by omega),if_neg (by omega),List.getElem?_drop,hck]; congr 1; omega
 have hk:Kept w F (w.setRow g (cur.toList.take (off * sz) ++ news ++ cur.toList.drop (off * sz+news.length)).toArray) F:=fun k hF=>⟨hF,setRow_other w g k _ (fun e=>(hS.own o _ g hlo rfl).2.1 (e ▸ hF))⟩
 refine hS.turn hlo rfl CU.1 rfl rfl rfl CU.2 ?_ (fun m h=>by
   obtain ⟨l,h1,h2⟩:=hS.Cg o _ h
   rw [hlo] at h1
   cases h1; cases h2)
 rw [<- hlens]
 have hrl2:∀ r ∈ rows.take off ++ new ++ rows.drop (off+new.length),r.length=sz:=by
   intro r hr
   rcases List.mem_append.1 hr with h | h
   · rcases List.mem_append.1 h with h | h
     · exact hszz r (List.mem_of_mem_take h)
     · exact hnl r h
   · exact hszz r (List.mem_of_mem_drop h)
 refine .ar e sz _ (some g) cap ((cur.toList.take (off * sz) ++ news ++ cur.toList.drop (off * sz+news.length)).take (rows.length * sz)) hz hrl2 ?_ ?_ ?_
 · rw [hlens]
   exact Bx ⟨by rw [List.length_take,hfull]; omega,.inr ⟨g,cap,_,rfl,Nat.zero_le _,setRow_heap w g cur _ e (0,0) hg,hnc,hcm,by simpa [hcs] using hfull,rfl⟩⟩ he1
 · intro u hu
   obtain ⟨k,hk'⟩:=List.getElem?_of_mem hu
   rw [List.getElem?_take] at hk'
   split at hk'
   · rename_i hlt
     rw [hnew k hlt] at hk'
     split at hk'
     · exact h1 u (List.mem_of_getElem? hk')
     · exact h1c u (List.mem_of_getElem? hk')
   · cases hk'
 · intro i r hi j x hj
   have hil:i < rows.length:=by have:=(List.getElem?_eq_some_iff.1 hi).1; omega
   have hjl:j < sz:=by have:=(List.getElem?_eq_some_iff.1 hj).1; have:=BX hrl2 hi; omega
   have key:=Dr hil hjl
   rw [List.getElem?_take,if_pos key,hnew _ key]
   have ht1:(rows.take off).length=off:=by rw [List.length_take]; omega
   rw [List.append_assoc,List.getElem?_append,ht1] at hi
   split at hi
   · rename_i hlt
     have h2:=Dr hlt hjl
     rw [if_neg (by omega)]
     rw [List.getElem?_take,if_pos hlt] at hi
     obtain ⟨u,hu,hrel⟩:=hrr i r hi j x hj
     exact ⟨u,hu,hrel.mono hk⟩
   · rename_i hge
     rw [List.getElem?_append] at hi
     have h3:off * sz<=i * sz:=Nat.mul_le_mul_right _ (by omega)
     split at hi
     · rename_i hlt
       have h2:=Dr hlt hjl
       rw [Nat.sub_mul] at h2
       rw [if_pos (by rw [hl]; omega)]
       obtain ⟨u,hu,hrel⟩:=hnr _ r hi j x hj
       refine ⟨u,?_,hrel.mono hk⟩
       rw [<- hu,Nat.sub_mul]
       congr 1
       omega
     · rename_i hge2
       have h4:(off+new.length) * sz<=i * sz:=Nat.mul_le_mul_right _ (by omega)
       rw [Nat.add_mul] at h4
       rw [if_neg (by rw [hl]; omega)]
       rw [List.getElem?_drop,show off+new.length+(i - off - new.length)=i by omega] at hi
       obtain ⟨u,hu,hrel⟩:=hrr i r hi j x hj
       exact ⟨u,hu,hrel.mono hk⟩
omit [Mo] in
theorem LN {z:Array Value}{n i j:Nat}(hj:j < z.size)(hi:i < n):(Builtin.zeroCells z n).toList[i * z.size+j]? = z[j]? := by
 have h1:=Dr hi hj
 have h2:=NV (i:=i) hj
 unfold Builtin.zeroCells
 rw [Array.getElem?_toList,Array.getElem?_map,Array.getElem?_range,if_pos h1,Option.map_some,h2.2,getElem!_pos z j hj,Array.getElem?_eq_getElem hj]
omit [Mo] in
theorem Jy {ρ:Operand->Value}{o:Oper}{x:Operand}{ts:Array TypeId}{z:Value}{w w':World}(ho:o.op=.call ⟨.builtin .clear,#[x],ts⟩)(h:(Builtin.clear_ ts o.type #[ρ x]).run P w=.ok z w'):(execOp ρ o).run P w=.ok (.value z) w':=by
 simp [execOp,ho,resolve,invoke,builtin,h]
omit [Mo] in
theorem FQ {w:World}{F:Nat->Prop}{loc:Nat->Option Loc}:AF w F loc vU (.tuple #[]):=.tp [] [] (fun _=>.nilIface) rfl (fun j hj=>absurd hj (by simp)) (fun j x hj=>by simp at hj)
theorem OS (hg:Good P D) {o:Oper} {st:St} {x:Operand} {t e e' ob off len:Nat} {rows:List (List T)} {row:List T} (ho:o.op=.call ⟨.builtin .clear,#[x],#[t]⟩) (hu:D.AW t=some (.slice e)) (hd:D.has e=true) (hz:Bi D e=some row)
   (he':e' < 1000000) (hob:get st.s ob=some (.ar e' (D.size e) rows)) (hx:(∃ nl,ev AM st.t x=.sl nl ob/\off=0/\len=rows.length)\/ev AM st.t x=.sw ob off len) :
   CD P AM o st vU (Ae st.s ob (some (some (.ar e' (D.size e) (rows.take off ++ List.replicate len row ++ rows.drop (off+len)))))):=by
 intro B F loc a w hR
 have hS:=hR.s
 obtain ⟨de,hde⟩:=BH hd
 obtain ⟨z,hze,hzs,hp,hrl,hrr0⟩:=EU (w:=w) (F:=F) hz
 obtain ⟨hu', _⟩:=hg.AW t _ hu
 obtain ⟨_,i,hi,hsz,hbt,hzi⟩:=hg.AW e _ hde
 obtain ⟨b,cap,cells,hl,_,hszz,hownR,h1c,hrr⟩:=hS.row hob
 have hown:=Fe hownR he'
 have hob':st.s ob=some (some (.ar e' (D.size e) rows)):=get_some hob
 have hv:∃ ad c,a.eval x=.slice ad len c/\off+len<=rows.length/\(0 < len->∃ g,b=some g/\ad=some ⟨g,off * D.size e,none⟩):=by
   have hr:=AV hR x
   rcases hx with ⟨nl,hx,rfl,rfl⟩ | hx
   · rw [hx] at hr
     obtain ⟨h1,_,_,h4⟩:=CY hr hl
     refine ⟨_,_,h1,by omega,fun h=>?_⟩
     cases b with
     | none=>have:=(h4 rfl).1; omega
     | some g=>exact ⟨g,rfl,by simp⟩
   · rw [hx] at hr
     obtain ⟨ad,h1,h2,h3,_,_⟩:=EP hr hl
     exact ⟨ad,_,h1,h2,h3⟩
 obtain ⟨ad,c,hv,hle,hpos⟩:=hv
 cases len with
 | zero =>
   have e0:rows.take off ++ List.replicate 0 row ++ rows.drop (off+0)=rows:=by simp
   have e1:Ae st.s ob (some (some (.ar e' (D.size e) rows)))=st.s:=by
     funext k
     by_cases hk:k=ob
     · subst hk; rw [AA,hob']
     · rw [AJ _ _ hk]
   rw [e0,e1]
   refine ⟨F,loc,w,.tuple #[],_,Jy ho ?_,.inl rfl,hS,Kept.refl _ _,Ak.refl _,FQ⟩
   rw [hv]
   cases ad <;> simp [Builtin.clear_,run_underlying hu']
 | succ n =>
   obtain ⟨g,rfl,rfl⟩:=hpos (by omega)
   obtain ⟨cur,hgc,hnc,hcm,hcs,htk⟩:∃ cur,w.heap[g]? = some (.cells cur e' (0,0))/\rows.length<=cap/\cap<=maxLen/\cur.size=cap * D.size e/\cur.toList.take (rows.length * D.size e)=cells:=by
     rcases hown.2 with ⟨h,_⟩ | ⟨g', cap', cur,hv,_,h2,h3,h4,h5,h6⟩
     · cases h
     · cases hv; exact ⟨cur,h2,h3,h4,h5,h6⟩
   have hnews:(Builtin.zeroCells z.cells (n+1)).toList.length=(n+1) * D.size e:=by rw [Array.length_toList,size_zeroCells,hzs]
   have hget:∀ i j,i < n+1->j < D.size e->(Builtin.zeroCells z.cells (n+1)).toList[i * D.size e+j]? = z.cells[j]? := fun i j hi hj=>by
     have:=LN (z:=z.cells) (n:=n+1) (i:=i) (j:=j) (by omega) hi
     rwa [hzs] at this
   have hone:∀ u ∈ (Builtin.zeroCells z.cells (n+1)).toList,u.oneCell' = true:=by
     intro u hu
     obtain ⟨q,hq⟩:=List.getElem?_of_mem hu
     have hql:=(List.getElem?_eq_some_iff.1 hq).1
     rw [hnews] at hql
     have hi':q / D.size e < n+1:=(Nat.div_lt_iff_lt_mul hp).2 hql
     have hj':q % D.size e < D.size e:=Nat.mod_lt _ hp
     have:=hget _ _ hi' hj'
     rw [Nat.mul_comm,Nat.div_add_mod,hq] at this
     obtain ⟨v,hv1,hv2,_⟩:=hrr0 (q % D.size e) row[q % D.size e] (List.getElem?_eq_getElem (by omega))
     rw [hv1] at this
     cases this
     exact hv2
   have hfit:off * D.size e+(Builtin.zeroCells z.cells (n+1)).toList.length<=cur.size:=by
     rw [hnews,<- Nat.add_mul,hcs]
     exact Nat.mul_le_mul_right _ (by omega)
   have hst:=run_storeCells_at P g (off * D.size e) e' (Builtin.zeroCells z.cells (n+1)).toList 0 cur w hgc (by simpa using hfit) hone
   simp only [Nat.add_zero] at hst
   obtain ⟨h1,hk⟩:=hS.SZ (o:=ob) (e:=e') (new:=List.replicate (n+1) row) (off:=off) he' hl hp hszz hgc hnc hcm hcs htk h1c hrr (by rw [List.length_replicate]; exact hle) (fun r hr=>by rw [(List.mem_replicate.1 hr).2]; exact hrl) (by rw [hnews,List.length_replicate]) hone
     (fun i r hi j x hj=>by
       obtain ⟨hi1,hi2⟩:=List.getElem?_eq_some_iff.1 hi
       rw [List.getElem_replicate] at hi2
       subst hi2
       rw [List.length_replicate] at hi1
       obtain ⟨v,hv1,_,hv3⟩:=hrr0 j x hj
       exact ⟨v,by rw [hget i j hi1 (by have:=(List.getElem?_eq_some_iff.1 hj).1; omega)]; exact hv1,hv3⟩)
   rw [List.length_replicate] at h1
   refine ⟨F,loc,_,.tuple #[],_,Jy ho ?_,.inl rfl,h1,hk,Ak.refl _,FQ⟩
   rw [hv]
   have hzv:(zeroValue e).run P w=.ok z w:=by simp [zeroValue,typeInfo,hi,hzi.trans hze]
   simp [Builtin.clear_,run_underlying hu', hzv,hst]
def QG (D:Ah) (g:XG) (t:TypeId) (x:X):Out :=
 match Bt (D.AW t) with
 | some e=>match D.zero e with
   | some z=>match x with
     | .sl _ o=>match gx g o with
       | some (.ar e' r xs)=>match r.Az (z.cells.toList.map Bj) with
         | some a=>cond (D.has e && (Bi D e).isSome && Nat.beq r.len (D.size e) && Nat.blt e' 1000000) (.ok (.tp []) [(o,some (.ar e' r (List.replicate xs.length a)))]) .bad
         | none=>.bad
       | _=>.bad
     | .sw o off len=>match gx g o with
       | some (.ar e' r xs)=>match r.Az (z.cells.toList.map Bj) with
         | some a=>cond (D.has e && (Bi D e).isSome && Nat.beq r.len (D.size e) && Nat.blt e' 1000000) (.ok (.tp []) [(o,some (.ar e' r (xs.take off ++ List.replicate len a ++ xs.drop (off+len))))]) .bad
         | none=>.bad
       | _=>.bad
     | _=>.bad
   | none=>.bad
 | none=>.bad
omit [Mo] in
theorem Lm {e:Nat} {z:Value} {row:List T} {r:Row} {a:r.den} (hz:D.zero e=some z) (hrow:Bi D e=some row) (hra:r.Az (z.cells.toList.map Bj)=some a):BK row (r.en a):=by
 obtain ⟨ts,hts,hw⟩:=r.BS _ a hra
 unfold Bi at hrow
 rw [hz] at hrow
 simp only at hrow
 split at hrow
 · rename_i hb
   cases hrow
   simp only [Bool.and_eq_true] at hb
   have hpl:z.cells.toList.all plain=true:=by simpa using hb.1.1
   have h5:(z.cells.toList.map Bj).map X.enc=(z.cells.toList.map T.sc).map V.t:=by
     have:=Cb hpl
     unfold Ef at this
     rw [if_pos hpl] at this
     simp only [Option.some.injEq] at this
     rw [<- this,List.map_map]; rfl
   rw [h5,EK] at hts
   cases hts; exact hw
 · cases hrow
theorem Oc (hg : Good P D) {g:XG} {o:Oper} {st:St} (ha:Ad g st.s) {t:TypeId} {ox:Operand} {x:X} (hop:o.op=.call ⟨.builtin .clear,#[ox],#[t]⟩) (hx:ev AM st.t ox=x.enc):Au P o st (QG D g t x):=by
 unfold QG
 have hu:∀ (n:Nat) (y z:Option (Option O)),Ae (Ae st.s n y) n z=Ae st.s n z:=by
   intro n y z; funext m; by_cases hm:m=n
   · subst hm; simp [AA]
   · simp [AJ _ _ hm]
 split
 · rename_i e he
   split
   · rename_i z hz
     split
     · rename_i nl ob
       split
       · rename_i e' r xs hgo
         split
         · rename_i a hra
           refine AB (fun hc=>?_) (fun _=>trivial)
           simp only [Bool.and_eq_true] at hc
           obtain ⟨⟨⟨h1,h2⟩,h3⟩,h4⟩:=hc
           have h4':e' < 1000000:=by simpa using h4
           obtain ⟨row,hrow⟩:=Option.isSome_iff_exists.1 h2
           have hlen:r.len=D.size e:=Nat.eq_of_beq_eq_true h3
           have hob:get st.s ob=some (.ar e' (D.size e) (xs.map r.en)):=by rw [<- hlen]; exact ha.get hgo
           have:=OS (off:=0) (len:=(xs.map r.en).length) hg hop (Ag he) h1 hrow h4' hob (.inl ⟨nl,hx,rfl,rfl⟩)
           have:=this.Eg (n:=ob) (rows':=(List.replicate xs.length a).map r.en) (AA _ _ _) (by simp) (fun i r' hi=>by
             rw [List.map_replicate] at hi
             obtain ⟨hi1,hi2⟩:=List.getElem?_eq_some_iff.1 hi
             rw [List.getElem_replicate] at hi2
             refine ⟨row,?_,hi2 ▸ Lm hz hrow hra⟩
             rw [List.take_zero,List.nil_append,Nat.zero_add,List.drop_length,List.append_nil,List.getElem?_replicate,if_pos (by simpa using hi1)])
           rw [hu,<- hlen] at this
           exact this
         · trivial
       · trivial
     · rename_i ob off len
       split
       · rename_i e' r xs hgo
         split
         · rename_i a hra
           refine AB (fun hc=>?_) (fun _=>trivial)
           simp only [Bool.and_eq_true] at hc
           obtain ⟨⟨⟨h1,h2⟩,h3⟩,h4⟩:=hc
           have h4':e' < 1000000:=by simpa using h4
           obtain ⟨row,hrow⟩:=Option.isSome_iff_exists.1 h2
           have hlen:r.len=D.size e:=Nat.eq_of_beq_eq_true h3
           have hob:get st.s ob=some (.ar e' (D.size e) (xs.map r.en)):=by rw [<- hlen]; exact ha.get hgo
           have:=OS (off:=off) (len:=len) hg hop (Ag he) h1 hrow h4' hob (.inr hx)
           have:=this.Eg (n:=ob) (rows':=(xs.take off ++ List.replicate len a ++ xs.drop (off+len)).map r.en) (AA _ _ _) (by simp) (fun i r' hi=>by
             rw [List.map_append,List.map_append,List.map_take,List.map_drop,List.map_replicate] at hi
             rw [List.append_assoc,List.getElem?_append] at hi ⊢
             split at hi
             · rename_i hlt
               rw [if_pos hlt]
               exact ⟨r', hi,BK.refl _⟩
             · rename_i hge
               rw [if_neg hge]
               rw [List.getElem?_append] at hi ⊢
               rw [List.length_replicate] at hi ⊢
               split at hi
               · rename_i hlt
                 rw [if_pos hlt]
                 rw [List.getElem?_replicate,if_pos hlt] at hi ⊢
                 cases hi
                 exact ⟨row,rfl,Lm hz hrow hra⟩
               · rename_i hge2
                 rw [if_neg hge2]
                 exact ⟨r', hi,BK.refl _⟩)
           rw [hu,<- hlen] at this
           exact this
         · trivial
       · trivial
     · trivial
   · trivial
 · trivial
def VI (q:Bool)(a b:X):X :=
 match a,b with
 | .b p,.b r=>.b (cond q p r)
 | a,b=>cond q a b
omit [Mo] in
theorem TG (q:Bool)(a b:X):(VI q a b).enc=cond q a.enc b.enc:=by
 unfold VI
 split
 · cases q <;> rfl
 · cases q <;> rfl
def UO (D:Ah) (g:XG) (op:BinOp) (t:TypeId) (x y:X):Out :=
 cond (Ct y && (Bt (D.AW t)).isSome) (match op with
   | .eql=>(match x with
     | .fz .u _ xs=>.JR xs.isEmpty (.b true) (.b false)
     | .sl .u o=>(match gx g o with | some (.ar _ _ xs)=>.JR xs.isEmpty (.b true) (.b false) | _=>.bad)
     | .sw o _ len=>cond (Mb (gx g o)) (.JR (Nat.beq len 0) (.b true) (.b false)) .bad
     | _=>.bad)
   | .neq=>(match x with
     | .fz .u _ xs=>.JR xs.isEmpty (.b false) (.b true)
     | .sl .u o=>(match gx g o with | some (.ar _ _ xs)=>.JR xs.isEmpty (.b false) (.b true) | _=>.bad)
     | .sw o _ len=>cond (Mb (gx g o)) (.JR (Nat.beq len 0) (.b false) (.b true)) .bad
     | _=>.bad)
   | _=>.bad) .bad
omit [Mo] in
theorem Tw {t e:TypeId}{w:World}{ox oy:Operand}{ad:Option Addr}{len cap:Nat}(hu:P.underlying t=some (.slice e)) :
   ((do eqGuard .neq t ox oy (.slice ad len cap) (.slice none 0 0); binOp .neq t (.slice ad len cap) (.slice none 0 0):Sem Value)).run P w=.ok (.bool (!isNil (.slice ad len cap))) w:=by
 have:=Hv (w:=w) (P:=P) (t:=t) (x:=.slice ad len cap) (c:=.slice none 0 0) hu rfl
 have hgd:(eqGuard .neq t ox oy (.slice ad len cap) (.slice none 0 0)).run P w=.ok () w:=Dc (by simp) (by simp)
 rw [Sem.run_bind,hgd]
 simp only [Result.andThen_ok,binOp]
 rw [Sem.run_bind,this]; rfl
theorem FX (hg:Good P D) {o:Oper} {st:St} {op:BinOp} {t q:TypeId} {ox oy:Operand} {x:V} {c p:Bool} (hop:o.op=.binOp op t ox oy q) (hp:(op=.eql/\p=true)\/(op=.neq/\p=false)) (hs:(Bt (D.AW t)).isSome=true)
   (hx:ev AM st.t ox=x) (hy:ev AM st.t oy=.t (.sc (.slice none 0 0)))
   (hsem:∀ (B:BB) (F:Nat->Prop) (loc:Nat->Option Loc) (w:World) (tmps:Array Value),Rel AM B F loc st tmps w->∀ v,AF w F loc x v->(∃ a n k,v=.slice a n k)/\(isNil v=true->c=true)):fQ P o st c (vB p) (vB !p):=by
 intro B F loc a w hR
 obtain ⟨e,he⟩:=Option.isSome_iff_exists.1 hs
 have hu:=(hg.AW t _ (Ag he)).1
 have hvx:=AV hR ox
 have hvy:=AV hR oy
 rw [hx] at hvx
 rw [hy] at hvy
 obtain ⟨⟨ad,n,k,hv⟩,hn⟩:=hsem B F loc w _ hR _ hvx
 have hv2:=AP hvy
 have hb:∀ b,AF w F loc (vB b) (.bool b):=fun b=>.t _ _ (.sc _ rfl)
 rcases hp with ⟨rfl,rfl⟩ | ⟨rfl,rfl⟩
 · refine ⟨.bool (isNil (.slice ad n k)),?_,?_⟩
   · simp only [execOp,hop]
     rw [hv,hv2]
     have h:=Th (w:=w) (ox:=ox) (oy:=oy) (ad:=ad) (len:=n) (cap:=k) hu
     rw [Sem.run_bind,h]
     rfl
   · cases hnil:isNil (.slice ad n k) with
     | true=>exact .inl ⟨hn (by rw [hv]; exact hnil),hb _⟩
     | false=>exact .inr (hb _)
 · refine ⟨.bool (!isNil (.slice ad n k)),?_,?_⟩
   · simp only [execOp,hop]
     rw [hv,hv2]
     have h:=Tw (w:=w) (ox:=ox) (oy:=oy) (ad:=ad) (len:=n) (cap:=k) hu
     rw [Sem.run_bind,h]
     rfl
   · cases hnil:isNil (.slice ad n k) with
     | true=>exact .inl ⟨hn (by rw [hv]; exact hnil),hb _⟩
     | false=>exact .inr (hb _)
theorem QO (hg:Good P D) {g:XG} {o:Oper} {st:St} (ha:Ad g st.s) {op:BinOp} {t q:TypeId} {ox oy:Operand} {x y:X} (hop:o.op=.binOp op t ox oy q) (hx:ev AM st.t ox=x.enc) (hy:ev AM st.t oy=y.enc) :
   Au P o st (UO D g op t x y):=by
 unfold UO
 refine AB (fun hc=>?_) (fun _=>trivial)
 simp only [Bool.and_eq_true] at hc
 obtain rfl:=Cq hc.1
 have hy':ev AM st.t oy=.t (.sc (.slice none 0 0)):=by rw [hy]; simp [X.enc,plain]
 have fz:∀ {r:Row} {xs:List r.den},∀ (B:BB) (F:Nat->Prop) (loc:Nat->Option Loc) (w:World) (tmps:Array Value),Rel AM B F loc st tmps w->∀ v,AF w F loc (X.enc (.fz .u r xs)) v->(∃ a n k,v=.slice a n k)/\(isNil v=true->xs.isEmpty=true):=by
   intro r xs B F loc w tmps _ v hv
   cases hv with
   | gone _ o _ hx _=>cases hx
   | t _ _ h =>
     obtain ⟨h1,_,_,h4⟩:=Dd h
     refine ⟨h1,fun hn=>?_⟩
     cases xs with
     | nil=>rfl
     | cons x xs=>rw [h4 (by simp)] at hn; cases hn
 have sl:∀ {n:Nat} {e:TypeId} {r:Row} {xs:List r.den},gx g n=some (.ar e r xs)->∀ (B:BB) (F:Nat->Prop) (loc:Nat->Option Loc) (w:World) (tmps:Array Value),Rel AM B F loc st tmps w->∀ v,AF w F loc (X.enc (.sl .u n)) v->(∃ a n k,v=.slice a n k)/\(isNil v=true->xs.isEmpty=true):=by
   intro n e r xs hgx B F loc w tmps hR v hv
   obtain ⟨b,cap,cells,hl,_⟩:=hR.s.row (ha.get hgx)
   obtain ⟨rfl,_,_,h0⟩:=CY hv hl
   refine ⟨⟨_,_,_,rfl⟩,fun hn=>?_⟩
   cases b with
   | none=>have:=(h0 rfl).1; cases xs with | nil=>rfl | cons=>simp at this
   | some b=>cases hn
 have sw:∀ {n off len:Nat},Mb (gx g n)=true->∀ (B:BB) (F:Nat->Prop) (loc:Nat->Option Loc) (w:World) (tmps:Array Value),Rel AM B F loc st tmps w->∀ v,AF w F loc (X.enc (.sw n off len)) v->(∃ a n k,v=.slice a n k)/\(isNil v=true->Nat.beq len 0=true):=by
   intro n off len h B F loc w tmps hR v hv
   obtain ⟨e,sz,rows,hgx⟩:=FU ha h
   obtain ⟨b,cap,cells,hl,_⟩:=hR.s.row hgx
   obtain ⟨a,rfl,hle,h1,_⟩:=EP hv hl
   refine ⟨⟨_,_,_,rfl⟩,fun hn=>?_⟩
   cases len with
   | zero=>rfl
   | succ m =>
     obtain ⟨gg,_,rfl⟩:=h1 (by omega)
     cases hn
 split
 · split
   · exact FX hg hop (.inl ⟨rfl,rfl⟩) hc.2 hx hy' fz
   · split
     · rename_i hgx; exact FX hg hop (.inl ⟨rfl,rfl⟩) hc.2 hx hy' (sl hgx)
     · trivial
   · exact AB (fun h=>FX hg hop (.inl ⟨rfl,rfl⟩) hc.2 hx hy' (sw h)) (fun _=>trivial)
   · trivial
 · split
   · exact FX hg hop (.inr ⟨rfl,rfl⟩) hc.2 hx hy' fz
   · split
     · rename_i hgx; exact FX hg hop (.inr ⟨rfl,rfl⟩) hc.2 hx hy' (sl hgx)
     · trivial
   · exact AB (fun h=>FX hg hop (.inr ⟨rfl,rfl⟩) hc.2 hx hy' (sw h)) (fun _=>trivial)
   · trivial
 · trivial
def Qq (D:Ah)(xs ys:List X):List Field->Option Bool
 | []=>some true
 | f :: fs=>cond (f.name == "_") none (match D.AW f.type,xs[f.offset]?,ys[f.offset]? with
   | some (.int _),some (.i k a),some (.i k' b)=>if k=k' then (match Qq D xs ys fs with | some q=>some ((a == b) && q) | none=>none) else none
   | some .bool,some (.b a),some (.b b)=>(match Qq D xs ys fs with | some q=>some ((a == b) && q) | none=>none)
   | some .string,some (.s a),some (.s b)=>(match Qq D xs ys fs with | some q=>some ((a.toList == b.toList) && q) | none=>none)
   | _,_,_=>none)
def UZ:X->Bool | .ag _=>true | _=>false
def Yt (D:Ah)(op:BinOp)(t:TypeId)(x y:X):Out :=
 match D.AW t,x,y with
 | some (.struct fs),.ag xs,.ag ys=>cond (D.peq t) (match op,Qq D xs ys fs.toList with
   | .eql,some q=>okB q
   | .neq,some q=>okB (!q)
   | _,_=>.bad) .bad
 | _,_,_=>.bad
omit [Mo] in
theorem Di {w:World}{n:Nat}{xs ys:Array Value}{f:Field}{fs:List Field}{a b:Value}{c q:Bool}(hn:¬ f.name = "_")(ha:(part f.type xs f.offset).run P w=.ok a w)(hb:(part f.type ys f.offset).run P w=.ok b w)
   (hc:(Op.equalIn n f.type a b).run P w=.ok c w) (hq:(Op.eqFields n xs ys fs).run P w=.ok q w):(Op.eqFields n xs ys (f :: fs)).run P w=.ok (c && q) w:=by
 rw [Op.eqFields,if_pos hn]
 simp only [Sem.run_bind,ha,hb,hc,Result.andThen_ok]
 cases c
 · simp
 · simp [hq]
omit [Mo] in
theorem Gm (hg:Good P D) {w:World} {F:Nat->Prop} {loc:Nat->Option Loc} {n:Nat} {xs ys:List X} {vs ws:List Value} {val wal:Nat->Value}
   (hl:(xs.map X.enc).length=vs.length) (hv:∀ j,j < (xs.map X.enc).length->vs[j]? = some (val j)) (hr:∀ (j:Nat) (x:V),(xs.map X.enc)[j]? = some x->AF w F loc x (val j))
   (hl':(ys.map X.enc).length=ws.length) (hv':∀ j,j < (ys.map X.enc).length->ws[j]? = some (wal j)) (hr':∀ (j:Nat) (x:V),(ys.map X.enc)[j]? = some x->AF w F loc x (wal j)) :
   ∀ (fs:List Field) (q:Bool),Qq D xs ys fs=some q->(Op.eqFields (n+1) vs.toArray ws.toArray fs).run P w=.ok q w
 | [],q,h=>by cases h; rfl
 | f :: fs,q,h=>by
   unfold Qq at h
   cases hn:(f.name == "_") with
   | true=>rw [hn] at h; cases h
   | false =>
     rw [hn] at h
     simp only [cond_false] at h
     have hn':¬ f.name = "_" := by simpa using hn
     have go:∀ {d:TypeDesc} {x y:X} {v u:Value},D.AW f.type=some d->d.isRow=false->xs[f.offset]? = some x->ys[f.offset]? = some y->x.enc=.t (.sc v)->y.enc=.t (.sc u) ->
         (part f.type vs.toArray f.offset).run P w=.ok v w/\(part f.type ws.toArray f.offset).run P w=.ok u w:=by
       intro d x y v u hu hd hx hy ex ey
       constructor
       · obtain ⟨z,hz,hr2⟩:=Gn (F:=F) (loc:=loc) hg (t:=f.type) (cells:=xs.map X.enc) (off:=f.offset) (v:=x.enc) (by simp [EL,hu,hd,hx]) hl hv hr
         rw [ex] at hr2; rw [AP hr2] at hz; exact hz
       · obtain ⟨z,hz,hr2⟩:=Gn (F:=F) (loc:=loc) hg (t:=f.type) (cells:=ys.map X.enc) (off:=f.offset) (v:=y.enc) (by simp [EL,hu,hd,hy]) hl' hv' hr'
         rw [ey] at hr2; rw [AP hr2] at hz; exact hz
     split at h
     · rename_i k0 k a k' b hu hx hy
       split at h
       · rename_i hk
         subst hk
         split at h
         · rename_i q' hq
           cases h
           obtain ⟨h1,h2⟩:=go hu rfl hx hy rfl rfl
           exact Di hn' h1 h2 (run_equalIn_int w n f.type k k0 a b (hg.AW _ _ hu).1) (Gm hg hl hv hr hl' hv' hr' fs q' hq)
         · cases h
       · cases h
     · rename_i a b hu hx hy
       split at h
       · rename_i q' hq
         cases h
         obtain ⟨h1,h2⟩:=go hu rfl hx hy rfl rfl
         exact Di hn' h1 h2 (Gp n (hg.AW _ _ hu).1) (Gm hg hl hv hr hl' hv' hr' fs q' hq)
       · cases h
     · rename_i a b hu hx hy
       split at h
       · rename_i q' hq
         cases h
         obtain ⟨h1,h2⟩:=go hu rfl hx hy rfl rfl
         exact Di hn' h1 h2 (run_equalIn_string w n f.type a b (hg.AW _ _ hu).1) (Gm hg hl hv hr hl' hv' hr' fs q' hq)
       · cases h
     · cases h
omit [Mo] in
theorem Om (hg:Good P D){w:World}{F:Nat->Prop}{loc:Nat->Option Loc}{t:TypeId}{ox oy:Operand}{xs ys:List X}{fs:Array Field}{a b:Value}{q:Bool}(hu:D.AW t=some (.struct fs))(hp:D.peq t=true)(hq:Qq D xs ys fs.toList=some q)
   (ha:AF w F loc (X.enc (.ag xs)) a) (hb:AF w F loc (X.enc (.ag ys)) b) :
   ((do eqGuard .eql t ox oy a b; binOp .eql t a b:Sem Value)).run P w=.ok (.bool q) w/\((do eqGuard .neq t ox oy a b; binOp .neq t a b:Sem Value)).run P w=.ok (.bool !q) w:=by
 rw [X.enc,Aa] at ha hb
 obtain ⟨vs,val,rfl,hl,hv,hr⟩:=FR ha
 obtain ⟨ws,wal,rfl,hl', hv', hr'⟩:=FR hb
 obtain ⟨h1,h2⟩:=hg.peq t hp
 have hu':=(hg.AW t _ hu).1
 have hf:P.fieldsOf t=fs:=by simp [Program.fieldsOf,hu']
 have he:=run_equalIn_agg w 9999 t vs.toArray ws.toArray (by rw [hf]; exact hu') h1
 rw [hf,Gm (n:=9998) hg hl hv hr hl' hv' hr' _ _ hq] at he
 constructor
 · rw [Sem.run_bind,run_eqGuard_agg w .eql t ox oy _ _ h2]
   simp only [Result.andThen_ok]
   rw [run_eql_struct,he]; rfl
 · rw [Sem.run_bind,run_eqGuard_agg w .neq t ox oy _ _ h2]
   simp only [Result.andThen_ok]
   rw [run_neq_struct,he]; rfl
theorem TJ (hg:Good P D) {o:Oper} {st:St} {op:BinOp} {t q:TypeId} {ox oy:Operand} {x y:X} (hop:o.op=.binOp op t ox oy q) (hx:ev AM st.t ox=x.enc) (hy:ev AM st.t oy=y.enc) :
   Au P o st (Yt D op t x y):=by
 unfold Yt
 split
 · rename_i fs xs ys hu
   refine AB (fun hp=>?_) (fun _=>trivial)
   split
   · rename_i r hq
     refine CD.pure fun B F loc a w hR=>?_
     have hvx:=AV hR ox
     have hvy:=AV hR oy
     rw [hx] at hvx
     rw [hy] at hvy
     refine ⟨.bool r,?_,.t _ _ (.sc _ rfl)⟩
     simp only [execOp,hop]
     rw [Sem.run_bind,(Om hg hu hp hq hvx hvy).1]; rfl
   · rename_i r hq
     refine CD.pure fun B F loc a w hR=>?_
     have hvx:=AV hR ox
     have hvy:=AV hR oy
     rw [hx] at hvx
     rw [hy] at hvy
     refine ⟨.bool !r,?_,.t _ _ (.sc _ rfl)⟩
     simp only [execOp,hop]
     rw [Sem.run_bind,(Om hg hu hp hq hvx hvy).2]; rfl
   · trivial
 · trivial
def Ub:(kt:LG)->X->Option kt.den
 | .s,.s b=>some b
 | .i k,.i k' n=>if k' = k then some n else none
 | _,_=>none
omit [Mo] in
theorem KC {kt:LG}{x:X}{k:kt.den}(h:Ub kt x=some k):x.enc=.t (.sc (kt.val k)):=by
 unfold Ub at h
 split at h
 · cases h; rfl
 · split at h
   · rename_i e; cases h; subst e; rfl
   · cases h
 · cases h
omit [Mo] in
theorem QX:∀ (kt:LG) (k:kt.den),Go.MapKept.IsKey kt.desc (kt.val k)
 | .s,_=>trivial
 | .i _,_=>rfl
omit [Mo] in
theorem Md:∀ (kt:LG) (a b:kt.den),Bv (kt.val a) (kt.val b)=kt.Bv a b
 | .s,_,_=>rfl
 | .i _,_,_=>rfl
omit [Mo] in
theorem MF:∀ (kt:LG) (k:kt.den),plain (kt.val k)=true
 | .s,_=>rfl
 | .i _,_=>rfl
def Uc:(kt:LG)->kt.den->X
 | .s,b=>.s b
 | .i k,n=>.i k n
omit [Mo] in
theorem PA:∀ (kt:LG) (k:kt.den),(Uc kt k).enc=.t (.sc (kt.val k))
 | .s,_=>rfl
 | .i _,_=>rfl
omit [Mo] in
theorem Rk (t:MT)(k:t.kt.den):∀ (es:List (t.kt.den × t.r.den)),BQ Bv (t.en es) (t.kt.val k)=(BQ t.kt.Bv es k).map t.r.en
 | []=>rfl
 | x :: es=>by
   have ih:=Rk t k es
   unfold MT.en at ih ⊢
   simp only [List.map_cons,BQ,Md]
   cases t.kt.Bv x.1 k
   · exact ih
   · rfl
omit [Mo] in
theorem SD (t:MT)(k:t.kt.den)(y:t.r.den):∀ (es:List (t.kt.den × t.r.den)),t.en (Bw t.kt.Bv es k y)=Bw Bv (t.en es) (t.kt.val k) (t.r.en y)
 | []=>rfl
 | x :: es=>by
   have ih:=SD t k y es
   unfold MT.en at ih ⊢
   simp only [List.map_cons,Bw,Md]
   cases t.kt.Bv x.1 k
   · simp only [cond_false,List.map_cons,ih]
   · rfl
omit [Mo] in
theorem Jr {α:Type}(k:Int)(v:α):∀ (es:List (Int × α)),(Ra k v es).Perm ((k,v) :: es)
 | []=>List.Perm.refl _
 | x :: l=>by
   unfold Ra
   cases decide (k < x.1) with
   | true=>exact List.Perm.refl _
   | false=>exact (List.Perm.cons x (Jr k v l)).trans (List.Perm.swap _ _ _)
omit [Mo] in
theorem Lr {κ α:Type}{eq:κ->κ->Bool}{k:κ}(v:α):∀ {es:List (κ × α)},BQ eq es k=none->Bw eq es k v=es ++ [(k,v)]
 | [],_=>rfl
 | x :: l,h=>by
   unfold BQ at h
   unfold Bw
   cases hq:eq x.1 k with
   | true=>rw [hq] at h; cases h
   | false=>rw [hq] at h; rw [cond_false,Lr v h]; rfl
omit [Mo] in
theorem Tl:∀ (t:MT) (es:t.den) (k:t.kt.den) (y:t.r.den),(Bw t.kt.Bv es k y).Perm (t.put es k y)
 | ⟨.s,_,_⟩,es,k,y=>List.Perm.refl _
 | ⟨.i _,_,_⟩,es,k,y=>by
   show (Bw aD es k y).Perm (VL es k y)
   unfold VL
   cases hg:BQ aD es k with
   | some _=>exact List.Perm.refl _
   | none =>
     rw [Lr y hg]
     exact (List.perm_append_comm (l₁:=es) (l₂:=[(k,y)])).trans (Jr k y es).symm
omit [Mo] in
theorem ZG (t:MT)(k:t.kt.den)(y:t.r.den)(es:t.den):(Bw Bv (t.en es) (t.kt.val k) (t.r.en y)).Perm (t.en (t.put es k y)):=by
 rw [<- SD t k y es]
 unfold MT.en
 exact (Tl t es k y).map _
omit [Mo] in
theorem Rn (t:MT)(k:t.kt.den):∀ (es:List (t.kt.den × t.r.den)),t.en (Cf t.kt.Bv es k)=Cf Bv (t.en es) (t.kt.val k)
 | []=>rfl
 | x :: es=>by
   have ih:=Rn t k es
   unfold MT.en at ih ⊢
   simp only [List.map_cons,Cf,Md]
   cases t.kt.Bv x.1 k
   · simp only [cond_false,List.map_cons,ih]
   · rfl
def Hw:Option TypeDesc->Option (TypeId × TypeId) | some (.map k e)=>some (k,e) | _=>none
omit [Mo] in
theorem DC {o:Option TypeDesc}{k e:TypeId}(h:Hw o=some (k,e)):o=some (.map k e):=by
 unfold Hw at h
 split at h
 · cases h; rfl
 · cases h
def Zq:Option TypeDesc->Option LG | some .string=>some .s | some (.int k)=>some (.i k) | _=>none
def Uo (k:LG)(o:Option TypeDesc):Bool:=match Zq o with | some k'=>decide (k' = k) | none=>false
omit [Mo] in
theorem ID {k:LG}{o:Option TypeDesc}(h:Uo k o=true):o=some k.desc:=by
 unfold Uo at h
 split at h
 · rename_i k' hk
   have:=of_decide_eq_true h
   subst this
   unfold Zq at hk
   split at hk
   · cases hk; rfl
   · cases hk; rfl
   · cases hk
 · cases h
def Vc:Option TypeDesc->Bool | some d=>d.isRow | none=>false
def TN (t:MT)(a:t.r.den):X:=cond t.ag (.ag (t.r.cells a)) (match t.r.cells a with | [x]=>x | _=>.dead)
omit [Mo] in
theorem Vj {w:World}{F:Nat->Prop}{loc:Nat->Option Loc}{x:T}{v:Value}(h:AF w F loc (.t x) v):BG w F x v:=by
 cases h with
 | gone _ o _ hx _=>cases hx
 | t _ _ h=>exact h
omit [Mo] in
theorem Kg {w:World} {F:Nat->Prop} {loc:Nat->Option Loc} {t:MT} {a:t.r.den} {v:Value} (h:DN w F t.ag (t.r.en a) v):AF w F loc (TN t a).enc v:=by
 unfold DN at h
 unfold TN
 have hc:=t.r.Br a
 split at h
 · rename_i e
   rw [e]
   obtain ⟨cs,rfl,hl,hr⟩:=h
   simp only [cond_true,X.enc,Aa]
   rw [hc]
   have:=AF.ag (w:=w) (F:=F) (loc:=loc) ((t.r.en a).map V.t) cs.toList (fun j=>cs.toList.getD j undef) (by simpa using hl.symm) (fun j hj=>by
     have hj':j < cs.size:=by rw [hl]; simpa using hj
     simp [List.getD,hj']) (fun j x hj=>by
     rw [List.getElem?_map] at hj
     obtain ⟨y,hy,rfl⟩:=Option.map_eq_some_iff.1 hj
     obtain ⟨u,hu,_,hrel⟩:=hr j y hy
     have:cs.toList.getD j undef=u:=by simp [List.getD,hu]
     rw [this]
     exact .t _ _ hrel)
   simpa using this
 · rename_i e
   have e':t.ag=false:=by rwa [Bool.not_eq_true] at e
   rw [e', cond_false]
   obtain ⟨x,hx,hrel⟩:=h
   rw [hx] at hc
   cases hcs:t.r.cells a with
   | nil=>rw [hcs] at hc; simp at hc
   | cons y l =>
     cases l with
     | nil =>
       rw [hcs] at hc
       simp only [List.map_cons,List.map_nil,List.cons.injEq,and_true] at hc
       simp only []
       rw [hc]
       exact .t _ _ hrel
     | cons z l=>rw [hcs] at hc; simp at hc
theorem WL {B:BB} {w:World} {F:Nat->Prop} {loc:Nat->Option Loc} {s:AE} (hS:AK AM B w F loc s) {g:XG} (ha:Ad g s) {x:X} {v:Value} {r:Row} {y:r.den} (hs:Ez g x=true) (hv:AF w F loc x.enc v) (hy:r.Az (BN x)=some y):DN w F (UZ x) (r.en y) v:=by
 obtain ⟨h1,h2⟩:=Dh ha hs
 obtain ⟨ts,hts,hw⟩:=r.BS _ y hy
 rw [h2] at hts
 have hcs:=Cz hts
 cases x with
 | ag cs =>
   show DN w F true (r.en y) v
   unfold DN
   rw [if_pos rfl]
   obtain ⟨hl,hr⟩:=Hf hS h1 hv
   obtain ⟨vs,val,rfl,_,_,_⟩:=FR (by simpa only [X.enc] using hv)
   refine ⟨vs.toArray,rfl,?_,fun j z hj=>?_⟩
   · rw [<- hw.get.1]
     have:=congrArg List.length hcs
     rw [List.length_map] at this
     rw [<- this,hl]; rfl
   · obtain ⟨x', hx', hwk⟩:=hw.get.2 j z hj
     obtain ⟨u,hu,hone,hrel⟩:=hr j (.t x') (by rw [hcs,List.getElem?_map,hx']; rfl)
     exact ⟨u,hu,hone,hwk.rel (Vj hrel)⟩
 | _ =>
   show DN w F false (r.en y) v
   unfold DN
   rw [if_neg (by decide)]
   rw [<- h2] at hcs
   simp only [BN,List.map_cons,List.map_nil] at hcs
   cases ts with
   | nil=>cases hcs
   | cons t0 ts =>
     cases ts with
     | nil =>
       simp only [List.map_cons,List.map_nil,List.cons.injEq,and_true] at hcs
       rw [hcs] at hv
       generalize r.en y=l at hw ⊢
       cases hw with
       | cons _ z _ zs hwk hws =>
         cases hws
         exact ⟨z,rfl,hwk.rel (Vj hv)⟩
     | cons t1 ts=>simp at hcs
def Kp (D:Ah)(g:XG)(rw? : Option Row)(dst:Option Nat)(t:TypeId):Out :=
 match dst,Hw (D.AW t),rw? with
 | some d,some (kt,et),some r=>match g d,Zq (D.AW kt) with
   | none,some K=>.ok (.mp d) [(d,some (.mp ⟨K,Vc (D.AW et),r⟩ []))]
   | _,_=>.bad
 | _,_,_=>.bad
theorem LK {g:XG} {o:Oper} {st:St} (ha:Ad g st.s) {t:TypeId} {rw? : Option Row} (hop:o.op=.makeMap t none):Au P o st (Kp D g rw? o.dst t):=by
 unfold Kp
 split
 · rename_i d kt et r hd hm
   split
   · rename_i K hn hk
     have hfree:=ha.no d hn
     intro B F loc a w hR
     refine ⟨F,Ae loc d (some (.Bo w.heap.size)),w.alloc (.map #[] 0),.map (some w.heap.size),_,?_,.inl rfl,hR.s.ZE hfree K.desc (Vc (D.AW et)),CM hR.s _,Ak.Ae (Cc hR.s hfree),.mp _ _ (AA _ _ _)⟩
     simp only [execOp,hop]
     show ((do pure (Next.value (<- Instr.makeMap t none)):Sem Next)).run P w=_
     rw [Sem.run_bind,Io]; rfl
   · trivial
 · trivial
def Gb (D:Ah) (g:XG) (t:TypeId) (m k x:X):Out :=
 match m with
 | .mp o=>match gx g o with
   | some (.mp T es)=>match Hw (D.AW t),Ub T.kt k,T.r.Az (BN x) with
     | some (kt,_),some key,some y=>cond (Uo T.kt (D.AW kt) && Ez g x && (UZ x == T.ag)) (.ok (.tp []) [(o,some (.mp T (T.put es key y)))]) .bad
     | _,_,_=>.bad
   | _=>.bad
 | _=>.bad
theorem JT (hg:Good P D) {g:XG} {o:Oper} {st:St} (ha:Ad g st.s) {t:TypeId} {om ok ox:Operand} {m k x:X} (hop:o.op=.mapUpdate t om ok ox) (hm:ev AM st.t om=m.enc) (hk:ev AM st.t ok=k.enc) (hx:ev AM st.t ox=x.enc) :
   Au P o st (Gb D g t m k x):=by
 unfold Gb
 split
 · rename_i n
   split
   · rename_i T es hgx
     split
     · rename_i kt et key y hmt hkey hy
       refine AB (fun hc=>?_) (fun _=>trivial)
       simp only [Bool.and_eq_true,beq_iff_eq] at hc
       obtain ⟨⟨h1,h2⟩,h3⟩:=hc
       intro B F loc a w hR
       have hs:=ha.is _ _ (BU hgx)
       obtain ⟨l,hl,hrel⟩:=hR.s.Cg _ _ hs
       have hv:=AV hR ox
       rw [hx] at hv
       have hvk:=AV hR ok
       rw [hk,KC hkey] at hvk
       have hvm:=AV hR om
       rw [hm] at hvm
       cases hrel with
       | mp _ _ _ b en clock vs hb hmo =>
         have hmv:=WL hR.s ha h2 hv hy
         rw [h3] at hmv
         obtain ⟨w', hrun,hS', hk'⟩:=hR.s.ZN (P:=P) hl hs (hg.AW t _ (DC hmt)).1 (hg.AW kt _ (ID h1)).1 (QX T.kt key) hmv (ZG T key y es)
         refine ⟨F,loc,w', undef,.skip,?_,.inr ⟨rfl,rfl⟩,hS', hk', Ak.refl _,.tp [] [] (fun _=>undef) rfl (fun j hj=>by simp at hj) (fun j x hj=>by simp [Bp] at hj)⟩
         have e1:=Cn hvm hl
         have e2:=AP hvk
         simp only [execOp,hop]
         rw [e1,e2]
         simp [hrun]
     · trivial
   · trivial
 · trivial
def GX (D:Ah) (g:XG) (t t2:TypeId) (m k:X):Out :=
 match m with
 | .mp o=>match gx g o with
   | some (.mp T es)=>match Hw (D.AW t),Ub T.kt k with
     | some (kt,_),some key=>cond (Uo T.kt (D.AW kt) && Nat.beq kt t2) (.ok (.tp []) [(o,some (.mp T (Cf T.kt.Bv es key)))]) .bad
     | _,_=>.bad
   | _=>.bad
 | _=>.bad
theorem JU (hg:Good P D) {g:XG} {o:Oper} {st:St} (ha:Ad g st.s) {t t2:TypeId} {om ok:Operand} {m k:X} (hop:o.op=.call ⟨.builtin .delete,#[om,ok],#[t,t2]⟩) (hm:ev AM st.t om=m.enc) (hk:ev AM st.t ok=k.enc) :
   Au P o st (GX D g t t2 m k):=by
 unfold GX
 split
 · rename_i n
   split
   · rename_i T es hgx
     split
     · rename_i kt et key hmt hkey
       refine AB (fun hc=>?_) (fun _=>trivial)
       simp only [Bool.and_eq_true] at hc
       obtain ⟨h1,h2⟩:=hc
       have e0:=Nat.eq_of_beq_eq_true h2
       subst e0
       intro B F loc a w hR
       have hs:=ha.is _ _ (BU hgx)
       obtain ⟨l,hl,hrel⟩:=hR.s.Cg _ _ hs
       have hvk:=AV hR ok
       rw [hk,KC hkey] at hvk
       have hvm:=AV hR om
       rw [hm] at hvm
       cases hrel with
       | mp _ _ _ b en clock vs hb hmo =>
         obtain ⟨w', hrun,hS', hk'⟩:=hR.s.Zn (P:=P) hl hs o.type (hg.AW t _ (DC hmt)).1 (hg.AW kt _ (ID h1)).1 (QX T.kt key)
         rw [show Cf Bv (T.en es) (T.kt.val key)=T.en (Cf T.kt.Bv es key) from (Rn T key es).symm] at hS'
         refine ⟨F,loc,w', .tuple #[],_,?_,.inl rfl,hS', hk', Ak.refl _,FQ⟩
         have e1:=Cn hvm hl
         have e2:=AP hvk
         simp only [execOp,hop]
         rw [<- e1,<- e2] at hrun
         simp [resolve,invoke,builtin,hrun]
     · trivial
   · trivial
 · trivial
def JI (k:IntKind):Bool:=decide (k=.i64)
def Wp (D:Ah)(t:TypeId):Bool:=match Hw (D.AW t) with
 | some (kt,et)=>(match D.AW kt,D.zero et with
   | some (.int k),some (.pointer none)=>JI k && D.has et
   | _,_=>false)
 | none=>false
omit [Mo] in
theorem KJ {t:TypeId} (h:Wp D t=true):∃ kt et,D.AW t=some (.map kt et)/\D.AW kt=some (.int .i64)/\D.zero et=some (.pointer none)/\D.has et=true:=by
 unfold Wp at h
 split at h
 · rename_i kt et hm
   split at h
   · rename_i k hk hz
     rw [Bool.and_eq_true] at h
     have:=of_decide_eq_true h.1
     subst this
     exact ⟨kt,et,DC hm,hk,hz,h.2⟩
   · cases h
 · cases h
def Mx (D:Ah)(g:XG)(dst:Option Nat)(t:TypeId):Out :=
 match dst with
 | some d=>match g d with
   | none=>cond (Wp D t) (.ok (.mp d) [(d,some (.bx 3000000 []))]) .bad
   | some _=>.bad
 | none=>.bad
theorem Nh {g:XG} {o:Oper} {st:St} (ha:Ad g st.s) {t:TypeId} (hop:o.op=.makeMap t none):Au P o st (Mx D g o.dst t):=by
 unfold Mx
 split
 · rename_i d hd
   split
   · rename_i hn
     refine AB (fun _=>?_) (fun _=>trivial)
     have hfree:=ha.no d hn
     intro B F loc a w hR
     refine ⟨F,Ae loc d (some (.Bo w.heap.size)),w.alloc (.map #[] 0),.map (some w.heap.size),_,?_,.inl rfl,hR.s.alloc hfree Pl,CM hR.s _,Ak.Ae (Cc hR.s hfree),.mp _ _ (AA _ _ _)⟩
     simp only [execOp,hop]
     show ((do pure (Next.value (<- Instr.makeMap t none)):Sem Next)).run P w=_
     rw [Sem.run_bind,Io]; rfl
   · trivial
 · trivial
def QH (D:Ah) (g:XG) (t:TypeId) (o:Nat) (e:TypeId) (cells:List X) (k x:X):Out :=
 cond (!(Nat.blt e 3000000) && Wp D t && PM g x) (match k with
   | .i kk n=>cond (JI kk) (match cells with
     | []=>.ok (.tp []) [(o,some (.bx e [.i .i64 n,x]))]
     | [.i k1 n1,x1]=>cond (JI k1) (.cs (n1 == n) (.tp []) [(o,some (.bx e [.i .i64 n,x]))] (.tp []) [(o,some (.bx e [.i .i64 n1,x1,.i .i64 n,x]))]) .bad
     | _=>.bad) .bad
   | _=>.bad) .bad
omit [Mo] in
theorem Ck {k:IntKind}(h:JI k=true):k=.i64:=of_decide_eq_true h
omit [Mo] in
theorem CE {w:World}{F:Nat->Prop}{loc:Nat->Option Loc}{k:IntKind}{n:Int}{v:Value}(h:AF w F loc (X.enc (.i k n)) v):v=.int k n:=AP h
theorem QA (hg:Good P D){o:Oper}{st:St}{t:TypeId}{om ok ox:Operand}{q:Nat}{e:TypeId}{xs xs':List V}{n:Int}{x:X}(hop:o.op=.mapUpdate t om ok ox)(hm:ev AM st.t om=.mp q)(hk:ev AM st.t ok=X.enc (.i .i64 n))(hx:ev AM st.t ox=x.enc)
   (hq:st.s q=some (some (.bx e xs))) (he:Nat.blt e 3000000=false) (ht:Wp D t=true) (h1:JJ st.s x.enc=true)
   (hput:∀ (w:World) (F:Nat->Prop) (loc:Nat->Option Loc) (vs:List (Value × Value)) (v:Value),EY w F loc xs vs->AF w F loc x.enc v->v.oneCell' = true->EY w F loc xs' (Bw Bv vs (.int .i64 n) v)) :
   CD P AM o st vU (Ae st.s q (some (some (.bx e xs')))):=by
 obtain ⟨kt,et,hmt,hkt,_,_⟩:=KJ ht
 intro B F loc a w hR
 have hv:=AV hR ox
 rw [hx] at hv
 have hvk:=AV hR ok
 rw [hk] at hvk
 have hvm:=AV hR om
 rw [hm] at hvm
 obtain ⟨b,en,clock,vs,hl,hb,hs,hen,hks,hr⟩:=hR.s.ZS hq he
 have hv1:=FV hR.s h1 hv
 have e1:=Cn hvm hl
 have e2:=CE hvk
 obtain ⟨es', clock', hrun,g2,g3,g4⟩:=FG (P:=P) (hg.AW t _ hmt).1 (hg.AW kt _ hkt).1 hb hs hen hks (k:=.int .i64 n) rfl (a.eval ox)
 obtain ⟨hS', hk'⟩:=hR.s.Uw hl hq he hb g2 g3 g4 (hput _ _ _ _ _ hr hv hv1)
 refine ⟨F,loc,_,undef,.skip,?_,.inr ⟨rfl,rfl⟩,hS', hk', Ak.refl _,.tp [] [] (fun _=>undef) rfl (fun j hj=>by simp at hj) (fun j x hj=>by simp at hj)⟩
 simp only [execOp,hop]
 rw [e1,e2]
 simp [hrun]
theorem PB (hg:Good P D) {g:XG} {o:Oper} {st:St} (ha:Ad g st.s) {t:TypeId} {om ok ox:Operand} {q:Nat} {e:TypeId} {cells:List X} {k x:X} (hop:o.op=.mapUpdate t om ok ox) (hm:ev AM st.t om=.mp q) (hk:ev AM st.t ok=k.enc) (hx:ev AM st.t ox=x.enc)
   (hq:gx g q=some (.bx e cells)):Au P o st (QH D g t q e cells k x):=by
 unfold QH
 refine AB (fun hc=>?_) (fun _=>trivial)
 simp only [Bool.and_eq_true,Bool.not_eq_true'] at hc
 obtain ⟨⟨he,ht⟩,h1⟩:=hc
 have h1':=Fb ha h1
 have hs:=ha.is _ _ (BU hq)
 split
 · rename_i kk n
   refine AB (fun hkk=>?_) (fun _=>trivial)
   have:=Ck hkk
   subst this
   split
   · refine QA hg hop hm hk hx hs he ht h1' fun w F loc vs v hr hv hv1=>?_
     have:=EY.nil hr
     subst this
     exact EY.none.cons (.t _ _ (.sc _ rfl)) rfl hv hv1
   · rename_i k1 n1 x1
     refine AB (fun hk1=>?_) (fun _=>trivial)
     have:=Ck hk1
     subst this
     refine ⟨fun hn=>?_,fun hn=>?_⟩
     · refine QA hg hop hm hk hx hs he ht h1' fun w F loc vs v hr hv hv1=>?_
       obtain ⟨ka,va,rfl,g1,g2,g3,g4⟩:=EY.two hr
       have:=CE g1
       subst this
       have e:Bw Bv [((Value.int .i64 n1),va)] (.int .i64 n) v=[((Value.int .i64 n),v)]:=by
         show cond (n1 == n) _ _=_
         rw [hn]; rfl
       rw [e]
       exact EY.none.cons (.t _ _ (.sc _ rfl)) rfl hv hv1
     · refine QA hg hop hm hk hx hs he ht h1' fun w F loc vs v hr hv hv1=>?_
       obtain ⟨ka,va,rfl,g1,g2,g3,g4⟩:=EY.two hr
       have:=CE g1
       subst this
       have e:Bw Bv [((Value.int .i64 n1),va)] (.int .i64 n) v=[((Value.int .i64 n1),va),((Value.int .i64 n),v)]:=by
         show cond (n1 == n) _ _=_
         rw [hn]; rfl
       rw [e]
       exact (EY.none.cons (.t _ _ (.sc _ rfl)) rfl hv hv1).cons g1 g2 g3 g4
   · trivial
 · trivial
def Qa (D:Ah) (t t2:TypeId) (o:Nat) (e:TypeId) (cells:List X) (k:X):Out :=
 cond (!(Nat.blt e 3000000) && Wp D t && (match Hw (D.AW t) with | some (kt,_)=>Nat.beq kt t2 | none=>false)) (match k with
   | .i kk n=>cond (JI kk) (match cells with
     | []=>.ok (.tp []) [(o,some (.bx e []))]
     | [.i k1 n1,x1]=>cond (JI k1) (.cs (n1 == n) (.tp []) [(o,some (.bx e []))] (.tp []) [(o,some (.bx e [.i .i64 n1,x1]))]) .bad
     | _=>.bad) .bad
   | _=>.bad) .bad
theorem QJ (hg:Good P D){o:Oper}{st:St}{t t2:TypeId}{om ok:Operand}{q:Nat}{e:TypeId}{xs xs':List V}{n:Int}(hop:o.op=.call ⟨.builtin .delete,#[om,ok],#[t,t2]⟩)(hm:ev AM st.t om=.mp q)(hk:ev AM st.t ok=X.enc (.i .i64 n))
   (hq:st.s q=some (some (.bx e xs))) (he:Nat.blt e 3000000=false) (ht:Wp D t=true) (h2:(match Hw (D.AW t) with | some (kt,_)=>Nat.beq kt t2 | none=>false)=true)
   (hdel:∀ (w:World) (F:Nat->Prop) (loc:Nat->Option Loc) (vs:List (Value × Value)),EY w F loc xs vs->EY w F loc xs' (Cf Bv vs (.int .i64 n))) :
   CD P AM o st vU (Ae st.s q (some (some (.bx e xs')))):=by
 obtain ⟨kt,et,hmt,hkt,_,_⟩:=KJ ht
 have h2':kt=t2:=by
   rw [hmt] at h2
   exact Nat.eq_of_beq_eq_true h2
 subst h2'
 intro B F loc a w hR
 have hvk:=AV hR ok
 rw [hk] at hvk
 have hvm:=AV hR om
 rw [hm] at hvm
 obtain ⟨b,en,clock,vs,hl,hb,hs,hen,hks,hr⟩:=hR.s.ZS hq he
 have e1:=Cn hvm hl
 have e2:=CE hvk
 obtain ⟨es', clock', hrun,g2,g3,g4⟩:=Ep (P:=P) o.type (hg.AW t _ hmt).1 (hg.AW kt _ hkt).1 hb hs hen hks (k:=.int .i64 n) rfl
 obtain ⟨hS', hk'⟩:=hR.s.Uw hl hq he hb g2 g3 g4 (hdel _ _ _ _ hr)
 refine ⟨F,loc,_,.tuple #[],_,?_,.inl rfl,hS', hk', Ak.refl _,FQ⟩
 simp only [execOp,hop]
 rw [<- e1,<- e2] at hrun
 simp [resolve,invoke,builtin,hrun]
theorem Oi (hg:Good P D) {g:XG} {o:Oper} {st:St} (ha:Ad g st.s) {t t2:TypeId} {om ok:Operand} {q:Nat} {e:TypeId} {cells:List X} {k:X} (hop:o.op=.call ⟨.builtin .delete,#[om,ok],#[t,t2]⟩) (hm:ev AM st.t om=.mp q) (hk:ev AM st.t ok=k.enc)
   (hq:gx g q=some (.bx e cells)):Au P o st (Qa D t t2 q e cells k):=by
 unfold Qa
 refine AB (fun hc=>?_) (fun _=>trivial)
 rw [Bool.and_eq_true,Bool.and_eq_true,Bool.not_eq_true'] at hc
 obtain ⟨⟨he,ht⟩,h2⟩:=hc
 have hs:=ha.is _ _ (BU hq)
 split
 · rename_i kk n
   refine AB (fun hkk=>?_) (fun _=>trivial)
   have:=Ck hkk
   subst this
   split
   · refine QJ hg hop hm hk hs he ht h2 fun w F loc vs hr=>?_
     have:=EY.nil hr
     subst this
     exact EY.none
   · rename_i k1 n1 x1
     refine AB (fun hk1=>?_) (fun _=>trivial)
     have:=Ck hk1
     subst this
     refine ⟨fun hn=>?_,fun hn=>?_⟩
     · refine QJ hg hop hm hk hs he ht h2 fun w F loc vs hr=>?_
       obtain ⟨ka,va,rfl,g1,g2,g3,g4⟩:=EY.two hr
       have:=CE g1
       subst this
       have e:Cf Bv [((Value.int .i64 n1),va)] (.int .i64 n)=[]:=by
         show cond (n1 == n) _ _=_
         rw [hn]; rfl
       rw [e]
       exact EY.none
     · refine QJ hg hop hm hk hs he ht h2 fun w F loc vs hr=>?_
       obtain ⟨ka,va,rfl,g1,g2,g3,g4⟩:=EY.two hr
       have:=CE g1
       subst this
       have e:Cf Bv [((Value.int .i64 n1),va)] (.int .i64 n)=[((Value.int .i64 n1),va)]:=by
         show cond (n1 == n) _ _=_
         rw [hn]; rfl
       rw [e]
       exact EY.none.cons g1 g2 g3 g4
   · trivial
 · trivial
def SA (c:Bool):X:=cond c (.tp [.c (.pointer none),.b false]) (.c (.pointer none))
def Wd (c:Bool)(x:X):X:=cond c (.tp [x,.b true]) x
def QR (D:Ah) (t:TypeId) (e:TypeId) (cells:List X) (k:X) (c:Bool):Out :=
 cond (!(Nat.blt e 3000000) && Wp D t) (match k with
   | .i kk n=>cond (JI kk) (match cells with
     | []=>.ok (SA c) []
     | [.i k1 n1,x1]=>cond (JI k1) (.cs (n1 == n) (Wd c x1) [] (SA c) []) .bad
     | _=>.bad) .bad
   | _=>.bad) .bad
omit [Mo] in
theorem Qg {w:World} {F:Nat->Prop} {loc:Nat->Option Loc} {x:X} {v:Value} {q:Bool} (h:AF w F loc x.enc v) (c:Bool):AF w F loc (X.enc (cond c (.tp [x,.b q]) x)) (if c then .tuple #[v,.bool q] else v):=by
 cases c with
 | false=>exact h
 | true =>
   refine .tp _ [v,.bool q] (fun j=>[v,Value.bool q].getD j undef) rfl (fun j hj=>?_) (fun j y hj=>?_)
   · match j,hj with
     | 0,_=>rfl
     | 1,_=>rfl
     | j+2,hj=>exact absurd (show j+2 < 2 from hj) (by omega)
   · match j,hj with
     | 0,hj=>cases hj; exact h
     | 1,hj=>cases hj; exact .t _ _ (.sc _ rfl)
     | j+2,hj=>simp [Bp] at hj
theorem QC (hg:Good P D){o:Oper}{st:St}{t:TypeId}{om ok:Operand}{q:Nat}{e:TypeId}{xs:List V}{n:Int}{c:Bool}{y:V}(hop:o.op=.lookup t om ok c)(hm:ev AM st.t om=.mp q)(hk:ev AM st.t ok=X.enc (.i .i64 n))
   (hq:st.s q=some (some (.bx e xs))) (he:Nat.blt e 3000000=false) (ht:Wp D t=true)
   (hget:∀ (w:World) (F:Nat->Prop) (loc:Nat->Option Loc) (vs:List (Value × Value)),EY w F loc xs vs->AF w F loc y (if c then .tuple #[(BQ Bv vs (.int .i64 n)).getD (.pointer none),.bool (BQ Bv vs (.int .i64 n)).isSome] else (BQ Bv vs (.int .i64 n)).getD (.pointer none))) :
   CD P AM o st y st.s:=by
 obtain ⟨kt,et,hmt,hkt,hz,hhas⟩:=KJ ht
 obtain ⟨de,hde⟩:=BH hhas
 obtain ⟨_,i,hi,hsz,hbt,hzi⟩:=hg.AW et _ hde
 refine CD.pure fun B F loc a w hR=>?_
 have hvk:=AV hR ok
 rw [hk] at hvk
 have hvm:=AV hR om
 rw [hm] at hvm
 obtain ⟨b,en,clock,vs,hl,hb,hs,hen,hks,hr⟩:=hR.s.ZS hq he
 have e1:=Cn hvm hl
 have e2:=CE hvk
 have hzv:(zeroValue et).run P w=.ok (.pointer none) w:=by simp [zeroValue,typeInfo,hi,hzi.trans hz]
 have hrun:=FK (P:=P) c (hg.AW t _ hmt).1 (hg.AW kt _ hkt).1 hzv hb hen hks (k:=.int .i64 n) rfl
 refine ⟨_,?_,hget w F loc vs hr⟩
 simp only [execOp,hop]
 rw [e1,e2]
 simp [hrun]
theorem OI (hg:Good P D) {g:XG} {o:Oper} {st:St} (ha:Ad g st.s) {t:TypeId} {om ok:Operand} {q:Nat} {e:TypeId} {cells:List X} {k:X} {c:Bool} (hop:o.op=.lookup t om ok c) (hm:ev AM st.t om=.mp q) (hk:ev AM st.t ok=k.enc)
   (hq:gx g q=some (.bx e cells)):Au P o st (QR D t e cells k c):=by
 unfold QR
 refine AB (fun hc=>?_) (fun _=>trivial)
 simp only [Bool.and_eq_true,Bool.not_eq_true'] at hc
 obtain ⟨he,ht⟩:=hc
 have hs:=ha.is _ _ (BU hq)
 split
 · rename_i kk n
   refine AB (fun hkk=>?_) (fun _=>trivial)
   have:=Ck hkk
   subst this
   split
   · refine QC hg hop hm hk hs he ht fun w F loc vs hr=>?_
     have:=EY.nil hr
     subst this
     exact Qg (x:=.c (.pointer none)) (q:=false) (.t _ _ (.sc _ rfl)) c
   · rename_i k1 n1 x1
     refine AB (fun hk1=>?_) (fun _=>trivial)
     have:=Ck hk1
     subst this
     refine ⟨fun hn=>?_,fun hn=>?_⟩
     · refine QC hg hop hm hk hs he ht fun w F loc vs hr=>?_
       obtain ⟨ka,va,rfl,g1,g2,g3,g4⟩:=EY.two hr
       have:=CE g1
       subst this
       have e:BQ Bv [((Value.int .i64 n1),va)] (.int .i64 n)=some va:=by
         show cond (n1 == n) _ _=_
         rw [hn]; rfl
       rw [e]
       exact Qg (q:=true) g3 c
     · refine QC hg hop hm hk hs he ht fun w F loc vs hr=>?_
       obtain ⟨ka,va,rfl,g1,g2,g3,g4⟩:=EY.two hr
       have:=CE g1
       subst this
       have e:BQ Bv [((Value.int .i64 n1),va)] (.int .i64 n)=none:=by
         show cond (n1 == n) _ _=_
         rw [hn]; rfl
       rw [e]
       exact Qg (x:=.c (.pointer none)) (q:=false) (.t _ _ (.sc _ rfl)) c
   · trivial
 · trivial
def Un (g:XG):X->Option (Nat × TypeId × List X)
 | .mp o=>match gx g o with
   | some (.bx e cells)=>some (o,e,cells)
   | _=>none
 | _=>none
omit [Mo] in
theorem Hg {g:XG}{m:X}{o:Nat}{e:TypeId}{cells:List X}(h:Un g m=some (o,e,cells)):m=.mp o/\gx g o=some (.bx e cells):=by
 unfold Un at h
 split at h
 · split at h
   · rename_i hg; cases h; exact ⟨rfl,hg⟩
   · cases h
 · cases h
def Mn:Option XO->Option ((T:MT) × T.den)
 | some (.mp T es)=>some ⟨T,es⟩
 | some (.mq T es _ _ _)=>some ⟨T,es⟩
 | _=>none
omit [Mo] in
theorem Ib {g:XG}{s:AE}(ha:Ad g s){o:Nat}{T:MT}{es:T.den}(h:Mn (gx g o)=some ⟨T,es⟩):mapOf (get s o)=some (T.kt.desc,T.ag,T.en es):=by
 unfold Mn at h
 split at h
 · rename_i hg; cases h; rw [ha.get hg]; rfl
 · rename_i hg; cases h; rw [ha.get hg]; rfl
 · cases h
def KF (ag:Bool):Value->Bool
 | .agg cs=>ag && cs.toList.all plain
 | v => !ag && plain v
def Ga (D:Ah) (g:XG) (t:TypeId) (m k:X) (c:Bool):Out :=
 match m with
 | .mp o => match Mn (gx g o) with
   | some ⟨T,es⟩=>match Hw (D.AW t),Ub T.kt k with
     | some (kt,et),some key=>match D.zero et with
       | some z=>match T.r.Az (z.cells.toList.map Bj) with
         | some zr=>cond (Uo T.kt (D.AW kt) && D.has et && KF T.ag z)
             (.Nk (T.r.den × Bool) (some ((BQ T.kt.Bv es key).getD zr,(BQ T.kt.Bv es key).isSome)) fun a=>(cond c (.tp [TN T a.1,.b a.2]) (TN T a.1),[])) .bad
         | none=>.bad
       | none=>.bad
     | _,_=>.bad
   | none=>.bad
 | _=>.bad
omit [Mo] in
theorem Sb {w:World} {F:Nat->Prop} {ag:Bool} {r:Row} {z:Value} {zr:r.den} (h:KF ag z=true) (hz:r.Az (z.cells.toList.map Bj)=some zr):DN w F ag (r.en zr) z:=by
 obtain ⟨ts,hts,hw⟩:=r.BS _ zr hz
 unfold DN
 have hpl:∀ (cs:List Value),cs.all plain=true->(cs.map Bj).map X.enc=(cs.map T.sc).map V.t:=by
   intro cs hc
   rw [List.map_map,List.map_map]
   refine List.map_congr_left fun v hv=>?_
   exact HE (List.all_eq_true.1 hc v hv)
 have single:KF ag z=true->(∀ cs,z ≠ .agg cs)->ag=false/\plain z=true/\z.cells.toList=[z]:=by
   intro h hn
   unfold KF at h
   split at h
   · exact absurd rfl (hn _)
   · simp only [Bool.and_eq_true,Bool.not_eq_true'] at h
     refine ⟨h.1,h.2,?_⟩
     cases z <;> first | rfl | exact absurd rfl (hn _)
 by_cases hc:∃ cs,z=.agg cs
 · obtain ⟨cs,rfl⟩:=hc
   simp only [KF,Bool.and_eq_true] at h
   rw [if_pos h.1]
   rw [show (Value.agg cs).cells=cs from rfl,hpl _ h.2,EK] at hts
   cases hts
   refine ⟨cs,rfl,?_,fun j x hj=>?_⟩
   · rw [<- hw.get.1]; simp
   · obtain ⟨x', hx', hwk⟩:=hw.get.2 j x hj
     rw [List.getElem?_map] at hx'
     obtain ⟨u,hu,rfl⟩:=Option.map_eq_some_iff.1 hx'
     have hp:plain u=true:=List.all_eq_true.1 h.2 u (List.mem_of_getElem? hu)
     exact ⟨u,by rw [<- Array.getElem?_toList]; exact hu,IB hp,hwk.rel (.sc _ hp)⟩
 · obtain ⟨h1,h2,h3⟩:=single h fun cs e=>hc ⟨cs,e⟩
   rw [h1,if_neg (by decide)]
   rw [h3,hpl [z] (by simp [h2]),EK] at hts
   cases hts
   generalize r.en zr=l at hw ⊢
   cases hw with
   | cons _ q _ qs hwk hws =>
     cases hws
     exact ⟨q,rfl,hwk.rel (.sc _ h2)⟩
theorem JM (hg : Good P D) {g:XG} {o:Oper} {st:St} (ha:Ad g st.s) {t:TypeId} {om ok:Operand} {m k:X} {c:Bool} (hop:o.op=.lookup t om ok c) (hm:ev AM st.t om=m.enc) (hk:ev AM st.t ok=k.enc) :
   Au P o st (Ga D g t m k c):=by
 unfold Ga
 split
 · rename_i n
   split
   · rename_i T es hgx
     split
     · rename_i kt et key hmt hkey
       split
       · rename_i z hz
         split
         · rename_i zr hzr
           refine AB (fun hc=>?_) (fun _=>trivial)
           simp only [Bool.and_eq_true] at hc
           obtain ⟨⟨h1,h2⟩,h3⟩:=hc
           obtain ⟨de,hde⟩:=BH h2
           obtain ⟨_,i,hi,hsz,hbt,hzi⟩:=hg.AW et _ hde
           intro a0 ha0
           cases ha0
           refine CD.pure fun B F loc a w hR=>?_
           have hvk:=AV hR ok
           rw [hk,KC hkey] at hvk
           have hvm:=AV hR om
           rw [hm] at hvm
           obtain ⟨b,en,clock,vs,hl,hb,hmo⟩:=hR.s.YJ (Ib ha hgx)
           have hzv:(zeroValue et).run P w=.ok z w:=by simp [zeroValue,typeInfo,hi,hzi.trans hz]
           obtain ⟨v,hrun,hmv⟩:=hmo.look (P:=P) hb c (hg.AW t _ (DC hmt)).1 (hg.AW kt _ (ID h1)).1 hzv (Sb (F:=F) h3 hzr) (QX T.kt key)
           have e1:=Cn hvm hl
           have e2:=AP hvk
           rw [show BQ Bv (T.en es) (T.kt.val key)=(BQ T.kt.Bv es key).map T.r.en from Rk T key es] at hrun hmv
           have hd:(((BQ T.kt.Bv es key).map T.r.en).getD (T.r.en zr))=T.r.en ((BQ T.kt.Bv es key).getD zr):=by cases BQ T.kt.Bv es key <;> rfl
           rw [hd] at hmv
           rw [Option.isSome_map] at hrun
           have hxv:=Kg (loc:=loc) hmv
           cases c with
           | true =>
             refine ⟨.tuple #[v,.bool (BQ T.kt.Bv es key).isSome],?_,?_⟩
             · simp only [execOp,hop]
               rw [e1,e2]
               simp [hrun]
             · refine .tp _ [v,.bool (BQ T.kt.Bv es key).isSome] (fun j=>[v,Value.bool (BQ T.kt.Bv es key).isSome].getD j undef) rfl (fun j hj=>?_) (fun j y hj=>?_)
               · match j,hj with
                 | 0,_=>rfl
                 | 1,_=>rfl
                 | j+2,hj=>exact absurd (show j+2 < 2 from hj) (by omega)
               · match j,hj with
                 | 0,hj=>cases hj; exact hxv
                 | 1,hj=>cases hj; exact .t _ _ (.sc _ rfl)
                 | j+2,hj=>simp [Bp] at hj
           | false =>
             refine ⟨v,?_,hxv⟩
             simp only [execOp,hop]
             rw [e1,e2]
             simp [hrun]
         · trivial
       · trivial
     · trivial
   · trivial
 · trivial
def Ml (D:Ah)(g:XG)(t:TypeId)(x:X):Out :=
 match x with
 | .mp o=>match Mn (gx g o) with
   | some ⟨T,es⟩=>cond (Hw (D.AW t)).isSome (NK .i64 (List.length (α:=T.kt.den × T.r.den) es)) .bad
   | none=>.bad
 | _=>.bad
theorem NT (hg:Good P D) {g:XG} {o:Oper} {st:St} (ha:Ad g st.s) {t:TypeId} {ox:Operand} {x:X} (hop:o.op=.call ⟨.builtin .len,#[ox],#[t]⟩) (hx:ev AM st.t ox=x.enc):Au P o st (Ml D g t x):=by
 unfold Ml
 split
 · rename_i n
   split
   · rename_i T es hgx
     refine AB (fun hc=>?_) (fun _=>trivial)
     obtain ⟨⟨kt,et⟩,hmt⟩:=Option.isSome_iff_exists.1 hc
     refine CD.pure fun B F loc a w hR=>?_
     have hvm:=AV hR ox
     rw [hx] at hvm
     obtain ⟨b,en,clock,vs,hl,hb,hmo⟩:=hR.s.YJ (Ib ha hgx)
     have e1:=Cn hvm hl
     have hsz:en.size=List.length (α:=T.kt.den × T.r.den) es:=by
       obtain ⟨v0,hpv,hen⟩:=hmo.LV
       rw [hen.size,hpv.length_eq,hmo.al.1]
       unfold MT.en
       rw [List.length_map]
     refine ⟨goInt en.size,Ou hop ?_,by rw [hsz]; exact .t _ _ (.sc _ rfl)⟩
     rw [e1]
     simp [Builtin.len_,run_underlying (hg.AW t _ (DC hmt)).1,Go.MapKept.run_getObj_map hb]
   · trivial
 · trivial
def NU (D:Ah)(g:XG)(dst:Option Nat)(t:TypeId)(x:X):Out :=
 match dst,x with
 | some d,.mp o=>match g d,gx g o with
   | none,some (.mp T es)=>cond (Hw (D.AW t)).isSome (.ok (.it d) [(d,some (.mi o)),(o,some (.mq T es d es []))]) .bad
   | _,_=>.bad
 | _,_=>.bad
theorem NY (hg:Good P D) {g:XG} {o:Oper} {st:St} (ha:Ad g st.s) {t:TypeId} {ox:Operand} {x:X} (hop:o.op=.range t ox) (hx:ev AM st.t ox=x.enc):Au P o st (NU D g o.dst t x):=by
 unfold NU
 split
 · rename_i d n hd
   split
   · rename_i T es hn hgx
     refine AB (fun hc=>?_) (fun _=>trivial)
     obtain ⟨⟨kt,et⟩,hmt⟩:=Option.isSome_iff_exists.1 hc
     have hfree:=ha.no d hn
     have hs:=ha.is _ _ (BU hgx)
     intro B F loc a w hR
     have hvm:=AV hR ox
     rw [hx] at hvm
     obtain ⟨b,hl,hrun,hS⟩:=hR.s.mapRange (P:=P) hs hfree (hg.AW t _ (DC hmt)).1
     have e1:=Cn hvm hl
     refine ⟨F,_,_,.pointer (some ⟨w.heap.size,0,none⟩),_,?_,.inl rfl,hS,CM hR.s _,Ak.Ae (Cc hR.s hfree),.it _ _ (AA _ _ _)⟩
     simp only [execOp,hop]
     rw [e1]
     simp [hrun]
   · trivial
 · trivial
def Pr (g:XG) (x:X):Out :=
 match x with
 | .it i => match gx g i with
   | some (.mi m)=>match gx g m with
     | some (.mq T es i' rest _)=>cond (Nat.beq i' i) (.any (T.kt.den × T.r.den) (.tp [.b false]) [(m,some (.mp T es))] rest
         fun j a=>(.tp [.b true,Uc T.kt a.1,TN T a.2],[(m,some (.mq T es i (List.eraseIdx (α:=T.kt.den × T.r.den) rest j) [a]))])) .bad
     | _=>.bad
   | _=>.bad
 | _=>.bad
theorem PZ {g:XG} {o:Oper} {st:St} (ha:Ad g st.s) {ox:Operand} {x:X} (hop:o.op=.next ox false) (hx:ev AM st.t ox=x.enc):Au P o st (Pr g x):=by
 unfold Pr
 split
 · rename_i i
   split
   · rename_i m hgi
     split
     · rename_i T es i' rest cu hgm
       refine AB (fun hc=>?_) (fun _=>trivial)
       have e0:=Nat.eq_of_beq_eq_true hc
       subst e0
       have hsi:=ha.is _ _ (BU hgi)
       have hsm:=ha.is _ _ (BU hgm)
       constructor
       · intro hr
         intro B F loc a w hR
         have hv:=AV hR ox
         rw [hx] at hv
         rcases hR.s.mapNext (P:=P) hsm hsi o.type hv with ⟨_,hrun,hS⟩ | ⟨j,k,r,v1,w1,hj,_⟩
         · refine ⟨F,loc,w,.tuple #[.bool false],_,?_,.inl rfl,hS,Kept.refl _ _,Ak.refl _,?_⟩
           · simp only [execOp,hop]
             simp [hrun]
           · refine .tp _ [.bool false] (fun j=>[Value.bool false].getD j undef) rfl (fun j hj=>?_) (fun j y hj=>?_)
             · match j,hj with
               | 0,_=>rfl
               | j+1,hj=>exact absurd (show j+1 < 1 from hj) (by omega)
             · match j,hj with
               | 0,hj=>cases hj; exact .t _ _ (.sc _ rfl)
               | j+1,hj=>simp [Bp] at hj
         · subst hr; simp [MT.en] at hj
       · intro hr
         intro B F loc a w hR
         have hv:=AV hR ox
         rw [hx] at hv
         rcases hR.s.mapNext (P:=P) hsm hsi o.type hv with ⟨h0,_⟩ | ⟨j,k,r,v1,w1,hj,hrun,hmv,hk,hS,hkp⟩
         · unfold MT.en at h0; exact absurd (List.map_eq_nil_iff.1 h0) hr
         · have hj':=hj
           unfold MT.en at hj'
           rw [List.getElem?_map] at hj'
           obtain ⟨a1,ha1,he⟩:=Option.map_eq_some_iff.1 hj'
           obtain ⟨rfl,rfl⟩:=Prod.mk.inj he
           have em:∀ {α β:Type} (g:α->β) (l:List α) (i:Nat),(l.eraseIdx i).map g=(l.map g).eraseIdx i:=by
             intro α β g l
             induction l with
             | nil=>intro i; rfl
             | cons x l ih=>intro i; cases i with
               | zero=>rfl
               | succ i=>simp only [List.eraseIdx_cons_succ,List.map_cons,ih]
           refine ⟨_,_,⟨j,a1,ha1,rfl,rfl⟩,F,loc,w1,.tuple #[.bool true,T.kt.val a1.1,v1],_,?_,.inl rfl,?_,hkp,Ak.refl _,?_⟩
           · simp only [execOp,hop]
             simp [hrun]
           · show AK AM B w1 F loc (Ae st.s m (some (some (.mq T.kt.desc T.ag (T.en es) i' (T.en (List.eraseIdx (α:=T.kt.den × T.r.den) rest j)) (T.en [a1])))))
             have e3:T.en (List.eraseIdx (α:=T.kt.den × T.r.den) rest j)=(T.en rest).eraseIdx j:=by unfold MT.en; exact em _ _ _
             rw [e3]
             exact hS
           · refine .tp _ [.bool true,T.kt.val a1.1,v1] (fun j=>[Value.bool true,T.kt.val a1.1,v1].getD j undef) rfl (fun j hj=>?_) (fun j y hj=>?_)
             · match j,hj with
               | 0,_=>rfl
               | 1,_=>rfl
               | 2,_=>rfl
               | j+3,hj=>exact absurd (show j+3 < 3 from hj) (by omega)
             · match j,hj with
               | 0,hj=>cases hj; exact .t _ _ (.sc _ rfl)
               | 1,hj =>
                 cases hj
                 show AF w1 F loc (Uc T.kt a1.1).enc (T.kt.val a1.1)
                 rw [PA]
                 exact .t _ _ (.sc _ (MF _ _))
               | 2,hj=>cases hj; exact Kg hmv
               | j+3,hj=>simp [Bp] at hj
     · trivial
   · trivial
 · trivial
def RH (g:XG) (x:X):Out :=
 match x with
 | .it i=>match gx g i with
   | some (.mi m)=>match gx g m with
     | some (.mq T _ i' _ cu)=>match (cu:List (T.kt.den × T.r.den)) with
       | [a]=>cond (Nat.beq i' i) (.ok (.tp [Uc T.kt a.1,TN T a.2]) []) .bad
       | _=>.bad
     | _=>.bad
   | _=>.bad
 | _=>.bad
theorem PO {g:XG} {o:Oper} {st:St} (ha:Ad g st.s) {ox:Operand} {x:X} (hop:o.op=.entry ox) (hx:ev AM st.t ox=x.enc):Au P o st (RH g x):=by
 unfold RH
 split
 · rename_i i
   split
   · rename_i m hgi
     split
     · rename_i T es i' rest cu hgm
       split
       · rename_i q a0
         refine AB (fun hc=>?_) (fun _=>trivial)
         have e0:=Nat.eq_of_beq_eq_true hc
         subst e0
         have hsi:=ha.is _ _ (BU hgi)
         have hsm:=ha.is _ _ (BU hgm)
         refine CD.pure fun B F loc a w hR=>?_
         have hv:=AV hR ox
         rw [hx] at hv
         obtain ⟨v1,hrun,hmv⟩:=hR.s.mapEntry (P:=P) (k:=T.kt.val a0.1) (r:=T.r.en a0.2) (cu:=_) hsm hsi rfl hv
         refine ⟨.tuple #[T.kt.val a0.1,v1],?_,?_⟩
         · simp only [execOp,hop]
           simp [hrun]
         · refine .tp _ [T.kt.val a0.1,v1] (fun j=>[T.kt.val a0.1,v1].getD j undef) rfl (fun j hj=>?_) (fun j y hj=>?_)
           · match j,hj with
             | 0,_=>rfl
             | 1,_=>rfl
             | j+2,hj=>exact absurd (show j+2 < 2 from hj) (by omega)
           · match j,hj with
             | 0,hj =>
               cases hj
               show AF w F loc (Uc T.kt a0.1).enc (T.kt.val a0.1)
               rw [PA]
               exact .t _ _ (.sc _ (MF _ _))
             | 1,hj=>cases hj; exact Kg hmv
             | j+2,hj=>simp [Bp] at hj
       · trivial
     · trivial
   · trivial
 · trivial
def RP (D:Ah)(g:XG)(dst:Option Nat)(t:TypeId)(x:X):Out :=
 match dst,x with
 | some d,.s s=>match g d with
   | none=>cond (DR (D.AW t)) (.ok (.it d) [(d,some (.si s 0))]) .bad
   | some _=>.bad
 | _,_=>.bad
def Vf (g:XG)(str:Bool)(x:X):Out :=
 match str,x with
 | true,.it o=>match gx g o with
   | some (.si s pos)=>.cs (decide (pos < s.size)) (.tp [.b true,.i .i64 (pos:Int),.i .i32 ((Utf8.decode s pos).1:Int)]) [(o,some (.si s (pos+(Utf8.decode s pos).2)))] (.tp [.b false]) []
   | _=>.bad
 | _,_=>.bad
theorem PG (hg:Good P D) {g:XG} {o:Oper} {st:St} (ha:Ad g st.s) {t:TypeId} {ox:Operand} {x:X} (hop:o.op=.range t ox) (hx:ev AM st.t ox=x.enc):Au P o st (RP D g o.dst t x):=by
 unfold RP
 split
 · rename_i d s hd
   split
   · rename_i hn
     refine AB (fun hs=>?_) (fun _=>trivial)
     have hfree:=ha.no d hn
     have hu:=(hg.AW t _ (BP hs)).1
     intro B F loc a w hR
     have hv:=AV hR ox
     rw [hx] at hv
     have hv2:=AP hv
     refine ⟨F,Ae loc d (some (.Bo w.heap.size)),w.alloc (.stringIter s 0),.pointer (some ⟨w.heap.size,0,none⟩),_,?_,.inl rfl,hR.s.alloc hfree (.si s 0 _ (heap_alloc_new w _)),CM hR.s _,Ak.Ae (Cc hR.s hfree),.it _ _ (AA _ _ _)⟩
     simp only [execOp,hop]
     rw [hv2]
     simp [run_range_string (P:=P) w t s hu,World.iter]
   · trivial
 · trivial
omit [Mo] in
theorem RX {w:World}{F:Nat->Prop}{loc:Nat->Option Loc}{o:Nat}{v:Value}{b:Nat}(h:AF w F loc (.it o) v)(hl:loc o=some (.Bo b)):v=.pointer (some ⟨b,0,none⟩):=by
 cases h with
 | gone _ o' _ hx ho=>cases hx; rw [hl] at ho; cases ho
 | it _ b' ho=>rw [hl] at ho; cases ho; rfl
omit [Mo] in
theorem Wb {w:World}{b pos:Nat}{s:ByteArray}{ty:TypeId}(hb:w.heap[b]? = some (.stringIter s pos))(h:pos < s.size) :
   (Instr.next (.pointer (some ⟨b,0,none⟩)) true ty).run P w=.ok (.tuple #[.bool true,.int .i64 pos,.int .i32 (Utf8.decode s pos).1]) { w with heap:=w.heap.setIfInBounds b (.stringIter s (pos+(Utf8.decode s pos).2)) }:=by
 simp [Instr.next,getObj,setObj,Sem.run,hb,h,goInt]
omit [Mo] in
theorem Ud {w:World}{b pos:Nat}{s:ByteArray}{ty:TypeId}(hb:w.heap[b]? = some (.stringIter s pos))(h:¬ pos < s.size) :
   (Instr.next (.pointer (some ⟨b,0,none⟩)) true ty).run P w=.ok (.tuple #[.bool false]) w:=by
 simp [Instr.next,getObj,Sem.run,hb,h]
theorem Pn {g:XG} {o:Oper} {st:St} (ha:Ad g st.s) {str:Bool} {ox:Operand} {x:X} (hop:o.op=.next ox str) (hx:ev AM st.t ox=x.enc):Au P o st (Vf g str x):=by
 unfold Vf
 split
 · rename_i n
   split
   · rename_i s pos hgx
     have hs:=ha.is _ _ (BU hgx)
     constructor
     · intro hc B F loc a w hR
       have hlt:pos < s.size:=of_decide_eq_true hc
       obtain ⟨l,hl,hr⟩:=hR.s.Cg _ _ hs
       cases hr with
       | si _ _ b hb =>
         have hv:=AV hR ox
         rw [hx] at hv
         have hv2:=RX hv hl
         have hbs:b < w.heap.size:=(hR.s.own _ _ b hl rfl).1
         obtain ⟨hS,hk⟩:=hR.s.turn (w':={ w with heap:=w.heap.setIfInBounds b (.stringIter s (pos+(Utf8.decode s pos).2)) }) (x:=.si s (pos+(Utf8.decode s pos).2)) hl rfl (by simp) rfl rfl rfl (fun k hk=>by simp [Array.getElem?_setIfInBounds,Ne.symm hk]) (.si _ _ b (by simp [Array.getElem?_setIfInBounds,hbs])) (fun m h=>by rw [hs] at h; cases h)
         refine ⟨F,loc,_,.tuple #[.bool true,.int .i64 pos,.int .i32 (Utf8.decode s pos).1],_,?_,.inl rfl,hS,hk,Ak.refl _,?_⟩
         · simp only [execOp,hop]
           rw [hv2,Sem.run_bind,Wb hb hlt]; rfl
         · refine .tp _ [.bool true,.int .i64 pos,.int .i32 (Utf8.decode s pos).1] (fun j=>[Value.bool true,.int .i64 pos,.int .i32 (Utf8.decode s pos).1].getD j undef) rfl (fun j hj=>?_) (fun j y hj=>?_)
           · match j,hj with
             | 0,_=>rfl
             | 1,_=>rfl
             | 2,_=>rfl
             | j+3,hj=>exact absurd (show j+3 < 3 from hj) (by omega)
           · match j,hj with
             | 0,hj=>cases hj; exact .t _ _ (.sc _ rfl)
             | 1,hj=>cases hj; exact .t _ _ (.sc _ rfl)
             | 2,hj=>cases hj; exact .t _ _ (.sc _ rfl)
             | j+3,hj=>simp [Bp] at hj
     · intro hc B F loc a w hR
       have hlt:¬ pos < s.size:=of_decide_eq_false hc
       obtain ⟨l,hl,hr⟩:=hR.s.Cg _ _ hs
       cases hr with
       | si _ _ b hb =>
         have hv:=AV hR ox
         rw [hx] at hv
         have hv2:=RX hv hl
         refine ⟨F,loc,w,.tuple #[.bool false],_,?_,.inl rfl,hR.s,Kept.refl _ _,Ak.refl _,?_⟩
         · simp only [execOp,hop]
           rw [hv2,Sem.run_bind,Ud hb hlt]; rfl
         · refine .tp _ [.bool false] (fun j=>[Value.bool false].getD j undef) rfl (fun j hj=>?_) (fun j y hj=>?_)
           · match j,hj with
             | 0,_=>rfl
             | j+1,hj=>exact absurd (show j+1 < 1 from hj) (by omega)
           · match j,hj with
             | 0,hj=>cases hj; exact .t _ _ (.sc _ rfl)
             | j+1,hj=>simp [Bp] at hj
   · trivial
 · trivial
def fF (D:Ah)(t:TypeId)(gl:Nat)(i:X):Out :=
 match cr Wv gl,D.AW t,i with
 | some ⟨r,xs⟩,some (.array len e),.i _ n=>cond (Nat.beq r.len (D.size e) && Nat.beq xs.length len && D.has e) (.Nk r.den (ix xs n) fun a=>(.pf r a 0,[])) .bad
 | _,_,_=>.bad
omit [Mo] in
theorem flat_get {α:Type}{f:α->List T}{m:Nat}:∀ {xs:List α} {n:Nat} {a:α},(∀ x ∈ xs,(f x).length=m)->xs[n]? = some a->∀ j,j < m->((xs.map f).flatten)[n * m+j]? = (f a)[j]? /\ n * m+j < ((xs.map f).flatten).length
 | [],n,a,_,h,_,_=>by simp at h
 | x :: xs,0,a,hm,h,j,hj=>by
   simp only [List.getElem?_cons_zero,Option.some.injEq] at h
   subst h
   have hl:=hm x (by simp)
   simp only [List.map_cons,List.flatten_cons,Nat.zero_mul,Nat.zero_add,List.length_append]
   exact ⟨List.getElem?_append_left (by omega),by omega⟩
 | x :: xs,n+1,a,hm,h,j,hj=>by
   have hl:=hm x (by simp)
   have ih:=flat_get (xs:=xs) (n:=n) (a:=a) (fun y hy=>hm y (by simp [hy])) (by simpa using h) j hj
   simp only [List.map_cons,List.flatten_cons,List.length_append]
   have e:(n+1) * m+j=(f x).length+(n * m+j):=by rw [hl,Nat.add_mul]; omega
   rw [e]
   exact ⟨by rw [List.getElem?_append_right (by omega),Nat.add_sub_cancel_left]; exact ih.1,by omega⟩
theorem UL (hg:Good P D) {o:Oper} {st:St} {t:TypeId} {gl:Nat} {oi:Operand} {i:X} (hop:o.op=.indexAddr t (.global gl) oi) (hi:ev AM st.t oi=i.enc):Au P o st (fF D t gl i):=by
 unfold fF
 split
 · rename_i r xs len e k n hgl hu
   refine AB (fun hc=>?_) (fun _=>trivial)
   simp only [Bool.and_eq_true] at hc
   obtain ⟨⟨h1,h2⟩,h3⟩:=hc
   have hr:=Nat.eq_of_beq_eq_true h1
   have hlen:=Nat.eq_of_beq_eq_true h2
   obtain ⟨d,hd⟩:=BH h3
   intro a ha
   obtain ⟨hn0,hget⟩:=RE ha
   have hlt:n.toNat < xs.length:=(List.getElem?_eq_some_iff.1 hget).1
   refine CD.pure fun B F loc ac w hR=>?_
   have hG:AM gl=some (xs.map r.en).flatten:=by unfold AM; rw [hgl]
   obtain ⟨hF,val,hcell,hrel⟩:=hR.s.FE gl _ hG
   have hv:=AP (show AF w F loc (.t (.sc (.int k n))) (ac.eval oi) by have:=AV hR oi; rw [hi] at this; exact this)
   have hfl:=fun j (hj:j < r.len)=>flat_get (f:=r.en) (m:=r.len) (xs:=xs) (fun x _=>r.CS x) hget j hj
   refine ⟨.pointer (some ⟨gl,n.toNat * r.len,none⟩),?_,?_⟩
   · simp only [execOp,hop]
     rw [hv]
     show ((do pure (Next.value (<- Instr.indexAt t (.pointer (some ⟨gl,0,none⟩)) (.int k n))):Sem Next)).run P w=_
     simp [Instr.indexAt,asIntOf,run_underlying (hg.AW t _ hu).1 w,hn0,show n < (len:Int) by omega,CW hg hd,Instr.sureAddr,Addr.add,hr]
     intro h; exact h.symm
   · have:=AF.pf (w:=w) (F:=F) (loc:=loc) (r.en a) 0 gl (n.toNat * r.len) (fun j=>val (n.toNat * r.len+j)) hF (fun j hj=>hcell _ (hfl j (by rw [r.CS] at hj; exact hj)).2) (fun j x hj=>hrel _ x (by
       have hj':j < r.len:=by have:=(List.getElem?_eq_some_iff.1 hj).1; rw [r.CS] at this; exact this
       rw [(hfl j hj').1]; exact hj))
     rw [show gl=gl from rfl] at this
     show AF w F loc (V.pf (r.en a) 0) _
     simpa using this
 · trivial
def Wq (y:X)(x:X):Bool:=match x with | .fz .u _ _=>Ct y | .sl .u _=>Ct y | .sw _ _ _=>Ct y | _=>false
def dN (D:Ah) (rows:Nat->Option Row) (g:XG) (e:Operand->X) (o:Oper):Out :=
 match o.op with
 | .move x=>.ok (e x) []
 | .assign x=>.ok (e x) []
 | .pick c a b=>(match e c with | .b q=>.ok (VI q (e a) (e b)) [] | _=>.bad)
 | .extract x i=>(match e x with | .tp l=>(match l[i]? with | some v=>.ok v [] | none=>.bad) | _=>.bad)
 | .binOp op t x y _=>cond (Wq (e y) (e x)) (UO D g op t (e x) (e y)) (cond (UZ (e x)) (Yt D op t (e x) (e y)) (Zw (Yj D g op t x y (e x) (e y))))
 | .unOp op _ x=>Zw (fC op (e x))
 | .range t x=>(match Hw (D.AW t) with | some _=>NU D g o.dst t (e x) | none=>RP D g o.dst t (e x))
 | .next x true=>Vf g true (e x)
 | .next x false=>Pr g (e x)
 | .entry x=>RH g (e x)
 | .makeMap t none=>(match rows t with | some r=>Kp D g (some r) o.dst t | none=>Mx D g o.dst t)
 | .mapUpdate t m k x=>(match Un g (e m) with | some (q,t', cells)=>QH D g t q t' cells (e k) (e x) | none=>Gb D g t (e m) (e k) (e x))
 | .lookup t m k c=>(match Un g (e m) with | some (_,t', cells)=>QR D t t' cells (e k) c | none=>Ga D g t (e m) (e k) c)
 | .call ⟨.builtin .delete,⟨[m,k]⟩,⟨[t,t2]⟩⟩=>(match Un g (e m) with | some (q,t', cells)=>Qa D t t2 q t' cells (e k) | none=>GX D g t t2 (e m) (e k))
 | .convert src dst x=>(match Bt (D.AW src) with
   | some _=>IG D g src dst (e x)
   | none=>(match Bt (D.AW dst),e x with
     | some el,.s s=>Hl D g o.dst src el s
     | _,_=>Zw (VB D src dst (e x))))
 | .nilCheck x=>(match WU (e x),Nv g (e x) with | .ptr,some false=>.ok (e x) [] | _,_=>.bad)
 | .fieldAddr t x f=>Zw (GF D g t (e x) f)
 | .indexAddr t (.global gl) i=>fF D t gl (e i)
 | .indexAddr t x i=>Gf D g t (e x) (e i)
 | .field t x f=>Zw (QE D t (e x) f)
 | .index t x i=>Pj D t (e x) (e i)
 | .build t parts=>QY D g t (parts.toList.map fun p=>(p.1,e p.2))
 | .buildSlice t len parts=>Er D g (rows t) o.dst t len (parts.toList.map fun p=>(p.1,e p.2))
 | .makeSlice t x y=>GR D g (rows t) o.dst t x y (e x)
 | .load t x=>RR D g t (e x)
 | .store t p x=>Pp D g t (e p) (e x)
 | .slice t x lo hi none=>Ql D g t (e x) (lo.map e) (hi.map e)
 | .box t x=>Wh g o.dst t (e x)
 | .alloc t=>(match SG D t with | some z=>Wh g o.dst t z | none=>.bad)
 | .makeFunc (.func f) first caps=>cond first.isEmpty (.ok (.fn f (caps.toList.map e)) []) .bad
 | .makeInterface t x=>cond (D.has t && !(Nc (D.AW t))) (.ok (.BE t (e x)) []) .bad
 | .typeAssert x _ t true=>NG D (e x) t
 | .call ⟨.builtin .len,⟨[x]⟩,⟨[t]⟩⟩=>(match Hw (D.AW t) with | some _=>Ml D g t (e x) | none=>Zh D g t (e x))
 | .call ⟨.builtin .clear,⟨[x]⟩,⟨[t]⟩⟩=>QG D g t (e x)
 | .call ⟨.builtin .max,⟨[x,y]⟩,_⟩=>Zz mx (e x) (e y)
 | .call ⟨.builtin .min,⟨[x,y]⟩,_⟩=>Zz mn (e x) (e y)
 | .call ⟨.builtin .append,⟨[x,y]⟩,⟨[t,t']⟩⟩=>cond (Nat.beq t' t) (NB D g o.dst t (e x) (e y)) (match e y with | .s s=>Kj D g o.dst t t' (e x) s | _=>.bad)
 | _=>.bad
theorem Oj (hg:Good P D) {rows:Nat->Option Row} {g:XG} {o:Oper} {st:St} {e:Operand->X} (ha:Ad g st.s) (he:∀ x ∈ o.op.operands.toList,ev AM st.t x=(e x).enc):Au P o st (dN D rows g e o):=by
 have pure:∀ {v:X},HS D o.op (ev AM st.t) st.s=some v.enc->Au P o st (.ok v []):=fun h=>BJ hg rfl h
 unfold dN
 split
 · rename_i x hop
   have hx:=he x (by rw [hop]; simp [Op.operands])
   exact pure (by rw [hop]; show some (ev AM st.t x)=_; rw [hx])
 · rename_i x hop
   have hx:=he x (by rw [hop]; simp [Op.operands])
   exact pure (by rw [hop]; show some (ev AM st.t x)=_; rw [hx])
 · rename_i c a b hop
   have hc:=he c (by rw [hop]; simp [Op.operands])
   have hxa:=he a (by rw [hop]; simp [Op.operands])
   have hxb:=he b (by rw [hop]; simp [Op.operands])
   split
   · rename_i q hq
     refine pure ?_
     rw [hop]
     show (match ev AM st.t c with | .t (.sc (.bool q))=>some (OM q (ev AM st.t a) (ev AM st.t b)) | _=>none)=_
     rw [hc,hq,hxa,hxb]
     show some (OM q (e a).enc (e b).enc)=_
     rw [Kf,TG]
   · trivial
 · rename_i x i hop
   have hx:=he x (by rw [hop]; simp [Op.operands])
   split
   · rename_i l hl
     split
     · rename_i v hv
       refine pure ?_
       rw [hop]
       show (match ev AM st.t x with | .tp vs=>vs[i]? | _=>none)=_
       rw [hx,hl]
       show (Bp l)[i]? = _
       rw [Aa,List.getElem?_map,hv]; rfl
     · trivial
   · trivial
 · rename_i op t x y q hop
   have hx:=he x (by rw [hop]; simp [Op.operands])
   have hy:=he y (by rw [hop]; simp [Op.operands])
   exact AB (fun _=>QO hg ha hop hx hy) (fun _=>AB (fun _=>TJ hg hop hx hy) (fun _=>IH.ok hg hop (Ss ha hx hy).l))
 · rename_i op t x hop
   have hx:=he x (by rw [hop]; simp [Op.operands])
   exact IH.ok hg hop (VD hx).l
 · rename_i t x hop
   split
   · exact NY hg ha hop (he x (by rw [hop]; simp [Op.operands]))
   · exact PG hg ha hop (he x (by rw [hop]; simp [Op.operands]))
 · rename_i x hop
   exact Pn ha hop (he x (by rw [hop]; simp [Op.operands]))
 · rename_i x hop
   exact PZ ha hop (he x (by rw [hop]; simp [Op.operands]))
 · rename_i x hop
   exact PO ha hop (he x (by rw [hop]; simp [Op.operands]))
 · rename_i t hop
   split
   · exact LK ha hop
   · exact Nh ha hop
 · rename_i t m k x hop
   have hm:=he m (by rw [hop]; simp [Op.operands])
   have hk:=he k (by rw [hop]; simp [Op.operands])
   have hx:=he x (by rw [hop]; simp [Op.operands])
   split
   · rename_i q t' cells hq
     obtain ⟨e1,e2⟩:=Hg hq
     exact PB hg ha hop (hm.trans (by rw [e1]; rfl)) hk hx e2
   · exact JT hg ha hop hm hk hx
 · rename_i t m k c hop
   have hm:=he m (by rw [hop]; simp [Op.operands])
   have hk:=he k (by rw [hop]; simp [Op.operands])
   split
   · rename_i q t' cells hq
     obtain ⟨e1,e2⟩:=Hg hq
     exact OI hg ha hop (hm.trans (by rw [e1]; rfl)) hk e2
   · exact JM hg ha hop hm hk
 · rename_i m k t t2 hop
   have hm:=he m (by rw [hop]; simp [Op.operands,Call.operands])
   have hk:=he k (by rw [hop]; simp [Op.operands,Call.operands])
   split
   · rename_i q t' cells hq
     obtain ⟨e1,e2⟩:=Hg hq
     exact Oi hg ha hop (hm.trans (by rw [e1]; rfl)) hk e2
   · exact JU hg ha hop hm hk
 · rename_i src dst x hop
   have hx:=he x (by rw [hop]; simp [Op.operands])
   split
   · exact KL hg ha hop hx
   · split
     · rename_i el s hde hes
       exact KW hg ha hop (Ag hde) (by rw [hx,hes])
     · exact IH.ok hg hop (QN hx).l
 · rename_i x hop
   have hx:=he x (by rw [hop]; simp [Op.operands])
   split
   · rename_i hk hn
     refine pure ?_
     rw [hop]
     show (match kd (ev AM st.t x),Es st.s (ev AM st.t x) with | .ptr,some false=>some (ev AM st.t x) | _,_=>none)=_
     rw [hx,Gz,hk,Lu ha hn]
   · trivial
 · rename_i t x f hop
   exact IH.ok hg hop (JN ha (he x (by rw [hop]; simp [Op.operands]))).l
 · rename_i t gl i hop
   exact UL hg hop (he i (by rw [hop]; simp [Op.operands]))
 · rename_i t x i hng hop
   exact JQ hg ha hop (he x (by rw [hop]; simp [Op.operands])) (he i (by rw [hop]; simp [Op.operands]))
 · rename_i t x f hop
   exact IH.ok hg hop (PJ (he x (by rw [hop]; simp [Op.operands]))).l
 · rename_i t x i hop
   exact Ob hg hop (he x (by rw [hop]; simp [Op.operands])) (he i (by rw [hop]; simp [Op.operands]))
 · rename_i t parts hop
   refine PK hg ha hop ?_
   rw [List.map_map]
   refine List.map_congr_left fun p hp=>?_
   show (p.1,ev AM st.t p.2)=(p.1,(e p.2).enc)
   rw [he p.2 (by rw [hop]; simp only [Op.operands,List.toList_toArray,List.mem_map]; exact ⟨p,hp,rfl⟩)]
 · rename_i t len parts hop
   refine Hi hg ha hop ?_
   rw [List.map_map]
   refine List.map_congr_left fun p hp=>?_
   show (p.1,ev AM st.t p.2)=(p.1,(e p.2).enc)
   rw [he p.2 (by rw [hop]; simp only [Op.operands,List.toList_toArray,List.mem_map]; exact ⟨p,hp,rfl⟩)]
 · rename_i t x y hop
   exact JK hg ha hop (he x (by rw [hop]; simp [Op.operands]))
 · rename_i t x hop
   exact IH.ok hg hop (KM ha (he x (by rw [hop]; simp [Op.operands])))
 · rename_i t p x hop
   exact Ox hg ha hop (he p (by rw [hop]; simp [Op.operands])) (he x (by rw [hop]; simp [Op.operands]))
 · rename_i t x lo hi hop
   have hm:∀ (y:Option Operand),(∀ z,y=some z->z ∈ o.op.operands.toList)->y.map (ev AM st.t)=(y.map e).map X.enc:=by
     intro y hy
     cases y with
     | none=>rfl
     | some z=>simp [he z (hy z rfl)]
   exact Nx hg ha hop (he x (by rw [hop]; simp [Op.operands])) (hm lo (by rintro z rfl; rw [hop]; simp [Op.operands])) (hm hi (by rintro z rfl; rw [hop]; simp [Op.operands]))
 · rename_i t x hop
   exact Lj hg ha (.inl ⟨x,hop,he x (by rw [hop]; simp [Op.operands])⟩)
 · rename_i t hop
   split
   · rename_i z hz
     exact Lj hg ha (.inr ⟨hop,KG hz⟩)
   · trivial
 · rename_i f first caps hop
   refine AB (fun hf=>?_) (fun _=>trivial)
   refine pure ?_
   rw [hop]
   show (if first.isEmpty then some (V.fn f (caps.toList.map (ev AM st.t))) else none)=_
   rw [if_pos hf]
   show _=some (V.fn f (Bp (caps.toList.map e)))
   rw [Aa,List.map_map]
   congr 2
   refine List.map_congr_left fun p hp=>?_
   exact he p (by rw [hop]; simp only [Op.operands,Array.toList_append,List.mem_append]; exact .inr hp)
 · rename_i t x hop
   refine AB (fun hf=>?_) (fun _=>trivial)
   simp only [Bool.and_eq_true,Bool.not_eq_true'] at hf
   obtain ⟨d,hd⟩:=BH hf.1
   have hx:=he x (by rw [hop]; simp [Op.operands])
   refine pure ?_
   rw [hop]
   show (match D.AW t with | some (.interface _)=>none | some _=>some (V.BE t (ev AM st.t x)) | none=>none)=_
   have hni:=hf.2
   rw [hd] at hni ⊢
   rw [hx]
   cases d <;> first | (simp [Nc] at hni; done) | rfl
 · rename_i x xt t hop
   exact Mu hg hop (he x (by rw [hop]; simp [Op.operands]))
 · rename_i x t hop
   split
   · exact NT hg ha hop (he x (by rw [hop]; simp [Op.operands,Call.operands]))
   · exact Sq hg ha hop (he x (by rw [hop]; simp [Op.operands,Call.operands]))
 · rename_i x t hop
   exact Oc hg ha hop (he x (by rw [hop]; simp [Op.operands,Call.operands]))
 · rename_i x y ts hop
   exact Ta hg hop (he x (by rw [hop]; simp [Op.operands,Call.operands])) (he y (by rw [hop]; simp [Op.operands,Call.operands]))
 · rename_i x y ts hop
   exact SU hg hop (he x (by rw [hop]; simp [Op.operands,Call.operands])) (he y (by rw [hop]; simp [Op.operands,Call.operands]))
 · rename_i x y t t' hop
   have hy:=he y (by rw [hop]; simp [Op.operands,Call.operands])
   refine AB (fun hf=>?_) (fun _=>?_)
   · have:=Nat.eq_of_beq_eq_true hf
     subst this
     exact ND hg ha hop (he x (by rw [hop]; simp [Op.operands,Call.operands])) hy
   · split
     · rename_i s hs
       exact LI hg ha hop (he x (by rw [hop]; simp [Op.operands,Call.operands])) (by rw [hy,hs])
     · trivial
 · trivial
end Go.Proofs.YtobfoiomjfdjjaaDoor.Mc
namespace Go.Proofs.YtobfoiomjfdjjaaDoor.Mc
open Go.RowKit
variable [Mo]
variable {P:Program}{D:Ah}
mutual
def X.AQ (f:Nat->Option Nat):X->X
 | .sl nl o=>match f o with | some o'=>.sl nl o' | none=>.dead
 | .sw o off len=>match f o with | some o'=>.sw o' off len | none=>.dead
 | .pt o off=>match f o with | some o'=>.pt o' off | none=>.dead
 | .pe o i off=>match f o with | some o'=>.pe o' i off | none=>.dead
 | .mp o=>match f o with | some o'=>.mp o' | none=>.dead
 | .it o=>match f o with | some o'=>.it o' | none=>.dead
 | .sp o=>match f o with | some o'=>.sp o' | none=>.dead
 | .fn g caps=>.fn g (De f caps)
 | .ag cs=>.ag (De f cs)
 | .tp cs=>.tp (De f cs)
 | .BE t x=>.BE t (X.AQ f x)
 | x=>x
def De (f:Nat->Option Nat):List X->List X
 | []=>[]
 | x :: xs=>X.AQ f x :: De f xs
end
omit [Mo] in
mutual
theorem X.Bm (f:Nat->Option Nat):∀ (x:X),(x.AQ f).enc=x.enc.AQ f
 | .sl nl o=>by simp only [X.AQ,X.enc,V.AQ]; cases f o <;> rfl
 | .sw o off len=>by simp only [X.AQ,X.enc,V.AQ]; cases f o <;> rfl
 | .pt o off=>by simp only [X.AQ,X.enc,V.AQ]; cases f o <;> rfl
 | .pe o i off=>by simp only [X.AQ,X.enc,V.AQ]; cases f o <;> rfl
 | .mp o=>by simp only [X.AQ,X.enc,V.AQ]; cases f o <;> rfl
 | .it o=>by simp only [X.AQ,X.enc,V.AQ]; cases f o <;> rfl
 | .sp o=>by simp only [X.AQ,X.enc,V.AQ]; cases f o <;> rfl
 | .fn g caps=>by simp only [X.AQ,X.enc,V.AQ,DA f caps]
 | .ag cs=>by simp only [X.AQ,X.enc,V.AQ,DA f cs]
 | .tp cs=>by simp only [X.AQ,X.enc,V.AQ,DA f cs]
 | .BE t x=>by simp only [X.AQ,X.enc,V.AQ,X.Bm f x]
 | .c v=>by
   show X.enc (.c v)=V.AQ f (X.enc (.c v))
   simp only [X.enc]
   cases plain v <;> rfl
 | .i k n=>rfl
 | .b q=>rfl
 | .s s=>rfl
 | .fz nl r xs=>rfl
 | .pf r x off=>rfl
 | .dead=>rfl
theorem DA (f:Nat->Option Nat):∀ (xs:List X),Bp (De f xs)=Hn f (Bp xs)
 | []=>rfl
 | x :: xs=>by simp only [De,Bp,Hn,X.Bm f x,DA f xs]
end
mutual
def X.EB (p:Nat->Bool):X->Bool
 | .sl _ o=>p o
 | .sw o _ _=>p o
 | .pt o _=>p o
 | .pe o _ _=>p o
 | .mp o=>p o
 | .it o=>p o
 | .sp o=>p o
 | .fn _ caps=>DW p caps
 | .ag cs=>DW p cs
 | .tp cs=>DW p cs
 | .BE _ x=>X.EB p x
 | _=>true
def DW (p:Nat->Bool):List X->Bool
 | []=>true
 | x :: xs=>X.EB p x && DW p xs
end
def IJ (f:Nat->Option Nat)(n:Nat):Bool:=match f n with | some m=>Nat.beq m n | none=>false
omit [Mo] in
theorem Cm {f:Nat->Option Nat}{n:Nat}(h:IJ f n=true):f n=some n:=by
 unfold IJ at h
 split at h
 · rename_i m hm; rw [hm,Nat.eq_of_beq_eq_true h]
 · cases h
omit [Mo] in
mutual
theorem X.EV (f:Nat->Option Nat):∀ (x:X),x.EB (IJ f)=true->x.AQ f=x
 | .sl nl o,h=>by simp only [X.AQ,Cm h]
 | .sw o off len,h=>by simp only [X.AQ,Cm h]
 | .pt o off,h=>by simp only [X.AQ,Cm h]
 | .pe o i off,h=>by simp only [X.AQ,Cm h]
 | .mp o,h=>by simp only [X.AQ,Cm h]
 | .it o,h=>by simp only [X.AQ,Cm h]
 | .sp o,h=>by simp only [X.AQ,Cm h]
 | .fn g caps,h=>by simp only [X.AQ,EM f caps h]
 | .ag cs,h=>by simp only [X.AQ,EM f cs h]
 | .tp cs,h=>by simp only [X.AQ,EM f cs h]
 | .BE t x,h=>by simp only [X.AQ,X.EV f x h]
 | .c v,_=>rfl
 | .i k n,_=>rfl
 | .b q,_=>rfl
 | .s s,_=>rfl
 | .fz nl r xs,_=>rfl
 | .pf r x off,_=>rfl
 | .dead,_=>rfl
theorem EM (f:Nat->Option Nat):∀ (xs:List X),DW (IJ f) xs=true->De f xs=xs
 | [],_=>rfl
 | x :: xs,h=>by
   simp only [DW,Bool.and_eq_true] at h
   simp only [De,X.EV f x h.1,EM f xs h.2]
end
def XO.AQ (f:Nat->Option Nat):XO->XO
 | .bx e cells=>.bx e (De f cells)
 | .mq t es i rest cu=>match f i with | some i'=>.mq t es i' rest cu | none=>.mp t es
 | .mi m=>match f m with | some m'=>.mi m' | none=>.mi m
 | x=>x
omit [Mo] in
theorem XO.Bm (f:Nat->Option Nat)(x:XO):(x.AQ f).enc=O.AQ f x.enc:=by
 cases x with
 | bx e cells=>simp only [XO.AQ,XO.enc,O.AQ,DA]
 | mq t es i rest cu=>simp only [XO.AQ,XO.enc,O.AQ]; cases f i <;> rfl
 | mi m=>simp only [XO.AQ,XO.enc,O.AQ]; cases f m <;> rfl
 | _=>rfl
def XO.EB (p:Nat->Bool):XO->Bool
 | .bx _ cells=>DW p cells
 | .mq _ _ i _ _=>p i
 | .mi m=>p m
 | _=>true
omit [Mo] in
theorem XO.EV (f:Nat->Option Nat)(x:XO)(h:x.EB (IJ f)=true):x.AQ f=x:=by
 cases x with
 | bx e cells=>simp only [XO.AQ,EM f cells h]
 | mq t es i rest cu=>simp only [XO.AQ,Cm (show IJ f i=true from h)]
 | mi m=>simp only [XO.AQ,Cm (show IJ f m=true from h)]
 | _=>rfl
def ZJ (p:Nat->Bool):Option XO->Bool | some x=>x.EB p | none=>true
def SY (s:XS):Ren:=s.map fun p=>(p.1,p.1)
def Te (E:XE)(st:Aw)(i:Nat):X:=match lk (st.t ++ E.t) i with | some x=>x | none=>.dead
def PR (E:XE) (keep:List Nat) (ρ:Ren) (st:Aw):Option Aw :=
 let ρ':=SY E.s ++ ρ
 cond (CA ρ' && E.a.all (fun o=>IJ (AQ ρ') o) && ρ'.all (fun p=>Nat.beq p.1 p.2 || Nat.blt p.2 1000000)
     && E.t.all (fun p=>(lk st.t p.1).isNone && p.2.EB (IJ (AQ ρ'))) && E.s.all (fun p=>(lk st.s p.1).isNone && ZJ (IJ (AQ ρ')) p.2) && ρ.all (fun p=>(lk st.s p.1).isSome))
   (some ⟨keep.map fun i=>(i,(Te E st i).AQ (AQ ρ')),ρ.map fun p=>(p.2,match lk st.s p.1 with | some x=>x.map (XO.AQ (AQ ρ')) | none=>none)⟩) none
omit [Mo] in
theorem IC (f:V->V)(t:Nat->V):∀ (is:List Nat) (i:Nat),Co f t is i=if i ∈ is then f (t i) else .dead
 | [],i=>by simp [Co,Ye]
 | j :: is,i=>by
   rw [Co]
   by_cases h:i=j
   · subst h; rw [AA]; simp
   · rw [AJ _ _ h,IC f t is i]; simp [h]
omit [Mo] in
theorem CP {α:Type}:∀ {l:List (Nat × α)} {n:Nat} {a:α},lk l n=some a->(n,a) ∈ l
 | (i,b) :: l,n,a,h=>by
   rw [lk] at h
   cases hb:Nat.beq i n with
   | true=>rw [hb] at h; cases h; rw [Nat.eq_of_beq_eq_true hb]; simp
   | false=>rw [hb] at h; exact List.mem_cons_of_mem _ (CP h)
omit [Mo] in
theorem Gy {α:Type}:∀ {l:List (Nat × α)} {n:Nat},lk l n=none->∀ a,(n,a) ∉ l
 | [],n,_,a=>by simp
 | (i,b) :: l,n,h,a=>by
   rw [lk] at h
   cases hb:Nat.beq i n with
   | true=>rw [hb] at h; cases h
   | false =>
     rw [hb] at h
     have hne:i ≠ n:=by rintro rfl; simp at hb
     intro hm
     rcases List.mem_cons.1 hm with hm | hm
     · cases hm; exact hne rfl
     · exact Gy h a hm
omit [Mo] in
theorem JG {α:Type} (f:Nat->α):∀ (l:List Nat) (n:Nat),lk (l.map fun i=>(i,f i)) n=if n ∈ l then some (f n) else none
 | [],n=>by simp [lk]
 | j :: l,n=>by
   rw [List.map_cons,lk]
   cases hb:Nat.beq j n with
   | true=>have:=Nat.eq_of_beq_eq_true hb; subst this; simp
   | false =>
     have hne:¬ n=j:=by rintro rfl; simp at hb
     rw [cond_false,JG f l n]; simp [hne]
omit [Mo] in
theorem Ee (t:XT)(i:Nat):CN t i=(match lk t i with | some x=>x | none=>X.dead).enc:=by unfold CN; cases lk t i <;> rfl
omit [Mo] in
theorem JF {ρ:Ren}:BW (ρ.map (·.2))=true->∀ {p q:Nat × Nat},p ∈ ρ->q ∈ ρ->p.2=q.2->p=q:=by
 intro h p q hp hq e
 have h1:=Cw (ρ:=ρ) (n:=p.1) (n':=p.2) h (by simpa using hp)
 have h2:=Cw (ρ:=ρ) (n:=q.1) (n':=q.2) h (by simpa using hq)
 rw [e,h2] at h1
 cases p; cases q; simp_all
theorem Conv.PR {E:XE} {keep:List Nat} {ρ:Ren} {st st':Aw} (h:Mc.PR E keep ρ st=some st'):Conv AM (AH E st) (AH E st'):=by
 unfold Mc.PR at h
 simp only at h
 obtain ⟨hc,rfl⟩:=AO h
 simp only [Bool.and_eq_true] at hc
 obtain ⟨⟨⟨⟨⟨h1,h2⟩,h3⟩,h4⟩,h5⟩,h6⟩:=hc
 have hok:=h1
 unfold CA at h1
 rw [Bool.and_eq_true] at h1
 refine Conv.norm (keep:=E.t.map (·.1) ++ keep) (ρ:=SY E.s ++ ρ) ?_
 unfold Mc.norm
 have ha:(AH E st).a.all (fun o=>(AQ (SY E.s ++ ρ) o == some o))=true:=by
   rw [List.all_eq_true] at h2 ⊢
   intro o ho
   rw [Cm (h2 o ho)]; simp
 rw [if_pos (by rw [hok,ha,h3]; rfl)]
 congr 1
 show St.mk _ _ _ _=St.mk _ _ _ _
 congr 1
 · funext i
   rw [IC]
   simp only [AH,Ee,AR,JG]
   rw [List.all_eq_true] at h4
   by_cases hk:i ∈ keep
   · rw [if_pos (by simp [hk]),if_pos hk]
     simp only [X.Bm,Te,AR]
   · simp only [if_neg hk]
     cases he:lk E.t i with
     | none =>
       have:i ∉ E.t.map (·.1):=by
         intro hm
         obtain ⟨p,hp,rfl⟩:=List.mem_map.1 hm
         exact Gy he p.2 (by simpa using hp)
       rw [if_neg (by simp only [List.mem_append]; exact fun h=>h.elim this hk)]; rfl
     | some x =>
       have hm:=CP he
       have hb:=h4 _ hm
       simp only [Bool.and_eq_true,Option.isNone_iff_eq_none] at hb
       rw [if_pos (by simp only [List.mem_append]; exact .inl (List.mem_map.2 ⟨_,hm,rfl⟩)),hb.1]
       simp only
       rw [<- X.Bm,X.EV _ _ hb.2]
 · funext n
   rw [GD h1.2]
   simp only [AH,encS,AR]
   rw [List.all_eq_true] at h5 h6
   cases hf:(SY E.s ++ ρ).find? (fun p=>Nat.beq p.2 n) with
   | some p =>
     obtain ⟨hp,rfl⟩:=Lv hf
     simp only
     rcases List.mem_append.1 hp with hp1 | hp2
     · obtain ⟨q,hq,rfl⟩:=List.mem_map.1 hp1
       have hb:=h5 q hq
       simp only [Bool.and_eq_true,Option.isNone_iff_eq_none] at hb
       simp only [hb.1]
       have hnone:lk (ρ.map fun p=>(p.2,match lk st.s p.1 with | some x=>x.map (XO.AQ (AQ (SY E.s ++ ρ))) | none=>none)) q.1=none:=by
         cases hl:lk (ρ.map fun p=>(p.2,match lk st.s p.1 with | some x=>x.map (XO.AQ (AQ (SY E.s ++ ρ))) | none=>none)) q.1 with
         | none=>rfl
         | some y =>
           exfalso
           obtain ⟨p', hp', he⟩:=List.mem_map.1 (CP hl)
           injection he with he1 he2
           have:=JF h1.2 hp (List.mem_append_right _ hp') he1.symm
           have h7:=h6 p' hp'
           rw [<- this] at h7
           simp only [hb.1,Option.isSome_none,Bool.false_eq_true] at h7
       rw [hnone]
       cases hl:lk E.s q.1 with
       | none=>exact absurd hq (by have:=Gy hl q.2; simpa using this)
       | some y =>
         have hy:=h5 _ (CP hl)
         simp only [Bool.and_eq_true] at hy
         simp only [Option.map_some]
         cases y with
         | none=>rfl
         | some z=>simp only [Option.map_some]; rw [<- XO.Bm,XO.EV _ _ hy.2]
     · have h7:=h6 p hp2
       obtain ⟨y,hy⟩:=Option.isSome_iff_exists.1 h7
       have hl:lk (ρ.map fun p=>(p.2,match lk st.s p.1 with | some x=>x.map (XO.AQ (AQ (SY E.s ++ ρ))) | none=>none)) p.2=some (y.map (XO.AQ (AQ (SY E.s ++ ρ)))):=by
         cases hl:lk (ρ.map fun p=>(p.2,match lk st.s p.1 with | some x=>x.map (XO.AQ (AQ (SY E.s ++ ρ))) | none=>none)) p.2 with
         | none=>exact absurd (List.mem_map.2 ⟨p,hp2,rfl⟩) (Gy hl _)
         | some z =>
           obtain ⟨p', hp', he⟩:=List.mem_map.1 (CP hl)
           injection he with he1 he2
           have:=JF h1.2 (List.mem_append_right (SY E.s) hp') hp he1
           subst this
           rw [hy] at he2; rw [<- he2]
       rw [hl,hy]
       simp only [Option.map_some]
       cases y with
       | none=>rfl
       | some z=>simp only [Option.map_some,XO.Bm]
   | none =>
     simp only
     have hnone:∀ p ∈ SY E.s ++ ρ,p.2 ≠ n:=by
       intro p hp e
       have:=List.find?_eq_none.1 hf p hp
       simp [e] at this
     have hl1:lk (ρ.map fun p=>(p.2,match lk st.s p.1 with | some x=>x.map (XO.AQ (AQ (SY E.s ++ ρ))) | none=>none)) n=none:=by
       cases hl:lk (ρ.map fun p=>(p.2,match lk st.s p.1 with | some x=>x.map (XO.AQ (AQ (SY E.s ++ ρ))) | none=>none)) n with
       | none=>rfl
       | some z =>
         exfalso
         obtain ⟨p', hp', he⟩:=List.mem_map.1 (CP hl)
         injection he with he1 he2
         exact hnone p' (List.mem_append_right _ hp') he1
     rw [hl1]
     cases hl:lk E.s n with
     | none=>rfl
     | some z=>exact absurd rfl (hnone (n,n) (List.mem_append_left _ (List.mem_map.2 ⟨_,CP hl,rfl⟩)))
end Go.Proofs.YtobfoiomjfdjjaaDoor.Mc
namespace Go.Proofs.YtobfoiomjfdjjaaDoor.Mc
open Go.RowKit
variable [Mo]
variable {P:Program}{D:Ah}
mutual
def X.BF (o:Nat)(r:Row)(rows:List r.den):X->X
 | .sl nl o'=>cond (Nat.beq o' o) (.fz nl r rows) (.sl nl o')
 | .sw o' off len=>cond (Nat.beq o' o) (.fz .u r ((rows.drop off).take len)) (.sw o' off len)
 | .pe o' i off=>cond (Nat.beq o' o) .dead (.pe o' i off)
 | .fn g caps=>.fn g (Gw o r rows caps)
 | .ag cs=>.ag (Gw o r rows cs)
 | .tp cs=>.tp (Gw o r rows cs)
 | .BE t x=>.BE t (X.BF o r rows x)
 | x=>x
def Gw (o:Nat)(r:Row)(rows:List r.den):List X->List X
 | []=>[]
 | x :: xs=>X.BF o r rows x :: Gw o r rows xs
end
omit [Mo] in
mutual
theorem X.FY (o:Nat)(r:Row)(rows:List r.den):∀ (x:X),(x.BF o r rows).enc=x.enc.BF o (rows.map r.en)
 | .sl nl o'=>by simp only [X.BF,X.enc,V.BF]; cases Nat.beq o' o <;> rfl
 | .sw o' off len=>by simp only [X.BF,X.enc,V.BF]; cases Nat.beq o' o <;> simp [X.enc,List.map_take,List.map_drop]
 | .pe o' i off=>by simp only [X.BF,X.enc,V.BF]; cases Nat.beq o' o <;> rfl
 | .fn g caps=>by simp only [X.BF,X.enc,V.BF,EI o r rows caps]
 | .ag cs=>by simp only [X.BF,X.enc,V.BF,EI o r rows cs]
 | .tp cs=>by simp only [X.BF,X.enc,V.BF,EI o r rows cs]
 | .BE t x=>by simp only [X.BF,X.enc,V.BF,X.FY o r rows x]
 | .c v=>by
   show X.enc (.c v)=V.BF o _ (X.enc (.c v))
   simp only [X.enc]
   cases plain v <;> rfl
 | .i k n=>rfl
 | .b q=>rfl
 | .s s=>rfl
 | .fz nl r' xs=>rfl
 | .pf r' x off=>rfl
 | .pt o' off=>rfl
 | .mp o'=>rfl
 | .it o'=>rfl
 | .sp o'=>rfl
 | .dead=>rfl
theorem EI (o:Nat)(r:Row)(rows:List r.den):∀ (xs:List X),Bp (Gw o r rows xs)=NW o (rows.map r.en) (Bp xs)
 | []=>rfl
 | x :: xs=>by simp only [Gw,Bp,NW,X.FY o r rows x,EI o r rows xs]
end
def Nn (o n:Nat):Bool := !(Nat.beq n o)
omit [Mo] in
mutual
theorem X.HA (o:Nat)(r:Row)(rows:List r.den):∀ (x:X),x.EB (Nn o)=true->x.BF o r rows=x
 | .sl nl o', h=>by have h':Nn o o' = true:=h; unfold Nn at h'; simp only [Bool.not_eq_true'] at h'; simp only [X.BF,h', cond_false]
 | .sw o' off len,h=>by have h':Nn o o' = true:=h; unfold Nn at h'; simp only [Bool.not_eq_true'] at h'; simp only [X.BF,h', cond_false]
 | .pe o' i off,h=>by have h':Nn o o' = true:=h; unfold Nn at h'; simp only [Bool.not_eq_true'] at h'; simp only [X.BF,h', cond_false]
 | .fn g caps,h=>by simp only [X.BF,Dv o r rows caps h]
 | .ag cs,h=>by simp only [X.BF,Dv o r rows cs h]
 | .tp cs,h=>by simp only [X.BF,Dv o r rows cs h]
 | .BE t x,h=>by simp only [X.BF,X.HA o r rows x h]
 | .c v,_=>rfl
 | .i k n,_=>rfl
 | .b q,_=>rfl
 | .s s,_=>rfl
 | .fz nl r' xs,_=>rfl
 | .pf r' x off,_=>rfl
 | .pt o' off,_=>rfl
 | .mp o', _=>rfl
 | .it o', _=>rfl
 | .sp o', _=>rfl
 | .dead,_=>rfl
theorem Dv (o:Nat)(r:Row)(rows:List r.den):∀ (xs:List X),DW (Nn o) xs=true->Gw o r rows xs=xs
 | [],_=>rfl
 | x :: xs,h=>by
   simp only [DW,Bool.and_eq_true] at h
   simp only [Gw,X.HA o r rows x h.1,Dv o r rows xs h.2]
end
def XO.BF (o:Nat)(r:Row)(rows:List r.den):XO->XO
 | .bx e cells=>.bx e (Gw o r rows cells)
 | x=>x
omit [Mo] in
theorem XO.FY (o:Nat)(r:Row)(rows:List r.den)(x:XO):(x.BF o r rows).enc=O.BF o (rows.map r.en) x.enc:=by
 cases x with
 | bx e cells=>simp only [XO.BF,XO.enc,O.BF,EI]
 | _=>rfl
omit [Mo] in
theorem XO.HA (o:Nat)(r:Row)(rows:List r.den)(x:XO)(h:x.EB (Nn o)=true):x.BF o r rows=x:=by
 cases x with
 | bx e cells=>simp only [XO.BF,Dv o r rows cells h]
 | _=>rfl
omit [Mo] in
theorem Kx {α β:Type}(f:Nat->α->β):∀ (l:List (Nat × α)) (n:Nat),lk (l.map fun p=>(p.1,f p.1 p.2)) n=(lk l n).map (f n)
 | [],n=>rfl
 | (i,a) :: l,n=>by
   rw [List.map_cons,lk,lk]
   cases hb:Nat.beq i n with
   | true=>rw [Nat.eq_of_beq_eq_true hb]; rfl
   | false=>exact Kx f l n
def Cy (E:XE) (o:Nat) (st:Aw):Option Aw :=
 match lk st.s o with
 | some (some (.ar _ r rows))=>cond (E.t.all (fun p=>p.2.EB (Nn o)) && E.s.all (fun p=>Nn o p.1 && ZJ (Nn o) p.2))
     (some ⟨st.t.map fun p=>(p.1,p.2.BF o r rows),st.s.map fun p=>(p.1,cond (Nat.beq p.1 o) none (p.2.map (XO.BF o r rows)))⟩) none
 | _=>none
theorem Conv.Cy {E:XE} {o:Nat} {st st':Aw} (h:Mc.Cy E o st=some st'):Conv AM (AH E st) (AH E st'):=by
 unfold Mc.Cy at h
 split at h
 · rename_i e r rows hl
   obtain ⟨hc,rfl⟩:=AO h
   simp only [Bool.and_eq_true] at hc
   obtain ⟨h1,h2⟩:=hc
   rw [List.all_eq_true] at h1 h2
   have ho:encS (st.s ++ E.s) o=some (some (.ar e r.len (rows.map r.en))):=by unfold encS; rw [AR,hl]; rfl
   have:=Conv.XF (G:=AM) (t:=CN (st.t ++ E.t)) (s:=encS (st.s ++ E.s)) (m:=E.n) (a:=E.a) o e r.len (rows.map r.en) ho
   have e1:(fun i=>(CN (st.t ++ E.t) i).BF o (rows.map r.en))=CN ((st.t.map fun p=>(p.1,p.2.BF o r rows)) ++ E.t):=by
     funext i
     rw [Ee,Ee,<- X.FY,AR,AR,Kx (fun _ x=>X.BF o r rows x)]
     cases lk st.t i with
     | some x=>rfl
     | none =>
       simp only [Option.map_none]
       cases he:lk E.t i with
       | none=>rfl
       | some x=>simp only; rw [X.HA o r rows x (h1 _ (CP he))]
   have e2 : (fun n=>cond (Nat.beq n o) (some none) ((encS (st.s ++ E.s) n).map (·.map (O.BF o (rows.map r.en)))))=encS ((st.s.map fun p=>(p.1,cond (Nat.beq p.1 o) none (p.2.map (XO.BF o r rows)))) ++ E.s):=by
     funext n
     unfold encS
     rw [AR,AR,Kx (fun (i:Nat) (x:Option XO)=>cond (Nat.beq i o) none (x.map (XO.BF o r rows)))]
     cases hb:Nat.beq n o with
     | true =>
       have:=Nat.eq_of_beq_eq_true hb
       subst this
       rw [hl]; simp
     | false =>
       cases hs:lk st.s n with
       | some x=>cases x <;> simp [XO.FY]
       | none =>
         simp only [Option.map_none,cond_false]
         cases he:lk E.s n with
         | none=>rfl
         | some x =>
           have:=h2 _ (CP he)
           simp only [Bool.and_eq_true] at this
           cases x with
           | none=>rfl
           | some y=>simp only [Option.map_some]; rw [<- XO.FY,XO.HA o r rows y this.2]
   show Conv AM ⟨_,_,_,_⟩ ⟨_,_,_,_⟩
   rw [e1,e2] at this
   exact this
 · cases h
def FH (E:XE)(i d e:Nat)(r:Row)(st:Aw):Option Aw :=
 match lk st.t i with
 | some (.c v)=>cond (Cv v && (lk (st.s ++ E.s) d).isNone && Nat.blt 0 r.len) (some ⟨(i,.sl .n d) :: st.t,(d,some (.ar e r [])) :: st.s⟩) none
 | _=>none
omit [Mo] in
theorem IP {s:XS}{d:Nat}(h:(lk s d).isNone=true):encS s d=none:=by
 rw [Option.isNone_iff_eq_none] at h
 unfold encS; rw [h]
theorem Conv.FH {E:XE}{i d e:Nat}{r:Row}{st st':Aw}(h:Mc.FH E i d e r st=some st'):Conv AM (AH E st) (AH E st'):=by
 unfold Mc.FH at h
 split at h
 · rename_i v hl
   obtain ⟨hc,rfl⟩:=AO h
   simp only [Bool.and_eq_true] at hc
   obtain ⟨⟨h1,h2⟩,h3⟩:=hc
   have hv:=CR h1
   subst hv
   have hi:CN (st.t ++ E.t) i=.t (.sc (.slice none 0 0)):=by unfold CN; rw [AR,hl]; simp [X.enc,plain]
   have:=Conv.cO (G:=AM) (t:=CN (st.t ++ E.t)) (s:=encS (st.s ++ E.s)) (m:=E.n) (a:=E.a) i d e r.len hi (IP h2) h3
   show Conv AM ⟨_,_,_,_⟩ ⟨_,_,_,_⟩
   rw [List.cons_append,IE]
   rw [show encS ((d,some (XO.ar e r [])) :: st.s ++ E.s)=Ae (encS (st.s ++ E.s)) d (some (some (.ar e r.len []))) from EN [(d,some (XO.ar e r []))] (st.s ++ E.s)]
   exact this
 · cases h
def HM (E:XE)(o j d e:Nat)(r:Row)(st:Aw):Option Aw :=
 match lk st.s o with
 | some (some (.bx e0 cells))=>match cells[j]? with
   | some (.c v)=>cond (Cv v && (lk (st.s ++ E.s) d).isNone && Nat.blt 0 r.len) (some ⟨st.t,(o,some (.bx e0 (cells.set j (.sl .n d)))) :: (d,some (.ar e r [])) :: st.s⟩) none
   | _=>none
 | _=>none
theorem Conv.HM {E:XE} {o j d e:Nat} {r:Row} {st st':Aw} (h:Mc.HM E o j d e r st=some st'):Conv AM (AH E st) (AH E st'):=by
 unfold Mc.HM at h
 split at h
 · rename_i e0 cells hl
   split at h
   · rename_i v hj
     obtain ⟨hc,rfl⟩:=AO h
     simp only [Bool.and_eq_true] at hc
     obtain ⟨⟨h1,h2⟩,h3⟩:=hc
     have hv:=CR h1
     subst hv
     have ho:encS (st.s ++ E.s) o=some (some (.bx e0 (Bp cells))):=by unfold encS; rw [AR,hl]; rfl
     have:=Conv.Zf (G:=AM) (t:=CN (st.t ++ E.t)) (s:=encS (st.s ++ E.s)) (m:=E.n) (a:=E.a) o e0 (Bp cells) j d e r.len ho (by rw [Aa,List.getElem?_map,hj]; simp [X.enc,plain]) (IP h2) h3
     show Conv AM ⟨_,_,_,_⟩ ⟨_,_,_,_⟩
     rw [show encS ((o,some (XO.bx e0 (cells.set j (.sl .n d)))) :: (d,some (XO.ar e r [])) :: st.s ++ E.s)=Ae (Ae (encS (st.s ++ E.s)) d (some (some (.ar e r.len [])))) o (some (some (.bx e0 ((Bp cells).set j (.sl .n d))))) from by
       have:=EN [(o,some (XO.bx e0 (cells.set j (.sl .n d)))),(d,some (XO.ar e r []))] (st.s ++ E.s)
       rw [show Bp cells=cells.map X.enc from Aa cells,<- show (cells.set j (X.sl .n d)).map X.enc=(cells.map X.enc).set j (.sl .n d) from List.map_set,<- Aa]
       exact this]
     exact this
   · cases h
 · cases h
def Wk (x y:V):Prop:=∀ (w:World) (F:Nat->Prop) (loc:Nat->Option Loc) (v:Value),AF w F loc x v->AF w F loc y v
omit [Mo] in
theorem Wk.refl (x:V):Wk x x:=fun _ _ _ _ h=>h
omit [Mo] in
theorem Wk.of {x y:V}(h:GY x y):Wk x y:=fun _ _ _ _ k=>h.rel k
def Ro (xs ys:List V):Prop:=xs.length=ys.length/\∀ (j:Nat) (y:V),ys[j]? = some y->∃ x,xs[j]? = some x/\Wk x y
omit [Mo] in
theorem Ro.nil:Ro [] []:=⟨rfl,fun j y h=>by simp at h⟩
omit [Mo] in
theorem Ro.cons {x y:V}{xs ys:List V}(h:Wk x y)(k:Ro xs ys):Ro (x :: xs) (y :: ys):=by
 refine ⟨by simp [k.1],fun j z hz=>?_⟩
 cases j with
 | zero=>cases hz; exact ⟨x,rfl,h⟩
 | succ j=>exact k.2 j z (by simpa using hz)
omit [Mo] in
theorem Wk.ag {xs ys:List V}(h:Ro xs ys):Wk (.ag xs) (.ag ys):=by
 intro w F loc v k
 cases k with
 | gone _ o _ hx _=>cases hx
 | ag _ vs val hl hv hr =>
   refine .ag ys vs val (by rw [<- h.1]; exact hl) (fun j hj=>hv j (by rw [h.1]; exact hj)) (fun j y hy=>?_)
   obtain ⟨x,hx,hw⟩:=h.2 j y hy
   exact hw _ _ _ _ (hr j x hx)
omit [Mo] in
theorem Wk.tp {xs ys:List V}(h:Ro xs ys):Wk (.tp xs) (.tp ys):=by
 intro w F loc v k
 cases k with
 | gone _ o _ hx _=>cases hx
 | tp _ vs val hl hv hr =>
   refine .tp ys vs val (by rw [<- h.1]; exact hl) (fun j hj=>hv j (by rw [h.1]; exact hj)) (fun j y hy=>?_)
   obtain ⟨x,hx,hw⟩:=h.2 j y hy
   exact hw _ _ _ _ (hr j x hx)
omit [Mo] in
theorem Wk.fn {f:FuncId}{xs ys:List V}(h:Ro xs ys):Wk (.fn f xs) (.fn f ys):=by
 intro w F loc v k
 cases k with
 | gone _ o _ hx _=>cases hx
 | fn _ _ vs val hl hv hr =>
   refine .fn f ys vs val (by rw [<- h.1]; exact hl) (fun j hj=>hv j (by rw [h.1]; exact hj)) (fun j y hy=>?_)
   obtain ⟨x,hx,hw⟩:=h.2 j y hy
   exact hw _ _ _ _ (hr j x hx)
omit [Mo] in
theorem Wk.BE {t:TypeId}{x y:V}(h:Wk x y):Wk (.BE t x) (.BE t y):=by
 intro w F loc v k
 cases k with
 | gone _ o _ hx _=>cases hx
 | BE _ _ v hv=>exact .BE _ _ _ (h _ _ _ _ hv)
theorem AK.bX {B:BB} {w:World} {F:Nat->Prop} {loc:Nat->Option Loc} {s:AE} (hS:AK AM B w F loc s) {o e:Nat} {xs ys:List V} (ho:s o=some (some (.bx e xs))) (h:Ro xs ys) :
   AK AM B w F loc (Ae s o (some (some (.bx e ys)))):=by
 refine { hS with Cg:=fun o' obj h'=>?_,Fp:=fun o' l hl'=>?_ }
 · by_cases hod:o' = o
   · subst hod
     rw [AA] at h'; cases h'
     obtain ⟨l,h1,h2⟩:=hS.Cg o' _ ho
     refine ⟨l,h1,?_⟩
     cases h2 with
     | ms _ _ b en clock vs he hb hs hen hks hr =>
       refine .ms e ys b en clock vs he hb hs hen hks ⟨by rw [<- h.1]; exact hr.1,fun j y hy=>?_⟩
       obtain ⟨x,hx,hw⟩:=h.2 j y hy
       obtain ⟨v,h3,h4,h5⟩:=hr.2 j x hx
       exact ⟨v,h3,h4,hw _ _ _ _ h5⟩
     | bx _ _ cs b he hb hl hr =>
       refine .bx e ys cs b he hb (by rw [<- h.1]; exact hl) fun j y hy=>?_
       obtain ⟨x,hx,hw⟩:=h.2 j y hy
       obtain ⟨v,h3,h4,h5⟩:=hr j x hx
       exact ⟨v,h3,h4,hw _ _ _ _ h5⟩
   · rw [AJ _ _ hod] at h'; exact hS.Cg o' obj h'
 · by_cases hod:o' = o
   · subst hod; exact ⟨_,AA _ _ _⟩
   · rw [AJ _ _ hod]; exact hS.Fp o' l hl'
inductive Al where | ti | tb | ts | tn | tl (r:Row) | tw (r:Row) | tm (t:MT) | tq (t:MT)
def Al.den:Al->Type
 | .ti=>Int
 | .tb=>Bool
 | .ts=>ByteArray
 | .tn=>Nat
 | .tl r=>List r.den
 | .tw r=>r.den
 | .tm t=>t.den
 | .tq t=>t.den × t.den
def Al.eq? : (a b:Al)->Option (PLift (a=b))
 | .ti,.ti=>some ⟨rfl⟩
 | .tb,.tb=>some ⟨rfl⟩
 | .ts,.ts=>some ⟨rfl⟩
 | .tn,.tn=>some ⟨rfl⟩
 | .tl r,.tl r'=>match Row.eq? r r' with | some h=>some ⟨by rw [h.down]⟩ | none=>none
 | .tw r,.tw r'=>match Row.eq? r r' with | some h=>some ⟨by rw [h.down]⟩ | none=>none
 | .tm t,.tm t'=>match MT.eq? t t' with | some h=>some ⟨by rw [h.down]⟩ | none=>none
 | .tq t,.tq t'=>match MT.eq? t t' with | some h=>some ⟨by rw [h.down]⟩ | none=>none
 | _,_=>none
structure HV where
 t:Al
 v:t.den
def Tup:List Al->Type
 | []=>Unit
 | [t]=>t.den
 | t :: t' :: ts=>t.den × Tup (t' :: ts)
def BO:(ts:List Al)->Tup ts->List HV
 | [],_=>[]
 | [t],x=>[⟨t,x⟩]
 | t :: t' :: ts,x=>⟨t,x.1⟩ :: BO (t' :: ts) x.2
def DS:(ts:List Al)->List HV->Option (Tup ts)
 | [],[]=>some ()
 | [t],[⟨t', v⟩]=>match Al.eq? t' t with | some h=>some (h.down ▸ v) | none=>none
 | t :: t' :: ts,⟨u,v⟩ :: l=>match Al.eq? u t,DS (t' :: ts) l with | some h,some y=>some (h.down ▸ v,y) | _,_=>none
 | _,_=>none
omit [Mo] in
theorem Cp:∀ (ts:List Al) (l:List HV) (y:Tup ts),DS ts l=some y->BO ts y=l
 | [],[],y,_=>rfl
 | [t],[⟨t', v⟩],y,h=>by
   simp only [DS] at h
   split at h
   · rename_i g _
     obtain ⟨g⟩:=g
     subst g
     cases h; rfl
   · cases h
 | t :: t' :: ts,⟨u,v⟩ :: l,y,h=>by
   simp only [DS] at h
   split at h
   · rename_i g z _ hz
     obtain ⟨g⟩:=g
     subst g
     cases h
     simp only [BO]
     rw [Cp (t' :: ts) l z hz]
   · cases h
 | [],_ :: _,_,h=>by simp [DS] at h
 | [t],[],_,h=>by simp [DS] at h
 | [t],_ :: _ :: _,_,h=>by simp [DS] at h
 | t :: t' :: ts,[],_,h=>by simp [DS] at h
end Go.Proofs.YtobfoiomjfdjjaaDoor.Mc
namespace Go.Proofs.YtobfoiomjfdjjaaDoor.Mc
open Go.RowKit
variable [Mo]
variable {P:Program}{D:Ah}
inductive Sh where
 | i (k:IntKind)
 | b
 | s
 | li (k:IntKind) (n:Int)
 | lb (q:Bool)
 | c (v:Value)
 | fz (nl:Nl) (r:Row)
 | sl (nl:Nl) (o:Nat)
 | sw (o:Nat)
 | pt (o off:Nat)
 | pe (o off:Nat)
 | pf (r:Row) (off:Nat)
 | mp (o:Nat)
 | it (o:Nat)
 | sp (o:Nat)
 | fn (f:FuncId) (l:List Sh)
 | ag (l:List Sh)
 | tp (l:List Sh)
 | BE (t:TypeId) (x:Sh)
 | dead
def Rb:Value->Value->Bool
 | .pointer none,.pointer none=>true
 | .slice none 0 0,.slice none 0 0=>true
 | .map none,.map none=>true
 | .nilFunc,.nilFunc=>true
 | .nilIface,.nilIface=>true
 | .func (.func f) a b,.func (.func f') a' b'=>Nat.beq f f' && a.isEmpty && b.isEmpty && a'.isEmpty && b'.isEmpty
 | _,_=>false
omit [Mo] in
theorem LD {v w:Value}(h:Rb v w=true):v=w:=by
 unfold Rb at h
 split at h
 all_goals first
   | rfl
   | cases h
   | skip
 rename_i f a b f' a' b'
 simp only [Bool.and_eq_true] at h
 obtain ⟨⟨⟨⟨h1,h2⟩,h3⟩,h4⟩,h5⟩:=h
 have e1:=Nat.eq_of_beq_eq_true h1
 simp only [Array.isEmpty_iff] at h2 h3 h4 h5
 rw [e1,h2,h3,h4,h5]
def Sr:Nl->Nl->Bool
 | .e,.e=>true
 | .n,.n=>true
 | _,.u=>true
 | _,_=>false
def Xw:Nl->Bool | .e=>false | _=>true
mutual
def Ai:Sh->X->Option (List HV)
 | .i k,.i k' n=>if k' = k then some [⟨.ti,n⟩] else none
 | .b,.b q=>some [⟨.tb,q⟩]
 | .s,.s x=>some [⟨.ts,x⟩]
 | .li k m,.i k' n=>if k' = k/\n=m then some [] else none
 | .lb p,.b q=>if q=p then some [] else none
 | .c v,.c w=>cond (Rb w v) (some []) none
 | .fz nl r,.fz nl' r' xs=>cond (Sr nl' nl) (match Row.eq? r' r with | some h=>some [⟨.tl r,h.down ▸ xs⟩] | none=>none) none
 | .fz nl r,.c v=>cond (Xw nl && Cv v) (some [⟨.tl r,[]⟩]) none
 | .sl nl o,.sl nl' o'=>cond (Sr nl' nl && Nat.beq o' o) (some []) none
 | .sw o,.sw o' off len=>cond (Nat.beq o' o) (some [⟨.tn,off⟩,⟨.tn,len⟩]) none
 | .pt o off,.pt o' off'=>cond (Nat.beq o' o && Nat.beq off' off) (some []) none
 | .pe o off,.pe o' i off'=>cond (Nat.beq o' o && Nat.beq off' off) (some [⟨.tn,i⟩]) none
 | .pf r off,.pf r' x off'=>cond (Nat.beq off' off) (match Row.eq? r' r with | some h=>some [⟨.tw r,h.down ▸ x⟩] | none=>none) none
 | .mp o,.mp o'=>cond (Nat.beq o' o) (some []) none
 | .it o,.it o'=>cond (Nat.beq o' o) (some []) none
 | .sp o,.sp o'=>cond (Nat.beq o' o) (some []) none
 | .sp o,.pt o' off=>cond (Nat.beq o' o && Nat.beq off 0) (some []) none
 | .sp _,.c v=>cond (Rb v (.pointer none)) (some []) none
 | .fn f l,.fn f' xs=>cond (Nat.beq f' f) (JP l xs) none
 | .ag l,.ag xs=>JP l xs
 | .tp l,.tp xs=>JP l xs
 | .BE t s,.BE t' x=>cond (Nat.beq t' t) (Ai s x) none
 | .dead,_=>some []
 | _,_=>none
def JP:List Sh->List X->Option (List HV)
 | [],[]=>some []
 | s :: l,x :: xs=>match Ai s x,JP l xs with
   | some a,some b=>some (a ++ b)
   | _,_=>none
 | _,_=>none
end
mutual
def BV:Sh->List HV->X × List HV
 | .i k,⟨.ti,n⟩ :: l=>(.i k n,l)
 | .b,⟨.tb,q⟩ :: l=>(.b q,l)
 | .s,⟨.ts,x⟩ :: l=>(.s x,l)
 | .li k m,l=>(.i k m,l)
 | .lb p,l=>(.b p,l)
 | .c v,l=>(.c v,l)
 | .fz nl _,⟨.tl r,xs⟩ :: l=>(.fz nl r xs,l)
 | .sl nl o,l=>(.sl nl o,l)
 | .sw o,⟨.tn,off⟩ :: ⟨.tn,len⟩ :: l=>(.sw o off len,l)
 | .pt o off,l=>(.pt o off,l)
 | .pe o off,⟨.tn,i⟩ :: l=>(.pe o i off,l)
 | .pf _ off,⟨.tw r,x⟩ :: l=>(.pf r x off,l)
 | .mp o,l=>(.mp o,l)
 | .it o,l=>(.it o,l)
 | .sp o,l=>(.sp o,l)
 | .fn f ss,l=>let p:=Cr ss l; (.fn f p.1,p.2)
 | .ag ss,l=>let p:=Cr ss l; (.ag p.1,p.2)
 | .tp ss,l=>let p:=Cr ss l; (.tp p.1,p.2)
 | .BE t s,l=>let p:=BV s l; (.BE t p.1,p.2)
 | _,l=>(.dead,l)
def Cr:List Sh->List HV->List X × List HV
 | [],l=>([],l)
 | s :: ss,l=>let p:=BV s l; let q:=Cr ss p.2; (p.1 :: q.1,q.2)
end
mutual
def Sh.Xr:Sh->List Al
 | .i _=>[.ti]
 | .b=>[.tb]
 | .s=>[.ts]
 | .fz _ r=>[.tl r]
 | .sw _=>[.tn,.tn]
 | .pe _ _=>[.tn]
 | .pf r _=>[.tw r]
 | .fn _ l=>Mg l
 | .ag l=>Mg l
 | .tp l=>Mg l
 | .BE _ s=>s.Xr
 | _=>[]
def Mg:List Sh->List Al
 | []=>[]
 | s :: l=>s.Xr ++ Mg l
end
omit [Mo] in
theorem dX {nl nl':Nl}{rows:List (List T)}(h:Sr nl' nl=true):Wk (.t (.fz nl' rows)) (.t (.fz nl rows)):=by
 cases nl <;> cases nl' <;> first | (cases h; done) | exact Wk.refl _ | exact Wk.of (.fz _ _)
omit [Mo] in
theorem bj {nl nl':Nl}{o:Nat}(h:Sr nl' nl=true):Wk (.sl nl' o) (.sl nl o):=by
 cases nl <;> cases nl' <;> first | (cases h; done) | exact Wk.refl _ | exact Wk.of (.sl _ _)
omit [Mo] in
theorem Yh {nl:Nl}(h:Xw nl=true):Wk (.t (.sc (.slice none 0 0))) (.t (.fz nl [])):=Wk.of (.nil nl (by rintro rfl; cases h))
omit [Mo] in
theorem bN (o:Nat):Wk (.pt o 0) (.sp o):=fun w F loc v h=>by
 cases h with
 | gone _ o' _ hx ho=>cases hx; exact .gone _ o _ rfl ho
 | pt _ _ b ho=>exact .sp o b ho
omit [Mo] in
theorem Yk (o:Nat):Wk (X.enc (.c (.pointer none))) (.sp o):=fun w F loc v h=>by
 have h':AF w F loc (.t (.sc (.pointer none))) v:=h
 rw [AP h']
 exact .WJ o
omit [Mo] in
mutual
theorem Km:∀ (sh:Sh) (x:X) (hs l:List HV),Ai sh x=some hs->∃ x', BV sh (hs ++ l)=(x', l)/\Wk x.enc x'.enc
 | .dead,x,hs,l,h=>by simp only [Ai] at h; cases h; exact ⟨.dead,rfl,Wk.of (.dead _)⟩
 | .i k,.i k' n,hs,l,h=>by
   simp only [Ai] at h
   split at h
   · rename_i hk; cases h; subst hk; exact ⟨_,rfl,Wk.refl _⟩
   · cases h
 | .b,.b q,hs,l,h=>by simp only [Ai] at h; cases h; exact ⟨_,rfl,Wk.refl _⟩
 | .s,.s q,hs,l,h=>by simp only [Ai] at h; cases h; exact ⟨_,rfl,Wk.refl _⟩
 | .li k m,.i k' n,hs,l,h=>by
   simp only [Ai] at h
   split at h
   · rename_i hk; cases h; obtain ⟨rfl,rfl⟩:=hk; exact ⟨_,rfl,Wk.refl _⟩
   · cases h
 | .lb p,.b q,hs,l,h=>by
   simp only [Ai] at h
   split at h
   · rename_i hk; cases h; subst hk; exact ⟨_,rfl,Wk.refl _⟩
   · cases h
 | .c v,.c w,hs,l,h=>by
   simp only [Ai] at h
   obtain ⟨h1,rfl⟩:=AO h
   exact ⟨_,rfl,by rw [LD h1]; exact Wk.refl _⟩
 | .fz nl r,.fz nl' r' xs,hs,l,h=>by
   simp only [Ai] at h
   cases hc:Sr nl' nl with
   | false=>rw [hc] at h; cases h
   | true =>
     rw [hc] at h
     simp only [cond_true] at h
     split at h
     · rename_i g _
       obtain ⟨g⟩:=g
       subst g
       cases h; exact ⟨_,rfl,dX hc⟩
     · cases h
 | .fz nl r,.c v,hs,l,h=>by
   simp only [Ai] at h
   obtain ⟨h1,rfl⟩:=AO h
   simp only [Bool.and_eq_true] at h1
   obtain rfl:=CR h1.2
   exact ⟨_,rfl,Yh h1.1⟩
 | .sl nl o,.sl nl' o', hs,l,h=>by
   simp only [Ai] at h
   obtain ⟨h1,rfl⟩:=AO h
   simp only [Bool.and_eq_true] at h1
   exact ⟨_,rfl,by rw [Nat.eq_of_beq_eq_true h1.2]; exact bj h1.1⟩
 | .sw o,.sw o' off len,hs,l,h=>by
   simp only [Ai] at h
   obtain ⟨h1,rfl⟩:=AO h
   exact ⟨_,rfl,by rw [Nat.eq_of_beq_eq_true h1]; exact Wk.refl _⟩
 | .pt o off,.pt o' off', hs,l,h=>by
   simp only [Ai] at h
   obtain ⟨h1,rfl⟩:=AO h
   simp only [Bool.and_eq_true] at h1
   exact ⟨_,rfl,by rw [Nat.eq_of_beq_eq_true h1.1,Nat.eq_of_beq_eq_true h1.2]; exact Wk.refl _⟩
 | .pe o off,.pe o' i off', hs,l,h=>by
   simp only [Ai] at h
   obtain ⟨h1,rfl⟩:=AO h
   simp only [Bool.and_eq_true] at h1
   exact ⟨_,rfl,by rw [Nat.eq_of_beq_eq_true h1.1,Nat.eq_of_beq_eq_true h1.2]; exact Wk.refl _⟩
 | .pf r off,.pf r' x off', hs,l,h=>by
   simp only [Ai] at h
   cases hc:Nat.beq off' off with
   | false=>rw [hc] at h; cases h
   | true =>
     rw [hc] at h
     simp only [cond_true] at h
     split at h
     · rename_i g _
       obtain ⟨g⟩:=g
       subst g
       cases h; exact ⟨_,rfl,by rw [Nat.eq_of_beq_eq_true hc]; exact Wk.refl _⟩
     · cases h
 | .mp o,.mp o', hs,l,h=>by
   simp only [Ai] at h
   obtain ⟨h1,rfl⟩:=AO h
   exact ⟨_,rfl,by rw [Nat.eq_of_beq_eq_true h1]; exact Wk.refl _⟩
 | .it o,.it o', hs,l,h=>by
   simp only [Ai] at h
   obtain ⟨h1,rfl⟩:=AO h
   exact ⟨_,rfl,by rw [Nat.eq_of_beq_eq_true h1]; exact Wk.refl _⟩
 | .sp o,.sp o', hs,l,h=>by
   simp only [Ai] at h
   obtain ⟨h1,rfl⟩:=AO h
   exact ⟨_,rfl,by rw [Nat.eq_of_beq_eq_true h1]; exact Wk.refl _⟩
 | .sp o,.pt o' off,hs,l,h=>by
   simp only [Ai] at h
   obtain ⟨h1,rfl⟩:=AO h
   simp only [Bool.and_eq_true] at h1
   exact ⟨_,rfl,by rw [Nat.eq_of_beq_eq_true h1.1,Nat.eq_of_beq_eq_true h1.2]; exact bN o⟩
 | .sp o,.c v,hs,l,h=>by
   simp only [Ai] at h
   obtain ⟨h1,rfl⟩:=AO h
   exact ⟨_,rfl,by rw [LD h1]; exact Yk o⟩
 | .fn f ss,.fn f' xs,hs,l,h=>by
   simp only [Ai] at h
   cases hc:Nat.beq f' f with
   | false=>rw [hc] at h; cases h
   | true =>
     rw [hc] at h
     obtain ⟨xs', h1,h2⟩:=FP ss xs hs l h
     exact ⟨.fn f xs', by simp only [BV,h1],by rw [Nat.eq_of_beq_eq_true hc]; simp only [X.enc,Aa]; exact Wk.fn h2⟩
 | .ag ss,.ag xs,hs,l,h=>by
   simp only [Ai] at h
   obtain ⟨xs', h1,h2⟩:=FP ss xs hs l h
   exact ⟨.ag xs', by simp only [BV,h1],by simp only [X.enc,Aa]; exact Wk.ag h2⟩
 | .tp ss,.tp xs,hs,l,h=>by
   simp only [Ai] at h
   obtain ⟨xs', h1,h2⟩:=FP ss xs hs l h
   exact ⟨.tp xs', by simp only [BV,h1],by simp only [X.enc,Aa]; exact Wk.tp h2⟩
 | .BE t s,.BE t' x,hs,l,h=>by
   simp only [Ai] at h
   cases hc:Nat.beq t' t with
   | false=>rw [hc] at h; cases h
   | true =>
     rw [hc] at h
     obtain ⟨x', h1,h2⟩:=Km s x hs l h
     exact ⟨.BE t x', by simp only [BV,h1],by rw [Nat.eq_of_beq_eq_true hc]; exact Wk.BE h2⟩
theorem FP:∀ (ss:List Sh) (xs:List X) (hs l:List HV),JP ss xs=some hs->∃ xs', Cr ss (hs ++ l)=(xs', l)/\Ro (xs.map X.enc) (xs'.map X.enc)
 | [],[],hs,l,h=>by simp only [JP] at h; cases h; exact ⟨[],rfl,Ro.nil⟩
 | s :: ss,x :: xs,hs,l,h=>by
   simp only [JP] at h
   split at h
   · rename_i a b ha hb
     cases h
     obtain ⟨x', h1,h2⟩:=Km s x a (b ++ l) ha
     obtain ⟨xs', h3,h4⟩:=FP ss xs b l hb
     refine ⟨x' :: xs', ?_,?_⟩
     · rw [List.append_assoc]; simp only [Cr,h1,h3]
     · exact Ro.cons h2 h4
   · cases h
end
end Go.Proofs.YtobfoiomjfdjjaaDoor.Mc
namespace Go.Proofs.YtobfoiomjfdjjaaDoor.Mc
open Go.RowKit
variable [Mo]
set_option linter.constructorNameAsVariable false
variable {P:Program}{D:Ah}
inductive Ej where
 | ar (e:TypeId) (r:Row)
 | bx (e:TypeId) (l:List Sh)
 | mp (t:MT)
 | mq (t:MT) (i:Nat)
 | si
 | mi (m:Nat)
 | gone
structure Hb where
 t:List (Nat × Sh)
 s:List (Nat × Ej)
def Ao:Ej->Option XO->Option (List HV)
 | .ar e r,some (.ar e' r' xs)=>cond (Nat.beq e' e) (match Row.eq? r' r with | some h=>some [⟨.tl r,h.down ▸ xs⟩] | none=>none) none
 | .bx e l,some (.bx e' cells)=>cond (Nat.beq e' e) (JP l cells) none
 | .mp t,some (.mp t' es)=>match MT.eq? t' t with | some h=>some [⟨.tm t,h.down ▸ es⟩] | none=>none
 | .mq t i,some (.mq t' es i' rest _)=>cond (Nat.beq i' i) (match MT.eq? t' t with | some h=>some [⟨.tq t,h.down ▸ (es,rest)⟩] | none=>none) none
 | .si,some (.si s pos)=>some [⟨.ts,s⟩,⟨.tn,pos⟩]
 | .mi m,some (.mi m')=>cond (Nat.beq m' m) (some []) none
 | .gone,none=>some []
 | _,_=>none
def Jj:Ej->List HV->Option XO × List HV
 | .ar e _,⟨.tl r,xs⟩ :: l=>(some (.ar e r xs),l)
 | .bx e ss,l=>let p:=Cr ss l; (some (.bx e p.1),p.2)
 | .mp _,⟨.tm t,es⟩ :: l=>(some (.mp t es),l)
 | .mq _ i,⟨.tq t,p⟩ :: l=>(some (.mq t p.1 i p.2 []),l)
 | .si,⟨.ts,s⟩ :: ⟨.tn,pos⟩ :: l=>(some (.si s pos),l)
 | .mi m,l=>(some (.mi m),l)
 | _,l=>(none,l)
def fI (x y:Option XO):Prop:=x=y\/(∃ e xs ys,x=some (.bx e xs)/\y=some (.bx e ys)/\Ro (xs.map X.enc) (ys.map X.enc))\/(∃ t es i rest cu,x=some (.mq t es i rest cu)/\y=some (.mq t es i rest []))\/∃ e r xs,e < 1000000/\x=some (.ar e r xs)/\y=some (.ar (e+2000000) r xs)
omit [Mo] in
theorem JY:∀ (o:Ej) (x:Option XO) (hs l:List HV),Ao o x=some hs->∃ x', Jj o (hs ++ l)=(x', l)/\fI x x'
 | .ar e r,some (.ar e' r' xs),hs,l,h=>by
   simp only [Ao] at h
   cases hc:Nat.beq e' e with
   | false=>rw [hc] at h; cases h
   | true =>
     rw [hc] at h
     simp only [cond_true] at h
     split at h
     · rename_i g _
       obtain ⟨g⟩:=g
       subst g
       cases h
       exact ⟨_,rfl,.inl (by rw [Nat.eq_of_beq_eq_true hc])⟩
     · cases h
 | .bx e ss,some (.bx e' cells),hs,l,h=>by
   simp only [Ao] at h
   cases hc:Nat.beq e' e with
   | false=>rw [hc] at h; cases h
   | true =>
     rw [hc] at h
     obtain ⟨xs', h1,h2⟩:=FP ss cells hs l h
     refine ⟨some (.bx e xs'),by simp only [Jj,h1],.inr (.inl ⟨e,cells,xs', by rw [Nat.eq_of_beq_eq_true hc],rfl,h2⟩)⟩
 | .mp t,some (.mp t' es),hs,l,h=>by
   simp only [Ao] at h
   split at h
   · rename_i g _
     obtain ⟨g⟩:=g
     subst g
     cases h
     exact ⟨_,rfl,.inl rfl⟩
   · cases h
 | .mq t i,some (.mq t' es i' rest cu),hs,l,h=>by
   simp only [Ao] at h
   cases hc:Nat.beq i' i with
   | false=>rw [hc] at h; cases h
   | true =>
     rw [hc] at h
     simp only [cond_true] at h
     split at h
     · rename_i g _
       obtain ⟨g⟩:=g
       subst g
       cases h
       exact ⟨_,rfl,.inr (.inr (.inl ⟨t', es,i,rest,cu,by rw [Nat.eq_of_beq_eq_true hc],rfl⟩))⟩
     · cases h
 | .mi m,some (.mi m'),hs,l,h=>by
   simp only [Ao] at h
   obtain ⟨h1,rfl⟩:=AO h
   exact ⟨some (.mi m),rfl,.inl (by rw [Nat.eq_of_beq_eq_true h1])⟩
 | .si,some (.si s pos),hs,l,h=>by simp only [Ao] at h; cases h; exact ⟨_,rfl,.inl rfl⟩
 | .gone,none,hs,l,h=>by simp only [Ao] at h; cases h; exact ⟨none,by simp [Jj],.inl rfl⟩
 | .ar _ _,none,_,_,h=>by simp [Ao] at h
 | .ar _ _,some (.bx _ _),_,_,h=>by simp [Ao] at h
 | .ar _ _,some (.mp _ _),_,_,h=>by simp [Ao] at h
 | .ar _ _,some (.mq _ _ _ _ _),_,_,h=>by simp [Ao] at h
 | .ar _ _,some (.si _ _),_,_,h=>by simp [Ao] at h
 | .ar _ _,some (.mi _),_,_,h=>by simp [Ao] at h
 | .bx _ _,none,_,_,h=>by simp [Ao] at h
 | .bx _ _,some (.ar _ _ _),_,_,h=>by simp [Ao] at h
 | .bx _ _,some (.mp _ _),_,_,h=>by simp [Ao] at h
 | .bx _ _,some (.mq _ _ _ _ _),_,_,h=>by simp [Ao] at h
 | .bx _ _,some (.si _ _),_,_,h=>by simp [Ao] at h
 | .bx _ _,some (.mi _),_,_,h=>by simp [Ao] at h
 | .mp _,none,_,_,h=>by simp [Ao] at h
 | .mp _,some (.ar _ _ _),_,_,h=>by simp [Ao] at h
 | .mp _,some (.bx _ _),_,_,h=>by simp [Ao] at h
 | .mp _,some (.mq _ _ _ _ _),_,_,h=>by simp [Ao] at h
 | .mp _,some (.si _ _),_,_,h=>by simp [Ao] at h
 | .mp _,some (.mi _),_,_,h=>by simp [Ao] at h
 | .mq _ _,none,_,_,h=>by simp [Ao] at h
 | .mq _ _,some (.ar _ _ _),_,_,h=>by simp [Ao] at h
 | .mq _ _,some (.bx _ _),_,_,h=>by simp [Ao] at h
 | .mq _ _,some (.mp _ _),_,_,h=>by simp [Ao] at h
 | .mq _ _,some (.si _ _),_,_,h=>by simp [Ao] at h
 | .mq _ _,some (.mi _),_,_,h=>by simp [Ao] at h
 | .si,none,_,_,h=>by simp [Ao] at h
 | .si,some (.ar _ _ _),_,_,h=>by simp [Ao] at h
 | .si,some (.bx _ _),_,_,h=>by simp [Ao] at h
 | .si,some (.mp _ _),_,_,h=>by simp [Ao] at h
 | .si,some (.mq _ _ _ _ _),_,_,h=>by simp [Ao] at h
 | .si,some (.mi _),_,_,h=>by simp [Ao] at h
 | .mi _,none,_,_,h=>by simp [Ao] at h
 | .mi _,some (.ar _ _ _),_,_,h=>by simp [Ao] at h
 | .mi _,some (.bx _ _),_,_,h=>by simp [Ao] at h
 | .mi _,some (.mp _ _),_,_,h=>by simp [Ao] at h
 | .mi _,some (.mq _ _ _ _ _),_,_,h=>by simp [Ao] at h
 | .mi _,some (.si _ _),_,_,h=>by simp [Ao] at h
 | .gone,some _,_,_,h=>by simp [Ao] at h
def Qo:List (Nat × Sh)->XT->Option (List HV)
 | [],[]=>some []
 | (i,sh) :: l,(j,x) :: t=>cond (Nat.beq j i) (match Ai sh x,Qo l t with | some a,some b=>some (a ++ b) | _,_=>none) none
 | _,_=>none
def Lh:List (Nat × Sh)->List HV->XT × List HV
 | [],l=>([],l)
 | (i,sh) :: ss,l=>let p:=BV sh l; let q:=Lh ss p.2; ((i,p.1) :: q.1,q.2)
def QF:List (Nat × Ej)->XS->Option (List HV)
 | [],[]=>some []
 | (o,sh) :: l,(p,x) :: t=>cond (Nat.beq p o) (match Ao sh x,QF l t with | some a,some b=>some (a ++ b) | _,_=>none) none
 | _,_=>none
def Dg:List (Nat × Ej)->List HV->XS × List HV
 | [],l=>([],l)
 | (o,sh) :: ss,l=>let p:=Jj sh l; let q:=Dg ss p.2; ((o,p.1) :: q.1,q.2)
inductive VU:XT->XT->Prop where
 | nil:VU [] []
 | cons (i:Nat) (x y:X) (t u:XT) (h:Wk x.enc y.enc) (k:VU t u):VU ((i,x) :: t) ((i,y) :: u)
inductive XH:XS->XS->Prop where
 | nil:XH [] []
 | cons (o:Nat) (x y:Option XO) (s u:XS) (h:fI x y) (k:XH s u):XH ((o,x) :: s) ((o,y) :: u)
omit [Mo] in
theorem Rp:∀ (ss:List (Nat × Sh)) (t:XT) (hs l:List HV),Qo ss t=some hs->∃ t', Lh ss (hs ++ l)=(t', l)/\VU t t'
 | [],[],hs,l,h=>by simp only [Qo] at h; cases h; exact ⟨[],rfl,.nil⟩
 | (i, sh) :: ss,(j,x) :: t,hs,l,h=>by
   simp only [Qo] at h
   cases hc:Nat.beq j i with
   | false=>rw [hc] at h; cases h
   | true =>
     rw [hc] at h
     simp only [cond_true] at h
     split at h
     · rename_i a b ha hb
       cases h
       obtain ⟨x', h1,h2⟩:=Km sh x a (b ++ l) ha
       obtain ⟨t', h3,h4⟩:=Rp ss t b l hb
       refine ⟨(i,x') :: t', ?_,?_⟩
       · rw [List.append_assoc]; simp only [Lh,h1,h3]
       · rw [Nat.eq_of_beq_eq_true hc]; exact .cons _ _ _ _ _ h2 h4
     · cases h
 | [],_ :: _,_,_,h=>by simp [Qo] at h
 | _ :: _,[],_,_,h=>by simp [Qo] at h
omit [Mo] in
theorem RY:∀ (ss:List (Nat × Ej)) (t:XS) (hs l:List HV),QF ss t=some hs->∃ t', Dg ss (hs ++ l)=(t', l)/\XH t t'
 | [],[],hs,l,h=>by simp only [QF] at h; cases h; exact ⟨[],rfl,.nil⟩
 | (i, sh) :: ss,(j,x) :: t,hs,l,h=>by
   simp only [QF] at h
   cases hc:Nat.beq j i with
   | false=>rw [hc] at h; cases h
   | true =>
     rw [hc] at h
     simp only [cond_true] at h
     split at h
     · rename_i a b ha hb
       cases h
       obtain ⟨x', h1,h2⟩:=JY sh x a (b ++ l) ha
       obtain ⟨t', h3,h4⟩:=RY ss t b l hb
       refine ⟨(i,x') :: t', ?_,?_⟩
       · rw [List.append_assoc]; simp only [Dg,h1,h3]
       · rw [Nat.eq_of_beq_eq_true hc]; exact .cons _ _ _ _ _ h2 h4
     · cases h
 | [],_ :: _,_,_,h=>by simp [QF] at h
 | _ :: _,[],_,_,h=>by simp [QF] at h
omit [Mo] in
theorem VU.get:∀ {t u:XT},VU t u->∀ (i:Nat),(lk t i=none/\lk u i=none)\/∃ x y,lk t i=some x/\lk u i=some y/\Wk x.enc y.enc
 | _,_,.nil,i=>.inl ⟨rfl,rfl⟩
 | _,_,.cons j x y t u h k,i=>by
   rw [lk,lk]
   cases Nat.beq j i with
   | true=>exact .inr ⟨x,y,rfl,rfl,h⟩
   | false=>exact k.get i
theorem AK.fL {B:BB} {w:World} {F:Nat->Prop} {loc:Nat->Option Loc} {s:AE} (hS:AK AM B w F loc s) {o:Nat} {kd:TypeDesc} {ag:Bool} {es:List (Value × List T)} {i:Nat} {rest cu:List (Value × List T)} (ho:s o=some (some (.mq kd ag es i rest cu))) :
   AK AM B w F loc (Ae s o (some (some (.mq kd ag es i rest [])))):=by
 refine { hS with Cg:=fun o' obj h'=>?_,Fp:=fun o' l hl'=>?_ }
 · by_cases hod:o' = o
   · subst hod
     rw [AA] at h'; cases h'
     obtain ⟨l,h1,h2⟩:=hS.Cg o' _ ho
     refine ⟨l,h1,?_⟩
     cases h2 with
     | mq _ _ _ _ _ _ b en clock vs vr c since c0 seen hb hm hi hc hok=>exact .mq kd ag es i rest [] b en clock vs vr c since c0 seen hb hm hi hc ⟨hok.sc,hok.sk,hok.Hd,hok.LV,hok.al,[],⟨rfl,fun i k r h=>by simp at h⟩,fun k v h=>by simp at h⟩
     | Ph _ _ _ _ _ _ b en clock vs hb hm hi=>exact .Ph kd ag es i rest [] b en clock vs hb hm hi
   · rw [AJ _ _ hod] at h'; exact hS.Cg o' obj h'
 · by_cases hod:o' = o
   · subst hod; exact ⟨_,AA _ _ _⟩
   · rw [AJ _ _ hod]; exact hS.Fp o' l hl'
theorem AK.iJ {B:BB} {w:World} {F:Nat->Prop} {loc:Nat->Option Loc} {pre post:XS} {o:Nat} {x y:Option XO} (hS:AK AM B w F loc (encS (pre ++ (o,x) :: post))) (h:fI x y):AK AM B w F loc (encS (pre ++ (o,y) :: post)):=by
 have hsplit:∀ (z:Option XO),encS (pre ++ (o,z) :: post)=if (lk pre o).isSome then encS (pre ++ post) else Ae (encS (pre ++ post)) o (some (z.map XO.enc)):=by
   intro z
   funext n
   unfold encS
   rw [AR]
   by_cases hn:n=o
   · subst hn
     cases hp:lk pre n with
     | some q=>simp [AR,hp]
     | none=>simp [lk,AA]
   · have hb:Nat.beq o n=false:=by rw [<- Bool.not_eq_true,Nat.beq_eq]; exact fun h=>hn h.symm
     rw [lk,hb,cond_false]
     by_cases hs:(lk pre o).isSome=true
     · rw [if_pos hs]; simp only [AR]
     · rw [if_neg hs,AJ _ _ hn]; simp only [AR]
 have hu:∀ (y z:Option (Option O)),Ae (Ae (encS (pre ++ post)) o y) o z=Ae (encS (pre ++ post)) o z:=by
   intro y z; funext m; by_cases hm:m=o
   · subst hm; simp [AA]
   · simp [AJ _ _ hm]
 rcases h with rfl | ⟨e,xs,ys,rfl,rfl,hw⟩ | ⟨t,es,i,rest,cu,rfl,rfl⟩ | ⟨e,r,xs,he,rfl,rfl⟩
 rotate_right
 · rw [hsplit] at hS ⊢
   split at hS
   · rename_i hs; rw [if_pos hs]; exact hS
   · rename_i hs
     rw [if_neg hs]
     have:=hS.QW (o:=o) (e:=e) (sz:=r.len) (rows:=xs.map r.en) (AA _ _ _) he
     rw [hu] at this
     exact this
 · exact hS
 · rw [hsplit] at hS ⊢
   split at hS
   · rename_i hs; rw [if_pos hs]; exact hS
   · rename_i hs
     rw [if_neg hs]
     have:=hS.bX (o:=o) (e:=e) (xs:=Bp xs) (ys:=Bp ys) (AA _ _ _) (by rw [Aa,Aa]; exact hw)
     rw [hu] at this
     exact this
 · rw [hsplit] at hS ⊢
   split at hS
   · rename_i hs; rw [if_pos hs]; exact hS
   · rename_i hs
     rw [if_neg hs]
     have:=hS.fL (o:=o) (kd:=t.kt.desc) (ag:=t.ag) (es:=t.en es) (i:=i) (rest:=t.en rest) (cu:=t.en cu) (AA _ _ _)
     rw [hu] at this
     exact this
theorem AK.fY {B:BB}{w:World}{F:Nat->Prop}{loc:Nat->Option Loc}{post:XS}:∀ {s u:XS},XH s u->∀ (pre:XS),AK AM B w F loc (encS (pre ++ (s ++ post)))->AK AM B w F loc (encS (pre ++ (u ++ post)))
 | _,_,.nil,pre,h=>h
 | _,_,.cons o x y s u hw k,pre,h=>by
   have h1:=AK.iJ (pre:=pre) (post:=s ++ post) h hw
   have h2:=AK.fY k (pre ++ [(o,y)]) (by simpa using h1)
   simpa using h2
theorem Conv.wk {E:XE}{t u:XT}{s v:XS}(ht:VU t u)(hs:XH s v):Conv AM (AH E ⟨t,s⟩) (AH E ⟨u,v⟩):=by
 intro B F loc tmps w hR
 refine ⟨F,loc,⟨?_,fun i=>?_,hR.n,hR.a⟩⟩
 · exact AK.fY (pre:=[]) hs hR.s
 · have:=hR.t i
   show AF w F loc (CN (u ++ E.t) i) _
   have h1:AF w F loc (CN (t ++ E.t) i) (tmps.getD i undef):=this
   unfold CN at h1 ⊢
   rw [AR] at h1 ⊢
   rcases ht.get i with ⟨h2,h3⟩ | ⟨x,y,h2,h3,h4⟩
   · rw [h3]; rw [h2] at h1; exact h1
   · rw [h3]; rw [h2] at h1; exact h4 _ _ _ _ h1
def Qz (tp:Hb)(st:Aw):Option (List HV):=match Qo tp.t st.t,QF tp.s st.s with | some a,some b=>some (a ++ b) | _,_=>none
def Ay (tp:Hb)(l:List HV):Aw:=let p:=Lh tp.t l; ⟨p.1,(Dg tp.s p.2).1⟩
theorem Conv.tpl {E:XE}{tp:Hb}{st:Aw}{hs:List HV}(h:Qz tp st=some hs):Conv AM (AH E st) (AH E (Ay tp hs)):=by
 unfold Qz at h
 split at h
 · rename_i a b ha hb
   cases h
   obtain ⟨t', h1,h2⟩:=Rp tp.t st.t a b ha
   obtain ⟨s', h3,h4⟩:=RY tp.s st.s b [] hb
   rw [List.append_nil] at h3
   unfold Ay
   simp only [h1,h3]
   exact Conv.wk h2 h4
 · cases h
structure Acc where
 ρ:Ren
 fz:List Nat
def Acc.pair (a:Acc)(o o':Nat):Acc:=cond (a.ρ.any fun p=>Nat.beq p.1 o) a ⟨a.ρ ++ [(o,o')],a.fz⟩
def Acc.BF (a:Acc)(o:Nat):Acc:=⟨a.ρ,a.fz ++ [o]⟩
mutual
def Ng:Sh->X->Acc->Acc
 | .fz _ _,.sl _ o,a=>a.BF o
 | .fz _ _,.sw o _ _,a=>a.BF o
 | .sl _ o,.sl _ o', a=>a.pair o o'
 | .sw o,.sw o' _ _,a=>a.pair o o'
 | .pt o _,.pt o' _,a=>a.pair o o'
 | .pe o _,.pe o' _ _,a=>a.pair o o'
 | .mp o,.mp o', a=>a.pair o o'
 | .it o,.it o', a=>a.pair o o'
 | .sp o,.sp o', a=>a.pair o o'
 | .sp o,.pt o' _,a=>a.pair o o'
 | .fn _ l,.fn _ xs,a=>Em l xs a
 | .ag l,.ag xs,a=>Em l xs a
 | .tp l,.tp xs,a=>Em l xs a
 | .BE _ s,.BE _ x,a=>Ng s x a
 | _,_,a=>a
def Em:List Sh->List X->Acc->Acc
 | s :: l,x :: xs,a=>Em l xs (Ng s x a)
 | _,_,a=>a
end
def cx (tp:Hb)(o:Nat):Option (Nat × Row):=match lk tp.s o with | some (.ar e r)=>some (e,r) | _=>none
def Uh:Sh->Option Nat | .sl _ o=>some o | _=>none
def MR (s:XS):Nat->Nat->Nat
 | 0,n=>n
 | k+1,n=>match lk s n with | none=>n | some _=>MR s k (n+1)
def MW (E:XE) (tp:Hb):List (Nat × Sh)->Acc->Aw->Option (Acc × Aw)
 | [],a,st=>some (a,st)
 | (i, sh) :: l,a,st=>match Uh sh,Ct (Te E st i) with
   | some o,true=>match cx tp o with
     | some (e,r)=>match FH E i (MR (st.s ++ E.s) 50 (o+600000)) e r st with
       | some st'=>MW E tp l (a.pair o (MR (st.s ++ E.s) 50 (o+600000))) st'
       | none=>none
     | none=>none
   | _,_=>MW E tp l (Ng sh (Te E st i) a) st
def Ji (E:XE) (tp:Hb) (m:Nat):Nat->List Sh->List X->Acc->Aw->Option (Acc × Aw)
 | j,sh :: l,x :: xs,a,st=>match Uh sh,Ct x with
   | some o,true=>match cx tp o with
     | some (e,r)=>match HM E m j (MR (st.s ++ E.s) 50 (o+600000)) e r st with
       | some st'=>Ji E tp m (j+1) l xs (a.pair o (MR (st.s ++ E.s) 50 (o+600000))) st'
       | none=>none
     | none=>none
   | _,_=>Ji E tp m (j+1) l xs (Ng sh x a) st
 | _,_,_,a,st=>some (a,st)
def nameOf (a:Acc)(n:Nat):Nat:=match lk a.ρ n with | some m=>m | none=>n
def Df (E:XE) (tp:Hb):List (Nat × Ej)->Acc->Aw->Option (Acc × Aw)
 | [],a,st=>some (a,st)
 | (n,.bx _ l) :: r,a,st=>match lk st.s (nameOf a n) with
   | some (some (.bx _ cells))=>match Ji E tp (nameOf a n) 0 l cells a st with
     | some (a', st')=>Df E tp r a' st'
     | none=>none
   | _=>Df E tp r a st
 | _ :: r,a,st=>Df E tp r a st
def DX (E:XE):List Nat->Aw->Option Aw
 | [],st=>some st
 | o :: l,st=>match lk st.s o with
   | some (some (.ar _ _ _))=>match Cy E o st with
     | some st'=>DX E l st'
     | none=>none
   | _=>DX E l st
def OK (E:XE) (o d:Nat) (st:Aw):Option Aw :=
 match lk st.s o with
 | some (some x)=>cond ((lk (st.s ++ E.s) d).isNone && E.t.all (fun p=>p.2.EB (Nn o)) && E.s.all (fun p=>Nn o p.1 && ZJ (Nn o) p.2))
     (some ⟨st.t.map fun p=>(p.1,p.2.AQ (Ll o d)),(o,none) :: (d,some (x.AQ (Ll o d))) :: st.s.map fun p=>(p.1,p.2.map (XO.AQ (Ll o d)))⟩) none
 | _=>none
def EA (E:XE):List (Nat × Ej)->Aw->Option Aw
 | [],st=>some st
 | (n,.gone) :: l,st=>match lk st.s n with
   | some (some _)=>match OK E n (MR (st.s ++ E.s) 50 (n+800000)) st with
     | some st'=>EA E l st'
     | none=>none
   | _=>EA E l st
 | _ :: l,st=>EA E l st
def Kn:List (Nat × Ej)->XS->XS
 | (_,.ar e _) :: l,(m,some (.ar e' r xs)) :: s=>(m,some (.ar (cond (Nat.beq e (e' + 2000000) && Nat.blt e' 1000000) (e' + 2000000) e') r xs)) :: Kn l s
 | _ :: l,x :: s=>x :: Kn l s
 | [],s=>s
 | _,[]=>[]
def Bh (E:XE) (tp:Hb) (st:Aw):Option (List HV) :=
 match EA E tp.s st with
 | none=>none
 | some Gc=>match MW E tp tp.t ⟨[],[]⟩ Gc with
   | none=>none
   | some (a,st1)=>match Df E tp tp.s a st1 with
     | none=>none
     | some (a2,st2)=>match DX E a2.fz st2 with
       | none=>none
       | some st3=>match PR E (tp.t.map (·.1)) (tp.s.map fun p=>(nameOf a2 p.1,p.1)) st3 with
         | none=>none
         | some st4=>Qz tp ⟨st4.t,Kn tp.s st4.s⟩
omit [Mo] in
theorem Wu {o d:Nat}:∀ n,Nn o n=true->IJ (Ll o d) n=true:=by
 intro n h
 unfold Nn at h
 simp only [Bool.not_eq_true'] at h
 unfold IJ Ll
 simp only [h,cond_false,Nat.beq_refl]
omit [Mo] in
mutual
theorem X.Dt {p q:Nat->Bool}(h:∀ n,p n=true->q n=true):∀ (x:X),x.EB p=true->x.EB q=true
 | .sl _ o,k=>h o k
 | .sw o _ _,k=>h o k
 | .pt o _,k=>h o k
 | .pe o _ _,k=>h o k
 | .mp o,k=>h o k
 | .it o,k=>h o k
 | .sp o,k=>h o k
 | .fn _ caps,k=>DE h caps k
 | .ag cs,k=>DE h cs k
 | .tp cs,k=>DE h cs k
 | .BE _ x,k=>X.Dt h x k
 | .c _,_=>rfl
 | .i _ _,_=>rfl
 | .b _,_=>rfl
 | .s _,_=>rfl
 | .fz _ _ _,_=>rfl
 | .pf _ _ _,_=>rfl
 | .dead,_=>rfl
theorem DE {p q:Nat->Bool}(h:∀ n,p n=true->q n=true):∀ (xs:List X),DW p xs=true->DW q xs=true
 | [],_=>rfl
 | x :: xs,k=>by
   simp only [DW,Bool.and_eq_true] at k ⊢
   exact ⟨X.Dt h x k.1,DE h xs k.2⟩
end
omit [Mo] in
theorem XO.Dt {p q:Nat->Bool}(h:∀ n,p n=true->q n=true)(x:XO)(k:x.EB p=true):x.EB q=true:=by
 cases x with
 | bx e cells=>exact DE h cells k
 | mq t es i rest cu=>exact h i k
 | mi m=>exact h m k
 | _=>rfl
theorem Conv.OK {E:XE} {o d:Nat} {st st':Aw} (h:Mc.OK E o d st=some st'):Conv AM (AH E st) (AH E st'):=by
 unfold Mc.OK at h
 split at h
 · rename_i x hl
   obtain ⟨hc,rfl⟩:=AO h
   simp only [Bool.and_eq_true] at hc
   obtain ⟨⟨h0,h1⟩,h2⟩:=hc
   rw [List.all_eq_true] at h1 h2
   have fix:∀ n,Nn o n=true->IJ (Ll o d) n=true:=Wu
   have ho:encS (st.s ++ E.s) o=some (some x.enc):=by unfold encS; rw [AR,hl]; rfl
   have:=Conv.move (G:=AM) (t:=CN (st.t ++ E.t)) (s:=encS (st.s ++ E.s)) (m:=E.n) (a:=E.a) o d (by rw [ho]; rfl) (IP h0)
   have hod:o ≠ d:=by
     rintro rfl
     rw [Option.isNone_iff_eq_none,AR,hl] at h0; cases h0
   have e1:(fun i=>(CN (st.t ++ E.t) i).AQ (Ll o d))=CN ((st.t.map fun p=>(p.1,p.2.AQ (Ll o d))) ++ E.t):=by
     funext i
     rw [Ee,Ee,<- X.Bm,AR,AR,Kx (fun _ x=>X.AQ (Ll o d) x)]
     cases lk st.t i with
     | some x=>rfl
     | none =>
       simp only [Option.map_none]
       cases he:lk E.t i with
       | none=>rfl
       | some x=>simp only; rw [X.EV _ x (X.Dt fix x (h1 _ (CP he)))]
   have e2 : WI o d (encS (st.s ++ E.s))=encS (((o,none) :: (d,some (x.AQ (Ll o d))) :: st.s.map fun p=>(p.1,p.2.map (XO.AQ (Ll o d)))) ++ E.s):=by
     funext n
     unfold WI
     simp only [ho,Option.map_some]
     unfold encS
     simp only [List.cons_append,lk]
     by_cases hn:n=o
     · subst hn; simp
     · have hb:Nat.beq n o=false:=by rw [<- Bool.not_eq_true,Nat.beq_eq]; exact hn
       have hb':Nat.beq o n=false:=by rw [<- Bool.not_eq_true,Nat.beq_eq]; exact fun e=>hn e.symm
       rw [hb,hb', cond_false,cond_false]
       by_cases hd:n=d
       · subst hd; simp [XO.Bm]
       · have hc:Nat.beq n d=false:=by rw [<- Bool.not_eq_true,Nat.beq_eq]; exact hd
         have hc':Nat.beq d n=false:=by rw [<- Bool.not_eq_true,Nat.beq_eq]; exact fun e=>hd e.symm
         rw [hc,hc', cond_false,cond_false,AR,AR,Kx (fun (_:Nat) (x:Option XO)=>x.map (XO.AQ (Ll o d)))]
         cases hs:lk st.s n with
         | some x=>cases x <;> simp [XO.Bm]
         | none =>
           simp only [Option.map_none]
           cases he:lk E.s n with
           | none=>rfl
           | some x =>
             have:=h2 _ (CP he)
             simp only [Bool.and_eq_true] at this
             cases x with
             | none=>rfl
             | some y=>simp only [Option.map_some]; rw [<- XO.Bm,XO.EV _ y (XO.Dt fix y this.2)]
   show Conv AM ⟨_,_,_,_⟩ ⟨_,_,_,_⟩
   rw [e1,e2] at this
   exact this
 · cases h
theorem Bk {E:XE}:∀ {l:List (Nat × Ej)} {st st':Aw},EA E l st=some st' -> Conv AM (AH E st) (AH E st')
 | [],st,st', h=>by simp only [EA] at h; cases h; exact Conv.refl _
 | (n, .gone) :: l,st,st', h=>by
   simp only [EA] at h
   split at h
   · split at h
     · rename_i st1 h1
       exact Conv.trans (Conv.OK h1) (Bk h)
     · cases h
   · exact Bk h
 | (n,.ar _ _) :: l,st,st', h=>by simp only [EA] at h; exact Bk h
 | (n,.bx _ _) :: l,st,st', h=>by simp only [EA] at h; exact Bk h
 | (n,.si) :: l,st,st', h=>by simp only [EA] at h; exact Bk h
 | (n,.mp _) :: l,st,st', h=>by simp only [EA] at h; exact Bk h
 | (n,.mq _ _) :: l,st,st', h=>by simp only [EA] at h; exact Bk h
 | (n,.mi _) :: l,st,st', h=>by simp only [EA] at h; exact Bk h
theorem GW {E:XE} {tp:Hb}:∀ {l:List (Nat × Sh)} {a a':Acc} {st st':Aw},MW E tp l a st=some (a', st')->Conv AM (AH E st) (AH E st')
 | [],a,a', st,st', h=>by simp only [MW] at h; cases h; exact Conv.refl _
 | (i, sh) :: l,a,a', st,st', h=>by
   simp only [MW] at h
   split at h
   · split at h
     · split at h
       · rename_i st1 h1
         exact Conv.trans (Conv.FH h1) (GW h)
       · cases h
     · cases h
   · exact GW h
theorem GI {E:XE} {tp:Hb} {m:Nat}:∀ {j:Nat} {l:List Sh} {xs:List X} {a a':Acc} {st st':Aw},Ji E tp m j l xs a st=some (a', st')->Conv AM (AH E st) (AH E st')
 | j, sh :: l,x :: xs,a,a', st,st', h=>by
   simp only [Ji] at h
   split at h
   · split at h
     · split at h
       · rename_i st1 h1
         exact Conv.trans (Conv.HM h1) (GI h)
       · cases h
     · cases h
   · exact GI h
 | _,[],_,a,a', st,st', h=>by simp only [Ji] at h; cases h; exact Conv.refl _
 | _,_ :: _,[],a,a', st,st', h=>by simp only [Ji] at h; cases h; exact Conv.refl _
theorem Bc {E:XE} {tp:Hb}:∀ {l:List (Nat × Ej)} {a a':Acc} {st st':Aw},Df E tp l a st=some (a', st')->Conv AM (AH E st) (AH E st')
 | [],a,a', st,st', h=>by simp only [Df] at h; cases h; exact Conv.refl _
 | (n, .bx e ss) :: l,a,a', st,st', h=>by
   simp only [Df] at h
   split at h
   · split at h
     · rename_i a1 st1 h1
       exact Conv.trans (GI h1) (Bc h)
     · cases h
   · exact Bc h
 | (n,.ar _ _) :: l,a,a', st,st', h=>by simp only [Df] at h; exact Bc h
 | (n,.si) :: l,a,a', st,st', h=>by simp only [Df] at h; exact Bc h
 | (n,.mp _) :: l,a,a', st,st', h=>by simp only [Df] at h; exact Bc h
 | (n,.mq _ _) :: l,a,a', st,st', h=>by simp only [Df] at h; exact Bc h
 | (n,.mi _) :: l,a,a', st,st', h=>by simp only [Df] at h; exact Bc h
 | (n,.gone) :: l,a,a', st,st', h=>by simp only [Df] at h; exact Bc h
theorem Cd {E:XE}:∀ {l:List Nat} {st st':Aw},DX E l st=some st' -> Conv AM (AH E st) (AH E st')
 | [],st,st', h=>by simp only [DX] at h; cases h; exact Conv.refl _
 | o :: l,st,st', h=>by
   simp only [DX] at h
   split at h
   · split at h
     · rename_i st1 h1
       exact Conv.trans (Conv.Cy h1) (Cd h)
     · cases h
   · exact Cd h
omit [Mo] in
theorem VU.self:∀ (t:XT),VU t t
 | []=>.nil
 | p :: t=>.cons p.1 p.2 p.2 t t (Wk.refl _) (VU.self t)
omit [Mo] in
theorem OA : ∀ (l:List (Nat × Ej)) (s:XS),XH s (Kn l s)
 | [],s=>by
   have:∀ s:XS,XH s s:=fun s=>by
     induction s with
     | nil=>exact .nil
     | cons p s ih=>exact .cons p.1 p.2 p.2 s s (.inl rfl) ih
   simp only [Kn]
   exact this s
 | p :: l,[]=>by
   have:Kn (p :: l) []=[]:=by
     obtain ⟨n,o⟩:=p
     cases o <;> rfl
   rw [this]
   exact .nil
 | (n, o) :: l,(m,x) :: s=>by
   have ih:=OA l s
   cases o with
   | ar e r0 =>
     cases x with
     | none=>exact .cons m none none s _ (.inl rfl) ih
     | some x =>
       cases x with
       | ar e' r xs =>
         simp only [Kn]
         cases hc:Nat.beq e (e' + 2000000) && Nat.blt e' 1000000 with
         | false=>exact .cons m _ _ s _ (.inl rfl) ih
         | true =>
           simp only [Bool.and_eq_true] at hc
           exact .cons m _ _ s _ (.inr (.inr (.inr ⟨e', r,xs,by simpa using hc.2,rfl,rfl⟩))) ih
       | _=>exact .cons m _ _ s _ (.inl rfl) ih
   | _=>exact .cons m x x s _ (.inl rfl) ih
theorem Conv.Bh {E:XE} {tp:Hb} {st:Aw} {hs:List HV} (h:Mc.Bh E tp st=some hs):Conv AM (AH E st) (AH E (Ay tp hs)):=by
 unfold Mc.Bh at h
 split at h
 · cases h
 · rename_i Gc h0
   split at h
   · cases h
   · rename_i a st1 h1
     split at h
     · cases h
     · rename_i a2 st2 h2
       split at h
       · cases h
       · rename_i st3 h3
         split at h
         · cases h
         · rename_i st4 h4
           exact (Bk h0).trans ((GW h1).trans ((Bc h2).trans ((Cd h3).trans ((Conv.PR h4).trans ((Conv.wk (VU.self _) (OA tp.s st4.s)).trans (Conv.tpl h))))))
end Go.Proofs.YtobfoiomjfdjjaaDoor.Mc
namespace Go.Proofs.YtobfoiomjfdjjaaDoor.Mc
open Go.RowKit
variable [Mo]
set_option linter.constructorNameAsVariable false
variable {P:Program}{D:Ah}
def Dq:List (List Al)->Type
 | []=>Empty
 | [h]=>Tup h
 | h :: g :: t=>Tup h ⊕ Dq (g :: t)
def Fk:(hs:List (List Al))->Nat->List HV->Option (Dq hs)
 | [],_,_=>none
 | [h],0,l=>DS h l
 | [_],_+1,_=>none
 | h :: _ :: _,0,l=>match DS h l with | some y=>some (.inl y) | none=>none
 | _ :: g :: t,i+1,l=>match Fk (g :: t) i l with | some y=>some (.inr y) | none=>none
def Aq.{u}{α β:Type}{γ:Sort u}(f:α->γ)(g:β->γ):α ⊕ β->γ
 | .inl x=>f x
 | .inr y=>g y
def Aj.{u}{β:Sort u}:(hs:List (List Al))->Dq hs->(Nat->List HV->β)->β
 | [],x,_=>x.elim
 | [h],y,f=>f 0 (BO h y)
 | h :: g :: t,x,f=>Aq (fun y=>f 0 (BO h y)) (fun z=>Aj (g :: t) z fun i l=>f (i+1) l) x
omit [Mo] in
theorem Ni.{u}{β:Sort u}:∀ (hs:List (List Al)) (i:Nat) (l:List HV) (y:Dq hs) (f:Nat->List HV->β),Fk hs i l=some y->Aj hs y f=f i l
 | [h],0,l,y,f,k=>by simp only [Aj]; rw [Cp h l y k]
 | [_],_+1,_,_,_,k=>by simp [Fk] at k
 | [],_,_,y,_,_=>y.elim
 | h :: g :: t,0,l,y,f,k=>by
   simp only [Fk] at k
   split at k
   · rename_i z hz; cases k; simp only [Aj,Aq]; rw [Cp h l z hz]
   · cases k
 | h :: g :: t,i+1,l,y,f,k=>by
   simp only [Fk] at k
   split at k
   · rename_i z hz; cases k; simp only [Aj,Aq]; rw [Ni (g :: t) i l z _ hz]
   · cases k
omit [Mo] in
theorem Hr:∀ (hs:List (List Al)) (y:Dq hs) {p q:Nat->List HV->Prop},(∀ i l,p i l->q i l)->Aj hs y p->Aj hs y q
 | [],y,_,_,_=>y.elim
 | [_],_,_,_,h=>h _ _
 | _ :: _ :: _,.inl _,_,_,h=>h _ _
 | _ :: g :: t,.inr z,_,_,h=>Hr (g :: t) z fun i l=>h (i+1) l
omit [Mo] in
theorem Hs {α:Type}{r:α}:∀ (hs:List (List Al)) (y:Dq hs) {f:Nat->List HV->Option α} {p:Nat->List HV->Prop},Aj hs y f=some r->Aj hs y p->∃ i l,f i l=some r/\p i l
 | [],y,_,_,_,_=>y.elim
 | [_],_,_,_,h,k=>⟨_,_,h,k⟩
 | _ :: _ :: _,.inl _,_,_,h,k=>⟨_,_,h,k⟩
 | _ :: g :: t,.inr z,f,p,h,k=>by
   obtain ⟨i,l,h1,h2⟩:=Hs (g :: t) z (f:=fun i l=>f (i+1) l) (p:=fun i l=>p (i+1) l) h k
   exact ⟨_,_,h1,h2⟩
structure AZ where
 a:List Sh
 o:List (Nat × Ej)
structure AY where
 v:Sh
 o:List (Nat × Ej)
 h:List Al
def Dz (A:AZ)(l:List HV):List X × XS:=let p:=Cr A.a l; (p.1,(Dg A.o p.2).1)
def Fs (R:AY)(l:List HV):X × XS:=let p:=BV R.v l; (p.1,(Dg R.o p.2).1)
def DV (R:List AY)(i:Nat):AY:=match R[i]? with | some r=>r | none=>⟨.dead,[],[]⟩
def LL (P:Program)(f:FuncId)(vs:List X)(s:XS)(r:X)(s1:XS):Prop:=CT P AM f (vs.map X.enc) (encS s) fun r' s'=>r' = r.enc/\s' = encS s1
def Uk:Nl->Nl->Bool | .e,.e=>true | .n,.n=>true | .u,.u=>true | _,_=>false
omit [Mo] in
theorem Rm {a b:Nl}(h:Uk a b=true):a=b:=by cases a <;> cases b <;> first | rfl | cases h
mutual
def Jt:Sh->X->Bool
 | .fz nl _,.fz nl' _ _=>Uk nl nl'
 | .fz _ _,.c _=>false
 | .sp _,.pt _ _=>false
 | .sp _,.c _=>false
 | .sl nl _,.sl nl' _=>Uk nl nl'
 | .fn _ l,.fn _ xs=>Yz l xs
 | .ag l,.ag xs=>Yz l xs
 | .tp l,.tp xs=>Yz l xs
 | .BE _ s,.BE _ x=>Jt s x
 | .dead,_=>false
 | _,_=>true
def Yz:List Sh->List X->Bool
 | s :: l,x :: xs=>Jt s x && Yz l xs
 | _,_=>true
end
omit [Mo] in
mutual
theorem Oa:∀ (sh:Sh) (x:X) (hs l:List HV),Ai sh x=some hs->Jt sh x=true->BV sh (hs ++ l)=(x,l)
 | .dead,x,hs,l,h,k=>by simp [Jt] at k
 | .i k,.i k' n,hs,l,h,_=>by
   simp only [Ai] at h
   split at h
   · rename_i hk; cases h; subst hk; rfl
   · cases h
 | .b,.b q,hs,l,h,_=>by simp only [Ai] at h; cases h; rfl
 | .s,.s q,hs,l,h,_=>by simp only [Ai] at h; cases h; rfl
 | .li k m,.i k' n,hs,l,h,_=>by
   simp only [Ai] at h
   split at h
   · rename_i hk; cases h; obtain ⟨rfl,rfl⟩:=hk; rfl
   · cases h
 | .lb p,.b q,hs,l,h,_=>by
   simp only [Ai] at h
   split at h
   · rename_i hk; cases h; subst hk; rfl
   · cases h
 | .c v,.c w,hs,l,h,_=>by
   simp only [Ai] at h
   obtain ⟨h1,rfl⟩:=AO h
   rw [LD h1]; rfl
 | .fz nl r,.fz nl' r' xs,hs,l,h,k=>by
   simp only [Ai] at h
   cases hc:Sr nl' nl with
   | false=>rw [hc] at h; cases h
   | true =>
     rw [hc] at h
     simp only [cond_true] at h
     split at h
     · rename_i g _
       obtain ⟨g⟩:=g
       subst g
       cases h
       have k':Uk nl nl' = true:=by simpa [Jt] using k
       have:=Rm k'
       subst this; rfl
     · cases h
 | .sl nl o,.sl nl' o', hs,l,h,k=>by
   simp only [Ai] at h
   obtain ⟨h1,rfl⟩:=AO h
   simp only [Bool.and_eq_true] at h1
   have k':Uk nl nl' = true:=by simpa [Jt] using k
   have:=Rm k'
   subst this
   rw [Nat.eq_of_beq_eq_true h1.2]; rfl
 | .sw o,.sw o' off len,hs,l,h,_=>by
   simp only [Ai] at h
   obtain ⟨h1,rfl⟩:=AO h
   rw [Nat.eq_of_beq_eq_true h1]; rfl
 | .pt o off,.pt o' off', hs,l,h,_=>by
   simp only [Ai] at h
   obtain ⟨h1,rfl⟩:=AO h
   simp only [Bool.and_eq_true] at h1
   rw [Nat.eq_of_beq_eq_true h1.1,Nat.eq_of_beq_eq_true h1.2]; rfl
 | .pe o off,.pe o' i off', hs,l,h,_=>by
   simp only [Ai] at h
   obtain ⟨h1,rfl⟩:=AO h
   simp only [Bool.and_eq_true] at h1
   rw [Nat.eq_of_beq_eq_true h1.1,Nat.eq_of_beq_eq_true h1.2]; rfl
 | .pf r off,.pf r' x off', hs,l,h,_=>by
   simp only [Ai] at h
   cases hc:Nat.beq off' off with
   | false=>rw [hc] at h; cases h
   | true =>
     rw [hc] at h
     simp only [cond_true] at h
     split at h
     · rename_i g _
       obtain ⟨g⟩:=g
       subst g
       cases h; rw [Nat.eq_of_beq_eq_true hc]; rfl
     · cases h
 | .mp o,.mp o', hs,l,h,_=>by
   simp only [Ai] at h
   obtain ⟨h1,rfl⟩:=AO h
   rw [Nat.eq_of_beq_eq_true h1]; rfl
 | .it o,.it o', hs,l,h,_=>by
   simp only [Ai] at h
   obtain ⟨h1,rfl⟩:=AO h
   rw [Nat.eq_of_beq_eq_true h1]; rfl
 | .sp o,.sp o', hs,l,h,_=>by
   simp only [Ai] at h
   obtain ⟨h1,rfl⟩:=AO h
   rw [Nat.eq_of_beq_eq_true h1]; rfl
 | .fn f ss,.fn f' xs,hs,l,h,k=>by
   simp only [Ai] at h
   cases hc:Nat.beq f' f with
   | false=>rw [hc] at h; cases h
   | true =>
     rw [hc] at h
     have:=Gs ss xs hs l h (by simpa only [Jt] using k)
     simp only [BV,this,Nat.eq_of_beq_eq_true hc]
 | .ag ss,.ag xs,hs,l,h,k=>by
   simp only [Ai] at h
   simp only [BV,Gs ss xs hs l h (by simpa only [Jt] using k)]
 | .tp ss,.tp xs,hs,l,h,k=>by
   simp only [Ai] at h
   simp only [BV,Gs ss xs hs l h (by simpa only [Jt] using k)]
 | .BE t s,.BE t' x,hs,l,h,k=>by
   simp only [Ai] at h
   cases hc:Nat.beq t' t with
   | false=>rw [hc] at h; cases h
   | true =>
     rw [hc] at h
     simp only [BV,Oa s x hs l h (by simpa only [Jt] using k),Nat.eq_of_beq_eq_true hc]
 | .fz _ _,.c _,_,_,_,k=>by simp [Jt] at k
theorem Gs:∀ (ss:List Sh) (xs:List X) (hs l:List HV),JP ss xs=some hs->Yz ss xs=true->Cr ss (hs ++ l)=(xs,l)
 | [],[],hs,l,h,_=>by simp only [JP] at h; cases h; rfl
 | s :: ss,x :: xs,hs,l,h,k=>by
   simp only [JP] at h
   simp only [Yz,Bool.and_eq_true] at k
   split at h
   · rename_i a b ha hb
     cases h
     rw [List.append_assoc]
     simp only [Cr,Oa s x a (b ++ l) ha k.1,Gs ss xs b l hb k.2]
   · cases h
end
def fb:Ej->XO->Bool
 | .bx _ l,.bx _ cells=>Yz l cells
 | .mq _ _,.mq _ _ _ _ cu=>List.isEmpty cu
 | _,_=>true
omit [Mo] in
theorem XN (o:Ej) (x:XO) (hs l:List HV) (h:Ao o (some x)=some hs) (k:fb o x=true):Jj o (hs ++ l)=(some x,l):=by
 cases o with
 | bx e ss =>
   cases x with
   | bx e' cells =>
     simp only [Ao] at h
     cases hc:Nat.beq e' e with
     | false=>rw [hc] at h; cases h
     | true =>
       rw [hc] at h
       simp only [Jj,Gs ss cells hs l h k,Nat.eq_of_beq_eq_true hc]
   | _=>simp [Ao] at h
 | ar e r =>
   cases x with
   | ar e' r' xs =>
     simp only [Ao] at h
     cases hc:Nat.beq e' e with
     | false=>rw [hc] at h; cases h
     | true =>
       rw [hc] at h
       simp only [cond_true] at h
       split at h
       · rename_i g _
         obtain ⟨g⟩:=g
         subst g
         cases h
         rw [Nat.eq_of_beq_eq_true hc]; rfl
       · cases h
   | _=>simp [Ao] at h
 | si =>
   cases x with
   | si s pos=>simp only [Ao] at h; cases h; rfl
   | _=>simp [Ao] at h
 | mp t =>
   cases x with
   | mp t' es =>
     simp only [Ao] at h
     split at h
     · rename_i g _
       obtain ⟨g⟩:=g
       subst g
       cases h; rfl
     · cases h
   | _=>simp [Ao] at h
 | mq t i =>
   cases x with
   | mq t' es i' rest cu =>
     simp only [Ao] at h
     cases hc:Nat.beq i' i with
     | false=>rw [hc] at h; cases h
     | true =>
       rw [hc] at h
       simp only [cond_true] at h
       split at h
       · rename_i g _
         obtain ⟨g⟩:=g
         subst g
         cases h
         have hcu:cu=[]:=List.isEmpty_iff.1 (by simpa only [fb] using k)
         rw [Nat.eq_of_beq_eq_true hc,hcu]; rfl
       · cases h
   | _=>simp [Ao] at h
 | mi m =>
   cases x with
   | mi m' =>
     simp only [Ao] at h
     obtain ⟨h1,rfl⟩:=AO h
     rw [Nat.eq_of_beq_eq_true h1]; rfl
   | _=>simp [Ao] at h
 | gone=>simp [Ao] at h
omit [Mo] in
mutual
theorem X.HP (f g:Nat->Option Nat)(hfg:∀ n m,g n=some m->f m=some n):∀ (x:X),x.EB (fun n=>(g n).isSome)=true->(x.AQ g).AQ f=x
 | .sl nl o,h=>by have h':(g o).isSome=true:=h; obtain ⟨m,hm⟩:=Option.isSome_iff_exists.1 h'; simp only [X.AQ,hm,hfg _ _ hm]
 | .sw o off len,h=>by have h':(g o).isSome=true:=h; obtain ⟨m,hm⟩:=Option.isSome_iff_exists.1 h'; simp only [X.AQ,hm,hfg _ _ hm]
 | .pt o off,h=>by have h':(g o).isSome=true:=h; obtain ⟨m,hm⟩:=Option.isSome_iff_exists.1 h'; simp only [X.AQ,hm,hfg _ _ hm]
 | .pe o i off,h=>by have h':(g o).isSome=true:=h; obtain ⟨m,hm⟩:=Option.isSome_iff_exists.1 h'; simp only [X.AQ,hm,hfg _ _ hm]
 | .mp o,h=>by have h':(g o).isSome=true:=h; obtain ⟨m,hm⟩:=Option.isSome_iff_exists.1 h'; simp only [X.AQ,hm,hfg _ _ hm]
 | .it o,h=>by have h':(g o).isSome=true:=h; obtain ⟨m,hm⟩:=Option.isSome_iff_exists.1 h'; simp only [X.AQ,hm,hfg _ _ hm]
 | .sp o,h=>by have h':(g o).isSome=true:=h; obtain ⟨m,hm⟩:=Option.isSome_iff_exists.1 h'; simp only [X.AQ,hm,hfg _ _ hm]
 | .fn _ caps,h=>by simp only [X.AQ,DL f g hfg caps h]
 | .ag cs,h=>by simp only [X.AQ,DL f g hfg cs h]
 | .tp cs,h=>by simp only [X.AQ,DL f g hfg cs h]
 | .BE t x,h=>by simp only [X.AQ,X.HP f g hfg x h]
 | .c v,_=>rfl
 | .i k n,_=>rfl
 | .b q,_=>rfl
 | .s s,_=>rfl
 | .fz nl r xs,_=>rfl
 | .pf r x off,_=>rfl
 | .dead,_=>rfl
theorem DL (f g:Nat->Option Nat)(hfg:∀ n m,g n=some m->f m=some n):∀ (xs:List X),DW (fun n=>(g n).isSome) xs=true->De f (De g xs)=xs
 | [],_=>rfl
 | x :: xs,h=>by
   simp only [DW,Bool.and_eq_true] at h
   simp only [De,X.HP f g hfg x h.1,DL f g hfg xs h.2]
end
omit [Mo] in
theorem XO.HP (f g:Nat->Option Nat)(hfg:∀ n m,g n=some m->f m=some n)(x:XO)(h:x.EB (fun n=>(g n).isSome)=true):(x.AQ g).AQ f=x:=by
 cases x with
 | bx e cells=>simp only [XO.AQ,DL f g hfg cells h]
 | mq t es i rest cu =>
   have h':(g i).isSome=true:=h
   obtain ⟨m,hm⟩:=Option.isSome_iff_exists.1 h'
   simp only [XO.AQ,hm,hfg _ _ hm]
 | mi n =>
   have h':(g n).isSome=true:=h
   obtain ⟨m,hm⟩:=Option.isSome_iff_exists.1 h'
   simp only [XO.AQ,hm,hfg _ _ hm]
 | _=>rfl
def CQ:List Nat->XS->XS
 | [],_=>[]
 | n :: l,s=>match lk s n with | some x=>(n,x) :: CQ l s | none=>CQ l s
structure Ar (P:Program) where
 f:FuncId
 fn:Func
 WK:P.funcs[f]? = some fn
 Ir:(fn.name == "runtime.NumGoroutine")=false
 hb:fn.body.isSome=true
 A:AZ
 h:List Al
 kp:List Nat
 R:List AY
 F:Tup h->Option (Dq (R.map (·.h)))
 ok:∀ y r,F y=some r->Aj (R.map (·.h)) r fun i l=>LL P f (Dz A (BO h y)).1 (Dz A (BO h y)).2 (Fs (DV R i) l).1 ((Fs (DV R i) l).2 ++ CQ kp (Dz A (BO h y)).2)
def eQ:X->Option (FuncId × List X)
 | .c (.func (.func f) a b)=>cond (a.isEmpty && b.isEmpty) (some (f,[])) none
 | .fn f caps=>some (f,caps)
 | _=>none
omit [Mo] in
theorem Up {x:X}{f:FuncId}{caps:List X}(h:eQ x=some (f,caps)):WS x.enc=some (f,Bp caps):=by
 unfold eQ at h
 split at h
 · rename_i f0 a b
   obtain ⟨h1,h2⟩:=AO h
   cases h2
   simp only [Bool.and_eq_true] at h1
   have:plain (.func (.func f) a b)=true:=by simp only [plain,h1.1,h1.2]; rfl
   simp only [X.enc,this,if_true]; rfl
 · cases h; rfl
 · cases h
def JH (g:XG):List (Nat × Ej)->Acc->Acc
 | [],a=>a
 | (n,.bx _ l) :: r,a=>match gx g (nameOf a n) with
   | some (.bx _ cells)=>JH g r (Em l cells a)
   | _=>JH g r a
 | _ :: r,a=>JH g r a
def VH:Ej->Bool | .mi _=>false | _=>true
def DF (g:XG) (ρ:Ren):List (Nat × Ej)->Ren->Option (List HV)
 | [],[]=>some []
 | (n,sh) :: l,(n', m) :: k=>cond (Nat.beq n' n && VH sh) (match gx g m with
   | some x=>match Ao sh (some (x.AQ (inv ρ))),DF g ρ l k with
     | some a,some b=>some (a ++ b)
     | _,_=>none
   | none=>none) none
 | _,_=>none
def Il (g:XG)(ρ:Ren)(kp:List Nat):List (Nat × Ej)->Bool
 | []=>true
 | (n,sh) :: l=>(cond (kp.any (Nat.beq n)) (match gx g ((lk ρ n).getD 0) with
   | some x=>x.EB (fun k=>(inv ρ k).isSome) && fb sh (x.AQ (inv ρ))
   | none=>false) true) && Il g ρ kp l
inductive CO (C:Ar P) where
 | bad
 | BF (o:Nat)
 | call (y:Tup C.h) (ρ:Ren)
def FC (C:Ar P) (g:XG) (xs:List X):CO C :=
 let acc:=JH g C.A.o (Em C.A.a xs ⟨[],[]⟩)
 match acc.fz with
 | o :: _=>.BF o
 | [] =>
   let ρ:=C.A.o.map fun p=>(p.1,nameOf acc p.1)
   match JP C.A.a (De (inv ρ) xs),DF g ρ C.A.o ρ with
   | some h1,some h2=>match DS C.h (h1 ++ h2) with
     | some y=>cond (Il g ρ C.kp C.A.o) (.call y ρ) .bad
     | none=>.bad
   | _,_=>.bad
def Bf (l:List Nat)(n:Nat):Bool:=l.any (Nat.beq n)
def fresh (ρ:Ren)(d:Nat):List (Nat × Ej)->Ren
 | []=>[]
 | p :: os=>cond (Bf (ρ.map (·.1)) p.1) (fresh ρ d os) ((p.1,400000+d * 100+(p.1 - 500000)) :: fresh ρ d os)
def QZ (g:XG)(n:Nat):Bool:=match g n with | none=>true | some _=>false
def Ft (g:XG)(ρ σ:Ren)(kp:List Nat)(os:List (Nat × Ej)):Bool :=
 CA ρ && ρ.all (fun p=>Nat.ble 1000000 p.1) && CA (ρ ++ σ) && σ.all (fun p=>QZ g p.2) && BW (os.map (·.1)) && os.all (fun p=>Bf ((ρ ++ σ).map (·.1)) p.1)
   && (ρ ++ σ).all (fun p=>cond (Bf (os.map (·.1)) p.1) (!(Bf kp p.1)) (Bf kp p.1))
def Ce (R:AY)(ρ:Ren)(d:Nat)(l:List HV):X × XS :=
 let τ:=ρ ++ fresh ρ d R.o
 let q:=Fs R l
 (q.1.AQ (AQ τ),q.2.map fun p=>((AQ τ p.1).getD 0,p.2.map (XO.AQ (AQ τ))))
theorem CT.wk {f:FuncId}{vs vs':List V}{s s':AE}{Q:V->AE->Prop}(h:CT P AM f vs s Q)(hv:Ro vs' vs)(hs:∀ (B:BB) (w:World) (F:Nat->Prop) (loc:Nat->Option Loc),AK AM B w F loc s' -> AK AM B w F loc s) :
   CT P AM f vs' s' Q:=by
 intro F loc w args hn hS hA
 refine h F loc w args hn (hs _ _ _ _ hS) ⟨by rw [<- hv.1]; exact hA.1,fun j y hj=>?_⟩
 obtain ⟨x,hx,hw⟩:=hv.2 j y hj
 obtain ⟨v,h1,h2⟩:=hA.2 j x hx
 exact ⟨v,h1,hw _ _ _ _ h2⟩
omit [Mo] in
theorem ET:∀ (os:List (Nat × Ej)) (l:List HV),(Dg os l).1.map (·.1)=os.map (·.1)
 | [],l=>rfl
 | (n,sh) :: os,l=>by simp only [Dg,List.map_cons,ET os]
omit [Mo] in
theorem TI {sh:Ej}{x:XO}{f:Nat->Option Nat}{hs:List HV}(hn:VH sh=true)(h:Ao sh (some (x.AQ f))=some hs):Sa x.enc=false:=by
 cases x with
 | mi m =>
   have e:(XO.mi m).AQ f=.mi (match f m with | some m'=>m' | none=>m):=by simp only [XO.AQ]; cases f m <;> rfl
   rw [e] at h
   cases sh <;> first | (cases hn; done) | simp [Ao] at h
 | _=>rfl
omit [Mo] in
theorem Kz {g:XG} {s:AE} (ha:Ad g s) {ρ0:Ren}:∀ (os:List (Nat × Ej)) (ρ:Ren) (hs l:List HV),DF g ρ0 os ρ=some hs ->
   ∃ (L:List (Nat × O)) (Lx:XS),Fi ρ0 s ρ=some L/\LH L=encS Lx/\∃ so,Dg os (hs ++ l)=(so,l)/\XH Lx so
 | [],[],hs,l,h=>by simp only [DF] at h; cases h; exact ⟨[],[],rfl,rfl,[],rfl,.nil⟩
 | (n, sh) :: os,(n', m) :: ρ,hs,l,h=>by
   simp only [DF] at h
   cases hc:(Nat.beq n' n && VH sh) with
   | false=>rw [hc] at h; cases h
   | true =>
     have hc2:=hc
     rw [Bool.and_eq_true] at hc2
     have hnn:=Nat.eq_of_beq_eq_true hc2.1
     subst hnn
     rw [hc] at h
     simp only [cond_true] at h
     split at h
     · rename_i x hx
       split at h
       · rename_i a b h1 h2
         cases h
         obtain ⟨L,Lx,h3,h4,so,h5,h6⟩:=Kz ha os ρ b l h2
         obtain ⟨x', h7,h8⟩:=JY sh (some (x.AQ (inv ρ0))) a (b ++ l) h1
         refine ⟨(n', O.AQ (inv ρ0) x.enc) :: L,(n', some (x.AQ (inv ρ0))) :: Lx,by simp only [Fi,ha.get hx,h3,TI hc2.2 h1,cond_false],?_,(n', x') :: so,by rw [List.append_assoc]; simp only [Dg,h7,h5],.cons _ _ _ _ _ h8 h6⟩
         funext k
         have h4':=congrFun h4 k
         unfold LH encS at h4' ⊢
         rw [List.find?_cons,lk]
         simp only
         cases hk:Nat.beq n' k with
         | true=>simp [XO.Bm]
         | false=>simpa using h4'
       · cases h
     · cases h
 | [],_ :: _,_,_,h=>by simp [DF] at h
 | _ :: _,[],_,_,h=>by simp [DF] at h
omit [Mo] in
theorem Sf (f:Nat->Option Nat)(xs:List X):(De f xs).map X.enc=Hn f (xs.map X.enc):=by
 rw [<- Aa,DA,Aa]
omit [Mo] in
theorem Iq {g:XG}{s:AE}(ha:Ad g s){n:Nat}(h:QZ g n=true):s n=none:=by
 unfold QZ at h
 split at h
 · rename_i hn; exact ha.no n hn
 · cases h
omit [Mo] in
theorem Ul {τ:Ren} (hτ:CA τ=true) {s:AE}:∀ (u:XS),(∀ p ∈ u,∃ m,AQ τ p.1=some m)->BW (u.map (·.1))=true->∀ n,over s (u.map fun p=>((AQ τ p.1).getD 0,p.2.map (XO.AQ (AQ τ)))) n =
     match inv τ n with
     | some m=>match lk u m with | some x=>some ((x.map XO.enc).map (O.AQ (AQ τ))) | none=>s n
     | none=>s n:=by
 intro u
 induction u with
 | nil=>intro _ _ n; simp only [List.map_nil,over,lk]; cases inv τ n <;> rfl
 | cons p u ih =>
   obtain ⟨q,x⟩:=p
   intro hm hnd n
   obtain ⟨m,hmm⟩:=hm (q,x) (by simp)
   simp only [List.map_cons,BW,Bool.and_eq_true,Bool.not_eq_true'] at hnd
   simp only [List.map_cons,over,hmm,Option.getD_some]
   by_cases hn:n=m
   · subst hn
     rw [AA]
     have:inv τ n=some q:=(Bn hτ).2 ((Bd hτ).1 hmm)
     rw [this]
     simp only [lk,Nat.beq_refl,cond_true]
     cases x with
     | none=>rfl
     | some x=>simp [XO.Bm]
   · rw [AJ _ _ hn,ih (fun p hp=>hm p (by simp [hp])) hnd.2 n]
     cases hi:inv τ n with
     | none=>rfl
     | some m' =>
       simp only [lk]
       have:Nat.beq q m' = false:=by
         rw [<- Bool.not_eq_true,Nat.beq_eq]
         rintro rfl
         have h1:=(Bn hτ).1 hi
         have h2:=(Bd hτ).2 h1
         rw [h2] at hmm; cases hmm; exact hn rfl
       rw [this]; rfl
omit [Mo] in
theorem BL {l:List Nat}{n:Nat}:Bf l n=true ↔ n ∈ l:=by
 unfold Bf
 rw [List.any_eq_true]
 constructor
 · rintro ⟨x,h1,h2⟩; rw [Nat.eq_of_beq_eq_true h2]; exact h1
 · intro h; exact ⟨n,h,Nat.beq_refl n⟩
omit [Mo] in
theorem KQ {g:XG} {ρ0:Ren}:∀ {os:List (Nat × Ej)} {ρ:Ren} {hs:List HV},DF g ρ0 os ρ=some hs->os.map (·.1)=ρ.map (·.1)
 | [],[],_,_=>rfl
 | (n, sh) :: os,(n', m) :: ρ,hs,h=>by
   simp only [DF] at h
   cases hc:(Nat.beq n' n && VH sh) with
   | false=>rw [hc] at h; cases h
   | true =>
     rw [hc] at h
     rw [Bool.and_eq_true] at hc
     simp only [cond_true] at h
     split at h
     · split at h
       · rename_i h2
         simp only [List.map_cons,KQ h2,Nat.eq_of_beq_eq_true hc.1]
       · cases h
     · cases h
 | [],_ :: _,_,h=>by simp [DF] at h
 | _ :: _,[],_,h=>by simp [DF] at h
omit [Mo] in
theorem KE {g:XG} {ρ0:Ren} {kp:List Nat}:∀ (os:List (Nat × Ej)) (ρ:Ren) (hs l:List HV) (so:XS),DF g ρ0 os ρ=some hs->Dg os (hs ++ l)=(so,l)->(∀ p ∈ ρ,lk ρ0 p.1=some p.2)->Il g ρ0 kp os=true ->
   ∀ (n m:Nat),lk ρ n=some m->n ∈ kp->∃ x,gx g m=some x/\x.EB (fun k=>(inv ρ0 k).isSome)=true/\lk so n=some (some (x.AQ (inv ρ0)))
 | [],[],hs,l,so,h,hf,hr,hk,n,m,hn,hkp=>by simp [lk] at hn
 | (n', sh) :: os,(n2,m') :: ρ,hs,l,so,h,hf,hr,hk,n,m,hn,hkp=>by
   simp only [DF] at h
   cases hc:(Nat.beq n2 n' && VH sh) with
   | false=>rw [hc] at h; cases h
   | true =>
     have hc2:=hc
     rw [Bool.and_eq_true] at hc2
     have hnn:=Nat.eq_of_beq_eq_true hc2.1
     subst hnn
     rw [hc] at h
     simp only [cond_true] at h
     simp only [Il,Bool.and_eq_true] at hk
     split at h
     · rename_i x hx
       split at h
       · rename_i a b h1 h2
         cases h
         rw [List.append_assoc] at hf
         simp only [Dg] at hf
         simp only [lk] at hn
         cases hq:Nat.beq n2 n with
         | true =>
           have hqq:=Nat.eq_of_beq_eq_true hq
           subst hqq
           rw [hq] at hn
           cases hn
           have hk1:=hk.1
           have hany:(kp.any (Nat.beq n2))=true:=BL.2 hkp
           rw [hany,hr (n2,m') (by simp)] at hk1
           simp only [Option.getD_some,hx,cond_true,Bool.and_eq_true] at hk1
           have:=XN sh (x.AQ (inv ρ0)) a (b ++ l) h1 hk1.2
           rw [this] at hf
           injection hf with hf1 hf2
           exact ⟨x,hx,hk1.1,by rw [<- hf1]; simp [lk]⟩
         | false =>
           rw [hq] at hn
           simp only [cond_false] at hn
           obtain ⟨x', h7,_⟩:=JY sh (some (x.AQ (inv ρ0))) a (b ++ l) h1
           rw [h7] at hf
           injection hf with hf1 hf2
           obtain ⟨x1,e1,e2,e3⟩:=KE os ρ b l (Dg os (b ++ l)).1 h2 (Prod.ext rfl hf2) (fun p hp=>hr p (by simp [hp])) hk.2 n m hn hkp
           exact ⟨x1,e1,e2,by rw [<- hf1]; simp [lk,hq,e3]⟩
       · cases h
     · cases h
 | [],_ :: _,_,_,_,h,_,_,_,_,_,_,_=>by simp [DF] at h
 | _ :: _,[],_,_,_,h,_,_,_,_,_,_,_=>by simp [DF] at h
omit [Mo] in
theorem Fa {s:XS}:∀ (kp:List Nat) (n:Nat),lk (CQ kp s) n=if n ∈ kp then lk s n else none
 | [],n=>by simp [CQ,lk]
 | k :: kp,n=>by
   simp only [CQ]
   cases hl:lk s k with
   | none =>
     simp only []
     rw [Fa kp n]
     by_cases hn:n=k
     · subst hn; simp [hl]
     · simp [hn]
   | some x =>
     simp only [lk]
     cases hb:Nat.beq k n with
     | true=>have:=Nat.eq_of_beq_eq_true hb; subst this; simp [hl]
     | false =>
       have hn:¬ n=k:=by rintro rfl; simp at hb
       rw [cond_false,Fa kp n]; simp [hn]
omit [Mo] in
theorem EG {α:Type}:∀ {l:List (Nat × α)} {n:Nat} {a:α},BW (l.map (·.1))=true->(n,a) ∈ l->lk l n=some a
 | [],_,_,_,h=>by cases h
 | (i, b) :: l,n,a,hd,h=>by
   simp only [List.map_cons,BW,Bool.and_eq_true,Bool.not_eq_true'] at hd
   rw [lk]
   rcases List.mem_cons.1 h with h | h
   · cases h; simp
   · have:Nat.beq i n=false:=by
       rw [<- Bool.not_eq_true,Nat.beq_eq]
       rintro rfl
       exact FO hd.1 i (List.mem_map.2 ⟨_,h,rfl⟩) rfl
     rw [this,cond_false]; exact EG hd.2 h
omit [Mo] in
theorem Pu {g:XG} {s:AE} (ha:Ad g s) {ρ σ:Ren} {kp:List Nat} {os:List (Nat × Ej)} {out so:XS} (hcb:Ft g ρ σ kp os=true) (hok:out.map (·.1)=os.map (·.1))
   (hkept:∀ (n m:Nat),lk ρ n=some m->n ∈ kp->∃ x,gx g m=some x/\x.EB (fun k=>(inv ρ k).isSome)=true/\lk so n=some (some (x.AQ (inv ρ)))) (hso:so.map (·.1)=ρ.map (·.1)) :
   Iv (ρ ++ σ) (encS (out ++ CQ kp so)) s=over s (out.map fun p=>((AQ (ρ ++ σ) p.1).getD 0,p.2.map (XO.AQ (AQ (ρ ++ σ))))):=by
 unfold Ft at hcb
 simp only [Bool.and_eq_true] at hcb
 obtain ⟨⟨⟨⟨⟨⟨b1,b2⟩,b3⟩,b4⟩,b5⟩,b6⟩,b7⟩:=hcb
 have hnr:BW (ρ.map (·.1))=true:=by unfold CA at b1; rw [Bool.and_eq_true] at b1; exact b1.1
 have hmem:∀ p ∈ out,∃ m,AQ (ρ ++ σ) p.1=some m:=by
   intro p hp
   have h1:p.1 ∈ os.map (·.1):=by rw [<- hok]; exact List.mem_map.2 ⟨p,hp,rfl⟩
   obtain ⟨q,hq,he⟩:=List.mem_map.1 h1
   have h2:=BL.1 (List.all_eq_true.1 b6 q hq)
   obtain ⟨t,ht,he2⟩:=List.mem_map.1 h2
   exact ⟨t.2,(Bd b3).2 (by rw [<- he,<- he2]; simpa using ht)⟩
 funext n
 rw [Ul b3 out hmem (by rw [hok]; exact b5) n]
 unfold Iv
 cases hi:inv (ρ ++ σ) n with
 | none=>rfl
 | some m =>
   have h1:=(Bn b3).1 hi
   simp only [encS,AR]
   cases hl:lk out m with
   | some x=>rfl
   | none =>
     simp only
     have hno:Bf (os.map (·.1)) m=false:=by
       rw [<- Bool.not_eq_true,BL,<- hok]
       intro hm
       obtain ⟨p,hp,he⟩:=List.mem_map.1 hm
       exact Gy hl p.2 (by rw [<- he]; simpa using hp)
     have h7:=List.all_eq_true.1 b7 _ h1
     simp only [hno,cond_false] at h7
     have hmk:=BL.1 h7
     rw [Fa,if_pos hmk]
     rcases List.mem_append.1 h1 with hr | hs
     · obtain ⟨x,e1,e2,e3⟩:=hkept m n (EG hnr hr) hmk
       rw [e3,ha.is _ _ (BU e1)]
       simp only [Option.map_some]
       rw [<- XO.Bm,XO.HP _ _ (fun a b hab=>?_) x e2]
       exact (Bd b3).2 (List.mem_append_left _ ((Bn b1).1 hab))
     · have hnone:lk so m=none:=by
         cases hq:lk so m with
         | none=>rfl
         | some y =>
           exfalso
           have h3:m ∈ ρ.map (·.1):=by rw [<- hso]; exact List.mem_map.2 ⟨_,CP hq,rfl⟩
           obtain ⟨p,hp,he⟩:=List.mem_map.1 h3
           unfold CA at b3
           rw [Bool.and_eq_true] at b3
           have h5:∀ (l:Ren) (p q:Nat × Nat),BW (l.map (·.1))=true->p ∈ l->q ∈ l->p.1=q.1->p=q:=by
             intro l p q hd hp hq he
             have e1:=EG hd (show (p.1,p.2) ∈ l from hp)
             have e2:=EG hd (show (q.1,q.2) ∈ l from hq)
             rw [he,e2] at e1
             exact Prod.ext he (Option.some.inj e1).symm
           have hpq:=h5 _ p (m,n) b3.1 (List.mem_append_left _ hp) h1 he
           subst hpq
           have:∀ (a b:Ren) (q:Nat × Nat),BW ((a ++ b).map (·.1))=true->q ∈ a->q ∈ b->False:=by
             intro a b q hd h1 h2
             induction a with
             | nil=>cases h1
             | cons z a ih =>
               simp only [List.cons_append,List.map_cons,BW,Bool.and_eq_true,Bool.not_eq_true'] at hd
               rcases List.mem_cons.1 h1 with h1 | h1
               · subst h1
                 exact FO hd.1 q.1 (List.mem_map.2 ⟨q,List.mem_append_right _ h2,rfl⟩) rfl
               · exact ih hd.2 h1
           exact this ρ σ _ b3.1 hp hs
       rw [hnone,Iq ha (List.all_eq_true.1 b4 _ hs)]; rfl
def Jx (D:Ah)(e:Operand->X):Op->Option (Option (FuncId × List X))
 | .call ⟨.value f,args,_⟩=>some (match eQ (e f) with | some (g,caps)=>some (g,args.toList.map e ++ caps) | none=>none)
 | .call ⟨.invoke r n,args,_⟩=>some (match e r with | .BE t x=>(match D.RD t n with | some g=>some (g,x :: args.toList.map e) | none=>none) | _=>none)
 | _=>none
omit [Mo] in
theorem Mi {D:Ah} {e:Operand->X} {op:Op} {f:FuncId} {xs:List X} (h:Jx D e op=some (some (f,xs))) :
   (∃ fop az ts caps,op=.call ⟨.value fop,az,ts⟩/\eQ (e fop)=some (f,caps)/\xs=az.toList.map e ++ caps)\/(∃ r n az ts t x,op=.call ⟨.invoke r n,az,ts⟩/\e r=.BE t x/\D.RD t n=some f/\xs=x :: az.toList.map e):=by
 unfold Jx at h
 split at h
 · rename_i fop az ts
   split at h
   · rename_i g caps hf
     cases h
     exact .inl ⟨fop,az,ts,caps,rfl,hf,rfl⟩
   · cases h
 · rename_i r n az ts
   split at h
   · rename_i t x hx
     split at h
     · rename_i g hm
       cases h
       exact .inr ⟨r,n,az,ts,t,x,rfl,hx,hm,rfl⟩
     · cases h
   · cases h
 · cases h
theorem Lb (hg:Good P D) {C:Ar P} {g:XG} {o:Oper} {st:St} (ha:Ad g st.s) {e:Operand->X} {xs:List X} {y:Tup C.h} {ρ:Ren}
   (hcf:Jx D e o.op=some (some (C.f,xs))) (he:∀ x ∈ o.op.operands.toList,ev AM st.t x=(e x).enc) (hc:FC C g xs=.call y ρ)
   (d:Nat) {r:Dq (C.R.map (·.h))} (hr:C.F y=some r) :
   Aj (C.R.map (·.h)) r fun i l=>Ft g ρ (fresh ρ d (DV C.R i).o) C.kp (DV C.R i).o=true->Td P AM o st (Ce (DV C.R i) ρ d l).1.enc (over st.s (Ce (DV C.R i) ρ d l).2):=by
 unfold FC at hc
 simp only at hc
 split at hc
 · cases hc
 · split at hc
   · rename_i h1 h2 e1 e2
     split at hc
     · rename_i y' hy
       cases hkb:Il g (C.A.o.map fun p=>(p.1,nameOf (JH g C.A.o (Em C.A.a xs ⟨[],[]⟩)) p.1)) C.kp C.A.o with
       | false=>rw [hkb] at hc; cases hc
       | true =>
       rw [hkb] at hc
       simp only [cond_true] at hc
       injection hc with hc1 hc2
       subst hc1
       refine Hr _ _ ?_ (C.ok y' r hr)
       intro i l hct hcb
       rw [hc2] at e1 e2 hkb
       have ho:=Cp C.h _ y' hy
       obtain ⟨xs', k1,k2⟩:=FP C.A.a _ h1 h2 e1
       obtain ⟨L,Lx,k3,k4,so,k5,k6⟩:=Kz ha (ρ0:=ρ) C.A.o ρ h2 [] e2
       have hb:=hcb
       unfold Ft at hcb
       simp only [Bool.and_eq_true] at hcb
       obtain ⟨⟨⟨⟨⟨⟨b1,b2⟩,b3⟩,b4⟩,b5⟩,b6⟩,b7⟩:=hcb
       have hnr:BW (ρ.map (·.1))=true:=by unfold CA at b1; rw [Bool.and_eq_true] at b1; exact b1.1
       have hkept:=KE C.A.o ρ h2 [] so e2 k5 (fun p hp=>EG hnr (by simpa using hp)) hkb
       rw [List.append_nil] at k5
       have hin:Dz C.A (BO C.h y')=(xs', so):=by rw [ho]; unfold Dz; simp only [k1,k5]
       have hso:so.map (·.1)=ρ.map (·.1):=by
         rw [<- KQ e2]
         have:=ET C.A.o h2
         rw [k5] at this; exact this
       rw [hin] at hct
       have hct':CT P AM C.f (Hn (inv ρ) (xs.map X.enc)) (LH L) fun r' s'=>r' = (Fs (DV C.R i) l).1.enc/\s' = encS ((Fs (DV C.R i) l).2 ++ CQ C.kp so):=by
         refine CT.wk hct ?_ ?_
         · rw [<- Sf]; exact k2
         · intro B w F loc h
           rw [k4] at h
           have:=AK.fY (post:=[]) k6 [] (by simpa using h)
           simpa using this
       have hfree:((fresh ρ d (DV C.R i).o).all fun p=>(st.s p.2).isNone)=true:=by
         rw [List.all_eq_true] at b4 ⊢
         intro p hp
         rw [Iq ha (b4 p hp)]; rfl
       have:Td P AM o st ((Fs (DV C.R i) l).1.enc.AQ (AQ (ρ ++ fresh ρ d (DV C.R i).o))) (Iv (ρ ++ fresh ρ d (DV C.R i).o) (encS ((Fs (DV C.R i) l).2 ++ CQ C.kp so)) st.s):=by
         rcases Mi hcf with ⟨fop,args,ts,caps,hop,hf,rfl⟩ | ⟨rc,nm,args,ts,t,x,hop,hx,hm,rfl⟩
         · have hfop:ev AM st.t fop=(e fop).enc:=he fop (by rw [hop]; simp [Op.operands,Call.operands])
           have hargs:args.toList.map (ev AM st.t)=(args.toList.map e).map X.enc:=by
             rw [List.map_map]
             refine List.map_congr_left fun z hz=>he z ?_
             rw [hop]; simp only [Op.operands,Call.operands,Array.toList_append,List.mem_append]; exact .inr hz
           exact Td.call (σ:=fresh ρ d (DV C.R i).o) hop (by rw [hfop]; exact Up hf) C.WK C.Ir C.hb b1 b2 k3 (by rw [hargs,Aa,<- List.map_append]) hct' b3 hfree
         · have hrc:ev AM st.t rc=.BE t x.enc:=by rw [he rc (by rw [hop]; simp [Op.operands,Call.operands]),hx]; rfl
           have hargs:args.toList.map (ev AM st.t)=(args.toList.map e).map X.enc:=by
             rw [List.map_map]
             refine List.map_congr_left fun z hz=>he z ?_
             rw [hop]; simp only [Op.operands,Call.operands,Array.toList_append,List.mem_append]; exact .inr hz
           exact Td.bF (σ:=fresh ρ d (DV C.R i).o) hg hop hrc hm C.WK C.Ir C.hb b1 b2 k3 (by rw [hargs,List.map_cons]) hct' b3 hfree
       rw [Pu ha hb (by unfold Fs; exact ET _ _) hkept hso] at this
       unfold Ce
       simp only
       rw [X.Bm]
       exact this
     · cases hc
   · cases hc
end Go.Proofs.YtobfoiomjfdjjaaDoor.Mc
namespace Go.Proofs.YtobfoiomjfdjjaaDoor.Mc
open Go.RowKit
variable [Mo]
set_option linter.constructorNameAsVariable false
variable {P:Program}{D:Ah}
def GG (st:Aw)(dst:Option Nat)(v:X)(u:XS):Aw:=⟨match dst with | some d=>(d,v) :: st.t | none=>st.t,u ++ st.s⟩
omit [Mo] in
theorem Be (E:XE)(st:Aw)(dst:Option Nat)(v:X)(u:XS):AH E (GG st dst v u)=(AH E st).put dst v.enc (over (AH E st).s u):=by
 cases dst with
 | none =>
   show St.mk (CN (st.t ++ E.t)) (encS ((u ++ st.s) ++ E.s)) E.n E.a=St.mk _ _ _ _
   rw [List.append_assoc,EN]; rfl
 | some d =>
   show St.mk (CN ((d,v) :: (st.t ++ E.t))) (encS ((u ++ st.s) ++ E.s)) E.n E.a=St.mk _ _ _ _
   rw [List.append_assoc,EN,IE]; rfl
def YI (E:XE)(dst:Option Nat):Bool:=match dst with | some d=>Nat.blt d E.n | none=>true
def UA (E:XE)(st:Aw):Operand->X:=iR (st.t ++ E.t)
def gE (E:XE)(st:Aw):XG:=fun n=>lk (st.s ++ E.s) n
omit [Mo] in
theorem Nj (E:XE)(st:Aw):Ad (gE E st) (AH E st).s:=by
 constructor
 · intro o x h
   show encS (st.s ++ E.s) o=_
   unfold encS
   rw [show lk (st.s ++ E.s) o=some (some x) from h]; rfl
 · intro d h
   show encS (st.s ++ E.s) d=_
   unfold encS
   rw [show lk (st.s ++ E.s) d=none from h]
omit [Mo] in
theorem Ja (E:XE)(st:Aw)(x:Operand):ev AM (AH E st).t x=(UA E st x).enc:=(Wy _ x).symm
def PS (ops:Array Oper)(E:XE)(o:Oper)(st:Aw):Option Bool :=
 match o.guard with
 | none=>some true
 | some (j,w)=>match (ops[j]?).bind (·.dst) with
   | some d=>cond (Nat.blt d E.n) (match Te E st d with | .b q=>some (q == w) | .tp []=>some false | _=>none) none
   | none=>none
omit [Mo] in
theorem JX (E:XE)(st:Aw)(i:Nat):(AH E st).t i=(Te E st i).enc:=Ee _ i
omit [Mo] in
theorem Ea {ops:Array Oper} {E:XE} {o:Oper} {st:Aw} {b:Bool} (h:PS ops E o st=some b):want ops o (AH E st)=some b:=by
 unfold PS at h
 unfold want
 split at h
 · rename_i hg; rw [hg]; exact h
 · rename_i j w hg
   rw [hg]
   simp only
   split at h
   · rename_i d hd
     rw [hd]
     simp only
     cases hn:Nat.blt d E.n with
     | false=>rw [hn] at h; cases h
     | true =>
       rw [hn] at h
       simp only [cond_true] at h
       have hn':Nat.blt d (AH E st).n=true:=hn
       rw [hn', JX]
       split at h
       · rename_i q hq; rw [hq]; exact h
       · rename_i hq; rw [hq]; exact h
       · cases h
   · cases h
variable {G:BA}
theorem Ap.opW {ops:Array Oper}{o:Oper}{l:List Oper}{st:St}{Q:Exit->St->Prop}{v:V}{s':AE}(hw:want ops o st=some true)(hd:fits st o.dst=true)(h:Td P G o st v s')
   (k:Ap P G ops l (st.put o.dst v s') Q):Ap P G ops (o :: l) st Q:=by
 intro B F loc a w hR hdf
 show if _ then _ else _
 rw [Ch hR hw]
 simp only [if_true]
 left
 exact h B F loc a w hR _ _ fun x F' loc' w' hS hk hs hv=>k B F' loc' _ w' (hR.put hd hS hk hs hv) (by cases ho:o.dst <;> simp [Act.put,hdf])
theorem Ap.opD {ops:Array Oper}{o:Oper}{l:List Oper}{st:St}{Q:Exit->St->Prop}{c:Bool}{v1 v2:V}(hw:want ops o st=some true)(hd:fits st o.dst=true)(h:fQ P o st c v1 v2)
   (k1:c=true->Ap P AM ops l (st.put o.dst v1 st.s) Q) (k2:Ap P AM ops l (st.put o.dst v2 st.s) Q):Ap P AM ops (o :: l) st Q:=by
 intro B F loc a w hR hdf
 show if _ then _ else _
 rw [Ch hR hw]
 simp only [if_true]
 left
 obtain ⟨x,hrun,hx⟩:=h B F loc a w hR
 unfold Oper.wp
 rw [hrun]
 have hdf':(a.put o.dst x).defers=[]:=by cases ho:o.dst <;> simp [Act.put,hdf]
 rcases hx with ⟨hc,hx⟩ | hx
 · exact k1 hc B F loc _ w (hR.put hd hR.s (Kept.refl _ _) (Ak.refl _) hx) hdf'
 · exact k2 B F loc _ w (hR.put hd hR.s (Kept.refl _ _) (Ak.refl _) hx) hdf'
noncomputable def Sy {R:Type}(c:Bool)(A B:Option R):Option R:=cond c (open Classical in if A=B then B else none) B
omit [Mo] in
theorem WD {R:Type}{c:Bool}{A B:Option R}{r:R}(h:Sy c A B=some r):(c=true->A=some r)/\B=some r:=by
 cases c with
 | false=>exact ⟨fun h=>(by cases h),h⟩
 | true =>
   simp only [Sy,cond_true] at h
   split at h
   · rename_i hab; exact ⟨fun _=>by rw [hab]; exact h,h⟩
   · cases h
omit [Mo] in
theorem We {R:Type}{c:Bool}{A B:Option R}(h:c=true->A=B):Sy c A B=B:=by
 cases c with
 | false=>rfl
 | true=>simp only [Sy,cond_true,h rfl]; simp
noncomputable def VW {α R:Type}(l:List α)(g:Nat->α->Option R):Option R :=
 open Classical in if h:∃ r,l ≠ []/\∀ (j:Nat) (a:α),l[j]? = some a->g j a=some r then some (Classical.choose h) else none
omit [Mo] in
theorem WC {α R:Type}{l:List α}{g:Nat->α->Option R}{r:R}(h:VW l g=some r):l ≠ []/\∀ (j:Nat) (a:α),l[j]? = some a->g j a=some r:=by
 unfold VW at h
 split at h
 · rename_i hh
   cases h
   exact Classical.choose_spec hh
 · cases h
theorem Ap.opA {ops:Array Oper}{o:Oper}{l:List Oper}{st:St}{Q:Exit->St->Prop}{R:V->AE->Prop}(hw:want ops o st=some true)(hd:fits st o.dst=true)(h:iO P o st R)
   (k:∀ v s', R v s' -> Ap P AM ops l (st.put o.dst v s') Q):Ap P AM ops (o :: l) st Q:=by
 intro B F loc a w hR hdf
 show if _ then _ else _
 rw [Ch hR hw]
 simp only [if_true]
 left
 obtain ⟨v,s', hr,F', loc', w', x,r,hrun,hx,hS,hk,hs,hv⟩:=h B F loc a w hR
 unfold Oper.wp
 rw [hrun]
 have hdf':(a.put o.dst x).defers=[]:=by cases ho:o.dst <;> simp [Act.put,hdf]
 rcases hx with rfl | ⟨rfl,rfl⟩
 · exact k v s' hr B F' loc' _ w' (hR.put hd hS hk hs hv) hdf'
 · exact k v s' hr B F' loc' _ w' (hR.put hd hS hk hs hv) hdf'
mutual
def Nd:X->Option Nat
 | .sl _ o=>some o
 | .sw o _ _=>some o
 | .ag l=>RO l
 | .BE _ x=>Nd x
 | _=>none
def RO:List X->Option Nat
 | []=>none
 | x :: l=>match Nd x with | some o=>some o | none=>RO l
end
def ew:X->Bool | .pe _ _ _=>true | _=>false
def Ws (e:Operand->X):Op->Option Nat
 | .buildSlice _ _ parts=>RO (parts.toList.map fun p=>e p.2)
 | .store _ p x=>cond (ew (e p)) (Nd (e x)) none
 | _=>none
mutual
def Sh.AQ (f:Nat->Option Nat):Sh->Sh
 | .sl nl o=>match f o with | some o'=>.sl nl o' | none=>.dead
 | .sw o=>match f o with | some o'=>.sw o' | none=>.dead
 | .pt o off=>match f o with | some o'=>.pt o' off | none=>.dead
 | .pe o off=>match f o with | some o'=>.pe o' off | none=>.dead
 | .mp o=>match f o with | some o'=>.mp o' | none=>.dead
 | .it o=>match f o with | some o'=>.it o' | none=>.dead
 | .sp o=>match f o with | some o'=>.sp o' | none=>.dead
 | .fn g l=>.fn g (KR f l)
 | .ag l=>.ag (KR f l)
 | .tp l=>.tp (KR f l)
 | .BE t x=>.BE t (Sh.AQ f x)
 | x=>x
def KR (f:Nat->Option Nat):List Sh->List Sh
 | []=>[]
 | x :: l=>Sh.AQ f x :: KR f l
end
def Ej.AQ (f:Nat->Option Nat):Ej->Ej
 | .bx e l=>.bx e (KR f l)
 | x=>x
def OW (sh:Ej)(n:Nat)(st:Aw):Option Aw :=
 match lk st.s n with
 | some (some x)=>match Ao sh (some x) with
   | some hs=>some ⟨st.t,(n,(Jj sh hs).1) :: st.s⟩
   | none=>none
 | _=>none
theorem Conv.OW {E:XE} {sh:Ej} {n:Nat} {st st':Aw} (h:Mc.OW sh n st=some st'):Conv AM (AH E st) (AH E st'):=by
 unfold Mc.OW at h
 split at h
 · rename_i x hl
   split at h
   · rename_i hs hgo
     cases h
     obtain ⟨x', h1,h2⟩:=JY sh (some x) hs [] hgo
     rw [List.append_nil] at h1
     rw [h1]
     intro B F loc tmps w hR
     refine ⟨F,loc,⟨?_,hR.t,hR.n,hR.a⟩⟩
     have hS:AK AM B w F loc (encS (st.s ++ E.s)):=hR.s
     have he:encS ((n,some x) :: (st.s ++ E.s))=encS (st.s ++ E.s):=by
       funext m
       unfold encS
       rw [lk]
       cases hb:Nat.beq n m with
       | true=>rw [<- Nat.eq_of_beq_eq_true hb,AR,hl]; rfl
       | false=>rfl
     have:=AK.iJ (pre:=[]) (post:=st.s ++ E.s) (by rw [List.nil_append,he]; exact hS) h2
     exact this
   · cases h
 · cases h
def IU (ρ:Ren)(kp:List Nat):List (Nat × Ej)->Aw->Option Aw
 | [],st=>some st
 | (n,sh) :: l,st=>cond (Bf kp n) (match OW (sh.AQ (AQ ρ)) ((lk ρ n).getD 0) st with
   | some st'=>IU ρ kp l st'
   | none=>none) (IU ρ kp l st)
theorem FI {E:XE} {ρ:Ren} {kp:List Nat}:∀ {l:List (Nat × Ej)} {st st':Aw},IU ρ kp l st=some st' -> Conv AM (AH E st) (AH E st')
 | [],st,st', h=>by simp only [IU] at h; cases h; exact Conv.refl _
 | (n, sh) :: l,st,st', h=>by
   simp only [IU] at h
   cases hc:Bf kp n with
   | false=>rw [hc] at h; exact FI h
   | true =>
     rw [hc] at h
     simp only [cond_true] at h
     split at h
     · rename_i st1 h1
       exact Conv.trans (Conv.OW h1) (FI h)
     · cases h
def Yn:Op->Option (Operand × List Operand)
 | .call ⟨.value f,args,_⟩=>some (f,args.toList)
 | .call ⟨.invoke r _,args,_⟩=>some (r,args.toList)
 | _=>none
def Ff:Option Nat->Nat | some d=>d | none=>99999
def XW {R:Type}(C:Ar P)(E:XE)(o:Oper)(st:Aw)(y:Tup C.h)(ρ:Ren)(kk:Aw->Option R):Option R :=
 (C.F y).bind fun r=>Aj (C.R.map (·.h)) r fun i l =>
   cond (Ft (gE E st) ρ (fresh ρ (Ff o.dst) (DV C.R i).o) C.kp (DV C.R i).o) (kk (GG st o.dst (Ce (DV C.R i) ρ (Ff o.dst) l).1 (Ce (DV C.R i) ρ (Ff o.dst) l).2)) none
inductive WT (P:Program) where
 | bad
 | call (C:Ar P) (y:Tup C.h) (ρ:Ren)
 | BF (o:Nat)
 | dQ (st:Aw)
def JD (E:XE)(f:FuncId)(xs:List X)(st:Aw):List (Ar P)->WT P
 | []=>.bad
 | C :: Γ => cond (Nat.beq C.f f) (match FC C (gE E st) xs with
   | .call y ρ=>.call C y ρ
   | _=>JD E f xs st Γ) (JD E f xs st Γ)
def HB (E:XE) (f:FuncId) (xs:List X) (st:Aw):List (Ar P)->WT P
 | []=>.bad
 | C :: Γ => cond (Nat.beq C.f f) (match FC C (gE E st) xs with
   | .BF o=>.BF o
   | _ =>
     let ρ:=C.A.o.map fun p=>(p.1,nameOf (JH (gE E st) C.A.o (Em C.A.a xs ⟨[],[]⟩)) p.1)
     match Df E ⟨[],C.A.o⟩ C.A.o (Em C.A.a xs ⟨[],[]⟩) st with
     | some (_,st1)=>cond (Nat.blt st.s.length st1.s.length) (.dQ st1) (cond (Il (gE E st) ρ C.kp C.A.o) (HB E f xs st Γ) (match IU ρ C.kp C.A.o st with
     | some st'=>.dQ st'
     | none=>HB E f xs st Γ))
     | none=>HB E f xs st Γ) (HB E f xs st Γ)
def OD (E:XE)(f:FuncId)(xs:List X)(st:Aw)(Γ : List (Ar P)):WT P :=
 match JD E f xs st Γ with
 | .bad=>HB E f xs st Γ
 | p=>p
noncomputable def Ld {R:Type} (D:Ah) (rows:Nat->Option Row) (Γ : List (Ar P)) (ops:Array Oper) (E:XE):Nat->Oper->Aw->(Aw->Option R)->Option R
 | 0,_,_,_=>none
 | n + 1,o,st,kk=>match PS ops E o st,YI E o.dst with
   | some true,true=>match Jx D (UA E st) o.op with
     | some fx=>match fx with
       | some (f,xs)=>match OD E f xs st Γ with
         | .call C y ρ=>XW C E o st y ρ kk
         | .BF q=>match Cy E q st with
           | some st'=>Ld D rows Γ ops E n o st' kk
           | none=>none
         | .dQ st'=>Ld D rows Γ ops E n o st' kk
         | .bad=>none
       | none=>none
     | none=>match Ws (UA E st) o.op with
       | some q=>match Cy E q st with
         | some st'=>Ld D rows Γ ops E n o st' kk
         | none=>none
       | none=>match dN D rows (gE E st) (UA E st) o with
         | .ok v u=>kk (GG st o.dst v u)
         | .Bl q v u=>Bl q (kk (GG st o.dst v u))
         | .Nk _ m f=>m.bind fun a=>kk (GG st o.dst (f a).1 (f a).2)
         | .JR c v1 v2=>Sy c (kk (GG st o.dst v1 [])) (kk (GG st o.dst v2 []))
         | .cs c v1 u1 v2 u2=>cond c (kk (GG st o.dst v1 u1)) (kk (GG st o.dst v2 u2))
         | .any _ v0 u0 l f=>cond l.isEmpty (kk (GG st o.dst v0 u0)) (VW l fun j a=>kk (GG st o.dst (f j a).1 (f j a).2))
         | _=>none
   | _,_=>none
theorem GA {E:XE} {f:FuncId} {xs:List X} {st:Aw}:∀ {Γ : List (Ar P)} {C:Ar P} {y:Tup C.h} {ρ:Ren},JD E f xs st Γ = .call C y ρ->C.f=f/\FC C (gE E st) xs=.call y ρ
 | [],C,y,ρ,h=>by cases h
 | C' :: Γ,C,y,ρ,h=>by
   simp only [JD] at h
   cases hc:Nat.beq C'.f f with
   | false=>rw [hc] at h; exact GA h
   | true =>
     rw [hc] at h
     simp only [cond_true] at h
     split at h
     · rename_i y' ρ' hci
       cases h
       exact ⟨Nat.eq_of_beq_eq_true hc,hci⟩
     · exact GA h
theorem Fy {E:XE} {f:FuncId} {xs:List X} {st:Aw}:∀ {Γ : List (Ar P)},JD E f xs st Γ = .bad\/∃ C y ρ,JD E f xs st Γ = .call C y ρ
 | []=>.inl rfl
 | C' :: Γ => by
   simp only [JD]
   cases Nat.beq C'.f f with
   | false=>exact Fy
   | true =>
     simp only [cond_true]
     split
     · exact .inr ⟨_,_,_,rfl⟩
     · exact Fy
theorem EJ {E:XE} {f:FuncId} {xs:List X} {st st':Aw}:∀ {Γ : List (Ar P)},HB E f xs st Γ = .dQ st' -> Conv AM (AH E st) (AH E st')
 | [],h=>by cases h
 | C' :: Γ,h=>by
   simp only [HB] at h
   cases hc:Nat.beq C'.f f with
   | false=>rw [hc] at h; exact EJ h
   | true =>
     rw [hc] at h
     simp only [cond_true] at h
     split at h
     · cases h
     · split at h
       · rename_i a1 st1 hw
         cases hb:Nat.blt st.s.length st1.s.length with
         | true =>
           rw [hb] at h
           cases h
           exact Bc hw
         | false =>
           rw [hb] at h
           simp only [cond_false] at h
           cases hk:Il (gE E st) (C'.A.o.map fun p=>(p.1,nameOf (JH (gE E st) C'.A.o (Em C'.A.a xs ⟨[],[]⟩)) p.1)) C'.kp C'.A.o with
           | true=>rw [hk] at h; exact EJ h
           | false =>
             rw [hk] at h
             simp only [cond_false] at h
             split at h
             · rename_i st1 h1
               cases h
               exact FI h1
             · exact EJ h
       · exact EJ h
theorem DQ {E:XE} {f:FuncId} {xs:List X} {st:Aw} {C:Ar P} {y:Tup C.h} {ρ:Ren}:∀ {Γ : List (Ar P)},HB E f xs st Γ ≠ .call C y ρ
 | [],h=>by cases h
 | C' :: Γ,h=>by
   simp only [HB] at h
   cases hc:Nat.beq C'.f f with
   | false=>rw [hc] at h; exact DQ h
   | true =>
     rw [hc] at h
     simp only [cond_true] at h
     split at h
     · cases h
     · split at h
       · rename_i a1 st1 hw
         cases hb:Nat.blt st.s.length st1.s.length with
         | true=>rw [hb] at h; cases h
         | false =>
           rw [hb] at h
           simp only [cond_false] at h
           cases hk:Il (gE E st) (C'.A.o.map fun p=>(p.1,nameOf (JH (gE E st) C'.A.o (Em C'.A.a xs ⟨[],[]⟩)) p.1)) C'.kp C'.A.o with
           | true=>rw [hk] at h; exact DQ h
           | false =>
             rw [hk] at h
             simp only [cond_false] at h
             split at h
             · cases h
             · exact DQ h
       · exact DQ h
theorem RL {E:XE}{f:FuncId}{xs:List X}{st:Aw}{Γ : List (Ar P)}{C:Ar P}{y:Tup C.h}{ρ:Ren}(h:OD E f xs st Γ = .call C y ρ):C.f=f/\FC C (gE E st) xs=.call y ρ:=by
 unfold OD at h
 split at h
 · exact absurd h DQ
 · exact GA h
theorem Se {E:XE}{f:FuncId}{xs:List X}{st st':Aw}{Γ : List (Ar P)}(h:OD E f xs st Γ = .dQ st'):Conv AM (AH E st) (AH E st'):=by
 unfold OD at h
 split at h
 · exact EJ h
 · rcases Fy (E:=E) (f:=f) (xs:=xs) (st:=st) (Γ := Γ) with h1 | ⟨C,y,ρ,h1⟩
   · rw [h1] at h; cases h
   · rw [h1] at h; cases h
theorem Da (hg:Good P D) {R:Type} {rows:Nat->Option Row} {Γ : List (Ar P)} {ops:Array Oper} {E:XE} {l:List Oper} {Q:Exit->St->Prop} {r:R}:∀ (n:Nat) (o:Oper) (st:Aw) (kk:Aw->Option R),Ld D rows Γ ops E n o st kk=some r ->
   (∀ st', kk st' = some r->Ap P AM ops l (AH E st') Q)->Ap P AM ops (o :: l) (AH E st) Q
 | 0,_,_,_,h,_=>by cases h
 | n + 1, o, st,kk,h,hk=>by
   simp only [Ld] at h
   split at h
   · rename_i hw hfit
     have hw':=Ea hw
     have hd:fits (AH E st) o.dst=true:=hfit
     split at h
     · rename_i fx hco
       split at h
       · rename_i f xs
         split at h
         · rename_i C y ρ hp
           obtain ⟨rfl,hci⟩:=RL hp
           unfold XW at h
           obtain ⟨z,hz,h⟩:=DH h
           have law:=Lb hg (Nj E st) hco (fun x _=>Ja E st x) hci (Ff o.dst) hz
           obtain ⟨i,l', h1,h2⟩:=Hs _ z h law
           obtain ⟨hcb,h1⟩:=EZ (c:=Ft _ _ _ _ _) h1
           refine Ap.opW hw' hd (h2 hcb) ?_
           rw [<- Be]
           exact hk _ h1
         · split at h
           · rename_i st' hfz
             exact Ap.conv (Conv.Cy hfz) (Da hg n o st' kk h hk)
           · cases h
         · rename_i st' hp
           exact Ap.conv (Se hp) (Da hg n o st' kk h hk)
         · cases h
       · cases h
     · split at h
       · split at h
         · rename_i st' hfz
           exact Ap.conv (Conv.Cy hfz) (Da hg n o st' kk h hk)
         · cases h
       · have law:=Oj (o:=o) (st:=AH E st) (rows:=rows) hg (Nj E st) (fun x _=>Ja E st x)
         split at h
         · rename_i v u hx
           rw [hx] at law
           refine Ap.op hw' hd law ?_
           rw [<- Be]; exact hk _ h
         · rename_i q v u hx
           rw [hx] at law
           obtain ⟨hq,h⟩:=EZ h
           refine Ap.op hw' hd (law hq) ?_
           rw [<- Be]; exact hk _ h
         · rename_i α m f hx
           rw [hx] at law
           obtain ⟨a,ha,h⟩:=DH h
           refine Ap.op hw' hd (law a ha) ?_
           rw [<- Be]; exact hk _ h
         · rename_i c v1 v2 hx
           rw [hx] at law
           obtain ⟨h1,h2⟩:=WD h
           refine Ap.opD hw' hd law (fun hc=>?_) ?_
           · have:=Be E st o.dst v1 []
             simp only [over] at this
             rw [<- this]; exact hk _ (h1 hc)
           · have:=Be E st o.dst v2 []
             simp only [over] at this
             rw [<- this]; exact hk _ h2
         · rename_i c v1 u1 v2 u2 hx
           rw [hx] at law
           cases c with
           | true =>
             refine Ap.op hw' hd (law.1 rfl) ?_
             rw [<- Be]; exact hk _ h
           | false =>
             refine Ap.op hw' hd (law.2 rfl) ?_
             rw [<- Be]; exact hk _ h
         · rename_i α v0 u0 l0 f hx
           rw [hx] at law
           cases l0 with
           | nil =>
             refine Ap.op hw' hd (law.1 rfl) ?_
             rw [<- Be]; exact hk _ h
           | cons a0 l0 =>
             obtain ⟨_,h2⟩:=WC (show VW (a0 :: l0) _=some r from h)
             refine Ap.opA hw' hd (law.2 (by simp)) ?_
             rintro v s' ⟨j,a1,hj,rfl,rfl⟩
             rw [<- Be]; exact hk _ (h2 j a1 hj)
         · cases h
   · cases h
end Go.Proofs.YtobfoiomjfdjjaaDoor.Mc

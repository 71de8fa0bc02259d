/- The machine: abstract values and stores, and the laws by which a walk goes through code. Its parts in order. -/
import Derived.Test.YthoimblkpcikdaaGreatDoorMc2
import Derived.Laws.RangeString
import Derived.Lib.AppendStr
import Derived.Lib.ConvBytes
set_option linter.unusedVariables false
set_option linter.unusedSimpArgs false
set_option linter.constructorNameAsVariable false
namespace Go.Proofs.YthoimblkpcikdaaGreatDoor.Mc
open Go.RowKit
variable [Mo]
variable {P:Program}{D:Au}
def dK (g:XG):X->Option ((r:Row) × List r.den)
 | .fz _ r xs=>some ⟨r,xs⟩
 | .sl _ o=>match gx g o with | some (.ar _ r xs)=>some ⟨r,xs⟩ | _=>none
 | .sw o off len=>match gx g o with | some (.ar _ r xs)=>some ⟨r,(xs.drop off).take len⟩ | _=>none
 | _=>none
omit [Mo] in
theorem OZ {g:XG}{s:AB}(ha:Al g s){x:X}{r:Row}{xs:List r.den}(h:dK g x=some ⟨r,xs⟩):JT s x.enc=some (xs.map r.en):=by
 unfold dK at h
 split at h
 · cases h; rfl
 · split at h
   · rename_i hgx; cases h; exact jM rfl (ha.is _ _ (CE hgx))
   · cases h
 · split at h
   · rename_i hgx; cases h; exact gu rfl (ha.is _ _ (CE hgx))
   · cases h
 · cases h
def Xy (g:XG)(e:Nat):X->Option (Nl × ((r:Row) × List r.den) × Nat)
 | .sl nl o=>match gx g o with
   | some (.ar e' r xs)=>cond (Nat.beq e' e && Nat.blt e' 1000000) (some (nl,⟨r,xs⟩,o)) none
   | _=>none
 | .sw o 0 len=>match gx g o with
   | some (.ar e' r xs)=>cond (Nat.beq e' e && Nat.blt e' 1000000) (some (.u,⟨r,xs.take len⟩,o)) none
   | _=>none
 | _=>none
omit [Mo] in
theorem JW {g:XG} {s:AB} (ha:Al g s) {e:Nat} {x:X} {nl:Nl} {r:Row} {xs:List r.den} {o:Nat} (h:Xy g e x=some (nl,⟨r,xs⟩,o)):JH s e r.len x.enc=some (nl,xs.map r.en,some o):=by
 unfold Xy at h
 split at h
 · split at h
   · rename_i hgx
     obtain ⟨h1,h2⟩:=AR h
     cases h2
     simp [JH,X.enc,ha.get hgx,XO.enc,h1]
   · cases h
 · split at h
   · rename_i hgx
     obtain ⟨h1,h2⟩:=AR h
     cases h2
     simp [JH,X.enc,ha.get hgx,XO.enc,h1,List.map_take]
   · cases h
 · cases h
def DN:X->Bool | .c v=>DX v | _=>false
omit [Mo] in
theorem DL {x:X}(h:DN x=true):x=.c (.slice none 0 0):=by
 unfold DN at h
 split at h
 · rw [Cj h]
 · cases h
def PW (D:Au) (g:XG) (dst:Option Nat) (t:TypeId) (x y:X):Out :=
 match dst,CJ (D.Ad t) with
 | some d, some e=>match g d with
   | none => cond (Ql D e) (match dK g y with
     | some ⟨r,ys⟩=>cond (Nat.beq r.len (D.size e)) (cond (DN x)
         (.Ai (decide ((([]:List r.den).length+ys.length) * D.bytes e<=140737488355328)) (.sl .n d) [(d,some (.ar e r (([]:List r.den) ++ ys)))])
         (match Xy g e x with
           | some (nl,⟨r', xs⟩,o)=>match Row.eq? r' r with
             | some h=>.Ai (decide (((h.down ▸ xs:List r.den).length+ys.length) * D.bytes e<=140737488355328)) (.sl nl d) [(d,some (.ar e r ((h.down ▸ xs:List r.den) ++ ys))),(o,none)]
             | none=>.bad
           | none=>.bad)) .bad
     | none=>cond (DN y) (match Xy g e x with
         | some (nl,⟨r,xs⟩,o)=>cond (Nat.beq r.len (D.size e)) (.Ai (decide ((xs.length+([]:List r.den).length) * D.bytes e<=140737488355328)) (.sl nl d) [(d,some (.ar e r (xs ++ []))),(o,none)]) .bad
         | none=>.bad) .bad) .bad
   | some _=>.bad
 | _,_=>.bad
theorem Qb (hg:Good P D) {g:XG} {o:Oper} {st:St} (ha:Al g st.s) {t:TypeId} {ox oy:Operand} {x y:X} (hop:o.op=.call ⟨.builtin .append,#[ox,oy],#[t,t]⟩) (hx:ev AV st.t ox=x.enc) (hy:ev AV st.t oy=y.enc) :
   BI P o st (PW D g o.dst t x y):=by
 unfold PW
 split
 · rename_i d e hd he
   have hu:=Ap he
   split
   · rename_i hn
     have hfree:=ha.no d hn
     refine AD (fun Cd=>?_) (fun _=>trivial)
     split
     · rename_i r ys hs
       have hsr:=OZ ha hs
       refine AD (fun hl=>?_) (fun _=>trivial)
       have hlen:r.len=D.size e:=Nat.eq_of_beq_eq_true hl
       refine AD (fun hnx=>?_) (fun _=>?_)
       · intro hq
         obtain rfl:=DL hnx
         show Ce P AV o st (.sl .n d) (Ak st.s d (some (some (.ar e r.len ((([]:List r.den) ++ ys).map r.en)))))
         rw [hlen]
         exact UH (oo:=none) (enc:=r.en) (xs:=([]:List r.den)) (ys:=ys) hg hop hu Cd hfree (by rw [hx]; simp [JH,X.enc,plain]) (by rw [hy]; exact hsr) (r.wide hl) rfl hq
       · split
         · rename_i nl r' xs n ht
           split
           · rename_i h _
             obtain ⟨h⟩:=h
             subst h
             intro hq
             have htg:=JW ha ht
             rw [hlen] at htg
             show Ce P AV o st (.sl nl d) (Ak (Ak st.s n (some none)) d (some (some (.ar e r'.len ((xs ++ ys).map r'.en)))))
             rw [hlen]
             exact UH (oo:=some n) (enc:=r'.en) (xs:=xs) (ys:=ys) hg hop hu Cd hfree (by rw [hx]; exact htg) (by rw [hy]; exact hsr) (r'.wide hl) rfl hq
           · trivial
         · trivial
     · refine AD (fun hny=>?_) (fun _=>trivial)
       obtain rfl:=DL hny
       split
       · rename_i nl r xs n ht
         refine AD (fun hl=>?_) (fun _=>trivial)
         have hlen:r.len=D.size e:=Nat.eq_of_beq_eq_true hl
         intro hq
         have htg:=JW ha ht
         rw [hlen] at htg
         show Ce P AV o st (.sl nl d) (Ak (Ak st.s n (some none)) d (some (some (.ar e r.len ((xs ++ []).map r.en)))))
         rw [hlen]
         exact UH (oo:=some n) (enc:=r.en) (xs:=xs) (ys:=[]) hg hop hu Cd hfree (by rw [hx]; exact htg) (by rw [hy]; simp [JT,X.enc,plain]) (r.wide hl) rfl hq
       · trivial
   · trivial
 · trivial
def Aa:Row:=.int .u8 .nil
def Rf:Option TypeDesc->Bool | some (.int .u8)=>true | _=>false
omit [Mo] in
theorem FA {o:Option TypeDesc}(h:Rf o=true):o=some (.int .u8):=by
 unfold Rf at h
 split at h
 · rfl
 · cases h
def QB:Option Value->Bool | some (.int .u8 n)=>decide (n=0) | _=>false
omit [Mo] in
theorem Qa {o:Option Value}(h:QB o=true):o=some (.int .u8 0):=by
 unfold QB at h
 split at h
 · rw [of_decide_eq_true h]
 · cases h
def AZ (s:ByteArray):List Int:=s.data.toList.map fun b=>((b.toNat:Nat):Int)
omit [Mo] in
theorem CN (s:ByteArray):(AZ s).length=s.size:=by
 unfold AZ
 rw [List.length_map,Array.length_toList]; rfl
omit [Mo] in
theorem NC {t u ty e:TypeId} {i:TypeInfo} (ht:P.underlying t=some (.slice e)) (hu:P.underlying u=some .string) (hi:P.info? e=some i) (hz:i.zero=some (.int .u8 0)) (hsize:i.size=1) (hby:i.bytes=1)
   {w:World} {v:Value} {n:Nat} {xs:List Value} (hown:w.ownsRow 0 e 1 v n xs) (s:ByteArray) (hm0:0 < s.size) (aO:n+s.size<=maxLen) (hbytes:n+s.size<=140737488355328) :
   ∃ g cap w', (Builtin.append_ #[t,u] ty #[v,.string s]).run P w=.ok (.slice (some ⟨g,0,none⟩) (n+s.size) cap) w' /\ w'.ownsRow 0 e 1 (.slice (some ⟨g,0,none⟩) (n+s.size) cap) (n+s.size) (xs ++ Lib.strCells s)/\w.grownBy w' v.ownBlock /\
     (v.ownBlock=some g\/g=w.heap.size)/\g < w'.heap.size/\w.drawn<=w'.drawn:=by
 have hsmall:n+s.size<=9223372036854775807:=by simp only [maxLen] at aO; omega
 have hxl:xs.length=n:=by simpa using hown.1
 have hlen:(xs ++ Lib.strCells s).length=(n+s.size) * 1:=by rw [List.length_append,hxl,Lib.strCells_length,Nat.mul_one]
 have grown:∀ (JF:Nat),JF < n+s.size->∀ (row:Option Nat),
     (w.drew.alloc (.cells (xs.toArray ++ (Lib.strCells s).toArray ++ Builtin.zeroCells (Value.int .u8 0).cells (grownCap w (n+s.size) JF e - (n+s.size))) e)).ownsRow 0 e 1
       (.slice (some ⟨w.heap.size,0,none⟩) (n+s.size) (grownCap w (n+s.size) JF e)) (n+s.size) (xs ++ Lib.strCells s) /\
     w.grownBy (w.drew.alloc (.cells (xs.toArray ++ (Lib.strCells s).toArray ++ Builtin.zeroCells (Value.int .u8 0).cells (grownCap w (n+s.size) JF e - (n+s.size))) e)) row:=by
   intro JF ho row
   have hge:=grownCap_ge w (n+s.size) JF e
   have hcm:grownCap w (n+s.size) JF e<=maxLen:=grownCap_le_maxLen w (n+s.size) JF e aO
   refine ⟨⟨hlen,.inr ⟨w.heap.size,_,_,rfl,Nat.zero_le _,heap_alloc_new w.drew _,hge,hcm,?_,?_⟩⟩,⟨rfl,rfl,rfl,by simp,fun k hk _=>heap_alloc_old w.drew _ hk⟩⟩
   · have hz1:(Value.int IntKind.u8 0).cells.size=1:=rfl
     simp only [Array.size_append,List.size_toArray,size_zeroCells,hz1,hxl,Lib.strCells_length]
     omega
   · simp only [Array.toList_append,List.append_assoc]
     rw [<- List.append_assoc,<- hlen]
     exact List.take_left
 rcases hown.2 with ⟨rfl,rfl⟩ | ⟨g,cap,cur,rfl,hbg,hg,hnc,hcm,hcs,htake⟩
 · have hx:xs=[]:=List.eq_nil_of_length_eq_zero hxl
   subst hx
   have hr:=run_append_nil_string (P:=P) w t u ty e i (.int .u8 0) ht hu hi hz s (by omega) (by omega) (by rw [hby]; omega)
   have hgr:=grown 0 (by omega) (Value.ownBlock (.slice none 0 0))
   simp only [Nat.zero_add,List.nil_append,Array.empty_append] at hgr ⊢
   have e1:(s.data.map fun b=>Value.int .u8 b.toNat)=(Lib.strCells s).toArray:=by
     apply Array.ext'
     simp [Lib.strCells]
   rw [e1] at hr
   exact ⟨_,_,_,hr,hgr.1,hgr.2,.inr rfl,by simp,Nat.le_succ _⟩
 · by_cases hroom:n+s.size<=cap
   · have hcs':cur.size=cap:=by simpa using hcs
     have hr:=Lib.run_append_room_string (P:=P) w t u ty e i ht hu hi hsize g n cap cur hg s hroom (by omega)
     refine ⟨g,cap,_,hr,⟨hlen,.inr ⟨g,cap,_,rfl,hbg,setRow_heap w g cur _ e _ hg,hroom,hcm,?_,?_⟩⟩,⟨rfl,rfl,rfl,by simp,fun k _ hk=>setRow_other w g k _ (fun e=>hk (by simp [Value.ownBlock,e]))⟩,.inl rfl,by simpa using (Array.getElem?_eq_some_iff.1 hg).1,Nat.le_refl _⟩
     · simp only [List.size_toArray,List.length_append,List.length_take,List.length_drop,Array.length_toList,Lib.strCells_length]
       omega
     · have ht':cur.toList.take n=xs:=by simpa using htake
       rw [ht', <- hlen]
       exact List.take_left
   · have holds:∀ j u,xs[j]? = some u->w.cell? ((⟨g,0,none⟩:Addr).add j)=some u:=hown.cells (g:=g) rfl
     have hr:=Lib.run_append_grow_string (P:=P) w t u ty e i (.int .u8 0) ht hu hi hz ⟨g,0,none⟩ n cap xs (by rw [hsize]; simpa using hxl) holds s (by omega) (by omega) (by rw [hby]; exact growslice_fits (by omega) (by omega))
     have hgr:=grown cap (by omega) (Value.ownBlock (.slice (some ⟨g,0,none⟩) n cap))
     exact ⟨_,_,_,hr,hgr.1,hgr.2,.inr rfl,by simp,Nat.le_succ _⟩
omit [Mo] in
theorem Kp {t u e ty:TypeId}{i:TypeInfo}{w:World}{a:Option Addr}{n c:Nat}{s:ByteArray}(ht:P.underlying t=some (.slice e))(hu:P.underlying u=some .string)(hi:P.info? e=some i)(hs:s.size=0)(hn:n<=c) :
   (Builtin.append_ #[t,u] ty #[.slice a n c,.string s]).run P w=.ok (.slice a n c) w:=by
 have hf:=Lib.run_firstCells_string (P:=P) w i.size s
 rw [hs] at hf
 have hn2:Lib.strCells s=[]:=List.eq_nil_of_length_eq_zero (by rw [Lib.strCells_length]; exact hs)
 rw [hn2] at hf
 cases a with
 | none=>simp [Builtin.append_,run_underlying ht,run_underlying hu,sizeOf,typeInfo,hi,Builtin.lenOf,hs,hf,hn]
 | some a=>simp [Builtin.append_,run_underlying ht,run_underlying hu,sizeOf,typeInfo,hi,Builtin.lenOf,hs,hf,hn,storeCells]
omit [Mo] in
theorem KU {s:ByteArray}{F:Nat->Prop}{w:World}{i:Nat}{r:List T}(hi:((AZ s).map Aa.en)[i]? = some r){j:Nat}{x:T}(hj:r[j]? = some x):j=0/\∃ v,(Lib.strCells s)[i]? = some v/\BJ w F x v:=by
 have hi':((s.data.toList.map fun b=>((b.toNat:Nat):Int)).map fun n:Int=>[T.sc (.int .u8 n)])[i]? = some r:=hi
 simp only [List.getElem?_map,Option.map_eq_some_iff] at hi'
 obtain ⟨n,⟨b,hb,rfl⟩,rfl⟩:=hi'
 cases j with
 | zero =>
   cases hj
   exact ⟨rfl,_,by unfold Lib.strCells; rw [List.getElem?_map,hb]; rfl,.sc _ rfl⟩
 | succ j=>simp at hj
theorem WD (hg:Good P D) {o:Oper} {st:St} {x y:Operand} {t u e d:Nat} {nl:Nl} {rows:List (List T)} {oo:Option Nat} {s:ByteArray}
   (ho:o.op=.call ⟨.builtin .append,#[x,y],#[t,u]⟩) (hu:D.Ad t=some (.slice e)) (hs:D.Ad u=some .string) (he:D.Ad e=some (.int .u8)) (hz:D.zero e=some (.int .u8 0)) (hp:D.size e=1) (hb:D.bytes e=1)
   (hd:st.s d=none) (htg:JH st.s e 1 (ev AV st.t x)=some (nl,rows,oo)) (hy:ev AV st.t y=vS s) (hby:rows.length+s.size<=140737488355328) :
   Ce P AV o st (.sl nl d) (Ak (Jz st.s oo) d (some (some (.ar e 1 (rows ++ (AZ s).map Aa.en))))):=by
 intro B F loc a w hR
 have hS:=hR.s
 obtain ⟨hu', _⟩:=hg.Ad t _ hu
 obtain ⟨hus,_⟩:=hg.Ad u _ hs
 obtain ⟨_,i,hi,hsz,hbt,hzi⟩:=hg.Ad e _ he
 obtain ⟨b,cap,cells,hv,hown,hrl,h1,hr,hne,hnn,hn0,hbo,hoo⟩:=(PG hS htg (Af hR x) (by decide)).out
 have hys:a.eval y=.string s:=by
   have:=Af hR y
   rw [hy] at this
   exact AU this
 have hcl:cells.length=rows.length:=by have:=hown.1; omega
 have hcat:∀ (i:Nat) (r:List T),(rows ++ (AZ s).map Aa.en)[i]? = some r->∀ (j:Nat) (x:T),r[j]? = some x->∃ v,(cells ++ Lib.strCells s)[i * 1+j]? = some v/\BJ w F x v:=by
   intro i r hi j x hj
   rw [List.getElem?_append] at hi
   split at hi
   · rename_i hlt
     have hjl:j < 1:=by have:=(List.getElem?_eq_some_iff.1 hj).1; have:=Bh hrl hi; omega
     obtain ⟨u,hu,hrel⟩:=hr i r hi j x hj
     exact ⟨u,by rw [List.getElem?_append,if_pos (by omega)]; exact hu,hrel⟩
   · rename_i hge
     obtain ⟨rfl,u,hu,hrel⟩:=KU (w:=w) (F:=F) hi hj
     refine ⟨u,?_,hrel⟩
     rw [List.getElem?_append,if_neg (by omega),<- hu]
     congr 1
     omega
 have hrl2:∀ r ∈ rows ++ (AZ s).map Aa.en,r.length=1:=fun r hr=>(List.mem_append.1 hr).elim (hrl r) (fun h=>by
   obtain ⟨n,_,rfl⟩:=List.mem_map.1 h; rfl)
 have h1':∀ u ∈ cells ++ Lib.strCells s,u.oneCell' = true:=fun u hu=>(List.mem_append.1 hu).elim (h1 u) (Lib.strCells_oneCell s u)
 have hob:(a.eval x).ownBlock=b:=by rw [hv]; cases b <;> rfl
 have hll:(rows ++ (AZ s).map Aa.en).length=rows.length+s.size:=by rw [List.length_append]; congr 1; exact (List.length_map _).trans (CN s)
 by_cases hm:s.size=0
 · have hnil:AZ s=[]:=List.eq_nil_of_length_eq_zero (by rw [CN]; exact hm)
   have hcap:rows.length<=cap:=by rw [hv] at hown; exact Jr (Bj hown (hg.lt e _ he))
   have hrun:(Builtin.append_ #[t,u] o.type #[a.eval x,a.eval y]).run P w=.ok (a.eval x) w:=by
     rw [hv,hys]; exact Kp hu' hus hi hm hcap
   have e0:rows ++ (AZ s).map Aa.en=rows:=by rw [hnil]; exact List.append_nil _
   rw [e0]
   have hx:∀ loc', Az loc loc' -> Kept w F w F->Bi w F loc' (some (.ar e 1 rows)) (.arr b rows.length cap 1):=by
     intro loc' _ _
     exact .ar e _ rows b cap cells (by decide) hrl (by rw [hv] at hown; exact Bj hown (hg.lt e _ he)) h1 hr
   have hgb:w.grownBy w none:=⟨rfl,rfl,rfl,Nat.le_refl _,fun _ _ _=>rfl⟩
   obtain ⟨hS', hk,hsm⟩:=hS.replace (oo:=oo) (row:=none) (d:=d) (x:=.ar e 1 rows) (l:=.arr b rows.length cap 1) hd hoo (Gi htg) hgb (fun _ h=>by cases h) (fun g hg=>by
     obtain ⟨o', l', h1,h2,h3⟩:=hbo g hg
     exact ⟨.inl ⟨o', l', h1,h2,h3⟩,(hS.own o' l' g h2 h3).1⟩) hx
   refine ⟨F,_,w,a.eval x,_,EP ho hrun,.inl rfl,hS', hk,hsm,?_⟩
   rw [hv]
   exact .sl _ _ b _ cap 1 (AA _ _ _) hne hnn hn0
 · obtain ⟨g,cap', w', hrun,hown', hgb,hplace,hgs,hdr⟩:=NC (P:=P) (ty:=o.type) hu' hus hi (hzi.trans hz) (hsz.trans hp) (hbt.trans hb) hown s (by omega) (Nat.le_trans (show rows.length+s.size<=9223372036854775807 by omega) Ms) hby
   have hx:∀ loc', Az loc loc' -> Kept w F w' F->Bi w' F loc' (some (.ar e 1 (rows ++ (AZ s).map Aa.en))) (.arr (some g) (rows ++ (AZ s).map Aa.en).length cap' 1):=by
     intro loc' _ hk
     refine .ar e _ _ (some g) cap' (cells ++ Lib.strCells s) (by decide) hrl2 (by rw [hll]; exact Bj hown' (hg.lt e _ he)) h1' fun i r hi j x hj=>?_
     obtain ⟨u,hu,hrel⟩:=hcat i r hi j x hj
     exact ⟨u,hu,hrel.mono hk⟩
   obtain ⟨hS', hk,hsm⟩:=hS.replace (oo:=oo) (row:=b) (d:=d) (x:=.ar e 1 (rows ++ (AZ s).map Aa.en)) (l:=.arr (some g) (rows ++ (AZ s).map Aa.en).length cap' 1) hd hoo (Gi htg) (by rw [<- hob]; exact hgb) hbo (fun g' hg'=>by
     cases hg'
     refine ⟨?_,hgs⟩
     rcases hplace with h | h
     · rw [hob] at h; exact .inl (hbo g h)
     · exact .inr (by omega)) hx hdr
   refine ⟨F,_,w', _,_,EP ho (by rw [hys]; exact hrun),.inl rfl,hS', hk,hsm,?_⟩
   have:=AF.sl (w:=w') (F:=F) (loc:=Ak (GD loc oo) d (some (.arr (some g) (rows ++ (AZ s).map Aa.en).length cap' 1))) nl d (some g) _ cap' 1 (AA _ _ _) (fun _=>rfl) (fun _ _=>by rw [hll]; omega) (by simp)
   rw [hll] at this
   simpa [hll] using this
def Fv (s:ByteArray):List Aa.den:=AZ s
def NT (D:Au) (g:XG) (dst:Option Nat) (t u:TypeId) (x:X) (s:ByteArray):Out :=
 match dst,CJ (D.Ad t) with
 | some d, some e=>match g d with
   | none=>cond (Rf (D.Ad e) && Dt (D.Ad u) && QB (D.zero e) && Nat.beq (D.size e) 1 && Nat.beq (D.bytes e) 1) (cond (DN x)
       (.Ai (decide (([]:List Aa.den).length+s.size<=140737488355328)) (.sl .n d) [(d,some (.ar e Aa (([]:List Aa.den) ++ Fv s)))])
       (match Xy g e x with
         | some (nl,⟨r,xs⟩,o)=>match Row.eq? r Aa with
           | some h=>.Ai (decide ((h.down ▸ xs:List Aa.den).length+s.size<=140737488355328)) (.sl nl d) [(d,some (.ar e Aa ((h.down ▸ xs:List Aa.den) ++ Fv s))),(o,none)]
           | none=>.bad
         | none=>.bad)) .bad
   | some _=>.bad
 | _,_=>.bad
theorem Nk (hg:Good P D) {g:XG} {o:Oper} {st:St} (ha:Al g st.s) {t u:TypeId} {ox oy:Operand} {x:X} {s:ByteArray} (hop:o.op=.call ⟨.builtin .append,#[ox,oy],#[t,u]⟩) (hx:ev AV st.t ox=x.enc) (hy:ev AV st.t oy=(X.s s).enc) :
   BI P o st (NT D g o.dst t u x s):=by
 unfold NT
 split
 · rename_i d e hd he
   have hu:=Ap he
   split
   · rename_i hn
     have hfree:=ha.no d hn
     refine AD (fun Cd=>?_) (fun _=>trivial)
     simp only [Bool.and_eq_true] at Cd
     obtain ⟨⟨⟨⟨k1,k2⟩,k3⟩,k4⟩,k5⟩:=Cd
     have k1:=FA k1
     have k2:=BX k2
     have k3:=Qa k3
     have k4:D.size e=1:=Nat.eq_of_beq_eq_true k4
     have k5:D.bytes e=1:=Nat.eq_of_beq_eq_true k5
     refine AD (fun hnx=>?_) (fun _=>?_)
     · intro hq
       obtain rfl:=DL hnx
       show Ce P AV o st (.sl .n d) (Ak st.s d (some (some (.ar e 1 ((([]:List Aa.den) ++ Fv s).map Aa.en)))))
       exact WD (oo:=none) (rows:=[]) hg hop hu k2 k1 k3 k4 k5 hfree (by rw [hx]; simp [JH,X.enc,plain]) hy (by simpa using of_decide_eq_true hq)
     · split
       · rename_i nl r xs n ht
         split
         · rename_i h _
           obtain ⟨h⟩:=h
           subst h
           intro hq
           have htg:=JW ha ht
           show Ce P AV o st (.sl nl d) (Ak (Ak st.s n (some none)) d (some (some (.ar e 1 ((xs ++ Fv s).map Aa.en)))))
           rw [List.map_append]
           exact WD (oo:=some n) hg hop hu k2 k1 k3 k4 k5 hfree (by rw [hx]; exact htg) hy (by rw [List.length_map]; exact of_decide_eq_true hq)
         · trivial
       · trivial
   · trivial
 · trivial
def ZJ (g:XG)(r:Row):Nat->List (Nat × X)->Option (List r.den)
 | _,[]=>some []
 | k,(i,v) :: rest=>cond (Nat.beq i k && Fk g v) (match r.BD (BW v),ZJ g r (k+1) rest with
   | some a,some az=>some (a :: az)
   | _,_=>none) none
omit [Mo] in
theorem BQ.refl:∀ (l:List T),BQ l l
 | []=>.nil
 | x :: l=>.cons _ _ _ _ (.refl x) (BQ.refl l)
omit [Mo] in
theorem Om {g:XG} {s:AB} (ha:Al g s) {r:Row} {sz:Nat} (hsz:r.len=sz):∀ (parts:List (Nat × X)) (k:Nat) (xs:List r.den) (cells:List V),ZJ g r k parts=some xs->(k+parts.length) * sz<=cells.length ->
   xs.length=parts.length/\∃ tss:List (List T),tss.length=parts.length/\(∀ (i:Nat) (a:r.den),xs[i]? = some a->∃ ts,tss[i]? = some ts/\BQ ts (r.en a))/\(∀ ts ∈ tss,ts.length=sz)/\(∀ v ∈ tss.flatten.map V.t,Lj s v=true) /\
     Ex s (fun i=>some (i * sz,sz)) cells (parts.map fun p=>(p.1,p.2.enc))=some (cells.take (k * sz) ++ tss.flatten.map V.t ++ cells.drop ((k+parts.length) * sz))
 | [],k,xs,cells,h,_=>by
   cases h
   exact ⟨rfl,[],rfl,fun i a h=>by simp at h,fun _ h=>by simp at h,fun _ h=>by simp at h,by simp [Ex]⟩
 | (i, v) :: rest,k,xs,cells,h,hc=>by
   unfold ZJ at h
   cases hb:(Nat.beq i k && Fk g v) with
   | false=>rw [hb] at h; cases h
   | true =>
     rw [hb] at h
     simp only [Bool.and_eq_true] at hb
     obtain ⟨hik,hsol⟩:=hb
     have hik':=Nat.eq_of_beq_eq_true hik
     subst hik'
     simp only [cond_true] at h
     split at h
     · rename_i a az h1 h2
       cases h
       obtain ⟨hso,hce⟩:=EK ha hsol
       obtain ⟨ts,hts,hw⟩:=r.Ba _ a h1
       rw [hce] at hts
       have hcv:=De hts
       have htl:ts.length=sz:=by rw [hw.get.1,r.Ch,hsz]
       have hlen:(Am v.enc).length=sz:=by rw [hcv,List.length_map,htl]
       simp only [List.length_cons] at hc
       have hmul:(i+(rest.length+1)) * sz=i * sz+sz+rest.length * sz:=by rw [Nat.add_mul,Nat.add_mul]; omega
       have hc1:i * sz+sz<=cells.length:=by omega
       obtain ⟨h3,tss,h4,h5,h6,h7,h8⟩:=Om ha hsz rest (i+1) az (cells.take (i * sz) ++ Am v.enc ++ cells.drop (i * sz+sz)) h2 (by
         have:(i+1+rest.length) * sz=i * sz+sz+rest.length * sz:=by rw [Nat.add_mul,Nat.add_mul]; omega
         simp only [List.length_append,List.length_take,List.length_drop,hlen]; omega)
       refine ⟨by simp [h3],ts :: tss,by simp [h4],fun j b hj=>?_,fun u hu=>?_,fun u hu=>?_,?_⟩
       · cases j with
         | zero=>cases hj; exact ⟨ts,rfl,hw⟩
         | succ j=>exact h5 j b (by simpa using hj)
       · rcases List.mem_cons.1 hu with rfl | hu
         · exact htl
         · exact h6 u hu
       · rw [List.flatten_cons,List.map_append,List.mem_append] at hu
         rcases hu with hu | hu
         · rw [<- hcv] at hu; exact Kg hso u hu
         · exact h7 u hu
       · simp only [List.map_cons,Ex,Mx hso,hlen,Nat.beq_refl,Bool.true_and]
         rw [if_pos (by simpa using hc1)]
         rw [h8]
         congr 1
         have e1:(i+1) * sz=i * sz+sz:=by rw [Nat.add_mul,Nat.one_mul]
         have e2:(i+1+rest.length) * sz=i * sz+sz+rest.length * sz:=by rw [Nat.add_mul,Nat.add_mul]; omega
         have t1:(cells.take (i * sz) ++ Am v.enc).length=i * sz+sz:=by rw [List.length_append,List.length_take,hlen]; omega
         rw [e1,List.take_left' t1,List.drop_append,List.drop_eq_nil_of_le (by omega),List.nil_append,t1,List.drop_drop,e2,List.length_cons,hmul,List.flatten_cons,List.map_append,<- hcv]
         simp only [List.append_assoc]
         congr 4
         omega
     · cases h
omit [Mo] in
theorem Kf {sz:Nat}:∀ (tss:List (List T)),(∀ ts ∈ tss,ts.length=sz)->∀ (i:Nat) (ts:List T),tss[i]? = some ts->(tss.flatten.drop (i * sz)).take sz=ts
 | [],_,i,ts,h=>by simp at h
 | t :: tss,hl,0,ts,h=>by
   cases h
   have:=hl t (by simp)
   rw [Nat.zero_mul,List.drop_zero,List.flatten_cons]
   exact List.take_left' this
 | t :: tss,hl,i+1,ts,h=>by
   have ht:=hl t (by simp)
   rw [List.flatten_cons,Nat.add_mul,Nat.one_mul,Nat.add_comm,<- List.drop_drop,List.drop_left' ht]
   exact Kf tss (fun x hx=>hl x (by simp [hx])) i ts (by simpa using h)
omit [Mo] in
theorem TJ {e:Nat} {z:List T} (h:Bz D e=some z):z.length=D.size e:=by
 unfold Bz at h
 split at h
 · rename_i v hv
   split at h
   · rename_i hb
     cases h
     simp only [Bool.and_eq_true] at hb
     have:=Nat.eq_of_beq_eq_true hb.1.2
     simpa using this
   · cases h
 · cases h
omit [Mo] in
theorem WV {g:XG}{s:AB}(ha:Al g s){r:Row}{e len:Nat}(hsz:r.len=D.size e){parts:List (Nat × X)}{xs:List r.den}(h:ZJ g r 0 parts=some xs)(hlen:parts.length=len){z:List T}(hz:Bz D e=some z) :
   ∃ rows,JC D s e len (parts.map fun p=>(p.1,p.2.enc))=some rows/\rows.length=xs.length/\∀ (i:Nat) (r':List T),(xs.map r.en)[i]? = some r' -> ∃ q,rows[i]? = some q/\BQ q r':=by
 have hfl:=EJ (TJ hz) len
 obtain ⟨h1,tss,h2,h3,h4,h5,h6⟩:=Om ha hsz parts 0 xs ((List.replicate len (z.map V.t)).flatten) h (by rw [hfl,Nat.zero_add,hlen]; exact Nat.le_refl _)
 have h7:(List.replicate len (z.map V.t)).flatten.take (0 * D.size e) ++ tss.flatten.map V.t ++ (List.replicate len (z.map V.t)).flatten.drop ((0+parts.length) * D.size e)=tss.flatten.map V.t:=by
   rw [Nat.zero_mul,List.take_zero,List.nil_append,Nat.zero_add,hlen,<- hfl,List.drop_length,List.append_nil]
 rw [h7] at h6
 refine ⟨(List.range len).map fun i=>(tss.flatten.drop (i * D.size e)).take (D.size e),?_,by simp [h1,hlen],fun i r' hi=>?_⟩
 · unfold JC
   rw [hz]
   simp only [h6]
   rw [List.all_eq_true.2 h5,Ef]
 · rw [List.getElem?_map] at hi
   obtain ⟨a,ha', rfl⟩:=Option.map_eq_some_iff.1 hi
   obtain ⟨ts,hts,hw⟩:=h3 i a ha'
   have hil:i < len:=by have:=(List.getElem?_eq_some_iff.1 ha').1; omega
   exact ⟨ts,by rw [List.getElem?_map,List.getElem?_range hil]; exact congrArg some (Kf tss h4 i ts hts),hw⟩
def GH (D:Au) (g:XG) (rw? : Option Row) (dst:Option Nat) (t:TypeId) (len:Nat) (parts:List (Nat × X)):Out :=
 match dst,CJ (D.Ad t),rw? with
 | some d,some e,some r=>match g d with
   | none=>cond (D.has e && Nat.beq r.len (D.size e) && Nat.beq parts.length len && (Bz D e).isSome && Nat.ble (len * D.size e) 16777216) (match ZJ g r 0 parts with
     | some xs=>.ok (.sl .e d) [(d,some (.ar e r xs))]
     | none=>.bad) .bad
   | some _=>.bad
 | _,_,_=>.bad
theorem Je (hg:Good P D) {g:XG} {o:Oper} {st:St} (ha:Al g st.s) {t:TypeId} {len:Nat} {ops:Array (Nat × Operand)} {parts:List (Nat × X)} {rw? : Option Row} (hop:o.op=.buildSlice t len ops)
   (hp:(ops.toList.map fun p=>(p.1,ev AV st.t p.2))=parts.map fun p=>(p.1,p.2.enc)):BI P o st (GH D g rw? o.dst t len parts):=by
 unfold GH
 split
 · rename_i d e r hd he
   split
   · rename_i hn
     refine AD (fun hc=>?_) (fun _=>trivial)
     simp only [Bool.and_eq_true] at hc
     obtain ⟨⟨⟨⟨h1,h2⟩,h3⟩,h4⟩,h5⟩:=hc
     split
     · rename_i xs hxs
       obtain ⟨z,hz⟩:=Option.isSome_iff_exists.1 h4
       have hlen:r.len=D.size e:=Nat.eq_of_beq_eq_true h2
       obtain ⟨rows,k1,k2,k3⟩:=WV ha hlen hxs (Nat.eq_of_beq_eq_true h3) hz
       have:=ff (st:=st) (d:=d) hg hop (Ap he) h1 (ha.no d hn) (by rw [hp]; exact k1) h5
       have:=this.FL (n:=d) (rows':=xs.map r.en) (AA _ _ _) (by simp [k2]) k3
       show Ce P AV o st (.sl .e d) (Ak st.s d (some (some (.ar e r.len (xs.map r.en)))))
       have hu:∀ (y z:Option (Option O)),Ak (Ak st.s d y) d z=Ak st.s d z:=by
         intro y z; funext m; by_cases hm:m=d
         · subst hm; simp [AA]
         · simp [AH _ _ hm]
       rw [hu] at this
       rw [hlen]; exact this
     · trivial
   · trivial
 · trivial
def Qh:Operand->Operand->Bool
 | .tmp i,.tmp j=>Nat.beq i j
 | .const (.int k a),.const (.int k' b)=>decide (k=k' /\ a=b)
 | _,_=>false
def Hb (D:Au) (g:XG) (rw? : Option Row) (dst:Option Nat) (t:TypeId) (ox oy:Operand) (x:X):Out :=
 match dst,CJ (D.Ad t),rw? with
 | some d,some e,some r=>match g d,x with
   | none,.i _ n=>match D.zero e with
     | some z=>match r.BD (z.cells.toList.map CA) with
       | some a=>cond (Qh ox oy && D.has e && (Bz D e).isSome && Nat.beq r.len (D.size e)) (.Ai (decide (0<=n/\n<=9223372036854775807/\D.bytes e * n.toNat<=281474976710656)) (.sl .e d) [(d,some (.ar e r (List.replicate n.toNat a)))]) .bad
       | none=>.bad
     | none=>.bad
   | _,_=>.bad
 | _,_,_=>.bad
omit [Mo] in
theorem QU {ox oy:Operand}(h:Qh ox oy=true){st:St}{k:IntKind}{n:Int}(hx:ev AV st.t ox=vI k n):ev AV st.t oy=vI k n:=by
 unfold Qh at h
 split at h
 · rw [<- Nat.eq_of_beq_eq_true h]; exact hx
 · rename_i k1 a k2 b
   have hab:=of_decide_eq_true h
   rw [<- hab.1,<- hab.2]; exact hx
 · cases h
theorem LA (hg : Good P D) {g:XG} {o:Oper} {st:St} (ha:Al g st.s) {t:TypeId} {ox oy:Operand} {x:X} {rw? : Option Row} (hop:o.op=.makeSlice t ox oy) (hx:ev AV st.t ox=x.enc) :
   BI P o st (Hb D g rw? o.dst t ox oy x):=by
 unfold Hb
 split
 · rename_i d e r hd he
   split
   · rename_i k n hn
     split
     · rename_i z hz
       split
       · rename_i a hra
         refine AD (fun hc=>?_) (fun _=>trivial)
         simp only [Bool.and_eq_true] at hc
         obtain ⟨⟨⟨h1,h2⟩,h3⟩,h4⟩:=hc
         intro hq
         obtain ⟨q1,q2,q3⟩:=of_decide_eq_true hq
         obtain ⟨row,hrow⟩:=Option.isSome_iff_exists.1 h3
         obtain ⟨de,hde⟩:=BT h2
         have hlen:r.len=D.size e:=Nat.eq_of_beq_eq_true h4
         have:=Pv (st:=st) (d:=d) hg hop (Ap he) hde (ha.no d hn) hx (QU h1 hx) hrow q1 q2 q3
         have hw:BQ row (r.en a):=by
           obtain ⟨ts,hts,hw⟩:=r.Ba _ a hra
           unfold Bz at hrow
           rw [hz] at hrow
           simp only at hrow
           split at hrow
           · rename_i hb
             cases hrow
             simp only [Bool.and_eq_true] at hb
             have hpl:z.cells.toList.all plain=true:=by simpa using hb.1.1
             have h5:(z.cells.toList.map CA).map X.enc=(z.cells.toList.map T.sc).map V.t:=by
               have:=Cv hpl
               unfold Fb at this
               rw [if_pos hpl] at this
               simp only [Option.some.injEq] at this
               rw [<- this,List.map_map]; rfl
             rw [h5,Ef] at hts
             cases hts; exact hw
           · cases hrow
         have:=this.FL (n:=d) (rows':=(List.replicate n.toNat a).map r.en) (AA _ _ _) (by simp) (fun i r' hi=>by
           rw [List.map_replicate] at hi
           obtain ⟨hi1,hi2⟩:=List.getElem?_eq_some_iff.1 hi
           rw [List.getElem_replicate] at hi2
           refine ⟨row,?_,hi2 ▸ hw⟩
           rw [List.getElem?_replicate,if_pos (by simpa using hi1)])
         show Ce P AV o st (.sl .e d) (Ak st.s d (some (some (.ar e r.len ((List.replicate n.toNat a).map r.en)))))
         have hu:∀ (y z:Option (Option O)),Ak (Ak st.s d y) d z=Ak st.s d z:=by
           intro y z; funext m; by_cases hm:m=d
           · subst hm; simp [AA]
           · simp [AH _ _ hm]
         rw [hu] at this
         rw [hlen]; exact this
       · trivial
     · trivial
   · trivial
 · trivial
def JO (D:Au) (g:XG) (src dst:TypeId) (x:X):Out :=
 match CJ (D.Ad src) with
 | some e=>cond (Rf (D.Ad e) && Dt (D.Ad dst)) (cond (DN x) (.ok (.s (strOfNums [])) []) (match dK g x with
   | some ⟨r,xs⟩=>match Row.eq? r Aa with
     | some h=>.ok (.s (strOfNums (h.down ▸ xs:List Aa.den))) []
     | none=>.bad
   | none=>.bad)) .bad
 | none=>.bad
theorem NG (hg:Good P D) {g:XG} {o:Oper} {st:St} (ha:Al g st.s) {src dst:TypeId} {ox:Operand} {x:X} (hop:o.op=.convert src dst ox) (hx:ev AV st.t ox=x.enc):BI P o st (JO D g src dst x):=by
 unfold JO
 split
 · rename_i e he
   refine AD (fun hc=>?_) (fun _=>trivial)
   simp only [Bool.and_eq_true] at hc
   refine AD (fun hn=>?_) (fun _=>?_)
   · obtain rfl:=DL hn
     exact Ke (xs:=[]) hg hop (Ap he) (FA hc.1) (BX hc.2) (by rw [hx]; simp [JT,X.enc,plain])
   · split
     · rename_i r xs hs
       split
       · rename_i h _
         obtain ⟨h⟩:=h
         subst h
         exact Ke (xs:=xs) hg hop (Ap he) (FA hc.1) (BX hc.2) (by rw [hx]; exact OZ ha hs)
       · trivial
     · trivial
 · trivial
def Jc (D:Au)(g:XG)(dst:Option Nat)(ts:TypeId)(e:Nat)(s:ByteArray):Out :=
 match dst with
 | some d=>match g d with
   | none=>cond (Dt (D.Ad ts) && Rf (D.Ad e)) (.Ai (decide (s.size<=9223372036854775807)) (.sl .e d) [(d,some (.ar (e+1000000) Aa (Fv s)))]) .bad
   | some _=>.bad
 | none=>.bad
theorem Qu (hg:Good P D) {o:Oper} {st:St} {x:Operand} {ts td e d:Nat} {s:ByteArray} (hop:o.op=.convert ts td x) (hs:D.Ad ts=some .string) (hd':D.Ad td=some (.slice e)) (he:D.Ad e=some (.int .u8)) (hd:st.s d=none) (hx:ev AV st.t x=vS s) (hm:s.size<=9223372036854775807) :
   Ce P AV o st (.sl .e d) (Ak st.s d (some (some (.ar (e+1000000) 1 ((AZ s).map Aa.en))))):=by
 intro B F loc a w hR
 have hS:=hR.s
 have hlt:=hg.lt e _ he
 have hv:a.eval x=.string s:=by
   have:=Af hR x
   rw [hx] at this
   exact AU this
 have hrun:=Lib.run_convert_string_bytes (P:=P) w ts td e s (hg.Ad ts _ hs).1 (hg.Ad td _ hd').1 (hg.Ad e _ he).1
 have hge:=grownCap_ge w s.size 0 e
 have hcm:=grownCap_le_maxLen w s.size 0 e (Nat.le_trans hm Ms)
 have hcs:(Lib.bytesCells w e s).size=grownCap w s.size 0 e:=by
   unfold Lib.bytesCells
   rw [Array.size_append,Array.size_map,Array.size_replicate]
   show s.data.size+(grownCap w s.size 0 e - s.size)=_
   have:s.data.size=s.size:=rfl
   omega
 have hsl:(Lib.strCells s).length=s.size:=by unfold Lib.strCells; rw [List.length_map]; rfl
 have htk:(Lib.bytesCells w e s).toList.take (s.size * 1)=Lib.strCells s:=by
   unfold Lib.bytesCells
   rw [Array.toList_append,Array.toList_map,Nat.mul_one]
   show List.take s.size (Lib.strCells s ++ _)=_
   rw [<- hsl,List.take_left]
 have hll:((AZ s).map Aa.en).length=s.size:=(List.length_map _).trans (CN s)
 have hrl:∀ r ∈ (AZ s).map Aa.en,r.length=1:=fun r hr=>by
   obtain ⟨n,_,rfl⟩:=List.mem_map.1 hr; rfl
 have hgb:w.grownBy (Lib.bytesWorld w e s) none:=⟨rfl,rfl,rfl,by rw [Lib.bytesWorld_size]; omega,fun k hk _=>Lib.bytesWorld_at_old w e s k hk⟩
 obtain ⟨hS', hk,hsm⟩:=hS.replace (oo:=none) (row:=none) (d:=d) (x:=.ar (e+1000000) 1 ((AZ s).map Aa.en)) (l:=.arr (some w.heap.size) s.size (grownCap w s.size 0 e) 1) hd (by simp) (by simp) hgb (by simp) (fun g hg=>by
   cases hg; exact ⟨.inr (Nat.le_refl _),by rw [Lib.bytesWorld_size]; omega⟩) (fun loc' _ hk=>by
   have:=Bi.ar (w:=Lib.bytesWorld w e s) (F:=F) (loc:=loc') (e+1000000) 1 ((AZ s).map Aa.en) (some w.heap.size) (grownCap w s.size 0 e) (Lib.strCells s) (by decide) hrl (by
     rw [hll]
     exact GP (by rw [hsl,Nat.mul_one]) (Lib.bytesWorld_at_new w e s) (.inr ⟨by omega,by omega,fun _=>by rw [hcs]; omega⟩) hge hcm (by rw [hcs,Nat.mul_one]) htk) (Lib.strCells_oneCell s) (fun i r hi j x hj=>by
     obtain ⟨rfl,u,hu,hrel⟩:=KU (w:=Lib.bytesWorld w e s) (F:=F) hi hj
     exact ⟨u,by rw [Nat.mul_one,Nat.add_zero]; exact hu,hrel⟩)
   rw [hll] at this
   exact this) (by simp [Lib.bytesWorld,World.freeze])
 refine ⟨F,_,Lib.bytesWorld w e s,.slice (some ⟨w.heap.size,0,none⟩) s.size (grownCap w s.size 0 e),_,?_,.inl rfl,hS', hk,hsm,?_⟩
 · simp only [execOp,hop]
   rw [hv]
   simp [hrun]
 · exact AF.sl .e d (some w.heap.size) _ _ 1 (AA _ _ _) (fun _=>rfl) (fun h=>by cases h) (by simp)
theorem Lv (hg:Good P D) {g:XG} {o:Oper} {st:St} (ha:Al g st.s) {ts td e:TypeId} {ox:Operand} {s:ByteArray} (hop:o.op=.convert ts td ox) (hd':D.Ad td=some (.slice e)) (hx:ev AV st.t ox=(X.s s).enc):BI P o st (Jc D g o.dst ts e s):=by
 unfold Jc
 split
 · rename_i d hd
   split
   · rename_i hn
     refine AD (fun hc=>?_) (fun _=>trivial)
     simp only [Bool.and_eq_true] at hc
     intro hq
     exact Qu hg hop (BX hc.1) hd' (FA hc.2) (ha.no d hn) hx (of_decide_eq_true hq)
   · trivial
 · trivial
theorem AL.Wo {B:BH} {w:World} {F:Nat->Prop} {loc:Nat->Option Loc} {s:AB} (hS:AL AV B w F loc s) {o e sz g cap off:Nat} (he1:e < 1000000) {rows new:List (List T)} {cells news:List Value} {cur:Array Value}
   (hlo:loc o=some (.arr (some g) rows.length cap sz)) (hz:0 < sz) (hszz:∀ r ∈ rows,r.length=sz) (hg:w.heap[g]? = some (.cells cur e (0,0))) (hnc:rows.length<=cap) (hcm:cap<=maxLen) (hcs:cur.size=cap * sz)
   (htk:cur.toList.take (rows.length * sz)=cells) (h1c:∀ u ∈ cells,u.oneCell' = true) (hrr:∀ (i:Nat) (r:List T),rows[i]? = some r->∀ (j:Nat) (x:T),r[j]? = some x->∃ v,cells[i * sz+j]? = some v/\BJ w F x v)
   (hoff:off+new.length<=rows.length) (hnl:∀ r ∈ new,r.length=sz) (hl:news.length=new.length * sz) (h1:∀ u ∈ news,u.oneCell' = true)
   (hnr:∀ (i:Nat) (r:List T),new[i]? = some r->∀ (j:Nat) (x:T),r[j]? = some x->∃ v,news[i * sz+j]? = some v/\BJ w F x v) :
   AL AV B (w.setRow g (cur.toList.take (off * sz) ++ news ++ cur.toList.drop (off * sz+news.length)).toArray) F loc (Ak s o (some (some (.ar e sz (rows.take off ++ new ++ rows.drop (off+new.length)))))) /\
     Kept w F (w.setRow g (cur.toList.take (off * sz) ++ news ++ cur.toList.drop (off * sz+news.length)).toArray) F:=by
 have hcap:rows.length * sz<=cur.size:=by rw [hcs]; exact Nat.mul_le_mul_right _ hnc
 have hin:off * sz+news.length<=rows.length * sz:=by rw [hl,<- Nat.add_mul]; exact Nat.mul_le_mul_right _ hoff
 have hlens:(rows.take off ++ new ++ rows.drop (off+new.length)).length=rows.length:=by simp; omega
 have hfull:(cur.toList.take (off * sz) ++ news ++ cur.toList.drop (off * sz+news.length)).length=cur.size:=by simp; omega
 have hnew:∀ k,k < rows.length * sz->(cur.toList.take (off * sz) ++ news ++ cur.toList.drop (off * sz+news.length))[k]? = if off * sz<=k/\k < off * sz+news.length then news[k - off * sz]? else cells[k]? := by
   intro k hk
   have ht2:(cur.toList.take (off * sz)).length=off * sz:=by rw [List.length_take]; simp; omega
   have hck:cells[k]? = cur.toList[k]? := by rw [<- htk,List.getElem?_take,if_pos hk]
   rw [List.append_assoc,List.getElem?_append,ht2]
   by_cases c1:k < off * sz
   · rw [if_pos c1,if_neg (by omega),List.getElem?_take,if_pos c1,hck]
   · rw [if_neg c1,List.getElem?_append]
     by_cases c2:k < off * sz+news.length
     · rw [if_pos (by omega),if_pos (by omega)]
     · rw [if_neg (by omega),if_neg (by omega),List.getElem?_drop,hck]; congr 1; omega
 have hk:Kept w F (w.setRow g (cur.toList.take (off * sz) ++ news ++ cur.toList.drop (off * sz+news.length)).toArray) F:=fun k hF=>⟨hF,setRow_other w g k _ (fun e=>(hS.own o _ g hlo rfl).2.1 (e ▸ hF))⟩
 refine hS.turn hlo rfl Cn.1 rfl rfl rfl Cn.2 ?_ (fun m h=>by
   obtain ⟨l,h1,h2⟩:=hS.Cy o _ h
   rw [hlo] at h1
   cases h1; cases h2)
 rw [<- hlens]
 have hrl2:∀ r ∈ rows.take off ++ new ++ rows.drop (off+new.length),r.length=sz:=by
   intro r hr
   rcases List.mem_append.1 hr with h | h
   · rcases List.mem_append.1 h with h | h
     · exact hszz r (List.mem_of_mem_take h)
     · exact hnl r h
   · exact hszz r (List.mem_of_mem_drop h)
 refine .ar e sz _ (some g) cap ((cur.toList.take (off * sz) ++ news ++ cur.toList.drop (off * sz+news.length)).take (rows.length * sz)) hz hrl2 ?_ ?_ ?_
 · rw [hlens]
   exact Bj ⟨by rw [List.length_take,hfull]; omega,.inr ⟨g,cap,_,rfl,Nat.zero_le _,setRow_heap w g cur _ e (0,0) hg,hnc,hcm,by simpa [hcs] using hfull,rfl⟩⟩ he1
 · intro u hu
   obtain ⟨k,hk'⟩:=List.getElem?_of_mem hu
   rw [List.getElem?_take] at hk'
   split at hk'
   · rename_i hlt
     rw [hnew k hlt] at hk'
     split at hk'
     · exact h1 u (List.mem_of_getElem? hk')
     · exact h1c u (List.mem_of_getElem? hk')
   · cases hk'
 · intro i r hi j x hj
   have hil:i < rows.length:=by have:=(List.getElem?_eq_some_iff.1 hi).1; omega
   have hjl:j < sz:=by have:=(List.getElem?_eq_some_iff.1 hj).1; have:=Bh hrl2 hi; omega
   have key:=DR hil hjl
   rw [List.getElem?_take,if_pos key,hnew _ key]
   have ht1:(rows.take off).length=off:=by rw [List.length_take]; omega
   rw [List.append_assoc,List.getElem?_append,ht1] at hi
   split at hi
   · rename_i hlt
     have h2:=DR hlt hjl
     rw [if_neg (by omega)]
     rw [List.getElem?_take,if_pos hlt] at hi
     obtain ⟨u,hu,hrel⟩:=hrr i r hi j x hj
     exact ⟨u,hu,hrel.mono hk⟩
   · rename_i hge
     rw [List.getElem?_append] at hi
     have h3:off * sz<=i * sz:=Nat.mul_le_mul_right _ (by omega)
     split at hi
     · rename_i hlt
       have h2:=DR hlt hjl
       rw [Nat.sub_mul] at h2
       rw [if_pos (by rw [hl]; omega)]
       obtain ⟨u,hu,hrel⟩:=hnr _ r hi j x hj
       refine ⟨u,?_,hrel.mono hk⟩
       rw [<- hu,Nat.sub_mul]
       congr 1
       omega
     · rename_i hge2
       have h4:(off+new.length) * sz<=i * sz:=Nat.mul_le_mul_right _ (by omega)
       rw [Nat.add_mul] at h4
       rw [if_neg (by rw [hl]; omega)]
       rw [List.getElem?_drop,show off+new.length+(i - off - new.length)=i by omega] at hi
       obtain ⟨u,hu,hrel⟩:=hrr i r hi j x hj
       exact ⟨u,hu,hrel.mono hk⟩
omit [Mo] in
theorem Ng {z:Array Value}{n i j:Nat}(hj:j < z.size)(hi:i < n):(Builtin.zeroCells z n).toList[i * z.size+j]? = z[j]? := by
 have h1:=DR hi hj
 have h2:=LX (i:=i) hj
 unfold Builtin.zeroCells
 rw [Array.getElem?_toList,Array.getElem?_map,Array.getElem?_range,if_pos h1,Option.map_some,h2.2,getElem!_pos z j hj,Array.getElem?_eq_getElem hj]
omit [Mo] in
theorem MF {ρ:Operand->Value}{o:Oper}{x:Operand}{ts:Array TypeId}{z:Value}{w w':World}(ho:o.op=.call ⟨.builtin .clear,#[x],ts⟩)(h:(Builtin.clear_ ts o.type #[ρ x]).run P w=.ok z w'):(execOp ρ o).run P w=.ok (.value z) w':=by
 simp [execOp,ho,resolve,invoke,builtin,h]
omit [Mo] in
theorem Jd {w:World}{F:Nat->Prop}{loc:Nat->Option Loc}:AF w F loc vU (.tuple #[]):=.tp [] [] (fun _=>.nilIface) rfl (fun j hj=>absurd hj (by simp)) (fun j x hj=>by simp at hj)
theorem RL (hg:Good P D) {o:Oper} {st:St} {x:Operand} {t e e' ob off len:Nat} {rows:List (List T)} {row:List T} (ho:o.op=.call ⟨.builtin .clear,#[x],#[t]⟩) (hu:D.Ad t=some (.slice e)) (hd:D.has e=true) (hz:Bz D e=some row)
   (he':e' < 1000000) (hob:get st.s ob=some (.ar e' (D.size e) rows)) (hx:(∃ nl,ev AV st.t x=.sl nl ob/\off=0/\len=rows.length)\/ev AV st.t x=.sw ob off len) :
   Ce P AV o st vU (Ak st.s ob (some (some (.ar e' (D.size e) (rows.take off ++ List.replicate len row ++ rows.drop (off+len)))))):=by
 intro B F loc a w hR
 have hS:=hR.s
 obtain ⟨de,hde⟩:=BT hd
 obtain ⟨z,hze,hzs,hp,hrl,hrr0⟩:=FJ (w:=w) (F:=F) hz
 obtain ⟨hu', _⟩:=hg.Ad t _ hu
 obtain ⟨_,i,hi,hsz,hbt,hzi⟩:=hg.Ad e _ hde
 obtain ⟨b,cap,cells,hl,_,hszz,hownR,h1c,hrr⟩:=hS.row hob
 have hown:=Eu hownR he'
 have hob':st.s ob=some (some (.ar e' (D.size e) rows)):=get_some hob
 have hv:∃ ad c,a.eval x=.slice ad len c/\off+len<=rows.length/\(0 < len->∃ g,b=some g/\ad=some ⟨g,off * D.size e,none⟩):=by
   have hr:=Af hR x
   rcases hx with ⟨nl,hx,rfl,rfl⟩ | hx
   · rw [hx] at hr
     obtain ⟨h1,_,_,h4⟩:=Cc hr hl
     refine ⟨_,_,h1,by omega,fun h=>?_⟩
     cases b with
     | none=>have:=(h4 rfl).1; omega
     | some g=>exact ⟨g,rfl,by simp⟩
   · rw [hx] at hr
     obtain ⟨ad,h1,h2,h3,_,_⟩:=FV hr hl
     exact ⟨ad,_,h1,h2,h3⟩
 obtain ⟨ad,c,hv,hle,hpos⟩:=hv
 cases len with
 | zero =>
   have e0:rows.take off ++ List.replicate 0 row ++ rows.drop (off+0)=rows:=by simp
   have e1:Ak st.s ob (some (some (.ar e' (D.size e) rows)))=st.s:=by
     funext k
     by_cases hk:k=ob
     · subst hk; rw [AA,hob']
     · rw [AH _ _ hk]
   rw [e0,e1]
   refine ⟨F,loc,w,.tuple #[],_,MF ho ?_,.inl rfl,hS,Kept.refl _ _,Az.refl _,Jd⟩
   rw [hv]
   cases ad <;> simp [Builtin.clear_,run_underlying hu']
 | succ n =>
   obtain ⟨g,rfl,rfl⟩:=hpos (by omega)
   obtain ⟨cur,hgc,hnc,hcm,hcs,htk⟩:∃ cur,w.heap[g]? = some (.cells cur e' (0,0))/\rows.length<=cap/\cap<=maxLen/\cur.size=cap * D.size e/\cur.toList.take (rows.length * D.size e)=cells:=by
     rcases hown.2 with ⟨h,_⟩ | ⟨g', cap', cur,hv,_,h2,h3,h4,h5,h6⟩
     · cases h
     · cases hv; exact ⟨cur,h2,h3,h4,h5,h6⟩
   have hnews:(Builtin.zeroCells z.cells (n+1)).toList.length=(n+1) * D.size e:=by rw [Array.length_toList,size_zeroCells,hzs]
   have hget:∀ i j,i < n+1->j < D.size e->(Builtin.zeroCells z.cells (n+1)).toList[i * D.size e+j]? = z.cells[j]? := fun i j hi hj=>by
     have:=Ng (z:=z.cells) (n:=n+1) (i:=i) (j:=j) (by omega) hi
     rwa [hzs] at this
   have hone:∀ u ∈ (Builtin.zeroCells z.cells (n+1)).toList,u.oneCell' = true:=by
     intro u hu
     obtain ⟨q,hq⟩:=List.getElem?_of_mem hu
     have hql:=(List.getElem?_eq_some_iff.1 hq).1
     rw [hnews] at hql
     have hi':q / D.size e < n+1:=(Nat.div_lt_iff_lt_mul hp).2 hql
     have hj':q % D.size e < D.size e:=Nat.mod_lt _ hp
     have:=hget _ _ hi' hj'
     rw [Nat.mul_comm,Nat.div_add_mod,hq] at this
     obtain ⟨v,hv1,hv2,_⟩:=hrr0 (q % D.size e) row[q % D.size e] (List.getElem?_eq_getElem (by omega))
     rw [hv1] at this
     cases this
     exact hv2
   have hfit:off * D.size e+(Builtin.zeroCells z.cells (n+1)).toList.length<=cur.size:=by
     rw [hnews,<- Nat.add_mul,hcs]
     exact Nat.mul_le_mul_right _ (by omega)
   have hst:=run_storeCells_at P g (off * D.size e) e' (Builtin.zeroCells z.cells (n+1)).toList 0 cur w hgc (by simpa using hfit) hone
   simp only [Nat.add_zero] at hst
   obtain ⟨h1,hk⟩:=hS.Wo (o:=ob) (e:=e') (new:=List.replicate (n+1) row) (off:=off) he' hl hp hszz hgc hnc hcm hcs htk h1c hrr (by rw [List.length_replicate]; exact hle) (fun r hr=>by rw [(List.mem_replicate.1 hr).2]; exact hrl) (by rw [hnews,List.length_replicate]) hone
     (fun i r hi j x hj=>by
       obtain ⟨hi1,hi2⟩:=List.getElem?_eq_some_iff.1 hi
       rw [List.getElem_replicate] at hi2
       subst hi2
       rw [List.length_replicate] at hi1
       obtain ⟨v,hv1,_,hv3⟩:=hrr0 j x hj
       exact ⟨v,by rw [hget i j hi1 (by have:=(List.getElem?_eq_some_iff.1 hj).1; omega)]; exact hv1,hv3⟩)
   rw [List.length_replicate] at h1
   refine ⟨F,loc,_,.tuple #[],_,MF ho ?_,.inl rfl,h1,hk,Az.refl _,Jd⟩
   rw [hv]
   have hzv:(zeroValue e).run P w=.ok z w:=by simp [zeroValue,typeInfo,hi,hzi.trans hze]
   simp [Builtin.clear_,run_underlying hu', hzv,hst]
def TZ (D:Au) (g:XG) (t:TypeId) (x:X):Out :=
 match CJ (D.Ad t) with
 | some e=>match D.zero e with
   | some z=>match x with
     | .sl _ o=>match gx g o with
       | some (.ar e' r xs)=>match r.BD (z.cells.toList.map CA) with
         | some a=>cond (D.has e && (Bz D e).isSome && Nat.beq r.len (D.size e) && Nat.blt e' 1000000) (.ok (.tp []) [(o,some (.ar e' r (List.replicate xs.length a)))]) .bad
         | none=>.bad
       | _=>.bad
     | .sw o off len=>match gx g o with
       | some (.ar e' r xs)=>match r.BD (z.cells.toList.map CA) with
         | some a=>cond (D.has e && (Bz D e).isSome && Nat.beq r.len (D.size e) && Nat.blt e' 1000000) (.ok (.tp []) [(o,some (.ar e' r (xs.take off ++ List.replicate len a ++ xs.drop (off+len))))]) .bad
         | none=>.bad
       | _=>.bad
     | _=>.bad
   | none=>.bad
 | none=>.bad
omit [Mo] in
theorem Oe {e:Nat} {z:Value} {row:List T} {r:Row} {a:r.den} (hz:D.zero e=some z) (hrow:Bz D e=some row) (hra:r.BD (z.cells.toList.map CA)=some a):BQ row (r.en a):=by
 obtain ⟨ts,hts,hw⟩:=r.Ba _ a hra
 unfold Bz at hrow
 rw [hz] at hrow
 simp only at hrow
 split at hrow
 · rename_i hb
   cases hrow
   simp only [Bool.and_eq_true] at hb
   have hpl:z.cells.toList.all plain=true:=by simpa using hb.1.1
   have h5:(z.cells.toList.map CA).map X.enc=(z.cells.toList.map T.sc).map V.t:=by
     have:=Cv hpl
     unfold Fb at this
     rw [if_pos hpl] at this
     simp only [Option.some.injEq] at this
     rw [<- this,List.map_map]; rfl
   rw [h5,Ef] at hts
   cases hts; exact hw
 · cases hrow
theorem TD (hg : Good P D) {g:XG} {o:Oper} {st:St} (ha:Al g st.s) {t:TypeId} {ox:Operand} {x:X} (hop:o.op=.call ⟨.builtin .clear,#[ox],#[t]⟩) (hx:ev AV st.t ox=x.enc):BI P o st (TZ D g t x):=by
 unfold TZ
 have hu:∀ (n:Nat) (y z:Option (Option O)),Ak (Ak st.s n y) n z=Ak st.s n z:=by
   intro n y z; funext m; by_cases hm:m=n
   · subst hm; simp [AA]
   · simp [AH _ _ hm]
 split
 · rename_i e he
   split
   · rename_i z hz
     split
     · rename_i nl ob
       split
       · rename_i e' r xs hgo
         split
         · rename_i a hra
           refine AD (fun hc=>?_) (fun _=>trivial)
           simp only [Bool.and_eq_true] at hc
           obtain ⟨⟨⟨h1,h2⟩,h3⟩,h4⟩:=hc
           have h4':e' < 1000000:=by simpa using h4
           obtain ⟨row,hrow⟩:=Option.isSome_iff_exists.1 h2
           have hlen:r.len=D.size e:=Nat.eq_of_beq_eq_true h3
           have hob:get st.s ob=some (.ar e' (D.size e) (xs.map r.en)):=by rw [<- hlen]; exact ha.get hgo
           have:=RL (off:=0) (len:=(xs.map r.en).length) hg hop (Ap he) h1 hrow h4' hob (.inl ⟨nl,hx,rfl,rfl⟩)
           have:=this.FL (n:=ob) (rows':=(List.replicate xs.length a).map r.en) (AA _ _ _) (by simp) (fun i r' hi=>by
             rw [List.map_replicate] at hi
             obtain ⟨hi1,hi2⟩:=List.getElem?_eq_some_iff.1 hi
             rw [List.getElem_replicate] at hi2
             refine ⟨row,?_,hi2 ▸ Oe hz hrow hra⟩
             rw [List.take_zero,List.nil_append,Nat.zero_add,List.drop_length,List.append_nil,List.getElem?_replicate,if_pos (by simpa using hi1)])
           rw [hu,<- hlen] at this
           exact this
         · trivial
       · trivial
     · rename_i ob off len
       split
       · rename_i e' r xs hgo
         split
         · rename_i a hra
           refine AD (fun hc=>?_) (fun _=>trivial)
           simp only [Bool.and_eq_true] at hc
           obtain ⟨⟨⟨h1,h2⟩,h3⟩,h4⟩:=hc
           have h4':e' < 1000000:=by simpa using h4
           obtain ⟨row,hrow⟩:=Option.isSome_iff_exists.1 h2
           have hlen:r.len=D.size e:=Nat.eq_of_beq_eq_true h3
           have hob:get st.s ob=some (.ar e' (D.size e) (xs.map r.en)):=by rw [<- hlen]; exact ha.get hgo
           have:=RL (off:=off) (len:=len) hg hop (Ap he) h1 hrow h4' hob (.inr hx)
           have:=this.FL (n:=ob) (rows':=(xs.take off ++ List.replicate len a ++ xs.drop (off+len)).map r.en) (AA _ _ _) (by simp) (fun i r' hi=>by
             rw [List.map_append,List.map_append,List.map_take,List.map_drop,List.map_replicate] at hi
             rw [List.append_assoc,List.getElem?_append] at hi ⊢
             split at hi
             · rename_i hlt
               rw [if_pos hlt]
               exact ⟨r', hi,BQ.refl _⟩
             · rename_i hge
               rw [if_neg hge]
               rw [List.getElem?_append] at hi ⊢
               rw [List.length_replicate] at hi ⊢
               split at hi
               · rename_i hlt
                 rw [if_pos hlt]
                 rw [List.getElem?_replicate,if_pos hlt] at hi ⊢
                 cases hi
                 exact ⟨row,rfl,Oe hz hrow hra⟩
               · rename_i hge2
                 rw [if_neg hge2]
                 exact ⟨r', hi,BQ.refl _⟩)
           rw [hu,<- hlen] at this
           exact this
         · trivial
       · trivial
     · trivial
   · trivial
 · trivial
def ZD (q:Bool)(a b:X):X :=
 match a,b with
 | .b p,.b r=>.b (cond q p r)
 | a,b=>cond q a b
omit [Mo] in
theorem WX (q:Bool)(a b:X):(ZD q a b).enc=cond q a.enc b.enc:=by
 unfold ZD
 split
 · cases q <;> rfl
 · cases q <;> rfl
def YN (D:Au) (g:XG) (op:BinOp) (t:TypeId) (x y:X):Out :=
 cond (DN y && (CJ (D.Ad t)).isSome) (match op with
   | .eql=>(match x with
     | .fz .u _ xs=>.Ku xs.isEmpty (.b true) (.b false)
     | .sl .u o=>(match gx g o with | some (.ar _ _ xs)=>.Ku xs.isEmpty (.b true) (.b false) | _=>.bad)
     | .sw o _ len=>cond (Pf (gx g o)) (.Ku (Nat.beq len 0) (.b true) (.b false)) .bad
     | _=>.bad)
   | .neq=>(match x with
     | .fz .u _ xs=>.Ku xs.isEmpty (.b false) (.b true)
     | .sl .u o=>(match gx g o with | some (.ar _ _ xs)=>.Ku xs.isEmpty (.b false) (.b true) | _=>.bad)
     | .sw o _ len=>cond (Pf (gx g o)) (.Ku (Nat.beq len 0) (.b false) (.b true)) .bad
     | _=>.bad)
   | _=>.bad) .bad
omit [Mo] in
theorem YP {t e:TypeId}{w:World}{ox oy:Operand}{ad:Option Addr}{len cap:Nat}(hu:P.underlying t=some (.slice e)) :
   ((do eqGuard .neq t ox oy (.slice ad len cap) (.slice none 0 0); binOp .neq t (.slice ad len cap) (.slice none 0 0):Sem Value)).run P w=.ok (.bool (!isNil (.slice ad len cap))) w:=by
 have:=JG (w:=w) (P:=P) (t:=t) (x:=.slice ad len cap) (c:=.slice none 0 0) hu rfl
 have hgd:(eqGuard .neq t ox oy (.slice ad len cap) (.slice none 0 0)).run P w=.ok () w:=EO (by simp) (by simp)
 rw [Sem.run_bind,hgd]
 simp only [Result.andThen_ok,binOp]
 rw [Sem.run_bind,this]; rfl
theorem Gh (hg:Good P D) {o:Oper} {st:St} {op:BinOp} {t q:TypeId} {ox oy:Operand} {x:V} {c p:Bool} (hop:o.op=.binOp op t ox oy q) (hp:(op=.eql/\p=true)\/(op=.neq/\p=false)) (hs:(CJ (D.Ad t)).isSome=true)
   (hx:ev AV st.t ox=x) (hy:ev AV st.t oy=.t (.sc (.slice none 0 0)))
   (hsem:∀ (B:BH) (F:Nat->Prop) (loc:Nat->Option Loc) (w:World) (tmps:Array Value),Rel AV B F loc st tmps w->∀ v,AF w F loc x v->(∃ a n k,v=.slice a n k)/\(isNil v=true->c=true)):qt P o st c (vB p) (vB !p):=by
 intro B F loc a w hR
 obtain ⟨e,he⟩:=Option.isSome_iff_exists.1 hs
 have hu:=(hg.Ad t _ (Ap he)).1
 have hvx:=Af hR ox
 have hvy:=Af hR oy
 rw [hx] at hvx
 rw [hy] at hvy
 obtain ⟨⟨ad,n,k,hv⟩,hn⟩:=hsem B F loc w _ hR _ hvx
 have hv2:=AU hvy
 have hb:∀ b,AF w F loc (vB b) (.bool b):=fun b=>.t _ _ (.sc _ rfl)
 rcases hp with ⟨rfl,rfl⟩ | ⟨rfl,rfl⟩
 · refine ⟨.bool (isNil (.slice ad n k)),?_,?_⟩
   · simp only [execOp,hop]
     rw [hv,hv2]
     have h:=bR (w:=w) (ox:=ox) (oy:=oy) (ad:=ad) (len:=n) (cap:=k) hu
     rw [Sem.run_bind,h]
     rfl
   · cases hnil:isNil (.slice ad n k) with
     | true=>exact .inl ⟨hn (by rw [hv]; exact hnil),hb _⟩
     | false=>exact .inr (hb _)
 · refine ⟨.bool (!isNil (.slice ad n k)),?_,?_⟩
   · simp only [execOp,hop]
     rw [hv,hv2]
     have h:=YP (w:=w) (ox:=ox) (oy:=oy) (ad:=ad) (len:=n) (cap:=k) hu
     rw [Sem.run_bind,h]
     rfl
   · cases hnil:isNil (.slice ad n k) with
     | true=>exact .inl ⟨hn (by rw [hv]; exact hnil),hb _⟩
     | false=>exact .inr (hb _)
theorem Uj (hg:Good P D) {g:XG} {o:Oper} {st:St} (ha:Al g st.s) {op:BinOp} {t q:TypeId} {ox oy:Operand} {x y:X} (hop:o.op=.binOp op t ox oy q) (hx:ev AV st.t ox=x.enc) (hy:ev AV st.t oy=y.enc) :
   BI P o st (YN D g op t x y):=by
 unfold YN
 refine AD (fun hc=>?_) (fun _=>trivial)
 simp only [Bool.and_eq_true] at hc
 obtain rfl:=DL hc.1
 have hy':ev AV st.t oy=.t (.sc (.slice none 0 0)):=by rw [hy]; simp [X.enc,plain]
 have fz:∀ {r:Row} {xs:List r.den},∀ (B:BH) (F:Nat->Prop) (loc:Nat->Option Loc) (w:World) (tmps:Array Value),Rel AV B F loc st tmps w->∀ v,AF w F loc (X.enc (.fz .u r xs)) v->(∃ a n k,v=.slice a n k)/\(isNil v=true->xs.isEmpty=true):=by
   intro r xs B F loc w tmps _ v hv
   cases hv with
   | gone _ o _ hx _=>cases hx
   | t _ _ h =>
     obtain ⟨h1,_,_,h4⟩:=EM h
     refine ⟨h1,fun hn=>?_⟩
     cases xs with
     | nil=>rfl
     | cons x xs=>rw [h4 (by simp)] at hn; cases hn
 have sl:∀ {n:Nat} {e:TypeId} {r:Row} {xs:List r.den},gx g n=some (.ar e r xs)->∀ (B:BH) (F:Nat->Prop) (loc:Nat->Option Loc) (w:World) (tmps:Array Value),Rel AV B F loc st tmps w->∀ v,AF w F loc (X.enc (.sl .u n)) v->(∃ a n k,v=.slice a n k)/\(isNil v=true->xs.isEmpty=true):=by
   intro n e r xs hgx B F loc w tmps hR v hv
   obtain ⟨b,cap,cells,hl,_⟩:=hR.s.row (ha.get hgx)
   obtain ⟨rfl,_,_,h0⟩:=Cc hv hl
   refine ⟨⟨_,_,_,rfl⟩,fun hn=>?_⟩
   cases b with
   | none=>have:=(h0 rfl).1; cases xs with | nil=>rfl | cons=>simp at this
   | some b=>cases hn
 have sw:∀ {n off len:Nat},Pf (gx g n)=true->∀ (B:BH) (F:Nat->Prop) (loc:Nat->Option Loc) (w:World) (tmps:Array Value),Rel AV B F loc st tmps w->∀ v,AF w F loc (X.enc (.sw n off len)) v->(∃ a n k,v=.slice a n k)/\(isNil v=true->Nat.beq len 0=true):=by
   intro n off len h B F loc w tmps hR v hv
   obtain ⟨e,sz,rows,hgx⟩:=Gb ha h
   obtain ⟨b,cap,cells,hl,_⟩:=hR.s.row hgx
   obtain ⟨a,rfl,hle,h1,_⟩:=FV hv hl
   refine ⟨⟨_,_,_,rfl⟩,fun hn=>?_⟩
   cases len with
   | zero=>rfl
   | succ m =>
     obtain ⟨gg,_,rfl⟩:=h1 (by omega)
     cases hn
 split
 · split
   · exact Gh hg hop (.inl ⟨rfl,rfl⟩) hc.2 hx hy' fz
   · split
     · rename_i hgx; exact Gh hg hop (.inl ⟨rfl,rfl⟩) hc.2 hx hy' (sl hgx)
     · trivial
   · exact AD (fun h=>Gh hg hop (.inl ⟨rfl,rfl⟩) hc.2 hx hy' (sw h)) (fun _=>trivial)
   · trivial
 · split
   · exact Gh hg hop (.inr ⟨rfl,rfl⟩) hc.2 hx hy' fz
   · split
     · rename_i hgx; exact Gh hg hop (.inr ⟨rfl,rfl⟩) hc.2 hx hy' (sl hgx)
     · trivial
   · exact AD (fun h=>Gh hg hop (.inr ⟨rfl,rfl⟩) hc.2 hx hy' (sw h)) (fun _=>trivial)
   · trivial
 · trivial
def Um (D:Au)(xs ys:List X):List Field->Option Bool
 | []=>some true
 | f :: fs=>cond (f.name == "_") none (match D.Ad f.type,xs[f.offset]?,ys[f.offset]? with
   | some (.int _),some (.i k a),some (.i k' b)=>if k=k' then (match Um D xs ys fs with | some q=>some ((a == b) && q) | none=>none) else none
   | some .bool,some (.b a),some (.b b)=>(match Um D xs ys fs with | some q=>some ((a == b) && q) | none=>none)
   | some .string,some (.s a),some (.s b)=>(match Um D xs ys fs with | some q=>some ((a.toList == b.toList) && q) | none=>none)
   | _,_,_=>none)
def Zi:X->Bool | .ag _=>true | _=>false
def jA (D:Au)(op:BinOp)(t:TypeId)(x y:X):Out :=
 match D.Ad t,x,y with
 | some (.struct fs),.ag xs,.ag ys=>cond (D.peq t) (match op,Um D xs ys fs.toList with
   | .eql,some q=>okB q
   | .neq,some q=>okB (!q)
   | _,_=>.bad) .bad
 | _,_,_=>.bad
omit [Mo] in
theorem EY {w:World}{n:Nat}{xs ys:Array Value}{f:Field}{fs:List Field}{a b:Value}{c q:Bool}(hn:¬ f.name = "_")(ha:(part f.type xs f.offset).run P w=.ok a w)(hb:(part f.type ys f.offset).run P w=.ok b w)
   (hc:(Op.equalIn n f.type a b).run P w=.ok c w) (hq:(Op.eqFields n xs ys fs).run P w=.ok q w):(Op.eqFields n xs ys (f :: fs)).run P w=.ok (c && q) w:=by
 rw [Op.eqFields,if_pos hn]
 simp only [Sem.run_bind,ha,hb,hc,Result.andThen_ok]
 cases c
 · simp
 · simp [hq]
omit [Mo] in
theorem IH (hg:Good P D) {w:World} {F:Nat->Prop} {loc:Nat->Option Loc} {n:Nat} {xs ys:List X} {vs ws:List Value} {val wal:Nat->Value}
   (hl:(xs.map X.enc).length=vs.length) (hv:∀ j,j < (xs.map X.enc).length->vs[j]? = some (val j)) (hr:∀ (j:Nat) (x:V),(xs.map X.enc)[j]? = some x->AF w F loc x (val j))
   (hl':(ys.map X.enc).length=ws.length) (hv':∀ j,j < (ys.map X.enc).length->ws[j]? = some (wal j)) (hr':∀ (j:Nat) (x:V),(ys.map X.enc)[j]? = some x->AF w F loc x (wal j)) :
   ∀ (fs:List Field) (q:Bool),Um D xs ys fs=some q->(Op.eqFields (n+1) vs.toArray ws.toArray fs).run P w=.ok q w
 | [],q,h=>by cases h; rfl
 | f :: fs,q,h=>by
   unfold Um at h
   cases hn:(f.name == "_") with
   | true=>rw [hn] at h; cases h
   | false =>
     rw [hn] at h
     simp only [cond_false] at h
     have hn':¬ f.name = "_" := by simpa using hn
     have go:∀ {d:TypeDesc} {x y:X} {v u:Value},D.Ad f.type=some d->d.isRow=false->xs[f.offset]? = some x->ys[f.offset]? = some y->x.enc=.t (.sc v)->y.enc=.t (.sc u) ->
         (part f.type vs.toArray f.offset).run P w=.ok v w/\(part f.type ws.toArray f.offset).run P w=.ok u w:=by
       intro d x y v u hu hd hx hy ex ey
       constructor
       · obtain ⟨z,hz,hr2⟩:=Ih (F:=F) (loc:=loc) hg (t:=f.type) (cells:=xs.map X.enc) (off:=f.offset) (v:=x.enc) (by simp [Ev,hu,hd,hx]) hl hv hr
         rw [ex] at hr2; rw [AU hr2] at hz; exact hz
       · obtain ⟨z,hz,hr2⟩:=Ih (F:=F) (loc:=loc) hg (t:=f.type) (cells:=ys.map X.enc) (off:=f.offset) (v:=y.enc) (by simp [Ev,hu,hd,hy]) hl' hv' hr'
         rw [ey] at hr2; rw [AU hr2] at hz; exact hz
     split at h
     · rename_i k0 k a k' b hu hx hy
       split at h
       · rename_i hk
         subst hk
         split at h
         · rename_i q' hq
           cases h
           obtain ⟨h1,h2⟩:=go hu rfl hx hy rfl rfl
           exact EY hn' h1 h2 (run_equalIn_int w n f.type k k0 a b (hg.Ad _ _ hu).1) (IH hg hl hv hr hl' hv' hr' fs q' hq)
         · cases h
       · cases h
     · rename_i a b hu hx hy
       split at h
       · rename_i q' hq
         cases h
         obtain ⟨h1,h2⟩:=go hu rfl hx hy rfl rfl
         exact EY hn' h1 h2 (Ip n (hg.Ad _ _ hu).1) (IH hg hl hv hr hl' hv' hr' fs q' hq)
       · cases h
     · rename_i a b hu hx hy
       split at h
       · rename_i q' hq
         cases h
         obtain ⟨h1,h2⟩:=go hu rfl hx hy rfl rfl
         exact EY hn' h1 h2 (run_equalIn_string w n f.type a b (hg.Ad _ _ hu).1) (IH hg hl hv hr hl' hv' hr' fs q' hq)
       · cases h
     · cases h
omit [Mo] in
theorem SB (hg:Good P D){w:World}{F:Nat->Prop}{loc:Nat->Option Loc}{t:TypeId}{ox oy:Operand}{xs ys:List X}{fs:Array Field}{a b:Value}{q:Bool}(hu:D.Ad t=some (.struct fs))(hp:D.peq t=true)(hq:Um D xs ys fs.toList=some q)
   (ha:AF w F loc (X.enc (.ag xs)) a) (hb:AF w F loc (X.enc (.ag ys)) b) :
   ((do eqGuard .eql t ox oy a b; binOp .eql t a b:Sem Value)).run P w=.ok (.bool q) w/\((do eqGuard .neq t ox oy a b; binOp .neq t a b:Sem Value)).run P w=.ok (.bool !q) w:=by
 rw [X.enc,Ac] at ha hb
 obtain ⟨vs,val,rfl,hl,hv,hr⟩:=Ga ha
 obtain ⟨ws,wal,rfl,hl', hv', hr'⟩:=Ga hb
 obtain ⟨h1,h2⟩:=hg.peq t hp
 have hu':=(hg.Ad t _ hu).1
 have hf:P.fieldsOf t=fs:=by simp [Program.fieldsOf,hu']
 have he:=run_equalIn_agg w 9999 t vs.toArray ws.toArray (by rw [hf]; exact hu') h1
 rw [hf,IH (n:=9998) hg hl hv hr hl' hv' hr' _ _ hq] at he
 constructor
 · rw [Sem.run_bind,run_eqGuard_agg w .eql t ox oy _ _ h2]
   simp only [Result.andThen_ok]
   rw [run_eql_struct,he]; rfl
 · rw [Sem.run_bind,run_eqGuard_agg w .neq t ox oy _ _ h2]
   simp only [Result.andThen_ok]
   rw [run_neq_struct,he]; rfl
theorem Wm (hg:Good P D) {o:Oper} {st:St} {op:BinOp} {t q:TypeId} {ox oy:Operand} {x y:X} (hop:o.op=.binOp op t ox oy q) (hx:ev AV st.t ox=x.enc) (hy:ev AV st.t oy=y.enc) :
   BI P o st (jA D op t x y):=by
 unfold jA
 split
 · rename_i fs xs ys hu
   refine AD (fun hp=>?_) (fun _=>trivial)
   split
   · rename_i r hq
     refine Ce.pure fun B F loc a w hR=>?_
     have hvx:=Af hR ox
     have hvy:=Af hR oy
     rw [hx] at hvx
     rw [hy] at hvy
     refine ⟨.bool r,?_,.t _ _ (.sc _ rfl)⟩
     simp only [execOp,hop]
     rw [Sem.run_bind,(SB hg hu hp hq hvx hvy).1]; rfl
   · rename_i r hq
     refine Ce.pure fun B F loc a w hR=>?_
     have hvx:=Af hR ox
     have hvy:=Af hR oy
     rw [hx] at hvx
     rw [hy] at hvy
     refine ⟨.bool !r,?_,.t _ _ (.sc _ rfl)⟩
     simp only [execOp,hop]
     rw [Sem.run_bind,(SB hg hu hp hq hvx hvy).2]; rfl
   · trivial
 · trivial
def ZI:(kt:Nc)->X->Option kt.den
 | .s,.s b=>some b
 | .i k,.i k' n=>if k' = k then some n else none
 | _,_=>none
omit [Mo] in
theorem Mn {kt:Nc}{x:X}{k:kt.den}(h:ZI kt x=some k):x.enc=.t (.sc (kt.val k)):=by
 unfold ZI at h
 split at h
 · cases h; rfl
 · split at h
   · rename_i e; cases h; subst e; rfl
   · cases h
 · cases h
omit [Mo] in
theorem UP:∀ (kt:Nc) (k:kt.den),Go.MapKept.IsKey kt.desc (kt.val k)
 | .s,_=>trivial
 | .i _,_=>rfl
omit [Mo] in
theorem Qk:∀ (kt:Nc) (a b:kt.den),Cm (kt.val a) (kt.val b)=kt.Cm a b
 | .s,_,_=>rfl
 | .i _,_,_=>rfl
omit [Mo] in
theorem OY:∀ (kt:Nc) (k:kt.den),plain (kt.val k)=true
 | .s,_=>rfl
 | .i _,_=>rfl
def bC:(kt:Nc)->kt.den->X
 | .s,b=>.s b
 | .i k,n=>.i k n
omit [Mo] in
theorem Sv:∀ (kt:Nc) (k:kt.den),(bC kt k).enc=.t (.sc (kt.val k))
 | .s,_=>rfl
 | .i _,_=>rfl
omit [Mo] in
theorem Vq (t:MT)(k:t.kt.den):∀ (es:List (t.kt.den × t.r.den)),Ae Cm (t.en es) (t.kt.val k)=(Ae t.kt.Cm es k).map t.r.en
 | []=>rfl
 | x :: es=>by
   have ih:=Vq t k es
   unfold MT.en at ih ⊢
   simp only [List.map_cons,Ae,Qk]
   cases t.kt.Cm x.1 k
   · exact ih
   · rfl
omit [Mo] in
theorem VY (t:MT)(k:t.kt.den)(y:t.r.den):∀ (es:List (t.kt.den × t.r.den)),t.en (CR t.kt.Cm es k y)=CR Cm (t.en es) (t.kt.val k) (t.r.en y)
 | []=>rfl
 | x :: es=>by
   have ih:=VY t k y es
   unfold MT.en at ih ⊢
   simp only [List.map_cons,CR,Qk]
   cases t.kt.Cm x.1 k
   · simp only [cond_false,List.map_cons,ih]
   · rfl
omit [Mo] in
theorem MS {α:Type}(k:Int)(v:α):∀ (es:List (Int × α)),(Ff k v es).Perm ((k,v) :: es)
 | []=>List.Perm.refl _
 | x :: l=>by
   unfold Ff
   cases decide (k < x.1) with
   | true=>exact List.Perm.refl _
   | false=>exact (List.Perm.cons x (MS k v l)).trans (List.Perm.swap _ _ _)
omit [Mo] in
theorem Oc {κ α:Type}{eq:κ->κ->Bool}{k:κ}(v:α):∀ {es:List (κ × α)},Ae eq es k=none->CR eq es k v=es ++ [(k,v)]
 | [],_=>rfl
 | x :: l,h=>by
   unfold Ae at h
   unfold CR
   cases hq:eq x.1 k with
   | true=>rw [hq] at h; cases h
   | false=>rw [hq] at h; rw [cond_false,Oc v h]; rfl
omit [Mo] in
theorem ZE:∀ (t:MT) (es:t.den) (k:t.kt.den) (y:t.r.den),(CR t.kt.Cm es k y).Perm (t.put es k y)
 | ⟨.s,_,_⟩,es,k,y=>List.Perm.refl _
 | ⟨.i _,_,_⟩,es,k,y=>by
   show (CR DQ es k y).Perm (Bb es k y)
   unfold Bb
   cases hg:Ae DQ es k with
   | some _=>exact List.Perm.refl _
   | none =>
     rw [Oc y hg]
     exact (List.perm_append_comm (l₁:=es) (l₂:=[(k,y)])).trans (MS k y es).symm
omit [Mo] in
theorem jc (t:MT)(k:t.kt.den)(y:t.r.den)(es:t.den):(CR Cm (t.en es) (t.kt.val k) (t.r.en y)).Perm (t.en (t.put es k y)):=by
 rw [<- VY t k y es]
 unfold MT.en
 exact (ZE t es k y).map _
omit [Mo] in
theorem Vw (t:MT)(k:t.kt.den):∀ (es:List (t.kt.den × t.r.den)),t.en (Ds t.kt.Cm es k)=Ds Cm (t.en es) (t.kt.val k)
 | []=>rfl
 | x :: es=>by
   have ih:=Vw t k es
   unfold MT.en at ih ⊢
   simp only [List.map_cons,Ds,Qk]
   cases t.kt.Cm x.1 k
   · simp only [cond_false,List.map_cons,ih]
   · rfl
def Nu:Option TypeDesc->Option (TypeId × TypeId) | some (.map k e)=>some (k,e) | _=>none
omit [Mo] in
theorem Ew {o:Option TypeDesc}{k e:TypeId}(h:Nu o=some (k,e)):o=some (.map k e):=by
 unfold Nu at h
 split at h
 · cases h; rfl
 · cases h
def fZ:Option TypeDesc->Option Nc | some .string=>some .s | some (.int k)=>some (.i k) | _=>none
def Xx (k:Nc)(o:Option TypeDesc):Bool:=match fZ o with | some k'=>decide (k' = k) | none=>false
omit [Mo] in
theorem Jt {k:Nc}{o:Option TypeDesc}(h:Xx k o=true):o=some k.desc:=by
 unfold Xx at h
 split at h
 · rename_i k' hk
   have:=of_decide_eq_true h
   subst this
   unfold fZ at hk
   split at hk
   · cases hk; rfl
   · cases hk; rfl
   · cases hk
 · cases h
def ak:Option TypeDesc->Bool | some d=>d.isRow | none=>false
def WL (t:MT)(a:t.r.den):X:=cond t.ag (.ag (t.r.cells a)) (match t.r.cells a with | [x]=>x | _=>.dead)
omit [Mo] in
theorem Yj {w:World}{F:Nat->Prop}{loc:Nat->Option Loc}{x:T}{v:Value}(h:AF w F loc (.t x) v):BJ w F x v:=by
 cases h with
 | gone _ o _ hx _=>cases hx
 | t _ _ h=>exact h
omit [Mo] in
theorem Ma {w:World} {F:Nat->Prop} {loc:Nat->Option Loc} {t:MT} {a:t.r.den} {v:Value} (h:Dw w F t.ag (t.r.en a) v):AF w F loc (WL t a).enc v:=by
 unfold Dw at h
 unfold WL
 have hc:=t.r.Bp a
 split at h
 · rename_i e
   rw [e]
   obtain ⟨cs,rfl,hl,hr⟩:=h
   simp only [cond_true,X.enc,Ac]
   rw [hc]
   have:=AF.ag (w:=w) (F:=F) (loc:=loc) ((t.r.en a).map V.t) cs.toList (fun j=>cs.toList.getD j undef) (by simpa using hl.symm) (fun j hj=>by
     have hj':j < cs.size:=by rw [hl]; simpa using hj
     simp [List.getD,hj']) (fun j x hj=>by
     rw [List.getElem?_map] at hj
     obtain ⟨y,hy,rfl⟩:=Option.map_eq_some_iff.1 hj
     obtain ⟨u,hu,_,hrel⟩:=hr j y hy
     have:cs.toList.getD j undef=u:=by simp [List.getD,hu]
     rw [this]
     exact .t _ _ hrel)
   simpa using this
 · rename_i e
   have e':t.ag=false:=by rwa [Bool.not_eq_true] at e
   rw [e', cond_false]
   obtain ⟨x,hx,hrel⟩:=h
   rw [hx] at hc
   cases hcs:t.r.cells a with
   | nil=>rw [hcs] at hc; simp at hc
   | cons y l =>
     cases l with
     | nil =>
       rw [hcs] at hc
       simp only [List.map_cons,List.map_nil,List.cons.injEq,and_true] at hc
       simp only []
       rw [hc]
       exact .t _ _ hrel
     | cons z l=>rw [hcs] at hc; simp at hc
theorem cd {B:BH} {w:World} {F:Nat->Prop} {loc:Nat->Option Loc} {s:AB} (hS:AL AV B w F loc s) {g:XG} (ha:Al g s) {x:X} {v:Value} {r:Row} {y:r.den} (hs:Fk g x=true) (hv:AF w F loc x.enc v) (hy:r.BD (BW x)=some y):Dw w F (Zi x) (r.en y) v:=by
 obtain ⟨h1,h2⟩:=EK ha hs
 obtain ⟨ts,hts,hw⟩:=r.Ba _ y hy
 rw [h2] at hts
 have hcs:=De hts
 cases x with
 | ag cs =>
   show Dw w F true (r.en y) v
   unfold Dw
   rw [if_pos rfl]
   obtain ⟨hl,hr⟩:=JN hS h1 hv
   obtain ⟨vs,val,rfl,_,_,_⟩:=Ga (by simpa only [X.enc] using hv)
   refine ⟨vs.toArray,rfl,?_,fun j z hj=>?_⟩
   · rw [<- hw.get.1]
     have:=congrArg List.length hcs
     rw [List.length_map] at this
     rw [<- this,hl]; rfl
   · obtain ⟨x', hx', hwk⟩:=hw.get.2 j z hj
     obtain ⟨u,hu,hone,hrel⟩:=hr j (.t x') (by rw [hcs,List.getElem?_map,hx']; rfl)
     exact ⟨u,hu,hone,hwk.rel (Yj hrel)⟩
 | _ =>
   show Dw w F false (r.en y) v
   unfold Dw
   rw [if_neg (by decide)]
   rw [<- h2] at hcs
   simp only [BW,List.map_cons,List.map_nil] at hcs
   cases ts with
   | nil=>cases hcs
   | cons t0 ts =>
     cases ts with
     | nil =>
       simp only [List.map_cons,List.map_nil,List.cons.injEq,and_true] at hcs
       rw [hcs] at hv
       generalize r.en y=l at hw ⊢
       cases hw with
       | cons _ z _ zs hwk Xk =>
         cases Xk
         exact ⟨z,rfl,hwk.rel (Yj hv)⟩
     | cons t1 ts=>simp at hcs
def Lc (D:Au)(g:XG)(rw? : Option Row)(dst:Option Nat)(t:TypeId):Out :=
 match dst,Nu (D.Ad t),rw? with
 | some d,some (kt,et),some r=>match g d,fZ (D.Ad kt) with
   | none,some K=>.ok (.mp d) [(d,some (.mp ⟨K,ak (D.Ad et),r⟩ []))]
   | _,_=>.bad
 | _,_,_=>.bad
theorem Nq {g:XG} {o:Oper} {st:St} (ha:Al g st.s) {t:TypeId} {rw? : Option Row} (hop:o.op=.makeMap t none):BI P o st (Lc D g rw? o.dst t):=by
 unfold Lc
 split
 · rename_i d kt et r hd hm
   split
   · rename_i K hn hk
     have hfree:=ha.no d hn
     intro B F loc a w hR
     refine ⟨F,Ak loc d (some (.CM w.heap.size)),w.alloc (.map #[] 0),.map (some w.heap.size),_,?_,.inl rfl,hR.s.iD hfree K.desc (ak (D.Ad et)),DC hR.s _,Az.Ak (DJ hR.s hfree),.mp _ _ (AA _ _ _)⟩
     simp only [execOp,hop]
     show ((do pure (Next.value (<- Instr.makeMap t none)):Sem Next)).run P w=_
     rw [Sem.run_bind,RE]; rfl
   · trivial
 · trivial
def HI (D:Au) (g:XG) (t:TypeId) (m k x:X):Out :=
 match m with
 | .mp o=>match gx g o with
   | some (.mp T es)=>match Nu (D.Ad t),ZI T.kt k,T.r.BD (BW x) with
     | some (kt,_),some key,some y=>cond (Xx T.kt (D.Ad kt) && Fk g x && (Zi x == T.ag)) (.ok (.tp []) [(o,some (.mp T (T.put es key y)))]) .bad
     | _,_,_=>.bad
   | _=>.bad
 | _=>.bad
theorem Kz (hg:Good P D) {g:XG} {o:Oper} {st:St} (ha:Al g st.s) {t:TypeId} {om ok ox:Operand} {m k x:X} (hop:o.op=.mapUpdate t om ok ox) (hm:ev AV st.t om=m.enc) (hk:ev AV st.t ok=k.enc) (hx:ev AV st.t ox=x.enc) :
   BI P o st (HI D g t m k x):=by
 unfold HI
 split
 · rename_i n
   split
   · rename_i T es hgx
     split
     · rename_i kt et key y hmt hkey hy
       refine AD (fun hc=>?_) (fun _=>trivial)
       simp only [Bool.and_eq_true,beq_iff_eq] at hc
       obtain ⟨⟨h1,h2⟩,h3⟩:=hc
       intro B F loc a w hR
       have hs:=ha.is _ _ (CE hgx)
       obtain ⟨l,hl,hrel⟩:=hR.s.Cy _ _ hs
       have hv:=Af hR ox
       rw [hx] at hv
       have hvk:=Af hR ok
       rw [hk,Mn hkey] at hvk
       have hvm:=Af hR om
       rw [hm] at hvm
       cases hrel with
       | mp _ _ _ b en clock vs hb hmo =>
         have hmv:=cd hR.s ha h2 hv hy
         rw [h3] at hmv
         obtain ⟨w', hrun,hS', hk'⟩:=hR.s.ic (P:=P) hl hs (hg.Ad t _ (Ew hmt)).1 (hg.Ad kt _ (Jt h1)).1 (UP T.kt key) hmv (jc T key y es)
         refine ⟨F,loc,w', undef,.skip,?_,.inr ⟨rfl,rfl⟩,hS', hk', Az.refl _,.tp [] [] (fun _=>undef) rfl (fun j hj=>by simp at hj) (fun j x hj=>by simp [CG] at hj)⟩
         have e1:=FE hvm hl
         have e2:=AU hvk
         simp only [execOp,hop]
         rw [e1,e2]
         simp [hrun]
     · trivial
   · trivial
 · trivial
def HD (D:Au) (g:XG) (t t2:TypeId) (m k:X):Out :=
 match m with
 | .mp o=>match gx g o with
   | some (.mp T es)=>match Nu (D.Ad t),ZI T.kt k with
     | some (kt,_),some key=>cond (Xx T.kt (D.Ad kt) && Nat.beq kt t2) (.ok (.tp []) [(o,some (.mp T (Ds T.kt.Cm es key)))]) .bad
     | _,_=>.bad
   | _=>.bad
 | _=>.bad
theorem Ky (hg:Good P D) {g:XG} {o:Oper} {st:St} (ha:Al g st.s) {t t2:TypeId} {om ok:Operand} {m k:X} (hop:o.op=.call ⟨.builtin .delete,#[om,ok],#[t,t2]⟩) (hm:ev AV st.t om=m.enc) (hk:ev AV st.t ok=k.enc) :
   BI P o st (HD D g t t2 m k):=by
 unfold HD
 split
 · rename_i n
   split
   · rename_i T es hgx
     split
     · rename_i kt et key hmt hkey
       refine AD (fun hc=>?_) (fun _=>trivial)
       simp only [Bool.and_eq_true] at hc
       obtain ⟨h1,h2⟩:=hc
       have e0:=Nat.eq_of_beq_eq_true h2
       subst e0
       intro B F loc a w hR
       have hs:=ha.is _ _ (CE hgx)
       obtain ⟨l,hl,hrel⟩:=hR.s.Cy _ _ hs
       have hvk:=Af hR ok
       rw [hk,Mn hkey] at hvk
       have hvm:=Af hR om
       rw [hm] at hvm
       cases hrel with
       | mp _ _ _ b en clock vs hb hmo =>
         obtain ⟨w', hrun,hS', hk'⟩:=hR.s.iV (P:=P) hl hs o.type (hg.Ad t _ (Ew hmt)).1 (hg.Ad kt _ (Jt h1)).1 (UP T.kt key)
         rw [show Ds Cm (T.en es) (T.kt.val key)=T.en (Ds T.kt.Cm es key) from (Vw T key es).symm] at hS'
         refine ⟨F,loc,w', .tuple #[],_,?_,.inl rfl,hS', hk', Az.refl _,Jd⟩
         have e1:=FE hvm hl
         have e2:=AU hvk
         simp only [execOp,hop]
         rw [<- e1,<- e2] at hrun
         simp [resolve,invoke,builtin,hrun]
     · trivial
   · trivial
 · trivial
def QE:Option XO->Option ((T:MT) × T.den)
 | some (.mp T es)=>some ⟨T,es⟩
 | some (.mq T es _ _ _)=>some ⟨T,es⟩
 | _=>none
omit [Mo] in
theorem KA {g:XG}{s:AB}(ha:Al g s){o:Nat}{T:MT}{es:T.den}(h:QE (gx g o)=some ⟨T,es⟩):mapOf (get s o)=some (T.kt.desc,T.ag,T.en es):=by
 unfold QE at h
 split at h
 · rename_i hg; cases h; rw [ha.get hg]; rfl
 · rename_i hg; cases h; rw [ha.get hg]; rfl
 · cases h
def Mq (ag:Bool):Value->Bool
 | .agg cs=>ag && cs.toList.all plain
 | v => !ag && plain v
def HS (D:Au) (g:XG) (t:TypeId) (m k:X) (c:Bool):Out :=
 match m with
 | .mp o => match QE (gx g o) with
   | some ⟨T,es⟩=>match Nu (D.Ad t),ZI T.kt k with
     | some (kt,et),some key=>match D.zero et with
       | some z=>match T.r.BD (z.cells.toList.map CA) with
         | some zr=>cond (Xx T.kt (D.Ad kt) && D.has et && Mq T.ag z)
             (.Qr (T.r.den × Bool) (some ((Ae T.kt.Cm es key).getD zr,(Ae T.kt.Cm es key).isSome)) fun a=>(cond c (.tp [WL T a.1,.b a.2]) (WL T a.1),[])) .bad
         | none=>.bad
       | none=>.bad
     | _,_=>.bad
   | none=>.bad
 | _=>.bad
omit [Mo] in
theorem WJ {w:World} {F:Nat->Prop} {ag:Bool} {r:Row} {z:Value} {zr:r.den} (h:Mq ag z=true) (hz:r.BD (z.cells.toList.map CA)=some zr):Dw w F ag (r.en zr) z:=by
 obtain ⟨ts,hts,hw⟩:=r.Ba _ zr hz
 unfold Dw
 have hpl:∀ (cs:List Value),cs.all plain=true->(cs.map CA).map X.enc=(cs.map T.sc).map V.t:=by
   intro cs hc
   rw [List.map_map,List.map_map]
   refine List.map_congr_left fun v hv=>?_
   exact IX (List.all_eq_true.1 hc v hv)
 have single:Mq ag z=true->(∀ cs,z ≠ .agg cs)->ag=false/\plain z=true/\z.cells.toList=[z]:=by
   intro h hn
   unfold Mq at h
   split at h
   · exact absurd rfl (hn _)
   · simp only [Bool.and_eq_true,Bool.not_eq_true'] at h
     refine ⟨h.1,h.2,?_⟩
     cases z <;> first | rfl | exact absurd rfl (hn _)
 by_cases hc:∃ cs,z=.agg cs
 · obtain ⟨cs,rfl⟩:=hc
   simp only [Mq,Bool.and_eq_true] at h
   rw [if_pos h.1]
   rw [show (Value.agg cs).cells=cs from rfl,hpl _ h.2,Ef] at hts
   cases hts
   refine ⟨cs,rfl,?_,fun j x hj=>?_⟩
   · rw [<- hw.get.1]; simp
   · obtain ⟨x', hx', hwk⟩:=hw.get.2 j x hj
     rw [List.getElem?_map] at hx'
     obtain ⟨u,hu,rfl⟩:=Option.map_eq_some_iff.1 hx'
     have hp:plain u=true:=List.all_eq_true.1 h.2 u (List.mem_of_getElem? hu)
     exact ⟨u,by rw [<- Array.getElem?_toList]; exact hu,GW hp,hwk.rel (.sc _ hp)⟩
 · obtain ⟨h1,h2,h3⟩:=single h fun cs e=>hc ⟨cs,e⟩
   rw [h1,if_neg (by decide)]
   rw [h3,hpl [z] (by simp [h2]),Ef] at hts
   cases hts
   generalize r.en zr=l at hw ⊢
   cases hw with
   | cons _ q _ qs hwk Xk =>
     cases Xk
     exact ⟨q,rfl,hwk.rel (.sc _ h2)⟩
theorem Ko (hg : Good P D) {g:XG} {o:Oper} {st:St} (ha:Al g st.s) {t:TypeId} {om ok:Operand} {m k:X} {c:Bool} (hop:o.op=.lookup t om ok c) (hm:ev AV st.t om=m.enc) (hk:ev AV st.t ok=k.enc) :
   BI P o st (HS D g t m k c):=by
 unfold HS
 split
 · rename_i n
   split
   · rename_i T es hgx
     split
     · rename_i kt et key hmt hkey
       split
       · rename_i z hz
         split
         · rename_i zr hzr
           refine AD (fun hc=>?_) (fun _=>trivial)
           simp only [Bool.and_eq_true] at hc
           obtain ⟨⟨h1,h2⟩,h3⟩:=hc
           obtain ⟨de,hde⟩:=BT h2
           obtain ⟨_,i,hi,hsz,hbt,hzi⟩:=hg.Ad et _ hde
           intro a0 ha0
           cases ha0
           refine Ce.pure fun B F loc a w hR=>?_
           have hvk:=Af hR ok
           rw [hk,Mn hkey] at hvk
           have hvm:=Af hR om
           rw [hm] at hvm
           obtain ⟨b,en,clock,vs,hl,hb,hmo⟩:=hR.s.ee (KA ha hgx)
           have hzv:(zeroValue et).run P w=.ok z w:=by simp [zeroValue,typeInfo,hi,hzi.trans hz]
           obtain ⟨v,hrun,hmv⟩:=hmo.look (P:=P) hb c (hg.Ad t _ (Ew hmt)).1 (hg.Ad kt _ (Jt h1)).1 hzv (WJ (F:=F) h3 hzr) (UP T.kt key)
           have e1:=FE hvm hl
           have e2:=AU hvk
           rw [show Ae Cm (T.en es) (T.kt.val key)=(Ae T.kt.Cm es key).map T.r.en from Vq T key es] at hrun hmv
           have hd:(((Ae T.kt.Cm es key).map T.r.en).getD (T.r.en zr))=T.r.en ((Ae T.kt.Cm es key).getD zr):=by cases Ae T.kt.Cm es key <;> rfl
           rw [hd] at hmv
           rw [Option.isSome_map] at hrun
           have hxv:=Ma (loc:=loc) hmv
           cases c with
           | true =>
             refine ⟨.tuple #[v,.bool (Ae T.kt.Cm es key).isSome],?_,?_⟩
             · simp only [execOp,hop]
               rw [e1,e2]
               simp [hrun]
             · refine .tp _ [v,.bool (Ae T.kt.Cm es key).isSome] (fun j=>[v,Value.bool (Ae T.kt.Cm es key).isSome].getD j undef) rfl (fun j hj=>?_) (fun j y hj=>?_)
               · match j,hj with
                 | 0,_=>rfl
                 | 1,_=>rfl
                 | j+2,hj=>exact absurd (show j+2 < 2 from hj) (by omega)
               · match j,hj with
                 | 0,hj=>cases hj; exact hxv
                 | 1,hj=>cases hj; exact .t _ _ (.sc _ rfl)
                 | j+2,hj=>simp [CG] at hj
           | false =>
             refine ⟨v,?_,hxv⟩
             simp only [execOp,hop]
             rw [e1,e2]
             simp [hrun]
         · trivial
       · trivial
     · trivial
   · trivial
 · trivial
def QV (D:Au)(g:XG)(t:TypeId)(x:X):Out :=
 match x with
 | .mp o=>match QE (gx g o) with
   | some ⟨T,es⟩=>cond (Nu (D.Ad t)).isSome (Py .i64 (List.length (α:=T.kt.den × T.r.den) es)) .bad
   | none=>.bad
 | _=>.bad
theorem QX (hg:Good P D) {g:XG} {o:Oper} {st:St} (ha:Al g st.s) {t:TypeId} {ox:Operand} {x:X} (hop:o.op=.call ⟨.builtin .len,#[ox],#[t]⟩) (hx:ev AV st.t ox=x.enc):BI P o st (QV D g t x):=by
 unfold QV
 split
 · rename_i n
   split
   · rename_i T es hgx
     refine AD (fun hc=>?_) (fun _=>trivial)
     obtain ⟨⟨kt,et⟩,hmt⟩:=Option.isSome_iff_exists.1 hc
     refine Ce.pure fun B F loc a w hR=>?_
     have hvm:=Af hR ox
     rw [hx] at hvm
     obtain ⟨b,en,clock,vs,hl,hb,hmo⟩:=hR.s.ee (KA ha hgx)
     have e1:=FE hvm hl
     have hsz:en.size=List.length (α:=T.kt.den × T.r.den) es:=by
       obtain ⟨v0,hpv,hen⟩:=hmo.Nv
       rw [hen.size,hpv.length_eq,hmo.al.1]
       unfold MT.en
       rw [List.length_map]
     refine ⟨goInt en.size,Re hop ?_,by rw [hsz]; exact .t _ _ (.sc _ rfl)⟩
     rw [e1]
     simp [Builtin.len_,run_underlying (hg.Ad t _ (Ew hmt)).1,Go.MapKept.run_getObj_map hb]
   · trivial
 · trivial
def PZ (D:Au)(g:XG)(dst:Option Nat)(t:TypeId)(x:X):Out :=
 match dst,x with
 | some d,.mp o=>match g d,gx g o with
   | none,some (.mp T es)=>cond (Nu (D.Ad t)).isSome (.ok (.it d) [(d,some (.mi o)),(o,some (.mq T es d es []))]) .bad
   | _,_=>.bad
 | _,_=>.bad
theorem Qe (hg:Good P D) {g:XG} {o:Oper} {st:St} (ha:Al g st.s) {t:TypeId} {ox:Operand} {x:X} (hop:o.op=.range t ox) (hx:ev AV st.t ox=x.enc):BI P o st (PZ D g o.dst t x):=by
 unfold PZ
 split
 · rename_i d n hd
   split
   · rename_i T es hn hgx
     refine AD (fun hc=>?_) (fun _=>trivial)
     obtain ⟨⟨kt,et⟩,hmt⟩:=Option.isSome_iff_exists.1 hc
     have hfree:=ha.no d hn
     have hs:=ha.is _ _ (CE hgx)
     intro B F loc a w hR
     have hvm:=Af hR ox
     rw [hx] at hvm
     obtain ⟨b,hl,hrun,hS⟩:=hR.s.mapRange (P:=P) hs hfree (hg.Ad t _ (Ew hmt)).1
     have e1:=FE hvm hl
     refine ⟨F,_,_,.pointer (some ⟨w.heap.size,0,none⟩),_,?_,.inl rfl,hS,DC hR.s _,Az.Ak (DJ hR.s hfree),.it _ _ (AA _ _ _)⟩
     simp only [execOp,hop]
     rw [e1]
     simp [hrun]
   · trivial
 · trivial
def UN (g:XG) (x:X):Out :=
 match x with
 | .it i => match gx g i with
   | some (.mi m)=>match gx g m with
     | some (.mq T es i' rest _)=>cond (Nat.beq i' i) (.any (T.kt.den × T.r.den) (.tp [.b false]) [(m,some (.mp T es))] rest
         fun j a=>(.tp [.b true,bC T.kt a.1,WL T a.2],[(m,some (.mq T es i (List.eraseIdx (α:=T.kt.den × T.r.den) rest j) [a]))])) .bad
     | _=>.bad
   | _=>.bad
 | _=>.bad
theorem Sy {g:XG} {o:Oper} {st:St} (ha:Al g st.s) {ox:Operand} {x:X} (hop:o.op=.next ox false) (hx:ev AV st.t ox=x.enc):BI P o st (UN g x):=by
 unfold UN
 split
 · rename_i i
   split
   · rename_i m hgi
     split
     · rename_i T es i' rest cu hgm
       refine AD (fun hc=>?_) (fun _=>trivial)
       have e0:=Nat.eq_of_beq_eq_true hc
       subst e0
       have hsi:=ha.is _ _ (CE hgi)
       have hsm:=ha.is _ _ (CE hgm)
       constructor
       · intro hr
         intro B F loc a w hR
         have hv:=Af hR ox
         rw [hx] at hv
         rcases hR.s.mapNext (P:=P) hsm hsi o.type hv with ⟨_,hrun,hS⟩ | ⟨j,k,r,v1,w1,hj,_⟩
         · refine ⟨F,loc,w,.tuple #[.bool false],_,?_,.inl rfl,hS,Kept.refl _ _,Az.refl _,?_⟩
           · simp only [execOp,hop]
             simp [hrun]
           · refine .tp _ [.bool false] (fun j=>[Value.bool false].getD j undef) rfl (fun j hj=>?_) (fun j y hj=>?_)
             · match j,hj with
               | 0,_=>rfl
               | j+1,hj=>exact absurd (show j+1 < 1 from hj) (by omega)
             · match j,hj with
               | 0,hj=>cases hj; exact .t _ _ (.sc _ rfl)
               | j+1,hj=>simp [CG] at hj
         · subst hr; simp [MT.en] at hj
       · intro hr
         intro B F loc a w hR
         have hv:=Af hR ox
         rw [hx] at hv
         rcases hR.s.mapNext (P:=P) hsm hsi o.type hv with ⟨h0,_⟩ | ⟨j,k,r,v1,w1,hj,hrun,hmv,hk,hS,hkp⟩
         · unfold MT.en at h0; exact absurd (List.map_eq_nil_iff.1 h0) hr
         · have hj':=hj
           unfold MT.en at hj'
           rw [List.getElem?_map] at hj'
           obtain ⟨a1,ha1,he⟩:=Option.map_eq_some_iff.1 hj'
           obtain ⟨rfl,rfl⟩:=Prod.mk.inj he
           have em:∀ {α β:Type} (g:α->β) (l:List α) (i:Nat),(l.eraseIdx i).map g=(l.map g).eraseIdx i:=by
             intro α β g l
             induction l with
             | nil=>intro i; rfl
             | cons x l ih=>intro i; cases i with
               | zero=>rfl
               | succ i=>simp only [List.eraseIdx_cons_succ,List.map_cons,ih]
           refine ⟨_,_,⟨j,a1,ha1,rfl,rfl⟩,F,loc,w1,.tuple #[.bool true,T.kt.val a1.1,v1],_,?_,.inl rfl,?_,hkp,Az.refl _,?_⟩
           · simp only [execOp,hop]
             simp [hrun]
           · show AL AV B w1 F loc (Ak st.s m (some (some (.mq T.kt.desc T.ag (T.en es) i' (T.en (List.eraseIdx (α:=T.kt.den × T.r.den) rest j)) (T.en [a1])))))
             have e3:T.en (List.eraseIdx (α:=T.kt.den × T.r.den) rest j)=(T.en rest).eraseIdx j:=by unfold MT.en; exact em _ _ _
             rw [e3]
             exact hS
           · refine .tp _ [.bool true,T.kt.val a1.1,v1] (fun j=>[Value.bool true,T.kt.val a1.1,v1].getD j undef) rfl (fun j hj=>?_) (fun j y hj=>?_)
             · match j,hj with
               | 0,_=>rfl
               | 1,_=>rfl
               | 2,_=>rfl
               | j+3,hj=>exact absurd (show j+3 < 3 from hj) (by omega)
             · match j,hj with
               | 0,hj=>cases hj; exact .t _ _ (.sc _ rfl)
               | 1,hj =>
                 cases hj
                 show AF w1 F loc (bC T.kt a1.1).enc (T.kt.val a1.1)
                 rw [Sv]
                 exact .t _ _ (.sc _ (OY _ _))
               | 2,hj=>cases hj; exact Ma hmv
               | j+3,hj=>simp [CG] at hj
     · trivial
   · trivial
 · trivial
def Tn (g:XG) (x:X):Out :=
 match x with
 | .it i=>match gx g i with
   | some (.mi m)=>match gx g m with
     | some (.mq T _ i' _ cu)=>match (cu:List (T.kt.den × T.r.den)) with
       | [a]=>cond (Nat.beq i' i) (.ok (.tp [bC T.kt a.1,WL T a.2]) []) .bad
       | _=>.bad
     | _=>.bad
   | _=>.bad
 | _=>.bad
theorem SJ {g:XG} {o:Oper} {st:St} (ha:Al g st.s) {ox:Operand} {x:X} (hop:o.op=.entry ox) (hx:ev AV st.t ox=x.enc):BI P o st (Tn g x):=by
 unfold Tn
 split
 · rename_i i
   split
   · rename_i m hgi
     split
     · rename_i T es i' rest cu hgm
       split
       · rename_i q a0
         refine AD (fun hc=>?_) (fun _=>trivial)
         have e0:=Nat.eq_of_beq_eq_true hc
         subst e0
         have hsi:=ha.is _ _ (CE hgi)
         have hsm:=ha.is _ _ (CE hgm)
         refine Ce.pure fun B F loc a w hR=>?_
         have hv:=Af hR ox
         rw [hx] at hv
         obtain ⟨v1,hrun,hmv⟩:=hR.s.mapEntry (P:=P) (k:=T.kt.val a0.1) (r:=T.r.en a0.2) (cu:=_) hsm hsi rfl hv
         refine ⟨.tuple #[T.kt.val a0.1,v1],?_,?_⟩
         · simp only [execOp,hop]
           simp [hrun]
         · refine .tp _ [T.kt.val a0.1,v1] (fun j=>[T.kt.val a0.1,v1].getD j undef) rfl (fun j hj=>?_) (fun j y hj=>?_)
           · match j,hj with
             | 0,_=>rfl
             | 1,_=>rfl
             | j+2,hj=>exact absurd (show j+2 < 2 from hj) (by omega)
           · match j,hj with
             | 0,hj =>
               cases hj
               show AF w F loc (bC T.kt a0.1).enc (T.kt.val a0.1)
               rw [Sv]
               exact .t _ _ (.sc _ (OY _ _))
             | 1,hj=>cases hj; exact Ma hmv
             | j+2,hj=>simp [CG] at hj
       · trivial
     · trivial
   · trivial
 · trivial
def UK (D:Au)(g:XG)(dst:Option Nat)(t:TypeId)(x:X):Out :=
 match dst,x with
 | some d,.s s=>match g d with
   | none=>cond (Dt (D.Ad t)) (.ok (.it d) [(d,some (.si s 0))]) .bad
   | some _=>.bad
 | _,_=>.bad
def bA (g:XG)(str:Bool)(x:X):Out :=
 match str,x with
 | true,.it o=>match gx g o with
   | some (.si s pos)=>.cs (decide (pos < s.size)) (.tp [.b true,.i .i64 (pos:Int),.i .i32 ((Utf8.decode s pos).1:Int)]) [(o,some (.si s (pos+(Utf8.decode s pos).2)))] (.tp [.b false]) []
   | _=>.bad
 | _,_=>.bad
theorem RA (hg:Good P D) {g:XG} {o:Oper} {st:St} (ha:Al g st.s) {t:TypeId} {ox:Operand} {x:X} (hop:o.op=.range t ox) (hx:ev AV st.t ox=x.enc):BI P o st (UK D g o.dst t x):=by
 unfold UK
 split
 · rename_i d s hd
   split
   · rename_i hn
     refine AD (fun hs=>?_) (fun _=>trivial)
     have hfree:=ha.no d hn
     have hu:=(hg.Ad t _ (BX hs)).1
     intro B F loc a w hR
     have hv:=Af hR ox
     rw [hx] at hv
     have hv2:=AU hv
     refine ⟨F,Ak loc d (some (.CM w.heap.size)),w.alloc (.stringIter s 0),.pointer (some ⟨w.heap.size,0,none⟩),_,?_,.inl rfl,hR.s.alloc hfree (.si s 0 _ (heap_alloc_new w _)),DC hR.s _,Az.Ak (DJ hR.s hfree),.it _ _ (AA _ _ _)⟩
     simp only [execOp,hop]
     rw [hv2]
     simp [run_range_string (P:=P) w t s hu,World.iter]
   · trivial
 · trivial
omit [Mo] in
theorem VK {w:World}{F:Nat->Prop}{loc:Nat->Option Loc}{o:Nat}{v:Value}{b:Nat}(h:AF w F loc (.it o) v)(hl:loc o=some (.CM b)):v=.pointer (some ⟨b,0,none⟩):=by
 cases h with
 | gone _ o' _ hx ho=>cases hx; rw [hl] at ho; cases ho
 | it _ b' ho=>rw [hl] at ho; cases ho; rfl
omit [Mo] in
theorem dH {w:World}{b pos:Nat}{s:ByteArray}{ty:TypeId}(hb:w.heap[b]? = some (.stringIter s pos))(h:pos < s.size) :
   (Instr.next (.pointer (some ⟨b,0,none⟩)) true ty).run P w=.ok (.tuple #[.bool true,.int .i64 pos,.int .i32 (Utf8.decode s pos).1]) { w with heap:=w.heap.setIfInBounds b (.stringIter s (pos+(Utf8.decode s pos).2)) }:=by
 simp [Instr.next,getObj,setObj,Sem.run,hb,h,goInt]
omit [Mo] in
theorem Xw {w:World}{b pos:Nat}{s:ByteArray}{ty:TypeId}(hb:w.heap[b]? = some (.stringIter s pos))(h:¬ pos < s.size) :
   (Instr.next (.pointer (some ⟨b,0,none⟩)) true ty).run P w=.ok (.tuple #[.bool false]) w:=by
 simp [Instr.next,getObj,Sem.run,hb,h]
theorem TR {g:XG} {o:Oper} {st:St} (ha:Al g st.s) {str:Bool} {ox:Operand} {x:X} (hop:o.op=.next ox str) (hx:ev AV st.t ox=x.enc):BI P o st (bA g str x):=by
 unfold bA
 split
 · rename_i n
   split
   · rename_i s pos hgx
     have hs:=ha.is _ _ (CE hgx)
     constructor
     · intro hc B F loc a w hR
       have hlt:pos < s.size:=of_decide_eq_true hc
       obtain ⟨l,hl,hr⟩:=hR.s.Cy _ _ hs
       cases hr with
       | si _ _ b hb =>
         have hv:=Af hR ox
         rw [hx] at hv
         have hv2:=VK hv hl
         have hbs:b < w.heap.size:=(hR.s.own _ _ b hl rfl).1
         obtain ⟨hS,hk⟩:=hR.s.turn (w':={ w with heap:=w.heap.setIfInBounds b (.stringIter s (pos+(Utf8.decode s pos).2)) }) (x:=.si s (pos+(Utf8.decode s pos).2)) hl rfl (by simp) rfl rfl rfl (fun k hk=>by simp [Array.getElem?_setIfInBounds,Ne.symm hk]) (.si _ _ b (by simp [Array.getElem?_setIfInBounds,hbs])) (fun m h=>by rw [hs] at h; cases h)
         refine ⟨F,loc,_,.tuple #[.bool true,.int .i64 pos,.int .i32 (Utf8.decode s pos).1],_,?_,.inl rfl,hS,hk,Az.refl _,?_⟩
         · simp only [execOp,hop]
           rw [hv2,Sem.run_bind,dH hb hlt]; rfl
         · refine .tp _ [.bool true,.int .i64 pos,.int .i32 (Utf8.decode s pos).1] (fun j=>[Value.bool true,.int .i64 pos,.int .i32 (Utf8.decode s pos).1].getD j undef) rfl (fun j hj=>?_) (fun j y hj=>?_)
           · match j,hj with
             | 0,_=>rfl
             | 1,_=>rfl
             | 2,_=>rfl
             | j+3,hj=>exact absurd (show j+3 < 3 from hj) (by omega)
           · match j,hj with
             | 0,hj=>cases hj; exact .t _ _ (.sc _ rfl)
             | 1,hj=>cases hj; exact .t _ _ (.sc _ rfl)
             | 2,hj=>cases hj; exact .t _ _ (.sc _ rfl)
             | j+3,hj=>simp [CG] at hj
     · intro hc B F loc a w hR
       have hlt:¬ pos < s.size:=of_decide_eq_false hc
       obtain ⟨l,hl,hr⟩:=hR.s.Cy _ _ hs
       cases hr with
       | si _ _ b hb =>
         have hv:=Af hR ox
         rw [hx] at hv
         have hv2:=VK hv hl
         refine ⟨F,loc,w,.tuple #[.bool false],_,?_,.inl rfl,hR.s,Kept.refl _ _,Az.refl _,?_⟩
         · simp only [execOp,hop]
           rw [hv2,Sem.run_bind,Xw hb hlt]; rfl
         · refine .tp _ [.bool false] (fun j=>[Value.bool false].getD j undef) rfl (fun j hj=>?_) (fun j y hj=>?_)
           · match j,hj with
             | 0,_=>rfl
             | j+1,hj=>exact absurd (show j+1 < 1 from hj) (by omega)
           · match j,hj with
             | 0,hj=>cases hj; exact .t _ _ (.sc _ rfl)
             | j+1,hj=>simp [CG] at hj
   · trivial
 · trivial
def pV (D:Au)(t:TypeId)(gl:Nat)(i:X):Out :=
 match lF dA gl,D.Ad t,i with
 | some ⟨r,xs⟩,some (.array len e),.i _ n=>cond (Nat.beq r.len (D.size e) && Nat.beq xs.length len && D.has e) (.Qr r.den (ix xs n) fun a=>(.pf r a 0,[])) .bad
 | _,_,_=>.bad
omit [Mo] in
theorem flat_get {α:Type}{f:α->List T}{m:Nat}:∀ {xs:List α} {n:Nat} {a:α},(∀ x ∈ xs,(f x).length=m)->xs[n]? = some a->∀ j,j < m->((xs.map f).flatten)[n * m+j]? = (f a)[j]? /\ n * m+j < ((xs.map f).flatten).length
 | [],n,a,_,h,_,_=>by simp at h
 | x :: xs,0,a,hm,h,j,hj=>by
   simp only [List.getElem?_cons_zero,Option.some.injEq] at h
   subst h
   have hl:=hm x (by simp)
   simp only [List.map_cons,List.flatten_cons,Nat.zero_mul,Nat.zero_add,List.length_append]
   exact ⟨List.getElem?_append_left (by omega),by omega⟩
 | x :: xs,n+1,a,hm,h,j,hj=>by
   have hl:=hm x (by simp)
   have ih:=flat_get (xs:=xs) (n:=n) (a:=a) (fun y hy=>hm y (by simp [hy])) (by simpa using h) j hj
   simp only [List.map_cons,List.flatten_cons,List.length_append]
   have e:(n+1) * m+j=(f x).length+(n * m+j):=by rw [hl,Nat.add_mul]; omega
   rw [e]
   exact ⟨by rw [List.getElem?_append_right (by omega),Nat.add_sub_cancel_left]; exact ih.1,by omega⟩
theorem YZ (hg:Good P D) {o:Oper} {st:St} {t:TypeId} {gl:Nat} {oi:Operand} {i:X} (hop:o.op=.indexAddr t (.global gl) oi) (hi:ev AV st.t oi=i.enc):BI P o st (pV D t gl i):=by
 unfold pV
 split
 · rename_i r xs len e k n hgl hu
   refine AD (fun hc=>?_) (fun _=>trivial)
   simp only [Bool.and_eq_true] at hc
   obtain ⟨⟨h1,h2⟩,h3⟩:=hc
   have hr:=Nat.eq_of_beq_eq_true h1
   have hlen:=Nat.eq_of_beq_eq_true h2
   obtain ⟨d,hd⟩:=BT h3
   intro a ha
   obtain ⟨hn0,hget⟩:=Uw ha
   have hlt:n.toNat < xs.length:=(List.getElem?_eq_some_iff.1 hget).1
   refine Ce.pure fun B F loc ac w hR=>?_
   have hG:AV gl=some (xs.map r.en).flatten:=by unfold AV; rw [hgl]
   obtain ⟨hF,val,hcell,hrel⟩:=hR.s.GG gl _ hG
   have hv:=AU (show AF w F loc (.t (.sc (.int k n))) (ac.eval oi) by have:=Af hR oi; rw [hi] at this; exact this)
   have hfl:=fun j (hj:j < r.len)=>flat_get (f:=r.en) (m:=r.len) (xs:=xs) (fun x _=>r.Ch x) hget j hj
   refine ⟨.pointer (some ⟨gl,n.toNat * r.len,none⟩),?_,?_⟩
   · simp only [execOp,hop]
     rw [hv]
     show ((do pure (Next.value (<- Instr.indexAt t (.pointer (some ⟨gl,0,none⟩)) (.int k n))):Sem Next)).run P w=_
     simp [Instr.indexAt,asIntOf,run_underlying (hg.Ad t _ hu).1 w,hn0,show n < (len:Int) by omega,Cs hg hd,Instr.sureAddr,Addr.add,hr]
     intro h; exact h.symm
   · have:=AF.pf (w:=w) (F:=F) (loc:=loc) (r.en a) 0 gl (n.toNat * r.len) (fun j=>val (n.toNat * r.len+j)) hF (fun j hj=>hcell _ (hfl j (by rw [r.Ch] at hj; exact hj)).2) (fun j x hj=>hrel _ x (by
       have hj':j < r.len:=by have:=(List.getElem?_eq_some_iff.1 hj).1; rw [r.Ch] at this; exact this
       rw [(hfl j hj').1]; exact hj))
     rw [show gl=gl from rfl] at this
     show AF w F loc (V.pf (r.en a) 0) _
     simpa using this
 · trivial
def dN (y:X)(x:X):Bool:=match x with | .fz .u _ _=>DN y | .sl .u _=>DN y | .sw _ _ _=>DN y | _=>false
def kg (D:Au) (rows:Nat->Option Row) (g:XG) (e:Operand->X) (o:Oper):Out :=
 match o.op with
 | .move x=>.ok (e x) []
 | .assign x=>.ok (e x) []
 | .pick c a b=>(match e c with | .b q=>.ok (ZD q (e a) (e b)) [] | _=>.bad)
 | .extract x i=>(match e x with | .tp l=>(match l[i]? with | some v=>.ok v [] | none=>.bad) | _=>.bad)
 | .binOp op t x y _=>cond (dN (e y) (e x)) (YN D g op t (e x) (e y)) (cond (Zi (e x)) (jA D op t (e x) (e y)) (jh (fY D g op t x y (e x) (e y))))
 | .unOp op _ x=>jh (rT op (e x))
 | .range t x=>(match Nu (D.Ad t) with | some _=>PZ D g o.dst t (e x) | none=>UK D g o.dst t (e x))
 | .next x true=>bA g true (e x)
 | .next x false=>UN g (e x)
 | .entry x=>Tn g (e x)
 | .makeMap t none=>Lc D g (rows t) o.dst t
 | .mapUpdate t m k x=>HI D g t (e m) (e k) (e x)
 | .lookup t m k c=>HS D g t (e m) (e k) c
 | .call ⟨.builtin .delete,⟨[m,k]⟩,⟨[t,t2]⟩⟩=>HD D g t t2 (e m) (e k)
 | .convert src dst x=>(match CJ (D.Ad src) with
   | some _=>JO D g src dst (e x)
   | none=>(match CJ (D.Ad dst),e x with
     | some el,.s s=>Jc D g o.dst src el s
     | _,_=>jh (Yz D src dst (e x))))
 | .nilCheck x=>(match dL (e x),RX g (e x) with | .ptr,some false=>.ok (e x) [] | _,_=>.bad)
 | .fieldAddr t x f=>jh (HK D g t (e x) f)
 | .indexAddr t (.global gl) i=>pV D t gl (e i)
 | .indexAddr t x i=>HZ D g t (e x) (e i)
 | .field t x f=>jh (UO D t (e x) f)
 | .index t x i=>Th D t (e x) (e i)
 | .build t parts=>TQ D g t (parts.toList.map fun p=>(p.1,e p.2))
 | .buildSlice t len parts=>GH D g (rows t) o.dst t len (parts.toList.map fun p=>(p.1,e p.2))
 | .makeSlice t x y=>Hb D g (rows t) o.dst t x y (e x)
 | .load t x=>VG D g t (e x)
 | .store t p x=>Uv D g t (e p) (e x)
 | .slice t x lo hi none=>Uk D g t (e x) (lo.map e) (hi.map e)
 | .box t x=>dj g o.dst t (e x)
 | .alloc t=>(match WC D t with | some z=>dj g o.dst t z | none=>.bad)
 | .makeFunc (.func f) first caps=>cond first.isEmpty (.ok (.fn f (caps.toList.map e)) []) .bad
 | .makeInterface t x=>cond (D.has t && !(PY (D.Ad t))) (.ok (.Aq t (e x)) []) .bad
 | .typeAssert x _ t true=>QP D (e x) t
 | .call ⟨.builtin .len,⟨[x]⟩,⟨[t]⟩⟩=>(match Nu (D.Ad t) with | some _=>QV D g t (e x) | none=>fu D g t (e x))
 | .call ⟨.builtin .clear,⟨[x]⟩,⟨[t]⟩⟩=>TZ D g t (e x)
 | .call ⟨.builtin .max,⟨[x,y]⟩,_⟩=>jg mx (e x) (e y)
 | .call ⟨.builtin .min,⟨[x,y]⟩,_⟩=>jg mn (e x) (e y)
 | .call ⟨.builtin .append,⟨[x,y]⟩,⟨[t,t']⟩⟩=>cond (Nat.beq t' t) (PW D g o.dst t (e x) (e y)) (match e y with | .s s=>NT D g o.dst t t' (e x) s | _=>.bad)
 | _=>.bad
theorem RG (hg:Good P D) {rows:Nat->Option Row} {g:XG} {o:Oper} {st:St} {e:Operand->X} (ha:Al g st.s) (he:∀ x ∈ o.op.operands.toList,ev AV st.t x=(e x).enc):BI P o st (kg D rows g e o):=by
 have pure:∀ {v:X},Io D o.op (ev AV st.t) st.s=some v.enc->BI P o st (.ok v []):=fun h=>BP hg rfl h
 unfold kg
 split
 · rename_i x hop
   have hx:=he x (by rw [hop]; simp [Op.operands])
   exact pure (by rw [hop]; show some (ev AV st.t x)=_; rw [hx])
 · rename_i x hop
   have hx:=he x (by rw [hop]; simp [Op.operands])
   exact pure (by rw [hop]; show some (ev AV st.t x)=_; rw [hx])
 · rename_i c a b hop
   have hc:=he c (by rw [hop]; simp [Op.operands])
   have hxa:=he a (by rw [hop]; simp [Op.operands])
   have hxb:=he b (by rw [hop]; simp [Op.operands])
   split
   · rename_i q hq
     refine pure ?_
     rw [hop]
     show (match ev AV st.t c with | .t (.sc (.bool q))=>some (Si q (ev AV st.t a) (ev AV st.t b)) | _=>none)=_
     rw [hc,hq,hxa,hxb]
     show some (Si q (e a).enc (e b).enc)=_
     rw [Me,WX]
   · trivial
 · rename_i x i hop
   have hx:=he x (by rw [hop]; simp [Op.operands])
   split
   · rename_i l hl
     split
     · rename_i v hv
       refine pure ?_
       rw [hop]
       show (match ev AV st.t x with | .tp vs=>vs[i]? | _=>none)=_
       rw [hx,hl]
       show (CG l)[i]? = _
       rw [Ac,List.getElem?_map,hv]; rfl
     · trivial
   · trivial
 · rename_i op t x y q hop
   have hx:=he x (by rw [hop]; simp [Op.operands])
   have hy:=he y (by rw [hop]; simp [Op.operands])
   exact AD (fun _=>Uj hg ha hop hx hy) (fun _=>AD (fun _=>Wm hg hop hx hy) (fun _=>JZ.ok hg hop (We ha hx hy).l))
 · rename_i op t x hop
   have hx:=he x (by rw [hop]; simp [Op.operands])
   exact JZ.ok hg hop (Yg hx).l
 · rename_i t x hop
   split
   · exact Qe hg ha hop (he x (by rw [hop]; simp [Op.operands]))
   · exact RA hg ha hop (he x (by rw [hop]; simp [Op.operands]))
 · rename_i x hop
   exact TR ha hop (he x (by rw [hop]; simp [Op.operands]))
 · rename_i x hop
   exact Sy ha hop (he x (by rw [hop]; simp [Op.operands]))
 · rename_i x hop
   exact SJ ha hop (he x (by rw [hop]; simp [Op.operands]))
 · rename_i t hop
   exact Nq ha hop
 · rename_i t m k x hop
   exact Kz hg ha hop (he m (by rw [hop]; simp [Op.operands])) (he k (by rw [hop]; simp [Op.operands])) (he x (by rw [hop]; simp [Op.operands]))
 · rename_i t m k c hop
   exact Ko hg ha hop (he m (by rw [hop]; simp [Op.operands])) (he k (by rw [hop]; simp [Op.operands]))
 · rename_i m k t t2 hop
   exact Ky hg ha hop (he m (by rw [hop]; simp [Op.operands,Call.operands])) (he k (by rw [hop]; simp [Op.operands,Call.operands]))
 · rename_i src dst x hop
   have hx:=he x (by rw [hop]; simp [Op.operands])
   split
   · exact NG hg ha hop hx
   · split
     · rename_i el s hde hes
       exact Lv hg ha hop (Ap hde) (by rw [hx,hes])
     · exact JZ.ok hg hop (TX hx).l
 · rename_i x hop
   have hx:=he x (by rw [hop]; simp [Op.operands])
   split
   · rename_i hk hn
     refine pure ?_
     rw [hop]
     show (match kd (ev AV st.t x),Fo st.s (ev AV st.t x) with | .ptr,some false=>some (ev AV st.t x) | _,_=>none)=_
     rw [hx,Hw,hk,Ol ha hn]
   · trivial
 · rename_i t x f hop
   exact JZ.ok hg hop (Ks ha (he x (by rw [hop]; simp [Op.operands]))).l
 · rename_i t gl i hop
   exact YZ hg hop (he i (by rw [hop]; simp [Op.operands]))
 · rename_i t x i hng hop
   exact Kv hg ha hop (he x (by rw [hop]; simp [Op.operands])) (he i (by rw [hop]; simp [Op.operands]))
 · rename_i t x f hop
   exact JZ.ok hg hop (SN (he x (by rw [hop]; simp [Op.operands]))).l
 · rename_i t x i hop
   exact Rm hg hop (he x (by rw [hop]; simp [Op.operands])) (he i (by rw [hop]; simp [Op.operands]))
 · rename_i t parts hop
   refine Ri hg ha hop ?_
   rw [List.map_map]
   refine List.map_congr_left fun p hp=>?_
   show (p.1,ev AV st.t p.2)=(p.1,(e p.2).enc)
   rw [he p.2 (by rw [hop]; simp only [Op.operands,List.toList_toArray,List.mem_map]; exact ⟨p,hp,rfl⟩)]
 · rename_i t len parts hop
   refine Je hg ha hop ?_
   rw [List.map_map]
   refine List.map_congr_left fun p hp=>?_
   show (p.1,ev AV st.t p.2)=(p.1,(e p.2).enc)
   rw [he p.2 (by rw [hop]; simp only [Op.operands,List.toList_toArray,List.mem_map]; exact ⟨p,hp,rfl⟩)]
 · rename_i t x y hop
   exact LA hg ha hop (he x (by rw [hop]; simp [Op.operands]))
 · rename_i t x hop
   exact JZ.ok hg hop (NM ha (he x (by rw [hop]; simp [Op.operands])))
 · rename_i t p x hop
   exact RM hg ha hop (he p (by rw [hop]; simp [Op.operands])) (he x (by rw [hop]; simp [Op.operands]))
 · rename_i t x lo hi hop
   have hm:∀ (y:Option Operand),(∀ z,y=some z->z ∈ o.op.operands.toList)->y.map (ev AV st.t)=(y.map e).map X.enc:=by
     intro y hy
     cases y with
     | none=>rfl
     | some z=>simp [he z (hy z rfl)]
   exact RO hg ha hop (he x (by rw [hop]; simp [Op.operands])) (hm lo (by rintro z rfl; rw [hop]; simp [Op.operands])) (hm hi (by rintro z rfl; rw [hop]; simp [Op.operands]))
 · rename_i t x hop
   exact OI hg ha (.inl ⟨x,hop,he x (by rw [hop]; simp [Op.operands])⟩)
 · rename_i t hop
   split
   · rename_i z hz
     exact OI hg ha (.inr ⟨hop,Lt hz⟩)
   · trivial
 · rename_i f first caps hop
   refine AD (fun hf=>?_) (fun _=>trivial)
   refine pure ?_
   rw [hop]
   show (if first.isEmpty then some (V.fn f (caps.toList.map (ev AV st.t))) else none)=_
   rw [if_pos hf]
   show _=some (V.fn f (CG (caps.toList.map e)))
   rw [Ac,List.map_map]
   congr 2
   refine List.map_congr_left fun p hp=>?_
   exact he p (by rw [hop]; simp only [Op.operands,Array.toList_append,List.mem_append]; exact .inr hp)
 · rename_i t x hop
   refine AD (fun hf=>?_) (fun _=>trivial)
   simp only [Bool.and_eq_true,Bool.not_eq_true'] at hf
   obtain ⟨d,hd⟩:=BT hf.1
   have hx:=he x (by rw [hop]; simp [Op.operands])
   refine pure ?_
   rw [hop]
   show (match D.Ad t with | some (.interface _)=>none | some _=>some (V.Aq t (ev AV st.t x)) | none=>none)=_
   have hni:=hf.2
   rw [hd] at hni ⊢
   rw [hx]
   cases d <;> first | (simp [PY] at hni; done) | rfl
 · rename_i x xt t hop
   exact QZ hg hop (he x (by rw [hop]; simp [Op.operands]))
 · rename_i x t hop
   split
   · exact QX hg ha hop (he x (by rw [hop]; simp [Op.operands,Call.operands]))
   · exact Xg hg ha hop (he x (by rw [hop]; simp [Op.operands,Call.operands]))
 · rename_i x t hop
   exact TD hg ha hop (he x (by rw [hop]; simp [Op.operands,Call.operands]))
 · rename_i x y ts hop
   exact WM hg hop (he x (by rw [hop]; simp [Op.operands,Call.operands])) (he y (by rw [hop]; simp [Op.operands,Call.operands]))
 · rename_i x y ts hop
   exact XK hg hop (he x (by rw [hop]; simp [Op.operands,Call.operands])) (he y (by rw [hop]; simp [Op.operands,Call.operands]))
 · rename_i x y t t' hop
   have hy:=he y (by rw [hop]; simp [Op.operands,Call.operands])
   refine AD (fun hf=>?_) (fun _=>?_)
   · have:=Nat.eq_of_beq_eq_true hf
     subst this
     exact Qb hg ha hop (he x (by rw [hop]; simp [Op.operands,Call.operands])) hy
   · split
     · rename_i s hs
       exact Nk hg ha hop (he x (by rw [hop]; simp [Op.operands,Call.operands])) (by rw [hy,hs])
     · trivial
 · trivial
end Go.Proofs.YthoimblkpcikdaaGreatDoor.Mc
namespace Go.Proofs.YthoimblkpcikdaaGreatDoor.Mc
open Go.RowKit
variable [Mo]
variable {P:Program}{D:Au}
mutual
def X.AW (f:Nat->Option Nat):X->X
 | .sl nl o=>match f o with | some o'=>.sl nl o' | none=>.dead
 | .sw o off len=>match f o with | some o'=>.sw o' off len | none=>.dead
 | .pt o off=>match f o with | some o'=>.pt o' off | none=>.dead
 | .pe o i off=>match f o with | some o'=>.pe o' i off | none=>.dead
 | .mp o=>match f o with | some o'=>.mp o' | none=>.dead
 | .it o=>match f o with | some o'=>.it o' | none=>.dead
 | .sp o=>match f o with | some o'=>.sp o' | none=>.dead
 | .fn g caps=>.fn g (EG f caps)
 | .ag cs=>.ag (EG f cs)
 | .tp cs=>.tp (EG f cs)
 | .Aq t x=>.Aq t (X.AW f x)
 | x=>x
def EG (f:Nat->Option Nat):List X->List X
 | []=>[]
 | x :: xs=>X.AW f x :: EG f xs
end
omit [Mo] in
mutual
theorem X.Bw (f:Nat->Option Nat):∀ (x:X),(x.AW f).enc=x.enc.AW f
 | .sl nl o=>by simp only [X.AW,X.enc,V.AW]; cases f o <;> rfl
 | .sw o off len=>by simp only [X.AW,X.enc,V.AW]; cases f o <;> rfl
 | .pt o off=>by simp only [X.AW,X.enc,V.AW]; cases f o <;> rfl
 | .pe o i off=>by simp only [X.AW,X.enc,V.AW]; cases f o <;> rfl
 | .mp o=>by simp only [X.AW,X.enc,V.AW]; cases f o <;> rfl
 | .it o=>by simp only [X.AW,X.enc,V.AW]; cases f o <;> rfl
 | .sp o=>by simp only [X.AW,X.enc,V.AW]; cases f o <;> rfl
 | .fn g caps=>by simp only [X.AW,X.enc,V.AW,Dd f caps]
 | .ag cs=>by simp only [X.AW,X.enc,V.AW,Dd f cs]
 | .tp cs=>by simp only [X.AW,X.enc,V.AW,Dd f cs]
 | .Aq t x=>by simp only [X.AW,X.enc,V.AW,X.Bw f x]
 | .c v=>by
   show X.enc (.c v)=V.AW f (X.enc (.c v))
   simp only [X.enc]
   cases plain v <;> rfl
 | .i k n=>rfl
 | .b q=>rfl
 | .s s=>rfl
 | .fz nl r xs=>rfl
 | .pf r x off=>rfl
 | .dead=>rfl
theorem Dd (f:Nat->Option Nat):∀ (xs:List X),CG (EG f xs)=Jl f (CG xs)
 | []=>rfl
 | x :: xs=>by simp only [EG,CG,Jl,X.Bw f x,Dd f xs]
end
mutual
def X.Em (p:Nat->Bool):X->Bool
 | .sl _ o=>p o
 | .sw o _ _=>p o
 | .pt o _=>p o
 | .pe o _ _=>p o
 | .mp o=>p o
 | .it o=>p o
 | .sp o=>p o
 | .fn _ caps=>ED p caps
 | .ag cs=>ED p cs
 | .tp cs=>ED p cs
 | .Aq _ x=>X.Em p x
 | _=>true
def ED (p:Nat->Bool):List X->Bool
 | []=>true
 | x :: xs=>X.Em p x && ED p xs
end
def Ji (f:Nat->Option Nat)(n:Nat):Bool:=match f n with | some m=>Nat.beq m n | none=>false
omit [Mo] in
theorem DE {f:Nat->Option Nat}{n:Nat}(h:Ji f n=true):f n=some n:=by
 unfold Ji at h
 split at h
 · rename_i m hm; rw [hm,Nat.eq_of_beq_eq_true h]
 · cases h
omit [Mo] in
mutual
theorem X.FM (f:Nat->Option Nat):∀ (x:X),x.Em (Ji f)=true->x.AW f=x
 | .sl nl o,h=>by simp only [X.AW,DE h]
 | .sw o off len,h=>by simp only [X.AW,DE h]
 | .pt o off,h=>by simp only [X.AW,DE h]
 | .pe o i off,h=>by simp only [X.AW,DE h]
 | .mp o,h=>by simp only [X.AW,DE h]
 | .it o,h=>by simp only [X.AW,DE h]
 | .sp o,h=>by simp only [X.AW,DE h]
 | .fn g caps,h=>by simp only [X.AW,Er f caps h]
 | .ag cs,h=>by simp only [X.AW,Er f cs h]
 | .tp cs,h=>by simp only [X.AW,Er f cs h]
 | .Aq t x,h=>by simp only [X.AW,X.FM f x h]
 | .c v,_=>rfl
 | .i k n,_=>rfl
 | .b q,_=>rfl
 | .s s,_=>rfl
 | .fz nl r xs,_=>rfl
 | .pf r x off,_=>rfl
 | .dead,_=>rfl
theorem Er (f:Nat->Option Nat):∀ (xs:List X),ED (Ji f) xs=true->EG f xs=xs
 | [],_=>rfl
 | x :: xs,h=>by
   simp only [ED,Bool.and_eq_true] at h
   simp only [EG,X.FM f x h.1,Er f xs h.2]
end
def XO.AW (f:Nat->Option Nat):XO->XO
 | .bx e cells=>.bx e (EG f cells)
 | .mq t es i rest cu=>match f i with | some i'=>.mq t es i' rest cu | none=>.mp t es
 | .mi m=>match f m with | some m'=>.mi m' | none=>.mi m
 | x=>x
omit [Mo] in
theorem XO.Bw (f:Nat->Option Nat)(x:XO):(x.AW f).enc=O.AW f x.enc:=by
 cases x with
 | bx e cells=>simp only [XO.AW,XO.enc,O.AW,Dd]
 | mq t es i rest cu=>simp only [XO.AW,XO.enc,O.AW]; cases f i <;> rfl
 | mi m=>simp only [XO.AW,XO.enc,O.AW]; cases f m <;> rfl
 | _=>rfl
def XO.Em (p:Nat->Bool):XO->Bool
 | .bx _ cells=>ED p cells
 | .mq _ _ i _ _=>p i
 | .mi m=>p m
 | _=>true
omit [Mo] in
theorem XO.FM (f:Nat->Option Nat)(x:XO)(h:x.Em (Ji f)=true):x.AW f=x:=by
 cases x with
 | bx e cells=>simp only [XO.AW,Er f cells h]
 | mq t es i rest cu=>simp only [XO.AW,DE (show Ji f i=true from h)]
 | mi m=>simp only [XO.AW,DE (show Ji f m=true from h)]
 | _=>rfl
def iZ (p:Nat->Bool):Option XO->Bool | some x=>x.Em p | none=>true
def XN (s:XS):Ren:=s.map fun p=>(p.1,p.1)
def Xn (E:XE)(st:BC)(i:Nat):X:=match lk (st.t ++ E.t) i with | some x=>x | none=>.dead
def SS (E:XE) (BS:List Nat) (ρ:Ren) (st:BC):Option BC :=
 let ρ':=XN E.s ++ ρ
 cond (CP ρ' && E.a.all (fun o=>Ji (AW ρ') o) && ρ'.all (fun p=>Nat.beq p.1 p.2 || Nat.blt p.2 1000000)
     && E.t.all (fun p=>(lk st.t p.1).isNone && p.2.Em (Ji (AW ρ'))) && E.s.all (fun p=>(lk st.s p.1).isNone && iZ (Ji (AW ρ')) p.2) && ρ.all (fun p=>(lk st.s p.1).isSome))
   (some ⟨BS.map fun i=>(i,(Xn E st i).AW (AW ρ')),ρ.map fun p=>(p.2,match lk st.s p.1 with | some x=>x.map (XO.AW (AW ρ')) | none=>none)⟩) none
omit [Mo] in
theorem Jy (f:V->V)(t:Nat->V):∀ (is:List Nat) (i:Nat),DM f t is i=if i ∈ is then f (t i) else .dead
 | [],i=>by simp [DM,eY]
 | j :: is,i=>by
   rw [DM]
   by_cases h:i=j
   · subst h; rw [AA]; simp
   · rw [AH _ _ h,Jy f t is i]; simp [h]
omit [Mo] in
theorem Cg {α:Type}:∀ {l:List (Nat × α)} {n:Nat} {a:α},lk l n=some a->(n,a) ∈ l
 | (i,b) :: l,n,a,h=>by
   rw [lk] at h
   cases hb:Nat.beq i n with
   | true=>rw [hb] at h; cases h; rw [Nat.eq_of_beq_eq_true hb]; simp
   | false=>rw [hb] at h; exact List.mem_cons_of_mem _ (Cg h)
omit [Mo] in
theorem Hr {α:Type}:∀ {l:List (Nat × α)} {n:Nat},lk l n=none->∀ a,(n,a) ∉ l
 | [],n,_,a=>by simp
 | (i,b) :: l,n,h,a=>by
   rw [lk] at h
   cases hb:Nat.beq i n with
   | true=>rw [hb] at h; cases h
   | false =>
     rw [hb] at h
     have hne:i ≠ n:=by rintro rfl; simp at hb
     intro hm
     rcases List.mem_cons.1 hm with hm | hm
     · cases hm; exact hne rfl
     · exact Hr h a hm
omit [Mo] in
theorem Kh {α:Type} (f:Nat->α):∀ (l:List Nat) (n:Nat),lk (l.map fun i=>(i,f i)) n=if n ∈ l then some (f n) else none
 | [],n=>by simp [lk]
 | j :: l,n=>by
   rw [List.map_cons,lk]
   cases hb:Nat.beq j n with
   | true=>have:=Nat.eq_of_beq_eq_true hb; subst this; simp
   | false =>
     have hne:¬ n=j:=by rintro rfl; simp at hb
     rw [cond_false,Kh f l n]; simp [hne]
omit [Mo] in
theorem FW (t:XT)(i:Nat):Ci t i=(match lk t i with | some x=>x | none=>X.dead).enc:=by unfold Ci; cases lk t i <;> rfl
omit [Mo] in
theorem Km {ρ:Ren}:Bg (ρ.map (·.2))=true->∀ {p q:Nat × Nat},p ∈ ρ->q ∈ ρ->p.2=q.2->p=q:=by
 intro h p q hp hq e
 have h1:=DS (ρ:=ρ) (n:=p.1) (n':=p.2) h (by simpa using hp)
 have h2:=DS (ρ:=ρ) (n:=q.1) (n':=q.2) h (by simpa using hq)
 rw [e,h2] at h1
 cases p; cases q; simp_all
theorem Conv.SS {E:XE} {BS:List Nat} {ρ:Ren} {st st':BC} (h:Mc.SS E BS ρ st=some st'):Conv AV (AG E st) (AG E st'):=by
 unfold Mc.SS at h
 simp only at h
 obtain ⟨hc,rfl⟩:=AR h
 simp only [Bool.and_eq_true] at hc
 obtain ⟨⟨⟨⟨⟨h1,h2⟩,h3⟩,h4⟩,h5⟩,h6⟩:=hc
 have Cd:=h1
 unfold CP at h1
 rw [Bool.and_eq_true] at h1
 refine Conv.norm (BS:=E.t.map (·.1) ++ BS) (ρ:=XN E.s ++ ρ) ?_
 unfold Mc.norm
 have ha:(AG E st).a.all (fun o=>(AW (XN E.s ++ ρ) o == some o))=true:=by
   rw [List.all_eq_true] at h2 ⊢
   intro o ho
   rw [DE (h2 o ho)]; simp
 rw [if_pos (by rw [Cd,ha,h3]; rfl)]
 congr 1
 show St.mk _ _ _ _=St.mk _ _ _ _
 congr 1
 · funext i
   rw [Jy]
   simp only [AG,FW,AX,Kh]
   rw [List.all_eq_true] at h4
   by_cases hk:i ∈ BS
   · rw [if_pos (by simp [hk]),if_pos hk]
     simp only [X.Bw,Xn,AX]
   · simp only [if_neg hk]
     cases he:lk E.t i with
     | none =>
       have:i ∉ E.t.map (·.1):=by
         intro hm
         obtain ⟨p,hp,rfl⟩:=List.mem_map.1 hm
         exact Hr he p.2 (by simpa using hp)
       rw [if_neg (by simp only [List.mem_append]; exact fun h=>h.elim this hk)]; rfl
     | some x =>
       have hm:=Cg he
       have hb:=h4 _ hm
       simp only [Bool.and_eq_true,Option.isNone_iff_eq_none] at hb
       rw [if_pos (by simp only [List.mem_append]; exact .inl (List.mem_map.2 ⟨_,hm,rfl⟩)),hb.1]
       simp only
       rw [<- X.Bw,X.FM _ _ hb.2]
 · funext n
   rw [HY h1.2]
   simp only [AG,encS,AX]
   rw [List.all_eq_true] at h5 h6
   cases hf:(XN E.s ++ ρ).find? (fun p=>Nat.beq p.2 n) with
   | some p =>
     obtain ⟨hp,rfl⟩:=OD hf
     simp only
     rcases List.mem_append.1 hp with hp1 | hp2
     · obtain ⟨q,hq,rfl⟩:=List.mem_map.1 hp1
       have hb:=h5 q hq
       simp only [Bool.and_eq_true,Option.isNone_iff_eq_none] at hb
       simp only [hb.1]
       have hnone:lk (ρ.map fun p=>(p.2,match lk st.s p.1 with | some x=>x.map (XO.AW (AW (XN E.s ++ ρ))) | none=>none)) q.1=none:=by
         cases hl:lk (ρ.map fun p=>(p.2,match lk st.s p.1 with | some x=>x.map (XO.AW (AW (XN E.s ++ ρ))) | none=>none)) q.1 with
         | none=>rfl
         | some y =>
           exfalso
           obtain ⟨p', hp', he⟩:=List.mem_map.1 (Cg hl)
           injection he with he1 he2
           have:=Km h1.2 hp (List.mem_append_right _ hp') he1.symm
           have h7:=h6 p' hp'
           rw [<- this] at h7
           simp only [hb.1,Option.isSome_none,Bool.false_eq_true] at h7
       rw [hnone]
       cases hl:lk E.s q.1 with
       | none=>exact absurd hq (by have:=Hr hl q.2; simpa using this)
       | some y =>
         have hy:=h5 _ (Cg hl)
         simp only [Bool.and_eq_true] at hy
         simp only [Option.map_some]
         cases y with
         | none=>rfl
         | some z=>simp only [Option.map_some]; rw [<- XO.Bw,XO.FM _ _ hy.2]
     · have h7:=h6 p hp2
       obtain ⟨y,hy⟩:=Option.isSome_iff_exists.1 h7
       have hl:lk (ρ.map fun p=>(p.2,match lk st.s p.1 with | some x=>x.map (XO.AW (AW (XN E.s ++ ρ))) | none=>none)) p.2=some (y.map (XO.AW (AW (XN E.s ++ ρ)))):=by
         cases hl:lk (ρ.map fun p=>(p.2,match lk st.s p.1 with | some x=>x.map (XO.AW (AW (XN E.s ++ ρ))) | none=>none)) p.2 with
         | none=>exact absurd (List.mem_map.2 ⟨p,hp2,rfl⟩) (Hr hl _)
         | some z =>
           obtain ⟨p', hp', he⟩:=List.mem_map.1 (Cg hl)
           injection he with he1 he2
           have:=Km h1.2 (List.mem_append_right (XN E.s) hp') hp he1
           subst this
           rw [hy] at he2; rw [<- he2]
       rw [hl,hy]
       simp only [Option.map_some]
       cases y with
       | none=>rfl
       | some z=>simp only [Option.map_some,XO.Bw]
   | none =>
     simp only
     have hnone:∀ p ∈ XN E.s ++ ρ,p.2 ≠ n:=by
       intro p hp e
       have:=List.find?_eq_none.1 hf p hp
       simp [e] at this
     have hl1:lk (ρ.map fun p=>(p.2,match lk st.s p.1 with | some x=>x.map (XO.AW (AW (XN E.s ++ ρ))) | none=>none)) n=none:=by
       cases hl:lk (ρ.map fun p=>(p.2,match lk st.s p.1 with | some x=>x.map (XO.AW (AW (XN E.s ++ ρ))) | none=>none)) n with
       | none=>rfl
       | some z =>
         exfalso
         obtain ⟨p', hp', he⟩:=List.mem_map.1 (Cg hl)
         injection he with he1 he2
         exact hnone p' (List.mem_append_right _ hp') he1
     rw [hl1]
     cases hl:lk E.s n with
     | none=>rfl
     | some z=>exact absurd rfl (hnone (n,n) (List.mem_append_left _ (List.mem_map.2 ⟨_,Cg hl,rfl⟩)))
end Go.Proofs.YthoimblkpcikdaaGreatDoor.Mc
namespace Go.Proofs.YthoimblkpcikdaaGreatDoor.Mc
open Go.RowKit
variable [Mo]
variable {P:Program}{D:Au}
mutual
def X.BM (o:Nat)(r:Row)(rows:List r.den):X->X
 | .sl nl o'=>cond (Nat.beq o' o) (.fz nl r rows) (.sl nl o')
 | .sw o' off len=>cond (Nat.beq o' o) (.fz .u r ((rows.drop off).take len)) (.sw o' off len)
 | .pe o' i off=>cond (Nat.beq o' o) .dead (.pe o' i off)
 | .fn g caps=>.fn g (Hu o r rows caps)
 | .ag cs=>.ag (Hu o r rows cs)
 | .tp cs=>.tp (Hu o r rows cs)
 | .Aq t x=>.Aq t (X.BM o r rows x)
 | x=>x
def Hu (o:Nat)(r:Row)(rows:List r.den):List X->List X
 | []=>[]
 | x :: xs=>X.BM o r rows x :: Hu o r rows xs
end
omit [Mo] in
mutual
theorem X.GR (o:Nat)(r:Row)(rows:List r.den):∀ (x:X),(x.BM o r rows).enc=x.enc.BM o (rows.map r.en)
 | .sl nl o'=>by simp only [X.BM,X.enc,V.BM]; cases Nat.beq o' o <;> rfl
 | .sw o' off len=>by simp only [X.BM,X.enc,V.BM]; cases Nat.beq o' o <;> simp [X.enc,List.map_take,List.map_drop]
 | .pe o' i off=>by simp only [X.BM,X.enc,V.BM]; cases Nat.beq o' o <;> rfl
 | .fn g caps=>by simp only [X.BM,X.enc,V.BM,Ey o r rows caps]
 | .ag cs=>by simp only [X.BM,X.enc,V.BM,Ey o r rows cs]
 | .tp cs=>by simp only [X.BM,X.enc,V.BM,Ey o r rows cs]
 | .Aq t x=>by simp only [X.BM,X.enc,V.BM,X.GR o r rows x]
 | .c v=>by
   show X.enc (.c v)=V.BM o _ (X.enc (.c v))
   simp only [X.enc]
   cases plain v <;> rfl
 | .i k n=>rfl
 | .b q=>rfl
 | .s s=>rfl
 | .fz nl r' xs=>rfl
 | .pf r' x off=>rfl
 | .pt o' off=>rfl
 | .mp o'=>rfl
 | .it o'=>rfl
 | .sp o'=>rfl
 | .dead=>rfl
theorem Ey (o:Nat)(r:Row)(rows:List r.den):∀ (xs:List X),CG (Hu o r rows xs)=Qo o (rows.map r.en) (CG xs)
 | []=>rfl
 | x :: xs=>by simp only [Hu,CG,Qo,X.GR o r rows x,Ey o r rows xs]
end
def Qq (o n:Nat):Bool := !(Nat.beq n o)
omit [Mo] in
mutual
theorem X.Iu (o:Nat)(r:Row)(rows:List r.den):∀ (x:X),x.Em (Qq o)=true->x.BM o r rows=x
 | .sl nl o', h=>by have h':Qq o o' = true:=h; unfold Qq at h'; simp only [Bool.not_eq_true'] at h'; simp only [X.BM,h', cond_false]
 | .sw o' off len,h=>by have h':Qq o o' = true:=h; unfold Qq at h'; simp only [Bool.not_eq_true'] at h'; simp only [X.BM,h', cond_false]
 | .pe o' i off,h=>by have h':Qq o o' = true:=h; unfold Qq at h'; simp only [Bool.not_eq_true'] at h'; simp only [X.BM,h', cond_false]
 | .fn g caps,h=>by simp only [X.BM,Ep o r rows caps h]
 | .ag cs,h=>by simp only [X.BM,Ep o r rows cs h]
 | .tp cs,h=>by simp only [X.BM,Ep o r rows cs h]
 | .Aq t x,h=>by simp only [X.BM,X.Iu o r rows x h]
 | .c v,_=>rfl
 | .i k n,_=>rfl
 | .b q,_=>rfl
 | .s s,_=>rfl
 | .fz nl r' xs,_=>rfl
 | .pf r' x off,_=>rfl
 | .pt o' off,_=>rfl
 | .mp o', _=>rfl
 | .it o', _=>rfl
 | .sp o', _=>rfl
 | .dead,_=>rfl
theorem Ep (o:Nat)(r:Row)(rows:List r.den):∀ (xs:List X),ED (Qq o) xs=true->Hu o r rows xs=xs
 | [],_=>rfl
 | x :: xs,h=>by
   simp only [ED,Bool.and_eq_true] at h
   simp only [Hu,X.Iu o r rows x h.1,Ep o r rows xs h.2]
end
def XO.BM (o:Nat)(r:Row)(rows:List r.den):XO->XO
 | .bx e cells=>.bx e (Hu o r rows cells)
 | x=>x
omit [Mo] in
theorem XO.GR (o:Nat)(r:Row)(rows:List r.den)(x:XO):(x.BM o r rows).enc=O.BM o (rows.map r.en) x.enc:=by
 cases x with
 | bx e cells=>simp only [XO.BM,XO.enc,O.BM,Ey]
 | _=>rfl
omit [Mo] in
theorem XO.Iu (o:Nat)(r:Row)(rows:List r.den)(x:XO)(h:x.Em (Qq o)=true):x.BM o r rows=x:=by
 cases x with
 | bx e cells=>simp only [XO.BM,Ep o r rows cells h]
 | _=>rfl
omit [Mo] in
theorem MC {α β:Type}(f:Nat->α->β):∀ (l:List (Nat × α)) (n:Nat),lk (l.map fun p=>(p.1,f p.1 p.2)) n=(lk l n).map (f n)
 | [],n=>rfl
 | (i,a) :: l,n=>by
   rw [List.map_cons,lk,lk]
   cases hb:Nat.beq i n with
   | true=>rw [Nat.eq_of_beq_eq_true hb]; rfl
   | false=>exact MC f l n
def Da (E:XE) (o:Nat) (st:BC):Option BC :=
 match lk st.s o with
 | some (some (.ar _ r rows))=>cond (E.t.all (fun p=>p.2.Em (Qq o)) && E.s.all (fun p=>Qq o p.1 && iZ (Qq o) p.2))
     (some ⟨st.t.map fun p=>(p.1,p.2.BM o r rows),st.s.map fun p=>(p.1,cond (Nat.beq p.1 o) none (p.2.map (XO.BM o r rows)))⟩) none
 | _=>none
theorem Conv.Da {E:XE} {o:Nat} {st st':BC} (h:Mc.Da E o st=some st'):Conv AV (AG E st) (AG E st'):=by
 unfold Mc.Da at h
 split at h
 · rename_i e r rows hl
   obtain ⟨hc,rfl⟩:=AR h
   simp only [Bool.and_eq_true] at hc
   obtain ⟨h1,h2⟩:=hc
   rw [List.all_eq_true] at h1 h2
   have ho:encS (st.s ++ E.s) o=some (some (.ar e r.len (rows.map r.en))):=by unfold encS; rw [AX,hl]; rfl
   have:=Conv.dq (G:=AV) (t:=Ci (st.t ++ E.t)) (s:=encS (st.s ++ E.s)) (m:=E.n) (a:=E.a) o e r.len (rows.map r.en) ho
   have e1:(fun i=>(Ci (st.t ++ E.t) i).BM o (rows.map r.en))=Ci ((st.t.map fun p=>(p.1,p.2.BM o r rows)) ++ E.t):=by
     funext i
     rw [FW,FW,<- X.GR,AX,AX,MC (fun _ x=>X.BM o r rows x)]
     cases lk st.t i with
     | some x=>rfl
     | none =>
       simp only [Option.map_none]
       cases he:lk E.t i with
       | none=>rfl
       | some x=>simp only; rw [X.Iu o r rows x (h1 _ (Cg he))]
   have e2 : (fun n=>cond (Nat.beq n o) (some none) ((encS (st.s ++ E.s) n).map (·.map (O.BM o (rows.map r.en)))))=encS ((st.s.map fun p=>(p.1,cond (Nat.beq p.1 o) none (p.2.map (XO.BM o r rows)))) ++ E.s):=by
     funext n
     unfold encS
     rw [AX,AX,MC (fun (i:Nat) (x:Option XO)=>cond (Nat.beq i o) none (x.map (XO.BM o r rows)))]
     cases hb:Nat.beq n o with
     | true =>
       have:=Nat.eq_of_beq_eq_true hb
       subst this
       rw [hl]; simp
     | false =>
       cases hs:lk st.s n with
       | some x=>cases x <;> simp [XO.GR]
       | none =>
         simp only [Option.map_none,cond_false]
         cases he:lk E.s n with
         | none=>rfl
         | some x =>
           have:=h2 _ (Cg he)
           simp only [Bool.and_eq_true] at this
           cases x with
           | none=>rfl
           | some y=>simp only [Option.map_some]; rw [<- XO.GR,XO.Iu o r rows y this.2]
   show Conv AV ⟨_,_,_,_⟩ ⟨_,_,_,_⟩
   rw [e1,e2] at this
   exact this
 · cases h
def GJ (E:XE)(i d e:Nat)(r:Row)(st:BC):Option BC :=
 match lk st.t i with
 | some (.c v)=>cond (DX v && (lk (st.s ++ E.s) d).isNone && Nat.blt 0 r.len) (some ⟨(i,.sl .n d) :: st.t,(d,some (.ar e r [])) :: st.s⟩) none
 | _=>none
omit [Mo] in
theorem JK {s:XS}{d:Nat}(h:(lk s d).isNone=true):encS s d=none:=by
 rw [Option.isNone_iff_eq_none] at h
 unfold encS; rw [h]
theorem Conv.GJ {E:XE}{i d e:Nat}{r:Row}{st st':BC}(h:Mc.GJ E i d e r st=some st'):Conv AV (AG E st) (AG E st'):=by
 unfold Mc.GJ at h
 split at h
 · rename_i v hl
   obtain ⟨hc,rfl⟩:=AR h
   simp only [Bool.and_eq_true] at hc
   obtain ⟨⟨h1,h2⟩,h3⟩:=hc
   have hv:=Cj h1
   subst hv
   have hi:Ci (st.t ++ E.t) i=.t (.sc (.slice none 0 0)):=by unfold Ci; rw [AX,hl]; simp [X.enc,plain]
   have:=Conv.ma (G:=AV) (t:=Ci (st.t ++ E.t)) (s:=encS (st.s ++ E.s)) (m:=E.n) (a:=E.a) i d e r.len hi (JK h2) h3
   show Conv AV ⟨_,_,_,_⟩ ⟨_,_,_,_⟩
   rw [List.cons_append,JJ]
   rw [show encS ((d,some (XO.ar e r [])) :: st.s ++ E.s)=Ak (encS (st.s ++ E.s)) d (some (some (.ar e r.len []))) from Ei [(d,some (XO.ar e r []))] (st.s ++ E.s)]
   exact this
 · cases h
def Ir (E:XE)(o j d e:Nat)(r:Row)(st:BC):Option BC :=
 match lk st.s o with
 | some (some (.bx e0 cells))=>match cells[j]? with
   | some (.c v)=>cond (DX v && (lk (st.s ++ E.s) d).isNone && Nat.blt 0 r.len) (some ⟨st.t,(o,some (.bx e0 (cells.set j (.sl .n d)))) :: (d,some (.ar e r [])) :: st.s⟩) none
   | _=>none
 | _=>none
theorem Conv.Ir {E:XE} {o j d e:Nat} {r:Row} {st st':BC} (h:Mc.Ir E o j d e r st=some st'):Conv AV (AG E st) (AG E st'):=by
 unfold Mc.Ir at h
 split at h
 · rename_i e0 cells hl
   split at h
   · rename_i v hj
     obtain ⟨hc,rfl⟩:=AR h
     simp only [Bool.and_eq_true] at hc
     obtain ⟨⟨h1,h2⟩,h3⟩:=hc
     have hv:=Cj h1
     subst hv
     have ho:encS (st.s ++ E.s) o=some (some (.bx e0 (CG cells))):=by unfold encS; rw [AX,hl]; rfl
     have:=Conv.jb (G:=AV) (t:=Ci (st.t ++ E.t)) (s:=encS (st.s ++ E.s)) (m:=E.n) (a:=E.a) o e0 (CG cells) j d e r.len ho (by rw [Ac,List.getElem?_map,hj]; simp [X.enc,plain]) (JK h2) h3
     show Conv AV ⟨_,_,_,_⟩ ⟨_,_,_,_⟩
     rw [show encS ((o,some (XO.bx e0 (cells.set j (.sl .n d)))) :: (d,some (XO.ar e r [])) :: st.s ++ E.s)=Ak (Ak (encS (st.s ++ E.s)) d (some (some (.ar e r.len [])))) o (some (some (.bx e0 ((CG cells).set j (.sl .n d))))) from by
       have:=Ei [(o,some (XO.bx e0 (cells.set j (.sl .n d)))),(d,some (XO.ar e r []))] (st.s ++ E.s)
       rw [show CG cells=cells.map X.enc from Ac cells,<- show (cells.set j (X.sl .n d)).map X.enc=(cells.map X.enc).set j (.sl .n d) from List.map_set,<- Ac]
       exact this]
     exact this
   · cases h
 · cases h
def Wk (x y:V):Prop:=∀ (w:World) (F:Nat->Prop) (loc:Nat->Option Loc) (v:Value),AF w F loc x v->AF w F loc y v
omit [Mo] in
theorem Wk.refl (x:V):Wk x x:=fun _ _ _ _ h=>h
omit [Mo] in
theorem Wk.of {x y:V}(h:HR x y):Wk x y:=fun _ _ _ _ k=>h.rel k
def Vh (xs ys:List V):Prop:=xs.length=ys.length/\∀ (j:Nat) (y:V),ys[j]? = some y->∃ x,xs[j]? = some x/\Wk x y
omit [Mo] in
theorem Vh.nil:Vh [] []:=⟨rfl,fun j y h=>by simp at h⟩
omit [Mo] in
theorem Vh.cons {x y:V}{xs ys:List V}(h:Wk x y)(k:Vh xs ys):Vh (x :: xs) (y :: ys):=by
 refine ⟨by simp [k.1],fun j z hz=>?_⟩
 cases j with
 | zero=>cases hz; exact ⟨x,rfl,h⟩
 | succ j=>exact k.2 j z (by simpa using hz)
omit [Mo] in
theorem Wk.ag {xs ys:List V}(h:Vh xs ys):Wk (.ag xs) (.ag ys):=by
 intro w F loc v k
 cases k with
 | gone _ o _ hx _=>cases hx
 | ag _ vs val hl hv hr =>
   refine .ag ys vs val (by rw [<- h.1]; exact hl) (fun j hj=>hv j (by rw [h.1]; exact hj)) (fun j y hy=>?_)
   obtain ⟨x,hx,hw⟩:=h.2 j y hy
   exact hw _ _ _ _ (hr j x hx)
omit [Mo] in
theorem Wk.tp {xs ys:List V}(h:Vh xs ys):Wk (.tp xs) (.tp ys):=by
 intro w F loc v k
 cases k with
 | gone _ o _ hx _=>cases hx
 | tp _ vs val hl hv hr =>
   refine .tp ys vs val (by rw [<- h.1]; exact hl) (fun j hj=>hv j (by rw [h.1]; exact hj)) (fun j y hy=>?_)
   obtain ⟨x,hx,hw⟩:=h.2 j y hy
   exact hw _ _ _ _ (hr j x hx)
omit [Mo] in
theorem Wk.fn {f:FuncId}{xs ys:List V}(h:Vh xs ys):Wk (.fn f xs) (.fn f ys):=by
 intro w F loc v k
 cases k with
 | gone _ o _ hx _=>cases hx
 | fn _ _ vs val hl hv hr =>
   refine .fn f ys vs val (by rw [<- h.1]; exact hl) (fun j hj=>hv j (by rw [h.1]; exact hj)) (fun j y hy=>?_)
   obtain ⟨x,hx,hw⟩:=h.2 j y hy
   exact hw _ _ _ _ (hr j x hx)
omit [Mo] in
theorem Wk.Aq {t:TypeId}{x y:V}(h:Wk x y):Wk (.Aq t x) (.Aq t y):=by
 intro w F loc v k
 cases k with
 | gone _ o _ hx _=>cases hx
 | Aq _ _ v hv=>exact .Aq _ _ _ (h _ _ _ _ hv)
theorem AL.mg {B:BH} {w:World} {F:Nat->Prop} {loc:Nat->Option Loc} {s:AB} (hS:AL AV B w F loc s) {o e:Nat} {xs ys:List V} (ho:s o=some (some (.bx e xs))) (h:Vh xs ys) :
   AL AV B w F loc (Ak s o (some (some (.bx e ys)))):=by
 refine { hS with Cy:=fun o' obj h'=>?_,Gp:=fun o' l hl'=>?_ }
 · by_cases hod:o' = o
   · subst hod
     rw [AA] at h'; cases h'
     obtain ⟨l,h1,h2⟩:=hS.Cy o' _ ho
     refine ⟨l,h1,?_⟩
     cases h2 with
     | bx _ _ cs b hb hl hr =>
       refine .bx e ys cs b hb (by rw [<- h.1]; exact hl) fun j y hy=>?_
       obtain ⟨x,hx,hw⟩:=h.2 j y hy
       obtain ⟨v,h3,h4,h5⟩:=hr j x hx
       exact ⟨v,h3,h4,hw _ _ _ _ h5⟩
   · rw [AH _ _ hod] at h'; exact hS.Cy o' obj h'
 · by_cases hod:o' = o
   · subst hod; exact ⟨_,AA _ _ _⟩
   · rw [AH _ _ hod]; exact hS.Gp o' l hl'
inductive Ah where | ti | tb | ts | tn | tl (r:Row) | tw (r:Row) | tm (t:MT) | tq (t:MT)
def Ah.den:Ah->Type
 | .ti=>Int
 | .tb=>Bool
 | .ts=>ByteArray
 | .tn=>Nat
 | .tl r=>List r.den
 | .tw r=>r.den
 | .tm t=>t.den
 | .tq t=>t.den × t.den
def Ah.eq? : (a b:Ah)->Option (PLift (a=b))
 | .ti,.ti=>some ⟨rfl⟩
 | .tb,.tb=>some ⟨rfl⟩
 | .ts,.ts=>some ⟨rfl⟩
 | .tn,.tn=>some ⟨rfl⟩
 | .tl r,.tl r'=>match Row.eq? r r' with | some h=>some ⟨by rw [h.down]⟩ | none=>none
 | .tw r,.tw r'=>match Row.eq? r r' with | some h=>some ⟨by rw [h.down]⟩ | none=>none
 | .tm t,.tm t'=>match MT.eq? t t' with | some h=>some ⟨by rw [h.down]⟩ | none=>none
 | .tq t,.tq t'=>match MT.eq? t t' with | some h=>some ⟨by rw [h.down]⟩ | none=>none
 | _,_=>none
structure HV where
 t:Ah
 v:t.den
def Tup:List Ah->Type
 | []=>Unit
 | [t]=>t.den
 | t :: t' :: ts=>t.den × Tup (t' :: ts)
def Bc:(ts:List Ah)->Tup ts->List HV
 | [],_=>[]
 | [t],x=>[⟨t,x⟩]
 | t :: t' :: ts,x=>⟨t,x.1⟩ :: Bc (t' :: ts) x.2
def Dx:(ts:List Ah)->List HV->Option (Tup ts)
 | [],[]=>some ()
 | [t],[⟨t', v⟩]=>match Ah.eq? t' t with | some h=>some (h.down ▸ v) | none=>none
 | t :: t' :: ts,⟨u,v⟩ :: l=>match Ah.eq? u t,Dx (t' :: ts) l with | some h,some y=>some (h.down ▸ v,y) | _,_=>none
 | _,_=>none
omit [Mo] in
theorem DK:∀ (ts:List Ah) (l:List HV) (y:Tup ts),Dx ts l=some y->Bc ts y=l
 | [],[],y,_=>rfl
 | [t],[⟨t', v⟩],y,h=>by
   simp only [Dx] at h
   split at h
   · rename_i g _
     obtain ⟨g⟩:=g
     subst g
     cases h; rfl
   · cases h
 | t :: t' :: ts,⟨u,v⟩ :: l,y,h=>by
   simp only [Dx] at h
   split at h
   · rename_i g z _ hz
     obtain ⟨g⟩:=g
     subst g
     cases h
     simp only [Bc]
     rw [DK (t' :: ts) l z hz]
   · cases h
 | [],_ :: _,_,h=>by simp [Dx] at h
 | [t],[],_,h=>by simp [Dx] at h
 | [t],_ :: _ :: _,_,h=>by simp [Dx] at h
 | t :: t' :: ts,[],_,h=>by simp [Dx] at h
end Go.Proofs.YthoimblkpcikdaaGreatDoor.Mc
namespace Go.Proofs.YthoimblkpcikdaaGreatDoor.Mc
open Go.RowKit
variable [Mo]
variable {P:Program}{D:Au}
inductive Sh where
 | i (k:IntKind)
 | b
 | s
 | li (k:IntKind) (n:Int)
 | lb (q:Bool)
 | c (v:Value)
 | fz (nl:Nl) (r:Row)
 | sl (nl:Nl) (o:Nat)
 | sw (o:Nat)
 | pt (o off:Nat)
 | pe (o off:Nat)
 | pf (r:Row) (off:Nat)
 | mp (o:Nat)
 | it (o:Nat)
 | sp (o:Nat)
 | fn (f:FuncId) (l:List Sh)
 | ag (l:List Sh)
 | tp (l:List Sh)
 | Aq (t:TypeId) (x:Sh)
 | dead
def Vs:Value->Value->Bool
 | .pointer none,.pointer none=>true
 | .slice none 0 0,.slice none 0 0=>true
 | .map none,.map none=>true
 | .nilFunc,.nilFunc=>true
 | .nilIface,.nilIface=>true
 | .func (.func f) a b,.func (.func f') a' b'=>Nat.beq f f' && a.isEmpty && b.isEmpty && a'.isEmpty && b'.isEmpty
 | _,_=>false
omit [Mo] in
theorem Mi {v w:Value}(h:Vs v w=true):v=w:=by
 unfold Vs at h
 split at h
 all_goals first
   | rfl
   | cases h
   | skip
 rename_i f a b f' a' b'
 simp only [Bool.and_eq_true] at h
 obtain ⟨⟨⟨⟨h1,h2⟩,h3⟩,h4⟩,h5⟩:=h
 have e1:=Nat.eq_of_beq_eq_true h1
 simp only [Array.isEmpty_iff] at h2 h3 h4 h5
 rw [e1,h2,h3,h4,h5]
def Wu:Nl->Nl->Bool
 | .e,.e=>true
 | .n,.n=>true
 | _,.u=>true
 | _,_=>false
def eU:Nl->Bool | .e=>false | _=>true
mutual
def Ar:Sh->X->Option (List HV)
 | .i k,.i k' n=>if k' = k then some [⟨.ti,n⟩] else none
 | .b,.b q=>some [⟨.tb,q⟩]
 | .s,.s x=>some [⟨.ts,x⟩]
 | .li k m,.i k' n=>if k' = k/\n=m then some [] else none
 | .lb p,.b q=>if q=p then some [] else none
 | .c v,.c w=>cond (Vs w v) (some []) none
 | .fz nl r,.fz nl' r' xs=>cond (Wu nl' nl) (match Row.eq? r' r with | some h=>some [⟨.tl r,h.down ▸ xs⟩] | none=>none) none
 | .fz nl r,.c v=>cond (eU nl && DX v) (some [⟨.tl r,[]⟩]) none
 | .sl nl o,.sl nl' o'=>cond (Wu nl' nl && Nat.beq o' o) (some []) none
 | .sw o,.sw o' off len=>cond (Nat.beq o' o) (some [⟨.tn,off⟩,⟨.tn,len⟩]) none
 | .pt o off,.pt o' off'=>cond (Nat.beq o' o && Nat.beq off' off) (some []) none
 | .pe o off,.pe o' i off'=>cond (Nat.beq o' o && Nat.beq off' off) (some [⟨.tn,i⟩]) none
 | .pf r off,.pf r' x off'=>cond (Nat.beq off' off) (match Row.eq? r' r with | some h=>some [⟨.tw r,h.down ▸ x⟩] | none=>none) none
 | .mp o,.mp o'=>cond (Nat.beq o' o) (some []) none
 | .it o,.it o'=>cond (Nat.beq o' o) (some []) none
 | .sp o,.sp o'=>cond (Nat.beq o' o) (some []) none
 | .sp o,.pt o' off=>cond (Nat.beq o' o && Nat.beq off 0) (some []) none
 | .sp _,.c v=>cond (Vs v (.pointer none)) (some []) none
 | .fn f l,.fn f' xs=>cond (Nat.beq f' f) (Kr l xs) none
 | .ag l,.ag xs=>Kr l xs
 | .tp l,.tp xs=>Kr l xs
 | .Aq t s,.Aq t' x=>cond (Nat.beq t' t) (Ar s x) none
 | .dead,_=>some []
 | _,_=>none
def Kr:List Sh->List X->Option (List HV)
 | [],[]=>some []
 | s :: l,x :: xs=>match Ar s x,Kr l xs with
   | some a,some b=>some (a ++ b)
   | _,_=>none
 | _,_=>none
end
mutual
def Bf:Sh->List HV->X × List HV
 | .i k,⟨.ti,n⟩ :: l=>(.i k n,l)
 | .b,⟨.tb,q⟩ :: l=>(.b q,l)
 | .s,⟨.ts,x⟩ :: l=>(.s x,l)
 | .li k m,l=>(.i k m,l)
 | .lb p,l=>(.b p,l)
 | .c v,l=>(.c v,l)
 | .fz nl _,⟨.tl r,xs⟩ :: l=>(.fz nl r xs,l)
 | .sl nl o,l=>(.sl nl o,l)
 | .sw o,⟨.tn,off⟩ :: ⟨.tn,len⟩ :: l=>(.sw o off len,l)
 | .pt o off,l=>(.pt o off,l)
 | .pe o off,⟨.tn,i⟩ :: l=>(.pe o i off,l)
 | .pf _ off,⟨.tw r,x⟩ :: l=>(.pf r x off,l)
 | .mp o,l=>(.mp o,l)
 | .it o,l=>(.it o,l)
 | .sp o,l=>(.sp o,l)
 | .fn f ss,l=>let p:=DI ss l; (.fn f p.1,p.2)
 | .ag ss,l=>let p:=DI ss l; (.ag p.1,p.2)
 | .tp ss,l=>let p:=DI ss l; (.tp p.1,p.2)
 | .Aq t s,l=>let p:=Bf s l; (.Aq t p.1,p.2)
 | _,l=>(.dead,l)
def DI:List Sh->List HV->List X × List HV
 | [],l=>([],l)
 | s :: ss,l=>let p:=Bf s l; let q:=DI ss p.2; (p.1 :: q.1,q.2)
end
mutual
def Sh.eJ:Sh->List Ah
 | .i _=>[.ti]
 | .b=>[.tb]
 | .s=>[.ts]
 | .fz _ r=>[.tl r]
 | .sw _=>[.tn,.tn]
 | .pe _ _=>[.tn]
 | .pf r _=>[.tw r]
 | .fn _ l=>QQ l
 | .ag l=>QQ l
 | .tp l=>QQ l
 | .Aq _ s=>s.eJ
 | _=>[]
def QQ:List Sh->List Ah
 | []=>[]
 | s :: l=>s.eJ ++ QQ l
end
omit [Mo] in
theorem lC {nl nl':Nl}{rows:List (List T)}(h:Wu nl' nl=true):Wk (.t (.fz nl' rows)) (.t (.fz nl rows)):=by
 cases nl <;> cases nl' <;> first | (cases h; done) | exact Wk.refl _ | exact Wk.of (.fz _ _)
omit [Mo] in
theorem mO {nl nl':Nl}{o:Nat}(h:Wu nl' nl=true):Wk (.sl nl' o) (.sl nl o):=by
 cases nl <;> cases nl' <;> first | (cases h; done) | exact Wk.refl _ | exact Wk.of (.sl _ _)
omit [Mo] in
theorem fe {nl:Nl}(h:eU nl=true):Wk (.t (.sc (.slice none 0 0))) (.t (.fz nl [])):=Wk.of (.nil nl (by rintro rfl; cases h))
omit [Mo] in
theorem lL (o:Nat):Wk (.pt o 0) (.sp o):=fun w F loc v h=>by
 cases h with
 | gone _ o' _ hx ho=>cases hx; exact .gone _ o _ rfl ho
 | pt _ _ b ho=>exact .sp o b ho
omit [Mo] in
theorem fa (o:Nat):Wk (X.enc (.c (.pointer none))) (.sp o):=fun w F loc v h=>by
 have h':AF w F loc (.t (.sc (.pointer none))) v:=h
 rw [AU h']
 exact .bV o
omit [Mo] in
mutual
theorem Md:∀ (sh:Sh) (x:X) (hs l:List HV),Ar sh x=some hs->∃ x', Bf sh (hs ++ l)=(x', l)/\Wk x.enc x'.enc
 | .dead,x,hs,l,h=>by simp only [Ar] at h; cases h; exact ⟨.dead,rfl,Wk.of (.dead _)⟩
 | .i k,.i k' n,hs,l,h=>by
   simp only [Ar] at h
   split at h
   · rename_i hk; cases h; subst hk; exact ⟨_,rfl,Wk.refl _⟩
   · cases h
 | .b,.b q,hs,l,h=>by simp only [Ar] at h; cases h; exact ⟨_,rfl,Wk.refl _⟩
 | .s,.s q,hs,l,h=>by simp only [Ar] at h; cases h; exact ⟨_,rfl,Wk.refl _⟩
 | .li k m,.i k' n,hs,l,h=>by
   simp only [Ar] at h
   split at h
   · rename_i hk; cases h; obtain ⟨rfl,rfl⟩:=hk; exact ⟨_,rfl,Wk.refl _⟩
   · cases h
 | .lb p,.b q,hs,l,h=>by
   simp only [Ar] at h
   split at h
   · rename_i hk; cases h; subst hk; exact ⟨_,rfl,Wk.refl _⟩
   · cases h
 | .c v,.c w,hs,l,h=>by
   simp only [Ar] at h
   obtain ⟨h1,rfl⟩:=AR h
   exact ⟨_,rfl,by rw [Mi h1]; exact Wk.refl _⟩
 | .fz nl r,.fz nl' r' xs,hs,l,h=>by
   simp only [Ar] at h
   cases hc:Wu nl' nl with
   | false=>rw [hc] at h; cases h
   | true =>
     rw [hc] at h
     simp only [cond_true] at h
     split at h
     · rename_i g _
       obtain ⟨g⟩:=g
       subst g
       cases h; exact ⟨_,rfl,lC hc⟩
     · cases h
 | .fz nl r,.c v,hs,l,h=>by
   simp only [Ar] at h
   obtain ⟨h1,rfl⟩:=AR h
   simp only [Bool.and_eq_true] at h1
   obtain rfl:=Cj h1.2
   exact ⟨_,rfl,fe h1.1⟩
 | .sl nl o,.sl nl' o', hs,l,h=>by
   simp only [Ar] at h
   obtain ⟨h1,rfl⟩:=AR h
   simp only [Bool.and_eq_true] at h1
   exact ⟨_,rfl,by rw [Nat.eq_of_beq_eq_true h1.2]; exact mO h1.1⟩
 | .sw o,.sw o' off len,hs,l,h=>by
   simp only [Ar] at h
   obtain ⟨h1,rfl⟩:=AR h
   exact ⟨_,rfl,by rw [Nat.eq_of_beq_eq_true h1]; exact Wk.refl _⟩
 | .pt o off,.pt o' off', hs,l,h=>by
   simp only [Ar] at h
   obtain ⟨h1,rfl⟩:=AR h
   simp only [Bool.and_eq_true] at h1
   exact ⟨_,rfl,by rw [Nat.eq_of_beq_eq_true h1.1,Nat.eq_of_beq_eq_true h1.2]; exact Wk.refl _⟩
 | .pe o off,.pe o' i off', hs,l,h=>by
   simp only [Ar] at h
   obtain ⟨h1,rfl⟩:=AR h
   simp only [Bool.and_eq_true] at h1
   exact ⟨_,rfl,by rw [Nat.eq_of_beq_eq_true h1.1,Nat.eq_of_beq_eq_true h1.2]; exact Wk.refl _⟩
 | .pf r off,.pf r' x off', hs,l,h=>by
   simp only [Ar] at h
   cases hc:Nat.beq off' off with
   | false=>rw [hc] at h; cases h
   | true =>
     rw [hc] at h
     simp only [cond_true] at h
     split at h
     · rename_i g _
       obtain ⟨g⟩:=g
       subst g
       cases h; exact ⟨_,rfl,by rw [Nat.eq_of_beq_eq_true hc]; exact Wk.refl _⟩
     · cases h
 | .mp o,.mp o', hs,l,h=>by
   simp only [Ar] at h
   obtain ⟨h1,rfl⟩:=AR h
   exact ⟨_,rfl,by rw [Nat.eq_of_beq_eq_true h1]; exact Wk.refl _⟩
 | .it o,.it o', hs,l,h=>by
   simp only [Ar] at h
   obtain ⟨h1,rfl⟩:=AR h
   exact ⟨_,rfl,by rw [Nat.eq_of_beq_eq_true h1]; exact Wk.refl _⟩
 | .sp o,.sp o', hs,l,h=>by
   simp only [Ar] at h
   obtain ⟨h1,rfl⟩:=AR h
   exact ⟨_,rfl,by rw [Nat.eq_of_beq_eq_true h1]; exact Wk.refl _⟩
 | .sp o,.pt o' off,hs,l,h=>by
   simp only [Ar] at h
   obtain ⟨h1,rfl⟩:=AR h
   simp only [Bool.and_eq_true] at h1
   exact ⟨_,rfl,by rw [Nat.eq_of_beq_eq_true h1.1,Nat.eq_of_beq_eq_true h1.2]; exact lL o⟩
 | .sp o,.c v,hs,l,h=>by
   simp only [Ar] at h
   obtain ⟨h1,rfl⟩:=AR h
   exact ⟨_,rfl,by rw [Mi h1]; exact fa o⟩
 | .fn f ss,.fn f' xs,hs,l,h=>by
   simp only [Ar] at h
   cases hc:Nat.beq f' f with
   | false=>rw [hc] at h; cases h
   | true =>
     rw [hc] at h
     obtain ⟨xs', h1,h2⟩:=Ge ss xs hs l h
     exact ⟨.fn f xs', by simp only [Bf,h1],by rw [Nat.eq_of_beq_eq_true hc]; simp only [X.enc,Ac]; exact Wk.fn h2⟩
 | .ag ss,.ag xs,hs,l,h=>by
   simp only [Ar] at h
   obtain ⟨xs', h1,h2⟩:=Ge ss xs hs l h
   exact ⟨.ag xs', by simp only [Bf,h1],by simp only [X.enc,Ac]; exact Wk.ag h2⟩
 | .tp ss,.tp xs,hs,l,h=>by
   simp only [Ar] at h
   obtain ⟨xs', h1,h2⟩:=Ge ss xs hs l h
   exact ⟨.tp xs', by simp only [Bf,h1],by simp only [X.enc,Ac]; exact Wk.tp h2⟩
 | .Aq t s,.Aq t' x,hs,l,h=>by
   simp only [Ar] at h
   cases hc:Nat.beq t' t with
   | false=>rw [hc] at h; cases h
   | true =>
     rw [hc] at h
     obtain ⟨x', h1,h2⟩:=Md s x hs l h
     exact ⟨.Aq t x', by simp only [Bf,h1],by rw [Nat.eq_of_beq_eq_true hc]; exact Wk.Aq h2⟩
theorem Ge:∀ (ss:List Sh) (xs:List X) (hs l:List HV),Kr ss xs=some hs->∃ xs', DI ss (hs ++ l)=(xs', l)/\Vh (xs.map X.enc) (xs'.map X.enc)
 | [],[],hs,l,h=>by simp only [Kr] at h; cases h; exact ⟨[],rfl,Vh.nil⟩
 | s :: ss,x :: xs,hs,l,h=>by
   simp only [Kr] at h
   split at h
   · rename_i a b ha hb
     cases h
     obtain ⟨x', h1,h2⟩:=Md s x a (b ++ l) ha
     obtain ⟨xs', h3,h4⟩:=Ge ss xs b l hb
     refine ⟨x' :: xs', ?_,?_⟩
     · rw [List.append_assoc]; simp only [DI,h1,h3]
     · exact Vh.cons h2 h4
   · cases h
end
end Go.Proofs.YthoimblkpcikdaaGreatDoor.Mc
namespace Go.Proofs.YthoimblkpcikdaaGreatDoor.Mc
open Go.RowKit
variable [Mo]
set_option linter.constructorNameAsVariable false
variable {P:Program}{D:Au}
inductive Fj where
 | ar (e:TypeId) (r:Row)
 | bx (e:TypeId) (l:List Sh)
 | mp (t:MT)
 | mq (t:MT) (i:Nat)
 | si
 | mi (m:Nat)
 | gone
structure JE where
 t:List (Nat × Sh)
 s:List (Nat × Fj)
def Ay:Fj->Option XO->Option (List HV)
 | .ar e r,some (.ar e' r' xs)=>cond (Nat.beq e' e) (match Row.eq? r' r with | some h=>some [⟨.tl r,h.down ▸ xs⟩] | none=>none) none
 | .bx e l,some (.bx e' cells)=>cond (Nat.beq e' e) (Kr l cells) none
 | .mp t,some (.mp t' es)=>match MT.eq? t' t with | some h=>some [⟨.tm t,h.down ▸ es⟩] | none=>none
 | .mq t i,some (.mq t' es i' rest _)=>cond (Nat.beq i' i) (match MT.eq? t' t with | some h=>some [⟨.tq t,h.down ▸ (es,rest)⟩] | none=>none) none
 | .si,some (.si s pos)=>some [⟨.ts,s⟩,⟨.tn,pos⟩]
 | .mi m,some (.mi m')=>cond (Nat.beq m' m) (some []) none
 | .gone,none=>some []
 | _,_=>none
def Mk:Fj->List HV->Option XO × List HV
 | .ar e _,⟨.tl r,xs⟩ :: l=>(some (.ar e r xs),l)
 | .bx e ss,l=>let p:=DI ss l; (some (.bx e p.1),p.2)
 | .mp _,⟨.tm t,es⟩ :: l=>(some (.mp t es),l)
 | .mq _ i,⟨.tq t,p⟩ :: l=>(some (.mq t p.1 i p.2 []),l)
 | .si,⟨.ts,s⟩ :: ⟨.tn,pos⟩ :: l=>(some (.si s pos),l)
 | .mi m,l=>(some (.mi m),l)
 | _,l=>(none,l)
def qe (x y:Option XO):Prop:=x=y\/(∃ e xs ys,x=some (.bx e xs)/\y=some (.bx e ys)/\Vh (xs.map X.enc) (ys.map X.enc))\/(∃ t es i rest cu,x=some (.mq t es i rest cu)/\y=some (.mq t es i rest []))\/∃ e r xs,e < 1000000/\x=some (.ar e r xs)/\y=some (.ar (e+2000000) r xs)
omit [Mo] in
theorem LR:∀ (o:Fj) (x:Option XO) (hs l:List HV),Ay o x=some hs->∃ x', Mk o (hs ++ l)=(x', l)/\qe x x'
 | .ar e r,some (.ar e' r' xs),hs,l,h=>by
   simp only [Ay] at h
   cases hc:Nat.beq e' e with
   | false=>rw [hc] at h; cases h
   | true =>
     rw [hc] at h
     simp only [cond_true] at h
     split at h
     · rename_i g _
       obtain ⟨g⟩:=g
       subst g
       cases h
       exact ⟨_,rfl,.inl (by rw [Nat.eq_of_beq_eq_true hc])⟩
     · cases h
 | .bx e ss,some (.bx e' cells),hs,l,h=>by
   simp only [Ay] at h
   cases hc:Nat.beq e' e with
   | false=>rw [hc] at h; cases h
   | true =>
     rw [hc] at h
     obtain ⟨xs', h1,h2⟩:=Ge ss cells hs l h
     refine ⟨some (.bx e xs'),by simp only [Mk,h1],.inr (.inl ⟨e,cells,xs', by rw [Nat.eq_of_beq_eq_true hc],rfl,h2⟩)⟩
 | .mp t,some (.mp t' es),hs,l,h=>by
   simp only [Ay] at h
   split at h
   · rename_i g _
     obtain ⟨g⟩:=g
     subst g
     cases h
     exact ⟨_,rfl,.inl rfl⟩
   · cases h
 | .mq t i,some (.mq t' es i' rest cu),hs,l,h=>by
   simp only [Ay] at h
   cases hc:Nat.beq i' i with
   | false=>rw [hc] at h; cases h
   | true =>
     rw [hc] at h
     simp only [cond_true] at h
     split at h
     · rename_i g _
       obtain ⟨g⟩:=g
       subst g
       cases h
       exact ⟨_,rfl,.inr (.inr (.inl ⟨t', es,i,rest,cu,by rw [Nat.eq_of_beq_eq_true hc],rfl⟩))⟩
     · cases h
 | .mi m,some (.mi m'),hs,l,h=>by
   simp only [Ay] at h
   obtain ⟨h1,rfl⟩:=AR h
   exact ⟨some (.mi m),rfl,.inl (by rw [Nat.eq_of_beq_eq_true h1])⟩
 | .si,some (.si s pos),hs,l,h=>by simp only [Ay] at h; cases h; exact ⟨_,rfl,.inl rfl⟩
 | .gone,none,hs,l,h=>by simp only [Ay] at h; cases h; exact ⟨none,by simp [Mk],.inl rfl⟩
 | .ar _ _,none,_,_,h=>by simp [Ay] at h
 | .ar _ _,some (.bx _ _),_,_,h=>by simp [Ay] at h
 | .ar _ _,some (.mp _ _),_,_,h=>by simp [Ay] at h
 | .ar _ _,some (.mq _ _ _ _ _),_,_,h=>by simp [Ay] at h
 | .ar _ _,some (.si _ _),_,_,h=>by simp [Ay] at h
 | .ar _ _,some (.mi _),_,_,h=>by simp [Ay] at h
 | .bx _ _,none,_,_,h=>by simp [Ay] at h
 | .bx _ _,some (.ar _ _ _),_,_,h=>by simp [Ay] at h
 | .bx _ _,some (.mp _ _),_,_,h=>by simp [Ay] at h
 | .bx _ _,some (.mq _ _ _ _ _),_,_,h=>by simp [Ay] at h
 | .bx _ _,some (.si _ _),_,_,h=>by simp [Ay] at h
 | .bx _ _,some (.mi _),_,_,h=>by simp [Ay] at h
 | .mp _,none,_,_,h=>by simp [Ay] at h
 | .mp _,some (.ar _ _ _),_,_,h=>by simp [Ay] at h
 | .mp _,some (.bx _ _),_,_,h=>by simp [Ay] at h
 | .mp _,some (.mq _ _ _ _ _),_,_,h=>by simp [Ay] at h
 | .mp _,some (.si _ _),_,_,h=>by simp [Ay] at h
 | .mp _,some (.mi _),_,_,h=>by simp [Ay] at h
 | .mq _ _,none,_,_,h=>by simp [Ay] at h
 | .mq _ _,some (.ar _ _ _),_,_,h=>by simp [Ay] at h
 | .mq _ _,some (.bx _ _),_,_,h=>by simp [Ay] at h
 | .mq _ _,some (.mp _ _),_,_,h=>by simp [Ay] at h
 | .mq _ _,some (.si _ _),_,_,h=>by simp [Ay] at h
 | .mq _ _,some (.mi _),_,_,h=>by simp [Ay] at h
 | .si,none,_,_,h=>by simp [Ay] at h
 | .si,some (.ar _ _ _),_,_,h=>by simp [Ay] at h
 | .si,some (.bx _ _),_,_,h=>by simp [Ay] at h
 | .si,some (.mp _ _),_,_,h=>by simp [Ay] at h
 | .si,some (.mq _ _ _ _ _),_,_,h=>by simp [Ay] at h
 | .si,some (.mi _),_,_,h=>by simp [Ay] at h
 | .mi _,none,_,_,h=>by simp [Ay] at h
 | .mi _,some (.ar _ _ _),_,_,h=>by simp [Ay] at h
 | .mi _,some (.bx _ _),_,_,h=>by simp [Ay] at h
 | .mi _,some (.mp _ _),_,_,h=>by simp [Ay] at h
 | .mi _,some (.mq _ _ _ _ _),_,_,h=>by simp [Ay] at h
 | .mi _,some (.si _ _),_,_,h=>by simp [Ay] at h
 | .gone,some _,_,_,h=>by simp [Ay] at h
def UU:List (Nat × Sh)->XT->Option (List HV)
 | [],[]=>some []
 | (i,sh) :: l,(j,x) :: t=>cond (Nat.beq j i) (match Ar sh x,UU l t with | some a,some b=>some (a ++ b) | _,_=>none) none
 | _,_=>none
def PJ:List (Nat × Sh)->List HV->XT × List HV
 | [],l=>([],l)
 | (i,sh) :: ss,l=>let p:=Bf sh l; let q:=PJ ss p.2; ((i,p.1) :: q.1,q.2)
def Uo:List (Nat × Fj)->XS->Option (List HV)
 | [],[]=>some []
 | (o,sh) :: l,(p,x) :: t=>cond (Nat.beq p o) (match Ay sh x,Uo l t with | some a,some b=>some (a ++ b) | _,_=>none) none
 | _,_=>none
def EH:List (Nat × Fj)->List HV->XS × List HV
 | [],l=>([],l)
 | (o,sh) :: ss,l=>let p:=Mk sh l; let q:=EH ss p.2; ((o,p.1) :: q.1,q.2)
inductive ae:XT->XT->Prop where
 | nil:ae [] []
 | cons (i:Nat) (x y:X) (t u:XT) (h:Wk x.enc y.enc) (k:ae t u):ae ((i,x) :: t) ((i,y) :: u)
inductive dE:XS->XS->Prop where
 | nil:dE [] []
 | cons (o:Nat) (x y:Option XO) (s u:XS) (h:qe x y) (k:dE s u):dE ((o,x) :: s) ((o,y) :: u)
omit [Mo] in
theorem VB:∀ (ss:List (Nat × Sh)) (t:XT) (hs l:List HV),UU ss t=some hs->∃ t', PJ ss (hs ++ l)=(t', l)/\ae t t'
 | [],[],hs,l,h=>by simp only [UU] at h; cases h; exact ⟨[],rfl,.nil⟩
 | (i, sh) :: ss,(j,x) :: t,hs,l,h=>by
   simp only [UU] at h
   cases hc:Nat.beq j i with
   | false=>rw [hc] at h; cases h
   | true =>
     rw [hc] at h
     simp only [cond_true] at h
     split at h
     · rename_i a b ha hb
       cases h
       obtain ⟨x', h1,h2⟩:=Md sh x a (b ++ l) ha
       obtain ⟨t', h3,h4⟩:=VB ss t b l hb
       refine ⟨(i,x') :: t', ?_,?_⟩
       · rw [List.append_assoc]; simp only [PJ,h1,h3]
       · rw [Nat.eq_of_beq_eq_true hc]; exact .cons _ _ _ _ _ h2 h4
     · cases h
 | [],_ :: _,_,_,h=>by simp [UU] at h
 | _ :: _,[],_,_,h=>by simp [UU] at h
omit [Mo] in
theorem Vt:∀ (ss:List (Nat × Fj)) (t:XS) (hs l:List HV),Uo ss t=some hs->∃ t', EH ss (hs ++ l)=(t', l)/\dE t t'
 | [],[],hs,l,h=>by simp only [Uo] at h; cases h; exact ⟨[],rfl,.nil⟩
 | (i, sh) :: ss,(j,x) :: t,hs,l,h=>by
   simp only [Uo] at h
   cases hc:Nat.beq j i with
   | false=>rw [hc] at h; cases h
   | true =>
     rw [hc] at h
     simp only [cond_true] at h
     split at h
     · rename_i a b ha hb
       cases h
       obtain ⟨x', h1,h2⟩:=LR sh x a (b ++ l) ha
       obtain ⟨t', h3,h4⟩:=Vt ss t b l hb
       refine ⟨(i,x') :: t', ?_,?_⟩
       · rw [List.append_assoc]; simp only [EH,h1,h3]
       · rw [Nat.eq_of_beq_eq_true hc]; exact .cons _ _ _ _ _ h2 h4
     · cases h
 | [],_ :: _,_,_,h=>by simp [Uo] at h
 | _ :: _,[],_,_,h=>by simp [Uo] at h
omit [Mo] in
theorem ae.get:∀ {t u:XT},ae t u->∀ (i:Nat),(lk t i=none/\lk u i=none)\/∃ x y,lk t i=some x/\lk u i=some y/\Wk x.enc y.enc
 | _,_,.nil,i=>.inl ⟨rfl,rfl⟩
 | _,_,.cons j x y t u h k,i=>by
   rw [lk,lk]
   cases Nat.beq j i with
   | true=>exact .inr ⟨x,y,rfl,rfl,h⟩
   | false=>exact k.get i
theorem AL.pO {B:BH} {w:World} {F:Nat->Prop} {loc:Nat->Option Loc} {s:AB} (hS:AL AV B w F loc s) {o:Nat} {kd:TypeDesc} {ag:Bool} {es:List (Value × List T)} {i:Nat} {rest cu:List (Value × List T)} (ho:s o=some (some (.mq kd ag es i rest cu))) :
   AL AV B w F loc (Ak s o (some (some (.mq kd ag es i rest [])))):=by
 refine { hS with Cy:=fun o' obj h'=>?_,Gp:=fun o' l hl'=>?_ }
 · by_cases hod:o' = o
   · subst hod
     rw [AA] at h'; cases h'
     obtain ⟨l,h1,h2⟩:=hS.Cy o' _ ho
     refine ⟨l,h1,?_⟩
     cases h2 with
     | mq _ _ _ _ _ _ b en clock vs vr c since c0 seen hb hm hi hc Cd=>exact .mq kd ag es i rest [] b en clock vs vr c since c0 seen hb hm hi hc ⟨Cd.sc,Cd.sk,Cd.JF,Cd.Nv,Cd.al,[],⟨rfl,fun i k r h=>by simp at h⟩,fun k v h=>by simp at h⟩
     | TM _ _ _ _ _ _ b en clock vs hb hm hi=>exact .TM kd ag es i rest [] b en clock vs hb hm hi
   · rw [AH _ _ hod] at h'; exact hS.Cy o' obj h'
 · by_cases hod:o' = o
   · subst hod; exact ⟨_,AA _ _ _⟩
   · rw [AH _ _ hod]; exact hS.Gp o' l hl'
theorem AL.uI {B:BH} {w:World} {F:Nat->Prop} {loc:Nat->Option Loc} {pre post:XS} {o:Nat} {x y:Option XO} (hS:AL AV B w F loc (encS (pre ++ (o,x) :: post))) (h:qe x y):AL AV B w F loc (encS (pre ++ (o,y) :: post)):=by
 have hsplit:∀ (z:Option XO),encS (pre ++ (o,z) :: post)=if (lk pre o).isSome then encS (pre ++ post) else Ak (encS (pre ++ post)) o (some (z.map XO.enc)):=by
   intro z
   funext n
   unfold encS
   rw [AX]
   by_cases hn:n=o
   · subst hn
     cases hp:lk pre n with
     | some q=>simp [AX,hp]
     | none=>simp [lk,AA]
   · have hb:Nat.beq o n=false:=by rw [<- Bool.not_eq_true,Nat.beq_eq]; exact fun h=>hn h.symm
     rw [lk,hb,cond_false]
     by_cases hs:(lk pre o).isSome=true
     · rw [if_pos hs]; simp only [AX]
     · rw [if_neg hs,AH _ _ hn]; simp only [AX]
 have hu:∀ (y z:Option (Option O)),Ak (Ak (encS (pre ++ post)) o y) o z=Ak (encS (pre ++ post)) o z:=by
   intro y z; funext m; by_cases hm:m=o
   · subst hm; simp [AA]
   · simp [AH _ _ hm]
 rcases h with rfl | ⟨e,xs,ys,rfl,rfl,hw⟩ | ⟨t,es,i,rest,cu,rfl,rfl⟩ | ⟨e,r,xs,he,rfl,rfl⟩
 rotate_right
 · rw [hsplit] at hS ⊢
   split at hS
   · rename_i hs; rw [if_pos hs]; exact hS
   · rename_i hs
     rw [if_neg hs]
     have:=hS.TO (o:=o) (e:=e) (sz:=r.len) (rows:=xs.map r.en) (AA _ _ _) he
     rw [hu] at this
     exact this
 · exact hS
 · rw [hsplit] at hS ⊢
   split at hS
   · rename_i hs; rw [if_pos hs]; exact hS
   · rename_i hs
     rw [if_neg hs]
     have:=hS.mg (o:=o) (e:=e) (xs:=CG xs) (ys:=CG ys) (AA _ _ _) (by rw [Ac,Ac]; exact hw)
     rw [hu] at this
     exact this
 · rw [hsplit] at hS ⊢
   split at hS
   · rename_i hs; rw [if_pos hs]; exact hS
   · rename_i hs
     rw [if_neg hs]
     have:=hS.pO (o:=o) (kd:=t.kt.desc) (ag:=t.ag) (es:=t.en es) (i:=i) (rest:=t.en rest) (cu:=t.en cu) (AA _ _ _)
     rw [hu] at this
     exact this
theorem AL.oL {B:BH}{w:World}{F:Nat->Prop}{loc:Nat->Option Loc}{post:XS}:∀ {s u:XS},dE s u->∀ (pre:XS),AL AV B w F loc (encS (pre ++ (s ++ post)))->AL AV B w F loc (encS (pre ++ (u ++ post)))
 | _,_,.nil,pre,h=>h
 | _,_,.cons o x y s u hw k,pre,h=>by
   have h1:=AL.uI (pre:=pre) (post:=s ++ post) h hw
   have h2:=AL.oL k (pre ++ [(o,y)]) (by simpa using h1)
   simpa using h2
theorem Conv.wk {E:XE}{t u:XT}{s v:XS}(ht:ae t u)(hs:dE s v):Conv AV (AG E ⟨t,s⟩) (AG E ⟨u,v⟩):=by
 intro B F loc tmps w hR
 refine ⟨F,loc,⟨?_,fun i=>?_,hR.n,hR.a⟩⟩
 · exact AL.oL (pre:=[]) hs hR.s
 · have:=hR.t i
   show AF w F loc (Ci (u ++ E.t) i) _
   have h1:AF w F loc (Ci (t ++ E.t) i) (tmps.getD i undef):=this
   unfold Ci at h1 ⊢
   rw [AX] at h1 ⊢
   rcases ht.get i with ⟨h2,h3⟩ | ⟨x,y,h2,h3,h4⟩
   · rw [h3]; rw [h2] at h1; exact h1
   · rw [h3]; rw [h2] at h1; exact h4 _ _ _ _ h1
def UC (tp:JE)(st:BC):Option (List HV):=match UU tp.t st.t,Uo tp.s st.s with | some a,some b=>some (a ++ b) | _,_=>none
def BF (tp:JE)(l:List HV):BC:=let p:=PJ tp.t l; ⟨p.1,(EH tp.s p.2).1⟩
theorem Conv.tpl {E:XE}{tp:JE}{st:BC}{hs:List HV}(h:UC tp st=some hs):Conv AV (AG E st) (AG E (BF tp hs)):=by
 unfold UC at h
 split at h
 · rename_i a b ha hb
   cases h
   obtain ⟨t', h1,h2⟩:=VB tp.t st.t a b ha
   obtain ⟨s', h3,h4⟩:=Vt tp.s st.s b [] hb
   rw [List.append_nil] at h3
   unfold BF
   simp only [h1,h3]
   exact Conv.wk h2 h4
 · cases h
structure Acc where
 ρ:Ren
 fz:List Nat
def Acc.pair (a:Acc)(o o':Nat):Acc:=cond (a.ρ.any fun p=>Nat.beq p.1 o) a ⟨a.ρ ++ [(o,o')],a.fz⟩
def Acc.BM (a:Acc)(o:Nat):Acc:=⟨a.ρ,a.fz ++ [o]⟩
mutual
def Pa:Sh->X->Acc->Acc
 | .fz _ _,.sl _ o,a=>a.BM o
 | .fz _ _,.sw o _ _,a=>a.BM o
 | .sl _ o,.sl _ o', a=>a.pair o o'
 | .sw o,.sw o' _ _,a=>a.pair o o'
 | .pt o _,.pt o' _,a=>a.pair o o'
 | .pe o _,.pe o' _ _,a=>a.pair o o'
 | .mp o,.mp o', a=>a.pair o o'
 | .it o,.it o', a=>a.pair o o'
 | .sp o,.sp o', a=>a.pair o o'
 | .sp o,.pt o' _,a=>a.pair o o'
 | .fn _ l,.fn _ xs,a=>Fp l xs a
 | .ag l,.ag xs,a=>Fp l xs a
 | .tp l,.tp xs,a=>Fp l xs a
 | .Aq _ s,.Aq _ x,a=>Pa s x a
 | _,_,a=>a
def Fp:List Sh->List X->Acc->Acc
 | s :: l,x :: xs,a=>Fp l xs (Pa s x a)
 | _,_,a=>a
end
def nQ (tp:JE)(o:Nat):Option (Nat × Row):=match lk tp.s o with | some (.ar e r)=>some (e,r) | _=>none
def ZC:Sh->Option Nat | .sl _ o=>some o | _=>none
def Nz (s:XS):Nat->Nat->Nat
 | 0,n=>n
 | k+1,n=>match lk s n with | none=>n | some _=>Nz s k (n+1)
def OU (E:XE) (tp:JE):List (Nat × Sh)->Acc->BC->Option (Acc × BC)
 | [],a,st=>some (a,st)
 | (i, sh) :: l,a,st=>match ZC sh,DN (Xn E st i) with
   | some o,true=>match nQ tp o with
     | some (e,r)=>match GJ E i (Nz (st.s ++ E.s) 50 (o+600000)) e r st with
       | some st'=>OU E tp l (a.pair o (Nz (st.s ++ E.s) 50 (o+600000))) st'
       | none=>none
     | none=>none
   | _,_=>OU E tp l (Pa sh (Xn E st i) a) st
def MW (E:XE) (tp:JE) (m:Nat):Nat->List Sh->List X->Acc->BC->Option (Acc × BC)
 | j,sh :: l,x :: xs,a,st=>match ZC sh,DN x with
   | some o,true=>match nQ tp o with
     | some (e,r)=>match Ir E m j (Nz (st.s ++ E.s) 50 (o+600000)) e r st with
       | some st'=>MW E tp m (j+1) l xs (a.pair o (Nz (st.s ++ E.s) 50 (o+600000))) st'
       | none=>none
     | none=>none
   | _,_=>MW E tp m (j+1) l xs (Pa sh x a) st
 | _,_,_,a,st=>some (a,st)
def nameOf (a:Acc)(n:Nat):Nat:=match lk a.ρ n with | some m=>m | none=>n
def ER (E:XE) (tp:JE):List (Nat × Fj)->Acc->BC->Option (Acc × BC)
 | [],a,st=>some (a,st)
 | (n,.bx _ l) :: r,a,st=>match lk st.s (nameOf a n) with
   | some (some (.bx _ cells))=>match MW E tp (nameOf a n) 0 l cells a st with
     | some (a', st')=>ER E tp r a' st'
     | none=>none
   | _=>ER E tp r a st
 | _ :: r,a,st=>ER E tp r a st
def EE (E:XE):List Nat->BC->Option BC
 | [],st=>some st
 | o :: l,st=>match lk st.s o with
   | some (some (.ar _ _ _))=>match Da E o st with
     | some st'=>EE E l st'
     | none=>none
   | _=>EE E l st
def TA (E:XE) (o d:Nat) (st:BC):Option BC :=
 match lk st.s o with
 | some (some x)=>cond ((lk (st.s ++ E.s) d).isNone && E.t.all (fun p=>p.2.Em (Qq o)) && E.s.all (fun p=>Qq o p.1 && iZ (Qq o) p.2))
     (some ⟨st.t.map fun p=>(p.1,p.2.AW (OK o d)),(o,none) :: (d,some (x.AW (OK o d))) :: st.s.map fun p=>(p.1,p.2.map (XO.AW (OK o d)))⟩) none
 | _=>none
def Eh (E:XE):List (Nat × Fj)->BC->Option BC
 | [],st=>some st
 | (n,.gone) :: l,st=>match lk st.s n with
   | some (some _)=>match TA E n (Nz (st.s ++ E.s) 50 (n+800000)) st with
     | some st'=>Eh E l st'
     | none=>none
   | _=>Eh E l st
 | _ :: l,st=>Eh E l st
def MQ:List (Nat × Fj)->XS->XS
 | (_,.ar e _) :: l,(m,some (.ar e' r xs)) :: s=>(m,some (.ar (cond (Nat.beq e (e' + 2000000) && Nat.blt e' 1000000) (e' + 2000000) e') r xs)) :: MQ l s
 | _ :: l,x :: s=>x :: MQ l s
 | [],s=>s
 | _,[]=>[]
def CD (E:XE) (tp:JE) (st:BC):Option (List HV) :=
 match Eh E tp.s st with
 | none=>none
 | some Gz=>match OU E tp tp.t ⟨[],[]⟩ Gz with
   | none=>none
   | some (a,st1)=>match ER E tp tp.s a st1 with
     | none=>none
     | some (a2,st2)=>match EE E a2.fz st2 with
       | none=>none
       | some st3=>match SS E (tp.t.map (·.1)) (tp.s.map fun p=>(nameOf a2 p.1,p.1)) st3 with
         | none=>none
         | some st4=>UC tp ⟨st4.t,MQ tp.s st4.s⟩
omit [Mo] in
theorem cw {o d:Nat}:∀ n,Qq o n=true->Ji (OK o d) n=true:=by
 intro n h
 unfold Qq at h
 simp only [Bool.not_eq_true'] at h
 unfold Ji OK
 simp only [h,cond_false,Nat.beq_refl]
omit [Mo] in
mutual
theorem X.En {p q:Nat->Bool}(h:∀ n,p n=true->q n=true):∀ (x:X),x.Em p=true->x.Em q=true
 | .sl _ o,k=>h o k
 | .sw o _ _,k=>h o k
 | .pt o _,k=>h o k
 | .pe o _ _,k=>h o k
 | .mp o,k=>h o k
 | .it o,k=>h o k
 | .sp o,k=>h o k
 | .fn _ caps,k=>Du h caps k
 | .ag cs,k=>Du h cs k
 | .tp cs,k=>Du h cs k
 | .Aq _ x,k=>X.En h x k
 | .c _,_=>rfl
 | .i _ _,_=>rfl
 | .b _,_=>rfl
 | .s _,_=>rfl
 | .fz _ _ _,_=>rfl
 | .pf _ _ _,_=>rfl
 | .dead,_=>rfl
theorem Du {p q:Nat->Bool}(h:∀ n,p n=true->q n=true):∀ (xs:List X),ED p xs=true->ED q xs=true
 | [],_=>rfl
 | x :: xs,k=>by
   simp only [ED,Bool.and_eq_true] at k ⊢
   exact ⟨X.En h x k.1,Du h xs k.2⟩
end
omit [Mo] in
theorem XO.En {p q:Nat->Bool}(h:∀ n,p n=true->q n=true)(x:XO)(k:x.Em p=true):x.Em q=true:=by
 cases x with
 | bx e cells=>exact Du h cells k
 | mq t es i rest cu=>exact h i k
 | mi m=>exact h m k
 | _=>rfl
theorem Conv.TA {E:XE} {o d:Nat} {st st':BC} (h:Mc.TA E o d st=some st'):Conv AV (AG E st) (AG E st'):=by
 unfold Mc.TA at h
 split at h
 · rename_i x hl
   obtain ⟨hc,rfl⟩:=AR h
   simp only [Bool.and_eq_true] at hc
   obtain ⟨⟨h0,h1⟩,h2⟩:=hc
   rw [List.all_eq_true] at h1 h2
   have fix:∀ n,Qq o n=true->Ji (OK o d) n=true:=cw
   have ho:encS (st.s ++ E.s) o=some (some x.enc):=by unfold encS; rw [AX,hl]; rfl
   have:=Conv.move (G:=AV) (t:=Ci (st.t ++ E.t)) (s:=encS (st.s ++ E.s)) (m:=E.n) (a:=E.a) o d (by rw [ho]; rfl) (JK h0)
   have hod:o ≠ d:=by
     rintro rfl
     rw [Option.isNone_iff_eq_none,AX,hl] at h0; cases h0
   have e1:(fun i=>(Ci (st.t ++ E.t) i).AW (OK o d))=Ci ((st.t.map fun p=>(p.1,p.2.AW (OK o d))) ++ E.t):=by
     funext i
     rw [FW,FW,<- X.Bw,AX,AX,MC (fun _ x=>X.AW (OK o d) x)]
     cases lk st.t i with
     | some x=>rfl
     | none =>
       simp only [Option.map_none]
       cases he:lk E.t i with
       | none=>rfl
       | some x=>simp only; rw [X.FM _ x (X.En fix x (h1 _ (Cg he)))]
   have e2 : bT o d (encS (st.s ++ E.s))=encS (((o,none) :: (d,some (x.AW (OK o d))) :: st.s.map fun p=>(p.1,p.2.map (XO.AW (OK o d)))) ++ E.s):=by
     funext n
     unfold bT
     simp only [ho,Option.map_some]
     unfold encS
     simp only [List.cons_append,lk]
     by_cases hn:n=o
     · subst hn; simp
     · have hb:Nat.beq n o=false:=by rw [<- Bool.not_eq_true,Nat.beq_eq]; exact hn
       have hb':Nat.beq o n=false:=by rw [<- Bool.not_eq_true,Nat.beq_eq]; exact fun e=>hn e.symm
       rw [hb,hb', cond_false,cond_false]
       by_cases hd:n=d
       · subst hd; simp [XO.Bw]
       · have hc:Nat.beq n d=false:=by rw [<- Bool.not_eq_true,Nat.beq_eq]; exact hd
         have hc':Nat.beq d n=false:=by rw [<- Bool.not_eq_true,Nat.beq_eq]; exact fun e=>hd e.symm
         rw [hc,hc', cond_false,cond_false,AX,AX,MC (fun (_:Nat) (x:Option XO)=>x.map (XO.AW (OK o d)))]
         cases hs:lk st.s n with
         | some x=>cases x <;> simp [XO.Bw]
         | none =>
           simp only [Option.map_none]
           cases he:lk E.s n with
           | none=>rfl
           | some x =>
             have:=h2 _ (Cg he)
             simp only [Bool.and_eq_true] at this
             cases x with
             | none=>rfl
             | some y=>simp only [Option.map_some]; rw [<- XO.Bw,XO.FM _ y (XO.En fix y this.2)]
   show Conv AV ⟨_,_,_,_⟩ ⟨_,_,_,_⟩
   rw [e1,e2] at this
   exact this
 · cases h
theorem Bx {E:XE}:∀ {l:List (Nat × Fj)} {st st':BC},Eh E l st=some st' -> Conv AV (AG E st) (AG E st')
 | [],st,st', h=>by simp only [Eh] at h; cases h; exact Conv.refl _
 | (n, .gone) :: l,st,st', h=>by
   simp only [Eh] at h
   split at h
   · split at h
     · rename_i st1 h1
       exact Conv.trans (Conv.TA h1) (Bx h)
     · cases h
   · exact Bx h
 | (n,.ar _ _) :: l,st,st', h=>by simp only [Eh] at h; exact Bx h
 | (n,.bx _ _) :: l,st,st', h=>by simp only [Eh] at h; exact Bx h
 | (n,.si) :: l,st,st', h=>by simp only [Eh] at h; exact Bx h
 | (n,.mp _) :: l,st,st', h=>by simp only [Eh] at h; exact Bx h
 | (n,.mq _ _) :: l,st,st', h=>by simp only [Eh] at h; exact Bx h
 | (n,.mi _) :: l,st,st', h=>by simp only [Eh] at h; exact Bx h
theorem Hj {E:XE} {tp:JE}:∀ {l:List (Nat × Sh)} {a a':Acc} {st st':BC},OU E tp l a st=some (a', st')->Conv AV (AG E st) (AG E st')
 | [],a,a', st,st', h=>by simp only [OU] at h; cases h; exact Conv.refl _
 | (i, sh) :: l,a,a', st,st', h=>by
   simp only [OU] at h
   split at h
   · split at h
     · split at h
       · rename_i st1 h1
         exact Conv.trans (Conv.GJ h1) (Hj h)
       · cases h
     · cases h
   · exact Hj h
theorem Hc {E:XE} {tp:JE} {m:Nat}:∀ {j:Nat} {l:List Sh} {xs:List X} {a a':Acc} {st st':BC},MW E tp m j l xs a st=some (a', st')->Conv AV (AG E st) (AG E st')
 | j, sh :: l,x :: xs,a,a', st,st', h=>by
   simp only [MW] at h
   split at h
   · split at h
     · split at h
       · rename_i st1 h1
         exact Conv.trans (Conv.Ir h1) (Hc h)
       · cases h
     · cases h
   · exact Hc h
 | _,[],_,a,a', st,st', h=>by simp only [MW] at h; cases h; exact Conv.refl _
 | _,_ :: _,[],a,a', st,st', h=>by simp only [MW] at h; cases h; exact Conv.refl _
theorem Bl {E:XE} {tp:JE}:∀ {l:List (Nat × Fj)} {a a':Acc} {st st':BC},ER E tp l a st=some (a', st')->Conv AV (AG E st) (AG E st')
 | [],a,a', st,st', h=>by simp only [ER] at h; cases h; exact Conv.refl _
 | (n, .bx e ss) :: l,a,a', st,st', h=>by
   simp only [ER] at h
   split at h
   · split at h
     · rename_i a1 st1 h1
       exact Conv.trans (Hc h1) (Bl h)
     · cases h
   · exact Bl h
 | (n,.ar _ _) :: l,a,a', st,st', h=>by simp only [ER] at h; exact Bl h
 | (n,.si) :: l,a,a', st,st', h=>by simp only [ER] at h; exact Bl h
 | (n,.mp _) :: l,a,a', st,st', h=>by simp only [ER] at h; exact Bl h
 | (n,.mq _ _) :: l,a,a', st,st', h=>by simp only [ER] at h; exact Bl h
 | (n,.mi _) :: l,a,a', st,st', h=>by simp only [ER] at h; exact Bl h
 | (n,.gone) :: l,a,a', st,st', h=>by simp only [ER] at h; exact Bl h
theorem Ct {E:XE}:∀ {l:List Nat} {st st':BC},EE E l st=some st' -> Conv AV (AG E st) (AG E st')
 | [],st,st', h=>by simp only [EE] at h; cases h; exact Conv.refl _
 | o :: l,st,st', h=>by
   simp only [EE] at h
   split at h
   · split at h
     · rename_i st1 h1
       exact Conv.trans (Conv.Da h1) (Ct h)
     · cases h
   · exact Ct h
omit [Mo] in
theorem ae.self:∀ (t:XT),ae t t
 | []=>.nil
 | p :: t=>.cons p.1 p.2 p.2 t t (Wk.refl _) (ae.self t)
omit [Mo] in
theorem RQ : ∀ (l:List (Nat × Fj)) (s:XS),dE s (MQ l s)
 | [],s=>by
   have:∀ s:XS,dE s s:=fun s=>by
     induction s with
     | nil=>exact .nil
     | cons p s ih=>exact .cons p.1 p.2 p.2 s s (.inl rfl) ih
   simp only [MQ]
   exact this s
 | p :: l,[]=>by
   have:MQ (p :: l) []=[]:=by
     obtain ⟨n,o⟩:=p
     cases o <;> rfl
   rw [this]
   exact .nil
 | (n, o) :: l,(m,x) :: s=>by
   have ih:=RQ l s
   cases o with
   | ar e r0 =>
     cases x with
     | none=>exact .cons m none none s _ (.inl rfl) ih
     | some x =>
       cases x with
       | ar e' r xs =>
         simp only [MQ]
         cases hc:Nat.beq e (e' + 2000000) && Nat.blt e' 1000000 with
         | false=>exact .cons m _ _ s _ (.inl rfl) ih
         | true =>
           simp only [Bool.and_eq_true] at hc
           exact .cons m _ _ s _ (.inr (.inr (.inr ⟨e', r,xs,by simpa using hc.2,rfl,rfl⟩))) ih
       | _=>exact .cons m _ _ s _ (.inl rfl) ih
   | _=>exact .cons m x x s _ (.inl rfl) ih
theorem Conv.CD {E:XE} {tp:JE} {st:BC} {hs:List HV} (h:Mc.CD E tp st=some hs):Conv AV (AG E st) (AG E (BF tp hs)):=by
 unfold Mc.CD at h
 split at h
 · cases h
 · rename_i Gz h0
   split at h
   · cases h
   · rename_i a st1 h1
     split at h
     · cases h
     · rename_i a2 st2 h2
       split at h
       · cases h
       · rename_i st3 h3
         split at h
         · cases h
         · rename_i st4 h4
           exact (Bx h0).trans ((Hj h1).trans ((Bl h2).trans ((Ct h3).trans ((Conv.SS h4).trans ((Conv.wk (ae.self _) (RQ tp.s st4.s)).trans (Conv.tpl h))))))
end Go.Proofs.YthoimblkpcikdaaGreatDoor.Mc
namespace Go.Proofs.YthoimblkpcikdaaGreatDoor.Mc
open Go.RowKit
variable [Mo]
set_option linter.constructorNameAsVariable false
variable {P:Program}{D:Au}
def Ea:List (List Ah)->Type
 | []=>Empty
 | [h]=>Tup h
 | h :: g :: t=>Tup h ⊕ Ea (g :: t)
def Gq:(hs:List (List Ah))->Nat->List HV->Option (Ea hs)
 | [],_,_=>none
 | [h],0,l=>Dx h l
 | [_],_+1,_=>none
 | h :: _ :: _,0,l=>match Dx h l with | some y=>some (.inl y) | none=>none
 | _ :: g :: t,i+1,l=>match Gq (g :: t) i l with | some y=>some (.inr y) | none=>none
def BN.{u}{α β:Type}{γ:Sort u}(f:α->γ)(g:β->γ):α ⊕ β->γ
 | .inl x=>f x
 | .inr y=>g y
def Av.{u}{β:Sort u}:(hs:List (List Ah))->Ea hs->(Nat->List HV->β)->β
 | [],x,_=>x.elim
 | [h],y,f=>f 0 (Bc h y)
 | h :: g :: t,x,f=>BN (fun y=>f 0 (Bc h y)) (fun z=>Av (g :: t) z fun i l=>f (i+1) l) x
omit [Mo] in
theorem Pm.{u}{β:Sort u}:∀ (hs:List (List Ah)) (i:Nat) (l:List HV) (y:Ea hs) (f:Nat->List HV->β),Gq hs i l=some y->Av hs y f=f i l
 | [h],0,l,y,f,k=>by simp only [Av]; rw [DK h l y k]
 | [_],_+1,_,_,_,k=>by simp [Gq] at k
 | [],_,_,y,_,_=>y.elim
 | h :: g :: t,0,l,y,f,k=>by
   simp only [Gq] at k
   split at k
   · rename_i z hz; cases k; simp only [Av,BN]; rw [DK h l z hz]
   · cases k
 | h :: g :: t,i+1,l,y,f,k=>by
   simp only [Gq] at k
   split at k
   · rename_i z hz; cases k; simp only [Av,BN]; rw [Pm (g :: t) i l z _ hz]
   · cases k
omit [Mo] in
theorem Jk:∀ (hs:List (List Ah)) (y:Ea hs) {p q:Nat->List HV->Prop},(∀ i l,p i l->q i l)->Av hs y p->Av hs y q
 | [],y,_,_,_=>y.elim
 | [_],_,_,_,h=>h _ _
 | _ :: _ :: _,.inl _,_,_,h=>h _ _
 | _ :: g :: t,.inr z,_,_,h=>Jk (g :: t) z fun i l=>h (i+1) l
omit [Mo] in
theorem JQ {α:Type}{r:α}:∀ (hs:List (List Ah)) (y:Ea hs) {f:Nat->List HV->Option α} {p:Nat->List HV->Prop},Av hs y f=some r->Av hs y p->∃ i l,f i l=some r/\p i l
 | [],y,_,_,_,_=>y.elim
 | [_],_,_,_,h,k=>⟨_,_,h,k⟩
 | _ :: _ :: _,.inl _,_,_,h,k=>⟨_,_,h,k⟩
 | _ :: g :: t,.inr z,f,p,h,k=>by
   obtain ⟨i,l,h1,h2⟩:=JQ (g :: t) z (f:=fun i l=>f (i+1) l) (p:=fun i l=>p (i+1) l) h k
   exact ⟨_,_,h1,h2⟩
structure AQ where
 a:List Sh
 o:List (Nat × Fj)
structure AP where
 v:Sh
 o:List (Nat × Fj)
 h:List Ah
def FT (A:AQ)(l:List HV):List X × XS:=let p:=DI A.a l; (p.1,(EH A.o p.2).1)
def Gv (R:AP)(l:List HV):X × XS:=let p:=Bf R.v l; (p.1,(EH R.o p.2).1)
def EC (R:List AP)(i:Nat):AP:=match R[i]? with | some r=>r | none=>⟨.dead,[],[]⟩
def MJ (P:Program)(f:FuncId)(vs:List X)(s:XS)(r:X)(s1:XS):Prop:=CT P AV f (vs.map X.enc) (encS s) fun r' s'=>r' = r.enc/\s' = encS s1
def Zn:Nl->Nl->Bool | .e,.e=>true | .n,.n=>true | .u,.u=>true | _,_=>false
omit [Mo] in
theorem VL {a b:Nl}(h:Zn a b=true):a=b:=by cases a <;> cases b <;> first | rfl | cases h
mutual
def Lm:Sh->X->Bool
 | .fz nl _,.fz nl' _ _=>Zn nl nl'
 | .fz _ _,.c _=>false
 | .sp _,.pt _ _=>false
 | .sp _,.c _=>false
 | .sl nl _,.sl nl' _=>Zn nl nl'
 | .fn _ l,.fn _ xs=>gD l xs
 | .ag l,.ag xs=>gD l xs
 | .tp l,.tp xs=>gD l xs
 | .Aq _ s,.Aq _ x=>Lm s x
 | .dead,_=>false
 | _,_=>true
def gD:List Sh->List X->Bool
 | s :: l,x :: xs=>Lm s x && gD l xs
 | _,_=>true
end
omit [Mo] in
mutual
theorem RS:∀ (sh:Sh) (x:X) (hs l:List HV),Ar sh x=some hs->Lm sh x=true->Bf sh (hs ++ l)=(x,l)
 | .dead,x,hs,l,h,k=>by simp [Lm] at k
 | .i k,.i k' n,hs,l,h,_=>by
   simp only [Ar] at h
   split at h
   · rename_i hk; cases h; subst hk; rfl
   · cases h
 | .b,.b q,hs,l,h,_=>by simp only [Ar] at h; cases h; rfl
 | .s,.s q,hs,l,h,_=>by simp only [Ar] at h; cases h; rfl
 | .li k m,.i k' n,hs,l,h,_=>by
   simp only [Ar] at h
   split at h
   · rename_i hk; cases h; obtain ⟨rfl,rfl⟩:=hk; rfl
   · cases h
 | .lb p,.b q,hs,l,h,_=>by
   simp only [Ar] at h
   split at h
   · rename_i hk; cases h; subst hk; rfl
   · cases h
 | .c v,.c w,hs,l,h,_=>by
   simp only [Ar] at h
   obtain ⟨h1,rfl⟩:=AR h
   rw [Mi h1]; rfl
 | .fz nl r,.fz nl' r' xs,hs,l,h,k=>by
   simp only [Ar] at h
   cases hc:Wu nl' nl with
   | false=>rw [hc] at h; cases h
   | true =>
     rw [hc] at h
     simp only [cond_true] at h
     split at h
     · rename_i g _
       obtain ⟨g⟩:=g
       subst g
       cases h
       have k':Zn nl nl' = true:=by simpa [Lm] using k
       have:=VL k'
       subst this; rfl
     · cases h
 | .sl nl o,.sl nl' o', hs,l,h,k=>by
   simp only [Ar] at h
   obtain ⟨h1,rfl⟩:=AR h
   simp only [Bool.and_eq_true] at h1
   have k':Zn nl nl' = true:=by simpa [Lm] using k
   have:=VL k'
   subst this
   rw [Nat.eq_of_beq_eq_true h1.2]; rfl
 | .sw o,.sw o' off len,hs,l,h,_=>by
   simp only [Ar] at h
   obtain ⟨h1,rfl⟩:=AR h
   rw [Nat.eq_of_beq_eq_true h1]; rfl
 | .pt o off,.pt o' off', hs,l,h,_=>by
   simp only [Ar] at h
   obtain ⟨h1,rfl⟩:=AR h
   simp only [Bool.and_eq_true] at h1
   rw [Nat.eq_of_beq_eq_true h1.1,Nat.eq_of_beq_eq_true h1.2]; rfl
 | .pe o off,.pe o' i off', hs,l,h,_=>by
   simp only [Ar] at h
   obtain ⟨h1,rfl⟩:=AR h
   simp only [Bool.and_eq_true] at h1
   rw [Nat.eq_of_beq_eq_true h1.1,Nat.eq_of_beq_eq_true h1.2]; rfl
 | .pf r off,.pf r' x off', hs,l,h,_=>by
   simp only [Ar] at h
   cases hc:Nat.beq off' off with
   | false=>rw [hc] at h; cases h
   | true =>
     rw [hc] at h
     simp only [cond_true] at h
     split at h
     · rename_i g _
       obtain ⟨g⟩:=g
       subst g
       cases h; rw [Nat.eq_of_beq_eq_true hc]; rfl
     · cases h
 | .mp o,.mp o', hs,l,h,_=>by
   simp only [Ar] at h
   obtain ⟨h1,rfl⟩:=AR h
   rw [Nat.eq_of_beq_eq_true h1]; rfl
 | .it o,.it o', hs,l,h,_=>by
   simp only [Ar] at h
   obtain ⟨h1,rfl⟩:=AR h
   rw [Nat.eq_of_beq_eq_true h1]; rfl
 | .sp o,.sp o', hs,l,h,_=>by
   simp only [Ar] at h
   obtain ⟨h1,rfl⟩:=AR h
   rw [Nat.eq_of_beq_eq_true h1]; rfl
 | .fn f ss,.fn f' xs,hs,l,h,k=>by
   simp only [Ar] at h
   cases hc:Nat.beq f' f with
   | false=>rw [hc] at h; cases h
   | true =>
     rw [hc] at h
     have:=IE ss xs hs l h (by simpa only [Lm] using k)
     simp only [Bf,this,Nat.eq_of_beq_eq_true hc]
 | .ag ss,.ag xs,hs,l,h,k=>by
   simp only [Ar] at h
   simp only [Bf,IE ss xs hs l h (by simpa only [Lm] using k)]
 | .tp ss,.tp xs,hs,l,h,k=>by
   simp only [Ar] at h
   simp only [Bf,IE ss xs hs l h (by simpa only [Lm] using k)]
 | .Aq t s,.Aq t' x,hs,l,h,k=>by
   simp only [Ar] at h
   cases hc:Nat.beq t' t with
   | false=>rw [hc] at h; cases h
   | true =>
     rw [hc] at h
     simp only [Bf,RS s x hs l h (by simpa only [Lm] using k),Nat.eq_of_beq_eq_true hc]
 | .fz _ _,.c _,_,_,_,k=>by simp [Lm] at k
theorem IE:∀ (ss:List Sh) (xs:List X) (hs l:List HV),Kr ss xs=some hs->gD ss xs=true->DI ss (hs ++ l)=(xs,l)
 | [],[],hs,l,h,_=>by simp only [Kr] at h; cases h; rfl
 | s :: ss,x :: xs,hs,l,h,k=>by
   simp only [Kr] at h
   simp only [gD,Bool.and_eq_true] at k
   split at h
   · rename_i a b ha hb
     cases h
     rw [List.append_assoc]
     simp only [DI,RS s x a (b ++ l) ha k.1,IE ss xs b l hb k.2]
   · cases h
end
def qM:Fj->XO->Bool
 | .bx _ l,.bx _ cells=>gD l cells
 | .mq _ _,.mq _ _ _ _ cu=>List.isEmpty cu
 | _,_=>true
omit [Mo] in
theorem cb (o:Fj) (x:XO) (hs l:List HV) (h:Ay o (some x)=some hs) (k:qM o x=true):Mk o (hs ++ l)=(some x,l):=by
 cases o with
 | bx e ss =>
   cases x with
   | bx e' cells =>
     simp only [Ay] at h
     cases hc:Nat.beq e' e with
     | false=>rw [hc] at h; cases h
     | true =>
       rw [hc] at h
       simp only [Mk,IE ss cells hs l h k,Nat.eq_of_beq_eq_true hc]
   | _=>simp [Ay] at h
 | ar e r =>
   cases x with
   | ar e' r' xs =>
     simp only [Ay] at h
     cases hc:Nat.beq e' e with
     | false=>rw [hc] at h; cases h
     | true =>
       rw [hc] at h
       simp only [cond_true] at h
       split at h
       · rename_i g _
         obtain ⟨g⟩:=g
         subst g
         cases h
         rw [Nat.eq_of_beq_eq_true hc]; rfl
       · cases h
   | _=>simp [Ay] at h
 | si =>
   cases x with
   | si s pos=>simp only [Ay] at h; cases h; rfl
   | _=>simp [Ay] at h
 | mp t =>
   cases x with
   | mp t' es =>
     simp only [Ay] at h
     split at h
     · rename_i g _
       obtain ⟨g⟩:=g
       subst g
       cases h; rfl
     · cases h
   | _=>simp [Ay] at h
 | mq t i =>
   cases x with
   | mq t' es i' rest cu =>
     simp only [Ay] at h
     cases hc:Nat.beq i' i with
     | false=>rw [hc] at h; cases h
     | true =>
       rw [hc] at h
       simp only [cond_true] at h
       split at h
       · rename_i g _
         obtain ⟨g⟩:=g
         subst g
         cases h
         have hcu:cu=[]:=List.isEmpty_iff.1 (by simpa only [qM] using k)
         rw [Nat.eq_of_beq_eq_true hc,hcu]; rfl
       · cases h
   | _=>simp [Ay] at h
 | mi m =>
   cases x with
   | mi m' =>
     simp only [Ay] at h
     obtain ⟨h1,rfl⟩:=AR h
     rw [Nat.eq_of_beq_eq_true h1]; rfl
   | _=>simp [Ay] at h
 | gone=>simp [Ay] at h
omit [Mo] in
mutual
theorem X.Ij (f g:Nat->Option Nat)(hfg:∀ n m,g n=some m->f m=some n):∀ (x:X),x.Em (fun n=>(g n).isSome)=true->(x.AW g).AW f=x
 | .sl nl o,h=>by have h':(g o).isSome=true:=h; obtain ⟨m,hm⟩:=Option.isSome_iff_exists.1 h'; simp only [X.AW,hm,hfg _ _ hm]
 | .sw o off len,h=>by have h':(g o).isSome=true:=h; obtain ⟨m,hm⟩:=Option.isSome_iff_exists.1 h'; simp only [X.AW,hm,hfg _ _ hm]
 | .pt o off,h=>by have h':(g o).isSome=true:=h; obtain ⟨m,hm⟩:=Option.isSome_iff_exists.1 h'; simp only [X.AW,hm,hfg _ _ hm]
 | .pe o i off,h=>by have h':(g o).isSome=true:=h; obtain ⟨m,hm⟩:=Option.isSome_iff_exists.1 h'; simp only [X.AW,hm,hfg _ _ hm]
 | .mp o,h=>by have h':(g o).isSome=true:=h; obtain ⟨m,hm⟩:=Option.isSome_iff_exists.1 h'; simp only [X.AW,hm,hfg _ _ hm]
 | .it o,h=>by have h':(g o).isSome=true:=h; obtain ⟨m,hm⟩:=Option.isSome_iff_exists.1 h'; simp only [X.AW,hm,hfg _ _ hm]
 | .sp o,h=>by have h':(g o).isSome=true:=h; obtain ⟨m,hm⟩:=Option.isSome_iff_exists.1 h'; simp only [X.AW,hm,hfg _ _ hm]
 | .fn _ caps,h=>by simp only [X.AW,EB f g hfg caps h]
 | .ag cs,h=>by simp only [X.AW,EB f g hfg cs h]
 | .tp cs,h=>by simp only [X.AW,EB f g hfg cs h]
 | .Aq t x,h=>by simp only [X.AW,X.Ij f g hfg x h]
 | .c v,_=>rfl
 | .i k n,_=>rfl
 | .b q,_=>rfl
 | .s s,_=>rfl
 | .fz nl r xs,_=>rfl
 | .pf r x off,_=>rfl
 | .dead,_=>rfl
theorem EB (f g:Nat->Option Nat)(hfg:∀ n m,g n=some m->f m=some n):∀ (xs:List X),ED (fun n=>(g n).isSome) xs=true->EG f (EG g xs)=xs
 | [],_=>rfl
 | x :: xs,h=>by
   simp only [ED,Bool.and_eq_true] at h
   simp only [EG,X.Ij f g hfg x h.1,EB f g hfg xs h.2]
end
omit [Mo] in
theorem XO.Ij (f g:Nat->Option Nat)(hfg:∀ n m,g n=some m->f m=some n)(x:XO)(h:x.Em (fun n=>(g n).isSome)=true):(x.AW g).AW f=x:=by
 cases x with
 | bx e cells=>simp only [XO.AW,EB f g hfg cells h]
 | mq t es i rest cu =>
   have h':(g i).isSome=true:=h
   obtain ⟨m,hm⟩:=Option.isSome_iff_exists.1 h'
   simp only [XO.AW,hm,hfg _ _ hm]
 | mi n =>
   have h':(g n).isSome=true:=h
   obtain ⟨m,hm⟩:=Option.isSome_iff_exists.1 h'
   simp only [XO.AW,hm,hfg _ _ hm]
 | _=>rfl
def Cf:List Nat->XS->XS
 | [],_=>[]
 | n :: l,s=>match lk s n with | some x=>(n,x) :: Cf l s | none=>Cf l s
structure Ao (P:Program) where
 f:FuncId
 fn:Func
 bU:P.funcs[f]? = some fn
 KT:(fn.name == "runtime.NumGoroutine")=false
 hb:fn.body.isSome=true
 A:AQ
 h:List Ah
 kp:List Nat
 R:List AP
 F:Tup h->Option (Ea (R.map (·.h)))
 ok:∀ y r,F y=some r->Av (R.map (·.h)) r fun i l=>MJ P f (FT A (Bc h y)).1 (FT A (Bc h y)).2 (Gv (EC R i) l).1 ((Gv (EC R i) l).2 ++ Cf kp (FT A (Bc h y)).2)
def nv:X->Option (FuncId × List X)
 | .c (.func (.func f) a b)=>cond (a.isEmpty && b.isEmpty) (some (f,[])) none
 | .fn f caps=>some (f,caps)
 | _=>none
omit [Mo] in
theorem aL {x:X}{f:FuncId}{caps:List X}(h:nv x=some (f,caps)):dv x.enc=some (f,CG caps):=by
 unfold nv at h
 split at h
 · rename_i f0 a b
   obtain ⟨h1,h2⟩:=AR h
   cases h2
   simp only [Bool.and_eq_true] at h1
   have:plain (.func (.func f) a b)=true:=by simp only [plain,h1.1,h1.2]; rfl
   simp only [X.enc,this,if_true]; rfl
 · cases h; rfl
 · cases h
def KC (g:XG):List (Nat × Fj)->Acc->Acc
 | [],a=>a
 | (n,.bx _ l) :: r,a=>match gx g (nameOf a n) with
   | some (.bx _ cells)=>KC g r (Fp l cells a)
   | _=>KC g r a
 | _ :: r,a=>KC g r a
def Zb:Fj->Bool | .mi _=>false | _=>true
def Dn (g:XG) (ρ:Ren):List (Nat × Fj)->Ren->Option (List HV)
 | [],[]=>some []
 | (n,sh) :: l,(n', m) :: k=>cond (Nat.beq n' n && Zb sh) (match gx g m with
   | some x=>match Ay sh (some (x.AW (inv ρ))),Dn g ρ l k with
     | some a,some b=>some (a ++ b)
     | _,_=>none
   | none=>none) none
 | _,_=>none
def Kc (g:XG)(ρ:Ren)(kp:List Nat):List (Nat × Fj)->Bool
 | []=>true
 | (n,sh) :: l=>(cond (kp.any (Nat.beq n)) (match gx g ((lk ρ n).getD 0) with
   | some x=>x.Em (fun k=>(inv ρ k).isSome) && qM sh (x.AW (inv ρ))
   | none=>false) true) && Kc g ρ kp l
inductive CO (C:Ao P) where
 | bad
 | BM (o:Nat)
 | call (y:Tup C.h) (ρ:Ren)
def GM (C:Ao P) (g:XG) (xs:List X):CO C :=
 let acc:=KC g C.A.o (Fp C.A.a xs ⟨[],[]⟩)
 match acc.fz with
 | o :: _=>.BM o
 | [] =>
   let ρ:=C.A.o.map fun p=>(p.1,nameOf acc p.1)
   match Kr C.A.a (EG (inv ρ) xs),Dn g ρ C.A.o ρ with
   | some h1,some h2=>match Dx C.h (h1 ++ h2) with
     | some y=>cond (Kc g ρ C.kp C.A.o) (.call y ρ) .bad
     | none=>.bad
   | _,_=>.bad
def Br (l:List Nat)(n:Nat):Bool:=l.any (Nat.beq n)
def fresh (ρ:Ren)(d:Nat):List (Nat × Fj)->Ren
 | []=>[]
 | p :: os=>cond (Br (ρ.map (·.1)) p.1) (fresh ρ d os) ((p.1,400000+d * 100+(p.1 - 500000)) :: fresh ρ d os)
def Tw (g:XG)(n:Nat):Bool:=match g n with | none=>true | some _=>false
def Gr (g:XG)(ρ σ:Ren)(kp:List Nat)(os:List (Nat × Fj)):Bool :=
 CP ρ && ρ.all (fun p=>Nat.ble 1000000 p.1) && CP (ρ ++ σ) && σ.all (fun p=>Tw g p.2) && Bg (os.map (·.1)) && os.all (fun p=>Br ((ρ ++ σ).map (·.1)) p.1)
   && (ρ ++ σ).all (fun p=>cond (Br (os.map (·.1)) p.1) (!(Br kp p.1)) (Br kp p.1))
def Cw (R:AP)(ρ:Ren)(d:Nat)(l:List HV):X × XS :=
 let τ:=ρ ++ fresh ρ d R.o
 let q:=Gv R l
 (q.1.AW (AW τ),q.2.map fun p=>((AW τ p.1).getD 0,p.2.map (XO.AW (AW τ))))
theorem CT.wk {f:FuncId}{vs vs':List V}{s s':AB}{Q:V->AB->Prop}(h:CT P AV f vs s Q)(hv:Vh vs' vs)(hs:∀ (B:BH) (w:World) (F:Nat->Prop) (loc:Nat->Option Loc),AL AV B w F loc s' -> AL AV B w F loc s) :
   CT P AV f vs' s' Q:=by
 intro F loc w args hn hS hA
 refine h F loc w args hn (hs _ _ _ _ hS) ⟨by rw [<- hv.1]; exact hA.1,fun j y hj=>?_⟩
 obtain ⟨x,hx,hw⟩:=hv.2 j y hj
 obtain ⟨v,h1,h2⟩:=hA.2 j x hx
 exact ⟨v,h1,hw _ _ _ _ h2⟩
omit [Mo] in
theorem FD:∀ (os:List (Nat × Fj)) (l:List HV),(EH os l).1.map (·.1)=os.map (·.1)
 | [],l=>rfl
 | (n,sh) :: os,l=>by simp only [EH,List.map_cons,FD os]
omit [Mo] in
theorem Xb {sh:Fj}{x:XO}{f:Nat->Option Nat}{hs:List HV}(hn:Zb sh=true)(h:Ay sh (some (x.AW f))=some hs):WQ x.enc=false:=by
 cases x with
 | mi m =>
   have e:(XO.mi m).AW f=.mi (match f m with | some m'=>m' | none=>m):=by simp only [XO.AW]; cases f m <;> rfl
   rw [e] at h
   cases sh <;> first | (cases hn; done) | simp [Ay] at h
 | _=>rfl
omit [Mo] in
theorem Mm {g:XG} {s:AB} (ha:Al g s) {ρ0:Ren}:∀ (os:List (Nat × Fj)) (ρ:Ren) (hs l:List HV),Dn g ρ0 os ρ=some hs ->
   ∃ (L:List (Nat × O)) (Lx:XS),Gy ρ0 s ρ=some L/\Ns L=encS Lx/\∃ so,EH os (hs ++ l)=(so,l)/\dE Lx so
 | [],[],hs,l,h=>by simp only [Dn] at h; cases h; exact ⟨[],[],rfl,rfl,[],rfl,.nil⟩
 | (n, sh) :: os,(n', m) :: ρ,hs,l,h=>by
   simp only [Dn] at h
   cases hc:(Nat.beq n' n && Zb sh) with
   | false=>rw [hc] at h; cases h
   | true =>
     have hc2:=hc
     rw [Bool.and_eq_true] at hc2
     have hnn:=Nat.eq_of_beq_eq_true hc2.1
     subst hnn
     rw [hc] at h
     simp only [cond_true] at h
     split at h
     · rename_i x hx
       split at h
       · rename_i a b h1 h2
         cases h
         obtain ⟨L,Lx,h3,h4,so,h5,h6⟩:=Mm ha os ρ b l h2
         obtain ⟨x', h7,h8⟩:=LR sh (some (x.AW (inv ρ0))) a (b ++ l) h1
         refine ⟨(n', O.AW (inv ρ0) x.enc) :: L,(n', some (x.AW (inv ρ0))) :: Lx,by simp only [Gy,ha.get hx,h3,Xb hc2.2 h1,cond_false],?_,(n', x') :: so,by rw [List.append_assoc]; simp only [EH,h7,h5],.cons _ _ _ _ _ h8 h6⟩
         funext k
         have h4':=congrFun h4 k
         unfold Ns encS at h4' ⊢
         rw [List.find?_cons,lk]
         simp only
         cases hk:Nat.beq n' k with
         | true=>simp [XO.Bw]
         | false=>simpa using h4'
       · cases h
     · cases h
 | [],_ :: _,_,_,h=>by simp [Dn] at h
 | _ :: _,[],_,_,h=>by simp [Dn] at h
omit [Mo] in
theorem Wf (f:Nat->Option Nat)(xs:List X):(EG f xs).map X.enc=Jl f (xs.map X.enc):=by
 rw [<- Ac,Dd,Ac]
omit [Mo] in
theorem KX {g:XG}{s:AB}(ha:Al g s){n:Nat}(h:Tw g n=true):s n=none:=by
 unfold Tw at h
 split at h
 · rename_i hn; exact ha.no n hn
 · cases h
omit [Mo] in
theorem Zd {τ:Ren} (hτ:CP τ=true) {s:AB}:∀ (u:XS),(∀ p ∈ u,∃ m,AW τ p.1=some m)->Bg (u.map (·.1))=true->∀ n,over s (u.map fun p=>((AW τ p.1).getD 0,p.2.map (XO.AW (AW τ)))) n =
     match inv τ n with
     | some m=>match lk u m with | some x=>some ((x.map XO.enc).map (O.AW (AW τ))) | none=>s n
     | none=>s n:=by
 intro u
 induction u with
 | nil=>intro _ _ n; simp only [List.map_nil,over,lk]; cases inv τ n <;> rfl
 | cons p u ih =>
   obtain ⟨q,x⟩:=p
   intro hm hnd n
   obtain ⟨m,hmm⟩:=hm (q,x) (by simp)
   simp only [List.map_cons,Bg,Bool.and_eq_true,Bool.not_eq_true'] at hnd
   simp only [List.map_cons,over,hmm,Option.getD_some]
   by_cases hn:n=m
   · subst hn
     rw [AA]
     have:inv τ n=some q:=(CC hτ).2 ((Bn hτ).1 hmm)
     rw [this]
     simp only [lk,Nat.beq_refl,cond_true]
     cases x with
     | none=>rfl
     | some x=>simp [XO.Bw]
   · rw [AH _ _ hn,ih (fun p hp=>hm p (by simp [hp])) hnd.2 n]
     cases hi:inv τ n with
     | none=>rfl
     | some m' =>
       simp only [lk]
       have:Nat.beq q m' = false:=by
         rw [<- Bool.not_eq_true,Nat.beq_eq]
         rintro rfl
         have h1:=(CC hτ).1 hi
         have h2:=(Bn hτ).2 h1
         rw [h2] at hmm; cases hmm; exact hn rfl
       rw [this]; rfl
omit [Mo] in
theorem BR {l:List Nat}{n:Nat}:Br l n=true ↔ n ∈ l:=by
 unfold Br
 rw [List.any_eq_true]
 constructor
 · rintro ⟨x,h1,h2⟩; rw [Nat.eq_of_beq_eq_true h2]; exact h1
 · intro h; exact ⟨n,h,Nat.beq_refl n⟩
omit [Mo] in
theorem NO {g:XG} {ρ0:Ren}:∀ {os:List (Nat × Fj)} {ρ:Ren} {hs:List HV},Dn g ρ0 os ρ=some hs->os.map (·.1)=ρ.map (·.1)
 | [],[],_,_=>rfl
 | (n, sh) :: os,(n', m) :: ρ,hs,h=>by
   simp only [Dn] at h
   cases hc:(Nat.beq n' n && Zb sh) with
   | false=>rw [hc] at h; cases h
   | true =>
     rw [hc] at h
     rw [Bool.and_eq_true] at hc
     simp only [cond_true] at h
     split at h
     · split at h
       · rename_i h2
         simp only [List.map_cons,NO h2,Nat.eq_of_beq_eq_true hc.1]
       · cases h
     · cases h
 | [],_ :: _,_,h=>by simp [Dn] at h
 | _ :: _,[],_,h=>by simp [Dn] at h
omit [Mo] in
theorem Mh {g:XG} {ρ0:Ren} {kp:List Nat}:∀ (os:List (Nat × Fj)) (ρ:Ren) (hs l:List HV) (so:XS),Dn g ρ0 os ρ=some hs->EH os (hs ++ l)=(so,l)->(∀ p ∈ ρ,lk ρ0 p.1=some p.2)->Kc g ρ0 kp os=true ->
   ∀ (n m:Nat),lk ρ n=some m->n ∈ kp->∃ x,gx g m=some x/\x.Em (fun k=>(inv ρ0 k).isSome)=true/\lk so n=some (some (x.AW (inv ρ0)))
 | [],[],hs,l,so,h,hf,hr,hk,n,m,hn,hkp=>by simp [lk] at hn
 | (n', sh) :: os,(n2,m') :: ρ,hs,l,so,h,hf,hr,hk,n,m,hn,hkp=>by
   simp only [Dn] at h
   cases hc:(Nat.beq n2 n' && Zb sh) with
   | false=>rw [hc] at h; cases h
   | true =>
     have hc2:=hc
     rw [Bool.and_eq_true] at hc2
     have hnn:=Nat.eq_of_beq_eq_true hc2.1
     subst hnn
     rw [hc] at h
     simp only [cond_true] at h
     simp only [Kc,Bool.and_eq_true] at hk
     split at h
     · rename_i x hx
       split at h
       · rename_i a b h1 h2
         cases h
         rw [List.append_assoc] at hf
         simp only [EH] at hf
         simp only [lk] at hn
         cases hq:Nat.beq n2 n with
         | true =>
           have hqq:=Nat.eq_of_beq_eq_true hq
           subst hqq
           rw [hq] at hn
           cases hn
           have hk1:=hk.1
           have hany:(kp.any (Nat.beq n2))=true:=BR.2 hkp
           rw [hany,hr (n2,m') (by simp)] at hk1
           simp only [Option.getD_some,hx,cond_true,Bool.and_eq_true] at hk1
           have:=cb sh (x.AW (inv ρ0)) a (b ++ l) h1 hk1.2
           rw [this] at hf
           injection hf with hf1 hf2
           exact ⟨x,hx,hk1.1,by rw [<- hf1]; simp [lk]⟩
         | false =>
           rw [hq] at hn
           simp only [cond_false] at hn
           obtain ⟨x', h7,_⟩:=LR sh (some (x.AW (inv ρ0))) a (b ++ l) h1
           rw [h7] at hf
           injection hf with hf1 hf2
           obtain ⟨x1,e1,e2,e3⟩:=Mh os ρ b l (EH os (b ++ l)).1 h2 (Prod.ext rfl hf2) (fun p hp=>hr p (by simp [hp])) hk.2 n m hn hkp
           exact ⟨x1,e1,e2,by rw [<- hf1]; simp [lk,hq,e3]⟩
       · cases h
     · cases h
 | [],_ :: _,_,_,_,h,_,_,_,_,_,_,_=>by simp [Dn] at h
 | _ :: _,[],_,_,_,h,_,_,_,_,_,_,_=>by simp [Dn] at h
omit [Mo] in
theorem GY {s:XS}:∀ (kp:List Nat) (n:Nat),lk (Cf kp s) n=if n ∈ kp then lk s n else none
 | [],n=>by simp [Cf,lk]
 | k :: kp,n=>by
   simp only [Cf]
   cases hl:lk s k with
   | none =>
     simp only []
     rw [GY kp n]
     by_cases hn:n=k
     · subst hn; simp [hl]
     · simp [hn]
   | some x =>
     simp only [lk]
     cases hb:Nat.beq k n with
     | true=>have:=Nat.eq_of_beq_eq_true hb; subst this; simp [hl]
     | false =>
       have hn:¬ n=k:=by rintro rfl; simp at hb
       rw [cond_false,GY kp n]; simp [hn]
omit [Mo] in
theorem Ee {α:Type}:∀ {l:List (Nat × α)} {n:Nat} {a:α},Bg (l.map (·.1))=true->(n,a) ∈ l->lk l n=some a
 | [],_,_,_,h=>by cases h
 | (i, b) :: l,n,a,hd,h=>by
   simp only [List.map_cons,Bg,Bool.and_eq_true,Bool.not_eq_true'] at hd
   rw [lk]
   rcases List.mem_cons.1 h with h | h
   · cases h; simp
   · have:Nat.beq i n=false:=by
       rw [<- Bool.not_eq_true,Nat.beq_eq]
       rintro rfl
       exact GV hd.1 i (List.mem_map.2 ⟨_,h,rfl⟩) rfl
     rw [this,cond_false]; exact Ee hd.2 h
omit [Mo] in
theorem Ts {g:XG} {s:AB} (ha:Al g s) {ρ σ:Ren} {kp:List Nat} {os:List (Nat × Fj)} {out so:XS} (hcb:Gr g ρ σ kp os=true) (Cd:out.map (·.1)=os.map (·.1))
   (hkept:∀ (n m:Nat),lk ρ n=some m->n ∈ kp->∃ x,gx g m=some x/\x.Em (fun k=>(inv ρ k).isSome)=true/\lk so n=some (some (x.AW (inv ρ)))) (hso:so.map (·.1)=ρ.map (·.1)) :
   Kl (ρ ++ σ) (encS (out ++ Cf kp so)) s=over s (out.map fun p=>((AW (ρ ++ σ) p.1).getD 0,p.2.map (XO.AW (AW (ρ ++ σ))))):=by
 unfold Gr at hcb
 simp only [Bool.and_eq_true] at hcb
 obtain ⟨⟨⟨⟨⟨⟨b1,b2⟩,b3⟩,b4⟩,b5⟩,b6⟩,b7⟩:=hcb
 have hnr:Bg (ρ.map (·.1))=true:=by unfold CP at b1; rw [Bool.and_eq_true] at b1; exact b1.1
 have hmem:∀ p ∈ out,∃ m,AW (ρ ++ σ) p.1=some m:=by
   intro p hp
   have h1:p.1 ∈ os.map (·.1):=by rw [<- Cd]; exact List.mem_map.2 ⟨p,hp,rfl⟩
   obtain ⟨q,hq,he⟩:=List.mem_map.1 h1
   have h2:=BR.1 (List.all_eq_true.1 b6 q hq)
   obtain ⟨t,ht,he2⟩:=List.mem_map.1 h2
   exact ⟨t.2,(Bn b3).2 (by rw [<- he,<- he2]; simpa using ht)⟩
 funext n
 rw [Zd b3 out hmem (by rw [Cd]; exact b5) n]
 unfold Kl
 cases hi:inv (ρ ++ σ) n with
 | none=>rfl
 | some m =>
   have h1:=(CC b3).1 hi
   simp only [encS,AX]
   cases hl:lk out m with
   | some x=>rfl
   | none =>
     simp only
     have hno:Br (os.map (·.1)) m=false:=by
       rw [<- Bool.not_eq_true,BR,<- Cd]
       intro hm
       obtain ⟨p,hp,he⟩:=List.mem_map.1 hm
       exact Hr hl p.2 (by rw [<- he]; simpa using hp)
     have h7:=List.all_eq_true.1 b7 _ h1
     simp only [hno,cond_false] at h7
     have hmk:=BR.1 h7
     rw [GY,if_pos hmk]
     rcases List.mem_append.1 h1 with hr | hs
     · obtain ⟨x,e1,e2,e3⟩:=hkept m n (Ee hnr hr) hmk
       rw [e3,ha.is _ _ (CE e1)]
       simp only [Option.map_some]
       rw [<- XO.Bw,XO.Ij _ _ (fun a b hab=>?_) x e2]
       exact (Bn b3).2 (List.mem_append_left _ ((CC b1).1 hab))
     · have hnone:lk so m=none:=by
         cases hq:lk so m with
         | none=>rfl
         | some y =>
           exfalso
           have h3:m ∈ ρ.map (·.1):=by rw [<- hso]; exact List.mem_map.2 ⟨_,Cg hq,rfl⟩
           obtain ⟨p,hp,he⟩:=List.mem_map.1 h3
           unfold CP at b3
           rw [Bool.and_eq_true] at b3
           have h5:∀ (l:Ren) (p q:Nat × Nat),Bg (l.map (·.1))=true->p ∈ l->q ∈ l->p.1=q.1->p=q:=by
             intro l p q hd hp hq he
             have e1:=Ee hd (show (p.1,p.2) ∈ l from hp)
             have e2:=Ee hd (show (q.1,q.2) ∈ l from hq)
             rw [he,e2] at e1
             exact Prod.ext he (Option.some.inj e1).symm
           have hpq:=h5 _ p (m,n) b3.1 (List.mem_append_left _ hp) h1 he
           subst hpq
           have:∀ (a b:Ren) (q:Nat × Nat),Bg ((a ++ b).map (·.1))=true->q ∈ a->q ∈ b->False:=by
             intro a b q hd h1 h2
             induction a with
             | nil=>cases h1
             | cons z a ih =>
               simp only [List.cons_append,List.map_cons,Bg,Bool.and_eq_true,Bool.not_eq_true'] at hd
               rcases List.mem_cons.1 h1 with h1 | h1
               · subst h1
                 exact GV hd.1 q.1 (List.mem_map.2 ⟨q,List.mem_append_right _ h2,rfl⟩) rfl
               · exact ih hd.2 h1
           exact this ρ σ _ b3.1 hp hs
       rw [hnone,KX ha (List.all_eq_true.1 b4 _ hs)]; rfl
def NV (D:Au)(e:Operand->X):Op->Option (Option (FuncId × List X))
 | .call ⟨.value f,args,_⟩=>some (match nv (e f) with | some (g,caps)=>some (g,args.toList.map e ++ caps) | none=>none)
 | .call ⟨.invoke r n,args,_⟩=>some (match e r with | .Aq t x=>(match D.Tc t n with | some g=>some (g,x :: args.toList.map e) | none=>none) | _=>none)
 | _=>none
omit [Mo] in
theorem QS {D:Au} {e:Operand->X} {op:Op} {f:FuncId} {xs:List X} (h:NV D e op=some (some (f,xs))) :
   (∃ fop az ts caps,op=.call ⟨.value fop,az,ts⟩/\nv (e fop)=some (f,caps)/\xs=az.toList.map e ++ caps)\/(∃ r n az ts t x,op=.call ⟨.invoke r n,az,ts⟩/\e r=.Aq t x/\D.Tc t n=some f/\xs=x :: az.toList.map e):=by
 unfold NV at h
 split at h
 · rename_i fop az ts
   split at h
   · rename_i g caps hf
     cases h
     exact .inl ⟨fop,az,ts,caps,rfl,hf,rfl⟩
   · cases h
 · rename_i r n az ts
   split at h
   · rename_i t x hx
     split at h
     · rename_i g hm
       cases h
       exact .inr ⟨r,n,az,ts,t,x,rfl,hx,hm,rfl⟩
     · cases h
   · cases h
 · cases h
theorem OM (hg:Good P D) {C:Ao P} {g:XG} {o:Oper} {st:St} (ha:Al g st.s) {e:Operand->X} {xs:List X} {y:Tup C.h} {ρ:Ren}
   (hcf:NV D e o.op=some (some (C.f,xs))) (he:∀ x ∈ o.op.operands.toList,ev AV st.t x=(e x).enc) (hc:GM C g xs=.call y ρ)
   (d:Nat) {r:Ea (C.R.map (·.h))} (hr:C.F y=some r) :
   Av (C.R.map (·.h)) r fun i l=>Gr g ρ (fresh ρ d (EC C.R i).o) C.kp (EC C.R i).o=true->Xj P AV o st (Cw (EC C.R i) ρ d l).1.enc (over st.s (Cw (EC C.R i) ρ d l).2):=by
 unfold GM at hc
 simp only at hc
 split at hc
 · cases hc
 · split at hc
   · rename_i h1 h2 e1 e2
     split at hc
     · rename_i y' hy
       cases hkb:Kc g (C.A.o.map fun p=>(p.1,nameOf (KC g C.A.o (Fp C.A.a xs ⟨[],[]⟩)) p.1)) C.kp C.A.o with
       | false=>rw [hkb] at hc; cases hc
       | true =>
       rw [hkb] at hc
       simp only [cond_true] at hc
       injection hc with hc1 hc2
       subst hc1
       refine Jk _ _ ?_ (C.ok y' r hr)
       intro i l hct hcb
       rw [hc2] at e1 e2 hkb
       have ho:=DK C.h _ y' hy
       obtain ⟨xs', k1,k2⟩:=Ge C.A.a _ h1 h2 e1
       obtain ⟨L,Lx,k3,k4,so,k5,k6⟩:=Mm ha (ρ0:=ρ) C.A.o ρ h2 [] e2
       have hb:=hcb
       unfold Gr at hcb
       simp only [Bool.and_eq_true] at hcb
       obtain ⟨⟨⟨⟨⟨⟨b1,b2⟩,b3⟩,b4⟩,b5⟩,b6⟩,b7⟩:=hcb
       have hnr:Bg (ρ.map (·.1))=true:=by unfold CP at b1; rw [Bool.and_eq_true] at b1; exact b1.1
       have hkept:=Mh C.A.o ρ h2 [] so e2 k5 (fun p hp=>Ee hnr (by simpa using hp)) hkb
       rw [List.append_nil] at k5
       have hin:FT C.A (Bc C.h y')=(xs', so):=by rw [ho]; unfold FT; simp only [k1,k5]
       have hso:so.map (·.1)=ρ.map (·.1):=by
         rw [<- NO e2]
         have:=FD C.A.o h2
         rw [k5] at this; exact this
       rw [hin] at hct
       have hct':CT P AV C.f (Jl (inv ρ) (xs.map X.enc)) (Ns L) fun r' s'=>r' = (Gv (EC C.R i) l).1.enc/\s' = encS ((Gv (EC C.R i) l).2 ++ Cf C.kp so):=by
         refine CT.wk hct ?_ ?_
         · rw [<- Wf]; exact k2
         · intro B w F loc h
           rw [k4] at h
           have:=AL.oL (post:=[]) k6 [] (by simpa using h)
           simpa using this
       have hfree:((fresh ρ d (EC C.R i).o).all fun p=>(st.s p.2).isNone)=true:=by
         rw [List.all_eq_true] at b4 ⊢
         intro p hp
         rw [KX ha (b4 p hp)]; rfl
       have:Xj P AV o st ((Gv (EC C.R i) l).1.enc.AW (AW (ρ ++ fresh ρ d (EC C.R i).o))) (Kl (ρ ++ fresh ρ d (EC C.R i).o) (encS ((Gv (EC C.R i) l).2 ++ Cf C.kp so)) st.s):=by
         rcases QS hcf with ⟨fop,args,ts,caps,hop,hf,rfl⟩ | ⟨rc,nm,args,ts,t,x,hop,hx,hm,rfl⟩
         · have hfop:ev AV st.t fop=(e fop).enc:=he fop (by rw [hop]; simp [Op.operands,Call.operands])
           have hargs:args.toList.map (ev AV st.t)=(args.toList.map e).map X.enc:=by
             rw [List.map_map]
             refine List.map_congr_left fun z hz=>he z ?_
             rw [hop]; simp only [Op.operands,Call.operands,Array.toList_append,List.mem_append]; exact .inr hz
           exact Xj.call (σ:=fresh ρ d (EC C.R i).o) hop (by rw [hfop]; exact aL hf) C.bU C.KT C.hb b1 b2 k3 (by rw [hargs,Ac,<- List.map_append]) hct' b3 hfree
         · have hrc:ev AV st.t rc=.Aq t x.enc:=by rw [he rc (by rw [hop]; simp [Op.operands,Call.operands]),hx]; rfl
           have hargs:args.toList.map (ev AV st.t)=(args.toList.map e).map X.enc:=by
             rw [List.map_map]
             refine List.map_congr_left fun z hz=>he z ?_
             rw [hop]; simp only [Op.operands,Call.operands,Array.toList_append,List.mem_append]; exact .inr hz
           exact Xj.lY (σ:=fresh ρ d (EC C.R i).o) hg hop hrc hm C.bU C.KT C.hb b1 b2 k3 (by rw [hargs,List.map_cons]) hct' b3 hfree
       rw [Ts ha hb (by unfold Gv; exact FD _ _) hkept hso] at this
       unfold Cw
       simp only
       rw [X.Bw]
       exact this
     · cases hc
   · cases hc
end Go.Proofs.YthoimblkpcikdaaGreatDoor.Mc
namespace Go.Proofs.YthoimblkpcikdaaGreatDoor.Mc
open Go.RowKit
variable [Mo]
set_option linter.constructorNameAsVariable false
variable {P:Program}{D:Au}
def HX (st:BC)(dst:Option Nat)(v:X)(u:XS):BC:=⟨match dst with | some d=>(d,v) :: st.t | none=>st.t,u ++ st.s⟩
omit [Mo] in
theorem Bs (E:XE)(st:BC)(dst:Option Nat)(v:X)(u:XS):AG E (HX st dst v u)=(AG E st).put dst v.enc (over (AG E st).s u):=by
 cases dst with
 | none =>
   show St.mk (Ci (st.t ++ E.t)) (encS ((u ++ st.s) ++ E.s)) E.n E.a=St.mk _ _ _ _
   rw [List.append_assoc,Ei]; rfl
 | some d =>
   show St.mk (Ci ((d,v) :: (st.t ++ E.t))) (encS ((u ++ st.s) ++ E.s)) E.n E.a=St.mk _ _ _ _
   rw [List.append_assoc,Ei,JJ]; rfl
def eP (E:XE)(dst:Option Nat):Bool:=match dst with | some d=>Nat.blt d E.n | none=>true
def Yk (E:XE)(st:BC):Operand->X:=uf (st.t ++ E.t)
def gE (E:XE)(st:BC):XG:=fun n=>lk (st.s ++ E.s) n
omit [Mo] in
theorem PX (E:XE)(st:BC):Al (gE E st) (AG E st).s:=by
 constructor
 · intro o x h
   show encS (st.s ++ E.s) o=_
   unfold encS
   rw [show lk (st.s ++ E.s) o=some (some x) from h]; rfl
 · intro d h
   show encS (st.s ++ E.s) d=_
   unfold encS
   rw [show lk (st.s ++ E.s) d=none from h]
omit [Mo] in
theorem LM (E:XE)(st:BC)(x:Operand):ev AV (AG E st).t x=(Yk E st x).enc:=(cW _ x).symm
def TF (ops:Array Oper)(E:XE)(o:Oper)(st:BC):Option Bool :=
 match o.guard with
 | none=>some true
 | some (j,w)=>match (ops[j]?).bind (·.dst) with
   | some d=>cond (Nat.blt d E.n) (match Xn E st d with | .b q=>some (q == w) | .tp []=>some false | _=>none) none
   | none=>none
omit [Mo] in
theorem LK (E:XE)(st:BC)(i:Nat):(AG E st).t i=(Xn E st i).enc:=FW _ i
omit [Mo] in
theorem Fa {ops:Array Oper} {E:XE} {o:Oper} {st:BC} {b:Bool} (h:TF ops E o st=some b):want ops o (AG E st)=some b:=by
 unfold TF at h
 unfold want
 split at h
 · rename_i hg; rw [hg]; exact h
 · rename_i j w hg
   rw [hg]
   simp only
   split at h
   · rename_i d hd
     rw [hd]
     simp only
     cases hn:Nat.blt d E.n with
     | false=>rw [hn] at h; cases h
     | true =>
       rw [hn] at h
       simp only [cond_true] at h
       have hn':Nat.blt d (AG E st).n=true:=hn
       rw [hn', LK]
       split at h
       · rename_i q hq; rw [hq]; exact h
       · rename_i hq; rw [hq]; exact h
       · cases h
   · cases h
variable {G:BG}
theorem BA.opW {ops:Array Oper}{o:Oper}{l:List Oper}{st:St}{Q:Exit->St->Prop}{v:V}{s':AB}(hw:want ops o st=some true)(hd:fits st o.dst=true)(h:Xj P G o st v s')
   (k:BA P G ops l (st.put o.dst v s') Q):BA P G ops (o :: l) st Q:=by
 intro B F loc a w hR hdf
 show if _ then _ else _
 rw [DA hR hw]
 simp only [if_true]
 left
 exact h B F loc a w hR _ _ fun x F' loc' w' hS hk hs hv=>k B F' loc' _ w' (hR.put hd hS hk hs hv) (by cases ho:o.dst <;> simp [Act.put,hdf])
theorem BA.opD {ops:Array Oper}{o:Oper}{l:List Oper}{st:St}{Q:Exit->St->Prop}{c:Bool}{v1 v2:V}(hw:want ops o st=some true)(hd:fits st o.dst=true)(h:qt P o st c v1 v2)
   (k1:c=true->BA P AV ops l (st.put o.dst v1 st.s) Q) (k2:BA P AV ops l (st.put o.dst v2 st.s) Q):BA P AV ops (o :: l) st Q:=by
 intro B F loc a w hR hdf
 show if _ then _ else _
 rw [DA hR hw]
 simp only [if_true]
 left
 obtain ⟨x,hrun,hx⟩:=h B F loc a w hR
 unfold Oper.wp
 rw [hrun]
 have hdf':(a.put o.dst x).defers=[]:=by cases ho:o.dst <;> simp [Act.put,hdf]
 rcases hx with ⟨hc,hx⟩ | hx
 · exact k1 hc B F loc _ w (hR.put hd hR.s (Kept.refl _ _) (Az.refl _) hx) hdf'
 · exact k2 B F loc _ w (hR.put hd hR.s (Kept.refl _ _) (Az.refl _) hx) hdf'
noncomputable def gw {R:Type}(c:Bool)(A B:Option R):Option R:=cond c (open Classical in if A=B then B else none) B
omit [Mo] in
theorem aN {R:Type}{c:Bool}{A B:Option R}{r:R}(h:gw c A B=some r):(c=true->A=some r)/\B=some r:=by
 cases c with
 | false=>exact ⟨fun h=>(by cases h),h⟩
 | true =>
   simp only [gw,cond_true] at h
   split at h
   · rename_i hab; exact ⟨fun _=>by rw [hab]; exact h,h⟩
   · cases h
noncomputable def JB {α R:Type}(l:List α)(g:Nat->α->Option R):Option R :=
 open Classical in if h:∃ r,l ≠ []/\∀ (j:Nat) (a:α),l[j]? = some a->g j a=some r then some (Classical.choose h) else none
omit [Mo] in
theorem ao {α R:Type}{l:List α}{g:Nat->α->Option R}{r:R}(h:JB l g=some r):l ≠ []/\∀ (j:Nat) (a:α),l[j]? = some a->g j a=some r:=by
 unfold JB at h
 split at h
 · rename_i hh
   cases h
   exact Classical.choose_spec hh
 · cases h
omit [Mo] in
theorem dt {α R:Type}{l:List α}{g:Nat->α->Option R}{r:R}(hl:l ≠ [])(hg:∀ (j:Nat) (a:α),l[j]? = some a->g j a=some r):JB l g=some r:=by
 have hh:∃ r,l ≠ []/\∀ (j:Nat) (a:α),l[j]? = some a->g j a=some r:=⟨r,hl,hg⟩
 unfold JB
 rw [dif_pos hh]
 obtain ⟨_,h2⟩:=Classical.choose_spec hh
 cases l with
 | nil=>exact absurd rfl hl
 | cons a l =>
   have e1:=h2 0 a rfl
   have e2:=hg 0 a rfl
   rw [e2] at e1
   exact e1.symm
theorem BA.opA {ops:Array Oper}{o:Oper}{l:List Oper}{st:St}{Q:Exit->St->Prop}{R:V->AB->Prop}(hw:want ops o st=some true)(hd:fits st o.dst=true)(h:tv P o st R)
   (k:∀ v s', R v s' -> BA P AV ops l (st.put o.dst v s') Q):BA P AV ops (o :: l) st Q:=by
 intro B F loc a w hR hdf
 show if _ then _ else _
 rw [DA hR hw]
 simp only [if_true]
 left
 obtain ⟨v,s', hr,F', loc', w', x,r,hrun,hx,hS,hk,hs,hv⟩:=h B F loc a w hR
 unfold Oper.wp
 rw [hrun]
 have hdf':(a.put o.dst x).defers=[]:=by cases ho:o.dst <;> simp [Act.put,hdf]
 rcases hx with rfl | ⟨rfl,rfl⟩
 · exact k v s' hr B F' loc' _ w' (hR.put hd hS hk hs hv) hdf'
 · exact k v s' hr B F' loc' _ w' (hR.put hd hS hk hs hv) hdf'
mutual
def Qg:X->Option Nat
 | .sl _ o=>some o
 | .sw o _ _=>some o
 | .ag l=>UX l
 | .Aq _ x=>Qg x
 | _=>none
def UX:List X->Option Nat
 | []=>none
 | x :: l=>match Qg x with | some o=>some o | none=>UX l
end
def oW:X->Bool | .pe _ _ _=>true | _=>false
def dJ (e:Operand->X):Op->Option Nat
 | .buildSlice _ _ parts=>UX (parts.toList.map fun p=>e p.2)
 | .store _ p x=>cond (oW (e p)) (Qg (e x)) none
 | _=>none
mutual
def Sh.AW (f:Nat->Option Nat):Sh->Sh
 | .sl nl o=>match f o with | some o'=>.sl nl o' | none=>.dead
 | .sw o=>match f o with | some o'=>.sw o' | none=>.dead
 | .pt o off=>match f o with | some o'=>.pt o' off | none=>.dead
 | .pe o off=>match f o with | some o'=>.pe o' off | none=>.dead
 | .mp o=>match f o with | some o'=>.mp o' | none=>.dead
 | .it o=>match f o with | some o'=>.it o' | none=>.dead
 | .sp o=>match f o with | some o'=>.sp o' | none=>.dead
 | .fn g l=>.fn g (Lh f l)
 | .ag l=>.ag (Lh f l)
 | .tp l=>.tp (Lh f l)
 | .Aq t x=>.Aq t (Sh.AW f x)
 | x=>x
def Lh (f:Nat->Option Nat):List Sh->List Sh
 | []=>[]
 | x :: l=>Sh.AW f x :: Lh f l
end
def Fj.AW (f:Nat->Option Nat):Fj->Fj
 | .bx e l=>.bx e (Lh f l)
 | x=>x
def TK (sh:Fj)(n:Nat)(st:BC):Option BC :=
 match lk st.s n with
 | some (some x)=>match Ay sh (some x) with
   | some hs=>some ⟨st.t,(n,(Mk sh hs).1) :: st.s⟩
   | none=>none
 | _=>none
theorem Conv.TK {E:XE} {sh:Fj} {n:Nat} {st st':BC} (h:Mc.TK sh n st=some st'):Conv AV (AG E st) (AG E st'):=by
 unfold Mc.TK at h
 split at h
 · rename_i x hl
   split at h
   · rename_i hs hgo
     cases h
     obtain ⟨x', h1,h2⟩:=LR sh (some x) hs [] hgo
     rw [List.append_nil] at h1
     rw [h1]
     intro B F loc tmps w hR
     refine ⟨F,loc,⟨?_,hR.t,hR.n,hR.a⟩⟩
     have hS:AL AV B w F loc (encS (st.s ++ E.s)):=hR.s
     have he:encS ((n,some x) :: (st.s ++ E.s))=encS (st.s ++ E.s):=by
       funext m
       unfold encS
       rw [lk]
       cases hb:Nat.beq n m with
       | true=>rw [<- Nat.eq_of_beq_eq_true hb,AX,hl]; rfl
       | false=>rfl
     have:=AL.uI (pre:=[]) (post:=st.s ++ E.s) (by rw [List.nil_append,he]; exact hS) h2
     exact this
   · cases h
 · cases h
def Jn (ρ:Ren)(kp:List Nat):List (Nat × Fj)->BC->Option BC
 | [],st=>some st
 | (n,sh) :: l,st=>cond (Br kp n) (match TK (sh.AW (AW ρ)) ((lk ρ n).getD 0) st with
   | some st'=>Jn ρ kp l st'
   | none=>none) (Jn ρ kp l st)
theorem Fu {E:XE} {ρ:Ren} {kp:List Nat}:∀ {l:List (Nat × Fj)} {st st':BC},Jn ρ kp l st=some st' -> Conv AV (AG E st) (AG E st')
 | [],st,st', h=>by simp only [Jn] at h; cases h; exact Conv.refl _
 | (n, sh) :: l,st,st', h=>by
   simp only [Jn] at h
   cases hc:Br kp n with
   | false=>rw [hc] at h; exact Fu h
   | true =>
     rw [hc] at h
     simp only [cond_true] at h
     split at h
     · rename_i st1 h1
       exact Conv.trans (Conv.TK h1) (Fu h)
     · cases h
def gG:Op->Option (Operand × List Operand)
 | .call ⟨.value f,args,_⟩=>some (f,args.toList)
 | .call ⟨.invoke r _,args,_⟩=>some (r,args.toList)
 | _=>none
def Gj:Option Nat->Nat | some d=>d | none=>99999
def ef {R:Type}(C:Ao P)(E:XE)(o:Oper)(st:BC)(y:Tup C.h)(ρ:Ren)(kk:BC->Option R):Option R :=
 (C.F y).bind fun r=>Av (C.R.map (·.h)) r fun i l =>
   cond (Gr (gE E st) ρ (fresh ρ (Gj o.dst) (EC C.R i).o) C.kp (EC C.R i).o) (kk (HX st o.dst (Cw (EC C.R i) ρ (Gj o.dst) l).1 (Cw (EC C.R i) ρ (Gj o.dst) l).2)) none
inductive cI (P:Program) where
 | bad
 | call (C:Ao P) (y:Tup C.h) (ρ:Ren)
 | BM (o:Nat)
 | mY (st:BC)
def Kn (E:XE)(f:FuncId)(xs:List X)(st:BC):List (Ao P)->cI P
 | []=>.bad
 | C :: Γ => cond (Nat.beq C.f f) (match GM C (gE E st) xs with
   | .call y ρ=>.call C y ρ
   | _=>Kn E f xs st Γ) (Kn E f xs st Γ)
def Ii (E:XE) (f:FuncId) (xs:List X) (st:BC):List (Ao P)->cI P
 | []=>.bad
 | C :: Γ => cond (Nat.beq C.f f) (match GM C (gE E st) xs with
   | .BM o=>.BM o
   | _ =>
     let ρ:=C.A.o.map fun p=>(p.1,nameOf (KC (gE E st) C.A.o (Fp C.A.a xs ⟨[],[]⟩)) p.1)
     match ER E ⟨[],C.A.o⟩ C.A.o (Fp C.A.a xs ⟨[],[]⟩) st with
     | some (_,st1)=>cond (Nat.blt st.s.length st1.s.length) (.mY st1) (cond (Kc (gE E st) ρ C.kp C.A.o) (Ii E f xs st Γ) (match Jn ρ C.kp C.A.o st with
     | some st'=>.mY st'
     | none=>Ii E f xs st Γ))
     | none=>Ii E f xs st Γ) (Ii E f xs st Γ)
def Rz (E:XE)(f:FuncId)(xs:List X)(st:BC)(Γ : List (Ao P)):cI P :=
 match Kn E f xs st Γ with
 | .bad=>Ii E f xs st Γ
 | p=>p
noncomputable def OR {R:Type} (D:Au) (rows:Nat->Option Row) (Γ : List (Ao P)) (ops:Array Oper) (E:XE):Nat->Oper->BC->(BC->Option R)->Option R
 | 0,_,_,_=>none
 | n + 1,o,st,kk=>match TF ops E o st,eP E o.dst with
   | some true,true=>match NV D (Yk E st) o.op with
     | some fx=>match fx with
       | some (f,xs)=>match Rz E f xs st Γ with
         | .call C y ρ=>ef C E o st y ρ kk
         | .BM q=>match Da E q st with
           | some st'=>OR D rows Γ ops E n o st' kk
           | none=>none
         | .mY st'=>OR D rows Γ ops E n o st' kk
         | .bad=>none
       | none=>none
     | none=>match dJ (Yk E st) o.op with
       | some q=>match Da E q st with
         | some st'=>OR D rows Γ ops E n o st' kk
         | none=>none
       | none=>match kg D rows (gE E st) (Yk E st) o with
         | .ok v u=>kk (HX st o.dst v u)
         | .Ai q v u=>Ai q (kk (HX st o.dst v u))
         | .Qr _ m f=>m.bind fun a=>kk (HX st o.dst (f a).1 (f a).2)
         | .Ku c v1 v2=>gw c (kk (HX st o.dst v1 [])) (kk (HX st o.dst v2 []))
         | .cs c v1 u1 v2 u2=>cond c (kk (HX st o.dst v1 u1)) (kk (HX st o.dst v2 u2))
         | .any _ v0 u0 l f=>cond l.isEmpty (kk (HX st o.dst v0 u0)) (JB l fun j a=>kk (HX st o.dst (f j a).1 (f j a).2))
         | _=>none
   | _,_=>none
theorem HH {E:XE} {f:FuncId} {xs:List X} {st:BC}:∀ {Γ : List (Ao P)} {C:Ao P} {y:Tup C.h} {ρ:Ren},Kn E f xs st Γ = .call C y ρ->C.f=f/\GM C (gE E st) xs=.call y ρ
 | [],C,y,ρ,h=>by cases h
 | C' :: Γ,C,y,ρ,h=>by
   simp only [Kn] at h
   cases hc:Nat.beq C'.f f with
   | false=>rw [hc] at h; exact HH h
   | true =>
     rw [hc] at h
     simp only [cond_true] at h
     split at h
     · rename_i y' ρ' hci
       cases h
       exact ⟨Nat.eq_of_beq_eq_true hc,hci⟩
     · exact HH h
theorem HT {E:XE} {f:FuncId} {xs:List X} {st:BC}:∀ {Γ : List (Ao P)},Kn E f xs st Γ = .bad\/∃ C y ρ,Kn E f xs st Γ = .call C y ρ
 | []=>.inl rfl
 | C' :: Γ => by
   simp only [Kn]
   cases Nat.beq C'.f f with
   | false=>exact HT
   | true =>
     simp only [cond_true]
     split
     · exact .inr ⟨_,_,_,rfl⟩
     · exact HT
theorem Eb {E:XE} {f:FuncId} {xs:List X} {st st':BC}:∀ {Γ : List (Ao P)},Ii E f xs st Γ = .mY st' -> Conv AV (AG E st) (AG E st')
 | [],h=>by cases h
 | C' :: Γ,h=>by
   simp only [Ii] at h
   cases hc:Nat.beq C'.f f with
   | false=>rw [hc] at h; exact Eb h
   | true =>
     rw [hc] at h
     simp only [cond_true] at h
     split at h
     · cases h
     · split at h
       · rename_i a1 st1 hw
         cases hb:Nat.blt st.s.length st1.s.length with
         | true =>
           rw [hb] at h
           cases h
           exact Bl hw
         | false =>
           rw [hb] at h
           simp only [cond_false] at h
           cases hk:Kc (gE E st) (C'.A.o.map fun p=>(p.1,nameOf (KC (gE E st) C'.A.o (Fp C'.A.a xs ⟨[],[]⟩)) p.1)) C'.kp C'.A.o with
           | true=>rw [hk] at h; exact Eb h
           | false =>
             rw [hk] at h
             simp only [cond_false] at h
             split at h
             · rename_i st1 h1
               cases h
               exact Fu h1
             · exact Eb h
       · exact Eb h
theorem Dp {E:XE} {f:FuncId} {xs:List X} {st:BC} {C:Ao P} {y:Tup C.h} {ρ:Ren}:∀ {Γ : List (Ao P)},Ii E f xs st Γ ≠ .call C y ρ
 | [],h=>by cases h
 | C' :: Γ,h=>by
   simp only [Ii] at h
   cases hc:Nat.beq C'.f f with
   | false=>rw [hc] at h; exact Dp h
   | true =>
     rw [hc] at h
     simp only [cond_true] at h
     split at h
     · cases h
     · split at h
       · rename_i a1 st1 hw
         cases hb:Nat.blt st.s.length st1.s.length with
         | true=>rw [hb] at h; cases h
         | false =>
           rw [hb] at h
           simp only [cond_false] at h
           cases hk:Kc (gE E st) (C'.A.o.map fun p=>(p.1,nameOf (KC (gE E st) C'.A.o (Fp C'.A.a xs ⟨[],[]⟩)) p.1)) C'.kp C'.A.o with
           | true=>rw [hk] at h; exact Dp h
           | false =>
             rw [hk] at h
             simp only [cond_false] at h
             split at h
             · cases h
             · exact Dp h
       · exact Dp h
theorem UB {E:XE}{f:FuncId}{xs:List X}{st:BC}{Γ : List (Ao P)}{C:Ao P}{y:Tup C.h}{ρ:Ren}(h:Rz E f xs st Γ = .call C y ρ):C.f=f/\GM C (gE E st) xs=.call y ρ:=by
 unfold Rz at h
 split at h
 · exact absurd h Dp
 · exact HH h
theorem Wb {E:XE}{f:FuncId}{xs:List X}{st st':BC}{Γ : List (Ao P)}(h:Rz E f xs st Γ = .mY st'):Conv AV (AG E st) (AG E st'):=by
 unfold Rz at h
 split at h
 · exact Eb h
 · rcases HT (E:=E) (f:=f) (xs:=xs) (st:=st) (Γ := Γ) with h1 | ⟨C,y,ρ,h1⟩
   · rw [h1] at h; cases h
   · rw [h1] at h; cases h
theorem EI (hg:Good P D) {R:Type} {rows:Nat->Option Row} {Γ : List (Ao P)} {ops:Array Oper} {E:XE} {l:List Oper} {Q:Exit->St->Prop} {r:R}:∀ (n:Nat) (o:Oper) (st:BC) (kk:BC->Option R),OR D rows Γ ops E n o st kk=some r ->
   (∀ st', kk st' = some r->BA P AV ops l (AG E st') Q)->BA P AV ops (o :: l) (AG E st) Q
 | 0,_,_,_,h,_=>by cases h
 | n + 1, o, st,kk,h,hk=>by
   simp only [OR] at h
   split at h
   · rename_i hw hfit
     have hw':=Fa hw
     have hd:fits (AG E st) o.dst=true:=hfit
     split at h
     · rename_i fx hco
       split at h
       · rename_i f xs
         split at h
         · rename_i C y ρ hp
           obtain ⟨rfl,hci⟩:=UB hp
           unfold ef at h
           obtain ⟨z,hz,h⟩:=Dk h
           have law:=OM hg (PX E st) hco (fun x _=>LM E st x) hci (Gj o.dst) hz
           obtain ⟨i,l', h1,h2⟩:=JQ _ z h law
           obtain ⟨hcb,h1⟩:=DY (c:=Gr _ _ _ _ _) h1
           refine BA.opW hw' hd (h2 hcb) ?_
           rw [<- Bs]
           exact hk _ h1
         · split at h
           · rename_i st' hfz
             exact BA.conv (Conv.Da hfz) (EI hg n o st' kk h hk)
           · cases h
         · rename_i st' hp
           exact BA.conv (Wb hp) (EI hg n o st' kk h hk)
         · cases h
       · cases h
     · split at h
       · split at h
         · rename_i st' hfz
           exact BA.conv (Conv.Da hfz) (EI hg n o st' kk h hk)
         · cases h
       · have law:=RG (o:=o) (st:=AG E st) (rows:=rows) hg (PX E st) (fun x _=>LM E st x)
         split at h
         · rename_i v u hx
           rw [hx] at law
           refine BA.op hw' hd law ?_
           rw [<- Bs]; exact hk _ h
         · rename_i q v u hx
           rw [hx] at law
           obtain ⟨hq,h⟩:=DY h
           refine BA.op hw' hd (law hq) ?_
           rw [<- Bs]; exact hk _ h
         · rename_i α m f hx
           rw [hx] at law
           obtain ⟨a,ha,h⟩:=Dk h
           refine BA.op hw' hd (law a ha) ?_
           rw [<- Bs]; exact hk _ h
         · rename_i c v1 v2 hx
           rw [hx] at law
           obtain ⟨h1,h2⟩:=aN h
           refine BA.opD hw' hd law (fun hc=>?_) ?_
           · have:=Bs E st o.dst v1 []
             simp only [over] at this
             rw [<- this]; exact hk _ (h1 hc)
           · have:=Bs E st o.dst v2 []
             simp only [over] at this
             rw [<- this]; exact hk _ h2
         · rename_i c v1 u1 v2 u2 hx
           rw [hx] at law
           cases c with
           | true =>
             refine BA.op hw' hd (law.1 rfl) ?_
             rw [<- Bs]; exact hk _ h
           | false =>
             refine BA.op hw' hd (law.2 rfl) ?_
             rw [<- Bs]; exact hk _ h
         · rename_i α v0 u0 l0 f hx
           rw [hx] at law
           cases l0 with
           | nil =>
             refine BA.op hw' hd (law.1 rfl) ?_
             rw [<- Bs]; exact hk _ h
           | cons a0 l0 =>
             obtain ⟨_,h2⟩:=ao (show JB (a0 :: l0) _=some r from h)
             refine BA.opA hw' hd (law.2 (by simp)) ?_
             rintro v s' ⟨j,a1,hj,rfl,rfl⟩
             rw [<- Bs]; exact hk _ (h2 j a1 hj)
         · cases h
   · cases h
end Go.Proofs.YthoimblkpcikdaaGreatDoor.Mc
namespace Go.Proofs.YthoimblkpcikdaaGreatDoor.Mc
open Go.RowKit
variable [Mo]
variable {P:Program}{D:Au}
inductive Way (ops:Array Oper):Nat->Nat->Prop where
 | one {i j:Nat} (h:depOn ops i j=true):Way ops i j
 | step {i k j:Nat} (h:depOn ops i k=true) (w:Way ops k j):Way ops i j
omit [Mo] in
theorem Way.down {ops:Array Oper}{p:Nat->Prop}(hd:∀ a b,p a->depOn ops a b=true->p b){i j:Nat}(w:Way ops i j)(hi:p i):p j:=by
 induction w with
 | one h=>exact hd _ _ hi h
 | step h _ ih=>exact ih (hd _ _ hi h)
section
variable {ops:Array Oper}{t:Nat->V}{s:AB}{n:Nat}{an:List Nat}{Bk:List V}{us:Nat->XS}{ns:Nat->List Nat}{B:BH}
def acc (us:Nat->XS)(f:Nat->Bool):Nat->XS
 | 0=>[]
 | k+1=>cond (f k) (us k) [] ++ acc us f k
structure cq (ops:Array Oper)(n:Nat)(us:Nat->XS)(ns:Nat->List Nat):Prop where
 fit:∀ (i:Nat) (o:Oper) (d:Nat),ops[i]? = some o->o.dst=some d->d < n
 uniq:∀ (i:Nat) (o:Oper) (d:Nat),ops[i]? = some o->o.dst=some d->OS ops d=some i
 reads:∀ i,i < ops.size->∀ d ∈ Et ops i,∀ j,OS ops d=some j->depOn ops i j=true\/depOn ops j i=true\/i=j
 low:∀ i j,depOn ops i j=true->j < i
 pM:∀ i j,i < ops.size->j < ops.size->i ≠ j->Way ops i j\/Way ops j i\/∀ m x,lk (us j) m=some x->m ∉ ns i/\lk (us i) m=none
def Bv (i j:Nat):Bool:=Nat.blt j i
def jR (P:Program)(ops:Array Oper)(t:Nat->V)(s:AB)(n:Nat)(an:List Nat)(Bk:List V)(us:Nat->XS)(ns:Nat->List Nat)(i:Nat):Prop :=
 ∀ st:St,st.n=n->st.a=an->(∀ d ∈ Et ops i,st.t d=tL ops t Bk (Bv i) d)->(∀ m ∈ ns i,st.s m=over s (acc us (Bv i) ops.size) m)->eo P AV ops (oA ops i) st (Vn Bk i) (over st.s (us i))
structure Inv2 (B:BH)(ops:Array Oper)(t:Nat->V)(s:AB)(n:Nat)(an:List Nat)(Bk:List V)(us:Nat->XS)(listed:Array Bool)(a:Act)(w:World):Prop where
 size:listed.size=ops.size
 down:∀ i j,Lf listed i=true->depOn ops i j=true->Lf listed j=true
 defers:a.defers=[]
 rel:∃ F loc,Rel AV B F loc ⟨tL ops t Bk (Lf listed),over s (acc us (Lf listed) ops.size),n,an⟩ a.tmps w
omit [Mo] in
theorem Cb (s:AB):∀ (u:XS) (m:Nat),over s u m=match lk u m with | some x=>some (x.map XO.enc) | none=>s m
 | [],m=>rfl
 | (o,x) :: u,m=>by
   rw [over,lk]
   by_cases h:m=o
   · subst h; rw [AA]; simp
   · have hb:Nat.beq o m=false:=by rw [<- Bool.not_eq_true,Nat.beq_eq]; exact fun e=>h e.symm
     rw [AH _ _ h,hb,cond_false]; exact Cb s u m
omit [Mo] in
theorem Ek {us:Nat->XS}{f g:Nat->Bool}{m:Nat}:∀ (k:Nat),(∀ j,j < k->f j=g j\/lk (us j) m=none)->lk (acc us f k) m=lk (acc us g k) m
 | 0,_=>rfl
 | k+1,h=>by
   simp only [acc,AX]
   rw [Ek k (fun j hj=>h j (by omega))]
   rcases h k (by omega) with h1 | h1
   · rw [h1]
   · cases hf:f k <;> cases hg:g k <;> simp [lk,h1]
theorem Ww (hc : cq ops n us ns) (hl:∀ i,i < ops.size->jR P ops t s n an Bk us ns i) {listed:Array Bool} {a:Act} {w:World} (hI:Inv2 B ops t s n an Bk us listed a w) {i:Nat} (hi:i ∈ Region.ready .any ops listed)
   {Q':Exit->Act->World->Prop} {K:Act->World->Prop} (hK:∀ a' w', Inv2 B ops t s n an Bk us (listed.setIfInBounds i true) a' w' -> K a' w'):wpOp P ops Q' i K a w:=by
 obtain ⟨his,hL0,hdep⟩:=HN hI.size hi
 obtain ⟨F,loc,hR⟩:=hI.rel
 have hil:i < listed.size:=by rw [hI.size]; exact his
 have ho:ops[i]? = some ops[i]:=by simp [his]
 generalize hoo:ops[i]=o at ho
 have hoA:oA ops i=o:=by unfold oA; rw [Array.getElem?_toList,ho]; rfl
 have unord:∀ j,Lf listed j ≠ Bv i j->j < ops.size->j ≠ i/\¬ Way ops i j/\¬ Way ops j i:=by
   intro j hne hj
   have hji:j ≠ i:=by
     rintro rfl
     apply hne
     rw [hL0]; symm; unfold Bv; rw [<- Bool.not_eq_true,Nat.blt_eq]; omega
   refine ⟨hji,fun hw=>hne ?_,fun hw=>hne ?_⟩
   · have h1:Lf listed j=true:=by
       cases hw with
       | one h=>exact hdep _ h
       | step h w=>exact w.down (p:=fun q=>Lf listed q=true) (fun a b h1 h2=>hI.down a b h1 h2) (hdep _ h)
     have h2:j < i:=hw.down (p:=fun q=>q < i\/q=i) (fun a b h1 h2=>by have:=hc.low _ _ h2; omega) (.inr rfl) |>.elim id (fun h=>absurd h hji)
     rw [h1]; unfold Bv; symm; rw [Nat.blt_eq]; exact h2
   · have h1:Lf listed j=false:=by
       rw [<- Bool.not_eq_true]
       intro hb
       have:=hw.down (p:=fun q=>Lf listed q=true) (fun a b h1 h2=>hI.down a b h1 h2) hb
       rw [hL0] at this; cases this
     have h2:i < j:=hw.down (p:=fun q=>q < j\/q=j) (fun a b h1 h2=>by have:=hc.low _ _ h2; omega) (.inr rfl) |>.elim id (fun h=>absurd h.symm hji)
     rw [h1]; unfold Bv; symm; rw [<- Bool.not_eq_true,Nat.blt_eq]; omega
 have hnone:∀ m,(m ∈ ns i\/lk (us i) m ≠ none)->∀ j,j < ops.size->Lf listed j=Bv i j\/lk (us j) m=none:=by
   intro m hm j hj
   by_cases h:Lf listed j=Bv i j
   · exact .inl h
   · right
     obtain ⟨h1,h2,h3⟩:=unord j h hj
     rcases hc.pM i j his hj (fun e=>h1 e.symm) with h4 | h4 | h4
     · exact absurd h4 h2
     · exact absurd h4 h3
     · cases hx:lk (us j) m with
       | none=>rfl
       | some x =>
         obtain ⟨h5,h6⟩:=h4 m x hx
         rcases hm with hm | hm
         · exact absurd hm h5
         · exact absurd h6 hm
 have law:=hl i his ⟨DM (fun x=>x) (tL ops t Bk (Lf listed)) (Et ops i),over s (acc us (Lf listed) ops.size),n,an⟩ rfl rfl (fun d hd=>by
     show DM _ _ _ d=_
     rw [Jy,if_pos hd]
     unfold tL
     cases hq:OS ops d with
     | none=>rfl
     | some q =>
       simp only
       obtain ⟨oq,hoq,_⟩:=Eg hq
       have hqs:=(Array.getElem?_eq_some_iff.1 hoq).1
       have:Lf listed q=Bv i q:=by
         by_cases h:Lf listed q=Bv i q
         · exact h
         · exfalso
           obtain ⟨h1,h2,h3⟩:=unord q h hqs
           rcases hc.reads i his d hd q hq with h4 | h4 | h4
           · exact h2 (.one h4)
           · exact h3 (.one h4)
           · exact h1 h4.symm
       rw [this]) (fun m hm=>by
     show over s _ m=over s _ m
     rw [Cb,Cb,Ek ops.size (hnone m (.inl hm))])
 simp only [hoA] at law
 have hRI:Rel AV B F loc ⟨DM (fun x=>x) (tL ops t Bk (Lf listed)) (Et ops i),over s (acc us (Lf listed) ops.size),n,an⟩ a.tmps w:=by
   refine ⟨hR.s,fun d=>?_,hR.n,hR.a⟩
   show AF w F loc (DM (fun x=>x) (tL ops t Bk (Lf listed)) (Et ops i) d) _
   rcases KV (fun x=>x) (tL ops t Bk (Lf listed)) (Et ops i) d with ⟨h1,h2⟩ | h1
   · rw [h1]; exact hR.t d
   · rw [h1]; exact .dead _
 have hnew:∀ d,Lf (listed.setIfInBounds i true) d=(Nat.beq d i || Lf listed d):=fun d=>ZG hil
 have hdown:∀ p q,Lf (listed.setIfInBounds i true) p=true->depOn ops p q=true->Lf (listed.setIfInBounds i true) q=true:=by
   intro p q hp hd
   rw [hnew] at hp ⊢
   simp only [Bool.or_eq_true] at hp ⊢
   rcases hp with hp | hp
   · rw [Nat.eq_of_beq_eq_true hp] at hd; exact .inr (hdep q hd)
   · exact .inr (hI.down _ _ hp hd)
 have hfit:fits ⟨tL ops t Bk (Lf listed),over s (acc us (Lf listed) ops.size),n,an⟩ o.dst=true:=by
   unfold fits
   cases hd:o.dst with
   | none=>rfl
   | some d=>simpa using hc.fit i o d ho hd
 have hput : ∀ (s':AB),St.put ⟨tL ops t Bk (Lf listed),over s (acc us (Lf listed) ops.size),n,an⟩ o.dst (Vn Bk i) s' = ⟨tL ops t Bk (Lf (listed.setIfInBounds i true)),s', n,an⟩:=by
   intro s'
   have:(match o.dst with | some d=>Ak (tL ops t Bk (Lf listed)) d (Vn Bk i) | none=>tL ops t Bk (Lf listed))=tL ops t Bk (Lf (listed.setIfInBounds i true)):=by
     funext d
     cases hd:o.dst with
     | none =>
       show tL ops t Bk (Lf listed) d=_
       unfold tL
       cases hq:OS ops d with
       | none=>rfl
       | some q =>
         obtain ⟨oq,hoq,hdq⟩:=Eg hq
         have:Nat.beq q i=false:=by
           rw [<- Bool.not_eq_true,Nat.beq_eq]
           rintro rfl
           rw [ho] at hoq; cases hoq; rw [hd] at hdq; cases hdq
         simp only [hnew,this,Bool.false_or]
     | some d' =>
       show Ak (tL ops t Bk (Lf listed)) d' (Vn Bk i) d=_
       by_cases hdd:d=d'
       · subst hdd
         rw [AA]
         unfold tL
         rw [hc.uniq i o d ho hd]
         simp only [hnew,Nat.beq_refl,Bool.true_or,cond_true]
       · rw [AH _ _ hdd]
         unfold tL
         cases hq:OS ops d with
         | none=>rfl
         | some q =>
           obtain ⟨oq,hoq,hdq⟩:=Eg hq
           have:Nat.beq q i=false:=by
             rw [<- Bool.not_eq_true,Nat.beq_eq]
             rintro rfl
             rw [ho] at hoq; cases hoq; rw [hd] at hdq; exact hdd (Option.some.inj hdq).symm
           simp only [hnew,this,Bool.false_or]
   exact congrArg (fun t=>St.mk t s' n an) this
 have hsto : over (over s (acc us (Lf listed) ops.size)) (us i)=over s (acc us (Lf (listed.setIfInBounds i true)) ops.size):=by
   funext m
   rw [Cb,Cb,Cb]
   have key:∀ k,i < k->k<=ops.size->lk (acc us (Lf (listed.setIfInBounds i true)) k) m=match lk (us i) m with | some x=>some x | none=>lk (acc us (Lf listed) k) m:=by
     intro k
     induction k with
     | zero=>intro h; omega
     | succ k ih =>
       intro hik hks
       simp only [acc,AX]
       by_cases hki:k=i
       · subst hki
         have e1:Lf (listed.setIfInBounds k true) k=true:=by rw [hnew]; simp
         rw [e1,hL0,cond_true,cond_false]
         have e2:lk (acc us (Lf (listed.setIfInBounds k true)) k) m=lk (acc us (Lf listed) k) m:=Ek k fun j hj=>.inl (by
           rw [hnew]
           have:Nat.beq j k=false:=by rw [<- Bool.not_eq_true,Nat.beq_eq]; omega
           rw [this,Bool.false_or])
         rw [e2]
         simp only [lk]
         cases lk (us k) m <;> rfl
       · have e1 : Lf (listed.setIfInBounds i true) k=Lf listed k:=by
           rw [hnew]
           have:Nat.beq k i=false:=by rw [<- Bool.not_eq_true,Nat.beq_eq]; exact hki
           rw [this,Bool.false_or]
         rw [e1,ih (by omega) (by omega)]
         cases hx:lk (us i) m with
         | none=>rfl
         | some x =>
           simp only
           have:lk (cond (Lf listed k) (us k) []) m=none:=by
             cases hLk:Lf listed k with
             | false=>rfl
             | true =>
               rcases hnone m (.inr (by rw [hx]; simp)) k (by omega) with h | h
               · exfalso
                 rw [hLk] at h
                 have:k < i:=by unfold Bv at h; rw [eq_comm,Nat.blt_eq] at h; exact h
                 omega
               · exact h
           rw [this]
   rw [key ops.size his (Nat.le_refl _)]
   cases lk (us i) m <;> rfl
 have fin:∀ (x:Value) (F':Nat->Prop) (loc':Nat->Option Loc) (w':World) (s':AB),s' = over (over s (acc us (Lf listed) ops.size)) (us i)->AL AV B w' F' loc' s' -> Kept w F w' F' -> Az loc loc' -> AF w' F' loc' (Vn Bk i) x->K (a.put o.dst x) w':=by
   intro x F' loc' w' s' hs' hS hkp hsm hv
   rw [hs', hsto] at hS
   refine hK _ _ ⟨by simp [hI.size],hdown,by cases hd:o.dst <;> simp [Act.put,hI.defers],F', loc', ?_⟩
   have:=hR.put hfit hS hkp hsm hv
   rw [hput] at this
   exact this
 unfold wpOp
 rw [ho]
 simp only
 rcases law with ⟨hw,Cd⟩ | ⟨hw,hv,hs⟩
 · rw [if_pos (DA hRI hw)]
   exact .inl (Cd B F loc a w hRI K Q' fun x F' loc' w' h1 h2 h3 h4=>fin x F' loc' w' _ rfl h1 h2 h3 h4)
 · rw [if_neg (by rw [DA hRI hw]; simp)]
   refine fin undef F loc w (over s (acc us (Lf listed) ops.size)) hs.symm hR.s (Kept.refl _ _) (Az.refl _) ?_
   rw [hv]; exact .tp [] [] (fun _=>undef) rfl (fun j hj=>by simp at hj) (fun j x hj=>by simp at hj)
theorem Vm (hc:cq ops n us ns) (hl:∀ i,i < ops.size->jR P ops t s n an Bk us ns i) {Q':Exit->Act->World->Prop}
   (hQ:∀ (a:Act) (w:World) (listed:Array Bool),Inv2 B ops t s n an Bk us listed a w->(∀ i,i < ops.size->Lf listed i=true)->Q' .normal a w) :
   ∀ (fuel:Nat) (listed:Array Bool) (a:Act) (w:World) (U:List Nat),Inv2 B ops t s n an Bk us listed a w->U.length<=fuel->(∀ i,i < ops.size->Lf listed i=true\/i ∈ U)->wpAny P .any ops Q' fuel listed a w
 | 0,listed,a,w,U,hI,hU,hcov=>by
   have hall:∀ i,i < ops.size->Lf listed i=true:=fun i hi=>by
     rcases hcov i hi with h | h
     · exact h
     · have:U=[]:=List.eq_nil_of_length_eq_zero (by omega)
       rw [this] at h; cases h
   refine ⟨?_,hQ a w listed hI hall⟩
   cases hr:Region.ready .any ops listed with
   | nil=>rfl
   | cons x xs =>
     obtain ⟨h1,h2,_⟩:=HN hI.size (show x ∈ Region.ready .any ops listed by rw [hr]; simp)
     rw [hall x h1] at h2; cases h2
 | fuel+1,listed,a,w,U,hI,hU,hcov=>by
   refine ⟨fun h0=>?_,fun i hi=>?_⟩
   · refine hQ a w listed hI fun i hi=>?_
     by_cases hb:Lf listed i=true
     · exact hb
     · exfalso
       obtain ⟨j,hj,hj0,hjl⟩:=Xa ⟨i,hi,by simpa using hb⟩
       have:=YJ hI.size hj hj0 fun q hq=>hjl q (hc.low _ _ hq)
       rw [h0] at this; cases this
   · obtain ⟨his,hL0,_⟩:=HN hI.size hi
     have hil:i < listed.size:=by rw [hI.size]; exact his
     refine Ww hc hl hI hi fun a' w' hI'=>Vm hc hl hQ fuel _ a' w' (U.erase i) hI' ?_ fun j hj=>?_
     · rcases hcov i his with h | h
       · rw [h] at hL0; cases hL0
       · rw [List.length_erase_of_mem h]; omega
     · rw [ZG hil]
       by_cases hji:j=i
       · subst hji; left; simp
       · rcases hcov j hj with h | h
         · left; rw [h]; simp
         · right; exact (List.mem_erase_of_ne hji).2 h
theorem Tr.any {id:Nat} {Q:Exit->St->Prop} (hm:P.follows .mixedOrders=true) (hc:cq ops n us ns) (hl:∀ i,i < ops.size->jR P ops t s n an Bk us ns i)
   (k:Q .normal ⟨tL ops t Bk (Bv ops.size),over s (acc us (Bv ops.size) ops.size),n,an⟩):Tr P AV (.region id ops true) ⟨t,s,n,an⟩ Q:=by
 intro B F loc a w hR hd
 refine wp_region_any hm (Vm (B:=B) hc hl ?_ _ _ _ _ (List.range ops.size) ?_ (by simp) (fun i hi=>.inr (List.mem_range.2 hi)))
 · intro a' w' listed hI hall
   obtain ⟨F', loc', hR'⟩:=hI.rel
   refine ⟨hI.defers,F', loc', _,?_,k⟩
   have e1:tL ops t Bk (Bv ops.size)=tL ops t Bk (Lf listed):=by
     funext d
     unfold tL
     cases hq:OS ops d with
     | none=>rfl
     | some q =>
       obtain ⟨oq,hoq,_⟩:=Eg hq
       have hqs:=(Array.getElem?_eq_some_iff.1 hoq).1
       have:Bv ops.size q=true:=by unfold Bv; rw [Nat.blt_eq]; exact hqs
       simp only [hall q hqs,this,cond_true]
   have e2:over s (acc us (Bv ops.size) ops.size)=over s (acc us (Lf listed) ops.size):=by
     funext m
     rw [Cb,Cb,Ek (g:=Lf listed) ops.size fun j hj=>.inl (by rw [hall j hj]; unfold Bv; rw [Nat.blt_eq]; exact hj)]
   rw [e1,e2]; exact hR'
 · have hL:∀ i,Lf (Array.replicate ops.size false) i=false:=fun i=>by
     unfold Lf
     by_cases hi:i < ops.size <;> simp [Array.getD_eq_getD_getElem?,hi]
   refine ⟨by simp,fun i j hi=>(by rw [hL] at hi; cases hi),hd,F,loc,?_⟩
   have e:tL ops t Bk (Lf (Array.replicate ops.size false))=t:=by
     funext d
     unfold tL
     cases OS ops d with
     | none=>rfl
     | some q=>simp only [hL,cond_false]
   have e2:over s (acc us (Lf (Array.replicate ops.size false)) ops.size)=s:=by
     funext m
     rw [Cb,Ek (g:=fun _=>false) ops.size fun j hj=>.inl (hL j)]
     have:∀ k,lk (acc us (fun _=>false) k) m=none:=by
       intro k; induction k with
       | zero=>rfl
       | succ k ih=>simpa [acc] using ih
     rw [this]
   rw [e,e2]
   have hk:Kept w F { w with drawn:=w.drawn+1 } F:=fun b hb=>⟨hb,rfl⟩
   exact ⟨Oh hR.s,fun i=>(hR.t i).mono hk (Az.refl _),hR.n,hR.a⟩
end
end Go.Proofs.YthoimblkpcikdaaGreatDoor.Mc

/- The machine: abstract values and stores, and the laws by which a walk goes through code. Its parts in order. -/
import Derived.Test.YtobfoiomjfdjjaaDoorMc1
import Derived.Lib.DecodeN
import Derived.Orders
import Derived.ChangeKeysEq
import Derived.ChangeArms
import Derived.ChangeStays
import Derived.ChangeBook
import Derived.ChangeOld
import Derived.Below
set_option linter.unusedVariables false
set_option linter.unusedSimpArgs false
set_option linter.constructorNameAsVariable false
namespace Go.Proofs.YtobfoiomjfdjjaaDoor.Mc
open Go.RowKit
variable [Mo]
variable {P:Program}{G:BA}{D:Ah}
def Uv (D:Ah) (G:BA) (ops:Array Oper) (o:Oper) (st:St):Option St :=
 match want ops o st,fits st o.dst with
 | some false,true=>some (st.put o.dst vU st.s)
 | some true,true =>
   match o.op,o.dst with
   | .store t p x,_=>match FL D st.s t (ev G st.t p) (ev G st.t x) with
     | some s'=>some (st.put o.dst vU s')
     | none=>none
   | .box t x,some d=>match FW (.box t x) (ev G st.t) st.s d D with
     | some (v,s')=>some (st.put o.dst v s')
     | none=>none
   | .alloc t,some d=>match FW (.alloc t) (ev G st.t) st.s d D with
     | some (v,s')=>some (st.put o.dst v s')
     | none=>none
   | op,_=>match HS D op (ev G st.t) st.s with
     | some v=>some (st.put o.dst v st.s)
     | none=>none
 | _,_=>none
def steps (D:Ah)(G:BA)(ops:Array Oper):List Oper->St->Option St
 | [],st=>some st
 | o :: l,st=>match Uv D G ops o st with
   | some st'=>steps D G ops l st'
   | none=>none
end Go.Proofs.YtobfoiomjfdjjaaDoor.Mc
namespace Go.Proofs.YtobfoiomjfdjjaaDoor.Mc
open Go.RowKit
variable [Mo]
variable {P:Program}{G:BA}{D:Ah}
def Nk {α β:Type}(a:α)(f:α->β):β:=f a
def Bl {β:Type}(c:Bool)(k:Option β):Option β:=cond c k none
def ix {α:Type}(xs:List α)(n:Int):Option α:=cond (decide (0<=n)) (xs[n.toNat]?) none
omit [Mo] in
theorem DH {α β:Type}{a:Option α}{f:α->Option β}{r:β}(h:a.bind f=some r):∃ x,a=some x/\f x=some r:=by
 cases a with
 | none=>cases h
 | some x=>exact ⟨x,rfl,h⟩
omit [Mo] in
theorem EZ {β:Type}{c:Bool}{k:Option β}{r:β}(h:Bl c k=some r):c=true/\k=some r:=by
 cases c with
 | false=>cases h
 | true=>exact ⟨rfl,h⟩
omit [Mo] in
theorem RE {α:Type}{xs:List α}{n:Int}{a:α}(h:ix xs n=some a):0<=n/\xs[n.toNat]? = some a:=by
 unfold ix at h
 by_cases h0:0<=n
 · simp [h0] at h; exact ⟨h0,h⟩
 · simp [h0] at h
def oA (ops:Array Oper)(i:Nat):Oper:=(ops.toList[i]?).getD ⟨none,.move (.tmp 0),0,default,#[],none⟩
end Go.Proofs.YtobfoiomjfdjjaaDoor.Mc
namespace Go.Proofs.YtobfoiomjfdjjaaDoor.Mc
open Go.RowKit
variable [Mo]
variable {P:Program}{G:BA}{D:Ah}{α:Type}
def Um (n:Nat)(enc:α->List T):Prop:=∀ x,Nat.beq (enc x).length n=true
omit [Mo] in
theorem ZA {enc:α->List T}{xs:List α}{n:Nat}{x:α}(h:xs[n]? = some x):(xs.map enc)[n]? = some (enc x):=by rw [List.getElem?_map,h]; rfl
omit [Mo] in
theorem OZ {xs:List α}{n:Int}{x:α}(h0:0<=n)(h:xs[n.toNat]? = some x):n < xs.length:=by
 have:=(List.getElem?_eq_some_iff.1 h).1; omega
variable {st:St}{o:Oper}
theorem BJ (hg:Good P D){op:Op}{v:V}(hop:o.op=op)(h:HS D op (ev G st.t) st.s=some v):CD P G o st v st.s:=Vx hg (by rw [hop]; exact h)
theorem Wm (hg:Good P D){t e:TypeId}{x i:Operand}{nl:Nl}{enc:α->List T}{xs:List α}{k:IntKind}{n:Int}{a:α}(hop:o.op=.indexAddr t x i)(hu:D.AW t=some (.slice e))(he:D.has e=true)
   (hw:Um (D.size e) enc) (hx:ev G st.t x=.t (.fz nl (xs.map enc))) (hi:ev G st.t i=vI k n) (h0:0<=n) (ha:xs[n.toNat]? = some a):CD P G o st (.pf (enc a) 0) st.s:=by
 refine BJ hg hop ?_
 show BR D st.s t (ev G st.t x) (ev G st.t i)=_
 rw [hx,hi]
 have hlt:=OZ h0 ha
 simp only [BR,vI,hu,he,Bool.not_true,Bool.false_eq_true,if_false,List.length_map,ZA ha,hw a]
 rw [if_pos ⟨h0,hlt⟩]; rfl
theorem WN (hg:Good P D){t e:TypeId}{x i:Operand}{nl:Nl}{enc:α->List T}{xs:List α}{k:IntKind}{n:Int}{a:α}{nm e' sz:Nat}(hop:o.op=.indexAddr t x i)(hu:D.AW t=some (.slice e))(he:D.has e=true)
   (hx:ev G st.t x=.sl nl nm) (hn:st.s nm=some (some (.ar e' sz (xs.map enc)))) (hsz:Nat.beq sz (D.size e)=true) (hi:ev G st.t i=vI k n) (h0:0<=n) (ha:xs[n.toNat]? = some a):CD P G o st (.pe nm n.toNat 0) st.s:=by
 refine BJ hg hop ?_
 show BR D st.s t (ev G st.t x) (ev G st.t i)=_
 rw [hx,hi]
 have hlt:=OZ h0 ha
 have hget:Mc.get st.s nm=some (.ar e' sz (xs.map enc)):=by unfold Mc.get; rw [hn]
 simp only [BR,vI,hu,he,Bool.not_true,Bool.false_eq_true,if_false,hget,hsz,List.length_map]
 rw [if_pos ⟨h0,hlt⟩]
def Dj (n:Int)(lo hi:Int):Bool:=decide (0<=lo/\lo<=hi/\hi<=n)
omit [Mo] in
theorem Dy {n lo hi:Int}(h:Dj n lo hi=true):0<=hi/\hi<=n/\0<=lo/\lo<=hi:=by
 have:=of_decide_eq_true h; omega
def cut (xs:List α)(lo hi:Int):List α:=(xs.take hi.toNat).drop lo.toNat
omit [Mo] in
theorem Ww (enc:α->List T)(xs:List α)(lo hi:Int):(cut xs lo hi).map enc=((xs.map enc).take hi.toNat).drop lo.toNat:=by
 unfold cut; rw [List.map_drop,List.map_take]
theorem Uj (hg:Good P D){t e:TypeId}{x:Operand}{lo hi:Option Operand}{nl:Nl}{enc:α->List T}{xs:List α}{l h:Int}(hop:o.op=.slice t x lo hi none)(hu:D.AW t=some (.slice e))(he:D.has e=true)
   (hw:Um (D.size e) enc) (hx:ev G st.t x=.t (.fz nl (xs.map enc))) (hl:bound (lo.map (ev G st.t)) 0=some l) (hh:bound (hi.map (ev G st.t)) xs.length=some h) (hb:Dj xs.length l h=true) :
   CD P G o st (.t (.fz (Fl nl) ((cut xs l h).map enc))) st.s:=by
 refine BJ hg hop ?_
 show Cj D st.s t (ev G st.t x) (lo.map (ev G st.t)) (hi.map (ev G st.t))=_
 rw [hx]
 have hb':=Dy hb
 simp only [Cj,hu,he,Bool.not_true,Bool.false_eq_true,if_false,List.length_map,hl,hh]
 rw [if_pos hb', Ww]
 cases xs with
 | nil=>simp
 | cons a az=>simp only [List.map_cons,hw a,if_true]
theorem Vd (hg:Good P D){t e:TypeId}{x:Operand}{lo hi:Option Operand}{nl:Nl}{enc:α->List T}{xs:List α}{l h:Int}{nm e' sz:Nat}(hop:o.op=.slice t x lo hi none)(hu:D.AW t=some (.slice e))(he:D.has e=true)
   (hx:ev G st.t x=.sl nl nm) (hn:st.s nm=some (some (.ar e' sz (xs.map enc)))) (hsz:Nat.beq sz (D.size e)=true) (hl:bound (lo.map (ev G st.t)) 0=some l) (hh:bound (hi.map (ev G st.t)) xs.length=some h) (hb:Dj xs.length l h=true) :
   CD P G o st (.sw nm l.toNat (h.toNat - l.toNat)) st.s:=by
 refine BJ hg hop ?_
 show Cj D st.s t (ev G st.t x) (lo.map (ev G st.t)) (hi.map (ev G st.t))=_
 rw [hx]
 have hb':=Dy hb
 have hget:Mc.get st.s nm=some (.ar e' sz (xs.map enc)):=by unfold Mc.get; rw [hn]
 simp only [Cj,hu,he,Bool.not_true,Bool.false_eq_true,if_false,hget,hsz,List.length_map,hl,hh]
 rw [if_pos hb']
theorem Vo (hg:Good P D){t:TypeId}{x i:Operand}{k:IntKind}{b:ByteArray}{n:Int}(hop:o.op=.index t x i)(hu:D.AW t=some .string)(hx:ev G st.t x=vS b)(hi:ev G st.t i=vI k n)(h:decide (0<=n/\n < b.size)=true) :
   CD P G o st (vI .u8 (bt b n)) st.s:=by
 refine BJ hg hop ?_
 show GL D t (ev G st.t x) (ev G st.t i)=_
 rw [hx,hi]
 simp only [GL,vS,vI,hu]
 rw [if_pos (of_decide_eq_true h)]
theorem TP (hg:Good P D){t:TypeId}{x:Operand}{lo hi:Option Operand}{b:ByteArray}{l h:Int}(hop:o.op=.slice t x lo hi none)(hu:D.AW t=some .string)
   (hx:ev G st.t x=vS b) (hl:bound (lo.map (ev G st.t)) 0=some l) (hh:bound (hi.map (ev G st.t)) b.size=some h) (hb:Dj b.size l h=true) :
   CD P G o st (vS (b.extract l.toNat h.toNat)) st.s:=by
 refine BJ hg hop ?_
 show Cj D st.s t (ev G st.t x) (lo.map (ev G st.t)) (hi.map (ev G st.t))=_
 rw [hx]
 simp only [Cj,vS,hu,hl,hh]
 rw [if_pos (Dy hb)]
theorem Yu (hg:Good P D) {β:Type} {x y:Operand} {t e d:Nat} {de:TypeDesc} {z:Value} {nl:Nl} {enc:β->List T} {xs ys:List β} {oo:Option Nat}
   (hop:o.op=.call ⟨.builtin .append,#[x,y],#[t,t]⟩) (hu:D.AW t=some (.slice e)) (he:D.AW e=some de) (hz:D.zero e=some z) (hzs:Nat.beq z.cells.size (D.size e)=true) (hp:Nat.blt 0 (D.size e)=true)
   (hd:st.s d=none) (htg:IL st.s e (D.size e) (ev G st.t x)=some (nl,xs.map enc,oo)) (hsr:Hm st.s (ev G st.t y)=some (ys.map enc)) (hw:Um (D.size e) enc) (hb1:Nat.ble 1 (D.bytes e)=true)
   (hby:decide ((xs.length+ys.length) * D.bytes e<=140737488355328)=true) :
   CD P G o st (.sl nl d) (Ae (JA st.s oo) d (some (some (.ar e (D.size e) ((xs ++ ys).map enc))))):=by
 have h1:=of_decide_eq_true hby
 have h2:1<=D.bytes e:=Nat.le_of_ble_eq_true hb1
 have:=TA hg (rows:=xs.map enc) (rows2:=ys.map enc) hop hu he hz hzs hp hd htg hsr (fun r hr=>by
   obtain ⟨a,_,rfl⟩:=List.mem_map.1 hr
   exact Nat.eq_of_beq_eq_true (hw a)) (by
     simp only [List.length_map]
     have:(xs.length+ys.length) * 1<=(xs.length+ys.length) * D.bytes e:=Nat.mul_le_mul_left _ h2
     omega) (by simpa using h1)
 rwa [<- List.map_append] at this
omit [Mo] in
theorem Zk {s:AE}{x:V}{nl:Nl}{nm e sz:Nat}{rows:List (List T)}(h:x=.sl nl nm)(hn:s nm=some (some (.ar e sz rows))):Hm s x=some rows:=by
 subst h; simp only [Hm,Mc.get,hn]
omit [Mo] in
theorem Yl {s:AE}{x:V}{nm e sz off len:Nat}{enc:α->List T}{xs:List α}(h:x=.sw nm off len)(hn:s nm=some (some (.ar e sz (xs.map enc)))):Hm s x=some (((xs.drop off).take len).map enc):=by
 subst h; simp only [Hm,Mc.get,hn,List.map_take,List.map_drop]
end Go.Proofs.YtobfoiomjfdjjaaDoor.Mc
namespace Go.Proofs.YtobfoiomjfdjjaaDoor.Mc
open Go.RowKit
variable [Mo]
def Ij (P:Program):Ah:=⟨fun t=>cond (Nat.blt t 1000000) (P.underlying t) none,fun t=>match P.info? t with | some i=>i.size | none=>0,fun t=>match P.info? t with | some i=>i.bytes | none=>0,fun t=>match P.info? t with | some i=>i.zero | none=>none,fun t => !P.stoodInHeld t && !P.eqGuardType P.depth t,
 fun t n=>match P.info? t with
   | some i=>match P.underlying t with
     | some (.struct _)=>match i.methods.find? (·.name == n) with
       | some m=>cond m.path.isEmpty (match m.func with | some (f,false)=>some f | _=>none) none
       | none=>none
     | _=>none
   | none=>none⟩
omit [Mo] in
theorem Wl (P:Program):Good P (Ij P):=by
 have hu:∀ t d,(Ij P).AW t=some d->t < 1000000/\P.underlying t=some d:=fun t d h=>by
   have h1:(cond (Nat.blt t 1000000) (P.underlying t) none)=some d:=h
   cases hb:Nat.blt t 1000000 with
   | true=>rw [hb] at h1; exact ⟨by simpa using hb,h1⟩
   | false=>rw [hb] at h1; cases h1
 refine ⟨fun t d h=>⟨(hu t d h).2,?_⟩,fun t d h=>(hu t d h).1,fun t h=>by simpa [Ij] using h,fun t n f h=>?_⟩
 rotate_left
 · simp only [Ij] at h
   split at h
   · rename_i i hi
     split at h
     · rename_i fs hs
       split at h
       · rename_i m hm
         cases hp:m.path.isEmpty with
         | false=>rw [hp] at h; cases h
         | true =>
           rw [hp,cond_true] at h
           split at h
           · rename_i f' hf
             cases h
             exact ⟨i,m,fs,hi,hm,by simpa using hp,hf,hs⟩
           · cases h
       · cases h
     · cases h
   · cases h
 have h':P.underlying t=some d:=(hu t d h).2
 unfold Program.underlying at h'
 cases hi:P.info? t with
 | none=>simp [hi] at h'
 | some i=>exact ⟨i,rfl,by simp [Ij,hi],by simp [Ij,hi],by simp [Ij,hi]⟩
end Go.Proofs.YtobfoiomjfdjjaaDoor.Mc
namespace Go.Proofs.YtobfoiomjfdjjaaDoor.Mc
open Go.RowKit
variable [Mo]
variable {P:Program}{G:BA}{D:Ah}
def RG (f:Func):Code:=match f.body with | some c=>c | none=>.skip
inductive Row where
 | nil
 | int (k:IntKind) (r:Row)
 | bool (r:Row)
 | str (r:Row)
 | sl (e:Row) (r:Row)
def ZB (A:Type):Row->Type->Type
 | .nil,_=>A
 | .int _ _,B=>A × B
 | .bool _,B=>A × B
 | .str _,B=>A × B
 | .sl _ _,B=>A × B
def Row.den:Row->Type
 | .nil=>Unit
 | .int _ r=>ZB Int r r.den
 | .bool r=>ZB Bool r r.den
 | .str r=>ZB ByteArray r r.den
 | .sl e r=>ZB (List e.den) r r.den
def JL {A:Type}:(r:Row)->A->r.den->ZB A r r.den
 | .nil,a,_=>a
 | .int _ _,a,b=>(a,b)
 | .bool _,a,b=>(a,b)
 | .str _,a,b=>(a,b)
 | .sl _ _,a,b=>(a,b)
def Gk {A:Type}:(r:Row)->ZB A r r.den->A
 | .nil,a=>a
 | .int _ _,x=>x.1
 | .bool _,x=>x.1
 | .str _,x=>x.1
 | .sl _ _,x=>x.1
def Gj {A:Type}:(r:Row)->ZB A r r.den->r.den
 | .nil,_=>()
 | .int _ _,x=>x.2
 | .bool _,x=>x.2
 | .str _,x=>x.2
 | .sl _ _,x=>x.2
omit [Mo] in
theorem Ca {A:Type}(r:Row)(a:A)(b:r.den):Gk r (JL r a b)=a:=by cases r <;> rfl
omit [Mo] in
theorem Bz {A:Type}(r:Row)(a:A)(b:r.den):Gj r (JL r a b)=b:=by cases r <;> rfl
def Row.len:Row->Nat
 | .nil=>0
 | .int _ r=>r.len+1
 | .bool r=>r.len+1
 | .str r=>r.len+1
 | .sl _ r=>r.len+1
def Row.en:(r:Row)->r.den->List T
 | .nil,_=>[]
 | .int k r,x=>.sc (.int k (Gk r x)) :: r.en (Gj r x)
 | .bool r,x=>.sc (.bool (Gk r x)) :: r.en (Gj r x)
 | .str r,x=>.sc (.string (Gk r x)) :: r.en (Gj r x)
 | .sl e r,x=>.fz .u ((Gk r x).map e.en) :: r.en (Gj r x)
def Row.zero:(r:Row)->r.den
 | .nil=>()
 | .int _ r=>JL r (0:Int) r.zero
 | .bool r=>JL r false r.zero
 | .str r=>JL r ByteArray.empty r.zero
 | .sl e r=>JL r ([]:List e.den) r.zero
omit [Mo] in
theorem Row.CS:∀ (r:Row) (x:r.den),(r.en x).length=r.len
 | .nil,_=>rfl
 | .int _ r,x=>by simp [Row.en,Row.len,Row.CS r]
 | .bool r,x=>by simp [Row.en,Row.len,Row.CS r]
 | .str r,x=>by simp [Row.en,Row.len,Row.CS r]
 | .sl _ r,x=>by simp [Row.en,Row.len,Row.CS r]
omit [Mo] in
theorem Row.wide (r:Row){n:Nat}(h:Nat.beq r.len n=true):Um n r.en:=fun x=>by rw [Row.CS]; exact h
def Wv:List (Nat × (r:Row) × List r.den):=[(0,⟨.str .nil,[(⟨#[97]⟩:ByteArray),(⟨#[98]⟩:ByteArray),(⟨#[99]⟩:ByteArray),(⟨#[97,98]⟩:ByteArray),(⟨#[107,49]⟩:ByteArray),(⟨#[107,50]⟩:ByteArray),(⟨#[107,51]⟩:ByteArray),(⟨#[195,169]⟩:ByteArray),(⟨#[195,169,97]⟩:ByteArray),(⟨#[240,159,152,128]⟩:ByteArray),(⟨#[42]⟩:ByteArray),(⟨#[122,122]⟩:ByteArray)]⟩),(2,⟨.int .u8 .nil,(List.range 256).map fun c=>((Go.Lib.firstT c:Nat):Int)⟩),(3,⟨.int .u8 (.int .u8 .nil),(List.range 16).map fun i=>(((Go.Lib.accLo i:Nat):Int),((Go.Lib.accHi i:Nat):Int))⟩)]
def cr:List (Nat × (r:Row) × List r.den)->Nat->Option ((r:Row) × List r.den)
 | [],_=>none
 | (i,a) :: l,g=>cond (Nat.beq i g) (some a) (cr l g)
def AM:BA:=fun g=>match cr Wv g with | some ⟨r,xs⟩=>some (xs.map r.en).flatten | none=>none
def dc (P:Program)(f:FuncId)(vs:List V)(L:List (Nat × O))(r:V)(s1:AE):Prop:=CT P AM f vs (LH L) fun r' s'=>r' = r/\s' = s1
theorem Conv.cO {t:Nat->V}{s:AE}{m:Nat}{a:List Nat}(i d e sz:Nat)(hi:t i=.t (.sc (.slice none 0 0)))(hd:s d=none)(hz:Nat.blt 0 sz=true):Conv G ⟨t,s,m,a⟩ ⟨Ae t i (.sl .n d),Ae s d (some (some (.ar e sz []))),m,a⟩ :=
 Conv.Wf (st:=⟨t,s,m,a⟩) hi hd hz
omit [Mo] in
theorem Tf {w:World}{F:Nat->Prop}{nl:Nl}{rows:List (List T)}{v:Value}(h:BG w F (.fz nl rows) v):BG w F (.fz .u rows) v:=by
 cases h with
 | nil _ h=>exact .nil _ (by simp)
 | mt _ a cap h=>exact .mt _ a cap (by simp)
 | fz _ _ sz b off cap val hF hn hz hsz hcap hc h1 hr=>exact .fz _ rows sz b off cap val hF hn hz hsz hcap hc h1 hr
theorem Conv.XF {t:Nat->V}{s:AE}{m:Nat}{a:List Nat}(o:Nat)(e sz:Nat)(rows:List (List T))(ho:s o=some (some (.ar e sz rows))) :
   Conv G ⟨t,s,m,a⟩ ⟨fun i=>(t i).BF o rows,fun n=>cond (Nat.beq n o) (some none) ((s n).map (·.map (O.BF o rows))),m,a⟩ :=
 Conv.freeze (st:=⟨t,s,m,a⟩) (by show Mc.get s o=_; unfold Mc.get; rw [ho])
end Go.Proofs.YtobfoiomjfdjjaaDoor.Mc
namespace Go.Proofs.YtobfoiomjfdjjaaDoor.Mc
open Go.RowKit
variable [Mo]
variable {P:Program}{G:BA}{D:Ah}
mutual
inductive GY:V->V->Prop where
 | refl (x:V):GY x x
 | nil (nl:Nl) (h:nl ≠ .e):GY (.t (.sc (.slice none 0 0))) (.t (.fz nl []))
 | fz (nl:Nl) (rows:List (List T)):GY (.t (.fz nl rows)) (.t (.fz .u rows))
 | sl (nl:Nl) (o:Nat):GY (.sl nl o) (.sl .u o)
 | dead (x:V):GY x .dead
 | ag (xs ys:List V) (h:HO xs ys):GY (.ag xs) (.ag ys)
 | tp (xs ys:List V) (h:HO xs ys):GY (.tp xs) (.tp ys)
 | BE (t:TypeId) (x y:V) (h:GY x y):GY (.BE t x) (.BE t y)
inductive HO:List V->List V->Prop where
 | nil:HO [] []
 | cons (x y:V) (xs ys:List V) (h:GY x y) (hs:HO xs ys):HO (x :: xs) (y :: ys)
end
omit [Mo] in
theorem HO.get:∀ {xs ys:List V},HO xs ys->xs.length=ys.length/\∀ (j:Nat) (y:V),ys[j]? = some y->∃ x,xs[j]? = some x/\GY x y
 | _,_,.nil=>⟨rfl,fun j y h=>by simp at h⟩
 | _,_,.cons x y xs ys h hs=>by
   obtain ⟨h1,h2⟩:=HO.get hs
   refine ⟨by simp [h1],fun j z hj=>?_⟩
   cases j with
   | zero=>cases hj; exact ⟨x,rfl,h⟩
   | succ j=>simpa using h2 j z (by simpa using hj)
omit [Mo] in
theorem GY.rel {w:World} {F:Nat->Prop} {loc:Nat->Option Loc} {x:V} {v:Value} (h:AF w F loc x v):∀ {y:V},GY x y->AF w F loc y v:=by
 have lists:∀ {xs ys:List V} {vs:List Value} {val:Nat->Value},xs.length=vs.length->(∀ j,j < xs.length->vs[j]? = some (val j))->(∀ (j:Nat) (x:V),xs[j]? = some x->∀ {y:V},GY x y->AF w F loc y (val j))->HO xs ys ->
     ys.length=vs.length/\(∀ j,j < ys.length->vs[j]? = some (val j))/\∀ (j:Nat) (y:V),ys[j]? = some y->AF w F loc y (val j):=by
   intro xs ys vs val hl hv ih hW
   obtain ⟨h1,h2⟩:=hW.get
   refine ⟨by omega,fun j hj=>hv j (by omega),fun j y hj=>?_⟩
   obtain ⟨x,hx,hw⟩:=h2 j y hj
   exact ih j x hx hw
 induction h with
 | t x v h =>
   intro y hW
   cases hW with
   | refl=>exact .t x v h
   | nil nl hn=>cases h; exact .t _ _ (.nil nl hn)
   | fz nl rows=>exact .t _ _ (Tf h)
   | dead=>exact .dead _
 | gone x o v hx ho =>
   intro y hW
   cases hW with
   | refl=>exact .gone x o v hx ho
   | nil nl hn=>cases hx
   | fz nl rows=>cases hx
   | sl nl o'=>cases hx; exact .gone _ _ _ rfl ho
   | dead=>exact .dead _
   | ag=>cases hx
   | tp=>cases hx
   | BE=>cases hx
 | dead v =>
   intro y hW
   cases hW <;> exact .dead _
 | sl nl o b n cap sz ho he hn h0 =>
   intro y hW
   cases hW with
   | refl=>exact .sl nl o b n cap sz ho he hn h0
   | sl=>exact .sl _ _ b n cap sz ho (by simp) (by simp) h0
   | dead=>exact .dead _
 | sw o off len b n cap sz a ho hl ha h0 hn =>
   intro y hW
   cases hW with
   | refl=>exact .sw o off len b n cap sz a ho hl ha h0 hn
   | dead=>exact .dead _
 | pt o off b ho=>intro y hW; cases hW with
   | refl=>exact .pt o off b ho
   | dead=>exact .dead _
 | pe o i off b n cap sz ho hi=>intro y hW; cases hW with
   | refl=>exact .pe o i off b n cap sz ho hi
   | dead=>exact .dead _
 | pf cells off b o0 val hF hc hr=>intro y hW; cases hW with
   | refl=>exact .pf cells off b o0 val hF hc hr
   | dead=>exact .dead _
 | mp o b ho=>intro y hW; cases hW with
   | refl=>exact .mp o b ho
   | dead=>exact .dead _
 | it o b ho=>intro y hW; cases hW with
   | refl=>exact .it o b ho
   | dead=>exact .dead _
 | sp o b ho=>intro y hW; cases hW with
   | refl=>exact .sp o b ho
   | dead=>exact .dead _
 | WJ o=>intro y hW; cases hW with
   | refl=>exact .WJ o
   | dead=>exact .dead _
 | fn f xs vs val hl hv h ih=>intro y hW; cases hW with
   | refl=>exact .fn f xs vs val hl hv h
   | dead=>exact .dead _
 | ag xs vs val hl hv h ih=>intro y hW; cases hW with
   | refl=>exact .ag xs vs val hl hv h
   | dead=>exact .dead _
   | ag _ ys hs =>
     obtain ⟨h1,h2,h3⟩:=lists hl hv ih hs
     exact .ag ys vs val h1 h2 h3
 | tp xs vs val hl hv h ih=>intro y hW; cases hW with
   | refl=>exact .tp xs vs val hl hv h
   | dead=>exact .dead _
   | tp _ ys hs =>
     obtain ⟨h1,h2,h3⟩:=lists hl hv ih hs
     exact .tp ys vs val h1 h2 h3
 | BE t x v h ih=>intro y hW; cases hW with
   | refl=>exact .BE t x v h
   | dead=>exact .dead _
   | BE _ _ z hz=>exact .BE t z v (ih hz)
theorem Conv.Zf {t:Nat->V} {s:AE} {m:Nat} {a:List Nat} (o e0:Nat) (xs:List V) (j d e sz:Nat) (ho:s o=some (some (.bx e0 xs))) (hj:xs[j]? = some (.t (.sc (.slice none 0 0)))) (hd:s d=none) (hz:Nat.blt 0 sz=true) :
   Conv G ⟨t,s,m,a⟩ ⟨t,Ae (Ae s d (some (some (.ar e sz [])))) o (some (some (.bx e0 (xs.set j (.sl .n d))))),m,a⟩:=by
 intro B F loc tmps w hR
 have hod:o ≠ d:=by rintro rfl; rw [hd] at ho; cases ho
 obtain ⟨h1,h2⟩:=hR.s.UR (e:=e) (s:=s) hd (by simpa using hz)
 refine ⟨F,_,?_,fun i=>(hR.t i).mono (Kept.refl _ _) h2,hR.n,hR.a⟩
 refine { h1 with Cg:=?_,Fp:=?_ }
 · intro n obj hn
   by_cases hne:n=o
   · subst hne
     have hn':Ae (Ae s d (some (some (.ar e sz [])))) n (some (some (.bx e0 (xs.set j (.sl .n d))))) n=some obj:=hn
     rw [AA] at hn'
     cases hn'
     obtain ⟨l,hl,hr⟩:=h1.Cg n _ (by rw [AJ _ _ hod]; exact ho)
     refine ⟨l,hl,?_⟩
     cases hr with
     | ms _ _ b en clock vs he hb hs hen hks hr =>
       refine .ms e0 _ b en clock vs he hb hs hen hks ⟨by rw [List.length_set]; exact hr.1,fun k y hk=>?_⟩
       rw [List.getElem?_set] at hk
       split at hk
       · rename_i hjk
         subst hjk
         split at hk
         · cases hk
           obtain ⟨v,hv,h3,h4⟩:=hr.2 j _ hj
           have:=AP h4
           subst this
           exact ⟨_,hv,h3,Jw (AA _ _ _) rfl⟩
         · cases hk
       · exact hr.2 k y hk
     | bx _ _ cs b he hb hlen hr =>
       refine .bx e0 _ cs b he hb (by simpa using hlen) fun k y hk=>?_
       rw [List.getElem?_set] at hk
       split at hk
       · rename_i hjk
         subst hjk
         split at hk
         · cases hk
           obtain ⟨v,hv,h3,h4⟩:=hr j _ hj
           have:=AP h4
           subst this
           exact ⟨_,hv,h3,Jw (AA _ _ _) rfl⟩
         · cases hk
       · exact hr k y hk
   · have hn':Ae (Ae s d (some (some (.ar e sz [])))) o (some (some (.bx e0 (xs.set j (.sl .n d))))) n=some obj:=hn
     rw [AJ _ _ hne] at hn'; exact h1.Cg n obj hn'
 · intro n l hl
   by_cases hne:n=o
   · subst hne; exact ⟨_,AA _ _ _⟩
   · obtain ⟨ob,h'⟩:=h1.Fp n l hl
     refine ⟨ob,?_⟩
     show Ae (Ae s d (some (some (.ar e sz [])))) o (some (some (.bx e0 (xs.set j (.sl .n d))))) n=_
     rw [AJ _ _ hne]; exact h'
end Go.Proofs.YtobfoiomjfdjjaaDoor.Mc
namespace Go.Proofs.YtobfoiomjfdjjaaDoor.Mc
open Go.RowKit
variable [Mo]
variable {P:Program}{G:BA}{D:Ah}{st:St}{o:Oper}
def Mz (D:Ah)(e:Nat):Bool:=D.has e && (match D.zero e with | some z=>Nat.beq z.cells.size (D.size e) | none=>false) && Nat.blt 0 (D.size e) && Nat.ble 1 (D.bytes e)
omit [Mo] in
theorem OT {e:Nat}(h:Mz D e=true):∃ de z,D.AW e=some de/\D.zero e=some z/\Nat.beq z.cells.size (D.size e)=true/\Nat.blt 0 (D.size e)=true/\Nat.ble 1 (D.bytes e)=true:=by
 simp only [Mz,Bool.and_eq_true] at h
 obtain ⟨⟨⟨h1,h2⟩,h3⟩,h4⟩:=h
 obtain ⟨de,hde⟩:=BH h1
 split at h2
 · rename_i z hz; exact ⟨de,z,hde,hz,h2,h3,h4⟩
 · cases h2
theorem QU (hg:Good P D){β:Type}{x y:Operand}{t e d:Nat}{nl:Nl}{enc:β->List T}{xs ys:List β}{oo:Option Nat}
   (hop:o.op=.call ⟨.builtin .append,#[x,y],#[t,t]⟩) (hu:D.AW t=some (.slice e)) (he:Mz D e=true)
   (hd:st.s d=none) (htg:IL st.s e (D.size e) (ev G st.t x)=some (nl,xs.map enc,oo)) (hsr:Hm st.s (ev G st.t y)=some (ys.map enc)) (hw:Um (D.size e) enc)
   {bz:Nat} (hbz:D.bytes e=bz) (hby:decide ((xs.length+ys.length) * bz<=140737488355328)=true) :
   CD P G o st (.sl nl d) (Ae (JA st.s oo) d (some (some (.ar e (D.size e) ((xs ++ ys).map enc))))):=by
 obtain ⟨de,z,h1,h2,h3,h4,h5⟩:=OT he
 subst hbz
 exact Yu hg hop hu h1 h2 h3 h4 hd htg hsr hw h5 hby
theorem ZZ (hg:Good P D){parts:Array (Nat × Operand)}{t e d len:Nat}{rows:List (List T)}
   (ho:o.op=.buildSlice t len parts) (hu:D.AW t=some (.slice e)) (he:D.has e=true) (hd:st.s d=none) (hl:HT D st.s e len (parts.toList.map fun p=>(p.1,ev G st.t p.2))=some rows)
   (hsm:Nat.ble (len * D.size e) 16777216=true):CD P G o st (.sl .e d) (Ae st.s d (some (some (.ar e (D.size e) rows)))):=by
 obtain ⟨de,hde⟩:=BH he
 exact LR hg ho hu hde hd hl hsm
end Go.Proofs.YtobfoiomjfdjjaaDoor.Mc
namespace Go.Proofs.YtobfoiomjfdjjaaDoor.Mc
open Go.RowKit
variable [Mo]
variable {P:Program}{G:BA}{D:Ah}{st:St}{o:Oper}
end Go.Proofs.YtobfoiomjfdjjaaDoor.Mc
namespace Go.Proofs.YtobfoiomjfdjjaaDoor.Mc
open Go.RowKit
variable [Mo]
variable {P:Program}
def Ev (W:World):Nat->Prop:=fun b=>b < W.heap.size
def HY:Nat->Option Loc:=fun _=>none
def GN (W:World):Prop:=∀ g cells,AM g=some cells->g < W.heap.size/\∃ val:Nat->Value,(∀ j,j < cells.length->W.cell? ⟨g,j,none⟩=some (val j))/\∀ (j:Nat) (x:T),cells[j]? = some x->BG W (Ev W) x (val j)
theorem QK (W:World)(hG:GN W)(hn:∀ o l,HY o=some l->1000000<=o):AK AM (DT HY W (Ev W) hn) W (Ev W) HY (LH []):=by
 refine ⟨?_,?_,?_,?_,?_,fun _ h=>h,rfl,rfl,rfl,Nat.le_refl _,fun _ _ _=>rfl,fun _ _ h=>.inl h,?_,fun _=>Nat.le_refl _⟩
 · intro o obj h; cases h
 · intro o l h; cases h
 · intro o o' l l' b h; cases h
 · intro o l b h; cases h
 · intro b hb; exact ⟨hb,.inl hb⟩
 · intro g cells h; exact hG g cells h
theorem dc.calls {f:FuncId}{vs:List V}(h:dc P f vs [] (vB true) UG){W:World}(hG:GN W){args:Array Value}(hA:CF W (Ev W) HY vs args.toList) :
   Calls P f args W fun e w'=>e=.returned (.bool true)/\Below W.heap.size W w':=by
 have:=h (Ev W) HY W args.toList (fun o l h=>by cases h) (QK W hG _) hA
 refine this.mono ?_
 rintro e w' ⟨v,F', loc', r,s', rfl,hS,hr,rfl,rfl⟩
 refine ⟨by rw [Hy hr],⟨hS.os,hS.tape,hS.output,hS.size,fun k hk=>hS.keep k hk fun ⟨o,l,h,_⟩=>by cases h⟩⟩
variable {W:World}{F:Nat->Prop}{loc:Nat->Option Loc}
omit [Mo] in
theorem PQ:CF W F loc [] []:=⟨rfl,by simp⟩
omit [Mo] in
theorem Li {x:V}{v:Value}{xs:List V}{vs:List Value}(h:AF W F loc x v)(k:CF W F loc xs vs):CF W F loc (x :: xs) (v :: vs):=by
 refine ⟨by simp [k.1],fun j y hj=>?_⟩
 cases j with
 | zero=>cases hj; exact ⟨v,rfl,h⟩
 | succ j=>simpa using k.2 j y (by simpa using hj)
end Go.Proofs.YtobfoiomjfdjjaaDoor.Mc
namespace Go.Proofs.YtobfoiomjfdjjaaDoor.Mc
open Go.RowKit
variable [Mo]
variable {P:Program}{G:BA}{D:Ah}
def Td (P:Program)(G:BA)(o:Oper)(st:St)(v:V)(s':AE):Prop :=
 ∀ (B:BB) (F:Nat->Prop) (loc:Nat->Option Loc) (a:Act) (w:World),Rel G B F loc st a.tmps w->∀ (K:Act->World->Prop) (Q':Exit->Act->World->Prop),
   (∀ (x:Value) (F':Nat->Prop) (loc':Nat->Option Loc) (w':World),AK G B w' F' loc' s' -> Kept w F w' F' -> Ak loc loc' -> AF w' F' loc' v x->K (a.put o.dst x) w')->o.wp P a w K Q'
theorem CD.w {o:Oper}{st:St}{v:V}{s':AE}(h:CD P G o st v s'):Td P G o st v s':=by
 intro B F loc a w hR K Q' hK
 obtain ⟨F', loc', w', x,r,hrun,hr,hS,hk,hs,hv⟩:=h B F loc a w hR
 unfold Oper.wp
 rw [hrun]
 rcases hr with rfl | ⟨rfl,rfl⟩
 · exact hK x F' loc' w' hS hk hs hv
 · exact hK undef F' loc' w' hS hk hs hv
def Xy (P:Program)(G:BA)(ops:Array Oper)(o:Oper)(st:St)(v:V)(s':AE):Prop :=
 (want ops o st=some true/\Td P G o st v s')\/(want ops o st=some false/\v=vU/\s' = st.s)
def depOn (ops:Array Oper)(i j:Nat):Bool:=match ops[i]? with | some o=>o.after.any fun e=>Region.binds .any e && Nat.beq e.on j | none=>false
def sto (s:AE)(fs:List (AE->AE))(k:Nat):AE:=(fs.take k).foldl (fun s f=>f s) s
def Rt (Bb:List V)(i:Nat):V:=(Bb[i]?).getD .dead
def MK (ops:Array Oper)(d:Nat):Option Nat:=(List.range ops.size).find? fun i=>match ops[i]? with | some o=>(match o.dst with | some d'=>Nat.beq d' d | none=>false) | none=>false
def tL (ops:Array Oper)(t:Nat->V)(Bb:List V)(listed:Nat->Bool):Nat->V:=fun d=>match MK ops d with | some j=>cond (listed j) (Rt Bb j) (t d) | none=>t d
def EF (ops:Array Oper)(i:Nat):List Nat:=match ops[i]? with | some o=>o.looksAt ops | none=>[]
def okk (ops:Array Oper)(effs:List Nat)(i k:Nat):Bool:=(List.range effs.length).all fun r=>match effs[r]? with
 | some e=>(!(depOn ops i e) || Nat.blt r k) && (!(Nat.beq i e || depOn ops e i) || Nat.ble k r)
 | none=>true
def fP (ops:Array Oper):List Nat:=ops.toList.filterMap (·.dst)
def dj (ops:Array Oper)(i j:Nat):List Nat->Bool
 | []=>depOn ops i j
 | k :: ks=>depOn ops i k && dj ops k j ks
end Go.Proofs.YtobfoiomjfdjjaaDoor.Mc
namespace Go.Proofs.YtobfoiomjfdjjaaDoor.Mc
open Go.RowKit
variable [Mo]
variable {P:Program}{G:BA}{D:Ah}
omit [Mo] in
theorem Iz (f:V->V) (t:Nat->V):∀ (is:List Nat) (i:Nat),(Co f t is i=f (t i)/\i ∈ is)\/Co f t is i=.dead
 | [],i=>.inr rfl
 | j :: is,i=>by
   by_cases h:i=j
   · subst h; left; exact ⟨AA _ _ _,by simp⟩
   · rw [Co,AJ _ _ h]
     rcases Iz f t is i with h' | h'
     · exact .inl ⟨h'.1,List.mem_cons_of_mem _ h'.2⟩
     · exact .inr h'
structure Chk (ops:Array Oper)(n:Nat)(effs:List Nat)(SE:List (Nat × Nat)):Prop where
 fit:∀ (i:Nat) (o:Oper) (d:Nat),ops[i]? = some o->o.dst=some d->d < n
 uniq:∀ (i:Nat) (o:Oper) (d:Nat),ops[i]? = some o->o.dst=some d->MK ops d=some i
 reads:∀ i,i < ops.size->∀ d ∈ EF ops i,∀ j,MK ops d=some j->depOn ops i j=true\/depOn ops j i=true\/i=j
 low:∀ i j,depOn ops i j=true->j < i
 chain:∀ (r e e':Nat),effs[r]? = some e->effs[r+1]? = some e' -> ∃ l,dj ops e' e l=true
 nodup:BW effs=true
 SE:∀ i,i < ops.size->∀ k,k<=effs.length->okk ops effs i k=true->(i,k) ∈ SE
omit [Mo] in
theorem VP {ops:Array Oper}{i j:Nat}(h:depOn ops i j=true):i < ops.size:=by
 unfold depOn at h
 cases ho:ops[i]? with
 | none=>rw [ho] at h; cases h
 | some o=>exact (Array.getElem?_eq_some_iff.1 ho).1
omit [Mo] in
theorem ED {ops:Array Oper} {d j:Nat} (h:MK ops d=some j):∃ o,ops[j]? = some o/\o.dst=some d:=by
 unfold MK at h
 have:=List.find?_some h
 split at this
 · rename_i o ho
   split at this
   · rename_i d' hd'
     exact ⟨o,ho,by rw [hd', Nat.eq_of_beq_eq_true this]⟩
   · cases this
 · cases this
section
variable {ops:Array Oper}{t:Nat->V}{s:AE}{n:Nat}{an:List Nat}{Bb:List V}{fs:List (AE->AE)}{effs:List Nat}{SE:List (Nat × Nat)}{B:BB}
def Lf (listed:Array Bool)(i:Nat):Bool:=listed.getD i false
structure Inv (G:BA)(B:BB)(ops:Array Oper)(t:Nat->V)(s:AE)(n:Nat)(an:List Nat)(Bb:List V)(fs:List (AE->AE))(effs:List Nat)(listed:Array Bool)(a:Act)(w:World):Prop where
 size:listed.size=ops.size
 down:∀ i j,Lf listed i=true->depOn ops i j=true->Lf listed j=true
 defers:a.defers=[]
 rel:∃ k,k<=effs.length/\(∀ (r e:Nat),effs[r]? = some e->(Lf listed e=true ↔ r < k))/\∃ F loc,Rel G B F loc ⟨tL ops t Bb (Lf listed),sto s fs k,n,an⟩ a.tmps w
omit [Mo] in
theorem VE {listed:Array Bool}{i j:Nat}(hi:i < listed.size):Lf (listed.setIfInBounds i true) j=(Nat.beq j i || Lf listed j):=by
 unfold Lf
 by_cases h:j=i
 · subst h; simp [Array.getD_eq_getD_getElem?,hi]
 · have hb:Nat.beq j i=false:=by rw [<- Bool.not_eq_true,Nat.beq_eq]; exact h
   rw [hb,Bool.false_or]
   simp only [Array.getD_eq_getD_getElem?,Array.getElem?_setIfInBounds]
   rw [if_neg (fun e=>h e.symm)]
omit [Mo] in
theorem GC {listed:Array Bool} {i:Nat} (hsz:listed.size=ops.size) (h:i ∈ Region.ready .any ops listed) :
   i < ops.size/\Lf listed i=false/\∀ j,depOn ops i j=true->Lf listed j=true:=by
 unfold Region.ready at h
 rw [List.mem_filter] at h
 obtain ⟨hr,hb⟩:=h
 have hi:i < ops.size:=List.mem_range.1 hr
 simp only [Bool.and_eq_true,Bool.not_eq_true'] at hb
 refine ⟨hi,?_,fun j hj=>?_⟩
 · have:=hb.1
   have hi':i < listed.size:=by omega
   unfold Lf
   simp [Array.getD_eq_getD_getElem?,hi'] at this ⊢
   exact this
 · have h2:=hb.2
   unfold depOn at hj
   cases ho:ops[i]? with
   | none=>rw [ho] at hj; cases hj
   | some o =>
     rw [ho] at hj h2
     simp only [Option.map_some,Option.getD_some] at h2
     obtain ⟨e,he,hbb⟩:=Array.any_eq_true'.1 hj
     simp only [Bool.and_eq_true] at hbb
     have:=Array.all_eq_true'.1 h2 e he
     rw [hbb.1] at this
     simp only [Bool.not_true,Bool.false_or] at this
     have e1:e.on=j:=Nat.eq_of_beq_eq_true hbb.2
     rw [<- e1]; exact this
omit [Mo] in
theorem UP {listed:Array Bool} {i:Nat} (hsz:listed.size=ops.size) (hi:i < ops.size) (h0:Lf listed i=false) (hd:∀ j,depOn ops i j=true->Lf listed j=true):i ∈ Region.ready .any ops listed:=by
 unfold Region.ready
 rw [List.mem_filter]
 refine ⟨List.mem_range.2 hi,?_⟩
 have hi':i < listed.size:=by omega
 simp only [Bool.and_eq_true,Bool.not_eq_true']
 refine ⟨?_,?_⟩
 · unfold Lf at h0
   simp [Array.getD_eq_getD_getElem?,hi'] at h0 ⊢
   exact h0
 · have ho:ops[i]? = some ops[i]:=by simp [hi]
   rw [ho]
   simp only [Option.map_some,Option.getD_some]
   rw [Array.all_eq_true']
   intro e he
   by_cases hb:Region.binds .any e=true
   · rw [hb]
     simp only [Bool.not_true,Bool.false_or]
     refine hd e.on ?_
     unfold depOn
     rw [ho]
     simp only
     exact Array.any_eq_true'.2 ⟨e,he,by simp [hb]⟩
   · have:Region.binds .any e=false:=by simpa using hb
     simp [this]
omit [Mo] in
theorem Sv {listed:Array Bool} (h:∃ i,i < ops.size/\Lf listed i=false):∃ i,i < ops.size/\Lf listed i=false/\∀ j,j < i->Lf listed j=true:=by
 obtain ⟨i,hi,h0⟩:=h
 induction i using Nat.strongRecOn with
 | _ i ih =>
   by_cases hx:∃ j,j < i/\Lf listed j=false
   · obtain ⟨j,hj,hj0⟩:=hx
     exact ih j hj (by omega) hj0
   · refine ⟨i,hi,h0,fun j hj=>?_⟩
     by_cases hb:Lf listed j=true
     · exact hb
     · exact absurd ⟨j,hj,by simpa using hb⟩ hx
end
end Go.Proofs.YtobfoiomjfdjjaaDoor.Mc
namespace Go.Proofs.YtobfoiomjfdjjaaDoor.Mc
open Go.RowKit
variable [Mo]
variable {P:Program}{G:BA}{D:Ah}
variable {ops:Array Oper}{t:Nat->V}{s:AE}{n:Nat}{an:List Nat}{Bb:List V}{fs:List (AE->AE)}{effs:List Nat}{SE:List (Nat × Nat)}{B:BB}
theorem MU {w:World}{F:Nat->Prop}{loc:Nat->Option Loc}(h:AK G B w F loc s):AK G B { w with drawn:=w.drawn+1 } F loc s:=by
 have hk:Kept w F { w with drawn:=w.drawn+1 } F:=fun b hb=>⟨hb,rfl⟩
 refine { Cg:=?_,Fp:=h.Fp,inj:=h.inj,own:=h.own,BF:=h.BF,RF:=h.RF,os:=h.os,tape:=h.tape,output:=h.output,size:=h.size,keep:=h.keep,QB:=h.QB,FE:=?_,Pv:=fun h'=>Nat.le_succ_of_le (h.Pv h') }
 · intro o obj ho
   obtain ⟨l,hl,hr⟩:=h.Cg o obj ho
   exact ⟨l,hl,hr.mono hk (Ak.refl _) (fun _ _=>rfl) fun _ _ _ _ _ _ _=>rfl⟩
 · intro g cells hg
   obtain ⟨hF,val,hcc,hr⟩:=h.FE g cells hg
   exact ⟨hF,val,hcc,fun j x hj=>(hr j x hj).mono hk⟩
end Go.Proofs.YtobfoiomjfdjjaaDoor.Mc
namespace Go.Proofs.YtobfoiomjfdjjaaDoor.Mc
open Go.RowKit
variable [Mo]
variable {P:Program}{G:BA}{D:Ah}
theorem Td.call {o:Oper} {st:St} {fop:Operand} {args:Array Operand} {ts:Array TypeId} {f:FuncId} {fn:Func} {caps:List V} {ρ σ:Ren} {L:List (Nat × O)} {vs:List V} {r:V} {s1:AE}
   (ho:o.op=.call ⟨.value fop,args,ts⟩) (hf:WS (ev G st.t fop)=some (f,caps))
   (WK:P.funcs[f]? = some fn) (Ir:(fn.name == "runtime.NumGoroutine")=false) (hb:fn.body.isSome=true)
   (hρ:CA ρ=true) (hρn:(ρ.all fun p=>Nat.ble 1000000 p.1)=true) (hL:Fi ρ st.s ρ=some L) (hvs:Hn (inv ρ) (args.toList.map (ev G st.t) ++ caps)=vs)
   (hct:CT P G f vs (LH L) fun r' s'=>r' = r/\s' = s1) (hρσ:CA (ρ ++ σ)=true) (hfr:(σ.all fun p=>(st.s p.2).isNone)=true) :
   Td P G o st (r.AQ (AQ (ρ ++ σ))) (Iv (ρ ++ σ) s1 st.s):=by
 intro B F loc a w hR K Q' hK
 have hn:∀ o l,FF ρ loc o=some l->1000000<=o:=by
   intro o l h
   obtain ⟨n', h1,_⟩:=(CI hρ).1 h
   exact Nat.le_of_ble_eq_true (List.all_eq_true.1 hρn _ h1)
 obtain ⟨hSC,hal⟩:=hR.s.hand hρ hL hn
 obtain ⟨cvs,hcv,hcr⟩:=Sj hf (AV hR fop)
 have hargs:CF w F (FF ρ loc) vs ((args.map a.eval).toList ++ cvs):=by
   subst hvs
   rw [Cs,List.map_append]
   refine CF.append ⟨by simp,fun j x hj=>?_⟩ ⟨by simp [hcr.1],fun j x hj=>?_⟩
   · rw [List.getElem?_map,List.getElem?_map] at hj
     obtain ⟨y,hy,rfl⟩:=Option.map_eq_some_iff.1 hj
     obtain ⟨z,hz,rfl⟩:=Option.map_eq_some_iff.1 hy
     exact ⟨a.eval z,by rw [Array.toList_map,List.getElem?_map,hz]; rfl,(AV hR z).AQ hal⟩
   · rw [List.getElem?_map] at hj
     obtain ⟨y,hy,rfl⟩:=Option.map_eq_some_iff.1 hj
     obtain ⟨v,hv,hr⟩:=hcr.2 j y hy
     exact ⟨v,hv,hr.AQ hal⟩
 have hrun:(execOp a.eval o).run P w=.ok (.enter f ((args.map a.eval).toList ++ cvs).toArray) w:=by
   have e1:execOp a.eval o=(do let d <- resolve a.eval ⟨.value fop,args,ts⟩ o.type; invoke d.target d.args):=by simp only [execOp,ho]
   rw [e1,Sem.run_bind]
   simp only [resolve,hcv,Deferred.ofValue,Sem.run_pure,Result.andThen_ok,invoke]
   rw [enters WK Ir hb]
   congr 2
   apply Array.ext'
   simp
 unfold Oper.wp
 rw [hrun]
 refine (hct F (FF ρ loc) w _ hn hSC hargs).mono ?_
 rintro e w' ⟨v,F', loc', r', s', rfl,hS', hrel,rfl,rfl⟩
 obtain ⟨hS2,hk,hsm,hal2⟩:=hR.s.back (σ:=σ) hρ hρσ hn (Fc hL) (fun p hp=>by simpa using List.all_eq_true.1 hfr p hp) hS'
 exact hK v F' _ w' hS2 hk hsm (hrel.AQ hal2)
omit [Mo] in
theorem Qb {D:Ah}(hg:Good P D){t:TypeId}{n:String}{f:FuncId}(h:D.RD t n=some f)(v:Value)(k:Nat)(w:World):(method (k+1) t v n).run P w=.ok (f,v) w:=by
 obtain ⟨i,m,fs,h1,h2,h3,h4,h5⟩:=hg.RD t n f h
 have hu:=run_underlying h5 w
 unfold method
 simp only [Sem.run_bind,run_typeInfo w h1,Result.andThen_ok,h2,h3,follow,Sem.run_pure,h4,receiverAt,hu,Place.get]
theorem Td.bF {D:Ah} (hg:Good P D) {o:Oper} {st:St} {recv:Operand} {name:String} {args:Array Operand} {ts:Array TypeId} {t:TypeId} {x:V} {f:FuncId} {fn:Func} {ρ σ:Ren} {L:List (Nat × O)} {vs:List V} {r:V} {s1:AE}
   (ho:o.op=.call ⟨.invoke recv name,args,ts⟩) (hx:ev G st.t recv=.BE t x) (hm:D.RD t name=some f)
   (WK:P.funcs[f]? = some fn) (Ir:(fn.name == "runtime.NumGoroutine")=false) (hb:fn.body.isSome=true)
   (hρ:CA ρ=true) (hρn:(ρ.all fun p=>Nat.ble 1000000 p.1)=true) (hL:Fi ρ st.s ρ=some L) (hvs:Hn (inv ρ) (x :: args.toList.map (ev G st.t))=vs)
   (hct:CT P G f vs (LH L) fun r' s'=>r' = r/\s' = s1) (hρσ:CA (ρ ++ σ)=true) (hfr:(σ.all fun p=>(st.s p.2).isNone)=true) :
   Td P G o st (r.AQ (AQ (ρ ++ σ))) (Iv (ρ ++ σ) s1 st.s):=by
 intro B F loc a w hR K Q' hK
 have hn:∀ o l,FF ρ loc o=some l->1000000<=o:=by
   intro o l h
   obtain ⟨n', h1,_⟩:=(CI hρ).1 h
   exact Nat.le_of_ble_eq_true (List.all_eq_true.1 hρn _ h1)
 obtain ⟨hSC,hal⟩:=hR.s.hand hρ hL hn
 obtain ⟨v,hv,hrx⟩:∃ v,a.eval recv=.iface t v/\AF w F loc x v:=by
   have:=AV hR recv
   rw [hx] at this
   generalize a.eval recv=z at this
   cases this with
   | gone _ _ _ h _=>cases h
   | BE _ _ v h=>exact ⟨v,rfl,h⟩
 have hargs:CF w F (FF ρ loc) vs (v :: (args.map a.eval).toList):=by
   subst hvs
   rw [Cs,List.map_cons]
   refine ⟨by simp,fun j y hj=>?_⟩
   cases j with
   | zero=>cases hj; exact ⟨v,rfl,hrx.AQ hal⟩
   | succ j =>
     rw [List.getElem?_cons_succ,List.getElem?_map,List.getElem?_map] at hj
     obtain ⟨y', hy,rfl⟩:=Option.map_eq_some_iff.1 hj
     obtain ⟨z,hz,rfl⟩:=Option.map_eq_some_iff.1 hy
     exact ⟨a.eval z,by rw [List.getElem?_cons_succ,Array.toList_map,List.getElem?_map,hz]; rfl,(AV hR z).AQ hal⟩
 have hrun:(execOp a.eval o).run P w=.ok (.enter f (v :: (args.map a.eval).toList).toArray) w:=by
   have e1:execOp a.eval o=(do let d <- resolve a.eval ⟨.invoke recv name,args,ts⟩ o.type; invoke d.target d.args):=by simp only [execOp,ho]
   have e0:(#[Value.iface t v] ++ args.map a.eval)[0]? = some (.iface t v):=by rw [Array.getElem?_append_left (by simp)]; rfl
   have e2:(#[Value.iface t v] ++ args.map a.eval).extract 1 (#[Value.iface t v] ++ args.map a.eval).size=args.map a.eval:=by
     rw [Array.extract_append]
     simp
   have hp:(program).run P w=.ok P w:=rfl
   rw [e1,Sem.run_bind]
   simp only [resolve,hv,Sem.run_pure,Result.andThen_ok,invoke,e0,e2,callMethod,Sem.run_bind,hp,Qb hg hm v (P.types.size+99) w,show P.types.size+Made.depth=P.types.size+99+1 from rfl]
   rw [enters WK Ir hb]
   congr 2
   apply Array.ext'
   simp
 unfold Oper.wp
 rw [hrun]
 refine (hct F (FF ρ loc) w _ hn hSC hargs).mono ?_
 rintro e w' ⟨v,F', loc', r', s', rfl,hS', hrel,rfl,rfl⟩
 obtain ⟨hS2,hk,hsm,hal2⟩:=hR.s.back (σ:=σ) hρ hρσ hn (Fc hL) (fun p hp=>by simpa using List.all_eq_true.1 hfr p hp) hS'
 exact hK v F' _ w' hS2 hk hsm (hrel.AQ hal2)
end Go.Proofs.YtobfoiomjfdjjaaDoor.Mc
namespace Go.Proofs.YtobfoiomjfdjjaaDoor.Mc
open Go.RowKit
variable [Mo]
variable {P:Program}{G:BA}{D:Ah}
end Go.Proofs.YtobfoiomjfdjjaaDoor.Mc
namespace Go.Proofs.YtobfoiomjfdjjaaDoor.Mc
open Go.RowKit
variable [Mo]
variable {P:Program}{G:BA}{D:Ah}
def Ll (o d:Nat)(n:Nat):Option Nat:=some (cond (Nat.beq n o) d n)
def WI (o d:Nat)(s:AE):AE:=fun n=>cond (Nat.beq n o) (some none) (cond (Nat.beq n d) ((s o).map (·.map (O.AQ (Ll o d)))) ((s n).map (·.map (O.AQ (Ll o d)))))
theorem Conv.move {t:Nat->V} {s:AE} {m:Nat} {a:List Nat} (o d:Nat) (ho:(s o).isSome=true) (hd:s d=none):Conv G ⟨t,s,m,a⟩ ⟨fun i=>(t i).AQ (Ll o d),WI o d s,m,a⟩:=by
 intro B F loc tmps w hR
 have hS:=hR.s
 have hod:o ≠ d:=by rintro rfl; rw [show s o=none from hd] at ho; cases ho
 have hbo:∀ n,n ≠ o->Nat.beq n o=false:=fun n h=>by rw [<- Bool.not_eq_true,Nat.beq_eq]; exact h
 have hbd:∀ n,n ≠ d->Nat.beq n d=false:=fun n h=>by rw [<- Bool.not_eq_true,Nat.beq_eq]; exact h
 have hld:loc d=none:=Cc hS hd
 let loc2:Nat->Option Loc:=fun n=>cond (Nat.beq n o) (some .gone) (cond (Nat.beq n d) (loc o) (loc n))
 have l2o:loc2 o=some .gone:=by show cond (Nat.beq o o) _ _=_; rw [Nat.beq_refl]; rfl
 have l2d:loc2 d=loc o:=by show cond (Nat.beq d o) _ (cond (Nat.beq d d) _ _)=_; rw [hbo d (Ne.symm hod),Nat.beq_refl]; rfl
 have l2n:∀ n,n ≠ o->n ≠ d->loc2 n=loc n:=fun n h1 h2=>by show cond (Nat.beq n o) _ (cond (Nat.beq n d) _ _)=_; rw [hbo n h1,hbd n h2]; rfl
 have hal:IY (Ll o d) loc loc2:=by
   intro n n' l h1 h2
   unfold Ll at h1
   by_cases hn:n=o
   · subst hn; rw [Nat.beq_refl] at h1; cases h1; exact l2d.trans h2
   · rw [hbo n hn] at h1; cases h1
     have:n ≠ d:=by rintro rfl; rw [hld] at h2; cases h2
     exact (l2n n hn this).trans h2
 have hcase:∀ n l,loc2 n=some l->(n=o/\l=.gone)\/(n=d/\loc o=some l)\/(n ≠ o/\n ≠ d/\loc n=some l):=by
   intro n l h
   by_cases h1:n=o
   · subst h1; rw [l2o] at h; cases h; exact .inl ⟨rfl,rfl⟩
   · by_cases h2:n=d
     · subst h2; rw [l2d] at h; exact .inr (.inl ⟨rfl,h⟩)
     · rw [l2n n h1 h2] at h; exact .inr (.inr ⟨h1,h2,h⟩)
 have hsd:WI o d s d=(s o).map (·.map (O.AQ (Ll o d))):=by unfold WI; rw [hbo d (Ne.symm hod),Nat.beq_refl]; rfl
 have hsn:∀ n,n ≠ o->n ≠ d->WI o d s n=(s n).map (·.map (O.AQ (Ll o d))):=fun n h1 h2=>by unfold WI; rw [hbo n h1,hbd n h2]; rfl
 have hso:WI o d s o=some none:=by unfold WI; rw [Nat.beq_refl]; rfl
 have key:∀ n n' obj,loc2 n' = loc n->s n=some obj->∃ l,loc2 n' = some l/\BZ w F loc2 (obj.map (O.AQ (Ll o d))) l:=by
   intro n n' obj hl hn
   obtain ⟨l,h1,h2⟩:=hS.Cg n obj hn
   refine ⟨l,hl.trans h1,?_⟩
   cases obj with
   | none=>cases h2; exact .gone
   | some x=>exact h2.AQ hal
 refine ⟨F,loc2,⟨⟨?_,?_,?_,?_,hS.BF,hS.RF,hS.os,hS.tape,hS.output,hS.size,hS.keep,?_,hS.FE,hS.Pv⟩,fun i=>(hR.t i).AQ hal,hR.n,hR.a⟩⟩
 · intro n obj hn
   replace hn:WI o d s n=some obj:=hn
   by_cases h1:n=o
   · subst h1; rw [hso] at hn; cases hn; exact ⟨.gone,l2o,.gone⟩
   · by_cases h2:n=d
     · subst h2
       rw [hsd] at hn
       obtain ⟨ob,h3,rfl⟩:=Option.map_eq_some_iff.1 hn
       exact key o n ob l2d h3
     · rw [hsn n h1 h2] at hn
       obtain ⟨ob,h3,rfl⟩:=Option.map_eq_some_iff.1 hn
       exact key n n ob (l2n n h1 h2) h3
 · intro n l hl
   rcases hcase n l hl with ⟨rfl,_⟩ | ⟨rfl,h⟩ | ⟨h1,h2,h⟩
   · exact ⟨_,hso⟩
   · obtain ⟨ob,h3⟩:=hS.Fp o l h
     exact ⟨_,hsd.trans (by rw [show s o=some ob from h3]; rfl)⟩
   · obtain ⟨ob,h3⟩:=hS.Fp n l h
     exact ⟨_,(hsn n h1 h2).trans (by rw [show s n=some ob from h3]; rfl)⟩
 · intro n n' l l' b h1 h2 h3 h4
   rcases hcase n l h1 with ⟨_,rfl⟩ | ⟨rfl,a1⟩ | ⟨a0,a2,a1⟩
   · cases h3
   · rcases hcase n' l' h2 with ⟨_,rfl⟩ | ⟨rfl,b1⟩ | ⟨b0,b2,b1⟩
     · cases h4
     · rfl
     · exact absurd (hS.inj o n' l l' b a1 b1 h3 h4).symm b0
   · rcases hcase n' l' h2 with ⟨_,rfl⟩ | ⟨rfl,b1⟩ | ⟨b0,b2,b1⟩
     · cases h4
     · exact absurd (hS.inj n o l l' b a1 b1 h3 h4) a0
     · exact hS.inj n n' l l' b a1 b1 h3 h4
 · intro n l b h1 h2
   rcases hcase n l h1 with ⟨_,rfl⟩ | ⟨rfl,a1⟩ | ⟨a0,a2,a1⟩
   · cases h2
   · exact hS.own o l b a1 h2
   · exact hS.own n l b a1 h2
 · intro n l hn
   have hne:n ≠ d:=by
     rintro rfl
     rcases hS.QB n l hn with h | h <;> rw [hld] at h <;> cases h
   by_cases h1:n=o
   · subst h1; exact .inr l2o
   · rw [l2n n h1 hne]; exact hS.QB n l hn
end Go.Proofs.YtobfoiomjfdjjaaDoor.Mc
namespace Go.Proofs.YtobfoiomjfdjjaaDoor.Mc
open Go.RowKit
variable [Mo]
variable {P:Program}{G:BA}{D:Ah}
omit [Mo] in
theorem Th {t e:TypeId}{w:World}{ox oy:Operand}{ad:Option Addr}{len cap:Nat}(hu:P.underlying t=some (.slice e)) :
   ((do eqGuard .eql t ox oy (.slice ad len cap) (.slice none 0 0); binOp .eql t (.slice ad len cap) (.slice none 0 0):Sem Value)).run P w=.ok (.bool (isNil (.slice ad len cap))) w:=by
 rw [Sem.run_bind,Dc (by simp) (by simp)]
 simp only [Result.andThen_ok]
 have:binOp .eql t (.slice ad len cap) (.slice none 0 0)=(do pure (.bool (<- Op.equal t (.slice ad len cap) (.slice none 0 0))):Sem Value):=by
   unfold binOp
   split <;> first | rfl | (rename_i hh _; cases hh; done) | (exfalso; simp_all; done) | simp_all
 rw [this,Sem.run_bind,Hv hu (by rfl)]; rfl
end Go.Proofs.YtobfoiomjfdjjaaDoor.Mc
namespace Go.Proofs.YtobfoiomjfdjjaaDoor.Mc
open Go.RowKit
variable [Mo]
variable {P:Program}{G:BA}{D:Ah}{st:St}{o:Oper}
theorem Sl (hg:Good P D){t e:TypeId}{x:Operand}{lo hi:Option Operand}{l h:Int}(hop:o.op=.slice t x lo hi none)(hu:D.AW t=some (.slice e))(he:D.has e=true)
   (hx:ev G st.t x=.t (.sc (.slice none 0 0))) (hl:bound (lo.map (ev G st.t)) 0=some l) (hh:bound (hi.map (ev G st.t)) 0=some h) (hb:Dj 0 l h=true) :
   CD P G o st (.t (.sc (.slice none 0 0))) st.s:=by
 refine BJ hg hop ?_
 show Cj D st.s t (ev G st.t x) (lo.map (ev G st.t)) (hi.map (ev G st.t))=_
 rw [hx]
 have hb':=Dy hb
 simp only [Cj,hu,he,Bool.not_true,Bool.false_eq_true,if_false,hl,hh]
 rw [if_pos ⟨by omega,by omega⟩]
end Go.Proofs.YtobfoiomjfdjjaaDoor.Mc
namespace Go.Proofs.YtobfoiomjfdjjaaDoor.Mc
open Go.RowKit
variable [Mo]
variable {P:Program}{W:World}{H:Type}{enc:TypeId × Value->H}{base:Nat}{sp:Nat->Bool}{held:Bool}
def BM (W:World)(cs:List Value)(ts:List T):Prop:=ts.length=cs.length/\∀ (j:Nat) (y:T),ts[j]? = some y->∃ v,cs[j]? = some v/\v.oneCell' = true/\BG W (Ev W) y v
omit [Mo] in
theorem BM.cat {cs:List Value}{o n m:Nat}{A B:List T}(h:BM W ((cs.drop o).take n) A)(k:BM W ((cs.drop (o+n)).take m) B)(hn:A.length=n):BM W ((cs.drop o).take (n+m)) (A ++ B):=by
 have hl:n<=(cs.drop o).length:=by have:=h.1; rw [List.length_take] at this; omega
 have e:(cs.drop o).take (n+m)=(cs.drop o).take n ++ (cs.drop (o+n)).take m:=by rw [List.take_add,List.drop_drop]
 rw [e]
 refine ⟨by rw [List.length_append,List.length_append,h.1,k.1],fun j y hj=>?_⟩
 rw [List.getElem?_append] at hj ⊢
 have hc:((cs.drop o).take n).length=n:=by rw [List.length_take]; omega
 rw [hc]
 rw [hn] at hj
 split
 · rename_i hlt; rw [if_pos hlt] at hj; exact h.2 j y hj
 · rename_i hlt; rw [if_neg hlt] at hj; exact k.2 (j - n) y hj
omit [Mo] in
theorem BM.whole {cs:List Value}{n:Nat}{A:List T}(h:BM W ((cs.drop 0).take n) A)(hn:cs.length=n):BM W cs A:=by
 rw [List.drop_zero,List.take_of_length_le (by omega)] at h; exact h
mutual
def CJ {H:Type}:DataW H->Nat
 | .lit (.string bytes)=>bytes.length+1
 | .lit _=>1
 | .nil=>1
 | .ptr d=>CJ d+1
 | .slice elems spare=>Fj elems+Fj spare+1
 | .agg parts=>Fj parts+1
 | .iface _ d=>CJ d+1
 | .map entries=>Ug entries+1
 | .held _=>1
def Fj {H:Type}:List (DataW H)->Nat
 | []=>0
 | d :: r=>CJ d+Fj r
def Ug {H:Type}:List (Lit × DataW H)->Nat
 | []=>0
 | x :: r=>cK x+Ug r
def cK {H:Type}:Lit × DataW H->Nat
 | (.string bytes,d)=>bytes.length+CJ d+1
 | (_,d)=>CJ d+1
end
omit [Mo] in
theorem Kt:∀ (l:List (DataW H)),Fj l=(l.map CJ).sum
 | []=>by simp [Fj]
 | d :: r=>by simp [Fj,Kt r]
omit [Mo] in
theorem Gx:∀ (d:DataW H),1<=CJ d:=fun d=>by
 cases d with
 | lit l=>cases l <;> simp only [CJ] <;> omega
 | _=>simp only [CJ] <;> omega
def Ie (P:Program)(W:World)(enc:TypeId × Value->H)(base:Nat)(sp:Nat->Bool)(held:Bool)(t:TypeId){α:Type}(en:α->List T)(gd:α->Nat->Prop):Prop :=
 ∀ (fuel:Nat) (cs:List Value) (x:DataW H × List MemPlace),DataW.trod enc P W base sp held fuel t cs=some x->∃ a:α,BM W cs (en a)/\gd a (CJ x.1)
omit [Mo] in
theorem CC {y:T}{v:Value}(h1:v.oneCell' = true)(h:BG W (Ev W) y v):BM W [v] [y]:=by
 refine ⟨rfl,fun j z hj=>?_⟩
 cases j with
 | zero=>cases hj; exact ⟨v,rfl,h1,h⟩
 | succ j=>simp at hj
omit [Mo] in
theorem MQ {t:TypeId}{k:IntKind}(ht:P.underlying t=some (.int k)):Ie P W enc base sp held t (fun n:Int=>[T.sc (.int k n)]) (fun n _=>(Lit.int k n).wf=true):=fun _ _ _ h=>by
 obtain ⟨n,rfl,_,hw⟩:=DataW.trod_int ht h
 exact ⟨n,CC rfl (.sc _ rfl),hw⟩
omit [Mo] in
theorem Jp {t:TypeId}(ht:P.underlying t=some .bool):Ie P W enc base sp held t (fun b:Bool=>[T.sc (.bool b)]) (fun _ _=>True):=fun _ _ _ h=>by
 obtain ⟨b,rfl,_⟩:=DataW.trod_bool ht h
 exact ⟨b,CC rfl (.sc _ rfl),trivial⟩
omit [Mo] in
theorem Gl {t:TypeId}(ht:P.underlying t=some .string):Ie P W enc base sp held t (fun s:ByteArray=>[T.sc (.string s)]) (fun s m=>s.size<=maxLen/\s.size+1<=m):=fun _ _ _ h=>by
 obtain ⟨s,rfl,rfl,hw⟩:=DataW.trod_string ht h
 refine ⟨s,CC rfl (.sc _ rfl),hw,?_⟩
 simp only [CJ]
 have e:s.data.toList.length=s.size:=Array.length_toList
 first | omega | (simp; omega)
omit [Mo] in
theorem Ig {t e:TypeId}{α:Type}[Inhabited α]{en:α->List T}{gd:α->Nat->Prop}(ht:P.underlying t=some (.slice e))(hp:0 < P.cellsOf e)(he:Ie P W enc base sp held e en gd) :
   Ie P W enc base sp held t (fun xs:List α=>[T.fz .u (xs.map en)]) (fun xs m=>xs.length<=maxLen/\∃ ns:List Nat,ns.length=xs.length/\ns.sum+1<=m/\∀ i (h:i < xs.length),gd xs[i] (ns.getD i 0)):=by
 intro fuel cs x h
 rcases DataW.trod_slice ht h with ⟨rfl,rfl⟩ | ⟨a,len,cap,elems,rest,n,_,rfl,rfl,hb,hlc,hm,hlen,hel,_,_⟩
 · exact ⟨[],CC rfl (.nil .u (by simp)),by simp,[],rfl,by simp [CJ],by simp⟩
 have each:∀ i,i < len->∃ (c:List Value) (z:α),W.cells? base (a.add (i * P.cellsOf e)) (P.cellsOf e)=some c/\BM W c (en z)/\gd z ((elems.map fun y=>CJ y.1).getD i 0):=by
   intro i hi
   have h1:=hel i hi
   rw [List.getElem?_eq_getElem (by omega)] at h1
   obtain ⟨c,h2,h3⟩:=Option.bind_eq_some_iff.1 h1
   obtain ⟨z,hz⟩:=he n c _ h3
   rw [List.getD,List.getElem?_map,List.getElem?_eq_getElem (show i < elems.length by omega)]
   exact ⟨c,z,h2,hz⟩
 let cv:Nat->List Value:=fun i=>if h:i < len then (each i h).choose else []
 let zv:Nat->α:=fun i=>if h:i < len then (each i h).choose_spec.choose else default
 have spec:∀ i,i < len->W.cells? base (a.add (i * P.cellsOf e)) (P.cellsOf e)=some (cv i)/\BM W (cv i) (en (zv i))/\gd (zv i) ((elems.map fun y=>CJ y.1).getD i 0):=by
   intro i hi
   have:=(each i hi).choose_spec.choose_spec
   simp only [cv,zv,dif_pos hi]
   exact this
 refine ⟨(List.range len).map zv,?_,by simp; omega,elems.map fun y=>CJ y.1,by simp [hlen],?_,fun i hi=>by
   have hi':i < len:=by simpa using hi
   rw [List.getElem_map,List.getElem_range]
   exact (spec i hi').2.2⟩
 rotate_left
 · simp only [CJ,Kt,List.map_map,Function.comp_def]
   omega
 by_cases h0:len=0
 · subst h0; exact CC rfl (.mt .u a cap (by simp))
 have hcells:∀ i,i < len->(cv i).length=P.cellsOf e/\∀ j,j < P.cellsOf e->W.cell? ((a.add (i * P.cellsOf e)).add j)=(cv i)[j]? := fun i hi=>(World.cells?_some (spec i hi).1).2
 have hget:∀ i,i < len->∀ j,j < P.cellsOf e->∃ v,(cv i)[j]? = some v:=fun i hi j hj=>⟨_,List.getElem?_eq_getElem (by rw [(hcells i hi).1]; exact hj)⟩
 obtain ⟨v0,hv0⟩:=hget 0 (by omega) 0 hp
 have hc0:=(hcells 0 (by omega)).2 0 hp
 rw [Nat.zero_mul] at hc0
 have hadd0:(a.add 0).add 0=a:=by simp [Addr.add]
 rw [hadd0,hv0] at hc0
 have hspot:=World.cell?_spot hc0
 obtain ⟨b,off,spot⟩:=a
 obtain rfl:spot=none:=hspot
 have hblk:b < W.heap.size:=by
   have:=hc0
   unfold World.cell? at this
   by_cases hb:b < W.heap.size
   · exact hb
   · simp [Array.getElem?_eq_none (Nat.le_of_not_lt hb)] at this
 have hplace:∀ i j,((Addr.mk b off none).add (i * P.cellsOf e)).add j=⟨b,off+i * P.cellsOf e+j,none⟩:=fun i j=>by rw [Addr.add_mid,Addr.add_mid]
 have hidx:∀ (i:Nat) (r:List T),(((List.range len).map zv).map en)[i]? = some r->i < len/\r=en (zv i):=by
   intro i r hi
   rw [List.getElem?_map,List.getElem?_map] at hi
   obtain ⟨q,hq,rfl⟩:=Option.map_eq_some_iff.1 hi
   obtain ⟨z,hz,rfl⟩:=Option.map_eq_some_iff.1 hq
   obtain ⟨h1,h2⟩:=List.getElem?_eq_some_iff.1 hz
   simp at h1 h2
   subst h2
   exact ⟨h1,rfl⟩
 have hl:(((List.range len).map zv).map en).length=len:=by simp
 refine CC rfl ?_
 have:=BG.fz (w:=W) (F:=Ev W) .u (((List.range len).map zv).map en) (P.cellsOf e) b off cap (fun i j=>(cv i).getD j undef) hblk (by intro hn; rw [hn] at hl; simp at hl; omega) hp ?_ (by rw [hl]; exact hlc) ?_ ?_ ?_
 · rw [hl] at this; exact this
 · intro r hr
   obtain ⟨i,hi⟩:=List.getElem?_of_mem hr
   obtain ⟨h1,rfl⟩:=hidx i r hi
   rw [(spec i h1).2.1.1,(hcells i h1).1]
 · intro i r hi j hj
   obtain ⟨h1,rfl⟩:=hidx i r hi
   obtain ⟨v,hv⟩:=hget i h1 j hj
   have:=(hcells i h1).2 j hj
   rw [hplace,hv] at this
   rw [this]; simp [List.getD,hv]
 · intro i r hi j hj
   obtain ⟨h1,rfl⟩:=hidx i r hi
   obtain ⟨v,hv⟩:=hget i h1 j hj
   have hlen2:(en (zv i)).length=P.cellsOf e:=by rw [(spec i h1).2.1.1,(hcells i h1).1]
   obtain ⟨u,hu,h2,_⟩:=(spec i h1).2.1.2 j _ (List.getElem?_eq_getElem (by omega))
   show ((cv i).getD j undef).oneCell' = true
   have:(cv i).getD j undef=u:=by simp [List.getD,hu]
   rw [this]; exact h2
 · intro i r hi j y hy
   obtain ⟨h1,rfl⟩:=hidx i r hi
   obtain ⟨u,hu,_,h3⟩:=(spec i h1).2.1.2 j y hy
   have:(cv i).getD j undef=u:=by simp [List.getD,hu]
   show BG W (Ev W) y ((cv i).getD j undef)
   rw [this]; exact h3
omit [Mo] in
theorem OP {t:TypeId}{fs:Array Field}{fuel:Nat}{cs:List Value}{x:DataW H × List MemPlace}(ht:P.underlying t=some (.struct fs))(h:DataW.trod enc P W base sp held fuel t cs=some x) :
   cs.length=P.cellsOf t/\∃ ns:List Nat,ns.length=fs.size/\ns.sum+1<=CJ x.1/\∀ (i:Nat) (f:Field) {α:Type} {en:α->List T} {gd:α->Nat->Prop},fs[i]? = some f->Ie P W enc base sp held f.type en gd->∃ a:α,BM W ((cs.drop f.offset).take (P.cellsOf f.type)) (en a)/\gd a (ns.getD i 0):=by
 obtain ⟨xs,n,_,rfl,hl,hlen,hf⟩:=DataW.trod_struct ht h
 refine ⟨hl,xs.map fun y=>CJ y.1,by simp [hlen],?_,fun i f α en gd hi ho=>?_⟩
 · simp only [CJ,Kt,List.map_map,Function.comp_def]
   omega
 have h1:=hf i f hi
 have:i < xs.length:=by rw [hlen]; exact (Array.getElem?_eq_some_iff.1 hi).1
 rw [List.getElem?_eq_getElem this] at h1
 rw [List.getD,List.getElem?_map,List.getElem?_eq_getElem this]
 exact ho n _ _ h1
end Go.Proofs.YtobfoiomjfdjjaaDoor.Mc
namespace Go.Proofs.YtobfoiomjfdjjaaDoor.Mc
open Go.RowKit
variable [Mo]
variable {P:Program}{H:Type}{enc:TypeId × Value->H}
def readable (P:Program)(ts:List TypeId):Bool:=ts.all fun t=>P.readableRec t && decide (t < P.types.size)
omit [Mo] in
theorem TO (hl:laidOutB P=true){W W':World}(hb:Go.RowKit.Below W.heap.size W W'){t:TypeId}(hr:P.readableRec t=true)(ht:t < P.types.size){v:Value}{d:DataW H}{ps:List MemPlace}
   (h:DataW.Trod enc P W 0 (fun _=>true) true t v d ps):DataW.Trod enc P W' 0 (fun b=>decide (b < W.heap.size)) true t v d ps:=by
 obtain ⟨fuel,h⟩:=h
 have hlt:∀ p ∈ ps,p.block < W.heap.size:=DataW.trod_lt fuel t _ _ h
 exact ⟨fuel,DataW.trod_stays (kids_book hl hr) (book_sized hr) (fun h=>by cases h) ⟨ht,book_self t⟩ h (fun x hx=>hb.same (hlt x hx)) (fun x hx=>by simpa using hlt x hx)⟩
omit [Mo] in
theorem EW (hl:laidOutB P=true){W W':World}(hb:Go.RowKit.Below W.heap.size W W'):∀ {ts:List TypeId} {vs:List Value} {ds:List (DataW H)} {ps:List MemPlace},readable P ts=true ->
   DataW.TrodAll enc P W 0 (fun _=>true) true ts vs ds ps->DataW.TrodAll enc P W' 0 (fun b=>decide (b < W.heap.size)) true ts vs ds ps
 | [],[],[],_,_,h=>h
 | t :: ts,v :: vs,d :: ds,_,hr,h=>by
   obtain ⟨p,q,h1,h2,h3⟩:=h
   simp only [readable,List.all_cons,Bool.and_eq_true] at hr
   exact ⟨p,q,TO hl hb hr.1.1 (by simpa using hr.1.2) h1,EW hl hb hr.2 h2,h3⟩
 | [],[],_ :: _,_,_,h=>h.elim
 | [],_ :: _,_,_,_,h=>h.elim
 | _ :: _,[],_,_,_,h=>h.elim
 | _ :: _,_ :: _,[],_,_,h=>h.elim
end Go.Proofs.YtobfoiomjfdjjaaDoor.Mc
namespace Go.Proofs.YtobfoiomjfdjjaaDoor.Mc
open Go.RowKit
variable [Mo]
variable {P:Program}{W:World}{H:Type}{enc:TypeId × Value->H}{base:Nat}{sp:Nat->Bool}{held:Bool}
omit [Mo] in
theorem Wx {r:Reach}{b0:Nat}{t:TypeId}{fs:Array Field}{v:Value}{d:DataW H}{ps:List MemPlace}{α:Type}{en:α->List T}{gd:α->Nat->Prop}(ht:P.underlying t=some (.struct fs))(hval:Value.okWide P W r b0 t v)(ho:Ie P W enc base sp held t en gd)
   (hd:DataW.Trod enc P W base sp held t v d ps):∃ a:α,AF W (Ev W) HY (.ag ((en a).map .t)) v/\gd a (CJ d):=by
 unfold Value.okWide at hval
 rw [ht] at hval
 obtain ⟨cs,rfl,_,_⟩:=hval
 obtain ⟨fuel,h⟩:=hd
 obtain ⟨a,hc,hg⟩:=ho fuel _ _ h
 refine ⟨a,?_,hg⟩
 have hcs:(Value.agg cs).cells.toList=cs.toList:=rfl
 rw [hcs] at hc
 have e:cs=cs.toList.toArray:=by simp
 rw [e]
 refine .ag _ cs.toList (fun j=>cs.toList.getD j undef) (by rw [List.length_map]; exact hc.1) (fun j hj=>?_) (fun j y hj=>?_)
 · rw [List.length_map,hc.1] at hj; rw [List.getD,List.getElem?_eq_getElem hj]; rfl
 · rw [List.getElem?_map] at hj
   obtain ⟨z,hz,rfl⟩:=Option.map_eq_some_iff.1 hj
   obtain ⟨u,hu,_,hrel⟩:=hc.2 j z hz
   have:cs.toList.getD j undef=u:=by simp only [List.getD,hu]; rfl
   rw [this]; exact .t _ _ hrel
end Go.Proofs.YtobfoiomjfdjjaaDoor.Mc
namespace Go.Proofs.YtobfoiomjfdjjaaDoor.Mc
open Go.RowKit
open Go.MapKept (Stamped IsKey stamped_push stamped_modify stamped_erase)
def BQ {κ α:Type}(eq:κ->κ->Bool):List (κ × α)->κ->Option α
 | [],_=>none
 | x :: l,k=>cond (eq x.1 k) (some x.2) (BQ eq l k)
def Bw {κ α:Type}(eq:κ->κ->Bool):List (κ × α)->κ->α->List (κ × α)
 | [],k,a=>[(k,a)]
 | x :: l,k,a=>cond (eq x.1 k) ((k,a) :: l) (x :: Bw eq l k a)
def Cf {κ α:Type}(eq:κ->κ->Bool):List (κ × α)->κ->List (κ × α)
 | [],_=>[]
 | x :: l,k=>cond (eq x.1 k) l (x :: Cf eq l k)
def Bv:Value->Value->Bool
 | .string a,.string b=>a.toList == b.toList
 | .int _ a,.int _ b=>a == b
 | .bool a,.bool b=>a == b
 | _,_=>false
theorem fZ {a b:ByteArray}(h:a.toList=b.toList):a=b:=by
 apply ByteArray.ext; apply Array.ext'
 rwa [ByteArray.toList_eq,ByteArray.toList_eq] at h
theorem WM (a b:ByteArray):(a.toList == b.toList)=true ↔ a=b:=by
 rw [beq_iff_eq]
 exact ⟨fZ,fun h=>by rw [h]⟩
theorem NI {d:TypeDesc}{a b:Value}(ha:IsKey d a)(hb:IsKey d b):Bv a b=true ↔ a=b:=by
 cases d with
 | string =>
   cases a <;> cases b <;> first | (simp only [IsKey] at ha; done) | (simp only [IsKey] at hb; done) | skip
   simp only [Bv,WM,Value.string.injEq]
 | int k =>
   cases a <;> cases b <;> first | (simp only [IsKey] at ha; done) | (simp only [IsKey] at hb; done) | skip
   simp only [IsKey] at ha hb
   simp only [Bv,beq_iff_eq,Value.int.injEq,ha,hb,true_and]
 | bool =>
   cases a <;> cases b <;> first | (simp only [IsKey] at ha; done) | (simp only [IsKey] at hb; done) | skip
   simp only [Bv,beq_iff_eq,Value.bool.injEq]
 | _=>simp only [IsKey] at ha
theorem Eh.size {es:Array MapEntry}{xs:List (Value × Value)}(h:Eh es xs):es.size=xs.length:=by
 have:=congrArg List.length h
 simpa using this
theorem Jc {d:TypeDesc} {k:Value} (hk:IsKey d k):∀ (l:List MapEntry) (xs:List (Value × Value)) (i:Nat),l.map (fun e=>(e.key,e.val))=xs->(∀ x ∈ l,IsKey d x.key) ->
   (Instr.findNow d k l i=some none/\BQ Bv xs k=none/\(∀ x ∈ l,x.key ≠ k)/\(∀ v,Bw Bv xs k v=xs ++ [(k,v)])/\Cf Bv xs k=xs) \/
   ∃ j e,Instr.findNow d k l i=some (some (i+j,e.val))/\l[j]? = some e/\e.key=k/\BQ Bv xs k=some e.val/\(∀ v,Bw Bv xs k v=xs.set j (k,v))/\Cf Bv xs k=xs.eraseIdx j
 | [],xs,i,h,_=>by
   cases h
   exact .inl ⟨rfl,rfl,by simp,fun v=>rfl,rfl⟩
 | e :: l,xs,i,h,hks=>by
   cases h
   have he:=hks e (by simp)
   obtain ⟨r,hr,hiff⟩:=Go.MapKept.sameNow_of_keys hk he
   have hq:=NI he hk
   cases r with
   | true =>
     have hx:k=e.key:=hiff.1 rfl
     have hq':Bv e.key k=true:=hq.2 hx.symm
     refine .inr ⟨0,e,by simp [Instr.findNow,hr],rfl,hx.symm,?_,fun v=>?_,?_⟩
     · simp only [List.map_cons,BQ,hq', cond_true]
     · simp only [List.map_cons,Bw,hq', cond_true]; rfl
     · simp only [List.map_cons,Cf,hq', cond_true]; rfl
   | false =>
     have hx:e.key ≠ k:=fun q=>by have:=hiff.2 q.symm; cases this
     have hq':Bv e.key k=false:=by rw [<- Bool.not_eq_true]; exact fun h=>hx (hq.1 h)
     have hf:Instr.findNow d k (e :: l) i=Instr.findNow d k l (i+1):=by simp [Instr.findNow,hr]
     rcases Jc hk l _ (i+1) rfl (fun x hx=>hks x (by simp [hx])) with ⟨a1,a2,a3,a4,a5⟩ | ⟨j,f,a1,a2,a3,a4,a5,a6⟩
     · refine .inl ⟨by rw [hf,a1],?_,?_,fun v=>?_,?_⟩
       · simp only [List.map_cons,BQ,hq', cond_false,a2]
       · intro y hy
         rcases List.mem_cons.1 hy with rfl | hy
         · exact hx
         · exact a3 y hy
       · simp only [List.map_cons,Bw,hq', cond_false,a4]; rfl
       · simp only [List.map_cons,Cf,hq', cond_false,a5]
     · refine .inr ⟨j+1,f,by rw [hf,a1]; congr 3; omega,by simpa using a2,a3,?_,fun v=>?_,?_⟩
       · simp only [List.map_cons,BQ,hq', cond_false,a4]
       · simp only [List.map_cons,Bw,hq', cond_false,a5]; rfl
       · simp only [List.map_cons,Cf,hq', cond_false,a6]; rfl
section
variable {P:Program}{w:World}{mty kt et:TypeId}{d:TypeDesc}{r:Nat}{es:Array MapEntry}{clock:Nat}{xs:List (Value × Value)}
theorem FG (hm:P.underlying mty=some (.map kt et)) (hd:P.underlying kt=some d) (hb:w.heap[r]? = some (.map es clock)) (hs:Stamped es clock) (he:Eh es xs) (hks:∀ x ∈ es.toList,IsKey d x.key) {k:Value} (hk:IsKey d k) (v:Value) :
   ∃ es' clock', (Instr.mapUpdate mty (.map (some r)) k v).run P w=.ok () { w with heap:=w.heap.setIfInBounds r (.map es' clock') }/\Stamped es' clock' /\ Eh es' (Bw Bv xs k v)/\∀ x ∈ es'.toList,IsKey d x.key:=by
 have hg:=Go.MapKept.run_getObj_map (P:=P) hb
 have hst:=fun o=>Go.MapKept.run_setObj_map (P:=P) o hb
 have hck:=fun e n=>Go.MapKept.run_checkKey (w:=w) hd hk e n
 rcases Jc hk es.toList xs 0 he hks with ⟨a1,_,a3,a4,_⟩ | ⟨j,f,a1,a2,a3,_,a5,_⟩
 · have hf:=Go.MapKept.run_findKey (w:=w) hd a1
   refine ⟨_,_,by simp [Instr.mapUpdate,run_underlying hm,hg,hck,hf,hst,Result.andThen]; rfl,stamped_push hs a3,?_,?_⟩
   · unfold Eh at he ⊢
     rw [a4,Array.toList_push,List.map_append,he]; rfl
   · intro x hx
     simp only [Array.toList_push,List.mem_append,List.mem_singleton] at hx
     rcases hx with hx | rfl
     · exact hks x hx
     · exact hk
 · have hf:=Go.MapKept.run_findKey (w:=w) hd a1
   have hj:es[j]? = some f:=by simpa using a2
   have hkey:∀ e', es[j]? = some e' -> ({ e' with key:=k,val:=v }:MapEntry).key=e'.key:=fun e' he'=>by rw [hj] at he'; cases he'; exact a3.symm
   refine ⟨es.modify j (fun e=>{ e with key:=k,val:=v }),clock,?_,stamped_modify hs _ _ (fun _ _=>rfl) (fun e' _ he'=>hkey e' he'),?_,Go.MapKept.isKey_modify hks _ _ hkey⟩
   · simp [Instr.mapUpdate,run_underlying hm,hg,hck,hf,hj,a3,Go.MapKept.run_keyThatStays (P:=P) (w:=w) hk,hst,Result.andThen]
   · unfold Eh at he ⊢
     rw [a5]
     apply List.ext_getElem?
     intro i
     have hi:=congrArg (fun l=>l[i]?) he
     simp only [List.getElem?_map,Array.getElem?_toList,Array.getElem?_modify,List.getElem?_set] at hi ⊢
     by_cases hij:j=i
     · subst hij
       rw [if_pos rfl,if_pos rfl]
       have hlt:j < xs.length:=by
         have h1:=(Array.getElem?_eq_some_iff.1 hj).1
         have h2:=he
         have:=congrArg List.length h2
         simp at this
         omega
       rw [hj,if_pos hlt]; rfl
     · rw [if_neg hij,if_neg hij]; exact hi
theorem Qh (hks:∀ x ∈ es.toList,IsKey d x.key)(i:Nat):∀ x ∈ (es.eraseIdxIfInBounds i).toList,IsKey d x.key:=by
 intro x hx
 have hs':(es.eraseIdxIfInBounds i).toList.Sublist es.toList:=by
   unfold Array.eraseIdxIfInBounds
   split
   · simp only [Array.toList_eraseIdx]; exact List.eraseIdx_sublist _ _
   · exact List.Sublist.refl _
 exact hks x (hs'.subset hx)
theorem Ep (ty:TypeId) (hm:P.underlying mty=some (.map kt et)) (hd:P.underlying kt=some d) (hb:w.heap[r]? = some (.map es clock)) (hs:Stamped es clock) (he:Eh es xs) (hks:∀ x ∈ es.toList,IsKey d x.key) {k:Value} (hk:IsKey d k) :
   ∃ es' clock', (Builtin.delete_ #[mty,kt] ty #[.map (some r),k]).run P w=.ok (.tuple #[]) { w with heap:=w.heap.setIfInBounds r (.map es' clock') }/\Stamped es' clock' /\ Eh es' (Cf Bv xs k)/\∀ x ∈ es'.toList,IsKey d x.key:=by
 have hg:=Go.MapKept.run_getObj_map (P:=P) hb
 have hst:=fun o=>Go.MapKept.run_setObj_map (P:=P) o hb
 have hck:=fun e n=>Go.MapKept.run_checkKey (w:=w) hd hk e n
 rcases Jc hk es.toList xs 0 he hks with ⟨a1,_,a3,_,a5⟩ | ⟨j,f,a1,a2,a3,_,_,a6⟩
 · have hf:=Go.MapKept.run_findKey (w:=w) hd a1
   refine ⟨es,clock,by simp [Builtin.delete_,run_underlying hm,hg,hck,hf,hst,Result.andThen],hs,by rw [a5]; exact he,hks⟩
 · have hf:=Go.MapKept.run_findKey (w:=w) hd a1
   have hj:es[j]? = some f:=by simpa using a2
   have hlt:=(Array.getElem?_eq_some_iff.1 hj).1
   refine ⟨es.eraseIdxIfInBounds j,clock,by simp [Builtin.delete_,run_underlying hm,hg,hck,hf,hst,Result.andThen],stamped_erase hs _,?_,Qh hks j⟩
   unfold Eh at he ⊢
   unfold Array.eraseIdxIfInBounds
   rw [dif_pos hlt,a6,Array.toList_eraseIdx]
   have em:∀ {α β:Type} (g:α->β) (l:List α) (i:Nat),(l.eraseIdx i).map g=(l.map g).eraseIdx i:=by
     intro α β g l
     induction l with
     | nil=>intro i; rfl
     | cons x l ih=>intro i; cases i with
       | zero=>rfl
       | succ i=>simp only [List.eraseIdx_cons_succ,List.map_cons,ih]
   rw [em,he]
theorem FK (c:Bool)(hm:P.underlying mty=some (.map kt et))(hd:P.underlying kt=some d){z:Value}(hz:(zeroValue et).run P w=.ok z w)(hb:w.heap[r]? = some (.map es clock))(he:Eh es xs)(hks:∀ x ∈ es.toList,IsKey d x.key){k:Value}(hk:IsKey d k) :
   (Instr.lookup mty (.map (some r)) k c).run P w=.ok (if c then .tuple #[(BQ Bv xs k).getD z,.bool (BQ Bv xs k).isSome] else (BQ Bv xs k).getD z) w:=by
 have hg:=Go.MapKept.run_getObj_map (P:=P) hb
 have hst:=fun o=>Go.MapKept.run_setObj_map (P:=P) o hb
 have hck:=fun e n=>Go.MapKept.run_checkKey (w:=w) hd hk e n
 rcases Jc hk es.toList xs 0 he hks with ⟨a1,a2,_⟩ | ⟨j,f,a1,_,_,a4,_⟩
 · have hf:=Go.MapKept.run_findKey (w:=w) hd a1
   rw [a2]
   cases c <;> simp [Instr.lookup,run_underlying hm,hg,hck,hf,hz,Result.andThen]
 · have hf:=Go.MapKept.run_findKey (w:=w) hd a1
   rw [a4]
   cases c <;> simp [Instr.lookup,run_underlying hm,hg,hck,hf,Result.andThen]
end
section
variable {κ α:Type}{eq:κ->κ->Bool}{k:κ}
def Uq (eq:κ->κ->Bool)(k:κ)(l:List (κ × α)):Prop:=l.Pairwise fun x y=>¬ (eq x.1 k=true/\eq y.1 k=true)
theorem Uq.perm {l l':List (κ × α)}(h:Uq eq k l)(hp:l.Perm l'):Uq eq k l':=(hp.pairwise_iff (fun {x y} h q=>h ⟨q.2,q.1⟩)).1 h
theorem UM {l l':List (κ × α)}(hp:l.Perm l'):Uq eq k l->BQ eq l k=BQ eq l' k:=by
 induction hp with
 | nil=>intro _; rfl
 | cons x _ ih=>intro h; unfold BQ; rw [ih (List.pairwise_cons.1 h).2]
 | swap x y l =>
   intro h
   have h1:=(List.pairwise_cons.1 h).1 x (List.mem_cons_self ..)
   simp only [BQ]
   cases hx:eq x.1 k <;> cases hy:eq y.1 k <;> first | rfl | exact absurd ⟨hy,hx⟩ h1
 | trans h1 _ ih1 ih2=>intro h; rw [ih1 h,ih2 (h.perm h1)]
theorem set_perm (v:α) {l l':List (κ × α)} (hp:l.Perm l'):Uq eq k l->(Bw eq l k v).Perm (Bw eq l' k v):=by
 induction hp with
 | nil=>intro _; exact List.Perm.refl _
 | cons x hp ih =>
   intro h
   unfold Bw
   cases eq x.1 k with
   | true=>exact List.Perm.cons _ hp
   | false=>exact List.Perm.cons _ (ih (List.pairwise_cons.1 h).2)
 | swap x y l =>
   intro h
   have h1:=(List.pairwise_cons.1 h).1 x (List.mem_cons_self ..)
   simp only [Bw]
   cases hx:eq x.1 k with
   | false=>cases hy:eq y.1 k with
     | false=>exact List.Perm.swap _ _ _
     | true=>exact List.Perm.swap _ _ _
   | true=>cases hy:eq y.1 k with
     | false=>exact List.Perm.swap _ _ _
     | true=>exact absurd ⟨hy,hx⟩ h1
 | trans h1 _ ih1 ih2=>intro h; exact (ih1 h).trans (ih2 (h.perm h1))
theorem UF {l l':List (κ × α)} (hp:l.Perm l'):Uq eq k l->(Cf eq l k).Perm (Cf eq l' k):=by
 induction hp with
 | nil=>intro _; exact List.Perm.refl _
 | cons x hp ih =>
   intro h
   unfold Cf
   cases eq x.1 k with
   | true=>exact hp
   | false=>exact List.Perm.cons _ (ih (List.pairwise_cons.1 h).2)
 | swap x y l =>
   intro h
   have h1:=(List.pairwise_cons.1 h).1 x (List.mem_cons_self ..)
   simp only [Cf]
   cases hx:eq x.1 k with
   | false=>cases hy:eq y.1 k with
     | false=>exact List.Perm.swap _ _ _
     | true=>exact List.Perm.refl _
   | true=>cases hy:eq y.1 k with
     | false=>exact List.Perm.refl _
     | true=>exact absurd ⟨hy,hx⟩ h1
 | trans h1 _ ih1 ih2=>intro h; exact (ih1 h).trans (ih2 (h.perm h1))
end
theorem NJ {d:TypeDesc}{en:Array MapEntry}{clock:Nat}{xs:List (Value × Value)}(hs:Stamped en clock)(he:Eh en xs)(hks:∀ x ∈ en.toList,IsKey d x.key){k:Value}(hk:IsKey d k):Uq Bv k xs:=by
 have hn:en.toList.Pairwise fun x y=>x.key ≠ y.key:=by
   have:=hs.2.2
   simpa only [List.Nodup,List.pairwise_map] using this
 unfold Eh at he
 subst he
 unfold Uq
 rw [List.pairwise_map]
 refine (List.pairwise_iff_getElem.2 fun i j hi hj hij=>?_)
 have h1:=List.pairwise_iff_getElem.1 hn i j hi hj hij
 rintro ⟨h2,h3⟩
 have e1:=(NI (hks _ (List.getElem_mem hi)) hk).1 h2
 have e2:=(NI (hks _ (List.getElem_mem hj)) hk).1 h3
 exact h1 (e1.trans e2.symm)
theorem Fz {α:Type}:∀ {l:List α} {j:Nat} {a:α},l[j]? = some a->(a :: l.eraseIdx j).Perm l
 | [],j,a,h=>by simp at h
 | x :: l,0,a,h=>by
   simp only [List.getElem?_cons_zero,Option.some.injEq] at h
   subst h
   exact List.Perm.refl _
 | x :: l,j+1,a,h=>by
   rw [List.getElem?_cons_succ] at h
   rw [List.eraseIdx_cons_succ]
   exact (List.Perm.swap x a _).trans (List.Perm.cons x (Fz h))
section
variable {w:World}{F:Nat->Prop}{ag:Bool}
theorem Alike.cons {es:List (Value × List T)}{vs:List (Value × Value)}{k:Value}{r:List T}{v:Value}(h:Alike w F ag es vs)(hv:DN w F ag r v):Alike w F ag ((k,r) :: es) ((k,v) :: vs):=by
 refine ⟨by simp [h.1],fun i k' r' hi=>?_⟩
 cases i with
 | zero=>cases hi; exact ⟨v,rfl,hv⟩
 | succ i=>exact h.2 i k' r' (by simpa using hi)
theorem Alike.split {x:Value × List T}{es:List (Value × List T)}{vs:List (Value × Value)}(h:Alike w F ag (x :: es) vs):∃ v vs', vs=(x.1,v) :: vs' /\ DN w F ag x.2 v/\Alike w F ag es vs':=by
 cases vs with
 | nil=>simp [Alike] at h
 | cons y vs' =>
   obtain ⟨v,h1,h2⟩:=h.2 0 x.1 x.2 rfl
   cases h1
   exact ⟨v,vs', rfl,h2,by have:=h.1; simpa using this,fun i k r hi=>h.2 (i+1) k r (by simpa using hi)⟩
theorem Alike.nil:Alike w F ag [] []:=⟨rfl,fun i k r h=>by simp at h⟩
theorem Alike.set {k:Value}{r:List T}{v:Value}(hv:DN w F ag r v):∀ {es:List (Value × List T)} {vs:List (Value × Value)},Alike w F ag es vs->Alike w F ag (Bw Bv es k r) (Bw Bv vs k v)
 | [],vs,h=>by
   have:vs=[]:=by have:=h.1; simpa using this
   subst this
   exact Alike.nil.cons hv
 | x :: es,vs,h=>by
   obtain ⟨u,vs', rfl,h2,h3⟩:=h.split
   unfold Bw
   dsimp only
   cases Bv x.1 k with
   | true=>exact h3.cons hv
   | false=>exact (Alike.set hv h3).cons h2
theorem Alike.del {k:Value}:∀ {es:List (Value × List T)} {vs:List (Value × Value)},Alike w F ag es vs->Alike w F ag (Cf Bv es k) (Cf Bv vs k)
 | [],vs,h=>by
   have:vs=[]:=by have:=h.1; simpa using this
   subst this
   exact Alike.nil
 | x :: es,vs,h=>by
   obtain ⟨u,vs', rfl,h2,h3⟩:=h.split
   unfold Cf
   dsimp only
   cases Bv x.1 k with
   | true=>exact h3
   | false=>exact (Alike.del h3).cons h2
theorem Alike.get {k:Value}:∀ {es:List (Value × List T)} {vs:List (Value × Value)},Alike w F ag es vs->(BQ Bv es k=none/\BQ Bv vs k=none)\/∃ r v,BQ Bv es k=some r/\BQ Bv vs k=some v/\DN w F ag r v
 | [],vs,h=>by
   have:vs=[]:=by have:=h.1; simpa using this
   subst this
   exact .inl ⟨rfl,rfl⟩
 | x :: es,vs,h=>by
   obtain ⟨u,vs', rfl,h2,h3⟩:=h.split
   unfold BQ
   dsimp only
   cases Bv x.1 k with
   | true=>exact .inr ⟨x.2,u,rfl,rfl,h2⟩
   | false=>exact Alike.get h3
theorem Alike.erase {es:List (Value × List T)}{vs:List (Value × Value)}(h:Alike w F ag es vs)(j:Nat):Alike w F ag (es.eraseIdx j) (vs.eraseIdx j):=by
 have hl:=h.1
 refine ⟨by simp only [List.length_eraseIdx,hl],fun i k r hi=>?_⟩
 rw [List.getElem?_eraseIdx] at hi ⊢
 split at hi
 · rename_i hlt; rw [if_pos hlt]; exact h.2 i k r hi
 · rename_i hlt; rw [if_neg hlt]; exact h.2 (i+1) k r hi
theorem Alike.perm {es es':List (Value × List T)}(hp:es.Perm es'):∀ {vs:List (Value × Value)},Alike w F ag es vs->∃ vs', vs.Perm vs' /\ Alike w F ag es' vs':=by
 induction hp with
 | nil=>intro vs h; exact ⟨vs,List.Perm.refl _,h⟩
 | cons x _ ih =>
   intro vs h
   obtain ⟨v,vs', rfl,h2,h3⟩:=h.split
   obtain ⟨q,h4,h5⟩:=ih h3
   exact ⟨_,List.Perm.cons _ h4,h5.cons h2⟩
 | swap x y l =>
   intro vs h
   obtain ⟨v,vs', rfl,h2,h3⟩:=h.split
   obtain ⟨u,vs2,rfl,h4,h5⟩:=h3.split
   exact ⟨_,List.Perm.swap _ _ _,(h5.cons h2).cons h4⟩
 | trans _ _ ih1 ih2 =>
   intro vs h
   obtain ⟨q,h1,h2⟩:=ih1 h
   obtain ⟨q2,h3,h4⟩:=ih2 h2
   exact ⟨q2,h1.trans h3,h4⟩
end
theorem HQ {α:Type}{f:α->Nat}:∀ (L:List α) (j:Nat) (e:α),(L.map f).Nodup->L[j]? = some e->L.filter (fun x => !(f x == f e))=L.eraseIdx j
 | [],j,e,_,h=>by simp at h
 | x :: L,0,e,hn,h=>by
   cases h
   have hn':f x ∉ L.map f/\(L.map f).Nodup:=List.nodup_cons.1 hn
   rw [List.filter_cons,if_neg (by simp),List.eraseIdx_cons_zero,List.filter_eq_self]
   intro y hy
   simp only [Bool.not_eq_true', beq_eq_false_iff_ne,ne_eq]
   exact fun he=>hn'.1 (he ▸ List.mem_map.2 ⟨y,hy,rfl⟩)
 | x :: L,j+1,e,hn,h=>by
   have hn':f x ∉ L.map f/\(L.map f).Nodup:=List.nodup_cons.1 hn
   have he:L[j]? = some e:=by simpa using h
   have hne:f x ≠ f e:=fun q=>hn'.1 (q ▸ List.mem_map.2 ⟨e,List.mem_of_getElem? he,rfl⟩)
   rw [List.filter_cons,if_pos (by simpa using hne),List.eraseIdx_cons_succ,HQ L j e hn'.2 he]
theorem Qv {es:Array MapEntry}{clock:Nat}(hs:Stamped es clock){seen:Array Nat}{j:Nat}{e:MapEntry}(h:(leftOf es seen)[j]? = some e):(leftOf es (seen.push e.born)).toList=(leftOf es seen).toList.eraseIdx j:=by
 have e1:(leftOf es (seen.push e.born)).toList=(leftOf es seen).toList.filter (fun x => !(x.born == e.born)):=by
   unfold leftOf
   simp only [Array.toList_filter,List.filter_filter]
   refine List.filter_congr fun x _=>?_
   rw [contains_push]
   cases seen.contains x.born <;> cases (x.born == e.born) <;> rfl
 rw [e1]
 refine HQ (f:=(·.born)) _ j e ?_ (by rw [Array.getElem?_toList]; exact h)
 unfold leftOf
 rw [Array.toList_filter]
 exact (List.filter_sublist.map _).nodup hs.2.1
theorem To {P:Program} (w:World) (ty:TypeId) (c bm since c0:Nat) (seen:Array Nat) (es:Array MapEntry) (clock:Nat) (hc:w.heap[c]? = some (.mapIter (some bm) since seen c0)) (hb:w.heap[bm]? = some (.map es clock)) (hold:∀ x ∈ es.toList,x.born < since) (hsc:since<=c0) :
   ((leftOf es seen).size=0/\(Instr.next (.pointer (some ⟨c,0,none⟩)) false ty).run P w=.ok (.tuple #[.bool false]) w) \/
   ∃ (j:Nat) (e:MapEntry) (w1:World),(leftOf es seen)[j]? = some e/\(w1=w\/w1=w.drew)/\(Instr.next (.pointer (some ⟨c,0,none⟩)) false ty).run P w=.ok (.tuple #[.bool true,e.key,e.val]) { w1 with heap:=w1.heap.setIfInBounds c (.mapIter (some bm) since (seen.push e.born) clock) }:=by
 simp only [Instr.next,getObj,Sem.run_bind,Sem.run,hc,hb,Result.andThen,next_test_false seen es since c0 hold hsc,Bool.false_eq_true,if_false]
 unfold leftOf
 have hmem:∀ x ∈ (Array.filter (fun e => !seen.contains e.born) es).toList,x.born < since:=fun x hx=>hold x (by simp at hx ⊢; exact hx.1)
 generalize Array.filter (fun e => !seen.contains e.born) es=L at hmem ⊢
 have e1:L.filter (fun x=>decide (x.born < since))=L:=Array.filter_eq_self.2 (fun x hx=>by simpa using hmem x (by simpa using hx))
 have e2:L.filter (fun x=>decide (x.born >= since)) = #[]:=by
   rw [Array.filter_eq_empty_iff]
   intro x hx
   have:=hmem x (by simpa using hx)
   simp
   omega
 simp only [e1,e2,Array.append_empty]
 by_cases h0:L.size=0
 · left
   have:L = #[]:=Array.eq_empty_of_size_eq_zero h0
   subst this
   refine ⟨rfl,?_⟩
   simp [choose,Sem.run,Question.forced]
 · right
   have hne:L.isEmpty=false:=by simp [Array.isEmpty,h0]
   simp only [hne,Bool.false_eq_true,if_false,Array.empty_append,Array.size_map]
   have hch:∃ (j:Nat) (w1:World),j < L.size/\(w1=w\/w1=w.drew)/\(choose (Question.mapNext L.size)).run P w=.ok j w1:=by
     by_cases hf:L.size<=1
     · exact ⟨0,w,by omega,.inl rfl,by simp [choose,Sem.run,Question.forced,hf]⟩
     · exact ⟨_,w.drew,Nat.mod_lt _ (by omega),.inr rfl,by
         simp only [choose,Sem.run,Question.forced,decide_eq_true_eq,hf,if_false,Question.cut]
         rfl⟩
   obtain ⟨j,w1,hj,hal,hrun⟩:=hch
   refine ⟨j,L[j],w1,Array.getElem?_eq_getElem hj,hal,?_⟩
   have hc1:w1.heap[c]? = some (.mapIter (some bm) since seen c0):=by rcases hal with rfl | rfl <;> exact hc
   have hset:∀ (o':Obj),(setObj c o').run P w1=.ok () { w1 with heap:=w1.heap.setIfInBounds c o' }:=fun o'=>by
     simp only [setObj,Sem.run,hc1]
   simp only [hrun,Array.getElem?_map,Array.getElem?_eq_getElem hj,Option.map_some,Sem.run_bind,hset,Result.andThen]
   rfl
end Go.Proofs.YtobfoiomjfdjjaaDoor.Mc
namespace Go.Proofs.YtobfoiomjfdjjaaDoor.Mc
open Go.RowKit
variable [Mo]
section
variable {P:Program}{G:BA}{B:BB}{w w':World}{F:Nat->Prop}{loc:Nat->Option Loc}{s:AE}
theorem AK.ep (hS:AK G B w F loc s){o:Nat}{l:Loc}{x:O}(ho:loc o=some l)(hx:BZ w F loc (some x) l):AK G B w F loc (Ae s o (some (some x))):=by
 refine { hS with Cg:=fun o' obj h'=>?_,Fp:=fun o' l hl'=>?_ }
 · by_cases hod:o' = o
   · subst hod; rw [AA] at h'; cases h'; exact ⟨l,ho,hx⟩
   · rw [AJ _ _ hod] at h'; exact hS.Cg o' obj h'
 · by_cases hod:o' = o
   · subst hod; exact ⟨_,AA _ _ _⟩
   · rw [AJ _ _ hod]; exact hS.Fp o' l hl'
omit [Mo] in
theorem WE {α:Type}(f:Nat->α){i j:Nat}(h:i ≠ j)(a b:α):Ae (Ae f i a) j b=Ae (Ae f j b) i a:=by
 funext n
 by_cases h1:n=i
 · subst h1; rw [AJ _ _ h,AA,AA]
 · by_cases h2:n=j
   · subst h2; rw [AA,AJ _ _ h1,AA]
   · rw [AJ _ _ h2,AJ _ _ h1,AJ _ _ h1,AJ _ _ h2]
def mapOf:Option O->Option (TypeDesc × Bool × List (Value × List T))
 | some (.mp kd ag es)=>some (kd,ag,es)
 | some (.mq kd ag es _ _ _)=>some (kd,ag,es)
 | _=>none
theorem AK.YJ (hS:AK G B w F loc s){o:Nat}{kd:TypeDesc}{ag:Bool}{es:List (Value × List T)}(ho:mapOf (get s o)=some (kd,ag,es)):∃ b en clock vs,loc o=some (.Bo b)/\w.heap[b]? = some (.map en clock)/\HX w F kd ag es en clock vs:=by
 unfold mapOf at ho
 split at ho
 · rename_i hg
   cases ho
   obtain ⟨l,hl,hr⟩:=hS.Cg o _ (get_some hg)
   cases hr with
   | mp _ _ _ b en clock vs hb hm=>exact ⟨b,en,clock,vs,hl,hb,hm⟩
 · rename_i hg
   cases ho
   obtain ⟨l,hl,hr⟩:=hS.Cg o _ (get_some hg)
   cases hr with
   | mq _ _ _ _ _ _ b en clock vs _ _ _ _ _ hb hm=>exact ⟨b,en,clock,vs,hl,hb,hm⟩
   | Ph _ _ _ _ _ _ b en clock vs hb hm=>exact ⟨b,en,clock,vs,hl,hb,hm⟩
 · cases ho
variable {kd:TypeDesc}{ag:Bool}{es:List (Value × List T)}{mty kt et:TypeId}
theorem AK.ZN {o b:Nat} (hS:AK G B w F loc s) (hl:loc o=some (.Bo b)) (ho:s o=some (some (.mp kd ag es))) (hm:P.underlying mty=some (.map kt et)) (hd:P.underlying kt=some kd) {k:Value} (hk:Go.MapKept.IsKey kd k) {r:List T} {v:Value} (hv:DN w F ag r v) {es1:List (Value × List T)} (hp:(Bw Bv es k r).Perm es1) :
   ∃ w', (Instr.mapUpdate mty (.map (some b)) k v).run P w=.ok () w' /\ AK G B w' F loc (Ae s o (some (some (.mp kd ag es1))))/\Kept w F w' F:=by
 obtain ⟨l,hl2,hrel⟩:=hS.Cg o _ ho
 rw [hl] at hl2
 cases hl2
 cases hrel with
 | mp _ _ _ _ en clock vs hb hm' =>
   obtain ⟨v0,hpv,hen⟩:=hm'.LV
   obtain ⟨es', clock', h1,h2,h3,h4⟩:=FG hm hd hb hm'.st hen hm'.ks hk v
   have hset:=Go.MapKept.heap_set (o':=.map es' clock') hb
   have hk':Kept w F { w with heap:=w.heap.setIfInBounds b (.map es' clock') } F:=fun q hF=>⟨hF,hset.2 q (fun e=>(hS.own o _ b hl rfl).2.1 (e ▸ hF))⟩
   obtain ⟨vs1,hp1,hal⟩:=((hm'.al.mono hk').set (k:=k) (hv.mono hk')).perm hp
   obtain ⟨t1,t2⟩:=hS.turn (w':={ w with heap:=w.heap.setIfInBounds b (.map es' clock') }) (x:=.mp kd ag es1) hl rfl (by simp) rfl rfl rfl hset.2
     (.mp kd ag _ b es' clock' vs1 hset.1 ⟨h2,⟨_,(set_perm v hpv (NJ hm'.st hen hm'.ks hk)).trans hp1,h3⟩,hal,h4⟩) (fun m h=>by rw [ho] at h; cases h)
   exact ⟨_,h1,t1,t2⟩
theorem AK.Zn {o b:Nat} (hS:AK G B w F loc s) (hl:loc o=some (.Bo b)) (ho:s o=some (some (.mp kd ag es))) (ty:TypeId) (hm:P.underlying mty=some (.map kt et)) (hd:P.underlying kt=some kd) {k:Value} (hk:Go.MapKept.IsKey kd k) :
   ∃ w', (Builtin.delete_ #[mty,kt] ty #[.map (some b),k]).run P w=.ok (.tuple #[]) w' /\ AK G B w' F loc (Ae s o (some (some (.mp kd ag (Cf Bv es k)))))/\Kept w F w' F:=by
 obtain ⟨l,hl2,hrel⟩:=hS.Cg o _ ho
 rw [hl] at hl2
 cases hl2
 cases hrel with
 | mp _ _ _ _ en clock vs hb hm' =>
   obtain ⟨v0,hpv,hen⟩:=hm'.LV
   obtain ⟨es', clock', h1,h2,h3,h4⟩:=Ep ty hm hd hb hm'.st hen hm'.ks hk
   have hset:=Go.MapKept.heap_set (o':=.map es' clock') hb
   have hk':Kept w F { w with heap:=w.heap.setIfInBounds b (.map es' clock') } F:=fun q hF=>⟨hF,hset.2 q (fun e=>(hS.own o _ b hl rfl).2.1 (e ▸ hF))⟩
   obtain ⟨t1,t2⟩:=hS.turn (w':={ w with heap:=w.heap.setIfInBounds b (.map es' clock') }) (x:=.mp kd ag (Cf Bv es k)) hl rfl (by simp) rfl rfl rfl hset.2
     (.mp kd ag _ b es' clock' (Cf Bv vs k) hset.1 ⟨h2,⟨_,UF hpv (NJ hm'.st hen hm'.ks hk),h3⟩,(hm'.al.mono hk').del,h4⟩) (fun m h=>by rw [ho] at h; cases h)
   exact ⟨_,h1,t1,t2⟩
omit [Mo] in
theorem HX.look {b:Nat}{en:Array MapEntry}{clock:Nat}{vs:List (Value × Value)}(hb:w.heap[b]? = some (.map en clock))(h:HX w F kd ag es en clock vs)(c:Bool)(hm:P.underlying mty=some (.map kt et))(hd:P.underlying kt=some kd){z:Value}(hz:(zeroValue et).run P w=.ok z w){zr:List T}(hzr:DN w F ag zr z){k:Value}(hk:Go.MapKept.IsKey kd k) :
   ∃ v,(Instr.lookup mty (.map (some b)) k c).run P w=.ok (if c then .tuple #[v,.bool (BQ Bv es k).isSome] else v) w/\DN w F ag ((BQ Bv es k).getD zr) v:=by
 obtain ⟨v0,hpv,hen⟩:=h.LV
 have hrun:=FK c hm hd hz hb hen h.ks hk
 rw [UM hpv (NJ h.st hen h.ks hk)] at hrun
 rcases h.al.get (k:=k) with ⟨g1,g2⟩ | ⟨r,v,g1,g2,g3⟩
 · rw [g2] at hrun
   rw [g1]
   exact ⟨z,hrun,hzr⟩
 · rw [g2] at hrun
   rw [g1]
   exact ⟨v,hrun,g3⟩
omit [Mo] in
theorem Io (t:TypeId):(Instr.makeMap t none).run P w=.ok (.map (some w.heap.size)) (w.alloc (.map #[] 0)):=rfl
omit [Mo] in
theorem PX (kd:TypeDesc)(ag:Bool){loc':Nat->Option Loc}:BZ (w.alloc (.map #[] 0)) F loc' (some (.mp kd ag [])) (.Bo w.heap.size) :=
 .mp kd ag [] w.heap.size #[] 0 [] (Go.MapKept.heap_alloc w _).1 ⟨Go.MapKept.stamped_empty 0,⟨[],List.Perm.refl _,rfl⟩,Alike.nil,fun x hx=>by simp at hx⟩
theorem AK.ZE {d:Nat}(hS:AK G B w F loc s)(hd:s d=none)(kd:TypeDesc)(ag:Bool) :
   AK G B (w.alloc (.map #[] 0)) F (Ae loc d (some (.Bo w.heap.size))) (Ae s d (some (some (.mp kd ag [])))) :=
 hS.alloc hd (PX kd ag)
omit [Mo] in
theorem EY.nil {vs:List (Value × Value)}(h:EY w F loc [] vs):vs=[]:=by
 cases vs with
 | nil=>rfl
 | cons p l=>have:=h.1; simp [KS] at this
omit [Mo] in
theorem EY.two {a c:V} {vs:List (Value × Value)} (h:EY w F loc [a,c] vs):∃ k v,vs=[(k,v)]/\AF w F loc a k/\k.oneCell' = true/\AF w F loc c v/\v.oneCell' = true:=by
 cases vs with
 | nil=>have:=h.1; simp [KS] at this
 | cons p l =>
   cases l with
   | nil =>
     obtain ⟨k,v⟩:=p
     obtain ⟨u,h1,h2,h3⟩:=h.2 0 a rfl
     obtain ⟨u2,h4,h5,h6⟩:=h.2 1 c rfl
     cases h1
     cases h4
     exact ⟨_,_,rfl,h3,h2,h6,h5⟩
   | cons q l=>have:=h.1; simp [KS] at this
omit [Mo] in
theorem EY.cons {a c:V}{k v:Value}{xs:List V}{vs:List (Value × Value)}(h:EY w F loc xs vs)(ha:AF w F loc a k)(hk:k.oneCell' = true)(hc:AF w F loc c v)(hv:v.oneCell' = true):EY w F loc (a :: c :: xs) ((k,v) :: vs):=by
 refine ⟨by simp only [List.length_cons,KS,h.1],fun j x hj=>?_⟩
 match j,hj with
 | 0,hj=>cases hj; exact ⟨k,rfl,hk,ha⟩
 | 1,hj=>cases hj; exact ⟨v,rfl,hv,hc⟩
 | j+2,hj=>exact h.2 j x (by simpa using hj)
omit [Mo] in
theorem EY.none:EY w F loc [] []:=⟨rfl,fun j x h=>by simp at h⟩
theorem AK.ZS (hS:AK G B w F loc s){o:Nat}{e:TypeId}{xs:List V}(ho:s o=some (some (.bx e xs)))(he:Nat.blt e 3000000=false) :
   ∃ b en clock vs,loc o=some (.Bo b)/\w.heap[b]? = some (.map en clock)/\Go.MapKept.Stamped en clock/\Eh en vs/\(∀ x ∈ en.toList,Go.MapKept.IsKey (.int .i64) x.key)/\EY w F loc xs vs:=by
 obtain ⟨l,hl,hr⟩:=hS.Cg o _ ho
 cases hr with
 | bx _ _ _ _ h0=>rw [he] at h0; cases h0
 | ms _ _ b en clock vs _ hb hs hen hks hr=>exact ⟨b,en,clock,vs,hl,hb,hs,hen,hks,hr⟩
theorem AK.Uw (hS:AK G B w F loc s){o b:Nat}{e:TypeId}{xs:List V}{en:Array MapEntry}{clock:Nat}(hl:loc o=some (.Bo b))(ho:s o=some (some (.bx e xs)))(he:Nat.blt e 3000000=false)(hb:w.heap[b]? = some (.map en clock))
   {es':Array MapEntry} {clock':Nat} {vs':List (Value × Value)} {xs':List V} (h2:Go.MapKept.Stamped es' clock') (h3:Eh es' vs') (h4:∀ x ∈ es'.toList,Go.MapKept.IsKey (.int .i64) x.key) (hr:EY w F loc xs' vs') :
   AK G B { w with heap:=w.heap.setIfInBounds b (.map es' clock') } F loc (Ae s o (some (some (.bx e xs'))))/\Kept w F { w with heap:=w.heap.setIfInBounds b (.map es' clock') } F:=by
 have hset:=Go.MapKept.heap_set (o':=.map es' clock') hb
 have hk':Kept w F { w with heap:=w.heap.setIfInBounds b (.map es' clock') } F:=fun q hF=>⟨hF,hset.2 q (fun e=>(hS.own o _ b hl rfl).2.1 (e ▸ hF))⟩
 exact hS.turn (w':={ w with heap:=w.heap.setIfInBounds b (.map es' clock') }) (x:=.bx e xs') hl rfl (by simp) rfl rfl rfl hset.2
   (.ms e xs' b es' clock' vs' he hset.1 h2 h3 h4 (hr.mono hk' (Ak.refl _))) (fun m h=>by rw [ho] at h; cases h)
omit [Mo] in
theorem Pl {loc':Nat->Option Loc}:BZ (w.alloc (.map #[] 0)) F loc' (some (.bx 3000000 [])) (.Bo w.heap.size) :=
 .ms 3000000 [] w.heap.size #[] 0 [] rfl (Go.MapKept.heap_alloc w _).1 (Go.MapKept.stamped_empty 0) rfl (fun x hx=>by simp at hx) EY.none
omit [Mo] in
theorem TH (en:Array MapEntry):leftOf en #[]=en:=by
 unfold leftOf
 exact Array.filter_eq_self.2 fun x _=>by simp
theorem AK.mapRange {o d:Nat} (hS:AK G B w F loc s) (ho:s o=some (some (.mp kd ag es))) (hd:s d=none) (hm:P.underlying mty=some (.map kt et)) :
   ∃ b,loc o=some (.Bo b)/\(Instr.range mty (.map (some b))).run P w=.ok (.pointer (some ⟨w.heap.size,0,none⟩)) (w.alloc (.mapIter (some b) (match w.heap[b]? with | some (.map _ c)=>c | _=>0) #[] (match w.heap[b]? with | some (.map _ c)=>c | _=>0))) /\
     AK G B (w.alloc (.mapIter (some b) (match w.heap[b]? with | some (.map _ c)=>c | _=>0) #[] (match w.heap[b]? with | some (.map _ c)=>c | _=>0))) F (Ae loc d (some (.Bo w.heap.size))) (Ae (Ae s o (some (some (.mq kd ag es d es [])))) d (some (some (.mi o)))):=by
 obtain ⟨l,hl,hrel⟩:=hS.Cg o _ ho
 cases hrel with
 | mp _ _ _ b en clock vs hb hm' =>
   have hod:o ≠ d:=by rintro rfl; rw [ho] at hd; cases hd
   have e0:(match w.heap[b]? with | some (.map _ c)=>c | _=>0)=clock:=by rw [hb]
   refine ⟨b,hl,by rw [e0]; exact run_range_map w mty kt et b en clock hm hb,?_⟩
   rw [e0]
   have hS1:=hS.alloc (ob:=.mapIter (some b) clock #[] clock) (x:=.mi o) hd (.mi o _ b clock clock #[] (heap_alloc_new w _))
   have hbl:b < w.heap.size:=(hS.own o _ b hl rfl).1
   have hk:=CM hS (.mapIter (some b) clock #[] clock)
   rw [WE s hod]
   refine hS1.ep (o:=o) (l:=.Bo b) (by rw [AJ _ _ hod]; exact hl) ?_
   refine .mq kd ag es d es [] b en clock vs vs w.heap.size clock clock #[] (by rw [heap_alloc_old w _ hbl]; exact hb) (hm'.mono hk) (AA _ _ _) (heap_alloc_new w _) ⟨Nat.le_refl _,Nat.le_refl _,hm'.st.1,by rw [TH]; exact hm'.LV,hm'.al.mono hk,[],Alike.nil,fun k v h=>by simp at h⟩
theorem AK.mapNext {o i m0:Nat} {rest cu:List (Value × List T)} (hS:AK G B w F loc s) (ho:s o=some (some (.mq kd ag es i rest cu))) (hi:s i=some (some (.mi m0))) (ty:TypeId) {v:Value} (hv:AF w F loc (.it i) v) :
   (rest=[]/\(Instr.next v false ty).run P w=.ok (.tuple #[.bool false]) w/\AK G B w F loc (Ae s o (some (some (.mp kd ag es))))) \/
   ∃ j k r v1 w1,rest[j]? = some (k,r)/\(Instr.next v false ty).run P w=.ok (.tuple #[.bool true,k,v1]) w1/\DN w1 F ag r v1/\Go.MapKept.IsKey kd k/\AK G B w1 F loc (Ae s o (some (some (.mq kd ag es i (rest.eraseIdx j) [(k,r)]))))/\Kept w F w1 F:=by
 obtain ⟨l,hl,hrel⟩:=hS.Cg o _ ho
 obtain ⟨li,hli,hreli⟩:=hS.Cg i _ hi
 have hoi:o ≠ i:=by rintro rfl; rw [ho] at hi; cases hi
 cases hrel with
 | Ph _ _ _ _ _ _ b en clock vs hb hm hg =>
   rw [hli] at hg; cases hg; cases hreli
 | mq _ _ _ _ _ _ b en clock vs vr c since c0 seen hb hm hc0 hc hok =>
   have hv':v=.pointer (some ⟨c,0,none⟩):=by
     cases hv with
     | gone _ o' _ hx hg=>cases hx; rw [hc0] at hg; cases hg
     | it _ b' hb'=>rw [hc0] at hb'; cases hb'; rfl
   subst hv'
   obtain ⟨vr0,hpr,henr⟩:=hok.LV
   have hsz:=henr.size
   have hlp:=hpr.length_eq
   have hlr:=hok.al.1
   rcases To (P:=P) w ty c b since c0 seen en clock hc hb hok.Hd hok.sc with ⟨h0,hrun⟩ | ⟨j,e,w1,hj,hw1,hrun⟩
   · refine .inl ⟨List.eq_nil_of_length_eq_zero (by omega),hrun,hS.ep hl (.mp kd ag es b en clock vs hb hm)⟩
   · right
     have hjl:j < (leftOf en seen).size:=(Array.getElem?_eq_some_iff.1 hj).1
     have hvr0:vr0[j]? = some (e.key,e.val):=by
       have:=congrArg (fun l=>l[j]?) henr
       simp only [List.getElem?_map,Array.getElem?_toList,hj,Option.map_some] at this
       exact this.symm
     obtain ⟨j0,hvr⟩:=List.getElem?_of_mem (hpr.mem_iff.1 (List.mem_of_getElem? hvr0))
     have hpe:(vr0.eraseIdx j).Perm (vr.eraseIdx j0):=(((Fz hvr0).trans hpr).trans (Fz hvr).symm).cons_inv
     have hjr:j0 < rest.length:=by have:=(List.getElem?_eq_some_iff.1 hvr).1; omega
     obtain ⟨u,hu,hmv⟩:=hok.al.2 j0 rest[j0].1 rest[j0].2 (List.getElem?_eq_getElem hjr)
     rw [hvr] at hu
     have hkey:e.key=rest[j0].1:=by injection hu with hu; exact (Prod.mk.inj hu).1
     have hval:e.val=u:=by injection hu with hu; exact (Prod.mk.inj hu).2
     have hem:e ∈ (leftOf en seen).toList:=by rw [<- Array.getElem?_toList] at hj; exact List.mem_of_getElem? hj
     have hen:=(mem_left hem).1
     have hS1:AK G B w1 F loc s:=by
       rcases hw1 with rfl | rfl
       · exact hS
       · exact MU hS
     have hk1:Kept w F w1 F:=by
       rcases hw1 with rfl | rfl
       · exact Kept.refl _ _
       · exact fun q hF=>⟨hF,rfl⟩
     have hc1:w1.heap[c]? = some (.mapIter (some b) since seen c0):=by rcases hw1 with rfl | rfl <;> exact hc
     have hb1:w1.heap[b]? = some (.map en clock):=by rcases hw1 with rfl | rfl <;> exact hb
     have hset:=Go.MapKept.heap_set (o':=.mapIter (some b) since (seen.push e.born) clock) hc1
     have hbc:b ≠ c:=by rintro rfl; rw [hb] at hc; cases hc
     let w2:World:={ w1 with heap:=w1.heap.setIfInBounds c (.mapIter (some b) since (seen.push e.born) clock) }
     have hk2:Kept w1 F w2 F:=fun q hF=>⟨hF,hset.2 q (fun eq=>(hS1.own i _ c hc0 rfl).2.1 (eq ▸ hF))⟩
     have hk3:=hk1.trans hk2
     have hSg:AK G B w1 F loc (Ae s o (some (some (.mp kd ag es)))):=hS1.ep hl (.mp kd ag es b en clock vs hb1 (hm.mono hk1))
     obtain ⟨t1,_⟩:=hSg.ZU (w':=w2) (o:=i) (b:=c) (l:=.Bo c) (x:=.mi m0) hc0 rfl (by simp [w2]) rfl rfl rfl hset.2 (.mi m0 c b since clock (seen.push e.born) hset.1) (fun o' kd' ag' es' i' rest' cu' ho'=>by
       by_cases hoo:o' = o
       · subst hoo; rw [AA] at ho'; cases ho'
       · rw [AJ _ _ hoo] at ho'
         rintro rfl
         obtain ⟨l2,hl2,hr2⟩:=hS.Cg o' _ ho'
         cases hr2 with
         | Ph _ _ _ _ _ _ _ _ _ _ _ _ hg=>rw [hc0] at hg; cases hg
         | mq _ _ _ _ _ _ b2 _ _ _ _ c2 _ _ _ _ _ hi2 hc2 _ =>
           rw [hc0] at hi2
           cases hi2
           rw [hc] at hc2
           cases hc2
           exact hoo (hS.inj o' o _ _ b hl2 hl rfl rfl))
     refine ⟨j0,rest[j0].1,rest[j0].2,e.val,w2,List.getElem?_eq_getElem hjr,by rw [<- hkey]; exact hrun,by rw [hval]; exact hmv.mono hk3,by rw [<- hkey]; exact hm.ks e hen,?_,hk3⟩
     have t2:=t1.ep (o:=o) (l:=.Bo b) hl (x:=.mq kd ag es i (rest.eraseIdx j0) [(rest[j0].1,rest[j0].2)]) (.mq kd ag es i _ _ b en clock vs (vr.eraseIdx j0) c since clock (seen.push e.born) (by rw [hset.2 b hbc]; exact hb1) (hm.mono hk3) hc0 hset.1
       ⟨hok.sk,hok.sk,hok.Hd,⟨_,hpe,?_⟩,(hok.al.erase j0).mono hk3,[(rest[j0].1,e.val)],⟨rfl,fun i k r hi=>?_⟩,fun k v hkv=>?_⟩)
     · have e2:∀ (y:Option (Option O)) (z:Option (Option O)) (q:Option (Option O)),Ae (Ae (Ae s o y) i z) o q=Ae (Ae s i z) o q:=by
         intro y z q
         funext n
         by_cases h1:n=o
         · subst h1; rw [AA,AA]
         · rw [AJ _ _ h1,AJ _ _ h1]
           by_cases h2:n=i
           · subst h2; rw [AA,AA]
           · rw [AJ _ _ h2,AJ _ _ h2,AJ _ _ h1]
       rw [e2] at t2
       have e3:Ae s i (some (some (.mi m0)))=s:=by
         funext n
         by_cases h2:n=i
         · subst h2; rw [AA,hi]
         · rw [AJ _ _ h2]
       rw [e3] at t2
       exact t2
     · show List.map _ _=_
       have:=henr
       unfold Eh at this
       rw [Qv hm.st hj,<- this]
       have em:∀ {α β:Type} (g:α->β) (l:List α) (i:Nat),(l.eraseIdx i).map g=(l.map g).eraseIdx i:=by
         intro α β g l
         induction l with
         | nil=>intro i; rfl
         | cons x l ih=>intro i; cases i with
           | zero=>rfl
           | succ i=>simp only [List.eraseIdx_cons_succ,List.map_cons,ih]
       exact em _ _ _
     · cases i with
       | zero=>cases hi; exact ⟨e.val,rfl,by rw [hval]; exact hmv.mono hk3⟩
       | succ i=>simp at hi
     · simp only [List.getElem?_cons_zero,Option.some.injEq,Prod.mk.injEq] at hkv
       obtain ⟨rfl,rfl⟩:=hkv
       exact ⟨rfl,e,hen,by simp,hkey,rfl⟩
theorem AK.mapEntry {o i m0:Nat} {rest cu:List (Value × List T)} {k:Value} {r:List T} (hS:AK G B w F loc s) (ho:s o=some (some (.mq kd ag es i rest cu))) (hi:s i=some (some (.mi m0))) (hcu:cu=[(k,r)]) {v:Value} (hv:AF w F loc (.it i) v) :
   ∃ v1,(Instr.entry v).run P w=.ok (.tuple #[k,v1]) w/\DN w F ag r v1:=by
 subst hcu
 obtain ⟨l,hl,hrel⟩:=hS.Cg o _ ho
 obtain ⟨li,hli,hreli⟩:=hS.Cg i _ hi
 cases hrel with
 | Ph _ _ _ _ _ _ b en clock vs hb hm hg =>
   rw [hli] at hg; cases hg; cases hreli
 | mq _ _ _ _ _ _ b en clock vs vr c since c0 seen hb hm hc0 hc hok =>
   have hv':v=.pointer (some ⟨c,0,none⟩):=by
     cases hv with
     | gone _ o' _ hx hg=>cases hx; rw [hc0] at hg; cases hg
     | it _ b' hb'=>rw [hc0] at hb'; cases hb'; rfl
   subst hv'
   obtain ⟨vc,ha,hcur⟩:=hok.cur
   obtain ⟨v1,h1,h2⟩:=ha.2 0 k r rfl
   obtain ⟨rfl,e,hen,hback,hkey,hval⟩:=hcur k v1 h1
   have hf:en.find? (·.born == e.born)=some e:=by rw [<- Array.find?_toList]; exact find_born e en.toList hm.st.2.1 hen
   refine ⟨v1,?_,h2⟩
   simp only [Instr.entry,getObj,Sem.run_bind,Sem.run,hc,hb,Result.andThen,hback,bne_self_eq_false,Bool.false_eq_true,if_false,hf,hkey,hval]
   rfl
end
end Go.Proofs.YtobfoiomjfdjjaaDoor.Mc
namespace Go.Proofs.YtobfoiomjfdjjaaDoor.Mc
open Go.RowKit
variable [Mo]
def Row.eq? : (a b:Row)->Option (PLift (a=b))
 | .nil,.nil=>some ⟨rfl⟩
 | .int k r,.int k' r'=>if h:k=k' then (match Row.eq? r r' with | some g=>some ⟨by rw [h,g.down]⟩ | none=>none) else none
 | .bool r,.bool r'=>match Row.eq? r r' with | some g=>some ⟨by rw [g.down]⟩ | none=>none
 | .str r,.str r'=>match Row.eq? r r' with | some g=>some ⟨by rw [g.down]⟩ | none=>none
 | .sl e r,.sl e' r'=>match Row.eq? e e', Row.eq? r r' with | some f,some g=>some ⟨by rw [f.down,g.down]⟩ | _,_=>none
 | _,_=>none
inductive LG where
 | s
 | i (k:IntKind)
 deriving DecidableEq
def LG.den:LG->Type
 | .s=>ByteArray
 | .i _=>Int
def LG.val:(t:LG)->t.den->Value
 | .s,b=>.string b
 | .i k,n=>.int k n
def LG.desc:LG->TypeDesc
 | .s=>.string
 | .i k=>.int k
def Lk (a b:ByteArray):Bool:=a.toList == b.toList
def aD (a b:Int):Bool:=a == b
def LG.Bv:(t:LG)->t.den->t.den->Bool
 | .s=>Lk
 | .i _=>aD
def LG.eq? : (a b:LG)->Option (PLift (a=b))
 | .s,.s=>some ⟨rfl⟩
 | .i k,.i k'=>if h:k=k' then some ⟨by rw [h]⟩ else none
 | _,_=>none
structure MT where
 kt:LG
 ag:Bool
 r:Row
abbrev MT.den (t:MT):Type:=List (t.kt.den × t.r.den)
def Ra {α:Type}(k:Int)(v:α):List (Int × α)->List (Int × α)
 | []=>[(k,v)]
 | x :: l=>cond (decide (k < x.1)) ((k,v) :: x :: l) (x :: Ra k v l)
def VL {α:Type}(es:List (Int × α))(k:Int)(v:α):List (Int × α):=cond (BQ aD es k).isSome (Bw aD es k v) (Ra k v es)
def MT.put:(t:MT)->t.den->t.kt.den->t.r.den->t.den
 | ⟨.s,_,_⟩,es,k,y=>Bw Lk es k y
 | ⟨.i _,_,_⟩,es,k,y=>VL es k y
def MT.eq? : (a b:MT)->Option (PLift (a=b))
 | ⟨k,g,r⟩,⟨k', g', r'⟩=>match LG.eq? k k', Row.eq? r r' with
   | some h,some h'=>if e:g=g' then some ⟨by rw [h.down,h'.down,e]⟩ else none
   | _,_=>none
def MT.en (t:MT)(es:t.den):List (Value × List T):=List.map (fun p=>(t.kt.val p.1,t.r.en p.2)) es
inductive X where
 | i (k:IntKind) (n:Int)
 | b (q:Bool)
 | s (s:ByteArray)
 | c (v:Value)
 | fz (nl:Nl) (r:Row) (xs:List r.den)
 | sl (nl:Nl) (o:Nat)
 | sw (o off len:Nat)
 | pt (o off:Nat)
 | pe (o i off:Nat)
 | pf (r:Row) (x:r.den) (off:Nat)
 | mp (o:Nat)
 | it (o:Nat)
 | sp (o:Nat)
 | fn (f:FuncId) (caps:List X)
 | ag (cells:List X)
 | tp (l:List X)
 | BE (t:TypeId) (x:X)
 | dead
 deriving Inhabited
mutual
def X.enc:X->V
 | .i k n=>.t (.sc (.int k n))
 | .b q=>.t (.sc (.bool q))
 | .s s=>.t (.sc (.string s))
 | .c v=>if plain v then .t (.sc v) else .dead
 | .fz nl r xs=>.t (.fz nl (xs.map r.en))
 | .sl nl o=>.sl nl o
 | .sw o off len=>.sw o off len
 | .pt o off=>.pt o off
 | .pe o i off=>.pe o i off
 | .pf r x off=>.pf (r.en x) off
 | .mp o=>.mp o
 | .it o=>.it o
 | .sp o=>.sp o
 | .fn f caps=>.fn f (Bp caps)
 | .ag cells=>.ag (Bp cells)
 | .tp l=>.tp (Bp l)
 | .BE t x=>.BE t x.enc
 | .dead=>.dead
def Bp:List X->List V
 | []=>[]
 | x :: xs=>x.enc :: Bp xs
end
omit [Mo] in
theorem Aa:∀ (xs:List X),Bp xs=xs.map X.enc
 | []=>rfl
 | x :: xs=>by rw [Bp,Aa xs]; rfl
def Row.cells:(r:Row)->r.den->List X
 | .nil,_=>[]
 | .int k r,x=>.i k (Gk r x) :: r.cells (Gj r x)
 | .bool r,x=>.b (Gk r x) :: r.cells (Gj r x)
 | .str r,x=>.s (Gk r x) :: r.cells (Gj r x)
 | .sl e r,x=>.fz .u e (Gk r x) :: r.cells (Gj r x)
omit [Mo] in
theorem Row.Br:∀ (r:Row) (x:r.den),(r.cells x).map X.enc=(r.en x).map .t
 | .nil,_=>rfl
 | .int _ r,x=>by simp [Row.cells,Row.en,Row.Br r,X.enc]
 | .bool r,x=>by simp [Row.cells,Row.en,Row.Br r,X.enc]
 | .str r,x=>by simp [Row.cells,Row.en,Row.Br r,X.enc]
 | .sl _ r,x=>by simp [Row.cells,Row.en,Row.Br r,X.enc]
def Cv:Value->Bool
 | .slice none 0 0=>true
 | _=>false
omit [Mo] in
theorem CR {v:Value}(h:Cv v=true):v=.slice none 0 0:=by
 unfold Cv at h
 split at h
 · rfl
 · cases h
def Row.Az:(r:Row)->List X->Option r.den
 | .nil,[]=>some ()
 | .int k r,.i k' n :: xs=>if k=k' then (match r.Az xs with | some y=>some (JL r n y) | none=>none) else none
 | .bool r,.b q :: xs=>match r.Az xs with | some y=>some (JL r q y) | none=>none
 | .str r,.s q :: xs=>match r.Az xs with | some y=>some (JL r q y) | none=>none
 | .sl e r,.fz _ e' ys :: xs=>match Row.eq? e' e,r.Az xs with | some h,some y=>some (JL r (h.down ▸ ys) y) | _,_=>none
 | .sl e r,.c v :: xs=>if Cv v then (match r.Az xs with | some y=>some (JL r ([]:List e.den) y) | none=>none) else none
 | _,_=>none
mutual
inductive KI:T->T->Prop where
 | refl (x:T):KI x x
 | fz (nl:Nl) (rows:List (List T)):KI (.fz nl rows) (.fz .u rows)
 | nil:KI (.sc (.slice none 0 0)) (.fz .u [])
end
inductive BK:List T->List T->Prop where
 | nil:BK [] []
 | cons (x y:T) (xs ys:List T) (h:KI x y) (hs:BK xs ys):BK (x :: xs) (y :: ys)
omit [Mo] in
theorem KI.rel {w:World}{F:Nat->Prop}{x y:T}{v:Value}(h:KI x y)(k:BG w F x v):BG w F y v:=by
 cases h with
 | refl=>exact k
 | fz nl rows=>exact Tf k
 | nil=>cases k; exact .nil .u (by simp)
omit [Mo] in
theorem Row.BS:∀ (r:Row) (xs:List X) (y:r.den),r.Az xs=some y->∃ ts,Gq (xs.map X.enc)=some ts/\BK ts (r.en y)
 | .nil,[],y,_=>⟨[],rfl,.nil⟩
 | .int k r,.i k' n :: xs,y,h=>by
   unfold Row.Az at h
   split at h
   · rename_i hk
     split at h
     · rename_i z hz
       cases h
       obtain ⟨ts,h1,h2⟩:=Row.BS r xs z hz
       refine ⟨.sc (.int k' n) :: ts,by simp [Gq,X.enc,Yx,h1],?_⟩
       subst hk
       show BK _ (T.sc (.int k (Gk r (JL r n z))) :: r.en (Gj r (JL r n z)))
       rw [Ca,Bz]; exact .cons _ _ _ _ (.refl _) h2
     · cases h
   · cases h
 | .bool r,.b q :: xs,y,h=>by
   unfold Row.Az at h
   split at h
   · rename_i z hz
     cases h
     obtain ⟨ts,h1,h2⟩:=Row.BS r xs z hz
     refine ⟨.sc (.bool q) :: ts,by simp [Gq,X.enc,Yx,h1],?_⟩
     show BK _ (T.sc (.bool (Gk r (JL r q z))) :: r.en (Gj r (JL r q z)))
     rw [Ca,Bz]; exact .cons _ _ _ _ (.refl _) h2
   · cases h
 | .str r,.s q :: xs,y,h=>by
   unfold Row.Az at h
   split at h
   · rename_i z hz
     cases h
     obtain ⟨ts,h1,h2⟩:=Row.BS r xs z hz
     refine ⟨.sc (.string q) :: ts,by simp [Gq,X.enc,Yx,h1],?_⟩
     show BK _ (T.sc (.string (Gk r (JL r q z))) :: r.en (Gj r (JL r q z)))
     rw [Ca,Bz]; exact .cons _ _ _ _ (.refl _) h2
   · cases h
 | .sl e r,.fz nl e' ys :: xs,y,h=>by
   unfold Row.Az at h
   split at h
   · rename_i g z _ hz
     cases h
     obtain ⟨ts,h1,h2⟩:=Row.BS r xs z hz
     obtain ⟨rfl⟩:=g
     refine ⟨.fz nl (ys.map (Row.en _)) :: ts,by simp [Gq,X.enc,Yx,h1],?_⟩
     show BK _ (T.fz .u ((Gk r (JL r ys z)).map (Row.en _)) :: r.en (Gj r (JL r ys z)))
     rw [Ca,Bz]; exact .cons _ _ _ _ (.fz _ _) h2
   · cases h
 | .sl e r,.c v :: xs,y,h=>by
   unfold Row.Az at h
   split at h
   · rename_i hn
     split at h
     · rename_i z hz
       cases h
       obtain ⟨ts,h1,h2⟩:=Row.BS r xs z hz
       obtain rfl:=CR hn
       refine ⟨.sc (.slice none 0 0) :: ts,by simp [Gq,X.enc,Yx,h1,plain],?_⟩
       show BK _ (T.fz .u ((Gk r (JL r ([]:List e.den) z)).map e.en) :: r.en (Gj r (JL r ([]:List e.den) z)))
       rw [Ca,Bz]; exact .cons _ _ _ _ .nil h2
     · cases h
   · cases h
inductive XO where
 | ar (e:TypeId) (r:Row) (xs:List r.den)
 | bx (e:TypeId) (cells:List X)
 | mp (t:MT) (es:t.den)
 | mq (t:MT) (es:t.den) (i:Nat) (rest cu:t.den)
 | si (s:ByteArray) (pos:Nat)
 | mi (m:Nat)
def XO.enc:XO->O
 | .ar e r xs=>.ar e r.len (xs.map r.en)
 | .bx e cells=>.bx e (Bp cells)
 | .mp t es=>.mp t.kt.desc t.ag (t.en es)
 | .mq t es i rest cu=>.mq t.kt.desc t.ag (t.en es) i (t.en rest) (t.en cu)
 | .si s pos=>.si s pos
 | .mi m=>.mi m
abbrev XS:=List (Nat × Option XO)
abbrev XT:=List (Nat × X)
def lk {α:Type}:List (Nat × α)->Nat->Option α
 | [],_=>none
 | (i,a) :: l,n=>cond (Nat.beq i n) (some a) (lk l n)
structure XE where
 t:XT
 s:XS
 n:Nat
 a:List Nat
structure Aw where
 t:XT
 s:XS
def CN (t:XT):Nat->V:=fun i=>match lk t i with | some x=>x.enc | none=>.dead
def encS (s:XS):AE:=fun o=>match lk s o with | some x=>some (x.map XO.enc) | none=>none
def AH (E:XE)(st:Aw):St:=⟨CN (st.t ++ E.t),encS (st.s ++ E.s),E.n,E.a⟩
omit [Mo] in
theorem AR {α:Type}:∀ (l k:List (Nat × α)) (n:Nat),lk (l ++ k) n=match lk l n with | some x=>some x | none=>lk k n
 | [],k,n=>rfl
 | (i,a) :: l,k,n=>by
   rw [List.cons_append,lk,lk]
   cases Nat.beq i n
   · exact AR l k n
   · rfl
omit [Mo] in
theorem IE (t:XT)(d:Nat)(x:X):CN ((d,x) :: t)=Ae (CN t) d x.enc:=by
 funext i
 unfold CN Ae
 rw [lk]
 by_cases h:Nat.beq d i=true
 · have e:=Nat.eq_of_beq_eq_true h; subst e; simp
 · have h1:Nat.beq d i=false:=by rwa [Bool.not_eq_true] at h
   have h2:Nat.beq i d=false:=by rw [<- Bool.not_eq_true,Nat.beq_eq]; rintro rfl; simp at h
   rw [h1,h2]; rfl
def over (s:AE):XS->AE
 | []=>s
 | (o,x) :: u=>Ae (over s u) o (some (x.map XO.enc))
omit [Mo] in
theorem EN:∀ (u s:XS),encS (u ++ s)=over (encS s) u
 | [],s=>rfl
 | (o,x) :: u,s=>by
   rw [over,<- EN u s]
   funext i
   unfold Ae
   show (match lk ((o,x) :: (u ++ s)) i with | some x=>some (x.map XO.enc) | none=>none)=_
   rw [lk]
   by_cases h:Nat.beq o i=true
   · have e:=Nat.eq_of_beq_eq_true h; subst e; simp
   · have h1:Nat.beq o i=false:=by rwa [Bool.not_eq_true] at h
     have h2:Nat.beq i o=false:=by rw [<- Bool.not_eq_true,Nat.beq_eq]; rintro rfl; simp at h
     rw [h1,h2]; rfl
def Bj:Value->X
 | .int k n=>.i k n
 | .bool q=>.b q
 | .string s=>.s s
 | .tuple a=>if a.isEmpty then .tp [] else .dead
 | v=>.c v
omit [Mo] in
theorem GP (v:Value):(Bj v).enc=GU v:=by
 unfold Bj
 split
 · rfl
 · rfl
 · rfl
 · rename_i a
   show _=(if a.isEmpty then V.tp [] else .dead)
   split <;> rfl
 · rename_i h1 h2 h3 h4
   unfold GU
   split
   · exact absurd rfl (h4 _)
   · rfl
def iR (t:XT):Operand->X
 | .tmp i=>match lk t i with | some x=>x | none=>.dead
 | .const v=>Bj v
 | .global _=>.dead
 | .func f=>.c (.func (.func f) #[] #[])
omit [Mo] in
theorem Wy (t:XT)(x:Operand):(iR t x).enc=ev AM (CN t) x:=by
 cases x with
 | tmp i=>show X.enc (match lk t i with | some x=>x | none=>.dead)=(match lk t i with | some x=>x.enc | none=>.dead); cases lk t i <;> rfl
 | const v=>exact GP v
 | global g=>rfl
 | func f=>rfl
end Go.Proofs.YtobfoiomjfdjjaaDoor.Mc
namespace Go.Proofs.YtobfoiomjfdjjaaDoor.Mc
open Go.RowKit
variable [Mo]
variable {P:Program}{D:Ah}
abbrev XG:=Nat->Option (Option XO)
structure Ad (g:XG)(s:AE):Prop where
 is:∀ o x,g o=some (some x)->s o=some (some x.enc)
 no:∀ d,g d=none->s d=none
def gx (g:XG)(o:Nat):Option XO:=match g o with | some (some x)=>some x | _=>none
omit [Mo] in
theorem BU {g:XG}{o:Nat}{x:XO}(h:gx g o=some x):g o=some (some x):=by
 unfold gx at h
 split at h
 · rename_i hy; cases h; exact hy
 · cases h
omit [Mo] in
theorem Ad.get {g:XG}{s:AE}(h:Ad g s){o:Nat}{x:XO}(k:gx g o=some x):get s o=some x.enc:=by
 unfold Mc.get; rw [h.is o x (BU k)]
def Tx:Option XO->Bool | some (.bx _ _)=>true | _=>false
def Mb:Option XO->Bool | some (.ar _ _ _)=>true | _=>false
def Yv:Option XO->Bool | some (.mp _ _)=>true | some (.mq _ _ _ _ _)=>true | _=>false
omit [Mo] in
theorem TK {g:XG}{s:AE}(h:Ad g s){o:Nat}(k:Yv (gx g o)=true):Jl (get s o)=true:=by
 unfold Yv at k
 split at k
 · rename_i hx; rw [h.get hx]; rfl
 · rename_i hx; rw [h.get hx]; rfl
 · cases k
def Mq:Option XO->Bool | some _=>true | _=>false
omit [Mo] in
theorem MI {g:XG}{s:AE}(h:Ad g s){o:Nat}(k:Tx (gx g o)=true):∃ e cs,get s o=some (.bx e cs):=by
 unfold Tx at k
 split at k
 · rename_i e cs hx; exact ⟨e,Bp cs,h.get hx⟩
 · cases k
omit [Mo] in
theorem FU {g:XG}{s:AE}(h:Ad g s){o:Nat}(k:Mb (gx g o)=true):∃ e sz rows,get s o=some (.ar e sz rows):=by
 unfold Mb at k
 split at k
 · rename_i e r xs hx; exact ⟨e,_,_,h.get hx⟩
 · cases k
omit [Mo] in
theorem Ci {g:XG}{s:AE}(h:Ad g s){o:Nat}(k:Mq (gx g o)=true):(get s o).isSome=true:=by
 unfold Mq at k
 split at k
 · rename_i x hx; rw [h.get hx]; rfl
 · cases k
def Zi:Value->Option Bool
 | .pointer none=>some true
 | .slice none 0 0=>some true
 | .map none=>some true
 | .nilFunc=>some true
 | .nilIface=>some true
 | .func (.func _) a b=>cond (a.isEmpty && b.isEmpty) (some false) none
 | _=>none
def Nv (g:XG):X->Option Bool
 | .c v=>Zi v
 | .fz nl _ xs=>match nl with | .e=>some false | .n=>some (Nat.beq xs.length 0) | .u=>none
 | .sl nl o=>match gx g o with
   | some (.ar _ _ xs)=>match nl with | .e=>some false | .n=>some (Nat.beq xs.length 0) | .u=>none
   | _=>none
 | .pt o _=>cond (Tx (gx g o)) (some false) none
 | .pe o _ _=>cond (Mb (gx g o)) (some false) none
 | .pf _ _ _=>some false
 | .mp o=>cond (Yv (gx g o)) (some false) none
 | .fn _ _=>some false
 | .BE _ _=>some false
 | _=>none
omit [Mo] in
theorem AO {α:Type}{c:Bool}{a b:α}(h:cond c (some a) none=some b):c=true/\a=b:=by
 cases c
 · cases h
 · cases h; exact ⟨rfl,rfl⟩
omit [Mo] in
theorem Lu {g:XG} {s:AE} (ha:Ad g s) {x:X} {b:Bool} (h:Nv g x=some b):Es s x.enc=some b:=by
 cases x with
 | c v =>
   show Es s (if plain v then .t (.sc v) else .dead)=_
   have h':Zi v=some b:=h
   unfold Zi at h'
   split at h'
   all_goals first
     | (cases h'; rfl)
     | (obtain ⟨h1,h2⟩:=AO h'; subst h2; simp only [Bool.and_eq_true] at h1; simp only [plain,h1.1,h1.2]; rfl)
     | cases h'
 | fz nl r xs=>cases nl <;> simp [Nv] at h <;> simp [Es,X.enc,h]
 | sl nl o =>
   simp only [Nv] at h
   split at h
   · rename_i e r xs hx
     have:=ha.get hx
     cases nl <;> simp at h <;> simp [Es,X.enc,this,XO.enc,h]
   · cases h
 | pt o off =>
   obtain ⟨h1,h2⟩:=AO h
   obtain ⟨e,cs,hg⟩:=MI ha h1
   subst h2; simp [Es,X.enc,hg]
 | pe o i off =>
   obtain ⟨h1,h2⟩:=AO h
   obtain ⟨e,sz,rows,hg⟩:=FU ha h1
   subst h2; simp [Es,X.enc,hg]
 | pf=>simpa [Es,X.enc,Nv] using h
 | mp o =>
   obtain ⟨h1,h2⟩:=AO h
   subst h2
   show (if Jl (get s o)=true then some false else none)=_
   rw [if_pos (TK ha h1)]
 | fn=>simpa [Es,X.enc,Nv] using h
 | BE=>simpa [Es,X.enc,Nv] using h
 | _=>cases h
def WU:X->Kd
 | .c v=>cond (plain v) (Zo v) .no
 | .fz _ _ _=>.sl
 | .sl _ _=>.sl
 | .pt _ _=>.ptr
 | .pe _ _ _=>.ptr
 | .pf _ _ _=>.ptr
 | .mp _=>.mp
 | .fn _ _=>.fn
 | .BE _ _=>.BE
 | _=>.no
omit [Mo] in
theorem Gz (x:X):kd x.enc=WU x:=by
 cases x with
 | c v=>simp only [X.enc,WU]; cases plain v <;> rfl
 | _=>rfl
inductive Out where
 | bad
 | ok (v:X) (u:XS)
 | Bl (q:Bool) (v:X) (u:XS)
 | Nk (α:Type) (m:Option α) (f:α->X × XS)
 | BF (o:Nat)
 | JR (c:Bool) (v1 v2:X)
 | cs (c:Bool) (v1:X) (u1:XS) (v2:X) (u2:XS)
 | any (α:Type) (v0:X) (u0:XS) (l:List α) (f:Nat->α->X × XS)
def okB (q:Bool):Out:=.ok (.b q) []
def NK (k:IntKind)(n:Int):Out:=.ok (.i k n) []
def TQ (op:BinOp)(k:IntKind)(a b:Int):Out :=
 match op with
 | .add=>NK k (k.wrap (a+b))
 | .sub=>NK k (k.wrap (a - b))
 | .mul=>NK k (k.wrap (a * b))
 | .quo=>.Bl (b != 0) (.i k (k.wrap (a.tdiv b))) []
 | .rem=>.Bl (b != 0) (.i k (a.tmod b)) []
 | .and=>NK k (Go.bits .and k a b)
 | .or=>NK k (Go.bits .or k a b)
 | .xor=>NK k (Go.bits .xor k a b)
 | .andNot=>NK k (Go.bits .andNot k a b)
 | .eql=>okB (a == b)
 | .neq=>okB (a != b)
 | .lss=>okB (decide (a < b))
 | .leq=>okB (decide (a<=b))
 | .gtr=>okB (decide (b < a))
 | .geq=>okB (decide (b<=a))
 | _=>.bad
def Hp (op:BinOp)(k:IntKind)(a b:Int):Out :=
 match op with
 | .shl=>.Bl (decide (0<=b)) (.i k (k.wrap (a * 2 ^ min b.toNat k.bits))) []
 | .shr=>.Bl (decide (0<=b)) (.i k (a.fdiv (2 ^ min b.toNat k.bits))) []
 | _=>.bad
def Gv:BinOp->Bool | .shl=>true | .shr=>true | _=>false
def Sd (op:BinOp)(a b:ByteArray):Out :=
 match op with
 | .add=>.Bl (decide (a.size+b.size<=9223372036854775807)) (.s (a ++ b)) []
 | .eql=>okB (a.toList == b.toList)
 | .neq=>okB (!(a.toList == b.toList))
 | .lss=>okB (Op.bytesLess a.toList b.toList)
 | .leq=>okB (Op.bytesLess a.toList b.toList || a.toList == b.toList)
 | .gtr=>okB (!(Op.bytesLess a.toList b.toList || a.toList == b.toList))
 | .geq=>okB (!(Op.bytesLess a.toList b.toList))
 | _=>.bad
def Jb:Option TypeDesc->Bool | some .bool=>true | _=>false
def Rv (D:Ah)(g:XG)(t:TypeId)(x:X)(v:Value):Option Bool :=
 match D.AW t with
 | some d=>cond (Fg d (WU x) v && (WU x != .no) && plain v) (Nv g x) none
 | none=>none
def Yj (D:Ah)(g:XG)(op:BinOp)(t:TypeId)(ox oy:Operand)(x y:X):Out :=
 match x,y with
 | .i k a,.i k' b=>cond (Gv op) (Hp op k a b) (if k=k' then TQ op k a b else .bad)
 | .s a,.s b=>Sd op a b
 | .b a,.b b=>match op with
   | .eql=>cond (Jb (D.AW t)) (okB (a == b)) .bad
   | .neq=>cond (Jb (D.AW t)) (okB (!(a == b))) .bad
   | _=>.bad
 | x,.c v=>match op with
   | .eql=>cond (WU x == .BE && !(isConst oy)) .bad (match Rv D g t x v with | some q=>okB q | none=>.bad)
   | .neq=>cond (WU x == .BE && !(isConst oy)) .bad (match Rv D g t x v with | some q=>okB (!q) | none=>.bad)
   | _=>.bad
 | _,_=>.bad
def fC (op:UnOp)(x:X):Out :=
 match op,x with
 | .not,.b q=>okB (!q)
 | .neg,.i k n=>NK k (k.wrap (0 - n))
 | .xor,.i k n=>NK k (Go.bits .xor k (if k.signed then -1 else k.max) n)
 | _,_=>.bad
def ZV:Option TypeDesc->Option IntKind | some (.int k)=>some k | _=>none
def DR:Option TypeDesc->Bool | some .string=>true | _=>false
def VB (D:Ah)(src dst:TypeId)(x:X):Out :=
 match x with
 | .i _ n=>cond (D.has src) (match ZV (D.AW dst) with | some k=>NK k (k.wrap n) | none=>.bad) .bad
 | .s s=>cond (DR (D.AW src) && DR (D.AW dst)) (.ok (.s s) []) .bad
 | _=>.bad
def HR (D:Ah)(op:Op)(e:Operand->V)(s:AE):Out->Prop
 | .ok v u=>u=[]/\HS D op e s=some v.enc
 | .Bl q v u=>q=true->u=[]/\HS D op e s=some v.enc
 | _=>True
omit [Mo] in
theorem MY {op:BinOp} {k:IntKind} {a b:Int} (v:X) :
   (∀ u,TQ op k a b=.ok v u->u=[]/\∃ r,GJ op k a b=some r/\v.enc=.t (.sc r)/\Gv op=false) /\
   (∀ q u,TQ op k a b=.Bl q v u->q=true->u=[]/\∃ r,GJ op k a b=some r/\v.enc=.t (.sc r)/\Gv op=false):=by
 constructor
 · intro u h
   cases op <;> simp only [TQ,NK,okB,Out.ok.injEq,reduceCtorEq] at h <;> (obtain ⟨rfl,rfl⟩:=h; exact ⟨rfl,_,rfl,rfl,rfl⟩)
 · intro q u h hq
   cases op <;> simp only [TQ,NK,okB,Out.Bl.injEq,reduceCtorEq] at h <;>
     (obtain ⟨rfl,rfl,rfl⟩:=h; have hb:¬ b=0:=by simpa using hq
      exact ⟨rfl,_,by simp only [GJ,if_neg hb],rfl,rfl⟩)
omit [Mo] in
theorem RQ {op:BinOp}{k:IntKind}{a b:Int}(h:Gv op=false):bin op (.int k a) (.int k b)=GJ op k a b:=by
 cases op <;> first | (cases h; done) | simp [bin]
omit [Mo] in
theorem HH {s:AE}{op:BinOp}{t:TypeId}{a b r:Value}(h:bin op a b=some r):Ks D s op t (.t (.sc a)) (.t (.sc b))=some (.t (.sc r)):=by
 unfold Ks
 split
 · simp [h]
 · simp [h]
 · simp [h]
omit [Mo] in
theorem RZ {s:AE} {t:TypeId} {x y:V} {q:Bool} (h:Qu D s t x y=some q) (hn:∀ a b,x=.t (.sc a)->y=.t (.sc b)->bin .eql a b=none):Ks D s .eql t x y=some (vB q):=by
 unfold Ks
 split
 · split
   · rename_i a b
     rw [hn a b rfl rfl,h]; rfl
   · rw [h]; rfl
 · rename_i h1; cases h1
 · rename_i h1 h2; exact absurd rfl h1
omit [Mo] in
theorem RT {s:AE} {t:TypeId} {x y:V} {q:Bool} (h:Qu D s t x y=some q) (hn:∀ a b,x=.t (.sc a)->y=.t (.sc b)->bin .neq a b=none):Ks D s .neq t x y=some (vB !q):=by
 unfold Ks
 split
 · rename_i h1; cases h1
 · split
   · rename_i a b
     rw [hn a b rfl rfl,h]; rfl
   · rw [h]; rfl
 · rename_i h1 h2; exact absurd rfl h2
omit [Mo] in
theorem Ua {d:TypeDesc}{k:Kd}{c:Value}(h:Fg d k c=true)(op:BinOp)(a:Value):bin op a c=none:=by
 unfold Fg at h
 split at h
 all_goals first
   | (cases op <;> cases a <;> rfl)
   | cases h
omit [Mo] in
theorem RV {s:AE} {g:XG} (ha:Ad g s) {t:TypeId} {x:X} {v:Value} {q:Bool} (h:Rv D g t x v=some q) :
   Qu D s t x.enc (X.enc (.c v))=some q/\(∀ op a,bin op a v=none)/\X.enc (.c v)=.t (.sc v):=by
 unfold Rv at h
 split at h
 · rename_i d hd
   cases hc:(Fg d (WU x) v && (WU x != .no) && plain v) with
   | false=>rw [hc] at h; cases h
   | true =>
     rw [hc] at h
     simp only [Bool.and_eq_true] at hc
     obtain ⟨⟨h1,h2⟩,h3⟩:=hc
     have hv:X.enc (.c v)=.t (.sc v):=by simp [X.enc,h3]
     refine ⟨?_,fun op a=>Ua h1 op a,hv⟩
     have hq:Es s x.enc=some q:=Lu ha h
     rw [hv]
     unfold Qu
     rw [hd]
     simp only
     split
     · rename_i p q' _ hb
       injection hb with hb; injection hb with hb
       subst hb
       unfold Fg at h1; split at h1 <;> simp_all
     · rename_i c hx _
       injection hx with hx; injection hx with hx
       subst hx
       rw [if_pos (by rw [Gz,h1,h2]; rfl)]; exact hq
     · rename_i hno1 _
       exact (hno1 v rfl).elim
 · cases h
end Go.Proofs.YtobfoiomjfdjjaaDoor.Mc
namespace Go.Proofs.YtobfoiomjfdjjaaDoor.Mc
open Go.RowKit
variable [Mo]
variable {P:Program}{D:Ah}
omit [Mo] in
theorem Pk {op:BinOp} {k k':IntKind} {a b:Int}:Gv op=true->(∀ v u,Hp op k a b ≠ .ok v u)/\∀ q v u,Hp op k a b=.Bl q v u->q=true->u=[]/\∃ r,bin op (.int k a) (.int k' b)=some r/\v.enc=.t (.sc r):=by
 intro hs
 constructor
 · intro v u h
   cases op <;> simp [Hp] at h
 · intro q v u h hq
   cases op <;> first | (cases hs; done) | skip
   all_goals
     simp only [Hp,Out.Bl.injEq] at h
     obtain ⟨rfl,rfl,rfl⟩:=h
     have h0:¬ b < 0:=by have:=of_decide_eq_true hq; omega
     exact ⟨rfl,_,by simp only [bin,if_neg h0],rfl⟩
omit [Mo] in
theorem Lc {op:BinOp}{a b:ByteArray}(v:X) :
   (∀ u,Sd op a b=.ok v u->u=[]/\∃ r,bin op (.string a) (.string b)=some r/\v.enc=.t (.sc r)) /\
   (∀ q u,Sd op a b=.Bl q v u->q=true->u=[]/\∃ r,bin op (.string a) (.string b)=some r/\v.enc=.t (.sc r)):=by
 constructor
 · intro u h
   cases op <;> simp only [Sd,okB,Out.ok.injEq,reduceCtorEq] at h <;> (obtain ⟨rfl,rfl⟩:=h; exact ⟨rfl,_,rfl,rfl⟩)
 · intro q u h hq
   cases op <;> simp only [Sd,okB,Out.Bl.injEq,reduceCtorEq] at h
   obtain ⟨rfl,rfl,rfl⟩:=h
   have h0:=of_decide_eq_true hq
   exact ⟨rfl,_,by simp only [bin,Mk,if_pos h0],rfl⟩
omit [Mo] in
theorem Va {D:Ah}{op:Op}{e:Operand->V}{s:AE}{c:Prop}[Decidable c]{a b:Out}(ha:c->HR D op e s a)(hb:¬ c->HR D op e s b):HR D op e s (if c then a else b):=by
 by_cases h:c
 · rw [if_pos h]; exact ha h
 · rw [if_neg h]; exact hb h
omit [Mo] in
theorem CB {D:Ah}{op:Op}{e:Operand->V}{s:AE}{c:Bool}{a b:Out}(ha:c=true->HR D op e s a)(hb:c=false->HR D op e s b):HR D op e s (cond c a b):=by
 cases c
 · exact hb rfl
 · exact ha rfl
omit [Mo] in
theorem Ss {g:XG} {s:AE} (ha:Ad g s) {e:Operand->V} {op:BinOp} {t q:TypeId} {ox oy:Operand} {x y:X} (hx:e ox=x.enc) (hy:e oy=y.enc) :
   HR D (.binOp op t ox oy q) e s (Yj D g op t ox oy x y):=by
 have core:∀ {r:Value},(kd (e ox)=.BE->isConst oy=true)->Ks D s op t x.enc y.enc=some (.t (.sc r))->HS D (.binOp op t ox oy q) e s=some (.t (.sc r)):=by
   intro r hc h
   show (if kd (e ox) == .BE && !(isConst oy) then none else Ks D s op t (e ox) (e oy))=_
   rw [if_neg ?_,hx,hy,h]
   simp only [Bool.and_eq_true,beq_iff_eq,Bool.not_eq_true', not_and,Bool.not_eq_false]
   exact hc
 unfold Yj
 split
 · rename_i k a k' b
   have hk:kd (e ox)=.BE->isConst oy=true:=fun h=>by rw [hx] at h; simp [X.enc,kd,Zo] at h
   refine CB (fun hs=>?_) (fun hs=>?_)
   · obtain ⟨h1,h2⟩:=Pk (k:=k) (k':=k') (a:=a) (b:=b) hs
     generalize hxs:Hp op k a b=o at h1 h2
     cases o with
     | ok v u=>exact absurd rfl (h1 v u)
     | Bl q' v u =>
       intro hq
       obtain ⟨rfl,r,hr,hv⟩:=h2 q' v u rfl hq
       exact ⟨rfl,by rw [hv]; exact core hk (HH hr)⟩
     | _=>trivial
   · refine Va (fun hkk=>?_) (fun _=>trivial)
     subst hkk
     generalize hxs:TQ op k a b=o
     cases o with
     | ok v u =>
       obtain ⟨rfl,r,hr,hv,hs'⟩:=(MY v).1 u hxs
       exact ⟨rfl,by rw [hv]; exact core hk (HH (by rw [RQ hs']; exact hr))⟩
     | Bl q' v u =>
       intro hq
       obtain ⟨rfl,r,hr,hv,hs'⟩:=(MY v).2 q' u hxs hq
       exact ⟨rfl,by rw [hv]; exact core hk (HH (by rw [RQ hs']; exact hr))⟩
     | _=>trivial
 · rename_i a b
   have hk:kd (e ox)=.BE->isConst oy=true:=fun h=>by rw [hx] at h; simp [X.enc,kd,Zo] at h
   generalize hxs:Sd op a b=o
   cases o with
   | ok v u =>
     obtain ⟨rfl,r,hr,hv⟩:=(Lc v).1 u hxs
     exact ⟨rfl,by rw [hv]; exact core hk (HH hr)⟩
   | Bl q' v u =>
     intro hq
     obtain ⟨rfl,r,hr,hv⟩:=(Lc v).2 q' u hxs hq
     exact ⟨rfl,by rw [hv]; exact core hk (HH hr)⟩
   | _=>trivial
 · rename_i a b
   have hk:kd (e ox)=.BE->isConst oy=true:=fun h=>by rw [hx] at h; simp [X.enc,kd,Zo] at h
   have hb:∀ {d:TypeDesc},D.AW t=some d->d=.bool->Qu D s t (X.b a).enc (X.b b).enc=some (a == b):=by
     rintro d hd rfl
     simp [Qu,X.enc,hd]
   have ht:Jb (D.AW t)=true->Qu D s t (X.b a).enc (X.b b).enc=some (a == b):=by
     intro h
     unfold Jb at h
     split at h
     · rename_i hd; exact hb hd rfl
     · cases h
   split
   · refine CB (fun h=>?_) (fun _=>trivial)
     refine ⟨rfl,core hk (RZ (ht h) ?_)⟩
     rintro _ _ ⟨⟩ ⟨⟩; rfl
   · refine CB (fun h=>?_) (fun _=>trivial)
     refine ⟨rfl,core hk (RT (ht h) ?_)⟩
     rintro _ _ ⟨⟩ ⟨⟩; rfl
   · trivial
 · split
   · refine CB (fun _=>trivial) (fun hc=>?_)
     have hk:kd (e ox)=.BE->isConst oy=true:=by
       intro h
       rw [hx,Gz] at h
       rw [h] at hc
       simpa using hc
     split
     · rename_i q' hq
       obtain ⟨h1,h2,h3⟩:=RV ha hq
       refine ⟨rfl,core hk (RZ h1 fun a b _ hb=>?_)⟩
       rw [h3] at hb; injection hb with hb; injection hb with hb; subst hb; exact h2 _ _
     · trivial
   · refine CB (fun _=>trivial) (fun hc=>?_)
     have hk:kd (e ox)=.BE->isConst oy=true:=by
       intro h
       rw [hx,Gz] at h
       rw [h] at hc
       simpa using hc
     split
     · rename_i q' hq
       obtain ⟨h1,h2,h3⟩:=RV ha hq
       refine ⟨rfl,core hk (RT h1 fun a b _ hb=>?_)⟩
       rw [h3] at hb; injection hb with hb; injection hb with hb; subst hb; exact h2 _ _
     · trivial
   · trivial
 · trivial
omit [Mo] in
theorem VD {s:AE}{e:Operand->V}{op:UnOp}{t:TypeId}{ox:Operand}{x:X}(hx:e ox=x.enc):HR D (.unOp op t ox) e s (fC op x):=by
 unfold fC
 split
 · exact ⟨rfl,by show Zs _ _=_; rw [hx]; rfl⟩
 · exact ⟨rfl,by show Zs _ _=_; rw [hx]; rfl⟩
 · exact ⟨rfl,by show Zs _ _=_; rw [hx]; rfl⟩
 · trivial
omit [Mo] in
theorem Sn {o:Option TypeDesc}{k:IntKind}(h:ZV o=some k):o=some (.int k):=by
 unfold ZV at h
 split at h
 · cases h; rfl
 · cases h
omit [Mo] in
theorem BP {o:Option TypeDesc}(h:DR o=true):o=some .string:=by
 unfold DR at h
 split at h
 · rfl
 · cases h
omit [Mo] in
theorem QN {s:AE} {e:Operand->V} {src dst:TypeId} {ox:Operand} {x:X} (hx:e ox=x.enc):HR D (.convert src dst ox) e s (VB D src dst x):=by
 unfold VB
 split
 · rename_i k n
   refine CB (fun h=>?_) (fun _=>trivial)
   split
   · rename_i k' hk
     obtain ⟨d,hd⟩:=BH h
     exact ⟨rfl,by show KB D src dst (e ox)=_; rw [hx]; simp [KB,hd,Sn hk,X.enc,vI]⟩
   · trivial
 · rename_i b
   refine CB (fun h=>?_) (fun _=>trivial)
   simp only [Bool.and_eq_true] at h
   exact ⟨rfl,by show KB D src dst (e ox)=_; rw [hx]; simp [KB,BP h.1,BP h.2,X.enc,vS]⟩
 · trivial
def Jq (D:Ah)(t:Nat)(cells:List X)(off:Nat):X :=
 match D.AW t with
 | some d=>cond d.isRow (.ag ((cells.drop off).take (D.size t))) ((cells[off]?).getD .dead)
 | none=>.dead
def Gg (D:Ah)(t len off:Nat):Bool :=
 match D.AW t with
 | some d=>cond d.isRow (Nat.ble (off+D.size t) len) (Nat.blt off len)
 | none=>false
omit [Mo] in
theorem DP {t:Nat} {cells:List X} {off:Nat} (h:Gg D t cells.length off=true):EL D t (cells.map X.enc) off=some (Jq D t cells off).enc:=by
 unfold Gg at h
 unfold Jq EL
 split at h
 · rename_i d hd
   rw [hd]
   simp only
   cases hr:d.isRow with
   | true =>
     rw [hr] at h
     have h':off+D.size t<=cells.length:=Nat.le_of_ble_eq_true h
     simp only [if_true,cond_true,List.length_map,if_pos h', X.enc,Aa,List.map_drop,List.map_take]
   | false =>
     rw [hr] at h
     have h':off < cells.length:=by simpa using h
     simp [h']
 · cases h
def Jd:Option TypeDesc->Option (Array Field) | some (.struct fs)=>some fs | _=>none
omit [Mo] in
theorem HC {o:Option TypeDesc}{fs:Array Field}(h:Jd o=some fs):o=some (.struct fs):=by
 unfold Jd at h
 split at h
 · cases h; rfl
 · cases h
def QE (D:Ah) (t:TypeId) (x:X) (f:Nat):Out :=
 match x with
 | .ag cells=>match Jd (D.AW t) with
   | some fs=>match fs[f]? with
     | some fl=>cond (Gg D fl.type cells.length fl.offset) (.ok (Jq D fl.type cells fl.offset) []) .bad
     | none=>.bad
   | none=>.bad
 | _=>.bad
omit [Mo] in
theorem PJ {s:AE} {e:Operand->V} {t:TypeId} {ox:Operand} {x:X} {f:Nat} (hx:e ox=x.enc):HR D (.field t ox f) e s (QE D t x f):=by
 unfold QE
 split
 · rename_i cells
   split
   · rename_i fs hfs
     split
     · rename_i fl hfl
       refine CB (fun h=>⟨rfl,?_⟩) (fun _=>trivial)
       show Kw D t (e ox) f=_
       rw [hx]
       simp only [Kw,HC hfs,X.enc,Aa,hfl]
       exact DP h
     · trivial
   · trivial
 · trivial
def Db (g:XG)(x:X)(n:Nat):Out :=
 match x with
 | .pt o off=>cond (Tx (gx g o)) (.ok (.pt o (off+n)) []) .bad
 | .pe o i off=>cond (Mb (gx g o)) (.ok (.pe o i (off+n)) []) .bad
 | .pf r a off=>.ok (.pf r a (off+n)) []
 | _=>.bad
omit [Mo] in
theorem HN {g:XG} {s:AE} (ha:Ad g s) {x:X} {n:Nat} {v:X} {u:XS} (h:Db g x n=.ok v u):u=[]/\GS s x.enc n=some v.enc:=by
 unfold Db at h
 split at h
 · rename_i o off
   cases hc:Tx (gx g o) with
   | false=>rw [hc] at h; cases h
   | true =>
     rw [hc] at h; cases h
     obtain ⟨e,cs,hg⟩:=MI ha hc
     exact ⟨rfl,by simp [GS,X.enc,hg]⟩
 · rename_i o i off
   cases hc:Mb (gx g o) with
   | false=>rw [hc] at h; cases h
   | true =>
     rw [hc] at h; cases h
     obtain ⟨e,sz,rows,hg⟩:=FU ha hc
     exact ⟨rfl,by simp [GS,X.enc,hg]⟩
 · cases h; exact ⟨rfl,rfl⟩
 · cases h
omit [Mo] in
theorem HZ {g:XG}{x:X}{n:Nat}:(∀ q v u,Db g x n ≠ .Bl q v u)/\∀ α m f,Db g x n ≠ .Nk α m f:=by
 have h:∀ (c:Bool) (o:X),(∀ q v u,cond c (Out.ok o []) .bad ≠ .Bl q v u)/\∀ α m f,cond c (Out.ok o []) .bad ≠ .Nk α m f:=by intro c o; cases c <;> simp
 cases x <;> first | exact h _ _ | simp [Db]
def GF (D:Ah)(g:XG)(t:TypeId)(x:X)(f:Nat):Out :=
 match Jd (D.AW t) with
 | some fs=>match fs[f]? with
   | some fl=>cond (Nat.beq (D.size fl.type) 0 || !(D.has fl.type)) .bad (Db g x fl.offset)
   | none=>.bad
 | none=>.bad
omit [Mo] in
theorem JN {g:XG} {s:AE} (ha:Ad g s) {e:Operand->V} {t:TypeId} {ox:Operand} {x:X} {f:Nat} (hx:e ox=x.enc):HR D (.fieldAddr t ox f) e s (GF D g t x f):=by
 unfold GF
 split
 · rename_i fs hfs
   split
   · rename_i fl hfl
     refine CB (fun _=>trivial) (fun hc=>?_)
     have hc':(decide (D.size fl.type=0) || !D.has fl.type)=false:=by
       rw [<- hc]; congr 1
       rw [Bool.eq_iff_iff]; simp
     generalize ho:Db g x fl.offset=o
     cases o with
     | ok v u =>
       obtain ⟨rfl,h2⟩:=HN ha ho
       refine ⟨rfl,?_⟩
       show DU D s t (e ox) f=_
       simp only [DU,HC hfs,hfl,hx,hc']
       exact h2
     | Bl q v u=>exact absurd ho (HZ.1 q v u)
     | Nk α m f=>exact absurd ho (HZ.2 α m f)
     | _=>trivial
   · trivial
 · trivial
def RR (D:Ah)(g:XG)(t:TypeId)(p:X):Out :=
 match p with
 | .pt o off=>match gx g o with
   | some (.bx e cells)=>cond (Nat.blt e 3000000 && Gg D t cells.length off) (.ok (Jq D t cells off) []) .bad
   | _=>.bad
 | .pe o i off=>match gx g o with
   | some (.ar _ r xs)=>cond (Gg D t r.len off) (.Nk r.den (xs[i]?) fun a=>(Jq D t (r.cells a) off,[])) .bad
   | _=>.bad
 | .pf r a off=>cond (Gg D t r.len off) (.ok (Jq D t (r.cells a) off) []) .bad
 | _=>.bad
omit [Mo] in
theorem Row.MD (r:Row)(a:r.den):(r.cells a).length=r.len:=by
 have:=congrArg List.length (r.Br a)
 simpa [Row.CS] using this
def IH (D:Ah)(op:Op)(e:Operand->V)(s:AE):Out->Prop
 | .Nk _ m f=>∀ a,m=some a->(f a).2=[]/\HS D op e s=some (f a).1.enc
 | .JR _ _ _=>False
 | .cs _ _ _ _ _=>False
 | .any _ _ _ _ _=>False
 | o=>HR D op e s o
omit [Mo] in
theorem IQ {D:Ah}{op:Op}{e:Operand->V}{s:AE}{c:Bool}{a b:Out}(ha:c=true->IH D op e s a)(hb:c=false->IH D op e s b):IH D op e s (cond c a b):=by
 cases c
 · exact hb rfl
 · exact ha rfl
omit [Mo] in
theorem KM {g:XG} {s:AE} (ha:Ad g s) {e:Operand->V} {t:TypeId} {op:Operand} {p:X} (hp:e op=p.enc):IH D (.load t op) e s (RR D g t p):=by
 unfold RR
 split
 · rename_i o off
   split
   · rename_i e' cells hg
     refine IQ (fun h=>⟨rfl,?_⟩) (fun _=>trivial)
     show Fh D s t (e op)=_
     rw [hp]
     rw [Bool.and_eq_true] at h
     simp only [Fh,X.enc,ha.get hg,XO.enc,Aa,h.1,if_true]
     exact DP h.2
   · trivial
 · rename_i o i off
   split
   · rename_i e' r xs hg
     refine IQ (fun h=>fun a hm=>⟨rfl,?_⟩) (fun _=>trivial)
     show Fh D s t (e op)=_
     rw [hp]
     simp only [Fh,X.enc,ha.get hg,XO.enc,List.getElem?_map,hm,Option.map_some]
     rw [<- r.Br]
     exact DP (by rw [r.MD]; exact h)
   · trivial
 · rename_i r a off
   refine IQ (fun h=>⟨rfl,?_⟩) (fun _=>trivial)
   show Fh D s t (e op)=_
   rw [hp]
   simp only [Fh,X.enc]
   rw [<- r.Br]
   exact DP (by rw [r.MD]; exact h)
 · trivial
end Go.Proofs.YtobfoiomjfdjjaaDoor.Mc
namespace Go.Proofs.YtobfoiomjfdjjaaDoor.Mc
open Go.RowKit
variable [Mo]
variable {P:Program}{D:Ah}
def fQ (P:Program)(o:Oper)(st:St)(c:Bool)(v1 v2:V):Prop :=
 ∀ (B:BB) (F:Nat->Prop) (loc:Nat->Option Loc) (a:Act) (w:World),Rel AM B F loc st a.tmps w ->
   ∃ x,(execOp a.eval o).run P w=.ok (.value x) w/\((c=true/\AF w F loc v1 x)\/AF w F loc v2 x)
def iO (P:Program)(o:Oper)(st:St)(Q:V->AE->Prop):Prop :=
 ∀ (B:BB) (F:Nat->Prop) (loc:Nat->Option Loc) (a:Act) (w:World),Rel AM B F loc st a.tmps w ->
   ∃ v s', Q v s' /\ ∃ F' loc' w' x r,(execOp a.eval o).run P w=.ok r w' /\ (r=.value x\/r=.skip/\x=undef)/\AK AM B w' F' loc' s' /\ Kept w F w' F' /\ Ak loc loc' /\ AF w' F' loc' v x
def Au (P:Program)(o:Oper)(st:St):Out->Prop
 | .ok v u=>CD P AM o st v.enc (over st.s u)
 | .Bl q v u=>q=true->CD P AM o st v.enc (over st.s u)
 | .Nk _ m f=>∀ a,m=some a->CD P AM o st (f a).1.enc (over st.s (f a).2)
 | .JR c v1 v2=>fQ P o st c v1.enc v2.enc
 | .cs c v1 u1 v2 u2=>(c=true->CD P AM o st v1.enc (over st.s u1))/\(c=false->CD P AM o st v2.enc (over st.s u2))
 | .any _ v0 u0 l f=>(l=[]->CD P AM o st v0.enc (over st.s u0))/\(l ≠ []->iO P o st fun v s'=>∃ j a,l[j]? = some a/\v=(f j a).1.enc/\s' = over st.s (f j a).2)
 | _=>True
theorem AB {o:Oper}{st:St}{c:Bool}{a b:Out}(ha:c=true->Au P o st a)(hb:c=false->Au P o st b):Au P o st (cond c a b):=by
 cases c
 · exact hb rfl
 · exact ha rfl
theorem IH.ok (hg:Good P D){o:Oper}{st:St}{op:Op}{out:Out}(hop:o.op=op)(h:IH D op (ev AM st.t) st.s out):Au P o st out:=by
 cases out with
 | ok v u=>obtain ⟨rfl,h2⟩:=h; exact BJ hg hop h2
 | Bl q v u=>intro hq; obtain ⟨rfl,h2⟩:=h hq; exact BJ hg hop h2
 | Nk α m f=>intro a hm; obtain ⟨h1,h2⟩:=h a hm; rw [h1]; exact BJ hg hop h2
 | JR=>exact h.elim
 | cs=>exact h.elim
 | any=>exact h.elim
 | _=>trivial
def Zw:Out->Out
 | .Nk _ _ _=>.bad
 | .JR _ _ _=>.bad
 | .cs _ _ _ _ _=>.bad
 | .any _ _ _ _ _=>.bad
 | o=>o
omit [Mo] in
theorem HR.l {op:Op}{e:Operand->V}{s:AE}{out:Out}(h:HR D op e s out):IH D op e s (Zw out):=by
 cases out with
 | Nk α m f=>trivial
 | JR=>trivial
 | cs=>trivial
 | any=>trivial
 | _=>exact h
def Bt:Option TypeDesc->Option Nat | some (.slice e)=>some e | _=>none
omit [Mo] in
theorem Ag {o:Option TypeDesc}{e:Nat}(h:Bt o=some e):o=some (.slice e):=by
 unfold Bt at h
 split at h
 · cases h; rfl
 · cases h
def Wn:Option TypeDesc->Option (Nat × Nat) | some (.array n e)=>some (n,e) | _=>none
omit [Mo] in
theorem Lq {o:Option TypeDesc}{n e:Nat}(h:Wn o=some (n,e)):o=some (.array n e):=by
 unfold Wn at h
 split at h
 · cases h; rfl
 · cases h
def Gf (D:Ah) (g:XG) (t:TypeId) (x i:X):Out :=
 match i with
 | .i _ n=>match Bt (D.AW t) with
   | some e=>cond (D.has e) (match x with
     | .fz _ r xs=>cond (Nat.beq r.len (D.size e)) (.Nk r.den (ix xs n) fun a=>(.pf r a 0,[])) .bad
     | .sl _ o=>match gx g o with
       | some (.ar _ r xs)=>cond (Nat.beq r.len (D.size e)) (.Nk r.den (ix xs n) fun _=>(.pe o n.toNat 0,[])) .bad
       | _=>.bad
     | .sw o off len=>match gx g o with
       | some (.ar _ r _)=>cond (Nat.beq r.len (D.size e)) (.Bl (decide (0<=n/\n < len)) (.pe o (off+n.toNat) 0) []) .bad
       | _=>.bad
     | _=>.bad) .bad
   | none=>match Wn (D.AW t) with
     | some (len,e)=>cond (D.has e) (match Db g x (n.toNat * D.size e) with
       | .ok v u=>.Bl (decide (0<=n/\n < len)) v u
       | _=>.bad) .bad
     | none=>.bad
 | _=>.bad
theorem JQ (hg:Good P D) {g:XG} {o:Oper} {st:St} (ha:Ad g st.s) {t:TypeId} {ox oi:Operand} {x i:X} (hop:o.op=.indexAddr t ox oi) (hx:ev AM st.t ox=x.enc) (hi:ev AM st.t oi=i.enc) :
   Au P o st (Gf D g t x i):=by
 unfold Gf
 split
 · rename_i k n
   split
   · rename_i e he
     have hu:=Ag he
     refine AB (fun hh=>?_) (fun _=>trivial)
     split
     · rename_i nl r xs
       refine AB (fun hl=>?_) (fun _=>trivial)
       intro a hm
       obtain ⟨h0,h1⟩:=RE hm
       exact Wm hg hop hu hh (r.wide hl) hx hi h0 h1
     · rename_i nl nm
       split
       · rename_i e' r xs hgx
         refine AB (fun hl=>?_) (fun _=>trivial)
         intro a hm
         obtain ⟨h0,h1⟩:=RE hm
         exact WN hg hop hu hh hx (ha.is _ _ (BU hgx)) hl hi h0 h1
       · trivial
     · rename_i nm off len
       split
       · rename_i e' r xs hgx
         refine AB (fun hl=>?_) (fun _=>trivial)
         intro hq
         have hq':=of_decide_eq_true hq
         refine BJ hg hop ?_
         show BR D st.s t (ev AM st.t ox) (ev AM st.t oi)=_
         rw [hx,hi]
         simp only [BR,hu,X.enc,hh,ha.get hgx,XO.enc,hl]
         simp [hq']
       · trivial
     · trivial
   · split
     · rename_i len e he
       have hu:=Lq he
       refine AB (fun hh=>?_) (fun _=>trivial)
       split
       · rename_i v u hs
         intro hq
         have hq':=of_decide_eq_true hq
         obtain ⟨rfl,h2⟩:=HN ha hs
         refine BJ hg hop ?_
         show BR D st.s t (ev AM st.t ox) (ev AM st.t oi)=_
         rw [hx,hi]
         simp only [BR,hu,X.enc,hh]
         simp [hq', h2]
       · trivial
     · trivial
 · trivial
def Pj (D:Ah)(t:TypeId)(x i:X):Out :=
 match x,i with
 | .s b,.i _ n=>cond (DR (D.AW t)) (.Bl (decide (0<=n/\n < b.size)) (.i .u8 (bt b n)) []) .bad
 | .ag cells,.i _ n=>match Wn (D.AW t) with
   | some (len,e)=>cond (D.has e && Gg D e cells.length (n.toNat * D.size e)) (.Bl (decide (0<=n/\n < len)) (Jq D e cells (n.toNat * D.size e)) []) .bad
   | none=>.bad
 | _,_=>.bad
theorem Ob (hg:Good P D) {o:Oper} {st:St} {t:TypeId} {ox oi:Operand} {x i:X} (hop:o.op=.index t ox oi) (hx:ev AM st.t ox=x.enc) (hi:ev AM st.t oi=i.enc) :
   Au P o st (Pj D t x i):=by
 unfold Pj
 split
 · refine AB (fun h=>?_) (fun _=>trivial)
   exact fun hq=>Vo hg hop (BP h) hx hi hq
 · rename_i cells k n
   split
   · rename_i len e he
     refine AB (fun h=>?_) (fun _=>trivial)
     simp only [Bool.and_eq_true] at h
     intro hq
     have hq':=of_decide_eq_true hq
     refine BJ hg hop ?_
     show GL D t (ev AM st.t ox) (ev AM st.t oi)=_
     rw [hx,hi]
     simp only [GL,Lq he,X.enc,h.1,Aa]
     simp only [if_true]
     rw [if_pos hq']; exact DP h.2
   · trivial
 · trivial
def Tc (x:Option X)(d:Int):Option Int :=
 match x with
 | none=>some d
 | some (.i _ n)=>some n
 | _=>none
omit [Mo] in
theorem CH {st:St}{lo:Option Operand}{x:Option X}(hx:lo.map (ev AM st.t)=x.map X.enc){d n:Int}(h:Tc x d=some n):bound (lo.map (ev AM st.t)) d=some n:=by
 rw [hx]
 unfold Tc at h
 split at h
 · exact h
 · cases h; rfl
 · cases h
def Ql (D:Ah) (g:XG) (t:TypeId) (x:X) (lo hi:Option X):Out :=
 match x with
 | .s b=>match Tc lo 0,Tc hi b.size with
   | some l,some h=>cond (DR (D.AW t)) (.Bl (Dj b.size l h) (.s (b.extract l.toNat h.toNat)) []) .bad
   | _,_=>.bad
 | .fz nl r xs=>match Bt (D.AW t),Tc lo 0,Tc hi xs.length with
   | some e,some l,some h=>cond (D.has e && Nat.beq r.len (D.size e)) (.Bl (Dj xs.length l h) (.fz (Fl nl) r (cut xs l h)) []) .bad
   | _,_,_=>.bad
 | .sl _ o=>match gx g o with
   | some (.ar _ r xs)=>match Bt (D.AW t),Tc lo 0,Tc hi xs.length with
     | some e,some l,some h=>cond (D.has e && Nat.beq r.len (D.size e)) (.Bl (Dj xs.length l h) (.sw o l.toNat (h.toNat - l.toNat)) []) .bad
     | _,_,_=>.bad
   | _=>.bad
 | .sw o off len=>match gx g o with
   | some (.ar _ r _)=>match Bt (D.AW t),Tc lo 0,Tc hi len with
     | some e,some l,some h=>cond (D.has e && Nat.beq r.len (D.size e)) (.Bl (Dj len l h) (.sw o (off+l.toNat) (h.toNat - l.toNat)) []) .bad
     | _,_,_=>.bad
   | _=>.bad
 | .c v=>match Bt (D.AW t),Tc lo 0,Tc hi 0 with
   | some e,some l,some h=>cond (D.has e && Cv v) (.Bl (Dj 0 l h) (.c (.slice none 0 0)) []) .bad
   | _,_,_=>.bad
 | _=>.bad
theorem Nx (hg:Good P D) {g:XG} {o:Oper} {st:St} (ha:Ad g st.s) {t:TypeId} {ox:Operand} {lo hi:Option Operand} {x:X} {xl xh:Option X} (hop:o.op=.slice t ox lo hi none) (hx:ev AM st.t ox=x.enc)
   (hl:lo.map (ev AM st.t)=xl.map X.enc) (hh:hi.map (ev AM st.t)=xh.map X.enc):Au P o st (Ql D g t x xl xh):=by
 unfold Ql
 split
 · rename_i b
   split
   · rename_i l h el eh
     refine AB (fun hs=>?_) (fun _=>trivial)
     exact fun hq=>TP hg hop (BP hs) hx (CH hl el) (CH hh eh) hq
   · trivial
 · rename_i nl r xs
   split
   · rename_i e l h hu el eh
     refine AB (fun hs=>?_) (fun _=>trivial)
     simp only [Bool.and_eq_true] at hs
     exact fun hq=>Uj hg hop (Ag hu) hs.1 (r.wide hs.2) hx (CH hl el) (CH hh eh) hq
   · trivial
 · rename_i nl nm
   split
   · rename_i e' r xs hgx
     split
     · rename_i e l h hu el eh
       refine AB (fun hs=>?_) (fun _=>trivial)
       simp only [Bool.and_eq_true] at hs
       exact fun hq=>Vd hg hop (Ag hu) hs.1 hx (ha.is _ _ (BU hgx)) hs.2 (CH hl el) (CH hh eh) hq
     · trivial
   · trivial
 · rename_i nm off len
   split
   · rename_i e' r xs hgx
     split
     · rename_i e l h hu el eh
       refine AB (fun hs=>?_) (fun _=>trivial)
       simp only [Bool.and_eq_true] at hs
       intro hq
       have hb:=Dy hq
       refine BJ hg hop ?_
       show Cj D st.s t (ev AM st.t ox) (lo.map (ev AM st.t)) (hi.map (ev AM st.t))=_
       have h1:=CH hl el
       have h2:=CH hh eh
       rw [hx]
       simp only [Cj,Ag hu,X.enc,hs.1,ha.get hgx,XO.enc,hs.2,h1,h2]
       simp [hb]
     · trivial
   · trivial
 · rename_i v
   split
   · rename_i e l h hu el eh
     refine AB (fun hs=>?_) (fun _=>trivial)
     simp only [Bool.and_eq_true] at hs
     have hv:=CR hs.2
     subst hv
     exact fun hq=>Sl hg hop (Ag hu) hs.1 hx (CH hl el) (CH hh eh) hq
   · trivial
 · trivial
def Zh (D:Ah) (g:XG) (t:TypeId) (x:X):Out :=
 match x with
 | .s b=>cond (DR (D.AW t)) (NK .i64 b.size) .bad
 | x => match Bt (D.AW t) with
   | some _=>match x with
     | .fz _ _ xs=>NK .i64 xs.length
     | .sl _ o=>match gx g o with | some (.ar _ _ xs)=>NK .i64 xs.length | _=>.bad
     | .sw o _ len=>cond (Mb (gx g o)) (NK .i64 len) .bad
     | .c v=>cond (Cv v) (NK .i64 0) .bad
     | _=>.bad
   | none=>.bad
theorem Sq (hg:Good P D) {g:XG} {o:Oper} {st:St} (ha:Ad g st.s) {t:TypeId} {ox:Operand} {x:X} (hop:o.op=.call ⟨.builtin .len,#[ox],#[t]⟩) (hx:ev AM st.t ox=x.enc):Au P o st (Zh D g t x):=by
 have core:∀ {v:V},LO D st.s t x.enc=some v->CD P AM o st v st.s:=by
   intro v h
   refine BJ hg hop ?_
   show LO D st.s t (ev AM st.t ox)=_
   rw [hx]; exact h
 unfold Zh
 split
 · refine AB (fun h=>?_) (fun _=>trivial)
   exact core (by simp [LO,BP h,X.enc,vI])
 · split
   · rename_i e hu
     have hu':=Ag hu
     split
     · exact core (by simp [LO,hu', X.enc,vI])
     · split
       · rename_i hgx
         exact core (by simp [LO,hu', X.enc,ha.get hgx,XO.enc,vI])
       · trivial
     · refine AB (fun h=>?_) (fun _=>trivial)
       obtain ⟨e', sz,rows,hgg⟩:=FU ha h
       exact core (by simp [LO,hu', X.enc,hgg,vI])
     · refine AB (fun h=>?_) (fun _=>trivial)
       have:=CR h
       subst this
       exact core (by simp [LO,hu', X.enc,vI,plain])
     · trivial
   · trivial
def Zz (f:Int->Int->Int)(x y:X):Out :=
 match x,y with
 | .i k a,.i _ b=>NK k (f a b)
 | _,_=>.bad
theorem Ta (hg:Good P D){o:Oper}{st:St}{ts:Array TypeId}{ox oy:Operand}{x y:X}(hop:o.op=.call ⟨.builtin .max,#[ox,oy],ts⟩)(hx:ev AM st.t ox=x.enc)(hy:ev AM st.t oy=y.enc):Au P o st (Zz mx x y):=by
 unfold Zz
 split
 · refine BJ hg hop ?_
   show (match (Callee.builtin Builtin.max),([ox,oy]:List Operand),ts.toList with | _,_,_=>Zu mx (ev AM st.t ox) (ev AM st.t oy))=_
   rw [hx,hy]; rfl
 · trivial
theorem SU (hg:Good P D){o:Oper}{st:St}{ts:Array TypeId}{ox oy:Operand}{x y:X}(hop:o.op=.call ⟨.builtin .min,#[ox,oy],ts⟩)(hx:ev AM st.t ox=x.enc)(hy:ev AM st.t oy=y.enc):Au P o st (Zz mn x y):=by
 unfold Zz
 split
 · refine BJ hg hop ?_
   show (match (Callee.builtin Builtin.min),([ox,oy]:List Operand),ts.toList with | _,_,_=>Zu mn (ev AM st.t ox) (ev AM st.t oy))=_
   rw [hx,hy]; rfl
 · trivial
end Go.Proofs.YtobfoiomjfdjjaaDoor.Mc
namespace Go.Proofs.YtobfoiomjfdjjaaDoor.Mc
open Go.RowKit
variable [Mo]
variable {P:Program}{D:Ah}
def PM (g:XG):X->Bool
 | .ag _=>false
 | .tp _=>false
 | .dead=>false
 | .c v=>plain v
 | .sl _ o=>Mq (gx g o)
 | .sw o _ _=>Mq (gx g o)
 | .pt o _=>Mq (gx g o)
 | .pe o _ _=>Mq (gx g o)
 | .mp o=>Mq (gx g o)
 | .it o=>Mq (gx g o)
 | .sp o=>Mq (gx g o)
 | _=>true
omit [Mo] in
theorem Fb {g:XG}{s:AE}(ha:Ad g s){x:X}(h:PM g x=true):JJ s x.enc=true:=by
 cases x with
 | c v =>
   have h':plain v=true:=h
   simp [X.enc,h', JJ]
 | sl nl o=>exact Ci ha h
 | sw o off len=>exact Ci ha h
 | pt o off=>exact Ci ha h
 | pe o i off=>exact Ci ha h
 | mp o=>exact Ci ha h
 | it o=>exact Ci ha h
 | sp o=>exact Ci ha h
 | ag=>cases h
 | tp=>cases h
 | dead=>cases h
 | _=>rfl
def BN:X->List X
 | .ag cs=>cs
 | x=>[x]
omit [Mo] in
theorem KN (x:X):(BN x).map X.enc=Af x.enc\/∃ v,x=.c v/\plain v=false:=by
 cases x with
 | ag cs=>left; simp [BN,X.enc,Af,Aa]
 | c v =>
   cases h:plain v with
   | false=>exact .inr ⟨v,rfl,h⟩
   | true=>left; simp [BN,X.enc,h,Af]
 | _=>left; simp [BN,X.enc,Af]
def SL (g:XG):X->Bool
 | .ag _=>true
 | x=>PM g x
omit [Mo] in
theorem Tt (g:XG)(x:X):(∃ cs,x=.ag cs)\/SL g x=PM g x:=by cases x <;> first | exact .inl ⟨_,rfl⟩ | exact .inr rfl
omit [Mo] in
theorem Qi {g:XG} {s:AE} (ha:Ad g s) {x:X} (h:SL g x=true):GK s x.enc=true/\(BN x).map X.enc=Af x.enc:=by
 constructor
 · rcases Tt g x with ⟨cs,rfl⟩ | h1
   · rfl
   · rw [h1] at h
     have:=Fb ha h
     unfold GK
     split
     · rfl
     · rfl
     · exact this
 · rcases KN x with h1 | ⟨v,rfl,hv⟩
   · exact h1
   · have:plain v=true:=h
     rw [hv] at this; cases this
def Ez (g:XG):X->Bool
 | .ag cs=>cs.all (PM g)
 | x=>PM g x
omit [Mo] in
theorem TR (g:XG)(x:X):(∃ cs,x=.ag cs)\/Ez g x=PM g x:=by cases x <;> first | exact .inl ⟨_,rfl⟩ | exact .inr rfl
omit [Mo] in
theorem Dh {g:XG} {s:AE} (ha:Ad g s) {x:X} (h:Ez g x=true):CZ s x.enc=true/\(BN x).map X.enc=Af x.enc:=by
 rcases TR g x with ⟨cs,rfl⟩ | h1
 · constructor
   · show CZ s (.ag (Bp cs))=true
     simp only [CZ,Aa,List.all_map,List.all_eq_true,Function.comp]
     have h':cs.all (PM g)=true:=h
     exact fun c hc=>Fb ha (List.all_eq_true.1 h' c hc)
   · simp [BN,X.enc,Af,Aa]
 · rw [h1] at h
   have hx:=Fb ha h
   constructor
   · unfold CZ
     split
     · rename_i hh; rw [hh] at hx; cases hx
     · rename_i hh; rw [hh] at hx; cases hx
     · exact hx
   · rcases KN x with h2 | ⟨v,rfl,hv⟩
     · exact h2
     · have:plain v=true:=h
       rw [hv] at this; cases this
def Ot (g:XG)(place:Nat->Option (Nat × Nat))(cells:List X):List (Nat × X)->Option (List X)
 | []=>some cells
 | (i,v) :: rest=>match place i with
   | none=>none
   | some (off,size)=>cond (SL g v && Nat.beq (BN v).length size && Nat.ble (off+size) cells.length) (Ot g place (cells.take off ++ BN v ++ cells.drop (off+size)) rest) none
omit [Mo] in
theorem Fv {g:XG} {s:AE} (ha:Ad g s) {place:Nat->Option (Nat × Nat)}:∀ {parts:List (Nat × X)} {cells out:List X},Ot g place cells parts=some out ->
   EE s place (cells.map X.enc) (parts.map fun p=>(p.1,p.2.enc))=some (out.map X.enc)
 | [],cells,out,h=>by cases h; rfl
 | (i, v) :: rest,cells,out,h=>by
   unfold Ot at h
   simp only [List.map_cons,EE]
   split at h
   · cases h
   · rename_i off size hp
     rw [hp]
     simp only
     cases hc:(SL g v && Nat.beq (BN v).length size && Nat.ble (off+size) cells.length) with
     | false=>rw [hc] at h; cases h
     | true =>
       rw [hc] at h
       simp only [Bool.and_eq_true] at hc
       obtain ⟨⟨h1,h2⟩,h3⟩:=hc
       obtain ⟨hp1,hp2⟩:=Qi ha h1
       have hl:(Af v.enc).length=(BN v).length:=by rw [<- hp2]; simp
       rw [hp1,hl,h2,List.length_map,h3]
       have:=Fv ha (parts:=rest) h
       simp only [List.map_append,List.map_take,List.map_drop,hp2] at this
       simpa using this
omit [Mo] in
theorem Cb {l:List Value}(h:l.all plain=true):Ef l=some ((l.map Bj).map X.enc):=by
 unfold Ef
 rw [if_pos h,List.map_map]
 congr 1
 refine List.map_congr_left fun v hv=>?_
 have hp:=List.all_eq_true.1 h v hv
 show V.t (.sc v)=(Bj v).enc
 rw [GP]
 unfold GU
 split
 · rename_i a; cases hp
 · rw [if_pos hp]
def QY (D:Ah) (g:XG) (t:TypeId) (parts:List (Nat × X)):Out :=
 match D.zero t with
 | some z=>cond (z.cells.toList.all plain) (match D.AW t with
   | some (.struct fs)=>match placesOf D fs.toList with
     | some pl=>match Ot g (pl[·]?) (z.cells.toList.map Bj) parts with
       | some out=>.ok (.ag out) []
       | none=>.bad
     | none=>.bad
   | some (.array _ e)=>cond (D.has e) (match Ot g (fun i=>some (i * D.size e,D.size e)) (z.cells.toList.map Bj) parts with
       | some out=>.ok (.ag out) []
       | none=>.bad) .bad
   | _=>.bad) .bad
 | none=>.bad
theorem PK (hg:Good P D) {g:XG} {o:Oper} {st:St} (ha:Ad g st.s) {t:TypeId} {ops:Array (Nat × Operand)} {parts:List (Nat × X)} (hop:o.op=.build t ops)
   (hp:(ops.toList.map fun p=>(p.1,ev AM st.t p.2))=parts.map fun p=>(p.1,p.2.enc)):Au P o st (QY D g t parts):=by
 have core:∀ {v:V},GM D st.s t (parts.map fun p=>(p.1,p.2.enc))=some v->CD P AM o st v st.s:=by
   intro v h
   refine BJ hg hop ?_
   show GM D st.s t (ops.toList.map fun p=>(p.1,ev AM st.t p.2))=_
   rw [hp]; exact h
 unfold QY
 split
 · rename_i z hz
   refine AB (fun hpl=>?_) (fun _=>trivial)
   split
   · rename_i fs hu
     split
     · rename_i pl hpls
       split
       · rename_i out hout
         refine core ?_
         simp only [GM,hu,hz,Cb hpl,hpls]
         rw [Fv ha hout]; simp [X.enc,Aa]
       · trivial
     · trivial
   · rename_i n e hu
     refine AB (fun hh=>?_) (fun _=>trivial)
     split
     · rename_i out hout
       refine core ?_
       simp only [GM,hu,hz,Cb hpl,hh]
       simp only [if_true]
       rw [Fv ha hout]; simp [X.enc,Aa]
     · trivial
   · trivial
 · trivial
def SG (D:Ah)(t:TypeId):Option X :=
 match D.AW t,D.zero t with
 | some d,some z=>cond d.isRow (match z with | .agg cs=>cond (cs.toList.all plain) (some (.ag (cs.toList.map Bj))) none | _=>none) (cond (plain z) (some (Bj z)) none)
 | _,_=>none
omit [Mo] in
theorem HE {v:Value}(h:plain v=true):(Bj v).enc=.t (.sc v):=by
 rw [GP]
 unfold GU
 split
 · cases h
 · rw [if_pos h]
omit [Mo] in
theorem KG {t:TypeId} {x:X} (h:SG D t=some x):zeroV D t=some x.enc:=by
 unfold SG at h
 unfold zeroV
 split at h
 · rename_i d z hd hz
   rw [hd,hz]
   simp only
   cases hr:d.isRow with
   | true =>
     rw [hr] at h
     simp only [cond_true] at h
     simp only [if_true]
     split at h
     · rename_i cs
       cases hp:cs.toList.all plain with
       | false=>rw [hp] at h; cases h
       | true =>
         rw [hp] at h; cases h
         simp only [Cb hp]; simp [X.enc,Aa]
     · cases h
   | false =>
     rw [hr] at h
     simp only [cond_false] at h
     cases hp:plain z with
     | false=>rw [hp] at h; cases h
     | true =>
       rw [hp] at h; cases h
       simp [HE hp]
 · cases h
def Nc:Option TypeDesc->Bool | some (.interface _)=>true | _=>false
def PC:Value->Bool | .nilIface=>true | _=>false
def NG (D:Ah) (x:X) (t:TypeId):Out :=
 cond (D.has t && !(Nc (D.AW t))) (match SG D t with
   | some z=>match x with
     | .c v=>cond (PC v) (.ok (.tp [z,.b false]) []) .bad
     | .BE u y=>cond (Nat.beq u t) (.ok (.tp [y,.b true]) []) (.ok (.tp [z,.b false]) [])
     | _=>.bad
   | none=>.bad) .bad
theorem Mu (hg:Good P D) {o:Oper} {st:St} {t xt:TypeId} {ox:Operand} {x:X} (hop:o.op=.typeAssert ox xt t true) (hx:ev AM st.t ox=x.enc):Au P o st (NG D x t):=by
 have core:∀ {v:V},EO D x.enc t=some v->CD P AM o st v st.s:=by
   intro v h
   refine BJ hg hop ?_
   show EO D (ev AM st.t ox) t=_
   rw [hx]; exact h
 unfold NG
 refine AB (fun h=>?_) (fun _=>trivial)
 simp only [Bool.and_eq_true,Bool.not_eq_true'] at h
 obtain ⟨d,hd⟩:=BH h.1
 have hni:∀ ms,d ≠ .interface ms:=by
   rintro ms rfl
   rw [hd] at h; simp [Nc] at h
 have hform:EO D x.enc t=(match x.enc with
   | .t (.sc .nilIface)=>(zeroV D t).map fun z=>.tp [z,vB false]
   | x=>match MO x with
     | some (u,y)=>if u=t then some (.tp [y,vB true]) else (zeroV D t).map fun z=>.tp [z,vB false]
     | none=>none):=by
   unfold EO
   rw [hd]
   cases d <;> first | (exact absurd rfl (hni _)) | rfl
 split
 · rename_i z hz
   have hz':=KG hz
   split
   · rename_i v
     refine AB (fun hn=>?_) (fun _=>trivial)
     have:v=.nilIface:=by unfold PC at hn; split at hn <;> first | rfl | cases hn
     subst this
     refine core ?_
     rw [hform]; simp [X.enc,plain,hz', Bp,vB]
   · rename_i u y
     cases hu:Nat.beq u t with
     | true =>
       have:=Nat.eq_of_beq_eq_true hu
       subst this
       refine core ?_
       rw [hform]; simp [X.enc,MO,Bp,vB]
     | false =>
       have:u ≠ t:=by rintro rfl; simp at hu
       refine core ?_
       rw [hform]; simp [X.enc,MO,Bp,vB,this,hz']
   · trivial
 · trivial
def Wh (g:XG)(dst:Option Nat)(t:TypeId)(x:X):Out :=
 match dst with
 | some d=>match g d with
   | none=>cond (Ez g x && Nat.blt t 3000000) (.ok (.pt d 0) [(d,some (.bx t (BN x)))]) .bad
   | some _=>.bad
 | none=>.bad
theorem Lj (hg:Good P D) {g:XG} {o:Oper} {st:St} (ha:Ad g st.s) {t:TypeId} {x:X} (hop:(∃ ox,o.op=.box t ox/\ev AM st.t ox=x.enc)\/o.op=.alloc t/\zeroV D t=some x.enc) :
   Au P o st (Wh g o.dst t x):=by
 unfold Wh
 split
 · rename_i d hd
   split
   · rename_i hn
     refine AB (fun h=>?_) (fun _=>trivial)
     rw [Bool.and_eq_true] at h
     obtain ⟨h,ht3⟩:=h
     obtain ⟨h1,h2⟩:=Dh ha h
     have hfree:(st.s d).isNone=true:=by rw [ha.no d hn]; rfl
     show CD P AM o st (.pt d 0) (Ae st.s d (some (some (.bx t (Bp (BN x))))))
     refine Qy (d:=d) hg ?_
     rcases hop with ⟨ox,hop,hx⟩ | ⟨hop,hx⟩
     · rw [hop]
       simp only [FW,hfree,hx,h1,Aa,h2,ht3]; rfl
     · rw [hop]
       simp only [FW,hfree,hx,h1,Aa,h2,ht3]; rfl
   · trivial
 · trivial
omit [Mo] in
theorem EK (ts:List T):Gq (ts.map V.t)=some ts:=by
 induction ts with
 | nil=>rfl
 | cons t ts ih=>simp [Gq,Yx,ih]
omit [Mo] in
theorem BK.get:∀ {xs ys:List T},BK xs ys->xs.length=ys.length/\∀ (j:Nat) (y:T),ys[j]? = some y->∃ x,xs[j]? = some x/\KI x y
 | _,_,.nil=>⟨rfl,fun j y h=>by simp at h⟩
 | _,_,.cons x y xs ys h hs=>by
   obtain ⟨h1,h2⟩:=BK.get hs
   refine ⟨by simp [h1],fun j z hz=>?_⟩
   cases j with
   | zero=>cases hz; exact ⟨x,rfl,h⟩
   | succ j=>exact h2 j z (by simpa using hz)
omit [Mo] in
theorem BZ.Eg {w:World} {F:Nat->Prop} {loc:Nat->Option Loc} {e sz:Nat} {rows rows':List (List T)} {l:Loc} (h:BZ w F loc (some (.ar e sz rows)) l) (hl:rows.length=rows'.length)
   (hw:∀ (i:Nat) (r':List T),rows'[i]? = some r' -> ∃ r,rows[i]? = some r/\BK r r'):BZ w F loc (some (.ar e sz rows')) l:=by
 cases h with
 | ar _ _ _ b cap cells hz hsz hown h1 hr =>
   rw [hl] at hown ⊢
   refine .ar e sz rows' b cap cells hz (fun r' hr'=>?_) hown h1 (fun i r' hi j x hj=>?_)
   · obtain ⟨i,hi⟩:=List.getElem?_of_mem hr'
     obtain ⟨r,h2,h3⟩:=hw i r' hi
     rw [<- h3.get.1]; exact hsz r (List.mem_of_getElem? h2)
   · obtain ⟨r,h2,h3⟩:=hw i r' hi
     obtain ⟨y,h4,h5⟩:=h3.get.2 j x hj
     obtain ⟨v,h6,h7⟩:=hr i r h2 j y h4
     exact ⟨v,h6,h5.rel h7⟩
theorem AK.Eg {B:BB} {w:World} {F:Nat->Prop} {loc:Nat->Option Loc} {s:AE} (hS:AK AM B w F loc s) {o e sz:Nat} {rows rows':List (List T)} (ho:s o=some (some (.ar e sz rows))) (hl:rows.length=rows'.length)
   (hw:∀ (i:Nat) (r':List T),rows'[i]? = some r' -> ∃ r,rows[i]? = some r/\BK r r'):AK AM B w F loc (Ae s o (some (some (.ar e sz rows')))):=by
 refine { hS with Cg:=fun o' obj h'=>?_,Fp:=fun o' l hl'=>?_ }
 · by_cases hod:o' = o
   · subst hod
     rw [AA] at h'; cases h'
     obtain ⟨l,h1,h2⟩:=hS.Cg o' _ ho
     exact ⟨l,h1,h2.Eg hl hw⟩
   · rw [AJ _ _ hod] at h'; exact hS.Cg o' obj h'
 · by_cases hod:o' = o
   · subst hod; exact ⟨_,AA _ _ _⟩
   · rw [AJ _ _ hod]; exact hS.Fp o' l hl'
omit [Mo] in
theorem BZ.QW {w:World} {F:Nat->Prop} {loc:Nat->Option Loc} {e sz:Nat} {rows:List (List T)} {l:Loc} (h:BZ w F loc (some (.ar e sz rows)) l) (he:e < 1000000):BZ w F loc (some (.ar (e+2000000) sz rows)) l:=by
 cases h with
 | ar _ _ _ b cap cells hz hsz hown h1 hr =>
   refine .ar _ sz rows b cap cells hz hsz ?_ h1 hr
   rcases CV hown with ⟨hv,hn⟩ | ⟨g,cap', cur,te,fr,hv,hg,hm,h3,h4,h5,h6⟩
   · exact .inl ⟨⟨Bs hown,.inl ⟨hv,hn⟩⟩,.inr hv⟩
   · rw [hv]
     refine FJ (Bs hown) hg (.inr ⟨by omega,?_,fun h=>absurd h (by omega)⟩) h3 h4 h5 h6
     rcases hm with ⟨h,_⟩ | ⟨h,_⟩ <;> omega
theorem AK.QW {B:BB} {w:World} {F:Nat->Prop} {loc:Nat->Option Loc} {s:AE} (hS:AK AM B w F loc s) {o e sz:Nat} {rows:List (List T)} (ho:s o=some (some (.ar e sz rows))) (he:e < 1000000) :
   AK AM B w F loc (Ae s o (some (some (.ar (e+2000000) sz rows)))):=by
 refine { hS with Cg:=fun o' obj h'=>?_,Fp:=fun o' l hl'=>?_ }
 · by_cases hod:o' = o
   · subst hod
     rw [AA] at h'; cases h'
     obtain ⟨l,h1,h2⟩:=hS.Cg o' _ ho
     exact ⟨l,h1,h2.QW he⟩
   · rw [AJ _ _ hod] at h'; exact hS.Cg o' obj h'
 · by_cases hod:o' = o
   · subst hod; exact ⟨_,AA _ _ _⟩
   · rw [AJ _ _ hod]; exact hS.Fp o' l hl'
theorem CD.Eg {o:Oper}{st:St}{v:V}{s':AE}{n e sz:Nat}{rows rows':List (List T)}(h:CD P AM o st v s')(ho:s' n=some (some (.ar e sz rows)))(hl:rows.length=rows'.length)
   (hw:∀ (i:Nat) (r':List T),rows'[i]? = some r' -> ∃ r,rows[i]? = some r/\BK r r'):CD P AM o st v (Ae s' n (some (some (.ar e sz rows')))):=by
 intro B F loc a w hR
 obtain ⟨F', loc', w', x,r,h1,h2,h3,h4,h5,h6⟩:=h B F loc a w hR
 exact ⟨F', loc', w', x,r,h1,h2,h3.Eg ho hl hw,h4,h5,h6⟩
def Pp (D:Ah) (g:XG) (t:TypeId) (p x:X):Out :=
 cond (D.has t && Ez g x && Nat.beq (BN x).length (D.size t)) (match p with
   | .pt o off=>match gx g o with
     | some (.bx e cells)=>cond (Nat.ble (off+D.size t) cells.length && Nat.blt e 3000000) (.ok (.tp []) [(o,some (.bx e (cells.take off ++ BN x ++ cells.drop (off+D.size t))))]) .bad
     | _=>.bad
   | .pe o i off=>match gx g o with
     | some (.ar e r xs)=>cond (Nat.ble (off+D.size t) r.len && Nat.blt e 2000000)
         (match x with
         | .sl nl q=>match gx g q with
           | some (.ar _ r2 ys)=>cond (Nat.beq q o) .bad
             (.Nk r.den ((xs[i]?).bind fun a=>r.Az ((r.cells a).take off ++ [.fz nl r2 ys] ++ (r.cells a).drop (off+D.size t))) fun b=>(.tp [],[(o,some (.ar e r (xs.set i b))),(q,none)]))
           | _=>.bad
         | x=>.Nk r.den ((xs[i]?).bind fun a=>r.Az ((r.cells a).take off ++ BN x ++ (r.cells a).drop (off+D.size t))) fun b=>(.tp [],[(o,some (.ar e r (xs.set i b)))])) .bad
     | _=>.bad
   | _=>.bad) .bad
theorem Le {o:Oper} {st:St} {t:TypeId} {n i off e:Nat} {r:Row} {xs:List r.den} {x:X} {s2:AE} (hs2:s2 n=some (some (.ar e r.len (xs.map r.en)))) (ht:D.has t=true) (h1:CZ s2 x.enc=true) (h2:(BN x).map X.enc=Af x.enc)
   (hl':(Af x.enc).length=D.size t) (hleB:(Nat.ble (off+D.size t) r.len && Nat.blt e 2000000)=true) (st_ok:∀ s', FL D s2 t (.pe n i off) x.enc=some s' -> CD P AM o st vU s')
   {b:r.den} (hb:((xs[i]?).bind fun a=>r.Az ((r.cells a).take off ++ BN x ++ (r.cells a).drop (off+D.size t)))=some b):CD P AM o st vU (Ae s2 n (some (some (.ar e r.len ((xs.set i b).map r.en))))):=by
 have hle:Nat.ble (off+D.size t) r.len=true:=((Bool.and_eq_true _ _).mp hleB).1
 obtain ⟨a,hxa,hb⟩:=Option.bind_eq_some_iff.1 hb
 obtain ⟨ts,hts,hw⟩:=r.BS _ b hb
 rw [List.map_append,List.map_append,List.map_take,List.map_drop,r.Br,h2] at hts
 have hget:get s2 n=some (.ar e r.len (xs.map r.en)):=by unfold get; rw [hs2]
 have hsub:∃ us,Gq (Af x.enc)=some us/\ts=(r.en a).take off ++ us ++ (r.en a).drop (off+D.size t):=by
   have hm:=Cz hts
   have hlen:((r.en a).map V.t).length=r.len:=by simp [r.CS]
   have hle':off+D.size t<=r.len:=Nat.le_of_ble_eq_true hle
   refine ⟨(ts.drop off).take (D.size t),?_,?_⟩
   · have h3:Af x.enc=((ts.drop off).take (D.size t)).map V.t:=by
       rw [List.map_take,List.map_drop,<- hm,List.append_assoc,List.drop_append_of_le_length (by simp [r.CS]; omega)]
       have h4:List.drop off (List.take off ((r.en a).map V.t))=[]:=by simp
       rw [h4,List.nil_append,List.take_append_of_le_length (by omega),<- hl', List.take_length]
     rw [h3,EK]
   · have h5:ts.map V.t=((r.en a).take off ++ (ts.drop off).take (D.size t) ++ (r.en a).drop (off+D.size t)).map V.t:=by
       have h3:Af x.enc=((ts.drop off).take (D.size t)).map V.t:=by
         rw [List.map_take,List.map_drop,<- hm,List.append_assoc,List.drop_append_of_le_length (by simp [r.CS]; omega)]
         have h4:List.drop off (List.take off ((r.en a).map V.t))=[]:=by simp
         rw [h4,List.nil_append,List.take_append_of_le_length (by omega),<- hl', List.take_length]
       rw [List.map_append,List.map_append,<- h3,<- hm,List.map_take,List.map_drop]
     exact (List.map_inj_right (fun _ _ h=>by injection h)).1 h5
 obtain ⟨us,hus,hts2⟩:=hsub
 have hix:i < xs.length:=(List.getElem?_eq_some_iff.1 hxa).1
 have key:CD P AM o st vU (Ae s2 n (some (some (.ar e r.len ((xs.map r.en).set i ts))))):=by
   refine st_ok _ ?_
   have hlr:(Nat.ble (off+D.size t) (r.en a).length && Nat.blt e 2000000)=true:=by rw [r.CS]; exact hleB
   simp only [FL,ht,h1,hl', hget,List.getElem?_map,hxa,Option.map_some,hus,hlr,hts2]
   simp
 have:=key.Eg (n:=n) (rows':=(xs.set i b).map r.en) (AA _ _ _) (by simp) (fun j r' hj=>?_)
 · show CD P AM o st vU (Ae s2 n (some (some (.ar e r.len ((xs.set i b).map r.en)))))
   have hu:∀ (y z:Option (Option O)),Ae (Ae s2 n y) n z=Ae s2 n z:=by
     intro y z; funext m; by_cases hm:m=n
     · subst hm; simp [AA]
     · simp [AJ _ _ hm]
   rw [hu] at this; exact this
 · rw [List.getElem?_map] at hj
   by_cases hji:j=i
   · subst hji
     rw [List.getElem?_set_self hix] at hj
     cases hj
     exact ⟨ts,by rw [List.getElem?_set_self (by simpa using hix)],hw⟩
   · rw [List.getElem?_set_ne (fun h=>hji h.symm)] at hj
     refine ⟨r', by rw [List.getElem?_set_ne (fun h=>hji h.symm),List.getElem?_map]; exact hj,?_⟩
     have refl:∀ l:List T,BK l l:=by
       intro l; induction l with
       | nil=>exact .nil
       | cons x l ih=>exact .cons _ _ _ _ (.refl _) ih
     exact refl _
theorem Ox (hg:Good P D) {g:XG} {o:Oper} {st:St} (ha:Ad g st.s) {t:TypeId} {op ox:Operand} {p x:X} (hop:o.op=.store t op ox) (hp:ev AM st.t op=p.enc) (hx:ev AM st.t ox=x.enc) :
   Au P o st (Pp D g t p x):=by
 unfold Pp
 refine AB (fun h=>?_) (fun _=>trivial)
 simp only [Bool.and_eq_true] at h
 obtain ⟨⟨ht,hs⟩,hl⟩:=h
 obtain ⟨h1,h2⟩:=Dh ha hs
 have hl':(Af x.enc).length=D.size t:=by rw [<- h2,List.length_map]; exact Nat.eq_of_beq_eq_true hl
 split
 · rename_i n off
   split
   · rename_i e cells hgx
     refine AB (fun hle=>?_) (fun _=>trivial)
     show CD P AM o st vU (Ae st.s n (some (some (.bx e (Bp (cells.take off ++ BN x ++ cells.drop (off+D.size t)))))))
     refine OV hg hop ?_
     rw [hp,hx]
     simp only [FL,ht,h1,hl', X.enc,ha.get hgx,XO.enc,Aa,List.length_map,hle,List.map_append,List.map_take,List.map_drop,h2]
     simp
   · trivial
 · rename_i n i off
   split
   · rename_i e r xs hgx
     refine AB (fun hleB=>?_) (fun _=>trivial)
     have hns:st.s n=some (some (.ar e r.len (xs.map r.en))):=ha.is _ _ (BU hgx)
     split
     · rename_i nl q
       split
       · rename_i e2 r2 ys hq
         refine AB (fun _=>trivial) (fun hqo=>?_)
         have hne:n ≠ q:=by rintro rfl; rw [Nat.beq_refl] at hqo; cases hqo
         intro b hb
         have hl1:1=D.size t:=by have:=Nat.eq_of_beq_eq_true hl; simpa [BN] using this
         refine Le (x:=.fz nl r2 ys) (s2:=Ae st.s q (some none)) ((AJ _ _ hne).trans hns) ht rfl rfl hl1 hleB (fun s' h=>?_) hb
         refine NN hg hop (hx.trans rfl) (ha.get hq) ?_
         rw [hp]; exact h
       · trivial
     · intro b hb
       refine Le hns ht h1 h2 hl' hleB (fun s' h=>OV hg hop ?_) hb
       rw [hp,hx]; exact h
   · trivial
 · trivial
end Go.Proofs.YtobfoiomjfdjjaaDoor.Mc

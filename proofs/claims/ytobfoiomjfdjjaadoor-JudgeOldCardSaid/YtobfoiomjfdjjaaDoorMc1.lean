/- The machine: abstract values and stores, and the laws by which a walk goes through code. Its parts in order. -/
import Derived.Laws.AppendOwn
import Derived.Tactics
import Derived.Below
import Derived.KernelRfl
import Derived.MapKept
import Derived.Laws.IdiomRangeMap
import Derived.Laws.Entries
import Derived.Laws.StructEq
import Derived.WalkSpells
import Derived.WalkLawsBesides
import Derived.Laws.Cells
import Derived.Deep.MidRow
import Derived.Laws.Tables
import Derived.Laws.MakeOwn
import Derived.Laws.CopyRow
import Derived.Great.BuildSlice
import Derived.Laws.OwnMore
import Derived.Laws.BytesArg
set_option linter.unusedVariables false
set_option linter.unusedSimpArgs false
set_option linter.constructorNameAsVariable false
namespace Go.Proofs.YtobfoiomjfdjjaaDoor.Mc
open Go.RowKit
class Mo where
 m:Bool
inductive Nl where | e | n | u
 deriving DecidableEq
inductive T where
 | sc (v:Value)
 | fz (nl:Nl) (rows:List (List T))
 | BE (t:TypeId) (x:T)
 | ag (cells:List T)
 deriving Inhabited
inductive V where
 | t (x:T)
 | sl (nl:Nl) (o:Nat)
 | sw (o off len:Nat)
 | pt (o off:Nat)
 | pe (o i off:Nat)
 | pf (cells:List T) (off:Nat)
 | mp (o:Nat)
 | it (o:Nat)
 | sp (o:Nat)
 | fn (f:FuncId) (caps:List V)
 | ag (cells:List V)
 | tp (vs:List V)
 | BE (t:TypeId) (x:V)
 | dead
 deriving Inhabited
inductive O where
 | ar (e:TypeId) (sz:Nat) (rows:List (List T))
 | bx (e:TypeId) (cells:List V)
 | mp (kd:TypeDesc) (ag:Bool) (es:List (Value × List T))
 | mq (kd:TypeDesc) (ag:Bool) (es:List (Value × List T)) (i:Nat) (rest cu:List (Value × List T))
 | si (s:ByteArray) (pos:Nat)
 | mi (m:Nat)
 deriving Inhabited
abbrev AE:=Nat->Option (Option O)
def V.ref:V->Option Nat
 | .sl _ o=>some o
 | .sw o _ _=>some o
 | .pt o _=>some o
 | .pe o _ _=>some o
 | .mp o=>some o
 | .it o=>some o
 | .sp o=>some o
 | _=>none
def plain:Value->Bool
 | .bool _=>true
 | .int _ _=>true
 | .string _=>true
 | .pointer none=>true
 | .slice none 0 0=>true
 | .map none=>true
 | .nilFunc=>true
 | .nilIface=>true
 | .func (.func _) a b=>a.isEmpty && b.isEmpty
 | _=>false
theorem IB {v:Value}(h:plain v=true):v.oneCell' = true:=by
 unfold plain at h
 split at h <;> first | rfl | cases h
inductive BG (w:World) (F:Nat->Prop):T->Value->Prop where
 | sc (v:Value) (h:plain v=true):BG w F (.sc v) v
 | nil (nl:Nl) (h:nl ≠ .e):BG w F (.fz nl []) (.slice none 0 0)
 | mt (nl:Nl) (a:Addr) (cap:Nat) (h:nl ≠ .n):BG w F (.fz nl []) (.slice (some a) 0 cap)
 | fz (nl:Nl) (rows:List (List T)) (sz b off cap:Nat) (val:Nat->Nat->Value) (hF:F b) (hn:rows ≠ []) (hz:0 < sz) (hsz:∀ r ∈ rows,r.length=sz) (hcap:rows.length<=cap)
     (hc:∀ (i:Nat) (r:List T),rows[i]? = some r->∀ j,j < sz->w.cell? ⟨b,off+i * sz+j,none⟩=some (val i j))
     (h1:∀ (i:Nat) (r:List T),rows[i]? = some r->∀ j,j < sz->(val i j).oneCell' = true)
     (hr:∀ (i:Nat) (r:List T),rows[i]? = some r->∀ (j:Nat) (x:T),r[j]? = some x->BG w F x (val i j)) :
     BG w F (.fz nl rows) (.slice (some ⟨b,off,none⟩) rows.length cap)
 | BE (t:TypeId) (x:T) (v:Value) (h:BG w F x v):BG w F (.BE t x) (.iface t v)
 | ag (xs:List T) (vs:List Value) (val:Nat->Value) (hl:xs.length=vs.length) (hv:∀ j,j < xs.length->vs[j]? = some (val j))
     (h:∀ (j:Nat) (x:T),xs[j]? = some x->BG w F x (val j)):BG w F (.ag xs) (.agg vs.toArray)
def Kept (w:World)(F:Nat->Prop)(w':World)(F':Nat->Prop):Prop:=∀ b,F b->F' b/\w'.heap[b]? = w.heap[b]?
theorem Kept.refl (w:World)(F:Nat->Prop):Kept w F w F:=fun _ h=>⟨h,rfl⟩
theorem Kept.trans {w w' w'':World}{F F' F'':Nat->Prop}(h:Kept w F w' F')(k:Kept w' F' w'' F''):Kept w F w'' F'' :=
 fun b hb=>⟨(k b (h b hb).1).1,(k b (h b hb).1).2.trans (h b hb).2⟩
theorem BD {w w':World}{a:Addr}(h:w'.heap[a.block]? = w.heap[a.block]?):w'.cell? a=w.cell? a:=by simp [World.cell?,h]
theorem BG.mono {w w':World}{F F':Nat->Prop}(hk:Kept w F w' F'){x:T}{v:Value}(h:BG w F x v):BG w' F' x v:=by
 induction h with
 | sc v h=>exact .sc v h
 | nil nl h=>exact .nil nl h
 | mt nl a cap h=>exact .mt nl a cap h
 | fz nl rows sz b off cap val hF hn hz hsz hcap hc h1 hr ih =>
   exact .fz nl rows sz b off cap val (hk b hF).1 hn hz hsz hcap (fun i r hi j hj=>(BD (w:=w) (hk b hF).2).trans (hc i r hi j hj)) h1 ih
 | BE t x v _ ih=>exact .BE t x v ih
 | ag xs vs val hl hv h ih=>exact .ag xs vs val hl hv ih
inductive Loc where
 | gone
 | arr (b:Option Nat) (n cap sz:Nat)
 | Bo (b:Nat)
def Loc.block:Loc->Option Nat
 | .gone=>none
 | .arr b _ _ _=>b
 | .Bo b=>some b
inductive AF (w:World) (F:Nat->Prop) (loc:Nat->Option Loc):V->Value->Prop where
 | t (x:T) (v:Value) (h:BG w F x v):AF w F loc (.t x) v
 | gone (x:V) (o:Nat) (v:Value) (hx:x.ref=some o) (ho:loc o=some .gone):AF w F loc x v
 | dead (v:Value):AF w F loc .dead v
 | sl (nl:Nl) (o:Nat) (b:Option Nat) (n cap sz:Nat) (ho:loc o=some (.arr b n cap sz)) (he:nl=.e->b.isSome=true) (hn:nl=.n->b.isSome=true->0 < n)
     (h0:b=none->n=0/\cap=0):AF w F loc (.sl nl o) (.slice (b.map fun b=>⟨b,0,none⟩) n cap)
 | sw (o off len:Nat) (b:Option Nat) (n cap sz:Nat) (a:Option Addr) (ho:loc o=some (.arr b n cap sz)) (hl:off+len<=n) (ha:0 < len->∃ g,b=some g/\a=some ⟨g,off * sz,none⟩)
     (h0:off=0->a=b.map fun b=>⟨b,0,none⟩) (hn:a=none->cap=0):AF w F loc (.sw o off len) (.slice a len (cap - off))
 | pt (o off b:Nat) (ho:loc o=some (.Bo b)):AF w F loc (.pt o off) (.pointer (some ⟨b,off,none⟩))
 | pe (o i off b n cap sz:Nat) (ho:loc o=some (.arr (some b) n cap sz)) (hi:i < n):AF w F loc (.pe o i off) (.pointer (some ⟨b,i * sz+off,none⟩))
 | pf (cells:List T) (off b o0:Nat) (val:Nat->Value) (hF:F b) (hc:∀ j,j < cells.length->w.cell? ⟨b,o0+j,none⟩=some (val j))
     (hr:∀ (j:Nat) (x:T),cells[j]? = some x->BG w F x (val j)):AF w F loc (.pf cells off) (.pointer (some ⟨b,o0+off,none⟩))
 | mp (o b:Nat) (ho:loc o=some (.Bo b)):AF w F loc (.mp o) (.map (some b))
 | it (o b:Nat) (ho:loc o=some (.Bo b)):AF w F loc (.it o) (.pointer (some ⟨b,0,none⟩))
 | sp (o b:Nat) (ho:loc o=some (.Bo b)):AF w F loc (.sp o) (.pointer (some ⟨b,0,none⟩))
 | WJ (o:Nat):AF w F loc (.sp o) (.pointer none)
 | fn (f:FuncId) (xs:List V) (vs:List Value) (val:Nat->Value) (hl:xs.length=vs.length) (hv:∀ j,j < xs.length->vs[j]? = some (val j))
     (h:∀ (j:Nat) (x:V),xs[j]? = some x->AF w F loc x (val j)):AF w F loc (.fn f xs) (.func (.func f) #[] vs.toArray)
 | ag (xs:List V) (vs:List Value) (val:Nat->Value) (hl:xs.length=vs.length) (hv:∀ j,j < xs.length->vs[j]? = some (val j))
     (h:∀ (j:Nat) (x:V),xs[j]? = some x->AF w F loc x (val j)):AF w F loc (.ag xs) (.agg vs.toArray)
 | tp (xs:List V) (vs:List Value) (val:Nat->Value) (hl:xs.length=vs.length) (hv:∀ j,j < xs.length->vs[j]? = some (val j))
     (h:∀ (j:Nat) (x:V),xs[j]? = some x->AF w F loc x (val j)):AF w F loc (.tp xs) (.tuple vs.toArray)
 | BE (t:TypeId) (x:V) (v:Value) (h:AF w F loc x v):AF w F loc (.BE t x) (.iface t v)
def Ak (loc loc':Nat->Option Loc):Prop:=∀ o l,loc o=some l->loc' o=some l\/loc' o=some .gone
theorem Ak.refl (loc:Nat->Option Loc):Ak loc loc:=fun _ _ h=>.inl h
theorem Ak.trans {l l' l'':Nat->Option Loc}(h:Ak l l')(k:Ak l' l''):Ak l l'':=fun o x hx=>by
 rcases h o x hx with h | h
 · exact k o x h
 · exact .inr ((k o _ h).elim id id)
theorem AF.mono {w w':World}{F F':Nat->Prop}{loc loc':Nat->Option Loc}(hk:Kept w F w' F')(hs:Ak loc loc'){x:V}{v:Value}(h:AF w F loc x v):AF w' F' loc' x v:=by
 induction h with
 | t x v h=>exact .t x v (h.mono hk)
 | gone x o v hx ho=>exact .gone x o v hx ((hs o _ ho).elim id id)
 | dead v=>exact .dead v
 | sl nl o b n cap sz ho he hn h0 =>
   rcases hs o _ ho with h | h
   · exact .sl nl o b n cap sz h he hn h0
   · exact .gone _ o _ rfl h
 | sw o off len b n cap sz a ho hl ha h0 hn =>
   rcases hs o _ ho with h | h
   · exact .sw o off len b n cap sz a h hl ha h0 hn
   · exact .gone _ o _ rfl h
 | pt o off b ho =>
   rcases hs o _ ho with h | h
   · exact .pt o off b h
   · exact .gone _ o _ rfl h
 | pe o i off b n cap sz ho hi =>
   rcases hs o _ ho with h | h
   · exact .pe o i off b n cap sz h hi
   · exact .gone _ o _ rfl h
 | pf cells off b o0 val hF hc hr=>exact .pf cells off b o0 val (hk b hF).1 (fun j hj=>(BD (w:=w) (hk b hF).2).trans (hc j hj)) (fun j x hj=>(hr j x hj).mono hk)
 | mp o b ho =>
   rcases hs o _ ho with h | h
   · exact .mp o b h
   · exact .gone _ o _ rfl h
 | it o b ho =>
   rcases hs o _ ho with h | h
   · exact .it o b h
   · exact .gone _ o _ rfl h
 | sp o b ho =>
   rcases hs o _ ho with h | h
   · exact .sp o b h
   · exact .gone _ o _ rfl h
 | WJ o=>exact .WJ o
 | fn f xs vs val hl hv _ ih=>exact .fn f xs vs val hl hv ih
 | ag xs vs val hl hv _ ih=>exact .ag xs vs val hl hv ih
 | tp xs vs val hl hv _ ih=>exact .tp xs vs val hl hv ih
 | BE t x v _ ih=>exact .BE t x v ih
def Eh (es:Array MapEntry)(xs:List (Value × Value)):Prop:=es.toList.map (fun e=>(e.key,e.val))=xs
def KS:List (Value × Value)->List Value
 | []=>[]
 | p :: l=>p.1 :: p.2 :: KS l
def EY (w:World)(F:Nat->Prop)(loc:Nat->Option Loc)(xs:List V)(vs:List (Value × Value)):Prop :=
 xs.length=(KS vs).length/\∀ (j:Nat) (x:V),xs[j]? = some x->∃ v,(KS vs)[j]? = some v/\v.oneCell' = true/\AF w F loc x v
theorem EY.mono {w w':World}{F F':Nat->Prop}{loc loc':Nat->Option Loc}(hk:Kept w F w' F')(hs:Ak loc loc'){xs:List V}{vs:List (Value × Value)}(h:EY w F loc xs vs):EY w' F' loc' xs vs :=
 ⟨h.1,fun j x hj=>by obtain ⟨v,h1,h2,h3⟩:=h.2 j x hj; exact ⟨v,h1,h2,h3.mono hk hs⟩⟩
theorem EY.map {w w':World}{F F':Nat->Prop}{loc loc':Nat->Option Loc}{f:V->V}(hf:∀ x v,AF w F loc x v->AF w' F' loc' (f x) v){xs:List V}{vs:List (Value × Value)}(h:EY w F loc xs vs):EY w' F' loc' (xs.map f) vs:=by
 refine ⟨by rw [List.length_map]; exact h.1,fun j x hj=>?_⟩
 rw [List.getElem?_map] at hj
 obtain ⟨y,hy,rfl⟩:=Option.map_eq_some_iff.1 hj
 obtain ⟨v,h1,h2,h3⟩:=h.2 j y hy
 exact ⟨v,h1,h2,hf _ _ h3⟩
def DN (w:World)(F:Nat->Prop)(ag:Bool)(r:List T)(v:Value):Prop :=
 if ag=true then ∃ cs:Array Value,v=.agg cs/\cs.size=r.length/\∀ (j:Nat) (x:T),r[j]? = some x->∃ u,cs[j]? = some u/\u.oneCell' = true/\BG w F x u
 else ∃ x,r=[x]/\BG w F x v
def Alike (w:World)(F:Nat->Prop)(ag:Bool)(es:List (Value × List T))(vs:List (Value × Value)):Prop :=
 vs.length=es.length/\∀ (i:Nat) (k:Value) (r:List T),es[i]? = some (k,r)->∃ v,vs[i]? = some (k,v)/\DN w F ag r v
structure HX (w:World)(F:Nat->Prop)(kd:TypeDesc)(ag:Bool)(es:List (Value × List T))(en:Array MapEntry)(clock:Nat)(vs:List (Value × Value)):Prop where
 st:Go.MapKept.Stamped en clock
 LV:∃ v0,v0.Perm vs/\Eh en v0
 al:Alike w F ag es vs
 ks:∀ x ∈ en.toList,Go.MapKept.IsKey kd x.key
structure Mf (w:World)(F:Nat->Prop)(ag:Bool)(rest cu:List (Value × List T))(en:Array MapEntry)(clock since c0:Nat)(seen:Array Nat)(vr:List (Value × Value)):Prop where
 sc:since<=c0
 sk:since<=clock
 Hd:∀ x ∈ en.toList,x.born < since
 LV:∃ v0,v0.Perm vr/\Eh (leftOf en seen) v0
 al:Alike w F ag rest vr
 cur:∃ vc,Alike w F ag cu vc/\∀ k v,vc[0]? = some (k,v)->c0=clock/\∃ e ∈ en.toList,seen.back? = some e.born/\e.key=k/\e.val=v
end Go.Proofs.YtobfoiomjfdjjaaDoor.Mc
namespace Go.Proofs.YtobfoiomjfdjjaaDoor.Mc
open Go.RowKit
variable [Mo]
def World.DG (w:World)(e:TypeId)(sz:Nat)(v:Value)(n:Nat)(xs:List Value):Prop :=
 (w.ownsRow 0 e sz v n xs/\(e < 1000000\/v=.slice none 0 0))\/(1000000<=e/\xs.length=n * sz/\∃ (g cap:Nat) (cur:Array Value) (fr:Nat × Nat),v=.slice (some ⟨g,0,none⟩) n cap/\w.heap[g]? = some (.cells cur (e % 1000000) fr)/\(e < 2000000->cap * sz<=fr.1)/\n<=cap/\cap<=maxLen/\cur.size=cap * sz/\cur.toList.take (n * sz)=xs)
omit [Mo] in
theorem Bs {w:World}{e sz n:Nat}{v:Value}{xs:List Value}(h:World.DG w e sz v n xs):xs.length=n * sz:=h.elim (·.1.1) (·.2.1)
omit [Mo] in
theorem Fe {w:World}{e sz n:Nat}{v:Value}{xs:List Value}(h:World.DG w e sz v n xs)(he:e < 1000000):w.ownsRow 0 e sz v n xs:=h.elim (·.1) fun h=>(Nat.not_lt.2 h.1 he).elim
omit [Mo] in
theorem Bx {w:World}{e sz n:Nat}{v:Value}{xs:List Value}(h:w.ownsRow 0 e sz v n xs)(he:e < 1000000):World.DG w e sz v n xs:=.inl ⟨h,.inl he⟩
omit [Mo] in
theorem MN (w:World)(e sz:Nat):World.DG w e sz (.slice none 0 0) 0 []:=.inl ⟨World.ownsRow_nil w 0 e sz,.inr rfl⟩
def marked (e:Nat)(m:Nat)(te:Nat)(fr:Nat × Nat):Prop:=(te=e/\fr=(0,0)/\e < 1000000)\/(1000000<=e/\te=e % 1000000/\(e < 2000000->m<=fr.1))
omit [Mo] in
theorem CV {w:World}{e sz n:Nat}{v:Value}{xs:List Value}(h:World.DG w e sz v n xs) :
   (v=.slice none 0 0/\n=0)\/∃ (g cap:Nat) (cur:Array Value) (te:TypeId) (fr:Nat × Nat),v=.slice (some ⟨g,0,none⟩) n cap/\w.heap[g]? = some (.cells cur te fr)/\marked e (cap * sz) te fr/\n<=cap/\cap<=maxLen/\cur.size=cap * sz/\cur.toList.take (n * sz)=xs:=by
 rcases h with ⟨⟨_,h | ⟨g,cap,cur,h1,_,h2,h3⟩⟩,hb⟩ | ⟨h0,_,g,cap,cur,fr,h1,h2,h3,h4⟩
 · exact .inl h
 · refine .inr ⟨g,cap,cur,e,(0,0),h1,h2,.inl ⟨rfl,rfl,?_⟩,h3⟩
   rcases hb with hb | hb
   · exact hb
   · rw [h1] at hb; cases hb
 · exact .inr ⟨g,cap,cur,_,fr,h1,h2,.inr ⟨h0,rfl,h3⟩,h4⟩
omit [Mo] in
theorem FJ {w:World}{e sz n g cap:Nat}{cur:Array Value}{te:TypeId}{fr:Nat × Nat}{xs:List Value}(hl:xs.length=n * sz)(hg:w.heap[g]? = some (.cells cur te fr))(hm:marked e (cap * sz) te fr)(hn:n<=cap)(hc:cap<=maxLen)(hs:cur.size=cap * sz)(ht:cur.toList.take (n * sz)=xs):World.DG w e sz (.slice (some ⟨g,0,none⟩) n cap) n xs:=by
 rcases hm with ⟨rfl,rfl,hb⟩ | ⟨h0,rfl,h3⟩
 · exact .inl ⟨⟨hl,.inr ⟨g,cap,cur,rfl,Nat.zero_le _,hg,hn,hc,hs,ht⟩⟩,.inl hb⟩
 · exact .inr ⟨h0,hl,g,cap,cur,fr,rfl,hg,h3,hn,hc,hs,ht⟩
inductive BZ (w:World) (F:Nat->Prop) (loc:Nat->Option Loc):Option O->Loc->Prop where
 | gone:BZ w F loc none .gone
 | ar (e:TypeId) (sz:Nat) (rows:List (List T)) (b:Option Nat) (cap:Nat) (cells:List Value) (hz:0 < sz) (hsz:∀ r ∈ rows,r.length=sz)
     (hown:World.DG w e sz (.slice (b.map fun b=>⟨b,0,none⟩) rows.length cap) rows.length cells) (h1:∀ u ∈ cells,u.oneCell' = true)
     (hr:∀ (i:Nat) (r:List T),rows[i]? = some r->∀ (j:Nat) (x:T),r[j]? = some x->∃ v,cells[i * sz+j]? = some v/\BG w F x v) :
     BZ w F loc (some (.ar e sz rows)) (.arr b rows.length cap sz)
 | bx (e:TypeId) (xs:List V) (cs:Array Value) (b:Nat) (he:Nat.blt e 3000000=true) (hb:w.heap[b]? = some (.cells cs e (0,0))) (hl:xs.length=cs.size)
     (hr:∀ (j:Nat) (x:V),xs[j]? = some x->∃ v,cs[j]? = some v/\v.oneCell' = true/\AF w F loc x v):BZ w F loc (some (.bx e xs)) (.Bo b)
 | ms (e:TypeId) (xs:List V) (b:Nat) (en:Array MapEntry) (clock:Nat) (vs:List (Value × Value)) (he:Nat.blt e 3000000=false) (hb:w.heap[b]? = some (.map en clock)) (hs:Go.MapKept.Stamped en clock) (hen:Eh en vs)
     (hks:∀ x ∈ en.toList,Go.MapKept.IsKey (.int .i64) x.key) (hr:EY w F loc xs vs):BZ w F loc (some (.bx e xs)) (.Bo b)
 | si (s:ByteArray) (pos b:Nat) (hb:w.heap[b]? = some (.stringIter s pos)):BZ w F loc (some (.si s pos)) (.Bo b)
 | mp (kd:TypeDesc) (ag:Bool) (es:List (Value × List T)) (b:Nat) (en:Array MapEntry) (clock:Nat) (vs:List (Value × Value)) (hb:w.heap[b]? = some (.map en clock)) (hm:HX w F kd ag es en clock vs):BZ w F loc (some (.mp kd ag es)) (.Bo b)
 | mq (kd:TypeDesc) (ag:Bool) (es:List (Value × List T)) (i:Nat) (rest cu:List (Value × List T)) (b:Nat) (en:Array MapEntry) (clock:Nat) (vs vr:List (Value × Value)) (c since c0:Nat) (seen:Array Nat) (hb:w.heap[b]? = some (.map en clock)) (hm:HX w F kd ag es en clock vs)
     (hi:loc i=some (.Bo c)) (hc:w.heap[c]? = some (.mapIter (some b) since seen c0)) (ho:Mf w F ag rest cu en clock since c0 seen vr):BZ w F loc (some (.mq kd ag es i rest cu)) (.Bo b)
 | Ph (kd:TypeDesc) (ag:Bool) (es:List (Value × List T)) (i:Nat) (rest cu:List (Value × List T)) (b:Nat) (en:Array MapEntry) (clock:Nat) (vs:List (Value × Value)) (hb:w.heap[b]? = some (.map en clock)) (hm:HX w F kd ag es en clock vs)
     (hi:loc i=some .gone):BZ w F loc (some (.mq kd ag es i rest cu)) (.Bo b)
 | mi (m b c since c0:Nat) (seen:Array Nat) (hb:w.heap[b]? = some (.mapIter (some c) since seen c0)):BZ w F loc (some (.mi m)) (.Bo b)
structure BB where
 A:Nat->Option Loc
 w0:World
 F0:Nat->Prop
 X0:Nat->Prop
 ann:∀ o l,A o=some l->1000000<=o
abbrev BA:=Nat->Option (List T)
structure AK (G:BA)(B:BB)(w:World)(F:Nat->Prop)(loc:Nat->Option Loc)(s:AE):Prop where
 Cg:∀ o obj,s o=some obj->∃ l,loc o=some l/\BZ w F loc obj l
 Fp:∀ o l,loc o=some l->∃ obj,s o=some obj
 inj:∀ o o' l l' b,loc o=some l->loc o' = some l' -> l.block=some b->l'.block=some b->o=o'
 own:∀ o l b,loc o=some l->l.block=some b->b < w.heap.size/\¬ F b/\(B.X0 b\/B.w0.heap.size<=b)
 BF:∀ b,F b->b < w.heap.size/\(B.F0 b\/B.X0 b\/B.w0.heap.size<=b)
 RF:∀ b,B.F0 b->F b
 os:w.os=B.w0.os
 tape:w.tape=B.w0.tape
 output:w.output=B.w0.output
 size:B.w0.heap.size<=w.heap.size
 keep:∀ b,b < B.w0.heap.size->¬ B.X0 b->w.heap[b]? = B.w0.heap[b]?
 QB:∀ o l,B.A o=some l->loc o=some l\/loc o=some .gone
 FE:∀ g cells,G g=some cells->F g/\∃ val:Nat->Value,(∀ j,j < cells.length->w.cell? ⟨g,j,none⟩=some (val j))/\∀ (j:Nat) (x:T),cells[j]? = some x->BG w F x (val j)
 Pv:Mo.m=true->B.w0.drawn<=w.drawn
structure St where
 t:Nat->V
 s:AE
 n:Nat
 a:List Nat
def Ae {α:Type}(f:Nat->α)(i:Nat)(a:α):Nat->α:=fun j=>cond (Nat.beq j i) a (f j)
omit [Mo] in
theorem AA {α:Type}(f:Nat->α)(i:Nat)(a:α):Ae f i a i=a:=by simp [Ae]
omit [Mo] in
theorem AJ {α:Type}(f:Nat->α){i j:Nat}(a:α)(h:j ≠ i):Ae f i a j=f j:=by
 have:Nat.beq j i=false:=by rw [<- Bool.not_eq_true,Nat.beq_eq]; exact h
 simp [Ae,this]
structure Rel (G:BA)(B:BB)(F:Nat->Prop)(loc:Nat->Option Loc)(st:St)(tmps:Array Value)(w:World):Prop where
 s:AK G B w F loc st.s
 t:∀ i,AF w F loc (st.t i) (tmps.getD i undef)
 n:tmps.size=st.n
 a:∀ o l,B.A o=some l->o ∈ st.a
def St.put (st:St)(d:Option Nat)(v:V)(s':AE):St:=⟨match d with | some d=>Ae st.t d v | none=>st.t,s', st.n,st.a⟩
def fits (st:St)(d:Option Nat):Bool:=match d with | some d=>Nat.blt d st.n | none=>true
def vI (k:IntKind)(n:Int):V:=.t (.sc (.int k n))
def vB (b:Bool):V:=.t (.sc (.bool b))
def vS (s:ByteArray):V:=.t (.sc (.string s))
def vU:V:=.tp []
def GU:Value->V
 | .tuple a=>if a.isEmpty then .tp [] else .dead
 | v=>if plain v then .t (.sc v) else .dead
def ev (G:BA)(t:Nat->V):Operand->V
 | .tmp i=>t i
 | .const v=>GU v
 | .global _=>.dead
 | .func f=>.t (.sc (.func (.func f) #[] #[]))
theorem AV {G:BA} {B:BB} {F:Nat->Prop} {loc:Nat->Option Loc} {st:St} {a:Act} {w:World} (h:Rel G B F loc st a.tmps w) (x:Operand) :
   AF w F loc (ev G st.t x) (a.eval x):=by
 cases x with
 | tmp i=>exact h.t i
 | const v =>
   show AF w F loc (GU v) v
   unfold GU
   split
   · rename_i a
     split
     · rename_i ha
       obtain rfl:a = #[]:=by simpa using ha
       exact .tp [] [] (fun _=>undef) rfl (fun j hj=>by simp at hj) (fun j x hj=>by simp at hj)
     · exact .dead _
   · split
     · rename_i hp; exact .t _ _ (.sc _ hp)
     · exact .dead _
 | global g=>exact .dead _
 | func f=>exact .t _ _ (.sc _ (by simp [plain]))
def CD (P:Program)(G:BA)(o:Oper)(st:St)(v:V)(s':AE):Prop :=
 ∀ (B:BB) (F:Nat->Prop) (loc:Nat->Option Loc) (a:Act) (w:World),Rel G B F loc st a.tmps w ->
   ∃ F' loc' w' x r,(execOp a.eval o).run P w=.ok r w' /\ (r=.value x\/r=.skip/\x=undef)/\AK G B w' F' loc' s' /\ Kept w F w' F' /\ Ak loc loc' /\ AF w' F' loc' v x
theorem CD.pure {P:Program}{G:BA}{o:Oper}{st:St}{v:V}
   (h:∀ (B:BB) (F:Nat->Prop) (loc:Nat->Option Loc) (a:Act) (w:World),Rel G B F loc st a.tmps w->∃ x,(execOp a.eval o).run P w=.ok (.value x) w/\AF w F loc v x) :
   CD P G o st v st.s:=by
 intro B F loc a w hR
 obtain ⟨x,hx,hv⟩:=h B F loc a w hR
 exact ⟨F,loc,w,x,_,hx,.inl rfl,hR.s,Kept.refl _ _,Ak.refl _,hv⟩
omit [Mo] in
theorem UI {a:Array Value}{d i:Nat}{x:Value}(hd:d < a.size):(a.setIfInBounds d x).getD i undef=if i=d then x else a.getD i undef:=by
 simp only [Array.getD_eq_getD_getElem?,Array.getElem?_setIfInBounds]
 by_cases h:i=d
 · subst h; simp [hd]
 · have:¬ d=i:=fun e=>h e.symm
   simp [h,this]
theorem Rel.put {G:BA}{B:BB}{F F':Nat->Prop}{loc loc':Nat->Option Loc}{st:St}{a:Act}{w w':World}{d:Option Nat}{v:V}{x:Value}{s':AE}
   (h:Rel G B F loc st a.tmps w) (hd:fits st d=true) (hs:AK G B w' F' loc' s') (hk:Kept w F w' F') (hsm:Ak loc loc') (hv:AF w' F' loc' v x) :
   Rel G B F' loc' (st.put d v s') (a.put d x).tmps w':=by
 cases d with
 | none=>exact ⟨hs,fun i=>(h.t i).mono hk hsm,h.n,h.a⟩
 | some d =>
   have hlt:d < a.tmps.size:=by rw [h.n]; simpa [fits] using hd
   refine ⟨hs,fun i=>?_,by simp [Act.put,St.put,h.n],h.a⟩
   show AF w' F' loc' (Ae st.t d v i) ((a.tmps.setIfInBounds d x).getD i undef)
   rw [UI hlt]
   by_cases hi:i=d
   · subst hi; rw [AA,if_pos rfl]; exact hv
   · rw [AJ _ _ hi,if_neg hi]; exact (h.t i).mono hk hsm
end Go.Proofs.YtobfoiomjfdjjaaDoor.Mc
namespace Go.Proofs.YtobfoiomjfdjjaaDoor.Mc
open Go.RowKit
variable [Mo]
def Tr (P:Program)(G:BA)(c:Code)(st:St)(Q:Exit->St->Prop):Prop :=
 ∀ (B:BB) (F:Nat->Prop) (loc:Nat->Option Loc) (a:Act) (w:World),Rel G B F loc st a.tmps w->a.defers=[] ->
   c.wp P (fun e a' w'=>a'.defers=[]/\∃ F' loc' st', Rel G B F' loc' st' a'.tmps w' /\ Q e st') a w
def Ap (P:Program)(G:BA)(ops:Array Oper)(l:List Oper)(st:St)(Q:Exit->St->Prop):Prop :=
 ∀ (B:BB) (F:Nat->Prop) (loc:Nat->Option Loc) (a:Act) (w:World),Rel G B F loc st a.tmps w->a.defers=[] ->
   wpList P ops (fun e a' w'=>a'.defers=[]/\∃ F' loc' st', Rel G B F' loc' st' a'.tmps w' /\ Q e st') l a w
variable {P:Program}{G:BA}
theorem Tr.mono {c:Code}{st:St}{Q Q':Exit->St->Prop}(h:Tr P G c st Q)(hq:∀ e st,Q e st->Q' e st):Tr P G c st Q' :=
 fun B F loc a w hR hd=>wp_mono (h B F loc a w hR hd) fun _ _ _ ⟨h1,F', loc', st', h2,h3⟩=>⟨h1,F', loc', st', h2,hq _ _ h3⟩
def Conv (G:BA)(st st':St):Prop:=∀ (B:BB) (F:Nat->Prop) (loc:Nat->Option Loc) (tmps:Array Value) (w:World),Rel G B F loc st tmps w->∃ F' loc', Rel G B F' loc' st' tmps w
theorem Tr.conv {c:Code}{st st':St}{Q:Exit->St->Prop}(h:Conv G st st')(k:Tr P G c st' Q):Tr P G c st Q :=
 fun B F loc a w hR hd=>let ⟨F', loc', hR'⟩:=h B F loc a.tmps w hR; k B F' loc' a w hR' hd
def UJ (P:Program)(G:BA)(c:Code)(Q:Exit->St->Prop):Exit->St->Prop
 | .normal,st=>Tr P G c st Q
 | e,st=>Q e st
theorem Tr.seq {x y:Code}{st:St}{Q:Exit->St->Prop}(h:Tr P G x st (UJ P G y Q)):Tr P G (.seq x y) st Q:=by
 intro B F loc a w hR hd
 refine wp_seq (wp_mono (h B F loc a w hR hd) ?_)
 rintro e a' w' ⟨h1,F', loc', st', h2,h3⟩
 cases e with
 | normal=>exact h3 B F' loc' a' w' h2 h1
 | _=>exact ⟨h1,F', loc', st', h2,h3⟩
theorem Tr.skip {st:St}{Q:Exit->St->Prop}(h:Q .normal st):Tr P G .skip st Q :=
 fun _ F loc _ _ hR hd=>wp_skip ⟨hd,F,loc,st,hR,h⟩
theorem Tr.ret {st:St}{Q:Exit->St->Prop}(h:Q .ret st):Tr P G .ret st Q :=
 fun _ F loc _ _ hR hd=>wp_ret ⟨hd,F,loc,st,hR,h⟩
theorem Tr.exit {id:Nat}{st:St}{Q:Exit->St->Prop}(h:Q (.exit id) st):Tr P G (.exit id) st Q :=
 fun _ F loc _ _ hR hd=>wp_exit ⟨hd,F,loc,st,hR,h⟩
omit [Mo] in
theorem Hy {w:World}{F:Nat->Prop}{loc:Nat->Option Loc}{b:Bool}{v:Value}(h:AF w F loc (vB b) v):v=.bool b:=by
 cases h with
 | t _ _ h=>cases h; rfl
 | gone _ o _ hx _=>cases hx
theorem Tr.cond {c:Operand}{x y:Code}{st:St}{Q:Exit->St->Prop}(b:Bool)(hc:ev G st.t c=vB b)(ht:b=true->Tr P G x st Q)(hf:b=false->Tr P G y st Q) :
   Tr P G (.cond c x y) st Q:=by
 intro B F loc a w hR hd
 have hv:=AV hR c
 rw [hc] at hv
 refine wp_cond_split (Hy hv) (fun h=>ht h B F loc a w hR hd) (fun h=>hf h B F loc a w hR hd)
def Tg (id:Nat)(Q:Exit->St->Prop):Exit->St->Prop
 | .exit id', st=>if id' = id then Q .normal st else Q (.exit id') st
 | e,st=>Q e st
theorem Tr.block {id:Nat} {c:Code} {st:St} {Q:Exit->St->Prop} (h:Tr P G c st (Tg id Q)):Tr P G (.block id c) st Q:=by
 intro B F loc a w hR hd
 refine wp_block (wp_mono (h B F loc a w hR hd) ?_)
 rintro e a' w' ⟨h1,F', loc', st', h2,h3⟩
 cases e with
 | exit id' =>
   show if id' = id then _ else _
   by_cases hid:id' = id
   · rw [if_pos hid]
     refine ⟨h1,F', loc', st', h2,?_⟩
     have:(if id' = id then Q .normal st' else Q (.exit id') st'):=h3
     rw [if_pos hid] at this; exact this
   · rw [if_neg hid]
     refine ⟨h1,F', loc', st', h2,?_⟩
     have:(if id' = id then Q .normal st' else Q (.exit id') st'):=h3
     rw [if_neg hid] at this; exact this
 | _=>exact ⟨h1,F', loc', st', h2,h3⟩
omit [Mo] in
theorem Ns {c:Code} {Q:Exit->Act->World->Prop} (I:Nat->Act->World->Prop)
   (round:∀ n a w,I n a w->c.wp P (Exit.then (fun a' w'=>∃ m,m < n/\I m a' w') Q) a w) (n:Nat) {a:Act} {w:World} (h₀:I n a w):(Code.loop c).wp P Q a w:=by
 intro b k cs
 have key:∀ n a w,I n a w->∃ e a' w', Q e a' w' /\ Arrives P (lone (b.at a (.code c :: .inLoop c :: k)) cs w) b k cs e a' w':=by
   intro n
   induction n using Nat.strongRecOn with
   | _ n ih =>
     intro a w hI
     obtain ⟨e,a₁,w₁,hq,harr⟩:=round n a w hI b (.inLoop c :: k) cs
     cases e with
     | normal =>
       obtain ⟨m,hlt,hI₁⟩:=hq
       obtain ⟨e₂,a₂,w₂,hq₂,harr₂⟩:=ih m hlt a₁ w₁ hI₁
       exact ⟨e₂,a₂,w₂,hq₂,.of_steps (Steps.trans harr (.one step_inLoop)) harr₂⟩
     | exit id=>exact ⟨_,a₁,w₁,hq,.pass (x:=.inLoop c) rfl (fun _ _=>.inl (by simp)) harr⟩
     | goto l=>exact ⟨_,a₁,w₁,hq,.pass (x:=.inLoop c) rfl (fun _ _=>.inl (by simp)) harr⟩
     | ret=>exact ⟨_,a₁,w₁,hq,.pass (x:=.inLoop c) rfl (fun _ _=>.inl (by simp)) harr⟩
     | panic ch=>exact ⟨_,a₁,w₁,hq,.pass (x:=.inLoop c) rfl (fun _ _=>.inl (by simp)) harr⟩
     | outgrown=>exact ⟨_,a₁,w₁,hq,.pass (x:=.inLoop c) rfl (fun _ _=>.inl (by simp)) harr⟩
 obtain ⟨e,a', w', hq,harr⟩:=key n a w h₀
 exact ⟨e,a', w', hq,.of_steps (.one step_loop) harr⟩
def Vg (I:Nat->St->Prop)(n:Nat)(Q:Exit->St->Prop):Exit->St->Prop
 | .normal,st=>∃ m,m < n/\I m st
 | e,st=>Q e st
theorem Tr.loop {c:Code}{st:St}{Q:Exit->St->Prop}(I:Nat->St->Prop)(n:Nat)(h0:I n st)
   (round:∀ n st,I n st->Tr P G c st (Vg I n Q)):Tr P G (.loop c) st Q:=by
 intro B F loc a w hR hd
 refine Ns (fun n a w=>a.defers=[]/\∃ F loc st,Rel G B F loc st a.tmps w/\I n st) ?_ n ⟨hd,F,loc,st,hR,h0⟩
 rintro n a w ⟨hd,F,loc,st,hR,hI⟩
 refine wp_mono (round n st hI B F loc a w hR hd) ?_
 rintro e a' w' ⟨h1,F', loc', st', h2,h3⟩
 cases e with
 | normal =>
   obtain ⟨m,hm,hI'⟩:=h3
   exact ⟨m,hm,h1,F', loc', st', h2,hI'⟩
 | _=>exact ⟨h1,F', loc', st', h2,h3⟩
theorem Tr.region {id:Nat}{ops:Array Oper}{st:St}{Q:Exit->St->Prop}(h:Ap P G ops ops.toList st Q):Tr P G (.region id ops false) st Q :=
 fun B F loc a w hR hd=>wp_region_list (h B F loc a w hR hd)
theorem Ap.nil {ops:Array Oper}{st:St}{Q:Exit->St->Prop}(h:Q .normal st):Ap P G ops [] st Q :=
 fun _ F loc _ _ hR hd=>wpList_nil ⟨hd,F,loc,st,hR,h⟩
theorem Ap.conv {ops:Array Oper}{l:List Oper}{st st':St}{Q:Exit->St->Prop}(h:Conv G st st')(k:Ap P G ops l st' Q):Ap P G ops l st Q :=
 fun B F loc a w hR hd=>let ⟨F', loc', hR'⟩:=h B F loc a.tmps w hR; k B F' loc' a w hR' hd
def want (ops:Array Oper) (o:Oper) (st:St):Option Bool :=
 match o.guard with
 | none=>some true
 | some (j,want) =>
   match (ops[j]?).bind (·.dst) with
   | some d=>match Nat.blt d st.n,st.t d with
     | true,.t (.sc (.bool b))=>some (b == want)
     | true,.tp []=>some false
     | _,_=>none
   | none=>none
theorem Ch {ops:Array Oper} {o:Oper} {st:St} {B:BB} {F:Nat->Prop} {loc:Nat->Option Loc} {a:Act} {w:World} {b:Bool} (hR:Rel G B F loc st a.tmps w)
   (h:want ops o st=some b):Region.wanted o (yielded ops a.tmps)=b:=by
 unfold want at h
 unfold Region.wanted
 cases hgd:o.guard with
 | none=>rw [hgd] at h; simp at h; simp [h]
 | some jw =>
   obtain ⟨j,q⟩:=jw
   rw [hgd] at h
   simp only at h ⊢
   cases hd:(ops[j]?).bind (·.dst) with
   | none=>rw [hd] at h; cases h
   | some d =>
     rw [hd] at h
     simp only at h
     have hv:=hR.t d
     by_cases hn:d < st.n
     · have hlt:d < a.tmps.size:=by rw [hR.n]; exact hn
       have hbl:Nat.blt d st.n=true:=by simpa using hn
       rw [hbl] at h
       have hget:a.tmps.getD d undef=a.tmps[d]:=by simp [Array.getD,hlt]
       have hy:yielded ops a.tmps j=match a.tmps[d] with | .bool b=>some b | _=>none:=by
         unfold yielded
         rw [hd]
         simp only [Option.bind_some,Array.getElem?_eq_getElem hlt]
         cases a.tmps[d] <;> rfl
       rw [hget] at hv
       rw [hy]
       generalize st.t d=x at h hv
       generalize a.tmps[d]=v at hv ⊢
       split at h
       · rename_i b' _ _
         have:=Hy hv
         subst this
         simp at h
         simp [h]
       · cases hv with
         | gone _ o _ hx _=>cases hx
         | tp xs vs val hl hv' _ =>
           simp at h
           subst h
           simp
       · cases h
     · have hbl:Nat.blt d st.n=false:=by rw [<- Bool.not_eq_true]; simpa using hn
       rw [hbl] at h
       simp at h
theorem Ap.WO {ops:Array Oper}{o:Oper}{l:List Oper}{st:St}{Q:Exit->St->Prop}(hw:want ops o st=some false)
   (hd:fits st o.dst=true) (k:Ap P G ops l (st.put o.dst vU st.s) Q):Ap P G ops (o :: l) st Q:=by
 intro B F loc a w hR hdf
 show if _ then _ else _
 rw [Ch hR hw]
 simp only [Bool.false_eq_true,if_false]
 have hu:AF w F loc vU undef:=.tp [] [] (fun _=>undef) rfl (fun j hj=>by simp at hj) (fun j x hj=>by simp at hj)
 exact k B F loc _ w (hR.put hd hR.s (Kept.refl _ _) (Ak.refl _) hu) (by cases ho:o.dst <;> simp [Act.put,hdf])
theorem Ap.op {ops:Array Oper}{o:Oper}{l:List Oper}{st:St}{Q:Exit->St->Prop}{v:V}{s':AE}(hw:want ops o st=some true)
   (hd:fits st o.dst=true) (h:CD P G o st v s') (k:Ap P G ops l (st.put o.dst v s') Q):Ap P G ops (o :: l) st Q:=by
 intro B F loc a w hR hdf
 show if _ then _ else _
 rw [Ch hR hw]
 simp only [if_true]
 obtain ⟨F', loc', w', x,r,hrun,hr,hS,hk,hs,hv⟩:=h B F loc a w hR
 have hdf':(a.put o.dst x).defers=[]:=by cases ho:o.dst <;> simp [Act.put,hdf]
 have:=k B F' loc' _ w' (hR.put hd hS hk hs hv) hdf'
 left
 unfold Oper.wp
 rw [hrun]
 rcases hr with rfl | ⟨rfl,rfl⟩
 · exact this
 · exact this
end Go.Proofs.YtobfoiomjfdjjaaDoor.Mc
namespace Go.Proofs.YtobfoiomjfdjjaaDoor.Mc
open Go.RowKit
variable [Mo]
structure Ah where
 AW:Nat->Option TypeDesc
 size:Nat->Nat
 bytes:Nat->Nat
 zero:Nat->Option Value
 peq:Nat->Bool
 RD:Nat->String->Option Nat
structure Good (P:Program)(D:Ah):Prop where
 AW:∀ t d,D.AW t=some d->P.underlying t=some d/\∃ i,P.info? t=some i/\i.size=D.size t/\i.bytes=D.bytes t/\i.zero=D.zero t
 lt:∀ t d,D.AW t=some d->t < 1000000
 peq:∀ t,D.peq t=true->P.stoodInHeld t=false/\P.eqGuardType P.depth t=false
 RD:∀ t n f,D.RD t n=some f->∃ i m fs,P.info? t=some i/\i.methods.find? (·.name == n)=some m/\m.path = #[]/\m.func=some (f,false)/\P.underlying t=some (.struct fs)
variable {P:Program}{G:BA}{D:Ah}
def Ah.has (D:Ah)(t:Nat):Bool:=(D.AW t).isSome
def Ah.isInt (D:Ah)(t:Nat):Bool:=match D.AW t with | some (.int _)=>true | _=>false
def Ah.isBool (D:Ah)(t:Nat):Bool:=match D.AW t with | some .bool=>true | _=>false
def Ah.isAgg (D:Ah)(t:Nat):Option Bool:=match D.AW t with | some (.struct _)=>some true | some (.array _ _)=>some true | some _=>some false | none=>none
def GJ (op:BinOp)(k:IntKind)(a b:Int):Option Value :=
 match op with
 | .add=>some (.int k (k.wrap (a+b)))
 | .sub=>some (.int k (k.wrap (a - b)))
 | .mul=>some (.int k (k.wrap (a * b)))
 | .quo=>if b=0 then none else some (.int k (k.wrap (a.tdiv b)))
 | .rem=>if b=0 then none else some (.int k (a.tmod b))
 | .and=>some (.int k (Go.bits .and k a b))
 | .or=>some (.int k (Go.bits .or k a b))
 | .xor=>some (.int k (Go.bits .xor k a b))
 | .andNot=>some (.int k (Go.bits .andNot k a b))
 | .eql=>some (.bool (a == b))
 | .neq=>some (.bool (a != b))
 | .lss=>some (.bool (decide (a < b)))
 | .leq=>some (.bool (decide (a<=b)))
 | .gtr=>some (.bool (decide (b < a)))
 | .geq=>some (.bool (decide (b<=a)))
 | _=>none
def Mk (op:BinOp)(a b:ByteArray):Option Value :=
 match op with
 | .add=>if a.size+b.size<=9223372036854775807 then some (.string (a ++ b)) else none
 | .eql=>some (.bool (a.toList == b.toList))
 | .neq=>some (.bool (!(a.toList == b.toList)))
 | .lss=>some (.bool (Op.bytesLess a.toList b.toList))
 | .leq=>some (.bool (Op.bytesLess a.toList b.toList || a.toList == b.toList))
 | .gtr=>some (.bool (!(Op.bytesLess a.toList b.toList || a.toList == b.toList)))
 | .geq=>some (.bool (!(Op.bytesLess a.toList b.toList)))
 | _=>none
def bin (op:BinOp)(x y:Value):Option Value :=
 match op,x,y with
 | .shl,.int k a,.int _ b=>if b < 0 then none else some (.int k (k.wrap (a * 2 ^ min b.toNat k.bits)))
 | .shr,.int k a,.int _ b=>if b < 0 then none else some (.int k (a.fdiv (2 ^ min b.toNat k.bits)))
 | op,.int k a,.int k' b=>if k=k' then GJ op k a b else none
 | op,.string a,.string b=>Mk op a b
 | _,_,_=>none
omit [Mo] in
theorem XR {op:BinOp} {t:TypeId} {x y v:Value} (h:bin op x y=some v) (w:World):(binOp op t x y).run P w=.ok v w:=by
 unfold bin at h
 split at h
 · rename_i k a k' b
   split at h
   · cases h
   · rename_i hb
     cases h
     simp [binOp,Op.shift,hb]
 · rename_i k a k' b
   split at h
   · cases h
   · rename_i hb
     cases h
     simp [binOp,Op.shift,hb]
 · rename_i op k a k' b h1 h2
   split at h
   · rename_i hk
     subst hk
     unfold GJ at h
     split at h
     all_goals first
       | (split at h
          · cases h
          · rename_i hb; cases h; simp [binOp,Op.intDiv,hb])
       | (cases h; simp [binOp,Op.intArith,Op.intCmp]; done)
       | (cases h; simp only [binOp]; rfl)
       | (cases h; simp [binOp]; rfl)
       | cases h
   · cases h
 · rename_i a b
   unfold Mk at h
   split at h
   · split at h
     · rename_i hs
       cases h
       have:¬ (((a.size+b.size:Nat):Int) > IntKind.i64.max):=by
         simp [IntKind.max,IntKind.signed,IntKind.bits]; omega
       simp only [binOp,Op.stringOp,if_neg this]
       rfl
     · cases h
   all_goals first
     | (cases h; simp [binOp,Op.stringOp])
     | cases h
 · cases h
omit [Mo] in
theorem SV {op:BinOp} {x y v:Value} (h:bin op x y=some v):plain v=true:=by
 unfold bin at h
 split at h
 · split at h <;> first | cases h; rfl | cases h
 · split at h <;> first | cases h; rfl | cases h
 · split at h
   · unfold GJ at h
     split at h
     all_goals first
       | (split at h <;> first | (cases h; rfl) | cases h)
       | (cases h; rfl)
       | cases h
   · cases h
 · unfold Mk at h
   split at h
   all_goals first
       | (split at h <;> first | (cases h; rfl) | cases h)
       | (cases h; rfl)
       | cases h
 · cases h
end Go.Proofs.YtobfoiomjfdjjaaDoor.Mc
namespace Go.Proofs.YtobfoiomjfdjjaaDoor.Mc
open Go.RowKit
variable [Mo]
variable {P:Program}{G:BA}{D:Ah}{B:BB}{w:World}{F:Nat->Prop}{loc:Nat->Option Loc}{s:AE}
omit [Mo] in
theorem AP {c v:Value}(h:AF w F loc (.t (.sc c)) v):v=c:=by
 cases h with
 | t _ _ h=>cases h; rfl
 | gone _ o _ hx _=>cases hx
omit [Mo] in
theorem FR {xs:List V}{v:Value}(h:AF w F loc (.ag xs) v):∃ (vs:List Value) (val:Nat->Value),v=.agg vs.toArray/\xs.length=vs.length/\(∀ j,j < xs.length->vs[j]? = some (val j)) /\
   ∀ (j:Nat) (x:V),xs[j]? = some x->AF w F loc x (val j):=by
 cases h with
 | gone _ o _ hx _=>cases hx
 | ag _ vs val hl hv h=>exact ⟨vs,val,rfl,hl,hv,h⟩
omit [Mo] in
theorem XM {xs:List V}{v:Value}(h:AF w F loc (.tp xs) v):∃ (vs:List Value) (val:Nat->Value),v=.tuple vs.toArray/\xs.length=vs.length/\(∀ j,j < xs.length->vs[j]? = some (val j)) /\
   ∀ (j:Nat) (x:V),xs[j]? = some x->AF w F loc x (val j):=by
 cases h with
 | gone _ o _ hx _=>cases hx
 | tp _ vs val hl hv h=>exact ⟨vs,val,rfl,hl,hv,h⟩
def get (s:AE)(o:Nat):Option O:=match s o with | some (some x)=>some x | _=>none
omit [Mo] in
theorem get_some {o:Nat}{x:O}(h:get s o=some x):s o=some (some x):=by
 unfold get at h
 split at h
 · rename_i y hy; cases h; exact hy
 · cases h
theorem AK.Vh (h:AK G B w F loc s){o:Nat}{e:TypeId}{xs:List V}(ho:get s o=some (.bx e xs)):∃ b,loc o=some (.Bo b):=by
 obtain ⟨l,hl,hr⟩:=h.Cg o _ (get_some ho)
 cases hr with
 | bx e xs cs b=>exact ⟨b,hl⟩
 | ms e xs b=>exact ⟨b,hl⟩
theorem AK.var (h:AK G B w F loc s){o:Nat}{e:TypeId}{xs:List V}(ho:get s o=some (.bx e xs))(he:Nat.blt e 3000000=true) :
   ∃ b cs,loc o=some (.Bo b)/\w.heap[b]? = some (.cells cs e (0,0))/\xs.length=cs.size/\∀ (j:Nat) (x:V),xs[j]? = some x->∃ v,cs[j]? = some v/\v.oneCell' = true/\AF w F loc x v:=by
 obtain ⟨l,hl,hr⟩:=h.Cg o _ (get_some ho)
 cases hr with
 | bx e xs cs b _ hb hlen hr=>exact ⟨b,cs,hl,hb,hlen,hr⟩
 | ms e xs b en clock vs h0=>rw [he] at h0; cases h0
theorem AK.row (h:AK G B w F loc s) {o:Nat} {e:TypeId} {sz:Nat} {rows:List (List T)} (ho:get s o=some (.ar e sz rows)) :
   ∃ b cap cells,loc o=some (.arr b rows.length cap sz)/\0 < sz/\(∀ r ∈ rows,r.length=sz)/\World.DG w e sz (.slice (b.map fun b=>⟨b,0,none⟩) rows.length cap) rows.length cells/\(∀ u ∈ cells,u.oneCell' = true) /\
     ∀ (i:Nat) (r:List T),rows[i]? = some r->∀ (j:Nat) (x:T),r[j]? = some x->∃ v,cells[i * sz+j]? = some v/\BG w F x v:=by
 obtain ⟨l,hl,hr⟩:=h.Cg o _ (get_some ho)
 cases hr with
 | ar e sz rows b cap cells hz hsz hown h1 hr=>exact ⟨b,cap,cells,hl,hz,hsz,hown,h1,hr⟩
def Jl:Option O->Bool | some (.mp _ _ _)=>true | some (.mq _ _ _ _ _ _)=>true | _=>false
theorem AK.UH (h:AK G B w F loc s){o:Nat}(ho:Jl (get s o)=true):∃ b,loc o=some (.Bo b):=by
 unfold Jl at ho
 split at ho
 · rename_i hg
   obtain ⟨l,hl,hr⟩:=h.Cg o _ (get_some hg)
   cases hr with
   | mp _ _ _ b=>exact ⟨b,hl⟩
 · rename_i hg
   obtain ⟨l,hl,hr⟩:=h.Cg o _ (get_some hg)
   cases hr with
   | mq _ _ _ _ _ _ b=>exact ⟨b,hl⟩
   | Ph _ _ _ _ _ _ b=>exact ⟨b,hl⟩
 · cases ho
omit [Mo] in
theorem Cn {o:Nat}{v:Value}{b:Nat}(h:AF w F loc (.mp o) v)(hl:loc o=some (.Bo b)):v=.map (some b):=by
 cases h with
 | gone _ o' _ hx ho=>cases hx; rw [hl] at ho; cases ho
 | mp _ b' ho=>rw [hl] at ho; cases ho; rfl
omit [Mo] in
theorem Ec {o off:Nat}{v:Value}{b:Nat}(h:AF w F loc (.pt o off) v)(hl:loc o=some (.Bo b)):v=.pointer (some ⟨b,off,none⟩):=by
 cases h with
 | gone _ o' _ hx ho=>cases hx; rw [hl] at ho; cases ho
 | pt _ _ b' ho=>rw [hl] at ho; cases ho; rfl
omit [Mo] in
theorem HL {o i off:Nat}{v:Value}{b:Option Nat}{n cap sz:Nat}(h:AF w F loc (.pe o i off) v)(hl:loc o=some (.arr b n cap sz)):∃ g,b=some g/\i < n/\v=.pointer (some ⟨g,i * sz+off,none⟩):=by
 cases h with
 | gone _ o' _ hx ho=>cases hx; rw [hl] at ho; cases ho
 | pe _ _ _ b' n' cap' sz' ho hi=>rw [hl] at ho; cases ho; exact ⟨b', rfl,hi,rfl⟩
omit [Mo] in
theorem CY {nl:Nl}{o:Nat}{v:Value}{b:Option Nat}{n cap sz:Nat}(h:AF w F loc (.sl nl o) v)(hl:loc o=some (.arr b n cap sz)) :
   v=.slice (b.map fun b=>⟨b,0,none⟩) n cap/\(nl=.e->b.isSome=true)/\(nl=.n->b.isSome=true->0 < n)/\(b=none->n=0/\cap=0):=by
 cases h with
 | gone _ o' _ hx ho=>cases hx; rw [hl] at ho; cases ho
 | sl _ _ b' n' cap' sz' ho he hn h0=>rw [hl] at ho; cases ho; exact ⟨rfl,he,hn,h0⟩
omit [Mo] in
theorem EP {o off len:Nat}{v:Value}{b:Option Nat}{n cap sz:Nat}(h:AF w F loc (.sw o off len) v)(hl:loc o=some (.arr b n cap sz)) :
   ∃ a,v=.slice a len (cap - off)/\off+len<=n/\(0 < len->∃ g,b=some g/\a=some ⟨g,off * sz,none⟩)/\(off=0->a=b.map fun b=>⟨b,0,none⟩)/\(a=none->cap=0):=by
 cases h with
 | gone _ o' _ hx ho=>cases hx; rw [hl] at ho; cases ho
 | sw _ _ _ b' n' cap' sz' a ho hlen ha h0 hn=>rw [hl] at ho; cases ho; exact ⟨a,rfl,hlen,ha,h0,hn⟩
omit [Mo] in
theorem El {e:TypeId}{sz n cap:Nat}{b:Option Nat}{cells:List Value}(h:World.DG w e sz (.slice (b.map fun b=>⟨b,0,none⟩) n cap) n cells){g:Nat}(hb:b=some g){j:Nat}{u:Value}(hj:cells[j]? = some u) :
   w.cell? ⟨g,j,none⟩=some u:=by
 subst hb
 rcases CV h with ⟨h,_⟩ | ⟨g', cap', cur,te,fr,hv,hg,_,_,_,_,ht⟩
 · cases h
 · cases hv
   rw [<- ht,List.getElem?_take] at hj
   split at hj
   · rw [Lib.cell_of_heap hg,<- Array.getElem?_toList]; exact hj
   · cases hj
omit [Mo] in
theorem Dx {e:TypeId}{sz n cap:Nat}{b:Option Nat}{cells:List Value}(h:World.DG w e sz (.slice (b.map fun b=>⟨b,0,none⟩) n cap) n cells)(hn:0 < n):∃ g,b=some g:=by
 cases b with
 | some g=>exact ⟨g,rfl⟩
 | none =>
   rcases CV h with ⟨_,h0⟩ | ⟨g,cap', cur,_,_,hv,_⟩
   · omega
   · cases hv
omit [Mo] in
theorem BX {rows:List (List T)}{sz:Nat}(hsz:∀ r ∈ rows,r.length=sz){i:Nat}{r:List T}(h:rows[i]? = some r):r.length=sz:=hsz r (List.mem_of_getElem? h)
omit [Mo] in
theorem Vk (hg:Good P D){t b o:Nat}{d:TypeDesc}(hu:D.AW t=some d)(hd:d.isRow=true)(f:Nat->Value)(hc:∀ j,j < D.size t->w.cell? ⟨b,o+j,none⟩=some (f j)) :
   (Instr.loadAt t (.pointer (some ⟨b,o,none⟩))).run P w=.ok (.agg ((List.range (D.size t)).map f).toArray) w:=by
 obtain ⟨hu', i,hi,hs,_⟩:=hg.AW t d hu
 have hl:((List.range (D.size t)).map f).length=D.size t:=by simp
 refine run_loadAt_mid w b o t _ d (fun j v hv=>?_) hu' hd (by rw [hi,hl,<- hs]; rfl)
 rw [List.getElem?_map] at hv
 obtain ⟨k,hk,rfl⟩:=Option.map_eq_some_iff.1 hv
 obtain ⟨hk1,rfl⟩:=List.getElem?_eq_some_iff.1 hk
 simp at hk1 ⊢
 exact hc j hk1
omit [Mo] in
theorem UK (hg:Good P D){t b o:Nat}{d:TypeDesc}(hu:D.AW t=some d)(hd:d.isRow=false)(v:Value)(hc:w.cell? ⟨b,o,none⟩=some v) :
   (Instr.loadAt t (.pointer (some ⟨b,o,none⟩))).run P w=.ok v w:=by
 obtain ⟨hu', i,hi,hs,_⟩:=hg.AW t d hu
 have hagg:(isAgg t).run P w=.ok false w:=by
   unfold isAgg
   rw [Sem.run_bind,run_underlying hu' w]
   cases d <;> simp_all
 simp [Instr.loadAt,Instr.sureAddr,loadVar,Sem.run_bind,hagg,hc]
def EL (D:Ah)(t:Nat)(cells:List V)(off:Nat):Option V :=
 match D.AW t with
 | none=>none
 | some d=>if d.isRow then (if off+D.size t<=cells.length then some (.ag ((cells.drop off).take (D.size t))) else none) else cells[off]?
omit [Mo] in
theorem IV (hg:Good P D) {t b o off:Nat} {cells:List V} {v:V} (h:EL D t cells off=some v) (f:Nat->Value)
   (hc:∀ j,j < cells.length->w.cell? ⟨b,o+j,none⟩=some (f j)) (hr:∀ (j:Nat) (x:V),cells[j]? = some x->AF w F loc x (f j)) :
   ∃ x,(Instr.loadAt t (.pointer (some ⟨b,o+off,none⟩))).run P w=.ok x w/\AF w F loc v x:=by
 unfold EL at h
 cases hu:D.AW t with
 | none=>rw [hu] at h; cases h
 | some d =>
   rw [hu] at h
   simp only at h
   cases hd:d.isRow with
   | true =>
     rw [hd] at h
     simp only [if_true] at h
     split at h
     · rename_i hlen
       cases h
       refine ⟨_,Vk hg hu hd (fun j=>f (off+j)) (fun j hj=>by rw [Nat.add_assoc]; exact hc (off+j) (by omega)),?_⟩
       refine .ag _ _ (fun j=>f (off+j)) (by simp; omega) (fun j hj=>?_) (fun j x hj=>?_)
       · have:j < D.size t:=by simp at hj; omega
         simp [this]
       · rw [List.getElem?_take] at hj
         split at hj
         · rw [List.getElem?_drop] at hj; exact hr _ x hj
         · cases hj
     · cases h
   | false =>
     rw [hd] at h
     simp only [Bool.false_eq_true,if_false] at h
     have hlt:=(List.getElem?_eq_some_iff.1 h).1
     exact ⟨f off,UK hg hu hd _ (hc off hlt),hr off v h⟩
def Fh (D:Ah) (s:AE) (t:Nat) (p:V):Option V :=
 match p with
 | .pt o off=>match get s o with
   | some (.bx e cells)=>if Nat.blt e 3000000 then EL D t cells off else none
   | _=>none
 | .pe o i off=>match get s o with
   | some (.ar _ _ rows)=>match rows[i]? with
     | some r=>EL D t (r.map .t) off
     | none=>none
   | _=>none
 | .pf cells off=>EL D t (cells.map .t) off
 | _=>none
theorem MB (hg:Good P D) (hS:AK G B w F loc s) {t:Nat} {p v:V} {a:Value} (h:Fh D s t p=some v) (hp:AF w F loc p a) :
   ∃ x,(Instr.loadAt t a).run P w=.ok x w/\AF w F loc v x:=by
 unfold Fh at h
 split at h
 · rename_i o off
   split at h
   · rename_i e cells ho
     split at h
     · rename_i he
       obtain ⟨b,cs,hl,hb,hlen,hr⟩:=hS.var ho he
       rw [Ec hp hl]
       have:=IV hg (w:=w) (F:=F) (loc:=loc) (b:=b) (o:=0) h (fun j=>cs.getD j undef) (fun j hj=>?_) (fun j x hj=>?_)
       · simpa using this
       · rw [hlen] at hj; simp [World.cell?,hb,hj,Array.getD]
       · obtain ⟨v,hv,_,hrel⟩:=hr j x hj
         have:cs.getD j undef=v:=by rw [Array.getD_eq_getD_getElem?,hv]; rfl
         show AF w F loc x (cs.getD j undef)
         rw [this]; exact hrel
     · cases h
   · cases h
 · rename_i o i off
   split at h
   · rename_i e sz rows ho
     obtain ⟨b,cap,cells,hl,hz,hsz,hown,h1,hr⟩:=hS.row ho
     obtain ⟨g,hb,hi,rfl⟩:=HL hp hl
     split at h
     · rename_i r hri
       have hrl:=BX hsz hri
       refine IV hg h (fun j=>cells.getD (i * sz+j) undef) (fun j hj=>?_) (fun j x hj=>?_)
       · have hj':j < r.length:=by simpa using hj
         obtain ⟨v,hv,_⟩:=hr i r hri j r[j] (List.getElem?_eq_getElem hj')
         rw [El hown hb hv]
         simp [List.getD,hv]
       · rw [List.getElem?_map] at hj
         obtain ⟨y,hy,rfl⟩:=Option.map_eq_some_iff.1 hj
         obtain ⟨v,hv,hrel⟩:=hr i r hri j y hy
         have:cells.getD (i * sz+j) undef=v:=by simp [List.getD,hv]
         show AF w F loc (.t y) (cells.getD (i * sz+j) undef)
         rw [this]; exact .t _ _ hrel
     · cases h
   · cases h
 · rename_i cells off
   cases hp with
   | gone _ o' _ hx ho=>cases hx
   | pf _ _ b o0 val hF hc hr =>
     refine IV hg h val (fun j hj=>hc j (by simpa using hj)) (fun j x hj=>?_)
     rw [List.getElem?_map] at hj
     obtain ⟨y,hy,rfl⟩:=Option.map_eq_some_iff.1 hj
     exact .t _ _ (hr j y hy)
 · cases h
end Go.Proofs.YtobfoiomjfdjjaaDoor.Mc
namespace Go.Proofs.YtobfoiomjfdjjaaDoor.Mc
open Go.RowKit
variable [Mo]
variable {P:Program}{G:BA}{D:Ah}{B:BB}{w:World}{F:Nat->Prop}{loc:Nat->Option Loc}{s:AE}
def OM (c:Bool)(x y:V):V :=
 match x,y with
 | .t (.sc (.bool p)),.t (.sc (.bool q))=>.t (.sc (.bool (cond c p q)))
 | x,y=>cond c x y
omit [Mo] in
theorem Kf (c:Bool)(x y:V):OM c x y=cond c x y:=by
 unfold OM
 split
 · cases c <;> rfl
 · rfl
def Es (s:AE):V->Option Bool
 | .t (.sc (.pointer none))=>some true
 | .t (.sc (.slice none 0 0))=>some true
 | .t (.sc (.map none))=>some true
 | .t (.sc .nilFunc)=>some true
 | .t (.sc .nilIface)=>some true
 | .t (.sc (.func _ _ _))=>some false
 | .t (.BE _ _)=>some false
 | .BE _ _=>some false
 | .fn _ _=>some false
 | .pf _ _=>some false
 | .pt o _=>match get s o with | some (.bx _ _)=>some false | _=>none
 | .pe o _ _=>match get s o with | some (.ar _ _ _)=>some false | _=>none
 | .t (.fz .e _)=>some false
 | .t (.fz .n rows)=>some (Nat.beq rows.length 0)
 | .t (.fz .u rows)=>if rows.length=0 then none else some false
 | .sl nl o=>match get s o with
   | some (.ar _ _ rows)=>match nl with
     | .e=>some false
     | .n=>some (Nat.beq rows.length 0)
     | .u=>if rows.length=0 then none else some false
   | _=>none
 | .mp o=>if Jl (get s o)=true then some false else none
 | _=>none
def isNil:Value->Bool
 | .pointer none=>true
 | .slice none _ _=>true
 | .map none=>true
 | .nilFunc=>true
 | .nilIface=>true
 | _=>false
omit [Mo] in
theorem Dd {nl:Nl}{rows:List (List T)}{v:Value}(h:BG w F (.fz nl rows) v):(∃ a n c,v=.slice a n c)/\(nl=.e->isNil v=false)/\(nl=.n->isNil v=Nat.beq rows.length 0)/\(rows.length ≠ 0->isNil v=false):=by
 cases h with
 | nil _ h=>exact ⟨⟨_,_,_,rfl⟩,fun e=>absurd e h,fun _=>rfl,fun h=>absurd rfl h⟩
 | mt _ a cap h=>exact ⟨⟨_,_,_,rfl⟩,fun _=>rfl,fun e=>absurd e h,fun _=>rfl⟩
 | fz _ _ sz b off cap val hF hn =>
   refine ⟨⟨_,_,_,rfl⟩,fun _=>rfl,fun _=>?_,fun _=>rfl⟩
   cases rows with
   | nil=>exact absurd rfl hn
   | cons=>rfl
theorem MC (hS:AK G B w F loc s) {x:V} {v:Value} {b:Bool} (h:Es s x=some b) (hv:AF w F loc x v):isNil v=b:=by
 unfold Es at h
 split at h
 all_goals first
   | (cases h; rw [AP hv]; rfl)
   | skip
 · cases h
   cases hv with
   | gone _ o _ hx _=>cases hx
   | t _ _ h=>cases h; rfl
 · cases h
   cases hv with
   | gone _ o _ hx _=>cases hx
   | BE=>rfl
 · cases h
   cases hv with
   | gone _ o _ hx _=>cases hx
   | fn=>rfl
 · cases h
   cases hv with
   | gone _ o _ hx _=>cases hx
   | pf=>rfl
 · split at h
   · rename_i ho
     cases h
     obtain ⟨b,hl⟩:=hS.Vh ho
     rw [Ec hv hl]; rfl
   · cases h
 · split at h
   · rename_i ho
     cases h
     obtain ⟨b,cap,cells,hl,_⟩:=hS.row ho
     obtain ⟨g,_,_,rfl⟩:=HL hv hl
     rfl
   · cases h
 · cases h
   cases hv with
   | gone _ o _ hx _=>cases hx
   | t _ _ h=>exact (Dd h).2.1 rfl
 · cases h
   cases hv with
   | gone _ o _ hx _=>cases hx
   | t _ _ h=>exact (Dd h).2.2.1 rfl
 · split at h
   · cases h
   · rename_i hn
     cases h
     cases hv with
     | gone _ o _ hx _=>cases hx
     | t _ _ h=>exact (Dd h).2.2.2 hn
 · split at h
   · rename_i ho
     obtain ⟨b,cap,cells,hl,hz,hsz,hown,h1,hr⟩:=hS.row ho
     obtain ⟨rfl,he,hn,h0⟩:=CY hv hl
     split at h
     · cases h
       have:=he rfl
       cases b with
       | none=>cases this
       | some g=>rfl
     · cases h
       cases b with
       | none=>rw [(h0 rfl).1]; rfl
       | some g =>
         have:=hn rfl rfl
         show false=_
         symm
         rw [<- Bool.not_eq_true,Nat.beq_eq]; omega
     · split at h
       · cases h
       · rename_i hne
         cases h
         cases b with
         | none=>exact absurd (h0 rfl).1 hne
         | some g=>rfl
   · cases h
 · split at h
   · rename_i ho
     cases h
     obtain ⟨b,hl⟩:=hS.UH ho
     rw [Cn hv hl]; rfl
   · cases h
 · cases h
def NP (d:TypeDesc)(x c:Value):Bool :=
 match d,x,c with
 | .pointer _,.pointer _,.pointer none=>true
 | .slice _,.slice _ _ _,.slice none _ _=>true
 | .map _ _,.map _,.map none=>true
 | .func _ _ _,.func _ _ _,.nilFunc=>true
 | .func _ _ _,.nilFunc,.nilFunc=>true
 | .interface _,.iface _ _,.nilIface=>true
 | .interface _,.nilIface,.nilIface=>true
 | _,_,_=>false
omit [Mo] in
theorem Nq (n:Nat){t:TypeId}:∀ (d:TypeDesc) (x c:Value),P.underlying t=some d->NP d x c=true->(Op.equalIn (n+1) t x c).run P w=.ok (isNil x) w
 | .pointer _,.pointer a,.pointer none,hu,_=>by
   simp only [Op.equalIn,Sem.run_bind,run_underlying hu w,Result.andThen_ok]; cases a <;> rfl
 | .slice _,.slice a _ _,.slice none _ _,hu,_=>by
   simp only [Op.equalIn,Sem.run_bind,run_underlying hu w,Result.andThen_ok]; cases a <;> rfl
 | .map _ _,.map a,.map none,hu,_=>by
   simp only [Op.equalIn,Sem.run_bind,run_underlying hu w,Result.andThen_ok]; cases a <;> rfl
 | .func _ _ _,.func _ _ _,.nilFunc,hu,_=>by
   simp only [Op.equalIn,Sem.run_bind,run_underlying hu w,Result.andThen_ok]; rfl
 | .func _ _ _,.nilFunc,.nilFunc,hu,_=>by
   simp only [Op.equalIn,Sem.run_bind,run_underlying hu w,Result.andThen_ok]; rfl
 | .interface _,.iface _ _,.nilIface,hu,_=>by
   simp only [Op.equalIn,Sem.run_bind,run_underlying hu w,Result.andThen_ok]; rfl
 | .interface _,.nilIface,.nilIface,hu,_=>by
   simp only [Op.equalIn,Sem.run_bind,run_underlying hu w,Result.andThen_ok]; rfl
omit [Mo] in
theorem Hv {t:TypeId}{x c:Value}{d:TypeDesc}(hu:P.underlying t=some d)(hd:NP d x c=true):(Op.equal t x c).run P w=.ok (isNil x) w :=
 Nq 9999 d x c hu hd
end Go.Proofs.YtobfoiomjfdjjaaDoor.Mc
namespace Go.Proofs.YtobfoiomjfdjjaaDoor.Mc
open Go.RowKit
variable [Mo]
variable {P:Program}{G:BA}{D:Ah}{B:BB}{w:World}{F:Nat->Prop}{loc:Nat->Option Loc}{s:AE}
inductive Kd where | ptr | sl | mp | fn | BE | no
 deriving DecidableEq
def Zo:Value->Kd
 | .pointer _=>.ptr
 | .slice _ _ _=>.sl
 | .map _=>.mp
 | .func _ _ _=>.fn
 | .nilFunc=>.fn
 | .iface _ _=>.BE
 | .nilIface=>.BE
 | _=>.no
def kd:V->Kd
 | .t (.sc v)=>Zo v
 | .t (.fz _ _)=>.sl
 | .t (.BE _ _)=>.BE
 | .sl _ _=>.sl
 | .pt _ _=>.ptr
 | .pe _ _ _=>.ptr
 | .pf _ _=>.ptr
 | .mp _=>.mp
 | .fn _ _=>.fn
 | .BE _ _=>.BE
 | _=>.no
def Fg (d:TypeDesc)(k:Kd)(c:Value):Bool :=
 match d,k,c with
 | .pointer _,.ptr,.pointer none=>true
 | .slice _,.sl,.slice none 0 0=>true
 | .map _ _,.mp,.map none=>true
 | .func _ _ _,.fn,.nilFunc=>true
 | .interface _,.BE,.nilIface=>true
 | _,_,_=>false
omit [Mo] in
theorem Sg {d:TypeDesc}{c:Value}(h:Fg d .BE c=true):c=.nilIface:=by
 unfold Fg at h
 split at h <;> simp_all
omit [Mo] in
theorem Pm {d:TypeDesc}{v c:Value}(h:Fg d (Zo v) c=true):NP d v c=true:=by
 unfold Fg at h
 split at h
 · rename_i hk; cases v <;> first | (cases hk; done) | rfl
 · rename_i hk; cases v <;> first | (cases hk; done) | rfl
 · rename_i hk; cases v <;> first | (cases hk; done) | rfl
 · rename_i hk; cases v <;> first | (cases hk; done) | rfl
 · rename_i hk; cases v <;> first | (cases hk; done) | rfl
 · cases h
theorem Mt (hS:AK G B w F loc s) {x:V} {v:Value} {b:Bool} (h:Es s x=some b) (hv:AF w F loc x v) (hn:kd x ≠ .no):Zo v=kd x:=by
 unfold Es at h
 split at h
 all_goals first
   | (rw [AP hv]; rfl)
   | (cases hv with
      | gone _ o _ hx _=>cases hx
      | t _ _ h=>cases h <;> rfl)
   | (cases hv with
      | gone _ o _ hx _=>cases hx
      | BE=>rfl)
   | (cases hv with
      | gone _ o _ hx _=>cases hx
      | fn=>rfl)
   | (cases hv with
      | gone _ o _ hx _=>cases hx
      | pf=>rfl)
   | skip
 · split at h
   · rename_i ho
     obtain ⟨b,hl⟩:=hS.Vh ho
     rw [Ec hv hl]; rfl
   · cases h
 · split at h
   · rename_i ho
     obtain ⟨b,cap,cells,hl,_⟩:=hS.row ho
     obtain ⟨g,_,_,rfl⟩:=HL hv hl
     rfl
   · cases h
 · split at h
   · rename_i ho
     obtain ⟨b,cap,cells,hl,_⟩:=hS.row ho
     obtain ⟨rfl,_⟩:=CY hv hl
     rfl
   · cases h
 · split at h
   · rename_i ho
     obtain ⟨b,hl⟩:=hS.UH ho
     rw [Cn hv hl]; rfl
   · cases h
 · cases h
def fV:Value->Value->Option Bool
 | .int k a,.int k' b=>if k=k' then some (a == b) else none
 | .bool a,.bool b=>some (a == b)
 | .string a,.string b=>some (a.toList == b.toList)
 | _,_=>none
def eqC:List V->List V->Option Bool
 | [],[]=>some true
 | .t (.sc a) :: xs,.t (.sc b) :: ys=>match fV a b,eqC xs ys with
   | some p,some q=>some (p && q)
   | _,_=>none
 | _,_=>none
def Qu (D:Ah)(s:AE)(t:TypeId)(x y:V):Option Bool :=
 match D.AW t with
 | none=>none
 | some d =>
   match x,y with
   | .t (.sc (.bool a)),.t (.sc (.bool b))=>match d with | .bool=>some (a == b) | _=>none
   | x,.t (.sc c)=>if Fg d (kd x) c && (kd x != .no) then Es s x else none
   | _,_=>none
omit [Mo] in
theorem Gp (n:Nat){t:TypeId}{a b:Bool}(hu:P.underlying t=some .bool):(Op.equalIn (n+1) t (.bool a) (.bool b)).run P w=.ok (a == b) w:=by
 simp only [Op.equalIn,Sem.run_bind,run_underlying hu w,Result.andThen_ok]; rfl
theorem Wz (hg:Good P D) (hS:AK G B w F loc s) {t:TypeId} {x y:V} {a b:Value} {r:Bool} (h:Qu D s t x y=some r) (hx:AF w F loc x a) (hy:AF w F loc y b) :
   (Op.equal t a b).run P w=.ok r w/\(∀ k n,a ≠ .int k n)/\(∀ z,a ≠ .string z)/\(∀ f n,a ≠ .float f n)/\(∀ f n m,a ≠ .complex f n m)/\(∀ cs,a ≠ .agg cs)/\(a=.nilIface->b=.nilIface):=by
 unfold Qu at h
 cases hu:D.AW t with
 | none=>rw [hu] at h; cases h
 | some d =>
   rw [hu] at h
   simp only at h
   have hu':=(hg.AW t d hu).1
   split at h
   · rename_i p q
     split at h
     · cases h
       rw [AP hx,AP hy]
       exact ⟨Gp 9999 hu', by simp,by simp,by simp,by simp,by simp,by simp⟩
     · cases h
   · rename_i c _
     split at h
     · rename_i hc
       simp only [Bool.and_eq_true,bne_iff_ne,ne_eq] at hc
       have hk:=Mt hS h hx hc.2
       rw [AP hy]
       rw [<- hk] at hc
       refine ⟨?_,?_⟩
       · rw [<- MC hS h hx]; exact Hv hu' (Pm hc.1)
       · have h2:=hc.2
         have h1:=hc.1
         refine ⟨?_,?_,?_,?_,?_,?_⟩
         · rintro k n rfl; exact h2 rfl
         · rintro z rfl; exact h2 rfl
         · rintro f n rfl; exact h2 rfl
         · rintro f n m rfl; exact h2 rfl
         · rintro cs rfl; exact h2 rfl
         · rintro rfl
           exact Sg h1
     · cases h
   · cases h
def Ks (D:Ah) (s:AE) (op:BinOp) (t:TypeId) (x y:V):Option V :=
 match op with
 | .eql=>match x,y with
   | .t (.sc a),.t (.sc b)=>match bin .eql a b with
     | some v=>some (.t (.sc v))
     | none=>(Qu D s t x y).map vB
   | _,_=>(Qu D s t x y).map vB
 | .neq=>match x,y with
   | .t (.sc a),.t (.sc b)=>match bin .neq a b with
     | some v=>some (.t (.sc v))
     | none=>(Qu D s t x y).map fun b=>vB (!b)
   | _,_=>(Qu D s t x y).map fun b=>vB (!b)
 | op=>match x,y with
   | .t (.sc a),.t (.sc b)=>(bin op a b).map fun v=>.t (.sc v)
   | _,_=>none
end Go.Proofs.YtobfoiomjfdjjaaDoor.Mc
namespace Go.Proofs.YtobfoiomjfdjjaaDoor.Mc
open Go.RowKit
variable [Mo]
variable {P:Program}{G:BA}{D:Ah}{B:BB}{w:World}{F:Nat->Prop}{loc:Nat->Option Loc}{s:AE}
def isConst:Operand->Bool | .const _=>true | _=>false
omit [Mo] in
theorem Dc {op:BinOp} {t:TypeId} {x y:Operand} {a b:Value} (hagg:∀ cs,a ≠ .agg cs) (hn:a=.nilIface->isConst y=true):(eqGuard op t x y a b).run P w=.ok () w:=by
 cases op
 case eql =>
   cases a with
   | agg cs=>exact absurd rfl (hagg cs)
   | nilIface =>
     have:=hn rfl
     cases y with
     | const c=>cases b <;> first | rfl | (cases x <;> rfl)
     | _=>cases this
   | _=>rfl
 case neq =>
   cases a with
   | agg cs=>exact absurd rfl (hagg cs)
   | nilIface =>
     have:=hn rfl
     cases y with
     | const c=>cases b <;> first | rfl | (cases x <;> rfl)
     | _=>cases this
   | _=>rfl
 all_goals rfl
omit [Mo] in
theorem TW {op:BinOp}{t:TypeId}{x y:Operand}{a b v:Value}(h:bin op a b=some v):(eqGuard op t x y a b).run P w=.ok () w:=by
 refine Dc ?_ ?_
 · rintro cs rfl; unfold bin at h; split at h <;> simp_all
 · rintro rfl; unfold bin at h; split at h <;> simp_all
theorem VK (hg:Good P D) (hS:AK G B w F loc s) {op:BinOp} {t:TypeId} {ox oy:Operand} {x y v:V} {a b:Value} (h:Ks D s op t x y=some v) (hx:AF w F loc x a) (hy:AF w F loc y b)
   (hc:kd x=.BE->isConst oy=true):∃ z,((do eqGuard op t ox oy a b; binOp op t a b:Sem Value)).run P w=.ok z w/\AF w F loc v z:=by
 have one:∀ {c d r:Value},x=.t (.sc c)->y=.t (.sc d)->bin op c d=some r->v=.t (.sc r)->∃ z,((do eqGuard op t ox oy a b; binOp op t a b:Sem Value)).run P w=.ok z w/\AF w F loc v z:=by
   intro c d r hxc hyd hb hv
   subst hxc hyd hv
   obtain rfl:=AP hx
   obtain rfl:=AP hy
   refine ⟨r,?_,.t _ _ (.sc _ (SV hb))⟩
   rw [Sem.run_bind,TW hb]
   exact XR hb w
 have two:∀ {r:Bool},Qu D s t x y=some r->(op=.eql\/op=.neq)->v=(if op=.eql then vB r else vB (!r))->∃ z,((do eqGuard op t ox oy a b; binOp op t a b:Sem Value)).run P w=.ok z w/\AF w F loc v z:=by
   intro r he hop hv
   obtain ⟨hrun,h1,h2,h3,h4,h5,h6⟩:=Wz hg hS he hx hy
   have hgd:(eqGuard op t ox oy a b).run P w=.ok () w:=by
     refine Dc h5 fun hn=>hc ?_
     subst hn
     unfold Qu at he
     cases hu:D.AW t with
     | none=>rw [hu] at he; cases he
     | some d =>
       rw [hu] at he
       simp only at he
       split at he
       · rename_i p q; cases (AP hx)
       · split at he
         · rename_i hcc
           simp only [Bool.and_eq_true,bne_iff_ne,ne_eq] at hcc
           have:=Mt hS he hx hcc.2
           rw [<- this]; rfl
         · cases he
       · cases he
   refine ⟨.bool (if op=.eql then r else !r),?_,?_⟩
   · rw [Sem.run_bind,hgd]
     simp only [Result.andThen_ok]
     rcases hop with rfl | rfl
     · have:binOp .eql t a b=(do pure (.bool (<- Op.equal t a b)):Sem Value):=by
         unfold binOp
         split <;> first | rfl | (rename_i hh _; cases hh; done) | (exfalso; simp_all; done) | simp_all
       rw [this,Sem.run_bind,hrun]; rfl
     · have:binOp .neq t a b=(do pure (.bool (!(<- Op.equal t a b))):Sem Value):=by
         unfold binOp
         split <;> first | rfl | (rename_i hh _; cases hh; done) | (exfalso; simp_all; done) | simp_all
       rw [this,Sem.run_bind,hrun]; rfl
   · subst hv
     rcases hop with rfl | rfl
     · exact .t _ _ (.sc _ rfl)
     · exact .t _ _ (.sc _ rfl)
 unfold Ks at h
 split at h
 · split at h
   · rename_i c d
     split at h
     · rename_i r hb; cases h; exact one rfl rfl hb rfl
     · obtain ⟨r,he,rfl⟩:=Option.map_eq_some_iff.1 h; exact two he (.inl rfl) rfl
   · obtain ⟨r,he,rfl⟩:=Option.map_eq_some_iff.1 h; exact two he (.inl rfl) rfl
 · split at h
   · rename_i c d
     split at h
     · rename_i r hb; cases h; exact one rfl rfl hb rfl
     · obtain ⟨r,he,rfl⟩:=Option.map_eq_some_iff.1 h; exact two he (.inr rfl) rfl
   · obtain ⟨r,he,rfl⟩:=Option.map_eq_some_iff.1 h; exact two he (.inr rfl) rfl
 · split at h
   · obtain ⟨r,he,rfl⟩:=Option.map_eq_some_iff.1 h; exact one rfl rfl he rfl
   · cases h
def Zs (op:UnOp)(x:V):Option V :=
 match op,x with
 | .not,.t (.sc (.bool b))=>some (vB (!b))
 | .neg,.t (.sc (.int k n))=>some (vI k (k.wrap (0 - n)))
 | .xor,.t (.sc (.int k n))=>some (vI k (Go.bits .xor k (if k.signed then -1 else k.max) n))
 | _,_=>none
omit [Mo] in
theorem WQ {op:UnOp} {x v:V} {a:Value} (h:Zs op x=some v) (hx:AF w F loc x a):∃ z,(Op.unary op a).run P w=.ok z w/\AF w F loc v z:=by
 unfold Zs at h
 split at h
 all_goals first
   | (cases h
      rw [AP hx]
      exact ⟨_,rfl,.t _ _ (.sc _ rfl)⟩)
   | cases h
def KB (D:Ah)(src dst:TypeId)(x:V):Option V :=
 match D.AW src,D.AW dst,x with
 | some _,some (.int k),.t (.sc (.int _ n))=>some (vI k (k.wrap n))
 | some .string,some .string,.t (.sc (.string s))=>some (vS s)
 | _,_,_=>none
omit [Mo] in
theorem TT (hg:Good P D){src dst:TypeId}{x v:V}{a:Value}(h:KB D src dst x=some v)(hx:AF w F loc x a):∃ z,(convert src dst a).run P w=.ok z w/\AF w F loc v z:=by
 unfold KB at h
 split at h
 · rename_i d k k' n hs hd
   cases h
   rw [AP hx]
   refine ⟨.int k (k.wrap n),?_,.t _ _ (.sc _ rfl)⟩
   simp only [convert,Sem.run_bind,run_underlying (hg.AW _ _ hs).1 w,run_underlying (hg.AW _ _ hd).1 w,Result.andThen_ok]
   rfl
 · rename_i s' hs hd
   cases h
   rw [AP hx]
   refine ⟨.string s', ?_,.t _ _ (.sc _ rfl)⟩
   simp only [convert,Sem.run_bind,run_underlying (hg.AW _ _ hs).1 w,run_underlying (hg.AW _ _ hd).1 w,Result.andThen_ok]
   rfl
 · cases h
omit [Mo] in
theorem Nz {vs:List V}{i:Nat}{v:V}{a:Value}(h:vs[i]? = some v)(hx:AF w F loc (.tp vs) a):∃ z,(Instr.extract a i).run P w=.ok z w/\AF w F loc v z:=by
 obtain ⟨us,val,rfl,hl,hv,hr⟩:=XM hx
 have hlt:=(List.getElem?_eq_some_iff.1 h).1
 refine ⟨val i,?_,hr i v h⟩
 simp [Instr.extract,hv i hlt]
end Go.Proofs.YtobfoiomjfdjjaaDoor.Mc
namespace Go.Proofs.YtobfoiomjfdjjaaDoor.Mc
open Go.RowKit
variable [Mo]
variable {P:Program}{G:BA}{D:Ah}{B:BB}{w:World}{F:Nat->Prop}{loc:Nat->Option Loc}{s:AE}
omit [Mo] in
theorem CW (hg:Good P D){t:Nat}{d:TypeDesc}(hu:D.AW t=some d):(sizeOf t).run P w=.ok (D.size t) w:=by
 obtain ⟨_,i,hi,hs,_⟩:=hg.AW t d hu
 simp [sizeOf,typeInfo,hi,hs]
omit [Mo] in
theorem RU (hg:Good P D){t:Nat}{d:TypeDesc}(hu:D.AW t=some d):(isAgg t).run P w=.ok d.isRow w:=by
 unfold isAgg
 rw [Sem.run_bind,run_underlying (hg.AW t d hu).1 w]
 cases d <;> rfl
def GS (s:AE)(x:V)(n:Nat):Option V :=
 match x with
 | .pt o off=>match get s o with | some (.bx _ _)=>some (.pt o (off+n)) | _=>none
 | .pe o i off=>match get s o with | some (.ar _ _ _)=>some (.pe o i (off+n)) | _=>none
 | .pf cells off=>some (.pf cells (off+n))
 | _=>none
theorem It (hS:AK G B w F loc s) {x v:V} {n:Nat} {a:Value} (h:GS s x n=some v) (hx:AF w F loc x a) :
   ∃ ad:Addr,a=.pointer (some ad)/\AF w F loc v (.pointer (some (ad.add n))):=by
 unfold GS at h
 split at h
 · split at h
   · rename_i ho
     cases h
     obtain ⟨b,hl⟩:=hS.Vh ho
     rw [Ec hx hl]
     exact ⟨_,rfl,by rw [Addr.add_mid]; exact .pt _ _ b hl⟩
   · cases h
 · split at h
   · rename_i ho
     cases h
     obtain ⟨b,cap,cells,hl,_⟩:=hS.row ho
     obtain ⟨g,rfl,hi,rfl⟩:=HL hx hl
     exact ⟨_,rfl,by rw [Addr.add_mid,Nat.add_assoc]; exact .pe _ _ _ g _ _ _ hl hi⟩
   · cases h
 · cases h
   cases hx with
   | gone _ o' _ hx ho=>cases hx
   | pf _ _ b o0 val hF hc hr=>exact ⟨_,rfl,by rw [Addr.add_mid,Nat.add_assoc]; exact .pf _ _ b o0 val hF hc hr⟩
 · cases h
def DU (D:Ah)(s:AE)(t:TypeId)(x:V)(f:Nat):Option V :=
 match D.AW t with
 | some (.struct fields)=>match fields[f]? with
   | some fl=>if D.size fl.type=0 || !(D.has fl.type) then none else GS s x fl.offset
   | none=>none
 | _=>none
omit [Mo] in
theorem BH {t:Nat}(h:D.has t=true):∃ d,D.AW t=some d:=Option.isSome_iff_exists.1 h
theorem Jn (hg:Good P D) (hS:AK G B w F loc s) {t:TypeId} {f:Nat} {x v:V} {a:Value} (h:DU D s t x f=some v) (hx:AF w F loc x a) :
   ∃ z,(Instr.fieldAt t a f).run P w=.ok z w/\AF w F loc v z:=by
 unfold DU at h
 split at h
 · rename_i fields hu
   split at h
   · rename_i fl hf
     split at h
     · cases h
     · rename_i hsz
       simp only [Bool.or_eq_true,decide_eq_true_eq,Bool.not_eq_true', not_or,Bool.not_eq_false] at hsz
       obtain ⟨d,hd⟩:=BH hsz.2
       obtain ⟨ad,rfl,hr⟩:=It hS h hx
       refine ⟨_,?_,hr⟩
       simp [Instr.fieldAt,run_underlying (hg.AW t _ hu).1 w,hf,Instr.sureAddr,fieldPlace,CW hg hd,hsz.1]
   · cases h
 · cases h
def BR (D:Ah) (s:AE) (t:TypeId) (x i:V):Option V :=
 match D.AW t,i with
 | some (.slice e),.t (.sc (.int _ n)) =>
   if !(D.has e) then none else
   match x with
   | .t (.fz _ rows)=>if 0<=n/\n < rows.length then match rows[n.toNat]? with
       | some r=>if Nat.beq r.length (D.size e) then some (.pf r 0) else none
       | none=>none
     else none
   | .sl _ o=>match get s o with
     | some (.ar _ sz rows)=>if !(Nat.beq sz (D.size e)) then none else if 0<=n/\n < rows.length then some (.pe o n.toNat 0) else none
     | _=>none
   | .sw o off len=>match get s o with
     | some (.ar _ sz _)=>if !(Nat.beq sz (D.size e)) then none else if 0<=n/\n < len then some (.pe o (off+n.toNat) 0) else none
     | _=>none
   | _=>none
 | some (.array len e),.t (.sc (.int _ n))=>if !(D.has e) then none else if 0<=n/\n < len then GS s x (n.toNat * D.size e) else none
 | _,_=>none
omit [Mo] in
theorem Dl (hg:Good P D){t e:TypeId}{d:TypeDesc}{k:IntKind}{n:Int}{a:Addr}{len c:Nat}(hu:D.AW t=some (.slice e))(he:D.AW e=some d)(h0:0<=n)(h1:n < len) :
   (Instr.indexAt t (.slice (some a) len c) (.int k n)).run P w=.ok (.pointer (some (a.add (n.toNat * D.size e)))) w:=by
 simp [Instr.indexAt,asIntOf,run_underlying (hg.AW t _ hu).1 w,h0,h1,CW hg he]
theorem Jh (hg : Good P D) (hS:AK G B w F loc s) {t:TypeId} {x i v:V} {a b:Value} (h:BR D s t x i=some v) (hx:AF w F loc x a) (hi:AF w F loc i b) :
   ∃ z,(Instr.indexAt t a b).run P w=.ok z w/\AF w F loc v z:=by
 unfold BR at h
 split at h
 · rename_i e k n hu
   rw [AP hi]
   split at h
   · cases h
   · rename_i hhas
     simp only [Bool.not_eq_true', Bool.not_eq_false] at hhas
     obtain ⟨d,hd⟩:=BH hhas
     split at h
     · rename_i nl rows
       split at h
       · rename_i hn
         split at h
         · rename_i r hr
           split at h
           · rename_i hlen
             cases h
             have hlen':r.length=D.size e:=Nat.eq_of_beq_eq_true hlen
             cases hx with
             | gone _ o' _ hx ho=>cases hx
             | t _ _ hx =>
               cases hx with
               | nil=>simp at hr
               | mt=>simp at hr
               | fz _ _ sz b off cap val hF hne hz hsz hcap hc h1 hrr =>
                 refine ⟨_,Dl hg hu hd hn.1 hn.2,?_⟩
                 have hsz':=BX hsz hr
                 rw [Addr.add_mid]
                 have:=AF.pf (w:=w) (F:=F) (loc:=loc) r 0 b (off+n.toNat * D.size e) (val n.toNat) hF (fun j hj=>by rw [<- hlen', hsz']; exact hc n.toNat r hr j (by omega)) (fun j x hj=>hrr n.toNat r hr j x hj)
                 simpa using this
           · cases h
         · cases h
       · cases h
     · rename_i nl o
       split at h
       · rename_i e' sz rows ho
         split at h
         · cases h
         · rename_i hsz
           have hsz':sz=D.size e:=Nat.eq_of_beq_eq_true (by simpa using hsz)
           subst hsz'
           split at h
           · rename_i hn
             cases h
             obtain ⟨b,cap,cells,hl,hz,hszz,hown,h1,hr⟩:=hS.row ho
             obtain ⟨rfl,_⟩:=CY hx hl
             obtain ⟨g,rfl⟩:=Dx hown (by omega)
             refine ⟨_,Dl hg hu hd hn.1 hn.2,?_⟩
             rw [Addr.add_mid]
             have:=AF.pe (w:=w) (F:=F) (loc:=loc) o n.toNat 0 g _ _ _ hl (by omega)
             simpa using this
           · cases h
       · cases h
     · rename_i o off len
       split at h
       · rename_i e' sz rows ho
         split at h
         · cases h
         · rename_i hsz
           have hsz':sz=D.size e:=Nat.eq_of_beq_eq_true (by simpa using hsz)
           subst hsz'
           split at h
           · rename_i hn
             cases h
             obtain ⟨b,cap,cells,hl,hz,hszz,hown,h1,hr⟩:=hS.row ho
             obtain ⟨a', rfl,hlen,ha,_⟩:=EP hx hl
             obtain ⟨g,rfl,rfl⟩:=ha (by omega)
             refine ⟨_,Dl hg hu hd hn.1 hn.2,?_⟩
             rw [Addr.add_mid,<- Nat.add_mul]
             have:=AF.pe (w:=w) (F:=F) (loc:=loc) o (off+n.toNat) 0 g _ _ _ hl (by omega)
             simpa using this
           · cases h
       · cases h
     · cases h
 · rename_i len e k n hu
   rw [AP hi]
   split at h
   · cases h
   · rename_i hhas
     simp only [Bool.not_eq_true', Bool.not_eq_false] at hhas
     obtain ⟨d,hd⟩:=BH hhas
     split at h
     · rename_i hn
       obtain ⟨ad,rfl,hr⟩:=It hS h hx
       refine ⟨_,?_,hr⟩
       simp [Instr.indexAt,asIntOf,run_underlying (hg.AW t _ hu).1 w,hn.1,hn.2,CW hg hd,Instr.sureAddr]
     · cases h
 · cases h
omit [Mo] in
theorem Gn (hg:Good P D) {t:Nat} {cells:List V} {off:Nat} {v:V} (h:EL D t cells off=some v) {vs:List Value} {val:Nat->Value} (hl:cells.length=vs.length)
   (hv:∀ j,j < cells.length->vs[j]? = some (val j)) (hr:∀ (j:Nat) (x:V),cells[j]? = some x->AF w F loc x (val j)):∃ z,(part t vs.toArray off).run P w=.ok z w/\AF w F loc v z:=by
 unfold EL at h
 cases hu:D.AW t with
 | none=>rw [hu] at h; cases h
 | some d =>
   rw [hu] at h
   simp only at h
   cases hd:d.isRow with
   | true =>
     rw [hd] at h
     simp only [if_true] at h
     split at h
     · rename_i hlen
       cases h
       refine ⟨.agg ((vs.drop off).take (D.size t)).toArray,?_,.ag _ _ (fun j=>val (off+j)) (by simp; omega) (fun j hj=>?_) (fun j x hj=>?_)⟩
       · simp only [part,Sem.run_bind,RU hg hu,hd,Result.andThen_ok,if_true,CW hg hu,Sem.run_pure]
         congr 2
         apply Array.ext'
         simp
       · have:j < D.size t:=by simp at hj; omega
         rw [List.getElem?_take,if_pos this,List.getElem?_drop]
         exact hv _ (by omega)
       · rw [List.getElem?_take] at hj
         split at hj
         · rw [List.getElem?_drop] at hj; exact hr _ x hj
         · cases hj
     · cases h
   | false =>
     rw [hd] at h
     simp only [Bool.false_eq_true,if_false] at h
     have hlt:=(List.getElem?_eq_some_iff.1 h).1
     refine ⟨val off,?_,hr off v h⟩
     simp [part,RU hg hu,hd,hv off hlt]
def Kw (D:Ah)(t:TypeId)(x:V)(f:Nat):Option V :=
 match D.AW t,x with
 | some (.struct fields),.ag cells=>match fields[f]? with
   | some fl=>EL D fl.type cells fl.offset
   | none=>none
 | _,_=>none
omit [Mo] in
theorem Qk (hg:Good P D) {t:TypeId} {f:Nat} {x v:V} {a:Value} (h:Kw D t x f=some v) (hx:AF w F loc x a):∃ z,(Instr.field t a f).run P w=.ok z w/\AF w F loc v z:=by
 unfold Kw at h
 split at h
 · rename_i fields cells hu
   split at h
   · rename_i fl hf
     obtain ⟨vs,val,rfl,hl,hv,hr⟩:=FR hx
     obtain ⟨z,hz,hrel⟩:=Gn hg h hl hv hr
     refine ⟨z,?_,hrel⟩
     simp [Instr.field,run_underlying (hg.AW t _ hu).1 w,hf,asAgg,hz]
   · cases h
 · cases h
def bt (s:ByteArray)(i:Int):Int:=if h:i.toNat < s.size then ((s[i.toNat]'h).toNat:Int) else 0
def GL (D:Ah)(t:TypeId)(x i:V):Option V :=
 match D.AW t,x,i with
 | some .string,.t (.sc (.string s)),.t (.sc (.int _ n))=>if 0<=n/\n < s.size then some (vI .u8 (bt s n)) else none
 | some (.array len e),.ag cells,.t (.sc (.int _ n))=>if D.has e then (if 0<=n/\n < len then EL D e cells (n.toNat * D.size e) else none) else none
 | _,_,_=>none
omit [Mo] in
theorem Px (hg:Good P D) {t:TypeId} {x i v:V} {a b:Value} (h:GL D t x i=some v) (hx:AF w F loc x a) (hi:AF w F loc i b):∃ z,(Instr.index t a b).run P w=.ok z w/\AF w F loc v z:=by
 unfold GL at h
 split at h
 · rename_i str k n hu
   rw [AP hi,AP hx]
   split at h
   · rename_i hn
     cases h
     have hlt:n.toNat < str.size:=by omega
     refine ⟨.int .u8 (bt str n),?_,.t _ _ (.sc _ rfl)⟩
     have hget:str[n.toNat]? = some (str[n.toNat]'hlt):=by simp [hlt]
     simp only [Instr.index,Sem.run_bind,asIntOf,Sem.run_pure,Result.andThen_ok,run_underlying (hg.AW t _ hu).1 w,if_pos hn.1,hget,bt,dif_pos hlt]
   · cases h
 · rename_i len e cells k n hu
   rw [AP hi]
   split at h
   · rename_i hhas
     obtain ⟨d,hd⟩:=BH hhas
     split at h
     · rename_i hn
       obtain ⟨vs,val,rfl,hl,hv,hr⟩:=FR hx
       obtain ⟨z,hz,hrel⟩:=Gn hg h hl hv hr
       refine ⟨z,?_,hrel⟩
       simp [Instr.index,asIntOf,run_underlying (hg.AW t _ hu).1 w,hn.1,hn.2,CW hg hd,hz]
     · cases h
   · cases h
 · cases h
end Go.Proofs.YtobfoiomjfdjjaaDoor.Mc
namespace Go.Proofs.YtobfoiomjfdjjaaDoor.Mc
open Go.RowKit
variable [Mo]
variable {P:Program}{G:BA}{D:Ah}{B:BB}{w:World}{F:Nat->Prop}{loc:Nat->Option Loc}{s:AE}
def bound (x:Option V)(d:Int):Option Int :=
 match x with
 | none=>some d
 | some (.t (.sc (.int _ n)))=>some n
 | _=>none
def Fl:Nl->Nl | .e=>.e | _=>.u
def Cj (D : Ah) (s:AE) (t:TypeId) (x:V) (lo hi:Option V):Option V :=
 match D.AW t with
 | some .string=>match x with
   | .t (.sc (.string b))=>match bound hi b.size,bound lo 0 with
     | some h,some l=>if 0<=h/\h<=b.size/\0<=l/\l<=h then some (vS (b.extract l.toNat h.toNat)) else none
     | _,_=>none
   | _=>none
 | some (.slice e) =>
   if !(D.has e) then none else
   match x with
   | .t (.fz nl rows)=>match bound hi rows.length,bound lo 0 with
     | some h,some l=>if 0<=h/\h<=rows.length/\0<=l/\l<=h then
         (match rows with
          | []=>some (.t (.fz (Fl nl) []))
          | r :: _=>if Nat.beq r.length (D.size e) then some (.t (.fz (Fl nl) ((rows.take h.toNat).drop l.toNat))) else none)
       else none
     | _,_=>none
   | .sl _ o=>match get s o with
     | some (.ar _ sz rows)=>if !(Nat.beq sz (D.size e)) then none else
       match bound hi rows.length,bound lo 0 with
       | some h,some l=>if 0<=h/\h<=rows.length/\0<=l/\l<=h then some (.sw o l.toNat (h.toNat - l.toNat)) else none
       | _,_=>none
     | _=>none
   | .sw o off len=>match get s o with
     | some (.ar _ sz _)=>if !(Nat.beq sz (D.size e)) then none else
       match bound hi len,bound lo 0 with
       | some h,some l=>if 0<=h/\h<=len/\0<=l/\l<=h then some (.sw o (off+l.toNat) (h.toNat - l.toNat)) else none
       | _,_=>none
     | _=>none
   | .t (.sc (.slice none 0 0))=>match bound hi 0,bound lo 0 with
     | some h,some l=>if h=0/\l=0 then some (.t (.sc (.slice none 0 0))) else none
     | _,_=>none
   | _=>none
 | _=>none
inductive KT (w:World)(F:Nat->Prop)(loc:Nat->Option Loc):Option V->Option Value->Prop where
 | none:KT w F loc none none
 | some (x:V) (v:Value) (h:AF w F loc x v):KT w F loc (some x) (some v)
omit [Mo] in
theorem Hk {k:IntKind}{n:Int}{y:Nat}{code:BoundsCode}(h0:0<=n)(h1:n<=y):(Instr.sliceBound (.int k n) y code).run P w=.ok n.toNat w:=by
 simp [Instr.sliceBound,asIntOf,h0,h1]
omit [Mo] in
theorem Fw {x:V}{v:Value}{d n:Int}(h:bound (some x) d=some n)(hv:AF w F loc x v):∃ k,v=.int k n:=by
 unfold bound at h
 split at h
 · rename_i hx; cases hx
 · rename_i k n hx; cases hx; cases h; exact ⟨k,AP hv⟩
 · cases h
omit [Mo] in
theorem Jo {is:Bool} {len cap:Nat} {lo hi:Option V} {a b:Option Value} {h l:Int} (hlo:KT w F loc lo a) (hhi:KT w F loc hi b) (eh:bound hi len=some h) (el:bound lo 0=some l)
   (h0:0<=h) (h1:h<=len) (h2:0<=l) (h3:l<=h) (hc:len<=cap):(Instr.sliceBounds is len cap a b none).run P w=.ok (l.toNat,h.toNat,cap) w:=by
 cases hhi with
 | none =>
   obtain rfl:h=len:=by cases eh; rfl
   cases hlo with
   | none =>
     obtain rfl:l=0:=by cases el; rfl
     simp [Instr.sliceBounds]
   | some x v hv =>
     obtain ⟨k,rfl⟩:=Fw el hv
     simp [Instr.sliceBounds,Hk h2 h3]
 | some y u hu =>
   obtain ⟨k,rfl⟩:=Fw eh hu
   have hb:∀ code,(Instr.sliceBound (.int k h) cap code).run P w=.ok h.toNat w:=fun code=>Hk h0 (by omega)
   cases hlo with
   | none =>
     obtain rfl:l=0:=by cases el; rfl
     simp [Instr.sliceBounds,hb]
   | some x v hv =>
     obtain ⟨k', rfl⟩:=Fw el hv
     have hb':∀ code,(Instr.sliceBound (.int k' l) h.toNat code).run P w=.ok l.toNat w:=fun code=>Hk h2 (by omega)
     simp [Instr.sliceBounds,hb,hb']
omit [Mo] in
theorem Hz {e:TypeId}{sz n cap:Nat}{a:Option Addr}{cells:List Value}(h:World.DG w e sz (.slice a n cap) n cells):n<=cap:=by
 rcases CV h with ⟨_,hn⟩ | ⟨g,cap', cur,_,_,hv,_,_,hc,_⟩
 · omega
 · injection hv with _ _ h3; omega
omit [Mo] in
theorem IK {α:Type}{rows:List α}{h l i:Nat}{r:α}(hi:((rows.take h).drop l)[i]? = some r):rows[l+i]? = some r:=by
 rw [List.getElem?_drop,List.getElem?_take] at hi
 split at hi
 · exact hi
 · cases hi
theorem QQ (hg : Good P D) (hS:AK G B w F loc s) {t:TypeId} {x v:V} {lo hi:Option V} {a:Value} {va vb:Option Value} (h:Cj D s t x lo hi=some v) (hx:AF w F loc x a)
   (hlo:KT w F loc lo va) (hhi:KT w F loc hi vb):∃ z,(Instr.sliceAt t a va vb none).run P w=.ok z w/\AF w F loc v z:=by
 unfold Cj at h
 split at h
 · rename_i hu
   split at h
   · rename_i b
     rw [AP hx]
     split at h
     · rename_i hh ll eh el
       split at h
       · rename_i hb
         cases h
         refine ⟨.string (b.extract ll.toNat hh.toNat),?_,.t _ _ (.sc _ rfl)⟩
         have:=Jo (P:=P) (is:=false) (len:=b.size) (cap:=b.size) hlo hhi eh el hb.1 hb.2.1 hb.2.2.1 hb.2.2.2 (Nat.le_refl _)
         simp [Instr.sliceAt,Instr.slice,run_underlying (hg.AW t _ hu).1 w,this]
       · cases h
     · cases h
   · cases h
 · rename_i e hu
   have hslice:∀ {a:Option Addr} {len cap:Nat} {hh ll:Int},bound hi len=some hh->bound lo 0=some ll->0<=hh->hh<=len->0<=ll->ll<=hh->len<=cap->D.has e=true ->
       (Instr.sliceAt t (.slice a len cap) va vb none).run P w=.ok (.slice (if cap=ll.toNat then a else a.map (·.add (ll.toNat * D.size e))) (hh.toNat - ll.toNat) (cap - ll.toNat)) w:=by
     intro a len cap hh ll eh el h0 h1 h2 h3 hc he
     obtain ⟨d,hd⟩:=BH he
     have:=Jo (P:=P) (is:=true) (len:=len) (cap:=cap) hlo hhi eh el h0 h1 h2 h3 hc
     simp [Instr.sliceAt,Instr.slice,run_underlying (hg.AW t _ hu).1 w,this,CW hg hd]
   split at h
   · cases h
   · rename_i hhas
     simp only [Bool.not_eq_true', Bool.not_eq_false] at hhas
     split at h
     · rename_i nl rows
       split at h
       · rename_i hh ll eh el
         split at h
         · rename_i hb
           cases hx with
           | gone _ o' _ hx ho=>cases hx
           | t _ _ hx =>
             cases hx with
             | nil _ hn =>
               simp only [Option.some.injEq] at h
               subst h
               refine ⟨_,hslice eh el hb.1 hb.2.1 hb.2.2.1 hb.2.2.2 (Nat.le_refl _) hhas,?_⟩
               have hh0:hh=0:=by have:=hb.2.1; simp at this; omega
               have hl0:ll=0:=by omega
               subst hh0 hl0
               have:Fl nl ≠ .e:=by cases nl <;> simp_all [Fl]
               simpa using AF.t _ _ (BG.nil _ this)
             | mt _ ad cap hn =>
               simp only [Option.some.injEq] at h
               subst h
               refine ⟨_,hslice eh el hb.1 hb.2.1 hb.2.2.1 hb.2.2.2 (Nat.zero_le _) hhas,?_⟩
               have hh0:hh=0:=by have:=hb.2.1; simp at this; omega
               have hl0:ll=0:=by omega
               subst hh0 hl0
               have:Fl nl ≠ .n:=by cases nl <;> simp_all [Fl]
               have hadd:(if cap=0 then some ad else some (ad.add 0))=some ad:=by simp [Addr.add]
               simp only [Int.toNat_zero,Nat.zero_mul,Option.map_some,Nat.sub_zero,Nat.sub_self,hadd]
               exact .t _ _ (.mt _ ad cap this)
             | fz _ _ sz b off cap val hF hne hz hsz hcap hc h1 hr =>
               split at h
               · exact absurd rfl hne
               · rename_i r0 rs
                 split at h
                 · rename_i hlen
                   cases h
                   have hsz0:sz=D.size e:=by rw [<- hsz r0 (by simp)]; exact Nat.eq_of_beq_eq_true hlen
                   subst hsz0
                   refine ⟨_,hslice eh el hb.1 hb.2.1 hb.2.2.1 hb.2.2.2 hcap hhas,?_⟩
                   have hlenn:((r0 :: rs:List (List T)).take hh.toNat).length=hh.toNat:=by rw [List.length_take]; omega
                   have hlen2:(((r0 :: rs:List (List T)).take hh.toNat).drop ll.toNat).length=hh.toNat - ll.toNat:=by rw [List.length_drop,hlenn]
                   by_cases hz0:hh.toNat - ll.toNat=0
                   · have hnil:((r0 :: rs:List (List T)).take hh.toNat).drop ll.toNat=[]:=List.eq_nil_of_length_eq_zero (by omega)
                     rw [hnil,hz0]
                     have:Fl nl ≠ .n:=by cases nl <;> simp [Fl]
                     split
                     · exact .t _ _ (.mt _ _ _ this)
                     · exact .t _ _ (.mt _ _ _ this)
                   · have hcl:¬ cap=ll.toNat:=by omega
                     rw [if_neg hcl,Option.map_some,Addr.add_mid,<- hlen2]
                     refine .t _ _ (.fz _ _ (D.size e) b (off+ll.toNat * D.size e) _ (fun i j=>val (ll.toNat+i) j) hF (fun hn=>?_) hz (fun r hr'=>hsz r (List.mem_of_mem_take (List.mem_of_mem_drop hr'))) (by omega) (fun i r hi j hj=>?_) (fun i r hi=>?_) (fun i r hi=>?_))
                     · rw [hn] at hlen2; simp at hlen2; omega
                     · have:=hc (ll.toNat+i) r (IK hi) j hj
                       rw [Nat.add_mul] at this
                       rw [<- this]; congr 2; omega
                     · exact h1 _ r (IK hi)
                     · exact hr _ r (IK hi)
                 · cases h
         · cases h
       · cases h
     · rename_i nl o
       split at h
       · rename_i e' sz rows ho
         split at h
         · cases h
         · rename_i hsz
           have hsz':sz=D.size e:=Nat.eq_of_beq_eq_true (by simpa using hsz)
           subst hsz'
           split at h
           · rename_i hh ll eh el
             split at h
             · rename_i hb
               cases h
               obtain ⟨b,cap,cells,hl,hz,hszz,hown,h1,hr⟩:=hS.row ho
               obtain ⟨rfl,_,_,hb0⟩:=CY hx hl
               have hcap:rows.length<=cap:=Hz hown
               refine ⟨_,hslice eh el hb.1 hb.2.1 hb.2.2.1 hb.2.2.2 hcap hhas,?_⟩
               refine .sw _ _ _ b _ cap _ _ hl (by omega) (fun hlen=>?_) (fun h0=>?_) (fun hn=>(hb0 (by cases b with | none=>rfl | some g=>(split at hn <;> simp at hn))).2)
               · obtain ⟨g,rfl⟩:=Dx hown (by omega)
                 have hcl:¬ cap=ll.toNat:=by omega
                 rw [if_neg hcl]
                 exact ⟨g,rfl,by simp [Addr.add_mid]⟩
               · rw [h0]; cases b <;> simp [Addr.add]
             · cases h
           · cases h
       · cases h
     · rename_i o off len
       split at h
       · rename_i e' sz rows ho
         split at h
         · cases h
         · rename_i hsz
           have hsz':sz=D.size e:=Nat.eq_of_beq_eq_true (by simpa using hsz)
           subst hsz'
           split at h
           · rename_i hh ll eh el
             split at h
             · rename_i hb
               cases h
               obtain ⟨b,cap,cells,hl,hz,hszz,hown,h1,hr⟩:=hS.row ho
               obtain ⟨a', rfl,hlen,ha,ha0,han⟩:=EP hx hl
               have hcap:rows.length<=cap:=Hz hown
               refine ⟨_,hslice eh el hb.1 hb.2.1 hb.2.2.1 hb.2.2.2 (by omega) hhas,?_⟩
               rw [Nat.sub_sub]
               refine .sw _ _ _ b _ cap _ _ hl (by omega) (fun hlen=>?_) (fun h0=>?_) (fun hn=>han (by cases a' with | none=>rfl | some g=>(split at hn <;> simp at hn)))
               · obtain ⟨g,rfl,rfl⟩:=ha (by omega)
                 have hcl:¬ cap - off=ll.toNat:=by omega
                 rw [if_neg hcl]
                 exact ⟨g,rfl,by simp [Addr.add_mid,Nat.add_mul]⟩
               · have:off=0:=by omega
                 have h00:ll.toNat=0:=by omega
                 rw [ha0 this,h00]; cases b <;> simp [Addr.add]
             · cases h
           · cases h
       · cases h
     · rw [AP hx]
       split at h
       · rename_i hh ll eh el
         split at h
         · rename_i hb
           cases h
           obtain ⟨rfl,rfl⟩:=hb
           refine ⟨_,hslice (len:=0) (cap:=0) eh el (by omega) (by simp) (by omega) (by omega) (Nat.le_refl _) hhas,?_⟩
           simpa using AF.t _ _ (BG.sc (w:=w) (F:=F) (.slice none 0 0) rfl)
         · cases h
       · cases h
     · cases h
 · cases h
end Go.Proofs.YtobfoiomjfdjjaaDoor.Mc
namespace Go.Proofs.YtobfoiomjfdjjaaDoor.Mc
open Go.RowKit
variable [Mo]
variable {P:Program}{G:BA}{D:Ah}{B:BB}{w:World}{F:Nat->Prop}{loc:Nat->Option Loc}{s:AE}
def JJ (s:AE):V->Bool
 | .t (.ag _)=>false
 | .t _=>true
 | .sl _ o=>(get s o).isSome
 | .sw o _ _=>(get s o).isSome
 | .pt o _=>(get s o).isSome
 | .pe o _ _=>(get s o).isSome
 | .mp o=>(get s o).isSome
 | .it o=>(get s o).isSome
 | .sp o=>(get s o).isSome
 | .pf _ _=>true
 | .fn _ _=>true
 | .BE _ _=>true
 | _=>false
theorem UD (hS:AK G B w F loc s){o:Nat}(h:(get s o).isSome=true):loc o ≠ some .gone:=by
 obtain ⟨x,hx⟩:=Option.isSome_iff_exists.1 h
 obtain ⟨l,hl,hr⟩:=hS.Cg o _ (get_some hx)
 rw [hl]
 rintro ⟨⟩
 cases hr
theorem FV (hS:AK G B w F loc s){x:V}{v:Value}(h:JJ s x=true)(hx:AF w F loc x v):v.oneCell' = true:=by
 cases hx with
 | t x v hx =>
   cases hx with
   | sc v hp=>exact IB hp
   | ag=>cases h
   | _=>rfl
 | gone x o v hx ho =>
   exfalso
   refine UD hS (o:=o) ?_ ho
   cases x <;> first | (cases hx; done) | (cases hx; exact h)
 | dead=>cases h
 | ag=>cases h
 | tp=>cases h
 | _=>rfl
def CF (w:World)(F:Nat->Prop)(loc:Nat->Option Loc)(xs:List V)(vs:List Value):Prop :=
 xs.length=vs.length/\∀ (j:Nat) (x:V),xs[j]? = some x->∃ v,vs[j]? = some v/\AF w F loc x v
omit [Mo] in
theorem CF.take {xs:List V}{vs:List Value}(h:CF w F loc xs vs)(n:Nat):CF w F loc (xs.take n) (vs.take n):=by
 refine ⟨by simp [h.1],fun j x hj=>?_⟩
 rw [List.getElem?_take] at hj ⊢
 split at hj
 · rename_i hlt; rw [if_pos hlt]; exact h.2 j x hj
 · cases hj
omit [Mo] in
theorem CF.drop {xs:List V}{vs:List Value}(h:CF w F loc xs vs)(n:Nat):CF w F loc (xs.drop n) (vs.drop n):=by
 refine ⟨by simp [h.1],fun j x hj=>?_⟩
 rw [List.getElem?_drop] at hj ⊢
 exact h.2 _ x hj
omit [Mo] in
theorem CF.append {xs ys:List V}{vs us:List Value}(h:CF w F loc xs vs)(k:CF w F loc ys us):CF w F loc (xs ++ ys) (vs ++ us):=by
 refine ⟨by simp [h.1,k.1],fun j x hj=>?_⟩
 rw [List.getElem?_append] at hj ⊢
 rw [<- h.1]
 split at hj
 · rename_i hlt; rw [if_pos hlt]; exact h.2 j x hj
 · rename_i hlt; rw [if_neg hlt]; exact k.2 _ x hj
omit [Mo] in
theorem CF.agg {xs:List V}{vs:List Value}(h:CF w F loc xs vs):AF w F loc (.ag xs) (.agg vs.toArray) :=
 .ag xs vs (fun j=>vs.getD j undef) h.1 (fun j hj=>by rw [h.1] at hj; simp [List.getD,List.getElem?_eq_getElem hj]) (fun j x hj=>by
   obtain ⟨v,hv,hr⟩:=h.2 j x hj
   have:vs.getD j undef=v:=by simp [List.getD,hv]
   rw [this]; exact hr)
omit [Mo] in
theorem CF.Uu {xs:List V}{vs:List Value}{val:Nat->Value}(hl:xs.length=vs.length)(hv:∀ j,j < xs.length->vs[j]? = some (val j))(h:∀ (j:Nat) (x:V),xs[j]? = some x->AF w F loc x (val j)):CF w F loc xs vs :=
 ⟨hl,fun j x hj=>⟨val j,hv j (List.getElem?_eq_some_iff.1 hj).1,h j x hj⟩⟩
def Af:V->List V
 | .ag cs=>cs
 | .t (.ag cs)=>cs.map .t
 | v=>[v]
def GK (s:AE):V->Bool
 | .ag _=>true
 | .t (.ag _)=>true
 | x=>JJ s x
theorem KX (hS:AK G B w F loc s) {x:V} {v:Value} (h:GK s x=true) (hx:AF w F loc x v):CF w F loc (Af x) v.cells.toList:=by
 have one:JJ s x=true->Af x=[x]->CF w F loc (Af x) v.cells.toList:=by
   intro h1 hc
   have hv:=FV hS h1 hx
   have:v.cells = #[v]:=by cases v <;> first | rfl | cases hv
   rw [hc,this]
   refine ⟨rfl,fun j y hj=>?_⟩
   cases j with
   | zero=>cases hj; exact ⟨v,rfl,hx⟩
   | succ j=>simp at hj
 unfold GK at h
 split at h
 · obtain ⟨vs,val,rfl,hl,hv,hr⟩:=FR hx
   exact .Uu hl hv hr
 · cases hx with
   | gone _ o _ hx _=>cases hx
   | t _ _ hx =>
     cases hx with
     | ag xs vs val hl hv hr =>
       refine ⟨by simp [Af,hl,Value.cells],fun j y hj=>?_⟩
       simp only [Af,List.getElem?_map] at hj
       obtain ⟨z,hz,rfl⟩:=Option.map_eq_some_iff.1 hj
       exact ⟨val j,hv j (List.getElem?_eq_some_iff.1 hz).1,.t _ _ (hr j z hz)⟩
 · rename_i h1 h2
   refine one h ?_
   unfold Af
   split
   · exact absurd rfl (h1 _)
   · exact absurd rfl (h2 _)
   · rfl
def EE (s:AE) (place:Nat->Option (Nat × Nat)) (cells:List V):List (Nat × V)->Option (List V)
 | []=>some cells
 | (i,v) :: rest =>
   match place i with
   | none=>none
   | some (off,size) =>
     if GK s v && Nat.beq (Af v).length size && Nat.ble (off+size) cells.length then EE s place (cells.take off ++ Af v ++ cells.drop (off+size)) rest else none
omit [Mo] in
theorem Ha (off:Nat):∀ (l:List Value) (k:Nat) (acc:Array Value),off+k+l.length<=acc.size ->
   ((l.zipIdx k).foldl (fun cs (p:Value × Nat)=>cs.setIfInBounds (off+p.2) p.1) acc).toList=acc.toList.take (off+k) ++ l ++ acc.toList.drop (off+k+l.length)
 | [],k,acc,_=>by simp
 | c :: l,k,acc,h=>by
   rw [List.zipIdx_cons,List.foldl_cons,Ha off l (k+1) _ (by simp at h ⊢; omega)]
   simp only [List.length_cons] at h
   have hlt:off+k < acc.toList.length:=by simp; omega
   simp only [Array.toList_setIfInBounds]
   rw [show off+(k+1)=off+k+1 from by omega]
   have h1:(acc.toList.set (off+k) c).take (off+k+1)=acc.toList.take (off+k) ++ [c]:=by
     rw [List.take_succ_eq_append_getElem (by simpa using hlt),List.take_set_of_le (Nat.le_refl _)]
     simp
   have h2:(acc.toList.set (off+k) c).drop (off+k+1+l.length)=acc.toList.drop (off+k+(l.length+1)):=by
     rw [List.drop_set_of_lt (by omega)]
     congr 1; omega
   rw [h1,h2]
   simp
theorem HK (hS:AK G B w F loc s) {place:Nat->Option (Nat × Nat)}:∀ (parts:List (Nat × V)) (vparts:List (Nat × Value)) (cells:List V) (vcells:Array Value) (out:List V),
   parts.length=vparts.length->(∀ (j:Nat) (p:Nat × V),parts[j]? = some p->∃ q,vparts[j]? = some q/\q.1=p.1/\AF w F loc p.2 q.2)->CF w F loc cells vcells.toList->EE s place cells parts=some out ->
   ∃ vout:Array Value,Instr.fill place vcells vparts=some vout/\CF w F loc out vout.toList
 | [],vparts,cells,vcells,out,hl,_,hc,h=>by
   cases vparts with
   | nil=>cases h; exact ⟨vcells,rfl,hc⟩
   | cons=>cases hl
 | (i, v) :: rest,vparts,cells,vcells,out,hl,hp,hc,h=>by
   cases vparts with
   | nil=>cases hl
   | cons q vrest =>
     obtain ⟨q', hq,h1,h2⟩:=hp 0 (i,v) rfl
     cases hq
     obtain ⟨i', u⟩:=q
     simp only at h1 h2
     subst h1
     unfold EE at h
     unfold Instr.fill
     cases hpl:place i' with
     | none=>rw [hpl] at h; cases h
     | some os =>
       obtain ⟨off,size⟩:=os
       rw [hpl] at h
       simp only at h ⊢
       split at h
       · rename_i hb
         simp only [Bool.and_eq_true] at hb
         obtain ⟨⟨hb1,hb2⟩,hb3⟩:=hb
         have hb2':(Af v).length=size:=Nat.eq_of_beq_eq_true hb2
         have hb3':off+size<=cells.length:=Nat.le_of_ble_eq_true hb3
         have hrel:=KX hS hb1 h2
         have hsz:u.cells.size=size:=by rw [<- hb2', hrel.1]; simp
         have hvs:cells.length=vcells.size:=by rw [hc.1]; simp
         rw [if_neg (by rw [hsz]; simp; omega)]
         have hfold:(u.cells.zipIdx.foldl (fun cs (c,j)=>cs.setIfInBounds (off+j) c) vcells).toList=vcells.toList.take off ++ u.cells.toList ++ vcells.toList.drop (off+size):=by
           have:=Ha off u.cells.toList 0 vcells (by simp; omega)
           simp only [Nat.add_zero,Array.length_toList,hsz] at this
           rw [<- this,<- Array.foldl_toList,Array.toList_zipIdx]
         refine HK hS rest vrest _ _ out (by simpa using hl) (fun j p hj=>hp (j+1) p (by simpa using hj)) ?_ h
         rw [hfold]
         exact ((hc.take off).append hrel).append (hc.drop _)
       · cases h
def Ef (l:List Value):Option (List V):=if l.all plain then some (l.map fun v=>.t (.sc v)) else none
omit [Mo] in
theorem GQ {l:List Value}{xs:List V}(h:Ef l=some xs):CF w F loc xs l:=by
 unfold Ef at h
 split at h
 · rename_i hp
   cases h
   refine ⟨by simp,fun j x hj=>?_⟩
   rw [List.getElem?_map] at hj
   obtain ⟨v,hv,rfl⟩:=Option.map_eq_some_iff.1 hj
   exact ⟨v,hv,.t _ _ (.sc v (List.all_eq_true.1 hp v (List.mem_of_getElem? hv)))⟩
 · cases h
def placesOf (D:Ah)(fields:List Field):Option (List (Nat × Nat)):=if fields.all (fun f=>D.has f.type) then some (fields.map fun f=>(f.offset,D.size f.type)) else none
def GM (D:Ah)(s:AE)(t:TypeId)(parts:List (Nat × V)):Option V :=
 match D.AW t,D.zero t with
 | some (.struct fields),some z=>match Ef z.cells.toList,placesOf D fields.toList with
   | some cs,some pl=>(EE s (pl[·]?) cs parts).map .ag
   | _,_=>none
 | some (.array _ e),some z=>match Ef z.cells.toList with
   | some cs=>if D.has e then (EE s (fun i=>some (i * D.size e,D.size e)) cs parts).map .ag else none
   | none=>none
 | _,_=>none
omit [Mo] in
theorem SM (hg:Good P D){t:Nat}(h:D.has t=true):∃ i,P.info? t=some i/\i.size=D.size t:=by
 obtain ⟨d,hd⟩:=BH h
 obtain ⟨_,i,hi,hs,_⟩:=hg.AW t d hd
 exact ⟨i,hi,hs⟩
omit [Mo] in
theorem Lg (hg:Good P D):∀ (fields:List Field),fields.all (fun f=>D.has f.type)=true->fields.mapM (fun f=>(P.info? f.type).map fun i=>(f.offset,i.size))=some (fields.map fun f=>(f.offset,D.size f.type))
 | [],_=>rfl
 | f :: fs,h=>by
   simp only [List.all_cons,Bool.and_eq_true] at h
   obtain ⟨i,hi,hs⟩:=SM hg h.1
   simp [List.mapM_cons,hi,hs,Lg hg fs h.2]
theorem QL (hg:Good P D) (hS:AK G B w F loc s) {t:TypeId} {parts:List (Nat × V)} {vparts:Array (Nat × Value)} {v:V} (h:GM D s t parts=some v)
   (hl:parts.length=vparts.size) (hp:∀ (j:Nat) (p:Nat × V),parts[j]? = some p->∃ q,vparts[j]? = some q/\q.1=p.1/\AF w F loc p.2 q.2) :
   ∃ z,(Instr.build t vparts).run P w=.ok z w/\AF w F loc v z:=by
 unfold GM at h
 split at h
 · rename_i fields z hu hz
   split at h
   · rename_i cs pl hcs hpl
     obtain ⟨out,ho,rfl⟩:=Option.map_eq_some_iff.1 h
     obtain ⟨vout,hv,hrel⟩:=HK hS parts vparts.toList cs z.cells out (by simpa using hl) (fun j p hj=>by simpa using hp j p hj) (GQ hcs) ho
     obtain ⟨hu', i,hi,hs,hb,hz'⟩:=hg.AW t _ hu
     unfold placesOf at hpl
     split at hpl
     · rename_i hall
       cases hpl
       refine ⟨.agg vout,run_build w t vparts vout ?_,by have:=hrel.agg; simpa using this⟩
       unfold Program.built
       rw [hi,hu']
       simp only [hz', hz,Lg hg _ hall]
       have:(fun x:Nat=>((fields.toList.map fun f=>(f.offset,D.size f.type)).toArray)[x]?)=fun x:Nat=>(fields.toList.map fun f=>(f.offset,D.size f.type))[x]? := by funext x; simp
       rw [this]; exact hv
     · cases hpl
   · cases h
 · rename_i n e z hu hz
   split at h
   · rename_i cs hcs
     split at h
     · rename_i hhas
       obtain ⟨out,ho,rfl⟩:=Option.map_eq_some_iff.1 h
       obtain ⟨vout,hv,hrel⟩:=HK hS parts vparts.toList cs z.cells out (by simpa using hl) (fun j p hj=>by simpa using hp j p hj) (GQ hcs) ho
       obtain ⟨hu', i,hi,hs,hb,hz'⟩:=hg.AW t _ hu
       obtain ⟨j,hj,hjs⟩:=SM hg hhas
       refine ⟨.agg vout,run_build w t vparts vout ?_,by have:=hrel.agg; simpa using this⟩
       unfold Program.built
       rw [hi,hu']
       simp only [hz', hz,hj,hjs]
       exact hv
     · cases h
   · cases h
 · cases h
end Go.Proofs.YtobfoiomjfdjjaaDoor.Mc
namespace Go.Proofs.YtobfoiomjfdjjaaDoor.Mc
open Go.RowKit
variable [Mo]
variable {P:Program}{G:BA}{D:Ah}{B:BB}{w:World}{F:Nat->Prop}{loc:Nat->Option Loc}{s:AE}
def LO (D:Ah)(s:AE)(t:TypeId)(x:V):Option V :=
 match D.AW t,x with
 | some .string,.t (.sc (.string b))=>some (vI .i64 b.size)
 | some (.slice _),.t (.fz _ rows)=>some (vI .i64 rows.length)
 | some (.slice _),.t (.sc (.slice none 0 0))=>some (vI .i64 0)
 | some (.slice _),.sl _ o=>match get s o with | some (.ar _ _ rows)=>some (vI .i64 rows.length) | _=>none
 | some (.slice _),.sw o _ len=>match get s o with | some (.ar _ _ _)=>some (vI .i64 len) | _=>none
 | _,_=>none
theorem Ve (hg:Good P D) (hS:AK G B w F loc s) {t ty:TypeId} {ts:Array TypeId} {x v:V} {a:Value} (h:LO D s t x=some v) (ht:ts[0]? = some t) (hx:AF w F loc x a) :
   ∃ z,(Builtin.len_ ts ty #[a]).run P w=.ok z w/\AF w F loc v z:=by
 unfold LO at h
 split at h
 · rename_i b hu
   cases h
   rw [AP hx]
   exact ⟨.int .i64 b.size,by simp [Builtin.len_,ht,run_underlying (hg.AW t _ hu).1 w,goInt],.t _ _ (.sc _ rfl)⟩
 · rename_i e nl rows hu
   cases h
   have:∃ a' c,a=.slice a' rows.length c:=by
     cases hx with
     | gone _ o _ hx _=>cases hx
     | t _ _ hx=>cases hx <;> exact ⟨_,_,rfl⟩
   obtain ⟨a', c,rfl⟩:=this
   exact ⟨.int .i64 rows.length,by simp [Builtin.len_,ht,run_underlying (hg.AW t _ hu).1 w,goInt],.t _ _ (.sc _ rfl)⟩
 · rename_i e hu
   cases h
   rw [AP hx]
   exact ⟨.int .i64 0,by simp [Builtin.len_,ht,run_underlying (hg.AW t _ hu).1 w,goInt],.t _ _ (.sc _ rfl)⟩
 · rename_i e nl o hu
   split at h
   · rename_i e' sz rows ho
     cases h
     obtain ⟨b,cap,cells,hl,_⟩:=hS.row ho
     obtain ⟨rfl,_⟩:=CY hx hl
     exact ⟨.int .i64 rows.length,by simp [Builtin.len_,ht,run_underlying (hg.AW t _ hu).1 w,goInt],.t _ _ (.sc _ rfl)⟩
   · cases h
 · rename_i e o off len hu
   split at h
   · rename_i e' sz rows ho
     cases h
     obtain ⟨b,cap,cells,hl,_⟩:=hS.row ho
     obtain ⟨a', rfl,_⟩:=EP hx hl
     exact ⟨.int .i64 len,by simp [Builtin.len_,ht,run_underlying (hg.AW t _ hu).1 w,goInt],.t _ _ (.sc _ rfl)⟩
   · cases h
 · cases h
def mx (a b:Int):Int:=if b > a then b else a
def mn (a b:Int):Int:=if b < a then b else a
def Zu (f:Int->Int->Int)(x y:V):Option V :=
 match x,y with
 | .t (.sc (.int k a)),.t (.sc (.int _ b))=>some (vI k (f a b))
 | _,_=>none
def zeroV (D:Ah)(t:TypeId):Option V :=
 match D.AW t,D.zero t with
 | some d,some z=>if d.isRow then (match z with | .agg cs=>(Ef cs.toList).map .ag | _=>none) else if plain z then some (.t (.sc z)) else none
 | _,_=>none
omit [Mo] in
theorem II (hg:Good P D) {t:TypeId} {v:V} (h:zeroV D t=some v):∃ z,(zeroValue t).run P w=.ok z w/\AF w F loc v z:=by
 unfold zeroV at h
 split at h
 · rename_i d z hu hz
   obtain ⟨_,i,hi,_,_,hiz⟩:=hg.AW t _ hu
   have hrun:(zeroValue t).run P w=.ok z w:=by simp [zeroValue,typeInfo,hi,hiz,hz]
   split at h
   · split at h
     · rename_i cs _
       obtain ⟨xs,hxs,rfl⟩:=Option.map_eq_some_iff.1 h
       exact ⟨_,hrun,by have:=(GQ (w:=w) (F:=F) (loc:=loc) hxs).agg; simpa using this⟩
     · cases h
   · split at h
     · rename_i hp
       cases h
       exact ⟨_,hrun,.t _ _ (.sc _ hp)⟩
     · cases h
 · cases h
def MO:V->Option (TypeId × V)
 | .BE t x=>some (t,x)
 | .t (.BE t (.ag cs))=>some (t,.ag (cs.map .t))
 | .t (.BE t x)=>some (t,.t x)
 | _=>none
omit [Mo] in
theorem Qm {x:V} {t:TypeId} {y:V} {a:Value} (h:MO x=some (t,y)) (hx:AF w F loc x a):∃ b,a=.iface t b/\AF w F loc y b:=by
 unfold MO at h
 split at h
 · cases h
   cases hx with
   | gone _ o _ hx _=>cases hx
   | BE _ _ v hv=>exact ⟨v,rfl,hv⟩
 · cases h
   cases hx with
   | gone _ o _ hx _=>cases hx
   | t _ _ hx =>
     cases hx with
     | BE _ _ v hv =>
       refine ⟨v,rfl,?_⟩
       cases hv with
       | ag xs vs val hl hv hr =>
         refine .ag _ vs val (by simpa using hl) (fun j hj=>hv j (by simpa using hj)) (fun j x hj=>?_)
         rw [List.getElem?_map] at hj
         obtain ⟨z,hz,rfl⟩:=Option.map_eq_some_iff.1 hj
         exact .t _ _ (hr j z hz)
 · cases h
   cases hx with
   | gone _ o _ hx _=>cases hx
   | t _ _ hx =>
     cases hx with
     | BE _ _ v hv=>exact ⟨v,rfl,.t _ _ hv⟩
 · cases h
def EO (D:Ah) (x:V) (t:TypeId):Option V :=
 match D.AW t with
 | some (.interface _)=>none
 | some _=>match x with
   | .t (.sc .nilIface)=>(zeroV D t).map fun z=>.tp [z,vB false]
   | x=>match MO x with
     | some (u,y)=>if u=t then some (.tp [y,vB true]) else (zeroV D t).map fun z=>.tp [z,vB false]
     | none=>none
 | none=>none
omit [Mo] in
theorem fO {x y:V}{a b:Value}(hx:AF w F loc x a)(hy:AF w F loc y b):AF w F loc (.tp [x,y]) (.tuple #[a,b]):=by
 refine .tp [x,y] [a,b] (fun j=>[a,b].getD j undef) rfl (fun j hj=>?_) (fun j z hj=>?_)
 · simp at hj
   match j,hj with
   | 0,_=>rfl
   | 1,_=>rfl
 · match j,hj with
   | 0,hj=>cases hj; exact hx
   | 1,hj=>cases hj; exact hy
omit [Mo] in
theorem PT (hg:Good P D) {x v:V} {t xt:TypeId} {a:Value} (h:EO D x t=some v) (hx:AF w F loc x a):∃ z,(Instr.typeAssert a xt t true).run P w=.ok z w/\AF w F loc v z:=by
 unfold EO at h
 split at h
 · cases h
 · rename_i d hn hu
   have hu':=(hg.AW t _ hu).1
   have hd:∀ ms,d ≠ .interface ms:=by rintro ms rfl; exact hn ms rfl
   split at h
   · obtain ⟨z,hz,rfl⟩:=Option.map_eq_some_iff.1 h
     obtain ⟨zv,hrun,hrel⟩:=II (w:=w) (F:=F) (loc:=loc) hg hz
     rw [AP hx]
     refine ⟨.tuple #[zv,.bool false],?_,fO hrel (.t _ _ (.sc _ rfl))⟩
     simp only [Instr.typeAssert,Sem.run_bind,run_underlying hu' w,Result.andThen_ok]
     cases d <;> first | (exact absurd rfl (hd _)) | simp [hrun]
   · split at h
     · rename_i u y hh
       obtain ⟨b,rfl,hb⟩:=Qm hh hx
       split at h
       · rename_i hut
         subst hut
         cases h
         refine ⟨.tuple #[b,.bool true],?_,fO hb (.t _ _ (.sc _ rfl))⟩
         simp only [Instr.typeAssert,Sem.run_bind,run_underlying hu' w,Result.andThen_ok]
         cases d <;> first | (exact absurd rfl (hd _)) | simp
       · rename_i hut
         obtain ⟨z,hz,rfl⟩:=Option.map_eq_some_iff.1 h
         obtain ⟨zv,hrun,hrel⟩:=II (w:=w) (F:=F) (loc:=loc) hg hz
         refine ⟨.tuple #[zv,.bool false],?_,fO hrel (.t _ _ (.sc _ rfl))⟩
         simp only [Instr.typeAssert,Sem.run_bind,run_underlying hu' w,Result.andThen_ok]
         cases d <;> first | (exact absurd rfl (hd _)) | simp [hrun,hut]
     · cases h
 · cases h
def HS (D:Ah)(op:Op)(e:Operand->V)(s:AE):Option V :=
 match op with
 | .move x=>some (e x)
 | .assign x=>some (e x)
 | .pick c a b=>match e c with | .t (.sc (.bool q))=>some (OM q (e a) (e b)) | _=>none
 | .extract x i=>match e x with | .tp vs=>vs[i]? | _=>none
 | .binOp op t x y _=>if kd (e x) == .BE && !(isConst y) then none else Ks D s op t (e x) (e y)
 | .unOp op _ x=>Zs op (e x)
 | .convert src dst x=>KB D src dst (e x)
 | .nilCheck x=>match kd (e x),Es s (e x) with | .ptr,some false=>some (e x) | _,_=>none
 | .fieldAddr t x f=>DU D s t (e x) f
 | .indexAddr t x i=>BR D s t (e x) (e i)
 | .field t x f=>Kw D t (e x) f
 | .index t x i=>GL D t (e x) (e i)
 | .build t parts=>GM D s t (parts.toList.map fun p=>(p.1,e p.2))
 | .load t x=>Fh D s t (e x)
 | .slice t x lo hi none=>Cj D s t (e x) (lo.map e) (hi.map e)
 | .makeFunc (.func f) first caps=>if first.isEmpty then some (.fn f (caps.toList.map e)) else none
 | .makeInterface t x=>match D.AW t with | some (.interface _)=>none | some _=>some (.BE t (e x)) | none=>none
 | .typeAssert x _ t true=>EO D (e x) t
 | .call c=>match c.callee,c.args.toList,c.argTypes.toList with
   | .builtin .len,[x],[t]=>LO D s t (e x)
   | .builtin .max,[x,y],_=>Zu mx (e x) (e y)
   | .builtin .min,[x,y],_=>Zu mn (e x) (e y)
   | _,_,_=>none
 | _=>none
omit [Mo] in
theorem Ou {ρ:Operand->Value}{o:Oper}{x:Operand}{ts:Array TypeId}{z:Value}{w':World}(ho:o.op=.call ⟨.builtin .len,#[x],ts⟩)(h:(Builtin.len_ ts o.type #[ρ x]).run P w=.ok z w'):(execOp ρ o).run P w=.ok (.value z) w':=by
 simp [execOp,ho,resolve,invoke,builtin,h]
omit [Mo] in
theorem UE {ρ:Operand->Value}{o:Oper}{x y:Operand}{ts:Array TypeId}{z:Value}{w':World}(ho:o.op=.call ⟨.builtin .max,#[x,y],ts⟩)(h:(Builtin.max_ ts o.type #[ρ x,ρ y]).run P w=.ok z w'):(execOp ρ o).run P w=.ok (.value z) w':=by
 simp [execOp,ho,resolve,invoke,builtin,h]
omit [Mo] in
theorem Vr {ρ:Operand->Value}{o:Oper}{x y:Operand}{ts:Array TypeId}{z:Value}{w':World}(ho:o.op=.call ⟨.builtin .min,#[x,y],ts⟩)(h:(Builtin.min_ ts o.type #[ρ x,ρ y]).run P w=.ok z w'):(execOp ρ o).run P w=.ok (.value z) w':=by
 simp [execOp,ho,resolve,invoke,builtin,h]
theorem Vx (hg:Good P D) {o:Oper} {st:St} {v:V} (h:HS D o.op (ev G st.t) st.s=some v):CD P G o st v st.s:=by
 refine CD.pure fun B F loc a w hR=>?_
 have hS:=hR.s
 have he:=AV hR
 obtain ⟨dst,op,ty,pos,after,guard⟩:=o
 simp only at h ⊢
 have fin:∀ {m:Sem Value} {x:Value},m.run P w=.ok x w->((do pure (.value (<- m)):Sem Next)).run P w=.ok (.value x) w:=by
   intro m x hm; rw [Sem.run_bind,hm]; rfl
 unfold HS at h
 split at h
 · cases h; exact ⟨_,rfl,he _⟩
 · cases h; exact ⟨_,rfl,he _⟩
 · rename_i c x y
   split at h
   · rename_i q hq
     cases h
     have hc:=he c
     rw [hq] at hc
     have hc':=AP hc
     refine ⟨cond q (a.eval x) (a.eval y),?_,?_⟩
     · simp only [execOp,hc', asBool,Sem.run_bind,Sem.run_pure,Result.andThen_ok]
       cases q <;> rfl
     · rw [Kf]; cases q
       · exact he y
       · exact he x
   · cases h
 · rename_i x i
   split at h
   · rename_i vs hx
     have hh:=he x
     rw [hx] at hh
     obtain ⟨z,hz,hr⟩:=Nz (P:=P) h hh
     exact ⟨z,fin hz,hr⟩
   · cases h
 · rename_i bop t x y t'
   split at h
   · cases h
   · rename_i hc
     obtain ⟨z,hz,hr⟩:=VK (P:=P) (ox:=x) (oy:=y) hg hS h (he x) (he y) (fun hk=>by
       simp only [Bool.and_eq_true,beq_iff_eq,Bool.not_eq_true', not_and,Bool.not_eq_false] at hc
       exact hc hk)
     exact ⟨z,fin hz,hr⟩
 · rename_i uop t x
   obtain ⟨z,hz,hr⟩:=WQ (P:=P) h (he x)
   exact ⟨z,fin hz,hr⟩
 · rename_i src dst' x
   obtain ⟨z,hz,hr⟩:=TT (P:=P) hg h (he x)
   exact ⟨z,fin hz,hr⟩
 · rename_i x
   split at h
   · rename_i hk hn
     cases h
     have h1:=MC hS hn (he x)
     have h2:=Mt hS hn (he x) (by rw [hk]; simp)
     rw [hk] at h2
     refine ⟨a.eval x,?_,he x⟩
     simp only [execOp]
     generalize a.eval x=z at h1 h2 ⊢
     cases z with
     | pointer p =>
       cases p with
       | none=>cases h1
       | some p=>rfl
     | _=>cases h2
   · cases h
 · rename_i t x f
   obtain ⟨z,hz,hr⟩:=Jn (P:=P) hg hS h (he x)
   exact ⟨z,fin hz,hr⟩
 · rename_i t x i
   obtain ⟨z,hz,hr⟩:=Jh (P:=P) hg hS h (he x) (he i)
   exact ⟨z,fin hz,hr⟩
 · rename_i t x f
   obtain ⟨z,hz,hr⟩:=Qk (P:=P) hg h (he x)
   exact ⟨z,fin hz,hr⟩
 · rename_i t x i
   obtain ⟨z,hz,hr⟩:=Px (P:=P) hg h (he x) (he i)
   exact ⟨z,fin hz,hr⟩
 · rename_i t parts
   obtain ⟨z,hz,hr⟩:=QL (P:=P) (vparts:=parts.map fun (i,x)=>(i,a.eval x)) hg hS h (by simp) (fun j p hj=>by
     rw [List.getElem?_map] at hj
     obtain ⟨q,hq,rfl⟩:=Option.map_eq_some_iff.1 hj
     refine ⟨(q.1,a.eval q.2),?_,rfl,he q.2⟩
     have:parts[j]? = some q:=by simpa using hq
     simp [this])
   exact ⟨z,fin hz,hr⟩
 · rename_i t x
   obtain ⟨z,hz,hr⟩:=MB (P:=P) hg hS h (he x)
   exact ⟨z,fin hz,hr⟩
 · rename_i t x lo hi
   have hop:∀ y:Option Operand,KT w F loc (y.map (ev G st.t)) (y.map a.eval):=by
     intro y; cases y with
     | none=>exact .none
     | some y=>exact .some _ _ (he y)
   obtain ⟨z,hz,hr⟩:=QQ (P:=P) hg hS h (he x) (hop lo) (hop hi)
   exact ⟨z,fin hz,hr⟩
 · rename_i f first caps
   by_cases hfirst:first.isEmpty=true
   case neg=>rw [if_neg hfirst] at h; cases h
   rw [if_pos hfirst] at h
   obtain rfl:first = #[]:=by simpa using hfirst
   cases h
   refine ⟨.func (.func f) #[] (caps.map a.eval),by simp [execOp,Instr.makeFunc],?_⟩
   have:=AF.fn (w:=w) (F:=F) (loc:=loc) f (caps.toList.map (ev G st.t)) (caps.toList.map a.eval) (fun j=>(caps.toList.map a.eval).getD j undef) (by simp) (fun j hj=>by simp at hj; simp [List.getD,hj]) (fun j x hj=>by
     rw [List.getElem?_map] at hj
     obtain ⟨q,hq,rfl⟩:=Option.map_eq_some_iff.1 hj
     have:(caps.toList.map a.eval).getD j undef=a.eval q:=by simp [List.getD,hq]
     rw [this]; exact he q)
   rw [show caps.map a.eval=(caps.toList.map a.eval).toArray from by rw [<- Array.toList_map]]
   exact this
 · rename_i t x
   split at h
   · cases h
   · rename_i d hn hu
     cases h
     refine ⟨.iface t (a.eval x),fin ?_,.BE _ _ _ (he x)⟩
     simp only [Instr.makeInterface,Sem.run_bind,run_underlying (hg.AW t _ hu).1 w,Result.andThen_ok]
     cases d <;> first | (exact absurd rfl (hn _)) | rfl
   · cases h
 · rename_i x xt t
   obtain ⟨z,hz,hr⟩:=PT (P:=P) (xt:=xt) hg h (he x)
   exact ⟨z,fin hz,hr⟩
 · rename_i c
   obtain ⟨callee,args,ts⟩:=c
   simp only at h
   split at h
   · rename_i x t hargs hts
     obtain rfl:args = #[x]:=by cases args; simp_all
     obtain ⟨z,hz,hr⟩:=Ve (P:=P) (ty:=ty) (ts:=ts) hg hS h (by rw [<- Array.getElem?_toList,hts]; rfl) (he x)
     exact ⟨z,Ou rfl hz,hr⟩
   · rename_i x y hargs
     obtain rfl:args = #[x,y]:=by cases args; simp_all
     unfold Zu at h
     split at h
     · rename_i k p k' q h1 h2
       cases h
       have hx:=he x
       have hy:=he y
       rw [h1] at hx
       rw [h2] at hy
       refine ⟨.int k (mx p q),?_,.t _ _ (.sc _ rfl)⟩
       refine UE rfl ?_
       rw [AP hx,AP hy]; rfl
     · cases h
   · rename_i x y hargs
     obtain rfl:args = #[x,y]:=by cases args; simp_all
     unfold Zu at h
     split at h
     · rename_i k p k' q h1 h2
       cases h
       have hx:=he x
       have hy:=he y
       rw [h1] at hx
       rw [h2] at hy
       refine ⟨.int k (mn p q),?_,.t _ _ (.sc _ rfl)⟩
       refine Vr rfl ?_
       rw [AP hx,AP hy]; rfl
     · cases h
   · cases h
 · cases h
end Go.Proofs.YtobfoiomjfdjjaaDoor.Mc
namespace Go.Proofs.YtobfoiomjfdjjaaDoor.Mc
open Go.RowKit
variable [Mo]
variable {P:Program}{G:BA}{D:Ah}{B:BB}{w w':World}{F F':Nat->Prop}{loc loc':Nat->Option Loc}{s s':AE}
omit [Mo] in
theorem Pq {e:TypeId} {sz n cap:Nat} {b:Option Nat} {cells:List Value} (h:World.DG w e sz (.slice (b.map fun b=>⟨b,0,none⟩) n cap) n cells)
   (hb:∀ g,b=some g->w'.heap[g]? = w.heap[g]?):World.DG w' e sz (.slice (b.map fun b=>⟨b,0,none⟩) n cap) n cells:=by
 rcases CV h with ⟨h2,h0⟩ | ⟨g,cap', cur,te,fr,hv,hg,hm,h3,h4,h5,h6⟩
 · exact .inl ⟨⟨Bs h,.inl ⟨h2,h0⟩⟩,.inr h2⟩
 · cases b with
   | none=>injection hv with h1 _ _; cases h1
   | some g' =>
     cases hv
     exact FJ (Bs h) ((hb _ rfl).trans hg) hm h3 h4 h5 h6
omit [Mo] in
theorem DN.mono {ag:Bool} {r:List T} {v:Value} (hk:Kept w F w' F') (h:DN w F ag r v):DN w' F' ag r v:=by
 unfold DN at h ⊢
 split at h
 · rename_i e
   rw [if_pos e]
   obtain ⟨cs,h1,h2,h3⟩:=h
   exact ⟨cs,h1,h2,fun j x hj=>by
     obtain ⟨u,h4,h5,h6⟩:=h3 j x hj
     exact ⟨u,h4,h5,h6.mono hk⟩⟩
 · rename_i e
   rw [if_neg e]
   obtain ⟨x,h1,h2⟩:=h
   exact ⟨x,h1,h2.mono hk⟩
omit [Mo] in
theorem Alike.mono {ag:Bool}{es:List (Value × List T)}{vs:List (Value × Value)}(hk:Kept w F w' F')(h:Alike w F ag es vs):Alike w' F' ag es vs :=
 ⟨h.1,fun i k r hi=>by
   obtain ⟨v,h1,h2⟩:=h.2 i k r hi
   exact ⟨v,h1,h2.mono hk⟩⟩
omit [Mo] in
theorem HX.mono {kd:TypeDesc}{ag:Bool}{es:List (Value × List T)}{en:Array MapEntry}{clock:Nat}{vs:List (Value × Value)}(hk:Kept w F w' F')(h:HX w F kd ag es en clock vs):HX w' F' kd ag es en clock vs:=⟨h.st,h.LV,h.al.mono hk,h.ks⟩
def fU:Option O->Option Nat | some (.mq _ _ _ i _ _)=>some i | _=>none
omit [Mo] in
theorem Mf.mono {ag:Bool}{rest cu:List (Value × List T)}{en:Array MapEntry}{clock since c0:Nat}{seen:Array Nat}{vr:List (Value × Value)}(hk:Kept w F w' F')(h:Mf w F ag rest cu en clock since c0 seen vr):Mf w' F' ag rest cu en clock since c0 seen vr :=
 ⟨h.sc,h.sk,h.Hd,h.LV,h.al.mono hk,by
   obtain ⟨vc,h1,h2⟩:=h.cur
   exact ⟨vc,h1.mono hk,h2⟩⟩
omit [Mo] in
theorem BZ.Xd {obj:Option O} {l:Loc} (hk:Kept w F w' F') (hs:Ak loc loc') (hb:∀ b,l.block=some b->w'.heap[b]? = w.heap[b]?) (hd:∀ i c x y z u,fU obj=some i->loc i=some (.Bo c)->w.heap[c]? = some (.mapIter x y z u)->w'.heap[c]? = w.heap[c]?) (h:BZ w F loc obj l):BZ w' F' loc' obj l:=by
 cases h with
 | gone=>exact .gone
 | ar e sz rows b cap cells hz hsz hown h1 hr =>
   exact .ar e sz rows b cap cells hz hsz (Pq hown fun g hg=>hb g (by rw [<- hg]; rfl)) h1 fun i r hi j x hj=>by
     obtain ⟨v,hv,hrel⟩:=hr i r hi j x hj
     exact ⟨v,hv,hrel.mono hk⟩
 | ms e xs b en clock vs he hb' hs1 hen hks hr=>exact .ms e xs b en clock vs he (by rw [hb b rfl]; exact hb') hs1 hen hks (hr.mono hk hs)
 | bx e xs cs b he hb' hl hr =>
   exact .bx e xs cs b he (by rw [hb b rfl]; exact hb') hl fun j x hj=>by
     obtain ⟨v,hv,h1,hrel⟩:=hr j x hj
     exact ⟨v,hv,h1,hrel.mono hk hs⟩
 | si str pos b hb'=>exact .si str pos b (by rw [hb b rfl]; exact hb')
 | mp kd ag es b en clock vs hb' hm=>exact .mp kd ag es b en clock vs (by rw [hb b rfl]; exact hb') (hm.mono hk)
 | mq kd ag es i rest cu b en clock vs vr c since c0 seen hb' hm hi hc ho =>
   rcases hs i _ hi with h | h
   · exact .mq kd ag es i rest cu b en clock vs vr c since c0 seen (by rw [hb b rfl]; exact hb') (hm.mono hk) h (by rw [hd i c _ _ _ _ rfl hi hc]; exact hc) (ho.mono hk)
   · exact .Ph kd ag es i rest cu b en clock vs (by rw [hb b rfl]; exact hb') (hm.mono hk) h
 | Ph kd ag es i rest cu b en clock vs hb' hm hi=>exact .Ph kd ag es i rest cu b en clock vs (by rw [hb b rfl]; exact hb') (hm.mono hk) ((hs i _ hi).elim id id)
 | mi m b c since c0 seen hb'=>exact .mi m b c since c0 seen (by rw [hb b rfl]; exact hb')
omit [Mo] in
theorem BZ.mono {obj:Option O}{l:Loc}(hk:Kept w F w' F')(hs:Ak loc loc')(hb:∀ b,l.block=some b->w'.heap[b]? = w.heap[b]?)(hd:∀ c x y z u,(∃ i,loc i=some (.Bo c))->w.heap[c]? = some (.mapIter x y z u)->w'.heap[c]? = w.heap[c]?)(h:BZ w F loc obj l):BZ w' F' loc' obj l :=
 h.Xd hk hs hb fun i c x y z u _ hi hc=>hd c x y z u ⟨i,hi⟩ hc
theorem AK.NF (hS:AK G B w F loc s) {o c:Nat} {l:Loc} {x:Option Nat} {y:Nat} {z:Array Nat} {u:Nat} (ho:loc o=some l) (hb:l.block=some c) (hc:w.heap[c]? = some (.mapIter x y z u)):∃ m,s o=some (some (.mi m)):=by
 obtain ⟨obj,h1⟩:=hS.Fp o l ho
 obtain ⟨l', h2,h3⟩:=hS.Cg o obj h1
 rw [ho] at h2
 cases h2
 cases h3 with
 | gone=>cases hb
 | ar e sz rows b cap cells hz hsz hown _ _ =>
   cases hb
   rcases CV hown with ⟨h,_⟩ | ⟨g,cap', cur,_,_,hv,hg,_⟩
   · cases h
   · cases hv
     rw [hc] at hg; cases hg
 | bx e xs cs b _ hb' _ _=>cases hb; rw [hc] at hb'; cases hb'
 | ms e xs b en clock vs _ hb'=>cases hb; rw [hc] at hb'; cases hb'
 | si str pos b hb'=>cases hb; rw [hc] at hb'; cases hb'
 | mp kd ag es b en clock vs hb' _=>cases hb; rw [hc] at hb'; cases hb'
 | mq kd ag es i rest cu b en clock vs vr c' since c0 seen hb'=>cases hb; rw [hc] at hb'; cases hb'
 | Ph kd ag es i rest cu b en clock vs hb'=>cases hb; rw [hc] at hb'; cases hb'
 | mi m b c' since c0 seen hb'=>exact ⟨m,h1⟩
theorem Cc (hS:AK G B w F loc s){d:Nat}(h:s d=none):loc d=none:=by
 cases hl:loc d with
 | none=>rfl
 | some l=>obtain ⟨obj,ho⟩:=hS.Fp d l hl; rw [h] at ho; cases ho
omit [Mo] in
theorem Ak.Ae {d:Nat}{l:Loc}(h:loc d=none):Ak loc (Ae loc d (some l)):=fun o x hx=>by
 by_cases ho:o=d
 · subst ho; rw [h] at hx; cases hx
 · rw [AJ _ _ ho]; exact .inl hx
theorem CM (hS:AK G B w F loc s)(ob:Obj):Kept w F (w.alloc ob) F:=fun b hb=>⟨hb,heap_alloc_old w ob (hS.BF b hb).1⟩
theorem AK.alloc (hS:AK G B w F loc s) {d:Nat} {x:O} {ob:Obj} (hd:s d=none) (hx:BZ (w.alloc ob) F (Ae loc d (some (.Bo w.heap.size))) (some x) (.Bo w.heap.size)) :
   AK G B (w.alloc ob) F (Ae loc d (some (.Bo w.heap.size))) (Ae s d (some (some x))):=by
 have hn:=Cc hS hd
 have hk:=CM hS ob
 have hsm:Ak loc (Mc.Ae loc d (some (.Bo w.heap.size))):=Ak.Ae hn
 have Bo:∀ o l b,loc o=some l->l.block=some b->b < w.heap.size:=fun o l b h1 h2=>(hS.own o l b h1 h2).1
 refine ⟨?_,?_,?_,?_,?_,hS.RF,hS.os,hS.tape,hS.output,?_,?_,?_,?_,hS.Pv⟩
 · intro o obj ho
   by_cases hod:o=d
   · subst hod; rw [AA] at ho; cases ho; exact ⟨_,AA _ _ _,hx⟩
   · rw [AJ _ _ hod] at ho
     obtain ⟨l,hl,hr⟩:=hS.Cg o obj ho
     exact ⟨l,by rw [AJ _ _ hod]; exact hl,hr.mono hk hsm (fun b hb=>heap_alloc_old w ob (Bo o l b hl hb)) fun c _ _ _ _ ⟨i,hi⟩ _=>heap_alloc_old w ob (Bo i _ c hi rfl)⟩
 · intro o l hl
   by_cases hod:o=d
   · subst hod; exact ⟨_,AA _ _ _⟩
   · rw [AJ _ _ hod] at hl ⊢; exact hS.Fp o l hl
 · intro o o' l l' b h1 h2 h3 h4
   by_cases hod:o=d
   · subst hod
     rw [AA] at h1
     cases h1
     cases h3
     by_cases hod':o' = o
     · exact hod'.symm
     · rw [AJ _ _ hod'] at h2; have:=Bo o' l' _ h2 h4; omega
   · rw [AJ _ _ hod] at h1
     by_cases hod':o' = d
     · subst hod'
       rw [AA] at h2
       cases h2
       cases h4
       have:=Bo o l _ h1 h3; omega
     · rw [AJ _ _ hod'] at h2; exact hS.inj o o' l l' b h1 h2 h3 h4
 · intro o l b h1 h2
   by_cases hod:o=d
   · subst hod
     rw [AA] at h1
     cases h1
     cases h2
     refine ⟨by simp,fun hF=>?_,.inr hS.size⟩
     have:=(hS.BF _ hF).1; omega
   · rw [AJ _ _ hod] at h1
     have:=hS.own o l b h1 h2
     exact ⟨by simp; omega,this.2⟩
 · intro b hb
   have:=hS.BF b hb
   exact ⟨by simp; omega,this.2⟩
 · have:=hS.size; simp; omega
 · intro b hb hx'
   rw [heap_alloc_old w ob (by have:=hS.size; omega)]
   exact hS.keep b hb hx'
 · intro o l ho
   have:=hS.QB o l ho
   by_cases hod:o=d
   · subst hod; rw [hn] at this; rcases this with h | h <;> cases h
   · rw [AJ _ _ hod]; exact this
 · intro g cells hg
   obtain ⟨hF,val,hc,hr⟩:=hS.FE g cells hg
   exact ⟨hF,val,fun j hj=>(BD (w:=w) (hk g hF).2).trans (hc j hj),fun j x hj=>(hr j x hj).mono hk⟩
def CZ (s:AE):V->Bool
 | .ag cs=>cs.all (JJ s)
 | .t (.ag cs)=>cs.all fun c=>JJ s (.t c)
 | x=>JJ s x
omit [Mo] in
theorem Ky {x:V} (h:CZ s x=true):GK s x=true:=by
 unfold CZ at h
 unfold GK
 split at h
 · rfl
 · rfl
 · rename_i h1 h2
   first
     | exact h
     | (split
        · rfl
        · rfl
        · exact h)
omit [Mo] in
theorem IX {x:V} (h:CZ s x=true):∀ c ∈ Af x,JJ s c=true:=by
 unfold CZ at h
 unfold Af
 split at h
 · exact fun c hc=>List.all_eq_true.1 h c hc
 · intro c hc
   obtain ⟨y,hy,rfl⟩:=List.mem_map.1 hc
   exact List.all_eq_true.1 h y hy
 · rename_i h1 h2
   intro c hc
   first
     | (simp at hc; subst hc; exact h)
     | (split at hc
        · exact absurd rfl (h1 _)
        · exact absurd rfl (h2 _)
        · simp at hc; subst hc; exact h)
theorem Hf (hS:AK G B w F loc s){x:V}{v:Value}(h:CZ s x=true)(hx:AF w F loc x v) :
   (Af x).length=v.cells.size/\∀ (j:Nat) (y:V),(Af x)[j]? = some y->∃ u,v.cells[j]? = some u/\u.oneCell' = true/\AF w F loc y u:=by
 have hr:=KX hS (Ky h) hx
 refine ⟨by rw [hr.1]; simp,fun j y hj=>?_⟩
 obtain ⟨u,hu,hrel⟩:=hr.2 j y hj
 exact ⟨u,by simpa using hu,FV hS (IX h y (List.mem_of_getElem? hj)) hrel,hrel⟩
theorem MM (hS:AK G B w F loc s) {d:Nat} {e:TypeId} (he:Nat.blt e 3000000=true) {x:V} {v:Value} (hd:s d=none) (h:CZ s x=true) (hx:AF w F loc x v) :
   (newVar e v).run P w=.ok ⟨w.heap.size,0,none⟩ (w.alloc (.cells v.cells e))/\AK G B (w.alloc (.cells v.cells e)) F (Ae loc d (some (.Bo w.heap.size))) (Ae s d (some (some (.bx e (Af x))))) /\
     Kept w F (w.alloc (.cells v.cells e)) F/\Ak loc (Ae loc d (some (.Bo w.heap.size))):=by
 obtain ⟨hl,hr⟩:=Hf hS h hx
 have hk:=CM hS (.cells v.cells e)
 have hsm:Ak loc (Ae loc d (some (.Bo w.heap.size))):=Ak.Ae (Cc hS hd)
 refine ⟨rfl,hS.alloc hd (.bx e _ v.cells _ he (heap_alloc_new w _) hl fun j y hj=>?_),hk,hsm⟩
 obtain ⟨u,hu,h1,hrel⟩:=hr j y hj
 exact ⟨u,hu,h1,hrel.mono hk hsm⟩
def FW (op:Op)(e:Operand->V)(s:AE)(d:Nat)(D:Ah):Option (V × AE) :=
 match op with
 | .box t x=>if ((s d).isNone && CZ s (e x)) && Nat.blt t 3000000 then some (.pt d 0,Ae s d (some (some (.bx t (Af (e x)))))) else none
 | .alloc t=>match zeroV D t with
   | some z=>if ((s d).isNone && CZ s z) && Nat.blt t 3000000 then some (.pt d 0,Ae s d (some (some (.bx t (Af z))))) else none
   | none=>none
 | _=>none
theorem Qy (hg:Good P D) {o:Oper} {st:St} {v:V} {d:Nat} {s':AE} (h:FW o.op (ev G st.t) st.s d D=some (v,s')):CD P G o st v s':=by
 intro B F loc a w hR
 have hS:=hR.s
 have he:=AV hR
 obtain ⟨dst,op,ty,pos,after,guard⟩:=o
 simp only at h ⊢
 unfold FW at h
 split at h
 · rename_i t x
   split at h
   · rename_i hb
     cases h
     simp only [Bool.and_eq_true,Option.isNone_iff_eq_none] at hb
     obtain ⟨hrun,hS', hk,hsm⟩:=MM (P:=P) (e:=t) hS hb.2 hb.1.1 hb.1.2 (he x)
     refine ⟨F,_,_,.pointer (some ⟨w.heap.size,0,none⟩),_,?_,.inl rfl,hS', hk,hsm,.pt _ _ _ (AA _ _ _)⟩
     simp [execOp,Instr.box,hrun]
   · cases h
 · rename_i t
   split at h
   · rename_i z hz
     split at h
     · rename_i hb
       cases h
       simp only [Bool.and_eq_true,Option.isNone_iff_eq_none] at hb
       obtain ⟨zv,hzrun,hzr⟩:=II (w:=w) (F:=F) (loc:=loc) hg hz
       obtain ⟨hrun,hS', hk,hsm⟩:=MM (P:=P) (e:=t) hS hb.2 hb.1.1 hb.1.2 hzr
       refine ⟨F,_,_,.pointer (some ⟨w.heap.size,0,none⟩),_,?_,.inl rfl,hS', hk,hsm,.pt _ _ _ (AA _ _ _)⟩
       simp [execOp,Instr.alloc,hzrun,hrun]
     · cases h
   · cases h
 · cases h
end Go.Proofs.YtobfoiomjfdjjaaDoor.Mc
namespace Go.Proofs.YtobfoiomjfdjjaaDoor.Mc
open Go.RowKit
variable [Mo]
variable {P:Program}{G:BA}{D:Ah}{B:BB}{w w':World}{F F':Nat->Prop}{loc loc':Nat->Option Loc}{s s':AE}
theorem AK.turn (hS:AK G B w F loc s) {o b:Nat} {l:Loc} {x:O} (ho:loc o=some l) (hb:l.block=some b) (hsz:w'.heap.size=w.heap.size) (hos:w'.os=w.os) (htp:w'.tape=w.tape) (hout:w'.output=w.output)
   (hot:∀ k,k ≠ b->w'.heap[k]? = w.heap[k]?) (hx:BZ w' F loc (some x) l) (hmi:∀ m,s o ≠ some (some (.mi m))) (hdr:w.drawn<=w'.drawn:=by exact Nat.le_refl _):AK G B w' F loc (Ae s o (some (some x)))/\Kept w F w' F:=by
 have hbn:=hS.own o l b ho hb
 have hk:Kept w F w' F:=fun k hF=>⟨hF,hot k (fun e=>hbn.2.1 (e ▸ hF))⟩
 refine ⟨⟨?_,?_,hS.inj,?_,?_,hS.RF,hos.trans hS.os,htp.trans hS.tape,hout.trans hS.output,by have:=hS.size; omega,?_,hS.QB,?_,fun h=>Nat.le_trans (hS.Pv h) hdr⟩,hk⟩
 · intro o' obj h'
   by_cases hod:o' = o
   · subst hod; rw [AA] at h'; cases h'; exact ⟨l,ho,hx⟩
   · rw [AJ _ _ hod] at h'
     obtain ⟨l', hl', hr⟩:=hS.Cg o' obj h'
     exact ⟨l', hl', hr.mono hk (Ak.refl _) (fun b' hb'=>hot b' (fun e=>hod (hS.inj o' o l' l b hl' ho (e ▸ hb') hb))) fun c _ _ _ _ _ hc=>hot c fun e=>by
       subst e
       obtain ⟨m,hm⟩:=hS.NF ho hb hc
       exact hmi m hm⟩
 · intro o' l' hl'
   by_cases hod:o' = o
   · subst hod; exact ⟨_,AA _ _ _⟩
   · rw [AJ _ _ hod]; exact hS.Fp o' l' hl'
 · intro o' l' b' h1 h2
   have:=hS.own o' l' b' h1 h2
   exact ⟨by omega,this.2⟩
 · intro b' hb'
   have:=hS.BF b' hb'
   exact ⟨by omega,this.2⟩
 · intro b' hb' hx'
   rw [hot b' ?_]
   · exact hS.keep b' hb' hx'
   · rintro rfl
     rcases hbn.2.2 with h | h
     · exact hx' h
     · omega
 · intro g cells hg
   obtain ⟨hF,val,hc,hr⟩:=hS.FE g cells hg
   exact ⟨hF,val,fun j hj=>(BD (w:=w) (hk g hF).2).trans (hc j hj),fun j x hj=>(hr j x hj).mono hk⟩
theorem AK.ZU (hS:AK G B w F loc s) {o b:Nat} {l:Loc} {x:O} (ho:loc o=some l) (hb:l.block=some b) (hsz:w'.heap.size=w.heap.size) (hos:w'.os=w.os) (htp:w'.tape=w.tape) (hout:w'.output=w.output)
   (hot:∀ k,k ≠ b->w'.heap[k]? = w.heap[k]?) (hx:BZ w' F loc (some x) l) (hmi:∀ o' kd ag es i rest cu,s o' = some (some (.mq kd ag es i rest cu))->i ≠ o) (hdr:w.drawn<=w'.drawn:=by exact Nat.le_refl _):AK G B w' F loc (Ae s o (some (some x)))/\Kept w F w' F:=by
 have hbn:=hS.own o l b ho hb
 have hk:Kept w F w' F:=fun k hF=>⟨hF,hot k (fun e=>hbn.2.1 (e ▸ hF))⟩
 refine ⟨⟨?_,?_,hS.inj,?_,?_,hS.RF,hos.trans hS.os,htp.trans hS.tape,hout.trans hS.output,by have:=hS.size; omega,?_,hS.QB,?_,fun h=>Nat.le_trans (hS.Pv h) hdr⟩,hk⟩
 · intro o' obj h'
   by_cases hod:o' = o
   · subst hod; rw [AA] at h'; cases h'; exact ⟨l,ho,hx⟩
   · rw [AJ _ _ hod] at h'
     obtain ⟨l', hl', hr⟩:=hS.Cg o' obj h'
     refine ⟨l', hl', hr.Xd hk (Ak.refl _) (fun b' hb'=>hot b' (fun e=>hod (hS.inj o' o l' l b hl' ho (e ▸ hb') hb))) fun i c _ _ _ _ hdep hi hc=>hot c fun e=>?_⟩
     subst e
     have hio:=hS.inj i o _ l c hi ho rfl hb
     cases obj with
     | none=>cases hdep
     | some x0 =>
       cases x0 with
       | mq kd ag es i2 rest cu =>
         cases hdep
         exact hmi o' _ _ _ _ _ _ h' hio
       | _=>cases hdep
 · intro o' l' hl'
   by_cases hod:o' = o
   · subst hod; exact ⟨_,AA _ _ _⟩
   · rw [AJ _ _ hod]; exact hS.Fp o' l' hl'
 · intro o' l' b' h1 h2
   have:=hS.own o' l' b' h1 h2
   exact ⟨by omega,this.2⟩
 · intro b' hb'
   have:=hS.BF b' hb'
   exact ⟨by omega,this.2⟩
 · intro b' hb' hx'
   rw [hot b' ?_]
   · exact hS.keep b' hb' hx'
   · rintro rfl
     rcases hbn.2.2 with h | h
     · exact hx' h
     · omega
 · intro g cells hg
   obtain ⟨hF,val,hc,hr⟩:=hS.FE g cells hg
   exact ⟨hF,val,fun j hj=>(BD (w:=w) (hk g hF).2).trans (hc j hj),fun j x hj=>(hr j x hj).mono hk⟩
omit [Mo] in
theorem DJ (P:Program) (g o:Nat) (t:TypeId) (fz:Nat × Nat):∀ (vs:List Value) (i:Nat) (cur:Array Value) (w:World),w.heap[g]? = some (.cells cur t fz)->(fz=(0,0)\/o+i+vs.length<=fz.1)->o+i+vs.length<=cur.size->(∀ v ∈ vs,v.oneCell' = true) ->
   (storeCells ⟨g,o,none⟩ vs i).run P w=.ok () (w.setRow g (cur.toList.take (o+i) ++ vs ++ cur.toList.drop (o+i+vs.length)).toArray)
 | [],i,cur,w,hg,_,_,_=>by
   simp only [storeCells,List.append_nil,List.length_nil,Nat.add_zero,List.take_append_drop,Array.toArray_toList]
   rw [setRow_self w g cur t fz hg]
   rfl
 | v :: rest,i,cur,w,hg,hfz,hl,h1=>by
   have hi:o+i < cur.size:=by simp at hl; omega
   have hadd:(⟨g,o,none⟩:Addr).add i=⟨g,o+i,none⟩:=by unfold Addr.add; split <;> simp_all
   have hcell:w.cell? ⟨g,o+i,none⟩=some cur[o+i]:=by simp [World.cell?,hg,hi]
   have hfro:w.frozen? ⟨g,o+i,none⟩=false:=by
     obtain ⟨lo,hi'⟩:=fz
     simp only [World.frozen?,hg,Bool.and_eq_false_iff,decide_eq_false_iff_not]
     rcases hfz with h | h
     · cases h; right; omega
     · left
       simp only [List.length_cons] at h
       omega
   have hst:(store ((⟨g,o,none⟩:Addr).add i) v).run P w=.ok () (w.setRow g (cur.setIfInBounds (o+i) v)):=by
     rw [hadd,run_store P w _ v _ (h1 v (by simp)),hcell]
     simp [hfro,setCell_eq_setRow w g (o+i) cur t fz v hg]
   have ih:=DJ P g o t fz rest (i+1) (cur.setIfInBounds (o+i) v) (w.setRow g (cur.setIfInBounds (o+i) v)) (setRow_heap w g cur _ t _ hg) (hfz.imp id fun h=>by simp only [List.length_cons] at h; omega) (by simp at hl ⊢; omega) (fun x hx=>h1 x (by simp [hx]))
   simp only [storeCells,Sem.run_bind,hst,Result.andThen_ok,ih,setRow_setRow]
   congr 3
   have e:=list_seg_step cur.toList (o+i) v rest (by simp at hl ⊢; omega)
   simpa [Array.toList_setIfInBounds,Nat.add_assoc] using e
omit [Mo] in
theorem MH (hg:Good P D) {t g o:Nat} {e:TypeId} {cur:Array Value} {v:Value} {fz:Nat × Nat} (ht:D.has t=true) (hb:w.heap[g]? = some (.cells cur e fz)) (hfz:fz=(0,0)\/o+v.cells.size<=fz.1) (hs:v.cells.size=D.size t) (hle:o+v.cells.size<=cur.size)
   (h1:∀ u ∈ v.cells.toList,u.oneCell' = true):(Instr.storeAt t (.pointer (some ⟨g,o,none⟩)) v).run P w =
     .ok () (w.setRow g (cur.toList.take o ++ v.cells.toList ++ cur.toList.drop (o+v.cells.size)).toArray):=by
 obtain ⟨d,hd⟩:=BH ht
 have hst:=DJ P g o e fz v.cells.toList 0 cur w hb (by simpa using hfz) (by simpa using hle) h1
 simp only [Nat.add_zero,Array.length_toList] at hst
 simp [Instr.storeAt,Instr.sureAddr,storeVar,CW hg hd,hs,hst]
def Yx:V->Option T
 | .t x=>some x
 | _=>none
def Gq:List V->Option (List T)
 | []=>some []
 | x :: xs=>match Yx x,Gq xs with
   | some y,some ys=>some (y :: ys)
   | _,_=>none
omit [Mo] in
theorem Cz:∀ {xs:List V} {ts:List T},Gq xs=some ts->xs=ts.map .t
 | [],ts,h=>by cases h; rfl
 | x :: xs,ts,h=>by
   unfold Gq at h
   split at h
   · rename_i y ys hy hys
     cases h
     rw [Cz hys]
     cases x <;> first | (cases hy; done) | (cases hy; rfl)
   · cases h
def FL (D:Ah) (s:AE) (t:TypeId) (p x:V):Option AE :=
 if !(D.has t) || !(CZ s x) || !(Nat.beq (Af x).length (D.size t)) then none else
 match p with
 | .pt o off=>match get s o with
   | some (.bx e cells)=>if Nat.ble (off+D.size t) cells.length && Nat.blt e 3000000 then some (Ae s o (some (some (.bx e (cells.take off ++ Af x ++ cells.drop (off+D.size t)))))) else none
   | _=>none
 | .pe o i off=>match get s o with
   | some (.ar e sz rows)=>match rows[i]?,Gq (Af x) with
     | some r,some ts=>if Nat.ble (off+D.size t) r.length && Nat.blt e 2000000 then some (Ae s o (some (some (.ar e sz (rows.set i (r.take off ++ ts ++ r.drop (off+D.size t))))))) else none
     | _,_=>none
   | _=>none
 | _=>none
omit [Mo] in
theorem CU {g:Nat}{cs:Array Value}:(w.setRow g cs).heap.size=w.heap.size/\(∀ k,k ≠ g->(w.setRow g cs).heap[k]? = w.heap[k]?):=⟨by simp,fun k hk=>setRow_other w g k cs hk⟩
theorem Jv (hg : Good P D) (hS:AK G B w F loc s) {t:TypeId} {p x:V} {a b:Value} (h:FL D s t p x=some s') (hp:AF w F loc p a) (hx:AF w F loc x b) :
   ∃ w', (Instr.storeAt t a b).run P w=.ok () w' /\ AK G B w' F loc s' /\ Kept w F w' F:=by
 unfold FL at h
 split at h
 · cases h
 · rename_i hc
   simp only [Bool.or_eq_true,Bool.not_eq_true', not_or,Bool.not_eq_false] at hc
   obtain ⟨⟨ht,hsol⟩,hlen⟩:=hc
   have hlen':(Af x).length=D.size t:=Nat.eq_of_beq_eq_true hlen
   obtain ⟨hl,hr⟩:=Hf hS hsol hx
   have h1:∀ u ∈ b.cells.toList,u.oneCell' = true:=by
     intro u hu
     obtain ⟨j,hj⟩:=List.getElem?_of_mem hu
     have hj':j < (Af x).length:=by rw [hl]; have:=(List.getElem?_eq_some_iff.1 hj).1; simpa using this
     obtain ⟨u', hu', h1', _⟩:=hr j _ (List.getElem?_eq_getElem hj')
     rw [<- Array.getElem?_toList,hj] at hu'
     cases hu'; exact h1'
   have hsz:b.cells.size=D.size t:=by omega
   split at h
   · rename_i o off
     split at h
     · rename_i e cells ho
       split at h
       · rename_i hle
         cases h
         rw [Bool.and_eq_true] at hle
         have hle':off+D.size t<=cells.length:=Nat.le_of_ble_eq_true hle.1
         obtain ⟨g,cs,hlo,hb,hcl,hcr⟩:=hS.var ho hle.2
         rw [Ec hp hlo]
         refine ⟨_,MH hg ht hb (.inl rfl) hsz (by omega) h1,?_⟩
         refine hS.turn hlo rfl CU.1 rfl rfl rfl CU.2 (.bx e _ _ g hle.2 (setRow_heap w g cs _ e (0,0) hb) (by simp [hcl,hl,hsz]) fun j y hj=>?_) (fun m h=>by rw [get_some ho] at h; cases h)
         have hk:Kept w F (w.setRow g (cs.toList.take off ++ b.cells.toList ++ cs.toList.drop (off+b.cells.size)).toArray) F:=fun k hF=>⟨hF,setRow_other w g k _ (fun e=>(hS.own o _ g hlo rfl).2.1 (e ▸ hF))⟩
         generalize w.setRow g (cs.toList.take off ++ b.cells.toList ++ cs.toList.drop (off+b.cells.size)).toArray=W at hk ⊢
         simp only [List.getElem?_toArray]
         rw [List.append_assoc,List.getElem?_append] at hj ⊢
         have ht1:(cells.take off).length=off:=by rw [List.length_take]; omega
         have ht2:(cs.toList.take off).length=off:=by rw [List.length_take]; simp; omega
         rw [ht1] at hj
         rw [ht2]
         split at hj
         · rename_i hlt
           rw [if_pos hlt]
           rw [List.getElem?_take,if_pos hlt] at hj ⊢
           obtain ⟨u,hu,h1u,hrel⟩:=hcr j y hj
           exact ⟨u,by simpa using hu,h1u,hrel.mono hk (Ak.refl _)⟩
         · rename_i hge
           rw [if_neg hge]
           rw [List.getElem?_append] at hj ⊢
           simp only [Array.length_toList]
           rw [hl] at hj
           split at hj
           · rename_i hlt
             rw [if_pos hlt]
             obtain ⟨u,hu,h1u,hrel⟩:=hr _ y hj
             exact ⟨u,by simpa using hu,h1u,hrel.mono hk (Ak.refl _)⟩
           · rename_i hge2
             rw [if_neg hge2]
             rw [List.getElem?_drop] at hj ⊢
             rw [hsz] at hj ⊢
             obtain ⟨u,hu,h1u,hrel⟩:=hcr _ y hj
             exact ⟨u,by simpa using hu,h1u,hrel.mono hk (Ak.refl _)⟩
       · cases h
     · cases h
   · rename_i o i off
     split at h
     · rename_i e sz rows ho
       split at h
       · rename_i r ts hri hts
         split at h
         · rename_i hle
           cases h
           simp only [Bool.and_eq_true] at hle
           have he2:e < 2000000:=by simpa using hle.2
           have hle':off+D.size t<=r.length:=Nat.le_of_ble_eq_true hle.1
           have htsm:=Cz hts
           have htl:ts.length=D.size t:=by rw [<- hlen', htsm]; simp
           obtain ⟨g,cap,cells,hlo,hz,hszz,hown,h1c,hrr⟩:=hS.row ho
           obtain ⟨g,rfl,hi,rfl⟩:=HL hp hlo
           have hrl:=BX hszz hri
           have hclen:=Bs hown
           rcases CV hown with ⟨hv,_⟩ | ⟨g', cap', cur,te,fr,hv,hgh,hmk,hnc,hcm,hcs,htk⟩
           · cases hv
           · injection hv with hv1 _ hv3
             injection hv1 with hv1
             injection hv1 with hv1 _ _
             subst hv1 hv3
             have hin:i * sz+off+D.size t<=rows.length * sz:=by
               have:(i+1) * sz<=rows.length * sz:=Nat.mul_le_mul_right _ hi
               rw [Nat.add_mul] at this; omega
             have hcap:rows.length * sz<=cur.size:=by rw [hcs]; exact Nat.mul_le_mul_right _ hnc
             have hfr:fr=(0,0)\/i * sz+off+b.cells.size<=fr.1:=by
               rcases hmk with ⟨_,h,_⟩ | ⟨_,_,h⟩
               · exact .inl h
               · have:=h he2
                 have:rows.length * sz<=cap * sz:=Nat.mul_le_mul_right _ hnc
                 exact .inr (by omega)
             refine ⟨_,MH hg ht hgh hfr hsz (by omega) h1,?_⟩
             have hnew:∀ k,k < rows.length * sz->(cur.toList.take (i * sz+off) ++ b.cells.toList ++ cur.toList.drop (i * sz+off+b.cells.size))[k]? =
                 if i * sz+off<=k/\k < i * sz+off+D.size t then b.cells[k - (i * sz+off)]? else cells[k]? := by
               intro k hk
               have ht2:(cur.toList.take (i * sz+off)).length=i * sz+off:=by rw [List.length_take]; simp; omega
               have hck:cells[k]? = cur.toList[k]? := by rw [<- htk,List.getElem?_take,if_pos hk]
               rw [List.append_assoc,List.getElem?_append,ht2]
               by_cases c1:k < i * sz+off
               · rw [if_pos c1,if_neg (by omega),List.getElem?_take,if_pos c1,hck]
               · rw [if_neg c1,List.getElem?_append]
                 simp only [Array.length_toList,hsz]
                 by_cases c2:k < i * sz+off+D.size t
                 · rw [if_pos (by omega),if_pos (by omega),Array.getElem?_toList]
                 · rw [if_neg (by omega),if_neg (by omega),List.getElem?_drop,hck]; congr 1; omega
             have hk:Kept w F (w.setRow g (cur.toList.take (i * sz+off) ++ b.cells.toList ++ cur.toList.drop (i * sz+off+b.cells.size)).toArray) F:=fun k hF=>⟨hF,setRow_other w g k _ (fun e=>(hS.own o _ g hlo rfl).2.1 (e ▸ hF))⟩
             have hlens:(rows.set i (r.take off ++ ts ++ r.drop (off+D.size t))).length=rows.length:=by simp
             have hfull:(cur.toList.take (i * sz+off) ++ b.cells.toList ++ cur.toList.drop (i * sz+off+b.cells.size)).length=cur.size:=by simp [hsz]; omega
             refine hS.turn hlo rfl CU.1 rfl rfl rfl CU.2 ?_ (fun m h=>by rw [get_some ho] at h; cases h)
             rw [<- hlens]
             refine .ar e sz _ (some g) cap ((cur.toList.take (i * sz+off) ++ b.cells.toList ++ cur.toList.drop (i * sz+off+b.cells.size)).take (rows.length * sz)) hz ?_ ?_ ?_ ?_
             · intro r' hr'
               rcases List.mem_or_eq_of_mem_set hr' with h | rfl
               · exact hszz r' h
               · simp [htl]; omega
             · rw [hlens]
               exact FJ (by rw [List.length_take,hfull]; omega) (setRow_heap w g cur _ te fr hgh) hmk hnc hcm (by simpa [hcs] using hfull) rfl
             · intro u hu
               obtain ⟨k,hk'⟩:=List.getElem?_of_mem hu
               rw [List.getElem?_take] at hk'
               split at hk'
               · rename_i hlt
                 rw [hnew k hlt] at hk'
                 split at hk'
                 · exact h1 u (List.mem_of_getElem? (by rw [Array.getElem?_toList]; exact hk'))
                 · exact h1c u (List.mem_of_getElem? hk')
               · cases hk'
             · intro i' r' hi' j y hj
               have hi'l:i' < rows.length:=by have:=(List.getElem?_eq_some_iff.1 hi').1; simpa using this
               have key:∀ jj,jj < sz->i' * sz+jj < rows.length * sz:=by
                 intro jj hjj
                 have:(i' + 1) * sz<=rows.length * sz:=Nat.mul_le_mul_right _ hi'l
                 rw [Nat.add_mul] at this; omega
               by_cases hii:i' = i
               · subst hii
                 rw [List.getElem?_set,if_pos rfl,if_pos hi] at hi'
                 cases hi'
                 have hjl:j < sz:=by have:=(List.getElem?_eq_some_iff.1 hj).1; simp [htl] at this; omega
                 rw [List.getElem?_take,if_pos (key j hjl),hnew _ (key j hjl)]
                 have ht1:(r.take off).length=off:=by rw [List.length_take]; omega
                 rw [List.append_assoc,List.getElem?_append,ht1] at hj
                 split at hj
                 · rename_i hlt
                   rw [if_neg (by omega)]
                   rw [List.getElem?_take,if_pos hlt] at hj
                   obtain ⟨u,hu,hrel⟩:=hrr i' r hri j y hj
                   exact ⟨u,hu,hrel.mono hk⟩
                 · rename_i hge
                   rw [List.getElem?_append,htl] at hj
                   split at hj
                   · rename_i hlt
                     rw [if_pos (by omega)]
                     obtain ⟨u,hu,_,hrel⟩:=hr (j - off) (.t y) (by rw [htsm,List.getElem?_map,hj]; rfl)
                     refine ⟨u,by rw [<- hu]; congr 1; omega,?_⟩
                     cases hrel with
                     | gone _ o _ hx _=>cases hx
                     | t _ _ h=>exact h.mono hk
                   · rename_i hge2
                     rw [if_neg (by omega)]
                     rw [List.getElem?_drop] at hj
                     obtain ⟨u,hu,hrel⟩:=hrr i' r hri _ y hj
                     refine ⟨u,by rw [<- hu]; congr 1; omega,hrel.mono hk⟩
               · rw [List.getElem?_set,if_neg (by omega)] at hi'
                 have hjl:j < sz:=by have:=(List.getElem?_eq_some_iff.1 hj).1; have:=BX hszz hi'; omega
                 rw [List.getElem?_take,if_pos (key j hjl),hnew _ (key j hjl),if_neg ?_]
                 · obtain ⟨u,hu,hrel⟩:=hrr i' r' hi' j y hj
                   exact ⟨u,hu,hrel.mono hk⟩
                 · rintro ⟨c1,c2⟩
                   rcases Nat.lt_or_ge i' i with hlt | hge
                   · have:(i' + 1) * sz<=i * sz:=Nat.mul_le_mul_right _ hlt
                     rw [Nat.add_mul] at this; omega
                   · have:(i+1) * sz<=i' * sz:=Nat.mul_le_mul_right _ (by omega)
                     rw [Nat.add_mul] at this; omega
         · cases h
       · cases h
     · cases h
   · cases h
theorem OV (hg:Good P D){o:Oper}{st:St}{t:TypeId}{p x:Operand}{s':AE}(ho:o.op=.store t p x)(h:FL D st.s t (ev G st.t p) (ev G st.t x)=some s'):CD P G o st vU s':=by
 intro B F loc a w hR
 obtain ⟨w', hrun,hS', hk⟩:=Jv hg hR.s h (AV hR p) (AV hR x)
 refine ⟨F,loc,w', undef,.skip,?_,.inr ⟨rfl,rfl⟩,hS', hk,Ak.refl _,.tp [] [] (fun _=>undef) rfl (fun j hj=>by simp at hj) (fun j x hj=>by simp at hj)⟩
 simp [execOp,ho,hrun]
end Go.Proofs.YtobfoiomjfdjjaaDoor.Mc
namespace Go.Proofs.YtobfoiomjfdjjaaDoor.Mc
open Go.RowKit
variable [Mo]
variable {P:Program}{G:BA}{D:Ah}{B:BB}{w w':World}{F F':Nat->Prop}{loc loc':Nat->Option Loc}{s s':AE}
omit [Mo] in
theorem Qs {t ty e:TypeId} {i:TypeInfo} {z:Value} {size bytes:Nat} (ht:P.underlying t=some (.slice e)) (hi:P.info? e=some i) (hz:i.zero=some z)
   (hsize:i.size=size) (hby:i.bytes=bytes) (hzs:z.cells.size=size) (hsz:0 < size)
   {v:Value} {n:Nat} {xs:List Value} (hown:w.ownsRow 0 e size v n xs)
   {a:Addr} {m c:Nat} {news:List Value} (hm0:0 < m) (hl:news.length=m * size) (hnews:∀ (j:Nat) u,news[j]? = some u->w.cell? (a.add j)=some u) (h1:∀ u ∈ news,u.oneCell' = true)
   (WH:n+m<=maxLen) (hbytes:(n+m) * bytes<=140737488355328) :
   ∃ g cap w', (Builtin.append_ #[t,t] ty #[v,.slice (some a) m c]).run P w=.ok (.slice (some ⟨g,0,none⟩) (n+m) cap) w' /\ w'.ownsRow 0 e size (.slice (some ⟨g,0,none⟩) (n+m) cap) (n+m) (xs ++ news)/\w.grownBy w' v.ownBlock /\
     (v.ownBlock=some g\/g=w.heap.size)/\g < w'.heap.size/\w.drawn<=w'.drawn:=by
 subst hsize
 subst hby
 have hsmall:n+m<=9223372036854775807:=by simp only [maxLen] at WH; omega
 have hlen:(xs ++ news).length=(n+m) * i.size:=by rw [List.length_append,hown.1,hl,Nat.add_mul]
 have grown:∀ (Hd:Nat),Hd < n+m->∀ (row:Option Nat),
     (w.drew.alloc (.cells (xs.toArray ++ news.toArray ++ Builtin.zeroCells z.cells (grownCap w (n+m) Hd e - (n+m))) e)).ownsRow 0 e i.size
       (.slice (some ⟨w.heap.size,0,none⟩) (n+m) (grownCap w (n+m) Hd e)) (n+m) (xs ++ news) /\
     w.grownBy (w.drew.alloc (.cells (xs.toArray ++ news.toArray ++ Builtin.zeroCells z.cells (grownCap w (n+m) Hd e - (n+m))) e)) row:=by
   intro Hd ho row
   have hge:=grownCap_ge w (n+m) Hd e
   have hcm:grownCap w (n+m) Hd e<=maxLen:=grownCap_le_maxLen w (n+m) Hd e WH
   refine ⟨⟨hlen,.inr ⟨w.heap.size,_,_,rfl,Nat.zero_le _,heap_alloc_new w.drew _,hge,hcm,?_,?_⟩⟩,⟨rfl,rfl,rfl,by simp,fun k hk _=>heap_alloc_old w.drew _ hk⟩⟩
   · simp only [Array.size_append,List.size_toArray,size_zeroCells,hzs,hown.1,hl,<- Nat.add_mul]
     congr 1
     omega
   · simp only [Array.toList_append,List.append_assoc]
     rw [<- List.append_assoc,<- hlen]
     exact List.take_left
 rcases hown.2 with ⟨rfl,rfl⟩ | ⟨g,cap,cur,rfl,hbg,hg,hnc,hcm,hcs,htake⟩
 · have hx:xs=[]:=List.eq_nil_of_length_eq_zero (by simpa using hown.1)
   subst hx
   have hr:=run_append_nil (P:=P) w t ty e i z ht hi hz a m c news hl hnews (by omega) (by omega) (by have hb:=hbytes; simp only [Nat.zero_add] at hb; omega)
   have hgr:=grown 0 (by omega) (Value.ownBlock (.slice none 0 0))
   simp only [Nat.zero_add,List.nil_append,Array.empty_append] at hgr ⊢
   exact ⟨_,_,_,hr,hgr.1,hgr.2,.inr rfl,by simp,Nat.le_succ _⟩
 · by_cases hroom:n+m<=cap
   · have hfit:n * i.size+news.length<=cur.size:=by rw [hl,hcs,<- Nat.add_mul]; exact Nat.mul_le_mul_right _ hroom
     have hr:=run_append_room (P:=P) w t ty e i ht hi g n cap cur hg a m c news hl hnews h1 hroom hfit
     refine ⟨g,cap,_,hr,⟨hlen,.inr ⟨g,cap,_,rfl,hbg,setRow_heap w g cur _ e _ hg,hroom,hcm,?_,?_⟩⟩,⟨rfl,rfl,rfl,by simp,fun k _ hk=>setRow_other w g k _ (fun e=>hk (by simp [Value.ownBlock,e]))⟩,.inl rfl,by simpa using (Array.getElem?_eq_some_iff.1 hg).1,Nat.le_refl _⟩
     · simp only [List.size_toArray,List.length_append,List.length_take,List.length_drop,Array.length_toList]
       omega
     · rw [htake,<- hlen]
       exact List.take_left
   · have holds:∀ (j:Nat) u,xs[j]? = some u->w.cell? ((⟨g,0,none⟩:Addr).add j)=some u:=hown.cells (g:=g) rfl
     have hr:=run_append_grow (P:=P) w t ty e i z ht hi hz ⟨g,0,none⟩ n cap xs hown.1 holds a m c news hl hnews (by omega) (by omega) (growslice_fits (by omega) hbytes)
     have hgr:=grown cap (by omega) (Value.ownBlock (.slice (some ⟨g,0,none⟩) n cap))
     exact ⟨_,_,_,hr,hgr.1,hgr.2,.inr rfl,by simp,Nat.le_succ _⟩
def Eo (loc:Nat->Option Loc):Option Nat->Nat->Option Loc
 | none=>loc
 | some o=>Ae loc o (some .gone)
def JA (s:AE):Option Nat->AE
 | none=>s
 | some o=>Ae s o (some none)
omit [Mo] in
theorem Hj (oo:Option Nat):Ak loc (Eo loc oo):=by
 intro o l hl
 cases oo with
 | none=>exact .inl hl
 | some o' =>
   by_cases h:o=o'
   · subst h; exact .inr (AA _ _ _)
   · exact .inl ((AJ _ _ h).trans hl)
theorem AK.replace (hS:AK G B w F loc s) {oo row:Option Nat} {d:Nat} {x:O} {l:Loc} (hd:s d=none) (hoo:∀ o,oo=some o->∃ l,loc o=some l) (hmi:∀ o m,oo=some o->s o ≠ some (some (.mi m))) (hg:w.grownBy w' row)
   (hrow:∀ b,row=some b->∃ o l,oo=some o/\loc o=some l/\l.block=some b) (hblk:∀ g,l.block=some g->((∃ o l', oo=some o/\loc o=some l' /\ l'.block=some g)\/w.heap.size<=g)/\g < w'.heap.size)
   (hx:∀ loc', Ak loc loc' -> Kept w F w' F->BZ w' F loc' (some x) l) (hdr:w.drawn<=w'.drawn:=by exact Nat.le_refl _) :
   AK G B w' F (Ae (Eo loc oo) d (some l)) (Ae (JA s oo) d (some (some x)))/\Kept w F w' F/\Ak loc (Ae (Eo loc oo) d (some l)):=by
 have hn:=Cc hS hd
 have hod:∀ o,oo=some o->o ≠ d:=by rintro o ho rfl; obtain ⟨l,hl⟩:=hoo o ho; rw [hn] at hl; cases hl
 have hnk:Eo loc oo d=none:=by
   cases oo with
   | none=>exact hn
   | some o=>exact (AJ _ _ (hod o rfl).symm).trans hn
 have hsm:Ak loc (Ae (Eo loc oo) d (some l)):=(Hj oo).trans (Ak.Ae hnk)
 have hk:Kept w F w' F:=fun b hb=>⟨hb,hg.block b (hS.BF b hb).1 (fun e=>by
   obtain ⟨o,l', _,h1,h2⟩:=hrow b e.symm
   exact (hS.own o l' b h1 h2).2.1 hb)⟩
 have hit:∀ c x y z u,(∃ i,loc i=some (.Bo c))->w.heap[c]? = some (.mapIter x y z u)->w'.heap[c]? = w.heap[c]? := by
   rintro c x y z u ⟨i,hi⟩ hc
   refine hg.block c (hS.own i _ c hi rfl).1 fun e=>?_
   obtain ⟨o,l', h1,h2,h3⟩:=hrow c e.symm
   obtain ⟨m,hm⟩:=hS.NF h2 h3 hc
   exact hmi o m h1 hm
 have Hd:∀ o l', o ≠ d->Ae (Eo loc oo) d (some l) o=some l' -> (oo=some o/\l' = .gone)\/(oo ≠ some o/\loc o=some l'):=by
   intro o l' h h'
   rw [AJ _ _ h] at h'
   cases oo with
   | none=>exact .inr ⟨by simp,h'⟩
   | some o' =>
     by_cases e:o=o'
     · subst e; rw [show Eo loc (some o)=Ae loc o (some .gone) from rfl,AA] at h'; cases h'; exact .inl ⟨rfl,rfl⟩
     · rw [show Eo loc (some o')=Ae loc o' (some .gone) from rfl,AJ _ _ e] at h'; exact .inr ⟨fun e'=>e (by cases e'; rfl),h'⟩
 refine ⟨⟨?_,?_,?_,?_,?_,hS.RF,hg.os.trans hS.os,hg.tape.trans hS.tape,hg.output.trans hS.output,Nat.le_trans hS.size hg.size,?_,?_,?_,fun h=>Nat.le_trans (hS.Pv h) hdr⟩,hk,hsm⟩
 · intro o obj ho
   by_cases h:o=d
   · subst h; rw [AA] at ho; cases ho; exact ⟨l,AA _ _ _,hx _ hsm hk⟩
   · rw [AJ _ _ h] at ho
     cases oo with
     | none =>
       obtain ⟨l', hl', hr⟩:=hS.Cg o obj ho
       refine ⟨l', (AJ _ _ h).trans hl', hr.mono hk hsm (fun b hb=>hg.block b (hS.own o l' b hl' hb).1 fun e=>?_) hit⟩
       obtain ⟨o', _,h', _⟩:=hrow b e.symm; cases h'
     | some o' =>
       by_cases e:o=o'
       · subst e
         rw [show JA s (some o)=Ae s o (some none) from rfl,AA] at ho
         cases ho
         exact ⟨.gone,(AJ _ _ h).trans (AA _ _ _),.gone⟩
       · rw [show JA s (some o')=Ae s o' (some none) from rfl,AJ _ _ e] at ho
         obtain ⟨l', hl', hr⟩:=hS.Cg o obj ho
         refine ⟨l', (AJ _ _ h).trans ((AJ _ _ e).trans hl'),hr.mono hk hsm (fun b hb=>hg.block b (hS.own o l' b hl' hb).1 fun er=>?_) hit⟩
         obtain ⟨o2,l2,h2,h3,h4⟩:=hrow b er.symm
         cases h2
         exact e (hS.inj o o' l' l2 b hl' h3 hb h4)
 · intro o l' hl'
   by_cases h:o=d
   · subst h; exact ⟨_,AA _ _ _⟩
   · rw [AJ _ _ h]
     rcases Hd o l' h hl' with ⟨rfl,rfl⟩ | ⟨h1,h2⟩
     · exact ⟨none,AA _ _ _⟩
     · cases oo with
       | none=>exact hS.Fp o l' h2
       | some o' =>
         have e:o ≠ o':=fun e=>h1 (by rw [e])
         rw [show JA s (some o')=Ae s o' (some none) from rfl,AJ _ _ e]; exact hS.Fp o l' h2
 · intro o o' l1 l2 b h1 h2 h3 h4
   have key:∀ o1 l1,o1 ≠ d->Ae (Eo loc oo) d (some l) o1=some l1->l1.block=some b->∀ l3,l3.block=some b->l3=l->False:=by
     rintro o1 l1 hne hh hb l3 h3 rfl
     rcases Hd o1 l1 hne hh with ⟨_,rfl⟩ | ⟨e1,e2⟩
     · cases hb
     · rcases (hblk b h3).1 with ⟨o2,l4,e3,e4,e5⟩ | hge
       · exact e1 (by rw [e3,hS.inj o1 o2 l1 l4 b e2 e4 hb e5])
       · have:=(hS.own o1 l1 b e2 hb).1; omega
   by_cases e1:o=d
   · by_cases e2:o' = d
     · rw [e1,e2]
     · subst e1; rw [AA] at h1; cases h1; exact (key o' l2 e2 h2 h4 _ h3 rfl).elim
   · by_cases e2:o' = d
     · subst e2; rw [AA] at h2; cases h2; exact (key o l1 e1 h1 h3 _ h4 rfl).elim
     · rcases Hd o l1 e1 h1 with ⟨_,rfl⟩ | ⟨_,a1⟩
       · cases h3
       · rcases Hd o' l2 e2 h2 with ⟨_,rfl⟩ | ⟨_,a2⟩
         · cases h4
         · exact hS.inj o o' l1 l2 b a1 a2 h3 h4
 · intro o l' b h1 h2
   by_cases h:o=d
   · subst h
     rw [AA] at h1
     cases h1
     obtain ⟨h3,h4⟩:=hblk b h2
     refine ⟨h4,fun hF=>?_,?_⟩
     · rcases h3 with ⟨o2,l2,_,a1,a2⟩ | hge
       · exact (hS.own o2 l2 b a1 a2).2.1 hF
       · have:=(hS.BF b hF).1; omega
     · rcases h3 with ⟨o2,l2,_,a1,a2⟩ | hge
       · exact (hS.own o2 l2 b a1 a2).2.2
       · exact .inr (Nat.le_trans hS.size hge)
   · rcases Hd o l' h h1 with ⟨_,rfl⟩ | ⟨_,a1⟩
     · cases h2
     · have:=hS.own o l' b a1 h2
       exact ⟨Nat.lt_of_lt_of_le this.1 hg.size,this.2⟩
 · intro b hb
   have:=hS.BF b hb
   exact ⟨Nat.lt_of_lt_of_le this.1 hg.size,this.2⟩
 · intro b hb hx'
   rw [hg.block b (Nat.lt_of_lt_of_le hb hS.size) ?_]
   · exact hS.keep b hb hx'
   · intro e
     obtain ⟨o,l', _,h1,h2⟩:=hrow b e.symm
     rcases (hS.own o l' b h1 h2).2.2 with h | h
     · exact hx' h
     · omega
 · intro o l' ho
   have:=hS.QB o l' ho
   rcases this with h | h
   · exact hsm o l' h
   · exact .inr ((hsm o _ h).elim id id)
 · intro g cells hgg
   obtain ⟨hF,val,hc,hr⟩:=hS.FE g cells hgg
   exact ⟨hF,val,fun j hj=>(BD (w:=w) (hk g hF).2).trans (hc j hj),fun j x hj=>(hr j x hj).mono hk⟩
end Go.Proofs.YtobfoiomjfdjjaaDoor.Mc
namespace Go.Proofs.YtobfoiomjfdjjaaDoor.Mc
open Go.RowKit
variable [Mo]
variable {P:Program}{G:BA}{D:Ah}{B:BB}{w w':World}{F F':Nat->Prop}{loc loc':Nat->Option Loc}{s s':AE}
def Hm (s:AE)(x:V):Option (List (List T)) :=
 match x with
 | .t (.fz _ rows)=>some rows
 | .t (.sc (.slice none 0 0))=>some []
 | .sl _ o=>match get s o with | some (.ar _ _ rows)=>some rows | _=>none
 | .sw o off len=>match get s o with | some (.ar _ _ rows)=>some ((rows.drop off).take len) | _=>none
 | _=>none
structure Src (w:World)(F:Nat->Prop)(sz:Nat)(rows:List (List T))(v:Value):Prop where
 out:∃ (a:Option Addr) (c:Nat) (news:List Value),v=.slice a rows.length c/\news.length=rows.length * sz/\(0 < rows.length->∃ ad,a=some ad/\∀ (j:Nat) u,news[j]? = some u->w.cell? (ad.add j)=some u)/\(∀ u ∈ news,u.oneCell' = true) /\
   ∀ (i:Nat) (r:List T),rows[i]? = some r->∀ (j:Nat) (x:T),r[j]? = some x->∃ v,news[i * sz+j]? = some v/\BG w F x v
omit [Mo] in
theorem Dr {i j n sz:Nat}(hi:i < n)(hj:j < sz):i * sz+j < n * sz:=by
 have:(i+1) * sz<=n * sz:=Nat.mul_le_mul_right _ hi
 rw [Nat.add_mul] at this; omega
omit [Mo] in
theorem NV {i j sz:Nat}(hj:j < sz):(i * sz+j) / sz=i/\(i * sz+j) % sz=j:=by
 have hz:0 < sz:=by omega
 rw [Nat.add_comm]
 exact ⟨by rw [Nat.add_mul_div_right _ _ hz,Nat.div_eq_of_lt hj,Nat.zero_add],by rw [Nat.add_mul_mod_self_right,Nat.mod_eq_of_lt hj]⟩
theorem LW (hS:AK G B w F loc s) {x:V} {v:Value} {rows:List (List T)} {sz:Nat} (h:Hm s x=some rows) (hx:AF w F loc x v) (hlen:∀ r ∈ rows,r.length=sz) (hz:0 < sz):Src w F sz rows v:=by
 unfold Hm at h
 split at h
 · rename_i nl rs
   cases h
   cases hx with
   | gone _ o _ hx _=>cases hx
   | t _ _ hx =>
     cases hx with
     | nil=>exact ⟨none,0,[],rfl,by simp,by simp,by simp,by simp⟩
     | mt _ a cap=>exact ⟨some a,cap,[],rfl,by simp,by simp,by simp,by simp⟩
     | fz _ _ sz' b off cap val hF hn hz' hsz' hcap hc h1 hr =>
       obtain ⟨r0,hr0⟩:∃ r,r ∈ rows:=List.exists_mem_of_ne_nil rows hn
       have hss:sz' = sz:=(hsz' r0 hr0).symm.trans (hlen r0 hr0)
       subst hss
       refine ⟨_,_,(List.range (rows.length * sz')).map fun k=>val (k / sz') (k % sz'),rfl,by simp,fun _=>⟨_,rfl,fun j u hj=>?_⟩,fun u hu=>?_,fun i r hi j y hj=>?_⟩
       · rw [List.getElem?_map] at hj
         obtain ⟨k,hk,rfl⟩:=Option.map_eq_some_iff.1 hj
         obtain ⟨hk1,rfl⟩:=List.getElem?_eq_some_iff.1 hk
         simp at hk1 ⊢
         have hi:j / sz' < rows.length:=(Nat.div_lt_iff_lt_mul hz).2 hk1
         have:=hc (j / sz') _ (List.getElem?_eq_getElem hi) (j % sz') (Nat.mod_lt _ hz)
         rw [Addr.add_mid,<- this]
         congr 2
         have:=Nat.div_add_mod j sz'
         rw [Nat.mul_comm] at this; omega
       · obtain ⟨k,hk,rfl⟩:=List.mem_map.1 hu
         simp at hk
         have hi:k / sz' < rows.length:=(Nat.div_lt_iff_lt_mul hz).2 hk
         exact h1 _ _ (List.getElem?_eq_getElem hi) _ (Nat.mod_lt _ hz)
       · have hil:=(List.getElem?_eq_some_iff.1 hi).1
         have hjl:j < sz':=by have:=(List.getElem?_eq_some_iff.1 hj).1; have:=BX hsz' hi; omega
         obtain ⟨hd,hm⟩:=NV (i:=i) hjl
         refine ⟨val i j,?_,hr i r hi j y hj⟩
         rw [List.getElem?_map,List.getElem?_range (Dr hil hjl),Option.map_some,hd,hm]
 · cases h
   rw [AP hx]
   exact ⟨none,0,[],rfl,by simp,by simp,by simp,by simp⟩
 · split at h
   · rename_i e sz' rs ho
     cases h
     obtain ⟨b,cap,cells,hl,hz', hsz', hown,h1,hr⟩:=hS.row ho
     obtain ⟨rfl,_⟩:=CY hx hl
     cases hrows:rows with
     | nil=>subst hrows; exact ⟨_,_,[],rfl,by simp,by simp,by simp,by simp⟩
     | cons r0 rs' =>
       have hss:sz' = sz:=(hsz' r0 (by rw [hrows]; simp)).symm.trans (hlen r0 (by rw [hrows]; simp))
       subst hss
       rw [<- hrows]
       refine ⟨_,_,cells,rfl,Bs hown,fun hp=>?_,h1,hr⟩
       obtain ⟨g,rfl⟩:=Dx hown hp
       exact ⟨_,rfl,fun j u hj=>by rw [Addr.add_mid,Nat.zero_add]; exact El hown rfl hj⟩
   · cases h
 · rename_i o off len
   split at h
   · rename_i e sz' rs ho
     cases h
     obtain ⟨b,cap,cells,hl,hz', hsz', hown,h1,hr⟩:=hS.row ho
     obtain ⟨a,rfl,hle,ha,_⟩:=EP hx hl
     have hlenr:((rs.drop off).take len).length=len:=by rw [List.length_take,List.length_drop]; omega
     by_cases hl0:len=0
     · subst hl0
       exact ⟨a,cap - off,[],by simp,by simp,by simp,by simp,by simp⟩
     · obtain ⟨g,rfl,rfl⟩:=ha (by omega)
       obtain ⟨r0,hr0⟩:∃ r,r ∈ (rs.drop off).take len:=List.exists_mem_of_ne_nil _ (fun e=>by rw [e] at hlenr; simp at hlenr; omega)
       have hss:sz' = sz:=(hsz' r0 (List.mem_of_mem_drop (List.mem_of_mem_take hr0))).symm.trans (hlen r0 hr0)
       subst hss
       have hcl:cells.length=rs.length * sz':=Bs hown
       have hb1:off * sz' + len * sz' <= cells.length:=by rw [hcl,<- Nat.add_mul]; exact Nat.mul_le_mul_right _ hle
       refine ⟨_,_,(cells.drop (off * sz')).take (len * sz'),by rw [hlenr],by rw [List.length_take,List.length_drop,hlenr]; omega,fun _=>⟨_,rfl,fun j u hj=>?_⟩,fun u hu=>h1 u (List.mem_of_mem_drop (List.mem_of_mem_take hu)),fun i r hi j y hj=>?_⟩
       · rw [List.getElem?_take] at hj
         split at hj
         · rw [List.getElem?_drop] at hj; rw [Addr.add_mid]; exact El hown rfl hj
         · cases hj
       · rw [List.getElem?_take] at hi
         split at hi
         · rename_i hil
           rw [List.getElem?_drop] at hi
           have hjl:j < sz':=by have:=(List.getElem?_eq_some_iff.1 hj).1; have:=BX hsz' hi; omega
           obtain ⟨v,hv,hrel⟩:=hr _ r hi j y hj
           refine ⟨v,?_,hrel⟩
           rw [List.getElem?_take,if_pos (Dr hil hjl),List.getElem?_drop,<- hv]
           congr 1; rw [Nat.add_mul]; omega
         · cases hi
   · cases h
 · cases h
def IL (s:AE)(e:TypeId)(sz:Nat)(x:V):Option (Nl × List (List T) × Option Nat) :=
 match x with
 | .t (.sc (.slice none 0 0))=>some (.n,[],none)
 | .sl nl o=>match get s o with
   | some (.ar e' sz' rows)=>if Nat.beq e' e && Nat.beq sz' sz && Nat.blt e' 1000000 then some (nl,rows,some o) else none
   | _=>none
 | .sw o 0 len=>match get s o with
   | some (.ar e' sz' rows)=>if Nat.beq e' e && Nat.beq sz' sz && Nat.blt e' 1000000 then some (.u,rows.take len,some o) else none
   | _=>none
 | _=>none
omit [Mo] in
theorem LB:(9223372036854775807:Nat)<=maxLen:=by unfold maxLen; omega
omit [Mo] in
theorem FN {e:TypeId} {sz:Nat} {x:V} {nl:Nl} {rows:List (List T)} {oo:Option Nat} (h:IL s e sz x=some (nl,rows,oo)):∀ o m,oo=some o->s o ≠ some (some (.mi m)):=by
 intro o m ho hm
 subst ho
 unfold IL at h
 split at h
 · cases h
 · split at h
   · rename_i hg
     split at h
     · cases h; rw [get_some hg] at hm; cases hm
     · cases h
   · cases h
 · split at h
   · rename_i hg
     split at h
     · cases h; rw [get_some hg] at hm; cases hm
     · cases h
   · cases h
 · cases h
structure Tgt (w:World)(F:Nat->Prop)(loc:Nat->Option Loc)(e:TypeId)(sz:Nat)(nl:Nl)(rows:List (List T))(oo:Option Nat)(v:Value):Prop where
 out:∃ (b:Option Nat) (cap:Nat) (cells:List Value),v=.slice (b.map fun b=>⟨b,0,none⟩) rows.length cap/\w.ownsRow 0 e sz v rows.length cells/\(∀ r ∈ rows,r.length=sz)/\(∀ u ∈ cells,u.oneCell' = true) /\
   (∀ (i:Nat) (r:List T),rows[i]? = some r->∀ (j:Nat) (x:T),r[j]? = some x->∃ v,cells[i * sz+j]? = some v/\BG w F x v) /\
   (nl=.e->b.isSome=true)/\(nl=.n->b.isSome=true->0 < rows.length)/\(b=none->rows.length=0/\cap=0) /\
   (∀ g,b=some g->∃ o l,oo=some o/\loc o=some l/\l.block=some g)/\(∀ o,oo=some o->∃ l,loc o=some l)
theorem MS (hS : AK G B w F loc s) {e:TypeId} {sz:Nat} {x:V} {v:Value} {nl:Nl} {rows:List (List T)} {oo:Option Nat} (h:IL s e sz x=some (nl,rows,oo)) (hx:AF w F loc x v) (hz:0 < sz):Tgt w F loc e sz nl rows oo v:=by
 unfold IL at h
 split at h
 · cases h
   rw [AP hx]
   exact ⟨none,0,[],rfl,World.ownsRow_nil w 0 e sz,by simp,by simp,by simp,by simp,by simp,by simp,by simp,by simp⟩
 · rename_i nl' o
   split at h
   · rename_i e' sz' rs ho
     split at h
     · rename_i hb
       cases h
       simp only [Bool.and_eq_true] at hb
       have he:e' = e:=Nat.eq_of_beq_eq_true hb.1.1
       have hs:sz' = sz:=Nat.eq_of_beq_eq_true hb.1.2
       have hlt:e' < 1000000:=by simpa using hb.2
       subst he hs
       obtain ⟨b,cap,cells,hl,hz', hsz', hownR,h1,hr⟩:=hS.row ho
       have hown:=Fe hownR hlt
       obtain ⟨rfl,he,hn,h0⟩:=CY hx hl
       exact ⟨b,cap,cells,rfl,hown,hsz', h1,hr,he,hn,h0,fun g hg=>⟨o,_,rfl,hl,by rw [hg]; rfl⟩,fun o' ho'=>by cases ho'; exact ⟨_,hl⟩⟩
     · cases h
   · cases h
 · rename_i o len
   split at h
   · rename_i e' sz' rs ho
     split at h
     · rename_i hb
       cases h
       simp only [Bool.and_eq_true] at hb
       have he:e' = e:=Nat.eq_of_beq_eq_true hb.1.1
       have hs:sz' = sz:=Nat.eq_of_beq_eq_true hb.1.2
       have hlt:e' < 1000000:=by simpa using hb.2
       subst he hs
       obtain ⟨b,cap,cells,hl,hz', hsz', hownR,h1,hr⟩:=hS.row ho
       have hown:=Fe hownR hlt
       obtain ⟨a,rfl,hle,ha,ha0,_⟩:=EP hx hl
       have hlenr:(rs.take len).length=len:=by rw [List.length_take]; omega
       obtain rfl:=ha0 rfl
       have hcl:=hown.1
       have hlm:len * sz' <= rs.length * sz':=Nat.mul_le_mul_right _ (by omega)
       refine ⟨b,cap,cells.take (len * sz'),by rw [hlenr]; rfl,⟨by rw [List.length_take,hlenr,hcl]; omega,?_⟩,fun r hr=>hsz' r (List.mem_of_mem_take hr),fun u hu=>h1 u (List.mem_of_mem_take hu),fun i r hi j y hj=>?_,by simp,by simp,fun hb=>?_,fun g hg=>⟨o,_,rfl,hl,by rw [hg]; rfl⟩,fun o' ho'=>by cases ho'; exact ⟨_,hl⟩⟩
       · rw [hlenr]
         rcases hown.2 with ⟨hv,hn⟩ | ⟨g,cap', cur,hv,hbg,hg,hnc,hcm,hcs,htk⟩
         · left
           injection hv with h1 h2 h3
           refine ⟨by rw [h1,h3]; have:len=0:=by omega
                      subst this; rfl,by omega⟩
         · right
           injection hv with h1 h2 h3
           subst h3
           refine ⟨g,cap,cur,by rw [h1]; rfl,hbg,hg,by omega,hcm,hcs,?_⟩
           rw [<- htk,List.take_take,Nat.min_eq_left hlm]
       · rw [List.getElem?_take] at hi
         split at hi
         · rename_i hil
           have hjl:j < sz':=by have:=(List.getElem?_eq_some_iff.1 hj).1; have:=BX hsz' hi; omega
           obtain ⟨u,hu,hrel⟩:=hr i r hi j y hj
           exact ⟨u,by rw [List.getElem?_take,if_pos (Dr hil hjl)]; exact hu,hrel⟩
         · cases hi
       · subst hb
         rcases hown.2 with ⟨hv,hn⟩ | ⟨g,cap', cur,hv,_⟩
         · injection hv with _ _ h3; exact ⟨by omega,h3⟩
         · injection hv with h1; cases h1
     · cases h
   · cases h
 · cases h
end Go.Proofs.YtobfoiomjfdjjaaDoor.Mc
namespace Go.Proofs.YtobfoiomjfdjjaaDoor.Mc
open Go.RowKit
variable [Mo]
variable {P:Program}{G:BA}{D:Ah}{B:BB}{w w':World}{F F':Nat->Prop}{loc loc':Nat->Option Loc}{s s':AE}
omit [Mo] in
theorem DZ {ρ:Operand->Value}{o:Oper}{x y:Operand}{ts:Array TypeId}{z:Value}{w':World}(ho:o.op=.call ⟨.builtin .append,#[x,y],ts⟩)(h:(Builtin.append_ ts o.type #[ρ x,ρ y]).run P w=.ok z w'):(execOp ρ o).run P w=.ok (.value z) w':=by
 simp [execOp,ho,resolve,invoke,builtin,h]
omit [Mo] in
theorem Od {t e ty:TypeId}{i:TypeInfo}{a a':Option Addr}{n c c':Nat}(ht:P.underlying t=some (.slice e))(hi:P.info? e=some i)(hn:n<=c) :
   (Builtin.append_ #[t,t] ty #[.slice a n c,.slice a' 0 c']).run P w=.ok (.slice a n c) w:=by
 have hf:(Builtin.firstCells i.size 0 (.slice a' 0 c')).run P w=.ok #[] w:=by
   cases a' <;> simp [Builtin.firstCells,loadCells,loadCellsFrom]
 have hst:∀ b:Addr,(storeCells b ([]:List Value)).run P w=.ok () w:=fun _=>rfl
 cases a with
 | none=>simp [Builtin.append_,run_underlying ht,sizeOf,typeInfo,hi,Builtin.lenOf,hn,hf]
 | some ad=>simp [Builtin.append_,run_underlying ht,sizeOf,typeInfo,hi,Builtin.lenOf,hn,hf,hst]
theorem TA (hg:Good P D) {o:Oper} {st:St} {x y:Operand} {t e d:Nat} {de:TypeDesc} {z:Value} {nl:Nl} {rows rows2:List (List T)} {oo:Option Nat}
   (ho:o.op=.call ⟨.builtin .append,#[x,y],#[t,t]⟩) (hu:D.AW t=some (.slice e)) (he:D.AW e=some de) (hz:D.zero e=some z) (hzs:Nat.beq z.cells.size (D.size e)=true) (hp:Nat.blt 0 (D.size e)=true)
   (hd:st.s d=none) (htg:IL st.s e (D.size e) (ev G st.t x)=some (nl,rows,oo)) (hsr:Hm st.s (ev G st.t y)=some rows2) (hlen:∀ r ∈ rows2,r.length=D.size e)
   (WH:rows.length+rows2.length<=9223372036854775807) (hby:(rows.length+rows2.length) * D.bytes e<=140737488355328) :
   CD P G o st (.sl nl d) (Ae (JA st.s oo) d (some (some (.ar e (D.size e) (rows ++ rows2))))):=by
 intro B F loc a w hR
 have hS:=hR.s
 have hzs':z.cells.size=D.size e:=Nat.eq_of_beq_eq_true hzs
 have hp':0 < D.size e:=by simpa using hp
 obtain ⟨hu', _⟩:=hg.AW t _ hu
 obtain ⟨_,i,hi,hsz,hbt,hzi⟩:=hg.AW e _ he
 obtain ⟨b,cap,cells,hv,hown,hrl,h1,hr,hne,hnn,hn0,hbo,hoo⟩:=(MS hS htg (AV hR x) hp').out
 obtain ⟨sa,sc,news,hsv,hnl,hna,hn1,hnr⟩:=(LW hS hsr (AV hR y) hlen hp').out
 have hcat:∀ (i:Nat) (r:List T),(rows ++ rows2)[i]? = some r->∀ (j:Nat) (x:T),r[j]? = some x->∃ v,(cells ++ news)[i * D.size e+j]? = some v/\BG w F x v:=by
   intro i r hi j x hj
   have hcl:cells.length=rows.length * D.size e:=hown.1
   rw [List.getElem?_append] at hi
   split at hi
   · rename_i hlt
     have hjl:j < D.size e:=by have:=(List.getElem?_eq_some_iff.1 hj).1; have:=BX hrl hi; omega
     obtain ⟨u,hu,hrel⟩:=hr i r hi j x hj
     exact ⟨u,by rw [List.getElem?_append,if_pos (by rw [hcl]; exact Dr hlt hjl)]; exact hu,hrel⟩
   · rename_i hge
     obtain ⟨u,hu,hrel⟩:=hnr _ r hi j x hj
     refine ⟨u,?_,hrel⟩
     have:rows.length * D.size e<=i * D.size e:=Nat.mul_le_mul_right _ (by omega)
     rw [List.getElem?_append,if_neg (by omega),<- hu]
     congr 1
     rw [hcl,Nat.sub_mul]; omega
 have hrl2:∀ r ∈ rows ++ rows2,r.length=D.size e:=fun r hr=>(List.mem_append.1 hr).elim (hrl r) (hlen r)
 have h1':∀ u ∈ cells ++ news,u.oneCell' = true:=fun u hu=>(List.mem_append.1 hu).elim (h1 u) (hn1 u)
 have hob:(a.eval x).ownBlock=b:=by rw [hv]; cases b <;> rfl
 by_cases hm:rows2.length=0
 · -- nothing new
   have hr2:rows2=[]:=List.eq_nil_of_length_eq_zero hm
   subst hr2
   have hnews:news=[]:=List.eq_nil_of_length_eq_zero (by simpa using hnl)
   subst hnews
   simp only [List.append_nil] at *
   have hcap:rows.length<=cap:=by rw [hv] at hown; exact Hz (Bx hown (hg.lt e _ he))
   have hrun:(Builtin.append_ #[t,t] o.type #[a.eval x,a.eval y]).run P w=.ok (a.eval x) w:=by
     rw [hv,hsv]; exact Od hu' hi hcap
   have hx:∀ loc', Ak loc loc' -> Kept w F w F->BZ w F loc' (some (.ar e (D.size e) rows)) (.arr b rows.length cap (D.size e)):=by
     intro loc' _ _
     exact .ar e _ rows b cap cells hp' hrl (by rw [hv] at hown; exact Bx hown (hg.lt e _ he)) h1 hr
   have hgb:w.grownBy w none:=⟨rfl,rfl,rfl,Nat.le_refl _,fun _ _ _=>rfl⟩
   obtain ⟨hS', hk,hsm⟩:=hS.replace (oo:=oo) (row:=none) (d:=d) (x:=.ar e (D.size e) rows) (l:=.arr b rows.length cap (D.size e)) hd hoo (FN htg) hgb (fun _ h=>by cases h) (fun g hg=>by
     obtain ⟨o', l', h1,h2,h3⟩:=hbo g hg
     exact ⟨.inl ⟨o', l', h1,h2,h3⟩,(hS.own o' l' g h2 h3).1⟩) hx
   refine ⟨F,_,w,a.eval x,_,DZ ho hrun,.inl rfl,hS', hk,hsm,?_⟩
   rw [hv]
   exact .sl _ _ b _ cap (D.size e) (AA _ _ _) hne hnn hn0
 · obtain ⟨ad,rfl,had⟩:=hna (by omega)
   obtain ⟨g,cap', w', hrun,hown', hgb,hplace,hgs,hdr⟩:=Qs (P:=P) (ty:=o.type) hu' hi (hzi.trans hz) hsz hbt hzs' hp' hown (by omega) hnl had hn1 (Nat.le_trans WH LB) hby
   have hx:∀ loc', Ak loc loc' -> Kept w F w' F->BZ w' F loc' (some (.ar e (D.size e) (rows ++ rows2))) (.arr (some g) (rows ++ rows2).length cap' (D.size e)):=by
     intro loc' _ hk
     refine .ar e _ _ (some g) cap' (cells ++ news) hp' hrl2 (by rw [List.length_append]; exact Bx hown' (hg.lt e _ he)) h1' fun i r hi j x hj=>?_
     obtain ⟨u,hu,hrel⟩:=hcat i r hi j x hj
     exact ⟨u,hu,hrel.mono hk⟩
   obtain ⟨hS', hk,hsm⟩:=hS.replace (oo:=oo) (row:=b) (d:=d) (x:=.ar e (D.size e) (rows ++ rows2)) (l:=.arr (some g) (rows ++ rows2).length cap' (D.size e)) hd hoo (FN htg) (by rw [<- hob]; exact hgb) hbo (fun g' hg'=>by
     cases hg'
     refine ⟨?_,hgs⟩
     rcases hplace with h | h
     · rw [hob] at h; exact .inl (hbo g h)
     · exact .inr (by omega)) hx hdr
   refine ⟨F,_,w', _,_,DZ ho (by rw [hsv]; exact hrun),.inl rfl,hS', hk,hsm,?_⟩
   have:=AF.sl (w:=w') (F:=F) (loc:=Ae (Eo loc oo) d (some (.arr (some g) (rows ++ rows2).length cap' (D.size e)))) nl d (some g) _ cap' (D.size e) (AA _ _ _) (fun _=>rfl) (fun _ _=>by simp; omega) (by simp)
   simpa using this
end Go.Proofs.YtobfoiomjfdjjaaDoor.Mc
namespace Go.Proofs.YtobfoiomjfdjjaaDoor.Mc
open Go.RowKit
variable [Mo]
variable {P:Program}{G:BA}{D:Ah}{B:BB}{w w':World}{F F':Nat->Prop}{loc loc':Nat->Option Loc}{s s':AE}
theorem AK.newRow (hS:AK G B w F loc s) {d e sz n:Nat} {rows:List (List T)} {cs:Array Value} (he1:e < 1000000) (hd:s d=none) (hz:0 < sz) (hn:rows.length=n) (hsz:∀ r ∈ rows,r.length=sz) (hcs:cs.size=n * sz) (hm:n<=maxLen)
   (h1:∀ u ∈ cs.toList,u.oneCell' = true) (hr:∀ (i:Nat) (r:List T),rows[i]? = some r->∀ (j:Nat) (x:T),r[j]? = some x->∃ v,cs[i * sz+j]? = some v/\BG w F x v) :
   AK G B (w.alloc (.cells cs e)) F (Ae loc d (some (.arr (some w.heap.size) n n sz))) (Ae s d (some (some (.ar e sz rows))))/\Kept w F (w.alloc (.cells cs e)) F/\Ak loc (Ae loc d (some (.arr (some w.heap.size) n n sz))):=by
 have hown:(w.alloc (.cells cs e)).ownsRow 0 e sz (.slice (some ⟨w.heap.size,0,none⟩) n n) n cs.toList :=
   ⟨by simp [hcs],.inr ⟨w.heap.size,n,cs,rfl,Nat.zero_le _,heap_alloc_new w _,Nat.le_refl _,hm,hcs,by rw [<- hcs]; exact List.take_of_length_le (by simp)⟩⟩
 have:=hS.replace (oo:=none) (row:=none) (d:=d) (x:=.ar e sz rows) (l:=.arr (some w.heap.size) n n sz) hd (by simp) (by simp) (World.grownBy_alloc w (.cells cs e) none) (by simp) (fun g hg=>by
   cases hg; exact ⟨.inr (Nat.le_refl _),by simp⟩) (fun loc' _ hk=>by
     subst hn
     refine .ar e sz rows (some w.heap.size) _ cs.toList hz hsz (Bx hown he1) h1 fun i r hi j x hj=>?_
     obtain ⟨u,hu,hrel⟩:=hr i r hi j x hj
     exact ⟨u,by rw [Array.getElem?_toList]; exact hu,hrel.mono hk⟩)
 exact this
def Bi (D:Ah)(e:Nat):Option (List T) :=
 match D.zero e with
 | some z=>if z.cells.all plain && Nat.beq z.cells.size (D.size e) && Nat.blt 0 (D.size e) then some (z.cells.toList.map .sc) else none
 | none=>none
omit [Mo] in
theorem EU {e:Nat} {r:List T} (h:Bi D e=some r):∃ z,D.zero e=some z/\z.cells.size=D.size e/\0 < D.size e/\r.length=D.size e/\∀ (j:Nat) (x:T),r[j]? = some x->∃ v,z.cells[j]? = some v/\v.oneCell' = true/\BG w F x v:=by
 unfold Bi at h
 split at h
 · rename_i z hz
   split at h
   · rename_i hb
     simp only [Bool.and_eq_true] at hb
     cases h
     have hs:z.cells.size=D.size e:=Nat.eq_of_beq_eq_true hb.1.2
     refine ⟨z,hz,hs,by simpa using hb.2,by simp [hs],fun j x hj=>?_⟩
     rw [List.getElem?_map] at hj
     obtain ⟨v,hv,rfl⟩:=Option.map_eq_some_iff.1 hj
     have hp:plain v=true:=(Array.all_eq_true_iff_forall_mem.1 hb.1.1) v (by
       have:=List.mem_of_getElem? hv; simpa using this)
     exact ⟨v,by simpa using hv,IB hp,.sc v hp⟩
   · cases h
 · cases h
theorem NS (hg:Good P D) {o:Oper} {st:St} {x y:Operand} {t e d:Nat} {de:TypeDesc} {k:IntKind} {n:Int} {r:List T}
   (ho:o.op=.makeSlice t x y) (hu:D.AW t=some (.slice e)) (he:D.AW e=some de) (hd:st.s d=none) (hx:ev G st.t x=vI k n) (hy:ev G st.t y=vI k n) (hz:Bi D e=some r)
   (h0:0<=n) (WH:n<=9223372036854775807) (hby:D.bytes e * n.toNat<=281474976710656) :
   CD P G o st (.sl .e d) (Ae st.s d (some (some (.ar e (D.size e) (List.replicate n.toNat r))))):=by
 intro B F loc a w hR
 have hS:=hR.s
 obtain ⟨z,hze,hzs,hp,hrl,hrr⟩:=EU (w:=w) (F:=F) hz
 obtain ⟨hu', _⟩:=hg.AW t _ hu
 obtain ⟨_,i,hi,hsz,hbt,hzi⟩:=hg.AW e _ he
 have hvx:=AV hR x
 have hvy:=AV hR y
 rw [hx] at hvx
 rw [hy] at hvy
 have hrun:=run_make (P:=P) w t e i z hu' hi (hzi.trans hze) k k n n h0 (Int.le_refl _) (by rw [hbt]; have:=hby; rw [show n=(n.toNat:Int) from by omega,<- Int.natCast_mul]; omega) (by omega)
 rw [hsz] at hrun
 have hsize:(madeCells z.cells (n.toNat * D.size e)).size=n.toNat * D.size e:=by simp [madeCells]
 have hcell:∀ (i j:Nat),i < n.toNat->j < D.size e->(madeCells z.cells (n.toNat * D.size e))[i * D.size e+j]? = z.cells[j]? := by
   intro i j hi hj
   have hlt:=Dr hi hj
   have hm:=(NV (i:=i) hj).2
   have hj':j < z.cells.size:=by omega
   simp only [madeCells,Array.getElem?_map]
   rw [Array.getElem?_eq_getElem (by simpa using hlt)]
   simp only [Option.map_some,Array.getElem_range,hzs,hm]
   rw [Array.getElem?_eq_getElem hj', getElem!_pos z.cells j hj']
 have hmem:∀ u ∈ (madeCells z.cells (n.toNat * D.size e)).toList,u.oneCell' = true:=by
   intro u hu
   obtain ⟨q,hq⟩:=List.getElem?_of_mem hu
   have hql:=(List.getElem?_eq_some_iff.1 hq).1
   rw [Array.length_toList,hsize] at hql
   have hi':q / D.size e < n.toNat:=(Nat.div_lt_iff_lt_mul hp).2 hql
   have hj':q % D.size e < D.size e:=Nat.mod_lt _ hp
   have:=hcell _ _ hi' hj'
   rw [show q / D.size e * D.size e+q % D.size e=q from by rw [Nat.mul_comm]; exact Nat.div_add_mod q _] at this
   rw [Array.getElem?_toList,this] at hq
   obtain ⟨v,hv,h1,_⟩:=hrr (q % D.size e) _ (List.getElem?_eq_getElem (by omega))
   rw [hv] at hq; cases hq; exact h1
 obtain ⟨hS', hk,hsm⟩:=hS.newRow (e:=e) (sz:=D.size e) (n:=n.toNat) (rows:=List.replicate n.toNat r) (hg.lt e _ he) hd hp (by simp) (fun r' hr'=>by rw [(List.mem_replicate.1 hr').2]; exact hrl) hsize (Nat.le_trans (by omega) LB) hmem
   (fun i r' hi j x hj=>by
     obtain ⟨hil,hir⟩:=List.getElem?_eq_some_iff.1 hi
     simp at hil hir
     subst hir
     have hjl:j < D.size e:=by have:=(List.getElem?_eq_some_iff.1 hj).1; omega
     obtain ⟨v,hv,_,hrel⟩:=hrr j x hj
     exact ⟨v,by rw [hcell i j (by omega) hjl]; exact hv,hrel⟩)
 refine ⟨F,_,_,.slice (some ⟨w.heap.size,0,none⟩) n.toNat n.toNat,_,?_,.inl rfl,hS', hk,hsm,?_⟩
 · have e1:=AP hvx
   have e2:=AP hvy
   simp [execOp,ho,e1,e2,hrun]
 · exact .sl .e d (some w.heap.size) n.toNat n.toNat (D.size e) (AA _ _ _) (fun _=>rfl) (by simp) (by simp)
def HT (D:Ah) (s:AE) (e len:Nat) (parts:List (Nat × V)):Option (List (List T)) :=
 match Bi D e with
 | none=>none
 | some z =>
   match EE s (fun i=>some (i * D.size e,D.size e)) ((List.replicate len (z.map V.t)).flatten) parts with
   | none=>none
   | some cells=>match cells.all (JJ s),Gq cells with
     | true,some ts=>some ((List.range len).map fun i=>(ts.drop (i * D.size e)).take (D.size e))
     | _,_=>none
omit [Mo] in
theorem LF {z:List T} {sz:Nat} (hz:z.length=sz) (hp:0 < sz):∀ (len k:Nat),k < len * sz->((List.replicate len (z.map V.t)).flatten)[k]? = (z[k % sz]?).map .t
 | 0,k,h=>by simp at h
 | len+1,k,h=>by
   rw [List.replicate_succ,List.flatten_cons,List.getElem?_append]
   simp only [List.length_map,hz]
   split
   · rename_i hlt; rw [List.getElem?_map,Nat.mod_eq_of_lt hlt]
   · rename_i hge
     rw [LF hz hp len (k - sz) (by rw [Nat.add_mul] at h; omega)]
     rw [Nat.mod_eq_sub_mod (by omega:k >= sz)]
omit [Mo] in
theorem DY {z:List T}{sz:Nat}(hz:z.length=sz)(len:Nat):((List.replicate len (z.map V.t)).flatten).length=len * sz:=by
 simp [List.length_flatten,List.map_replicate,hz]
omit [Mo] in
theorem HU {place:Nat->Option (Nat × Nat)}:∀ (parts:List (Nat × V)) (cells out:List V),EE s place cells parts=some out->out.length=cells.length
 | [],cells,out,h=>by cases h; rfl
 | (i, v) :: rest,cells,out,h=>by
   unfold EE at h
   split at h
   · cases h
   · rename_i off size hp
     split at h
     · rename_i hb
       simp only [Bool.and_eq_true] at hb
       have h2:(Af v).length=size:=Nat.eq_of_beq_eq_true hb.1.2
       have h3:off+size<=cells.length:=Nat.le_of_ble_eq_true hb.2
       rw [HU rest _ out h]
       simp only [List.length_append,List.length_take,List.length_drop,h2]
       omega
     · cases h
theorem LR (hg:Good P D) {o:Oper} {st:St} {parts:Array (Nat × Operand)} {t e d len:Nat} {de:TypeDesc} {rows:List (List T)}
   (ho:o.op=.buildSlice t len parts) (hu:D.AW t=some (.slice e)) (he:D.AW e=some de) (hd:st.s d=none) (hl:HT D st.s e len (parts.toList.map fun p=>(p.1,ev G st.t p.2))=some rows)
   (hsm:Nat.ble (len * D.size e) 16777216=true):CD P G o st (.sl .e d) (Ae st.s d (some (some (.ar e (D.size e) rows)))):=by
 intro B F loc a w hR
 have hS:=hR.s
 have hsm':len * D.size e<=16777216:=Nat.le_of_ble_eq_true hsm
 unfold HT at hl
 split at hl
 · cases hl
 rename_i zr hz
 obtain ⟨z,hze,hzs,hp,hrl,hrr⟩:=EU (w:=w) (F:=F) hz
 split at hl
 · cases hl
 rename_i cells hf
 split at hl
 · rename_i ts hall hts
   cases hl
   obtain ⟨hu', _⟩:=hg.AW t _ hu
   obtain ⟨_,i,hi,hsz,hbt,hzi⟩:=hg.AW e _ he
   have hbase:CF w F loc ((List.replicate len (zr.map V.t)).flatten) ((Array.range (len * D.size e)).map (z.cells[· % z.cells.size]!)).toList:=by
     refine ⟨by rw [DY hrl]; simp,fun j x hj=>?_⟩
     have hjl:j < len * D.size e:=by have:=(List.getElem?_eq_some_iff.1 hj).1; rw [DY hrl] at this; exact this
     rw [LF hrl hp len j hjl] at hj
     obtain ⟨y,hy,rfl⟩:=Option.map_eq_some_iff.1 hj
     obtain ⟨v,hv,h1,hrel⟩:=hrr _ y hy
     refine ⟨v,?_,.t _ _ hrel⟩
     have hm:j % D.size e < z.cells.size:=by rw [hzs]; exact Nat.mod_lt _ hp
     rw [Array.getElem?_toList,Array.getElem?_map,Array.getElem?_eq_getElem (by simpa using hjl)]
     simp only [Option.map_some,Array.getElem_range,hzs]
     rw [getElem!_pos z.cells _ hm,<- hv,Array.getElem?_eq_getElem hm]
   obtain ⟨vout,hv,hrel⟩:=HK hS (parts.toList.map fun p=>(p.1,ev G st.t p.2)) (parts.map fun (i,x)=>(i,a.eval x)).toList _ _ cells (by simp) (fun j p hj=>by
     rw [List.getElem?_map] at hj
     obtain ⟨q,hq,rfl⟩:=Option.map_eq_some_iff.1 hj
     exact ⟨(q.1,a.eval q.2),by rw [Array.toList_map,List.getElem?_map,hq]; rfl,rfl,AV hR q.2⟩) hbase hf
   have hclen:cells.length=len * D.size e:=by rw [HU _ _ _ hf,DY hrl]
   have hvs:vout.size=len * D.size e:=by have:=hrel.1; simp at this; omega
   have htsm:=Cz hts
   have htl:ts.length=len * D.size e:=by rw [<- hclen,htsm]; simp
   have h1:∀ u ∈ vout.toList,u.oneCell' = true:=by
     intro u hu
     obtain ⟨j,hj⟩:=List.getElem?_of_mem hu
     have hjl:j < cells.length:=by rw [hrel.1]; exact (List.getElem?_eq_some_iff.1 hj).1
     obtain ⟨u', hu', hr'⟩:=hrel.2 j _ (List.getElem?_eq_getElem hjl)
     rw [hj] at hu'; cases hu'
     exact FV hS (List.all_eq_true.1 hall _ (List.getElem_mem hjl)) hr'
   have hrun:(Instr.buildSlice t len (parts.map fun (i,x)=>(i,a.eval x))).run P w=.ok (.slice (some ⟨w.heap.size,0,none⟩) len len) (w.alloc (.cells vout e)):=by
     by_cases h0:len * D.size e=0
     · have hl0:len=0:=by
         rcases Nat.mul_eq_zero.1 h0 with h | h
         · exact h
         · omega
       subst hl0
       simp only [Nat.zero_mul] at *
       have hv0:vout = #[]:=by apply Array.eq_empty_of_size_eq_zero; omega
       subst hv0
       have er:∀ f:Nat->Value,Array.map f (Array.range 0) = #[]:=fun f=>by simp
       have hfill:Instr.fill (fun i=>some (i * D.size e,D.size e)) (#[]:Array Value) (parts.map fun (i,x)=>(i,a.eval x)).toList=some #[]:=by rw [er] at hv; exact hv
       have hsz0:(sizeOf e).run P w=.ok (D.size e) w:=CW hg he
       unfold Instr.buildSlice
       rw [Sem.run_bind,run_underlying hu' w]
       simp only [Result.andThen_ok]
       rw [Sem.run_bind,hsz0]
       simp only [Result.andThen_ok,Nat.zero_mul]
       rw [if_neg (by omega)]
       simp only [if_true]
       rw [Sem.run_bind,Sem.run_pure]
       simp only [Result.andThen_ok]
       have hfill':Instr.fill (fun i=>some (i * D.size e,D.size e)) (Array.map (fun x=>(#[]:Array Value)[x % (#[]:Array Value).size]!) (Array.range 0)) (Array.map (fun x=>match x with | (i,x)=>(i,a.eval x)) parts).toList=some #[]:=by rw [er]; exact hfill
       rw [hfill']
       rfl
     · exact run_buildSlice w t e len _ vout i z hu' hi (hzi.trans hze) (by rw [hsz]; omega) (by rw [hsz]; exact h0) (by rw [hsz]; exact hv)
   obtain ⟨hS', hk,hsm2⟩:=hS.newRow (e:=e) (sz:=D.size e) (n:=len) (rows:=(List.range len).map fun i=>(ts.drop (i * D.size e)).take (D.size e)) (hg.lt e _ he) hd hp (by simp) (fun r hr=>by
     obtain ⟨q,hq,rfl⟩:=List.mem_map.1 hr
     simp at hq
     have:=Dr hq (Nat.sub_lt hp Nat.one_pos)
     rw [List.length_take,List.length_drop,htl]; omega) hvs (Nat.le_trans (by
       have:len * 1<=len * D.size e:=Nat.mul_le_mul_left _ hp
       omega) LB) h1
     (fun i r hi j x hj=>by
       rw [List.getElem?_map] at hi
       obtain ⟨q,hq,rfl⟩:=Option.map_eq_some_iff.1 hi
       obtain ⟨hq1,rfl⟩:=List.getElem?_eq_some_iff.1 hq
       simp at hq1
       simp only [List.getElem_range] at hj
       rw [List.getElem?_take] at hj
       split at hj
       · rename_i hjl
         rw [List.getElem?_drop] at hj
         obtain ⟨u,hu,hr'⟩:=hrel.2 (i * D.size e+j) (.t x) (by rw [htsm,List.getElem?_map,hj]; rfl)
         refine ⟨u,by simpa using hu,?_⟩
         cases hr' with
         | gone _ o _ hx _=>cases hx
         | t _ _ h=>exact h
       · cases hj)
   refine ⟨F,_,_,.slice (some ⟨w.heap.size,0,none⟩) len len,_,?_,.inl rfl,hS', hk,hsm2,?_⟩
   · have:execOp a.eval o=(do pure (.value (<- Instr.buildSlice t len (parts.map fun (i,x)=>(i,a.eval x)))):Sem Next):=by simp only [execOp,ho]
     rw [this,Sem.run_bind,hrun]; rfl
   · exact .sl .e d (some w.heap.size) len len (D.size e) (AA _ _ _) (fun _=>rfl) (by simp) (by simp)
 · cases hl
end Go.Proofs.YtobfoiomjfdjjaaDoor.Mc
namespace Go.Proofs.YtobfoiomjfdjjaaDoor.Mc
open Go.RowKit
variable [Mo]
variable {P:Program}{G:BA}{D:Ah}{B:BB}{w w':World}{F F':Nat->Prop}{loc loc':Nat->Option Loc}{s s':AE}
mutual
def V.AQ (f:Nat->Option Nat):V->V
 | .t x=>.t x
 | .sl nl o=>match f o with | some o'=>.sl nl o' | none=>.dead
 | .sw o off len=>match f o with | some o'=>.sw o' off len | none=>.dead
 | .pt o off=>match f o with | some o'=>.pt o' off | none=>.dead
 | .pe o i off=>match f o with | some o'=>.pe o' i off | none=>.dead
 | .pf cells off=>.pf cells off
 | .mp o=>match f o with | some o'=>.mp o' | none=>.dead
 | .it o=>match f o with | some o'=>.it o' | none=>.dead
 | .sp o=>match f o with | some o'=>.sp o' | none=>.dead
 | .fn g caps=>.fn g (Hn f caps)
 | .ag cs=>.ag (Hn f cs)
 | .tp cs=>.tp (Hn f cs)
 | .BE t x=>.BE t (V.AQ f x)
 | .dead=>.dead
def Hn (f:Nat->Option Nat):List V->List V
 | []=>[]
 | x :: xs=>V.AQ f x :: Hn f xs
end
omit [Mo] in
theorem Cs (f:Nat->Option Nat):∀ (xs:List V),Hn f xs=xs.map (V.AQ f)
 | []=>rfl
 | x :: xs=>by rw [Hn,Cs f xs]; rfl
def O.AQ (f:Nat->Option Nat):O->O
 | .ar e sz rows=>.ar e sz rows
 | .bx e cells=>.bx e (Hn f cells)
 | .mp kd ag es=>.mp kd ag es
 | .mq kd ag es i rest cu=>match f i with | some i'=>.mq kd ag es i' rest cu | none=>.mp kd ag es
 | .si s pos=>.si s pos
 | .mi m=>match f m with | some m'=>.mi m' | none=>.mi m
def IY (f:Nat->Option Nat)(loc loc':Nat->Option Loc):Prop:=∀ n n' l,f n=some n' -> loc n=some l->loc' n' = some l
omit [Mo] in
theorem AF.AQ {f:Nat->Option Nat}(hf:IY f loc loc'){x:V}{v:Value}(h:AF w F loc x v):AF w F loc' (x.AQ f) v:=by
 induction h with
 | t x v h=>exact .t x v h
 | gone x o v hx ho =>
   cases x with
   | sl nl o'=>cases hx; unfold V.AQ; split; exact .gone _ _ _ rfl (hf _ _ _ (by assumption) ho); exact .dead _
   | sw o' off len=>cases hx; unfold V.AQ; split; exact .gone _ _ _ rfl (hf _ _ _ (by assumption) ho); exact .dead _
   | pt o' off=>cases hx; unfold V.AQ; split; exact .gone _ _ _ rfl (hf _ _ _ (by assumption) ho); exact .dead _
   | pe o' i off=>cases hx; unfold V.AQ; split; exact .gone _ _ _ rfl (hf _ _ _ (by assumption) ho); exact .dead _
   | mp o'=>cases hx; unfold V.AQ; split; exact .gone _ _ _ rfl (hf _ _ _ (by assumption) ho); exact .dead _
   | it o'=>cases hx; unfold V.AQ; split; exact .gone _ _ _ rfl (hf _ _ _ (by assumption) ho); exact .dead _
   | sp o'=>cases hx; unfold V.AQ; split; exact .gone _ _ _ rfl (hf _ _ _ (by assumption) ho); exact .dead _
   | _=>cases hx
 | dead v=>exact .dead v
 | sl nl o b n cap sz ho he hn h0=>unfold V.AQ; split; exact .sl _ _ b n cap sz (hf _ _ _ (by assumption) ho) he hn h0; exact .dead _
 | sw o off len b n cap sz a ho hl ha h0 hn=>unfold V.AQ; split; exact .sw _ _ _ b n cap sz a (hf _ _ _ (by assumption) ho) hl ha h0 hn; exact .dead _
 | pt o off b ho=>unfold V.AQ; split; exact .pt _ _ b (hf _ _ _ (by assumption) ho); exact .dead _
 | pe o i off b n cap sz ho hi=>unfold V.AQ; split; exact .pe _ _ _ b n cap sz (hf _ _ _ (by assumption) ho) hi; exact .dead _
 | pf cells off b o0 val hF hc hr=>exact .pf cells off b o0 val hF hc hr
 | mp o b ho=>unfold V.AQ; split; exact .mp _ b (hf _ _ _ (by assumption) ho); exact .dead _
 | it o b ho=>unfold V.AQ; split; exact .it _ b (hf _ _ _ (by assumption) ho); exact .dead _
 | sp o b ho=>unfold V.AQ; split; exact .sp _ b (hf _ _ _ (by assumption) ho); exact .dead _
 | WJ o=>unfold V.AQ; split; exact .WJ _; exact .dead _
 | fn f' xs vs val hl hv _ ih =>
   unfold V.AQ; rw [Cs]
   refine .fn f' _ vs val (by simpa using hl) (fun j hj=>hv j (by simpa using hj)) fun j x hj=>?_
   rw [List.getElem?_map] at hj
   obtain ⟨y,hy,rfl⟩:=Option.map_eq_some_iff.1 hj
   exact ih j y hy
 | ag xs vs val hl hv _ ih =>
   unfold V.AQ; rw [Cs]
   refine .ag _ vs val (by simpa using hl) (fun j hj=>hv j (by simpa using hj)) fun j x hj=>?_
   rw [List.getElem?_map] at hj
   obtain ⟨y,hy,rfl⟩:=Option.map_eq_some_iff.1 hj
   exact ih j y hy
 | tp xs vs val hl hv _ ih =>
   unfold V.AQ; rw [Cs]
   refine .tp _ vs val (by simpa using hl) (fun j hj=>hv j (by simpa using hj)) fun j x hj=>?_
   rw [List.getElem?_map] at hj
   obtain ⟨y,hy,rfl⟩:=Option.map_eq_some_iff.1 hj
   exact ih j y hy
 | BE t x v _ ih=>exact .BE t _ v ih
omit [Mo] in
theorem BZ.AQ {f:Nat->Option Nat}(hf:IY f loc loc'){x:O}{l:Loc}(h:BZ w F loc (some x) l):BZ w F loc' (some (x.AQ f)) l:=by
 cases h with
 | ar e sz rows b cap cells hz hsz hown h1 hr=>exact .ar e sz rows b cap cells hz hsz hown h1 hr
 | ms e xs b en clock vs he hb hs hen hks hr =>
   rw [show (O.bx e xs).AQ f=.bx e (xs.map (V.AQ f)) from by rw [<- Cs]; rfl]
   exact .ms e _ b en clock vs he hb hs hen hks (hr.map fun x v h=>h.AQ hf)
 | bx e xs cs b he hb hl hr =>
   rw [show (O.bx e xs).AQ f=.bx e (xs.map (V.AQ f)) from by rw [<- Cs]; rfl]
   refine .bx e _ cs b he hb (by simpa using hl) fun j x hj=>?_
   rw [List.getElem?_map] at hj
   obtain ⟨y,hy,rfl⟩:=Option.map_eq_some_iff.1 hj
   obtain ⟨v,hv,h1,hrel⟩:=hr j y hy
   exact ⟨v,hv,h1,hrel.AQ hf⟩
 | si str pos b hb=>exact .si str pos b hb
 | mp kd ag es b en clock vs hb hm=>exact .mp kd ag es b en clock vs hb hm
 | mq kd ag es i rest cu b en clock vs vr c since c0 seen hb hm hi hc ho =>
   cases hfi:f i with
   | some i'=>rw [show (O.mq kd ag es i rest cu).AQ f=.mq kd ag es i' rest cu from by simp only [O.AQ,hfi]]; exact .mq kd ag es _ rest cu b en clock vs vr c since c0 seen hb hm (hf _ _ _ hfi hi) hc ho
   | none=>rw [show (O.mq kd ag es i rest cu).AQ f=.mp kd ag es from by simp only [O.AQ,hfi]]; exact .mp kd ag es b en clock vs hb hm
 | Ph kd ag es i rest cu b en clock vs hb hm hi =>
   cases hfi:f i with
   | some i'=>rw [show (O.mq kd ag es i rest cu).AQ f=.mq kd ag es i' rest cu from by simp only [O.AQ,hfi]]; exact .Ph kd ag es _ rest cu b en clock vs hb hm (hf _ _ _ hfi hi)
   | none=>rw [show (O.mq kd ag es i rest cu).AQ f=.mp kd ag es from by simp only [O.AQ,hfi]]; exact .mp kd ag es b en clock vs hb hm
 | mi m b c since c0 seen hb =>
   cases hfi:f m with
   | some m'=>rw [show (O.mi m).AQ f=.mi m' from by simp only [O.AQ,hfi]]; exact .mi _ b c since c0 seen hb
   | none=>rw [show (O.mi m).AQ f=.mi m from by simp only [O.AQ,hfi]]; exact .mi _ b c since c0 seen hb
def DT (loc:Nat->Option Loc)(w:World)(F:Nat->Prop)(hn:∀ o l,loc o=some l->1000000<=o):BB :=
 ⟨loc,w,F,fun b=>∃ o l,loc o=some l/\l.block=some b,hn⟩
def CT (P:Program)(G:BA)(f:FuncId)(vs:List V)(s:AE)(Q:V->AE->Prop):Prop :=
 ∀ (F:Nat->Prop) (loc:Nat->Option Loc) (w:World) (args:List Value) (hn:∀ o l,loc o=some l->1000000<=o),AK G (DT loc w F hn) w F loc s->CF w F loc vs args ->
   Calls P f args.toArray w fun e w'=>∃ v F' loc' r s', e=.returned v/\AK G (DT loc w F hn) w' F' loc' s' /\ AF w' F' loc' r v/\Q r s'
def Tz (D:Ah)(st:St):ResultVar->Option V
 | .tmp t=>some (st.t t)
 | .cell a t=>Fh D st.s t (st.t a)
def Eb (D:Ah)(st:St):List ResultVar->Option (List V)
 | []=>some []
 | r :: rs=>match Tz D st r,Eb D st rs with
   | some x,some xs=>some (x :: xs)
   | _,_=>none
def Su (D:Ah)(st:St)(rs:List ResultVar):Option V :=
 match Eb D st rs with
 | some [x]=>some x
 | some xs=>some (.tp xs)
 | none=>none
omit [Mo] in
theorem Pw {t:TypeId}{a z:Value}(h:(Instr.loadAt t a).run P w=.ok z w):∃ ad,a=.pointer (some ad)/\(loadVar t ad).run P w=.ok z w:=by
 cases a with
 | pointer p =>
   cases p with
   | some ad=>exact ⟨ad,rfl,h⟩
   | none=>cases h
 | _=>cases h
def PW (tmps:Array Value):ResultVar->Sem Value
 | .tmp t=>pure (tmps.getD t undef)
 | .cell a t=>do loadVar t (<- asAddr (tmps.getD a undef))
omit [Mo] in
theorem Qp (fn:Func)(tmps:Array Value):results fn tmps=(do let vs <- fn.results.mapM (PW tmps); pure (if h:vs.size=1 then vs[0] else .tuple vs)):=rfl
theorem Ix (hg:Good P D) {st:St} {tmps:Array Value} (hR:Rel G B F loc st tmps w):∀ (rs:List ResultVar) (xs:List V),Eb D st rs=some xs ->
   ∃ vs:List Value,(rs.mapM (PW tmps)).run P w=.ok vs w/\CF w F loc xs vs
 | [],xs,h=>by cases h; exact ⟨[],rfl,rfl,by simp⟩
 | r :: rs,xs,h=>by
   unfold Eb at h
   split at h
   · rename_i x ys hx hys
     cases h
     obtain ⟨vs,hrun,hrel⟩:=Ix hg hR rs ys hys
     have hone:∃ v,(PW tmps r).run P w=.ok v w/\AF w F loc x v:=by
       cases r with
       | tmp t=>cases hx; exact ⟨_,rfl,hR.t t⟩
       | cell a t =>
         obtain ⟨z,hz,hr⟩:=MB hg hR.s hx (hR.t a)
         obtain ⟨ad,ha,hl⟩:=Pw hz
         refine ⟨z,?_,hr⟩
         simp only [PW,ha,asAddr,Sem.run_bind,Sem.run_pure,Result.andThen_ok,hl]
     obtain ⟨v,hv,hvr⟩:=hone
     refine ⟨v :: vs,?_,?_⟩
     · rw [List.mapM_cons,Sem.run_bind,hv]
       simp only [Result.andThen_ok]
       rw [Sem.run_bind,hrun]
       rfl
     · refine ⟨by simp [hrel.1],fun j y hj=>?_⟩
       cases j with
       | zero=>cases hj; exact ⟨v,rfl,hvr⟩
       | succ j=>simpa using hrel.2 j y (by simpa using hj)
   · cases h
theorem IZ (hg:Good P D) {fn:Func} {st:St} {tmps:Array Value} (hR:Rel G B F loc st tmps w) {r:V} (h:Su D st fn.results.toList=some r) :
   ∃ v,(results fn tmps).run P w=.ok v w/\AF w F loc r v:=by
 unfold Su at h
 have key:∀ xs,Eb D st fn.results.toList=some xs->∃ vs:List Value,(results fn tmps).run P w=.ok (if h:vs.length=1 then vs[0] else .tuple vs.toArray) w/\CF w F loc xs vs:=by
   intro xs hxs
   obtain ⟨vs,hrun,hrel⟩:=Ix hg hR _ xs hxs
   refine ⟨vs,?_,hrel⟩
   rw [Qp,Array.mapM_eq_mapM_toList,Sem.run_bind]
   have:(List.toArray <$> fn.results.toList.mapM (PW tmps)).run P w=.ok vs.toArray w:=by
     rw [map_eq_pure_bind,Sem.run_bind,hrun]; rfl
   rw [this]
   simp only [Result.andThen_ok,Sem.run_pure,List.size_toArray]
   congr 1
 split at h
 · rename_i x hx
   cases h
   obtain ⟨vs,hrun,hl,hr⟩:=key _ hx
   obtain ⟨v,hv,hrel⟩:=hr 0 _ rfl
   have h1:vs.length=1:=hl.symm
   refine ⟨v,?_,hrel⟩
   rw [hrun,dif_pos h1]
   congr 1
   have:=List.getElem?_eq_getElem (l:=vs) (i:=0) (by omega)
   rw [hv] at this; cases this; rfl
 · rename_i xs hne hx
   cases h
   obtain ⟨vs,hrun,hl,hr⟩:=key _ hx
   have h1:¬ vs.length=1:=by
     intro h1
     rw [h1] at hl
     match xs,hl with
     | [x],_=>exact hne x rfl
   refine ⟨_,hrun,?_⟩
   rw [dif_neg h1]
   exact .tp xs vs (fun j=>vs.getD j undef) hl (fun j hj=>by rw [hl] at hj; simp [List.getD,List.getElem?_eq_getElem hj]) (fun j x hj=>by
     obtain ⟨v,hv,hrel⟩:=hr j x hj
     have:vs.getD j undef=v:=by simp [List.getD,hv]
     rw [this]; exact hrel)
 · cases h
def fa (D:Ah)(rs:List ResultVar)(Q:V->AE->Prop):Exit->St->Prop
 | .normal,st=>∃ r,Su D st rs=some r/\Q r st.s
 | .ret,st=>∃ r,Su D st rs=some r/\Q r st.s
 | _,_=>False
def Gc (vs:List V)(s:AE)(n:Nat)(a:List Nat):St:=⟨fun i=>(vs[i]?).getD vU,s,vs.length+(n - vs.length),a⟩
theorem CT.bQ (hg:Good P D) {f:FuncId} {fn:Func} {c:Code} {vs:List V} {Q:V->AE->Prop} {an:List Nat} (hf:P.funcs[f]? = some fn) (hb:fn.body=some c) (han:∀ n x,s n=some x->n ∈ an)
   (h:Tr P G c (Gc vs s fn.ntmps an) (fa D fn.results.toList Q)):CT P G f vs s Q:=by
 intro F loc w args hn hS hA
 refine calls_of_wp hf hb ?_
 have hlen:vs.length=args.length:=hA.1
 have hR:Rel G (DT loc w F hn) F loc (Gc vs s fn.ntmps an) (args.toArray ++ Array.replicate (fn.ntmps - args.toArray.size) undef) w:=by
   refine ⟨hS,fun i=>?_,by simp [Gc,hlen],fun o l ho=>by obtain ⟨x,hx⟩:=hS.Fp o l ho; exact han o x hx⟩
   show AF w F loc ((vs[i]?).getD vU) _
   rw [Array.getD_eq_getD_getElem?,Array.getElem?_append]
   cases hi:vs[i]? with
   | some x =>
     obtain ⟨v,hv,hrel⟩:=hA.2 i x hi
     have:=(List.getElem?_eq_some_iff.1 hv).1
     rw [if_pos (by simpa using this)]
     simp [hv]; exact hrel
   | none =>
     have:vs.length<=i:=List.getElem?_eq_none_iff.1 hi
     rw [if_neg (by simp; omega)]
     have hu:(Array.replicate (fn.ntmps - args.toArray.size) undef)[i - args.toArray.size]?.getD undef=undef:=by
       rw [Array.getElem?_replicate]; split <;> rfl
     rw [hu]
     exact .tp [] [] (fun _=>undef) rfl (fun j hj=>by simp at hj) (fun j x hj=>by simp at hj)
 refine wp_mono (h _ F loc _ w hR rfl) ?_
 rintro e a' w' ⟨h1,F', loc', st', h2,h3⟩
 cases e with
 | normal =>
   obtain ⟨r,hr,hq⟩:=h3
   obtain ⟨v,hv,hrel⟩:=IZ hg h2 hr
   exact ⟨h1,v,hv,v,F', loc', r,st'.s,rfl,h2.s,hrel,hq⟩
 | ret =>
   obtain ⟨r,hr,hq⟩:=h3
   obtain ⟨v,hv,hrel⟩:=IZ hg h2 hr
   exact ⟨h1,v,hv,v,F', loc', r,st'.s,rfl,h2.s,hrel,hq⟩
 | exit id=>exact h3.elim
 | goto l=>exact h3.elim
 | panic ch=>exact h3.elim
 | outgrown=>exact h3.elim
end Go.Proofs.YtobfoiomjfdjjaaDoor.Mc
namespace Go.Proofs.YtobfoiomjfdjjaaDoor.Mc
open Go.RowKit
variable [Mo]
variable {P:Program}{G:BA}{D:Ah}{B:BB}{w w':World}{F F':Nat->Prop}{loc loc':Nat->Option Loc}{s s':AE}
abbrev Ren:=List (Nat × Nat)
def AQ (ρ:Ren)(n:Nat):Option Nat:=(ρ.find? fun p=>Nat.beq p.1 n).map (·.2)
def inv (ρ:Ren)(n:Nat):Option Nat:=(ρ.find? fun p=>Nat.beq p.2 n).map (·.1)
def BW:List Nat->Bool
 | []=>true
 | x :: xs => !(xs.any (Nat.beq x)) && BW xs
def CA (ρ:Ren):Bool:=BW (ρ.map (·.1)) && BW (ρ.map (·.2))
omit [Mo] in
theorem Uf {ρ:Ren}{n:Nat}{p:Nat × Nat}(h:(ρ.find? fun p=>Nat.beq p.1 n)=some p):p ∈ ρ/\p.1=n :=
 ⟨List.mem_of_find?_eq_some h,by have h':=List.find?_some h; exact Nat.eq_of_beq_eq_true h'⟩
omit [Mo] in
theorem Lv {ρ:Ren}{n:Nat}{p:Nat × Nat}(h:(ρ.find? fun p=>Nat.beq p.2 n)=some p):p ∈ ρ/\p.2=n :=
 ⟨List.mem_of_find?_eq_some h,by have h':=List.find?_some h; exact Nat.eq_of_beq_eq_true h'⟩
omit [Mo] in
theorem FO {xs:List Nat}{x:Nat}(h:xs.any (Nat.beq x)=false):∀ y ∈ xs,x ≠ y:=by
 intro y hy e
 subst e
 rw [List.any_eq_false] at h
 exact h _ hy (by simp)
omit [Mo] in
theorem JE:∀ {ρ:Ren} {n n':Nat},BW (ρ.map (·.1))=true->(n,n') ∈ ρ->(ρ.find? fun p=>Nat.beq p.1 n)=some (n,n')
 | [],_,_,_,h=>by cases h
 | p :: ρ,n,n', hd,h=>by
   simp only [List.map_cons,BW,Bool.and_eq_true,Bool.not_eq_true'] at hd
   rcases List.mem_cons.1 h with rfl | h
   · simp
   · have:p.1 ≠ n:=FO hd.1 n (List.mem_map.2 ⟨_,h,rfl⟩)
     have hb:Nat.beq p.1 n=false:=by rw [<- Bool.not_eq_true,Nat.beq_eq]; exact this
     rw [List.find?_cons,hb]
     exact JE hd.2 h
omit [Mo] in
theorem Cw:∀ {ρ:Ren} {n n':Nat},BW (ρ.map (·.2))=true->(n,n') ∈ ρ->(ρ.find? fun p=>Nat.beq p.2 n')=some (n,n')
 | [],_,_,_,h=>by cases h
 | p :: ρ,n,n', hd,h=>by
   simp only [List.map_cons,BW,Bool.and_eq_true,Bool.not_eq_true'] at hd
   rcases List.mem_cons.1 h with rfl | h
   · simp
   · have:p.2 ≠ n':=FO hd.1 n' (List.mem_map.2 ⟨_,h,rfl⟩)
     have hb:Nat.beq p.2 n' = false:=by rw [<- Bool.not_eq_true,Nat.beq_eq]; exact this
     rw [List.find?_cons,hb]
     exact Cw hd.2 h
omit [Mo] in
theorem Bd {ρ:Ren}(h:CA ρ=true){n n':Nat}:AQ ρ n=some n' ↔ (n,n') ∈ ρ:=by
 simp only [CA,Bool.and_eq_true] at h
 constructor
 · intro e
   obtain ⟨p,hp,rfl⟩:=Option.map_eq_some_iff.1 e
   obtain ⟨h1,rfl⟩:=Uf hp
   exact h1
 · intro e; simp [AQ,JE h.1 e]
omit [Mo] in
theorem Bn {ρ:Ren}(h:CA ρ=true){n n':Nat}:inv ρ n' = some n ↔ (n,n') ∈ ρ:=by
 simp only [CA,Bool.and_eq_true] at h
 constructor
 · intro e
   obtain ⟨p,hp,rfl⟩:=Option.map_eq_some_iff.1 e
   obtain ⟨h1,rfl⟩:=Lv hp
   exact h1
 · intro e; simp [inv,Cw h.2 e]
def LH (L:List (Nat × O)):AE:=fun n=>(L.find? fun p=>Nat.beq p.1 n).map fun p=>some p.2
def Sa:O->Bool | .mi _=>true | _=>false
def Fi (ρ0:Ren)(s:AE):Ren->Option (List (Nat × O))
 | []=>some []
 | (n,n') :: ρ=>match get s n', Fi ρ0 s ρ with
   | some x,some L=>cond (Sa x) none (some ((n,O.AQ (inv ρ0) x) :: L))
   | _,_=>none
omit [Mo] in
theorem KH {ρ0:Ren}:∀ {ρ:Ren} {L:List (Nat × O)},Fi ρ0 s ρ=some L->∀ n,(L.find? fun p=>Nat.beq p.1 n)=match (ρ.find? fun p=>Nat.beq p.1 n) with
     | some p=>(get s p.2).map fun x=>(p.1,O.AQ (inv ρ0) x)
     | none=>none
 | [],L,h,n=>by cases h; rfl
 | (m,m') :: ρ,L,h,n=>by
   unfold Fi at h
   split at h
   · rename_i x L' hx hL
     cases hmi:Sa x with
     | true=>rw [hmi] at h; cases h
     | false =>
     rw [hmi] at h
     cases h
     simp only [List.find?_cons]
     cases hb:Nat.beq m n with
     | true=>simp [hx]
     | false=>exact KH hL n
   · cases h
omit [Mo] in
theorem Fc {ρ0:Ren}:∀ {ρ:Ren} {L:List (Nat × O)},Fi ρ0 s ρ=some L->∀ p ∈ ρ,∃ x,get s p.2=some x/\Sa x=false
 | [],_,_,p,hp=>by cases hp
 | (m, m') :: ρ,L,h,p,hp=>by
   unfold Fi at h
   split at h
   · rename_i x L' hx hL
     rcases List.mem_cons.1 hp with rfl | hp
     · refine ⟨x,hx,?_⟩
       cases hmi:Sa x with
       | true=>rw [hmi] at h; cases h
       | false=>rfl
     · exact Fc hL p hp
   · cases h
def FF (ρ:Ren)(loc:Nat->Option Loc):Nat->Option Loc:=fun n=>(AQ ρ n).bind loc
omit [Mo] in
theorem CI {ρ:Ren}(h:CA ρ=true){n:Nat}{l:Loc}:FF ρ loc n=some l ↔ ∃ n', (n,n') ∈ ρ/\loc n' = some l:=by
 unfold FF
 constructor
 · intro e
   obtain ⟨n', h1,h2⟩:=Option.bind_eq_some_iff.1 e
   exact ⟨n', (Bd h).1 h1,h2⟩
 · rintro ⟨n', h1,h2⟩
   rw [(Bd h).2 h1]; exact h2
theorem AK.hand (hS:AK G B w F loc s) {ρ:Ren} {L:List (Nat × O)} (hρ:CA ρ=true) (hL:Fi ρ s ρ=some L) (hn:∀ o l,FF ρ loc o=some l->1000000<=o) :
   AK G (DT (FF ρ loc) w F hn) w F (FF ρ loc) (LH L)/\IY (inv ρ) loc (FF ρ loc):=by
 have hal:IY (inv ρ) loc (FF ρ loc):=by
   intro n' n l h1 h2
   rw [CI hρ]
   exact ⟨n', (Bn hρ).1 h1,h2⟩
 have hsto:∀ n,LH L n=((AQ ρ n).bind (get s)).map fun x=>some (O.AQ (inv ρ) x):=by
   intro n
   unfold LH AQ
   rw [KH hL n]
   cases hf:ρ.find? fun p=>Nat.beq p.1 n with
   | none=>rfl
   | some p =>
     simp only [Option.map_some,Option.bind_some]
     cases get s p.2 <;> rfl
 refine ⟨⟨?_,?_,?_,?_,?_,fun _ h=>h,rfl,rfl,rfl,Nat.le_refl _,fun _ _ _=>rfl,fun _ _ h=>.inl h,hS.FE,fun _=>Nat.le_refl _⟩,hal⟩
 · intro o obj ho
   rw [hsto] at ho
   obtain ⟨x,hx,rfl⟩:=Option.map_eq_some_iff.1 ho
   obtain ⟨n', h1,h2⟩:=Option.bind_eq_some_iff.1 hx
   obtain ⟨l,hl,hr⟩:=hS.Cg n' _ (get_some h2)
   exact ⟨l,(CI hρ).2 ⟨n', (Bd hρ).1 h1,hl⟩,hr.AQ hal⟩
 · intro o l hl
   obtain ⟨n', h1,h2⟩:=(CI hρ).1 hl
   obtain ⟨x,hx,_⟩:=Fc hL _ h1
   exact ⟨_,by rw [hsto,(Bd hρ).2 h1,Option.bind_some,hx]; rfl⟩
 · intro o o' l l' b h1 h2 h3 h4
   obtain ⟨n,a1,a2⟩:=(CI hρ).1 h1
   obtain ⟨n', a3,a4⟩:=(CI hρ).1 h2
   have:=hS.inj n n' l l' b a2 a4 h3 h4
   subst this
   have e1:=(Bn hρ).2 a1
   have e2:=(Bn hρ).2 a3
   rw [e1] at e2; cases e2; rfl
 · intro o l b h1 h2
   obtain ⟨n', a1,a2⟩:=(CI hρ).1 h1
   have:=hS.own n' l b a2 h2
   exact ⟨this.1,this.2.1,.inl ⟨o,l,h1,h2⟩⟩
 · intro b hb
   exact ⟨(hS.BF b hb).1,.inl hb⟩
def Iv (ρ:Ren)(s' s:AE):AE:=fun n=>match inv ρ n with | some m=>(s' m).map (·.map (O.AQ (AQ ρ))) | none=>s n
def BI (ρ:Ren)(loc' loc:Nat->Option Loc):Nat->Option Loc:=fun n=>match inv ρ n with | some m=>loc' m | none=>loc n
theorem AK.back (hS:AK G B w F loc s) {ρ σ:Ren} (hρ:CA ρ=true) (hρσ:CA (ρ ++ σ)=true) (hn:∀ o l,FF ρ loc o=some l->1000000<=o) (hmi:∀ p ∈ ρ,∃ x,get s p.2=some x/\Sa x=false) (hfresh:∀ p ∈ σ,s p.2=none)
   (hS':AK G (DT (FF ρ loc) w F hn) w' F' loc' s') :
   AK G B w' F' (BI (ρ ++ σ) loc' loc) (Iv (ρ ++ σ) s' s)/\Kept w F w' F' /\ Ak loc (BI (ρ ++ σ) loc' loc)/\IY (AQ (ρ ++ σ)) loc' (BI (ρ ++ σ) loc' loc):=by
 have hX:∀ b,(DT (FF ρ loc) w F hn).X0 b->∃ n n' l,(n,n') ∈ ρ/\loc n' = some l/\l.block=some b:=by
   rintro b ⟨o,l,h1,h2⟩
   obtain ⟨n', a1,a2⟩:=(CI hρ).1 h1
   exact ⟨o,n', l,a1,a2,h2⟩
 have hk:Kept w F w' F':=fun b hb=>⟨hS'.RF b hb,hS'.keep b (hS.BF b hb).1 fun hx=>by
   obtain ⟨n,n', l,_,h2,h3⟩:=hX b hx
   exact (hS.own n' l b h2 h3).2.1 hb⟩
 have hinv:∀ n n', (n,n') ∈ ρ ++ σ->inv (ρ ++ σ) n' = some n:=fun n n' h=>(Bn hρσ).2 h
 have hbl:∀ n n', (n,n') ∈ ρ ++ σ->BI (ρ ++ σ) loc' loc n' = loc' n:=fun n n' h=>by unfold BI; rw [hinv n n' h]
 have hal:IY (AQ (ρ ++ σ)) loc' (BI (ρ ++ σ) loc' loc):=fun n n' l h1 h2=>by rw [hbl n n' ((Bd hρσ).1 h1)]; exact h2
 have hsm:Ak loc (BI (ρ ++ σ) loc' loc):=by
   intro n' l hl'
   cases hi:inv (ρ ++ σ) n' with
   | none=>left; unfold BI; rw [hi]; exact hl'
   | some n =>
     have hm:=(Bn hρσ).1 hi
     rw [hbl n n' hm]
     rcases List.mem_append.1 hm with h | h
     · exact hS'.QB n l ((CI hρ).2 ⟨n', h,hl'⟩)
     · have:=Cc hS (hfresh _ h); rw [this] at hl'; cases hl'
 have hout:∀ n', inv (ρ ++ σ) n' = none->∀ n,(n,n') ∉ ρ:=fun n' hi n h=>by
   rw [hinv n n' (List.mem_append.2 (.inl h))] at hi; cases hi
 have hoth:∀ n' l b,inv (ρ ++ σ) n' = none->loc n' = some l->l.block=some b->¬ (DT (FF ρ loc) w F hn).X0 b:=by
   intro n' l b hi h1 h2 hx
   obtain ⟨n,m,l', a1,a2,a3⟩:=hX b hx
   have:=hS.inj n' m l l' b h1 a2 h2 a3
   subst this
   exact hout _ hi n a1
 refine ⟨⟨?_,?_,?_,?_,?_,fun b hb=>hS'.RF b (hS.RF b hb),hS'.os.trans hS.os,hS'.tape.trans hS.tape,hS'.output.trans hS.output,Nat.le_trans hS.size hS'.size,?_,?_,hS'.FE,fun h=>Nat.le_trans (hS.Pv h) (hS'.Pv h)⟩,hk,hsm,hal⟩
 · intro n' obj ho
   unfold Iv at ho
   cases hi:inv (ρ ++ σ) n' with
   | none =>
     rw [hi] at ho
     obtain ⟨l,hl,hr⟩:=hS.Cg n' obj ho
     refine ⟨l,by unfold BI; rw [hi]; exact hl,hr.mono hk hsm (fun b hb=>hS'.keep b (hS.own n' l b hl hb).1 (hoth n' l b hi hl hb)) fun c x y z u ⟨j,hj⟩ hc=>hS'.keep c (hS.own j _ c hj rfl).1 ?_⟩
     intro hx
     obtain ⟨n2,n3,l3,a1,a2,a3⟩:=hX c hx
     obtain ⟨m,hm⟩:=hS.NF a2 a3 hc
     obtain ⟨q,hq,hqm⟩:=hmi _ a1
     rw [get_some hq] at hm
     cases hm
     cases hqm
   | some n =>
     rw [hi] at ho
     obtain ⟨ob,h1,rfl⟩:=Option.map_eq_some_iff.1 ho
     obtain ⟨l,hl,hr⟩:=hS'.Cg n ob h1
     refine ⟨l,by unfold BI; rw [hi]; exact hl,?_⟩
     cases ob with
     | none=>cases hr; exact .gone
     | some x=>exact hr.AQ hal
 · intro n' l hl'
   unfold Iv
   cases hi:inv (ρ ++ σ) n' with
   | none=>unfold BI at hl'; rw [hi] at hl'; exact hS.Fp n' l hl'
   | some n =>
     unfold BI at hl'; rw [hi] at hl'
     obtain ⟨ob,ho⟩:=hS'.Fp n l hl'
     exact ⟨ob.map (O.AQ (AQ (ρ ++ σ))),by simp [ho]⟩
 · intro o o' l l' b h1 h2 h3 h4
   cases hi:inv (ρ ++ σ) o with
   | none =>
     unfold BI at h1; rw [hi] at h1
     cases hi':inv (ρ ++ σ) o' with
     | none=>unfold BI at h2; rw [hi'] at h2; exact hS.inj o o' l l' b h1 h2 h3 h4
     | some n =>
       unfold BI at h2; rw [hi'] at h2
       rcases (hS'.own n l' b h2 h4).2.2 with hx | hx
       · exact (hoth o l b hi h1 h3 hx).elim
       · have:=(hS.own o l b h1 h3).1
         have:w.heap.size<=b:=hx
         omega
   | some n =>
     unfold BI at h1; rw [hi] at h1
     cases hi':inv (ρ ++ σ) o' with
     | none =>
       unfold BI at h2; rw [hi'] at h2
       rcases (hS'.own n l b h1 h3).2.2 with hx | hx
       · exact (hoth o' l' b hi' h2 h4 hx).elim
       · have:=(hS.own o' l' b h2 h4).1
         have:w.heap.size<=b:=hx
         omega
     | some n' =>
       unfold BI at h2; rw [hi'] at h2
       have:=hS'.inj n n' l l' b h1 h2 h3 h4
       subst this
       have e1:=(Bd hρσ).2 ((Bn hρσ).1 hi)
       have e2:=(Bd hρσ).2 ((Bn hρσ).1 hi')
       rw [e1] at e2; cases e2; rfl
 · intro o l b h1 h2
   cases hi:inv (ρ ++ σ) o with
   | none =>
     unfold BI at h1; rw [hi] at h1
     have:=hS.own o l b h1 h2
     refine ⟨Nat.lt_of_lt_of_le this.1 hS'.size,fun hF=>?_,this.2.2⟩
     rcases (hS'.BF b hF).2 with h | h | h
     · exact this.2.1 h
     · exact hoth o l b hi h1 h2 h
     · have:w.heap.size<=b:=h
       omega
   | some n =>
     unfold BI at h1; rw [hi] at h1
     have:=hS'.own n l b h1 h2
     refine ⟨this.1,this.2.1,?_⟩
     rcases this.2.2 with h | h
     · obtain ⟨_,n', l', _,a2,a3⟩:=hX b h
       exact (hS.own n' l' b a2 a3).2.2
     · exact .inr (Nat.le_trans hS.size h)
 · intro b hF
   have:=hS'.BF b hF
   refine ⟨this.1,?_⟩
   rcases this.2 with h | h | h
   · exact (hS.BF b h).2
   · obtain ⟨_,n', l', _,a2,a3⟩:=hX b h
     rcases (hS.own n' l' b a2 a3).2.2 with h | h
     · exact .inr (.inl h)
     · exact .inr (.inr h)
   · exact .inr (.inr (Nat.le_trans hS.size h))
 · intro b hb hx
   rw [hS'.keep b (Nat.lt_of_lt_of_le hb hS.size) ?_]
   · exact hS.keep b hb hx
   · intro h
     obtain ⟨_,n', l', _,a2,a3⟩:=hX b h
     rcases (hS.own n' l' b a2 a3).2.2 with h | h
     · exact hx h
     · omega
 · intro o l ho
   rcases hS.QB o l ho with h | h
   · exact hsm o l h
   · exact .inr ((hsm o _ h).elim id id)
def WS:V->Option (FuncId × List V)
 | .t (.sc (.func (.func f) _ _))=>some (f,[])
 | .fn f caps=>some (f,caps)
 | _=>none
omit [Mo] in
theorem Sj {x:V} {v:Value} {f:FuncId} {caps:List V} (h:WS x=some (f,caps)) (hx:AF w F loc x v):∃ vs:List Value,v=.func (.func f) #[] vs.toArray/\CF w F loc caps vs:=by
 unfold WS at h
 split at h
 · rename_i g a b
   cases h
   cases hx with
   | gone _ o _ hx _=>cases hx
   | t _ _ hx =>
     cases hx with
     | sc _ hp =>
       simp [plain] at hp
       obtain ⟨rfl,rfl⟩:=hp
       exact ⟨[],rfl,rfl,by simp⟩
 · cases h
   cases hx with
   | gone _ o _ hx _=>cases hx
   | fn _ _ vs val hl hv hr=>exact ⟨vs,rfl,.Uu hl hv hr⟩
 · cases h
omit [Mo] in
theorem enters {f:FuncId}{fn:Func}(hf:P.funcs[f]? = some fn)(Ir:(fn.name == "runtime.NumGoroutine")=false)(hb:fn.body.isSome=true)(args:Array Value)(w:World):(callFunc f args).run P w=.ok (.enter f args) w:=by
 have h1:fn.name ≠ "runtime.NumGoroutine" := by simpa using Ir
 obtain ⟨c,hc⟩:=Option.isSome_iff_exists.1 hb
 simp [callFunc,hf,h1,hc]
end Go.Proofs.YtobfoiomjfdjjaaDoor.Mc
namespace Go.Proofs.YtobfoiomjfdjjaaDoor.Mc
open Go.RowKit
variable [Mo]
variable {P:Program}{G:BA}{D:Ah}{B:BB}{w w':World}{F F':Nat->Prop}{loc loc':Nat->Option Loc}{s s':AE}
theorem Conv.refl (st:St):Conv G st st:=fun _ F loc _ _ h=>⟨F,loc,h⟩
theorem Conv.trans {a b c:St}(h:Conv G a b)(k:Conv G b c):Conv G a c:=fun B F loc tmps w hR=>by
 obtain ⟨F', loc', h1⟩:=h B F loc tmps w hR
 exact k B F' loc' tmps w h1
def Ye:Nat->V:=fun _=>.dead
def UG:AE:=fun _=>none
def Co (f:V->V)(t:Nat->V):List Nat->Nat->V
 | []=>Ye
 | i :: is=>Ae (Co f t is) i (f (t i))
omit [Mo] in
theorem KO (f:V->V)(t:Nat->V):∀ (is:List Nat) (i:Nat),Co f t is i=f (t i)\/Co f t is i=.dead
 | [],i=>.inr rfl
 | j :: is,i=>by
   by_cases h:i=j
   · subst h; left; exact AA _ _ _
   · rw [Co,AJ _ _ h]; exact KO f t is i
def KA (ρ0:Ren)(s:AE):Ren->AE
 | []=>UG
 | (n,n') :: ρ=>Ae (KA ρ0 s ρ) n' ((s n).map (·.map (O.AQ (AQ ρ0))))
omit [Mo] in
theorem GD {ρ0:Ren}:∀ {ρ:Ren},BW (ρ.map (·.2))=true->∀ n', KA ρ0 s ρ n' = match (ρ.find? fun p=>Nat.beq p.2 n') with | some p=>(s p.1).map (·.map (O.AQ (AQ ρ0))) | none=>none
 | [],_,n'=>rfl
 | (m,m') :: ρ,hd,n'=>by
   simp only [List.map_cons,BW,Bool.and_eq_true,Bool.not_eq_true'] at hd
   rw [KA,List.find?_cons]
   by_cases h:n' = m'
   · subst h; rw [AA]; simp
   · have hb:Nat.beq m' n' = false:=by rw [<- Bool.not_eq_true,Nat.beq_eq]; exact fun e=>h e.symm
     rw [AJ _ _ h,hb]
     exact GD hd.2 n'
def norm (keep:List Nat)(ρ:Ren)(st:St):Option St :=
 if CA ρ && st.a.all (fun o=>(AQ ρ o == some o)) && ρ.all (fun p=>Nat.beq p.1 p.2 || Nat.blt p.2 1000000) then
   some ⟨Co (V.AQ (AQ ρ)) st.t keep,KA ρ st.s ρ,st.n,st.a⟩
 else none
theorem Conv.norm {keep:List Nat} {ρ:Ren} {st st':St} (h:Mc.norm keep ρ st=some st'):Conv G st st':=by
 unfold Mc.norm at h
 by_cases hc:(CA ρ && st.a.all (fun o=>(AQ ρ o == some o)) && ρ.all (fun p=>Nat.beq p.1 p.2 || Nat.blt p.2 1000000))=true
 case neg=>rw [if_neg hc] at h; cases h
 rw [if_pos hc] at h
 cases h
 simp only [Bool.and_eq_true] at hc
 obtain ⟨⟨hρ,ha⟩,_⟩:=hc
 have hd2:BW (ρ.map (·.2))=true:=by simp only [CA,Bool.and_eq_true] at hρ; exact hρ.2
 intro B F loc tmps w hR
 have hS:=hR.s
 let loc2:Nat->Option Loc:=fun n'=>(inv ρ n').bind loc
 have hl2:∀ n' l,loc2 n' = some l ↔ ∃ n,(n,n') ∈ ρ/\loc n=some l:=by
   intro n' l
   constructor
   · intro e
     obtain ⟨n,h1,h2⟩:=Option.bind_eq_some_iff.1 e
     exact ⟨n,(Bn hρ).1 h1,h2⟩
   · rintro ⟨n,h1,h2⟩
     show (inv ρ n').bind loc=_
     rw [(Bn hρ).2 h1]; exact h2
 have hal:IY (AQ ρ) loc loc2:=fun n n' l h1 h2=>(hl2 n' l).2 ⟨n,(Bd hρ).1 h1,h2⟩
 have hs2:∀ n', KA ρ st.s ρ n' = (inv ρ n').bind fun n=>(st.s n).map (·.map (O.AQ (AQ ρ))):=by
   intro n'
   rw [GD hd2]
   unfold inv
   cases ρ.find? fun p=>Nat.beq p.2 n' <;> rfl
 refine ⟨F,loc2,⟨⟨?_,?_,?_,?_,hS.BF,hS.RF,hS.os,hS.tape,hS.output,hS.size,hS.keep,?_,hS.FE,hS.Pv⟩,fun i=>?_,hR.n,hR.a⟩⟩
 · intro n' obj ho
   replace ho:KA ρ st.s ρ n' = some obj:=ho
   rw [hs2] at ho
   obtain ⟨n,h1,h2⟩:=Option.bind_eq_some_iff.1 ho
   obtain ⟨ob,h3,rfl⟩:=Option.map_eq_some_iff.1 h2
   obtain ⟨l,hl,hr⟩:=hS.Cg n ob h3
   refine ⟨l,(hl2 n' l).2 ⟨n,(Bn hρ).1 h1,hl⟩,?_⟩
   cases ob with
   | none=>cases hr; exact .gone
   | some x=>exact hr.AQ hal
 · intro n' l hl
   obtain ⟨n,h1,h2⟩:=(hl2 n' l).1 hl
   obtain ⟨ob,ho⟩:=hS.Fp n l h2
   exact ⟨ob.map (O.AQ (AQ ρ)),by show KA ρ st.s ρ n' = _; rw [hs2,(Bn hρ).2 h1,Option.bind_some,ho]; rfl⟩
 · intro o o' l l' b h1 h2 h3 h4
   obtain ⟨n,a1,a2⟩:=(hl2 o l).1 h1
   obtain ⟨n', a3,a4⟩:=(hl2 o' l').1 h2
   have:=hS.inj n n' l l' b a2 a4 h3 h4
   subst this
   have e1:=(Bd hρ).2 a1
   have e2:=(Bd hρ).2 a3
   rw [e1] at e2; cases e2; rfl
 · intro o l b h1 h2
   obtain ⟨n,_,a2⟩:=(hl2 o l).1 h1
   exact hS.own n l b a2 h2
 · intro o l ho
   have hm:=hR.a o l ho
   have hr:AQ ρ o=some o:=by simpa using List.all_eq_true.1 ha o hm
   rcases hS.QB o l ho with h | h
   · exact .inl ((hl2 o l).2 ⟨o,(Bd hρ).1 hr,h⟩)
   · exact .inr ((hl2 o _).2 ⟨o,(Bd hρ).1 hr,h⟩)
 · rcases KO (V.AQ (AQ ρ)) st.t keep i with h | h
   · show AF w F loc2 (Co (V.AQ (AQ ρ)) st.t keep i) _
     rw [h]; exact (hR.t i).AQ hal
   · show AF w F loc2 (Co (V.AQ (AQ ρ)) st.t keep i) _
     rw [h]; exact .dead _
theorem AK.UR (hS:AK G B w F loc s){d e sz:Nat}(hd:s d=none)(hz:0 < sz) :
   AK G B w F (Ae loc d (some (.arr none 0 0 sz))) (Ae s d (some (some (.ar e sz []))))/\Ak loc (Ae loc d (some (.arr none 0 0 sz))):=by
 have:=hS.replace (w':=w) (oo:=none) (row:=none) (d:=d) (x:=.ar e sz []) (l:=.arr none 0 0 sz) hd (by simp) (by simp) ⟨rfl,rfl,rfl,Nat.le_refl _,fun _ _ _=>rfl⟩ (by simp) (by simp [Loc.block]) (fun loc' _ _ =>
   .ar e sz [] none 0 [] hz (by simp) (MN w e sz) (by simp) (by simp))
 exact ⟨this.1,this.2.2⟩
omit [Mo] in
theorem Jw {d sz:Nat}{v:Value}(hl:loc d=some (.arr none 0 0 sz))(h:v=.slice none 0 0):AF w F loc (.sl .n d) v:=by
 subst h
 exact .sl .n d none 0 0 sz hl (by simp) (by simp) (by simp)
theorem Conv.Wf {st:St} {i d e sz:Nat} (hi:st.t i=.t (.sc (.slice none 0 0))) (hd:st.s d=none) (hz:Nat.blt 0 sz=true):Conv G st ⟨Ae st.t i (.sl .n d),Ae st.s d (some (some (.ar e sz []))),st.n,st.a⟩ :=
 fun _ F loc _ w hR=>by
   obtain ⟨h1,h2⟩:=hR.s.UR (e:=e) hd (by simpa using hz)
   refine ⟨F,_,h1,fun j=>?_,hR.n,hR.a⟩
   by_cases hj:j=i
   · subst hj
     show AF w F _ (Ae st.t j (.sl .n d) j) _
     rw [AA]
     have:=hR.t j
     rw [hi] at this
     exact Jw (AA _ _ _) (AP this)
   · show AF w F _ (Ae st.t i (.sl .n d) j) _
     rw [AJ _ _ hj]; exact (hR.t j).mono (Kept.refl _ _) h2
end Go.Proofs.YtobfoiomjfdjjaaDoor.Mc
namespace Go.Proofs.YtobfoiomjfdjjaaDoor.Mc
open Go.RowKit
variable [Mo]
variable {P:Program}{G:BA}{D:Ah}{B:BB}{w w':World}{F F':Nat->Prop}{loc loc':Nat->Option Loc}{s s':AE}
mutual
def V.BF (o:Nat)(rows:List (List T)):V->V
 | .t x=>.t x
 | .sl nl o'=>if Nat.beq o' o then .t (.fz nl rows) else .sl nl o'
 | .sw o' off len=>if Nat.beq o' o then .t (.fz .u ((rows.drop off).take len)) else .sw o' off len
 | .pt o' off=>.pt o' off
 | .pe o' i off=>if Nat.beq o' o then .dead else .pe o' i off
 | .pf cells off=>.pf cells off
 | .mp o'=>.mp o'
 | .it o'=>.it o'
 | .sp o'=>.sp o'
 | .fn g caps=>.fn g (NW o rows caps)
 | .ag cs=>.ag (NW o rows cs)
 | .tp cs=>.tp (NW o rows cs)
 | .BE t x=>.BE t (V.BF o rows x)
 | .dead=>.dead
def NW (o:Nat)(rows:List (List T)):List V->List V
 | []=>[]
 | x :: xs=>V.BF o rows x :: NW o rows xs
end
omit [Mo] in
theorem EC (o:Nat)(rows:List (List T)):∀ (xs:List V),NW o rows xs=xs.map (V.BF o rows)
 | []=>rfl
 | x :: xs=>by rw [NW,EC o rows xs]; rfl
def O.BF (o:Nat)(rows:List (List T)):O->O
 | .bx e cells=>.bx e (NW o rows cells)
 | x=>x
omit [Mo] in
theorem Ho {e:TypeId} {sz cap:Nat} {b:Option Nat} {rows:List (List T)} {cells:List Value} {nl:Nl} (hz:0 < sz) (hsz:∀ r ∈ rows,r.length=sz)
   (hown:World.DG w e sz (.slice (b.map fun b=>⟨b,0,none⟩) rows.length cap) rows.length cells) (h1:∀ u ∈ cells,u.oneCell' = true)
   (hr:∀ (i:Nat) (r:List T),rows[i]? = some r->∀ (j:Nat) (x:T),r[j]? = some x->∃ v,cells[i * sz+j]? = some v/\BG w F x v) (hF:∀ g,b=some g->F g)
   (he:nl=.e->b.isSome=true) (hn:nl=.n->b.isSome=true->0 < rows.length) (h0:b=none->rows.length=0/\cap=0):BG w F (.fz nl rows) (.slice (b.map fun b=>⟨b,0,none⟩) rows.length cap):=by
 by_cases hne:rows=[]
 · subst hne
   cases b with
   | none =>
     obtain ⟨_,rfl⟩:=h0 rfl
     exact .nil nl (fun e=>by have:=he e; cases this)
   | some g=>exact .mt nl _ cap (fun e=>by have:=hn e rfl; simp at this)
 · have hp:0 < rows.length:=List.length_pos_iff.2 hne
   obtain ⟨g,rfl⟩:=Dx hown hp
   refine .fz nl rows sz g 0 cap (fun i j=>cells.getD (i * sz+j) undef) (hF g rfl) hne hz hsz (Hz hown) (fun i r hi j hj=>?_) (fun i r hi j hj=>?_) (fun i r hi j x hj=>?_)
   · have hrl:=BX hsz hi
     obtain ⟨v,hv,_⟩:=hr i r hi j _ (List.getElem?_eq_getElem (by omega))
     rw [Nat.zero_add,El hown rfl hv]; simp [List.getD,hv]
   · have hrl:=BX hsz hi
     obtain ⟨v,hv,_⟩:=hr i r hi j _ (List.getElem?_eq_getElem (by omega))
     have:cells.getD (i * sz+j) undef=v:=by simp [List.getD,hv]
     show (cells.getD (i * sz+j) undef).oneCell' = true
     rw [this]; exact h1 v (List.mem_of_getElem? hv)
   · obtain ⟨v,hv,hrel⟩:=hr i r hi j x hj
     have:cells.getD (i * sz+j) undef=v:=by simp [List.getD,hv]
     show BG w F x (cells.getD (i * sz+j) undef)
     rw [this]; exact hrel
omit [Mo] in
theorem ZQ {nl:Nl} {rows:List (List T)} {g c sz off len:Nat} (h:BG w F (.fz nl rows) (.slice (some ⟨g,0,none⟩) rows.length c)) (hsz:∀ r ∈ rows,r.length=sz) (hl:off+len<=rows.length) (hlen:0 < len) (c':Nat) (hc':len<=c') :
   BG w F (.fz .u ((rows.drop off).take len)) (.slice (some ⟨g,off * sz,none⟩) len c'):=by
 have hlr:((rows.drop off).take len).length=len:=by rw [List.length_take,List.length_drop]; omega
 have hne:rows ≠ []:=by rintro rfl; simp at hl; omega
 have hidx:∀ (i:Nat) (r:List T),((rows.drop off).take len)[i]? = some r->rows[off+i]? = some r:=by
   intro i r hi
   rw [List.getElem?_take] at hi
   split at hi
   · rwa [List.getElem?_drop] at hi
   · cases hi
 generalize hv:Value.slice (some ⟨g,0,none⟩) rows.length c=v at h
 cases h with
 | nil=>exact absurd rfl hne
 | mt=>exact absurd rfl hne
 | fz _ _ sz' b off' cap val hF hn hz hsz' hcap hc h1 hr =>
   injection hv with hv _ _
   injection hv with hv
   injection hv with hv1 hv2 _
   subst hv1 hv2
   obtain ⟨r0,hr0⟩:=List.exists_mem_of_ne_nil rows hne
   have:sz' = sz:=(hsz' r0 hr0).symm.trans (hsz r0 hr0)
   subst this
   have:=BG.fz (w:=w) (F:=F) .u ((rows.drop off).take len) sz' g (off * sz') c' (fun i j=>val (off+i) j) hF (fun e=>by rw [e] at hlr; simp at hlr; omega) hz (fun r hr=>hsz r (List.mem_of_mem_drop (List.mem_of_mem_take hr))) (by omega)
     (fun i r hi j hj=>by have:=hc _ r (hidx i r hi) j hj; rw [<- this,Nat.add_mul]; congr 2; omega) (fun i r hi=>h1 _ r (hidx i r hi)) (fun i r hi=>hr _ r (hidx i r hi))
   rwa [hlr] at this
theorem Conv.freeze {st:St} {o:Nat} {e:TypeId} {sz:Nat} {rows:List (List T)} (ho:get st.s o=some (.ar e sz rows)) :
   Conv G st ⟨fun i=>(st.t i).BF o rows,fun n=>cond (Nat.beq n o) (some none) ((st.s n).map (·.map (O.BF o rows))),st.n,st.a⟩:=by
 intro B F loc tmps w hR
 have hS:=hR.s
 obtain ⟨b,cap,cells,hl,hz,hsz,hown,h1,hr⟩:=hS.row ho
 let F2:Nat->Prop:=fun k=>F k\/b=some k
 let loc2:=Ae loc o (some .gone)
 have hk:Kept w F w F2:=fun k hF=>⟨.inl hF,rfl⟩
 have hsm:Ak loc loc2:=Hj (some o)
 have hbk:∀ g,b=some g->(Loc.arr b rows.length cap sz).block=some g:=fun g h=>h
 have hrel : ∀ {x:V} {v:Value},AF w F loc x v->AF w F2 loc2 (x.BF o rows) v:=by
   intro x v h
   have keep:∀ {x:V} {v:Value},AF w F loc x v->AF w F2 loc2 x v:=fun h=>h.mono hk hsm
   induction h with
   | t x v h=>exact keep (.t x v h)
   | gone x o' v hx ho' =>
     have hne:o' ≠ o:=by rintro rfl; rw [hl] at ho'; cases ho'
     have hb:Nat.beq o' o=false:=by rw [<- Bool.not_eq_true,Nat.beq_eq]; exact hne
     cases x with
     | sl nl o2=>cases hx; unfold V.BF; rw [hb]; exact keep (.gone _ _ _ rfl ho')
     | sw o2 off len=>cases hx; unfold V.BF; rw [hb]; exact keep (.gone _ _ _ rfl ho')
     | pe o2 i off=>cases hx; unfold V.BF; rw [hb]; exact keep (.gone _ _ _ rfl ho')
     | pt o2 off=>cases hx; exact keep (.gone _ _ _ rfl ho')
     | mp o2=>cases hx; exact keep (.gone _ _ _ rfl ho')
     | it o2=>cases hx; exact keep (.gone _ _ _ rfl ho')
     | sp o2=>cases hx; exact keep (.gone _ _ _ rfl ho')
     | _=>cases hx
   | dead v=>exact .dead v
   | sl nl o' b' n cap' sz' ho' he hn h0 =>
     unfold V.BF
     split
     · rename_i hb
       have hb':o' = o:=Nat.eq_of_beq_eq_true hb
       subst hb'
       rw [hl] at ho'; cases ho'
       exact .t _ _ (Ho hz hsz hown h1 (fun i r hi j x hj=>by obtain ⟨v,hv,hrr⟩:=hr i r hi j x hj; exact ⟨v,hv,hrr.mono hk⟩) (fun g hg=>.inr hg) he hn h0)
     · exact keep (.sl nl o' b' n cap' sz' ho' he hn h0)
   | sw o' off len b' n cap' sz' a ho' hle ha h0 hnn =>
     unfold V.BF
     split
     · rename_i hb
       have hb':o' = o:=Nat.eq_of_beq_eq_true hb
       subst hb'
       rw [hl] at ho'; cases ho'
       by_cases hl0:len=0
       · subst hl0
         rw [List.take_zero]
         cases a with
         | none =>
           have:cap - off=0:=by rw [hnn rfl]; omega
           rw [this]; exact .t _ _ (.nil .u (by simp))
         | some ad=>exact .t _ _ (.mt .u ad _ (by simp))
       · obtain ⟨g,rfl,rfl⟩:=ha (by omega)
         have hfz:=Ho (F:=F2) (nl:=.u) hz hsz hown h1 (fun i r hi j x hj=>by obtain ⟨v,hv,hrr⟩:=hr i r hi j x hj; exact ⟨v,hv,hrr.mono hk⟩) (fun g hg=>.inr hg) (by simp) (by simp) (by simp)
         exact .t _ _ (ZQ hfz hsz hle (by omega) _ (by have:=Hz hown; omega))
     · exact keep (.sw o' off len b' n cap' sz' a ho' hle ha h0 hnn)
   | pt o' off b' ho'=>exact keep (.pt o' off b' ho')
   | pe o' i off b' n cap' sz' ho' hi =>
     unfold V.BF
     split
     · exact .dead _
     · exact keep (.pe o' i off b' n cap' sz' ho' hi)
   | pf cells' off b' o0 val hF hc hr'=>exact keep (.pf cells' off b' o0 val hF hc hr')
   | mp o' b' ho'=>exact keep (.mp o' b' ho')
   | it o' b' ho'=>exact keep (.it o' b' ho')
   | sp o' b' ho'=>exact keep (.sp o' b' ho')
   | WJ o'=>exact keep (.WJ o')
   | fn f' xs vs val hl' hv _ ih =>
     unfold V.BF; rw [EC]
     refine .fn f' _ vs val (by simpa using hl') (fun j hj=>hv j (by simpa using hj)) fun j x hj=>?_
     rw [List.getElem?_map] at hj
     obtain ⟨y,hy,rfl⟩:=Option.map_eq_some_iff.1 hj
     exact ih j y hy
   | ag xs vs val hl' hv _ ih =>
     unfold V.BF; rw [EC]
     refine .ag _ vs val (by simpa using hl') (fun j hj=>hv j (by simpa using hj)) fun j x hj=>?_
     rw [List.getElem?_map] at hj
     obtain ⟨y,hy,rfl⟩:=Option.map_eq_some_iff.1 hj
     exact ih j y hy
   | tp xs vs val hl' hv _ ih =>
     unfold V.BF; rw [EC]
     refine .tp _ vs val (by simpa using hl') (fun j hj=>hv j (by simpa using hj)) fun j x hj=>?_
     rw [List.getElem?_map] at hj
     obtain ⟨y,hy,rfl⟩:=Option.map_eq_some_iff.1 hj
     exact ih j y hy
   | BE t x v _ ih=>exact .BE t _ v ih
 have hobs:∀ n obj,n ≠ o->st.s n=some obj->∃ l,loc n=some l/\BZ w F2 loc2 (obj.map (O.BF o rows)) l:=by
   intro n obj hne hn
   obtain ⟨l,h1', h2'⟩:=hS.Cg n obj hn
   refine ⟨l,h1', ?_⟩
   cases h2' with
   | gone=>exact .gone
   | ar e' sz' rows' b' cap' cells' hz' hsz' hown' h1'' hr'=>exact .ar e' sz' rows' b' cap' cells' hz' hsz' hown' h1'' fun i r hi j x hj=>by obtain ⟨v,hv,hrr⟩:=hr' i r hi j x hj; exact ⟨v,hv,hrr.mono hk⟩
   | ms e' xs b' en clock vs he' hb' hs' hen hks hr' =>
     rw [show (some (O.bx e' xs)).map (O.BF o rows)=some (.bx e' (xs.map (V.BF o rows))) from by rw [<- EC]; rfl]
     exact .ms e' _ b' en clock vs he' hb' hs' hen hks (hr'.map fun x v h=>hrel h)
   | bx e' xs cs b' he' hb' hl' hr' =>
     rw [show (some (O.bx e' xs)).map (O.BF o rows)=some (.bx e' (xs.map (V.BF o rows))) from by rw [<- EC]; rfl]
     refine .bx e' _ cs b' he' hb' (by simpa using hl') fun j x hj=>?_
     rw [List.getElem?_map] at hj
     obtain ⟨y,hy,rfl⟩:=Option.map_eq_some_iff.1 hj
     obtain ⟨v,hv,h1'', hrr⟩:=hr' j y hy
     exact ⟨v,hv,h1'', hrel hrr⟩
   | si str pos b' hb'=>exact .si str pos b' hb'
   | mp kd ag es b' en clock vs hb' hm=>exact .mp kd ag es b' en clock vs hb' (hm.mono hk)
   | mq kd ag es i rest cu b' en clock vs vr c since c0 seen hb' hm hi hc ho =>
     rcases hsm i _ hi with h | h
     · exact .mq kd ag es i rest cu b' en clock vs vr c since c0 seen hb' (hm.mono hk) h hc (ho.mono hk)
     · exact .Ph kd ag es i rest cu b' en clock vs hb' (hm.mono hk) h
   | Ph kd ag es i rest cu b' en clock vs hb' hm hi=>exact .Ph kd ag es i rest cu b' en clock vs hb' (hm.mono hk) ((hsm i _ hi).elim id id)
   | mi m b' c since c0 seen hb'=>exact .mi m b' c since c0 seen hb'
 have hcond:∀ n,n ≠ o->cond (Nat.beq n o) (some (none:Option O)) ((st.s n).map (·.map (O.BF o rows)))=(st.s n).map (·.map (O.BF o rows)):=by
   intro n hne
   have hb:Nat.beq n o=false:=by rw [<- Bool.not_eq_true,Nat.beq_eq]; exact hne
   rw [hb]; rfl
 have hl2:∀ n l,loc2 n=some l->(n=o/\l=.gone)\/(n ≠ o/\loc n=some l):=by
   intro n l h
   by_cases hne:n=o
   · subst hne; have:Ae loc n (some .gone) n=some l:=h; rw [AA] at this; cases this; exact .inl ⟨rfl,rfl⟩
   · have:Ae loc o (some .gone) n=some l:=h; rw [AJ _ _ hne] at this; exact .inr ⟨hne,this⟩
 refine ⟨F2,loc2,⟨⟨?_,?_,?_,?_,?_,fun k h=>.inl (hS.RF k h),hS.os,hS.tape,hS.output,hS.size,hS.keep,?_,?_,hS.Pv⟩,fun i=>hrel (hR.t i),hR.n,hR.a⟩⟩
 · intro n obj hn
   by_cases hne:n=o
   · subst hne
     have:cond (Nat.beq n n) (some (none:Option O)) ((st.s n).map (·.map (O.BF n rows)))=some obj:=hn
     rw [Nat.beq_refl] at this
     cases this
     exact ⟨.gone,AA _ _ _,.gone⟩
   · have:cond (Nat.beq n o) (some (none:Option O)) ((st.s n).map (·.map (O.BF o rows)))=some obj:=hn
     rw [hcond n hne] at this
     obtain ⟨ob,h1', rfl⟩:=Option.map_eq_some_iff.1 this
     obtain ⟨l,h2', h3'⟩:=hobs n ob hne h1'
     exact ⟨l,(AJ _ _ hne).trans h2', h3'⟩
 · intro n l h
   rcases hl2 n l h with ⟨rfl,rfl⟩ | ⟨hne,h⟩
   · exact ⟨none,by show cond (Nat.beq n n) (some (none:Option O)) _=_; rw [Nat.beq_refl]; rfl⟩
   · obtain ⟨ob,ho'⟩:=hS.Fp n l h
     exact ⟨ob.map (O.BF o rows),by show cond (Nat.beq n o) (some (none:Option O)) ((st.s n).map (·.map (O.BF o rows)))=_; rw [hcond n hne,ho']; rfl⟩
 · intro n n' l l' k h1 h2 h3 h4
   rcases hl2 n l h1 with ⟨_,rfl⟩ | ⟨_,a1⟩
   · cases h3
   · rcases hl2 n' l' h2 with ⟨_,rfl⟩ | ⟨_,a2⟩
     · cases h4
     · exact hS.inj n n' l l' k a1 a2 h3 h4
 · intro n l k h1 h2
   rcases hl2 n l h1 with ⟨_,rfl⟩ | ⟨hne,a1⟩
   · cases h2
   · have:=hS.own n l k a1 h2
     refine ⟨this.1,fun hF=>?_,this.2.2⟩
     rcases hF with h | h
     · exact this.2.1 h
     · exact hne (hS.inj n o l _ k a1 hl h2 (hbk k h))
 · intro k hF
   rcases hF with h | h
   · exact hS.BF k h
   · have:=hS.own o _ k hl (hbk k h)
     exact ⟨this.1,.inr this.2.2⟩
 · intro n l hn
   rcases hS.QB n l hn with h | h
   · exact hsm n l h
   · exact .inr ((hsm n _ h).elim id id)
 · intro g cells' hg
   obtain ⟨hF,val,hc,hr'⟩:=hS.FE g cells' hg
   exact ⟨.inl hF,val,hc,fun j x hj=>(hr' j x hj).mono hk⟩
theorem AK.Py (hS:AK G B w F loc s) {o:Nat} {e:TypeId} {sz:Nat} {rows:List (List T)} (ho:get s o=some (.ar e sz rows)) :
   ∃ F2 loc2,AK G B w F2 loc2 (Ae s o (some none))/\Kept w F w F2/\Ak loc loc2/\∀ nl v,AF w F loc (.sl nl o) v->AF w F2 loc2 (.t (.fz nl rows)) v:=by
 obtain ⟨b,cap,cells,hl,hz,hsz,hown,h1,hr⟩:=hS.row ho
 let F2:Nat->Prop:=fun k=>F k\/b=some k
 let loc2:=Ae loc o (some .gone)
 have hk:Kept w F w F2:=fun k hF=>⟨.inl hF,rfl⟩
 have hsm:Ak loc loc2:=Hj (some o)
 have hbk:∀ g,b=some g->(Loc.arr b rows.length cap sz).block=some g:=fun g h=>h
 have hl2:∀ n l,loc2 n=some l->(n=o/\l=.gone)\/(n ≠ o/\loc n=some l):=by
   intro n l h
   by_cases hne:n=o
   · subst hne; have:Ae loc n (some .gone) n=some l:=h; rw [AA] at this; cases this; exact .inl ⟨rfl,rfl⟩
   · have:Ae loc o (some .gone) n=some l:=h; rw [AJ _ _ hne] at this; exact .inr ⟨hne,this⟩
 refine ⟨F2,loc2,⟨?_,?_,?_,?_,?_,fun k h=>.inl (hS.RF k h),hS.os,hS.tape,hS.output,hS.size,hS.keep,?_,?_,hS.Pv⟩,hk,hsm,?_⟩
 · intro n obj hn
   by_cases hne:n=o
   · subst hne; rw [AA] at hn; cases hn
     exact ⟨.gone,AA _ _ _,.gone⟩
   · rw [AJ _ _ hne] at hn
     obtain ⟨l,h1', h2'⟩:=hS.Cg n obj hn
     exact ⟨l,(AJ _ _ hne).trans h1', h2'.mono hk hsm (fun _ _=>rfl) (fun _ _ _ _ _ _ _=>rfl)⟩
 · intro n l h
   rcases hl2 n l h with ⟨rfl,rfl⟩ | ⟨hne,h⟩
   · exact ⟨none,AA _ _ _⟩
   · obtain ⟨ob,ho'⟩:=hS.Fp n l h
     exact ⟨ob,(AJ _ _ hne).trans ho'⟩
 · intro n n' l l' k h1 h2 h3 h4
   rcases hl2 n l h1 with ⟨_,rfl⟩ | ⟨_,a1⟩
   · cases h3
   · rcases hl2 n' l' h2 with ⟨_,rfl⟩ | ⟨_,a2⟩
     · cases h4
     · exact hS.inj n n' l l' k a1 a2 h3 h4
 · intro n l k h1 h2
   rcases hl2 n l h1 with ⟨_,rfl⟩ | ⟨hne,a1⟩
   · cases h2
   · have:=hS.own n l k a1 h2
     refine ⟨this.1,fun hF=>?_,this.2.2⟩
     rcases hF with h | h
     · exact this.2.1 h
     · exact hne (hS.inj n o l _ k a1 hl h2 (hbk k h))
 · intro k hF
   rcases hF with h | h
   · exact hS.BF k h
   · have:=hS.own o _ k hl (hbk k h)
     exact ⟨this.1,.inr this.2.2⟩
 · intro n l hn
   rcases hS.QB n l hn with h | h
   · exact hsm n l h
   · exact .inr ((hsm n _ h).elim id id)
 · intro g cells' hg
   obtain ⟨hF,val,hc,hr'⟩:=hS.FE g cells' hg
   exact ⟨.inl hF,val,hc,fun j x hj=>(hr' j x hj).mono hk⟩
 · intro nl v h
   cases h with
   | gone _ o' _ hx ho'=>cases hx; rw [hl] at ho'; cases ho'
   | sl _ _ b' n cap' sz' ho' he hn h0 =>
     rw [hl] at ho'; cases ho'
     exact .t _ _ (Ho hz hsz hown h1 (fun i r hi j x hj=>by obtain ⟨v,hv,hrr⟩:=hr i r hi j x hj; exact ⟨v,hv,hrr.mono hk⟩) (fun g hg=>.inr hg) he hn h0)
theorem NN (hg:Good P D){o:Oper}{st:St}{t:TypeId}{p x:Operand}{s':AE}{nl:Nl}{q:Nat}{e:TypeId}{sz:Nat}{rows:List (List T)}(ho:o.op=.store t p x)(hx:ev G st.t x=.sl nl q)(hq:get st.s q=some (.ar e sz rows))
   (h:FL D (Ae st.s q (some none)) t (ev G st.t p) (.t (.fz nl rows))=some s'):CD P G o st vU s':=by
 intro B F loc a w hR
 obtain ⟨F2,loc2,hS2,hk2,hsm,hfz⟩:=hR.s.Py hq
 have hv:=AV hR x
 rw [hx] at hv
 obtain ⟨w', hrun,hS', hk⟩:=Jv hg hS2 h ((AV hR p).mono hk2 hsm) (hfz nl _ hv)
 refine ⟨F2,loc2,w', undef,.skip,?_,.inr ⟨rfl,rfl⟩,hS', hk2.trans hk,hsm,.tp [] [] (fun _=>undef) rfl (fun j hj=>by simp at hj) (fun j x hj=>by simp at hj)⟩
 simp [execOp,ho,hrun]
theorem Ia (hg:Good P D) {o:Oper} {st:St} {src dst e:Nat} {x:Operand} {xs:List Int} (ho:o.op=.convert src dst x) (hs:D.AW src=some (.slice e)) (he:D.AW e=some (.int .u8)) (hd:D.AW dst=some .string)
   (hx:Hm st.s (ev G st.t x)=some (xs.map fun n=>[T.sc (.int .u8 n)])):CD P G o st (vS (strOfNums xs)) st.s:=by
 refine CD.pure fun B F loc a w hR=>?_
 obtain ⟨sa,sc,news,hv,hnl,hna,hn1,hnr⟩:=(LW (sz:=1) hR.s hx (AV hR x) (fun r hr=>by obtain ⟨n,_,rfl⟩:=List.mem_map.1 hr; rfl) (by omega)).out
 have hnews:news=xs.map (Value.int .u8):=by
   apply List.ext_getElem?
   intro j
   by_cases hj:j < xs.length
   · obtain ⟨v,hv,hrel⟩:=hnr j [T.sc (.int .u8 xs[j])] (by rw [List.getElem?_map,List.getElem?_eq_getElem hj]; rfl) 0 (T.sc (.int .u8 xs[j])) rfl
     rw [Nat.mul_one,Nat.add_zero] at hv
     rw [hv,List.getElem?_map,List.getElem?_eq_getElem hj]
     cases hrel; rfl
   · rw [List.getElem?_eq_none (by simp at hnl; omega),List.getElem?_eq_none (by simp; omega)]
 refine ⟨.string (strOfNums xs),?_,.t _ _ (.sc _ rfl)⟩
 have hrun:(convert src dst (a.eval x)).run P w=.ok (.string (strOfNums xs)) w:=by
   have hs':=(hg.AW _ _ hs).1
   have he':=(hg.AW _ _ he).1
   have hd':=(hg.AW _ _ hd).1
   rw [hv,List.length_map]
   cases sa with
   | none =>
     have:xs=[]:=by
       cases xs with
       | nil=>rfl
       | cons y ys=>obtain ⟨ad,h,_⟩:=hna (by simp); cases h
     subst this
     exact run_convert_bytes_nil w src e hs' he' _ _ dst hd'
   | some ad =>
     have hl:(loadCells ad xs.length).run P w=.ok (xs.map (Value.int .u8)).toArray w:=by
       have:=run_loadCells_list (P:=P) w ad news (fun j u hj=>by
         have:j < xs.length:=by have:=(List.getElem?_eq_some_iff.1 hj).1; rw [hnews] at this; simpa using this
         obtain ⟨ad', h1,h2⟩:=hna (by simp; omega)
         cases h1; exact h2 j u hj)
       rw [hnews] at this
       simpa using this
     rw [run_convert_bytes_string w src dst e _ _ _ hs' he' hd', run_bytesToString w ad _ _ xs hl,foldl_push_bytes]
     simp [strOfNums,ByteArray.empty,ByteArray.emptyWithCapacity]
     rfl
 simp [execOp,ho,hrun]
end Go.Proofs.YtobfoiomjfdjjaaDoor.Mc

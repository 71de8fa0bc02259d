/- Rows turned round. -/
import Derived.Test.YthoimblkpcikdaaGreatDoorPWalk2
namespace Go.Proofs.YthoimblkpcikdaaGreatDoor.PRev
open Go.RowKit Go.Proofs.YthoimblkpcikdaaGreatDoor.Mc Go.Proofs.YthoimblkpcikdaaGreatDoor.N Go.Proofs.YthoimblkpcikdaaGreatDoor.Plain
open Go.Proofs.YthoimblkpcikdaaGreatDoor.PJoin (Fr)
set_option linter.unusedSimpArgs false
set_option linter.unusedVariables false
def tn {α:Type}(l:List α)(i:Nat):List α:=l.mapIdx fun q a=>if q < i\/l.length - i<=q then (l[l.length - 1 - q]?).getD a else a
theorem NJ {α:Type}(l:List α)(i:Nat):(tn l i).length=l.length:=by unfold tn; rw [List.length_mapIdx]
theorem Ot {α:Type}(l:List α)(i q:Nat)(h:q < l.length):(tn l i)[q]? = some (if q < i\/l.length - i<=q then l[l.length - 1 - q]'(by omega) else l[q]):=by
 unfold tn
 rw [List.getElem?_mapIdx,List.getElem?_eq_getElem h,Option.map_some]
 congr 1
 split
 · rw [List.getElem?_eq_getElem (by omega)]; rfl
 · rfl
theorem bq {α:Type}(l:List α):tn l 0=l:=by
 apply List.ext_getElem?
 intro q
 by_cases h:q < l.length
 · rw [Ot l 0 q h,if_neg (by omega),List.getElem?_eq_getElem h]
 · rw [List.getElem?_eq_none (by rw [NJ]; omega),List.getElem?_eq_none (by omega)]
theorem cj {α:Type} (l:List α):tn l (l.length / 2)=l.reverse:=by
 apply List.ext_getElem?
 intro q
 by_cases h:q < l.length
 · rw [Ot l _ q h,List.getElem?_reverse h]
   split
   · rw [List.getElem?_eq_getElem (by omega)]
   · next hc =>
     have e:l.length - 1 - q=q:=by omega
     rw [List.getElem?_eq_getElem (by omega)]
     congr 1
     simp only [e]
 · rw [List.getElem?_eq_none (by rw [NJ]; omega),List.getElem?_eq_none (by rw [List.length_reverse]; omega)]
theorem ck {α:Type} (l:List α) (i:Nat) (h:2 * i+1 < l.length):((tn l i).set i (l[l.length - 1 - i]'(by omega))).set (l.length - 1 - i) (l[i]'(by omega))=tn l (i+1):=by
 apply List.ext_getElem?
 intro q
 by_cases hq:q < l.length
 · rw [Ot l (i+1) q hq,List.getElem?_set,List.getElem?_set,Ot l i q hq,List.length_set,NJ]
   by_cases h1:l.length - 1 - i=q
   · rw [if_pos h1,if_pos (by omega),if_pos (by omega)]
     congr 1
     have:l.length - 1 - q=i:=by omega
     simp only [this]
   · rw [if_neg h1]
     by_cases h2:i=q
     · rw [if_pos h2,if_pos (by omega),if_pos (by omega)]
       congr 1
       subst h2; rfl
     · rw [if_neg h2]
       by_cases h3:q < i\/l.length - i<=q
       · rw [if_pos h3,if_pos (by omega)]
       · rw [if_neg h3,if_neg (by omega)]
 · rw [List.getElem?_eq_none (by rw [List.length_set,List.length_set,NJ]; omega),List.getElem?_eq_none (by rw [NJ]; omega)]
theorem NN {α:Type} {f:(Int × Int × List α)->Option ((Int × Int × List α) ⊕ List α)} (hf:∀ (i j:Int) (m:List α),f (i,j,m)=cond (decide (i < j)) ((ix m j).bind fun a49=>(m[j.toNat]?).bind fun a50=>(ix m i).bind fun a51=>(m[i.toNat]?).bind fun a52=>(ix m i).bind fun a53=>((m[i.toNat]?).bind fun a54=>some a50).bind fun a55=>(ix (m.set i.toNat a55) j).bind fun a56=>(((m.set i.toNat a55)[j.toNat]?).bind fun a57=>some a52).bind fun a58=>some (.inl ((IntKind.wrap .i64 (i+1)),(IntKind.wrap .i64 (j - 1)),((m.set i.toNat a55).set j.toNat a58)))) (some (.inr m)))
   (l:List α) (K:Nat) (hK:l.length < K) (hl:l.length<=1000000):AE f K (0,(l.length:Int) - 1,l)=some l.reverse:=by
 refine BE (fun i=>((i:Int),(l.length:Int) - 1 - (i:Int),tn l i)) (l.length / 2) (by rw [bq]; simp) (by omega) (fun i hi=>?_) ?_
 · have h2:2 * i+1 < l.length:=by omega
   have hj:(l.length:Int) - 1 - (i:Int)=((l.length - 1 - i:Nat):Int):=by omega
   have ha:=Ot l i i (by omega)
   have hb:=Ot l i (l.length - 1 - i) (by omega)
   rw [if_neg (by omega)] at ha hb
   rw [hf,AK (by omega),hj]
   simp only [DP,Int.toNat_natCast,ha,hb,Option.bind_some]
   have hc:((tn l i).set i l[l.length - 1 - i])[l.length - 1 - i]? = some l[l.length - 1 - i]:=by
     rw [List.getElem?_set_ne (by omega)]; exact hb
   rw [hc,Option.bind_some,Option.bind_some,Option.bind_some,ck l i h2,BK (by omega) (by omega),BK (by omega) (by omega),show ((l.length - 1 - i:Nat):Int) - 1=(l.length:Int) - 1 - ((i+1:Nat):Int) by omega]
   rfl
 · rw [hf,AJ (by omega),cj]
theorem Yf (K:Nat)(hK:2000000<=K)(l:List Fr)(hl:l.length<=1000000):oB K l=some l.reverse:=by
 unfold oB
 rw [BK (by omega) (by omega),NN (fun i j m=>rfl) l K (by omega) hl]; rfl
theorem ZN (K:Nat)(hK:2000000<=K)(l:List (Int × Int))(hl:l.length<=1000000):nc K l=some l.reverse:=by
 unfold nc
 rw [BK (by omega) (by omega),NN (fun i j m=>rfl) l K (by omega) hl]; rfl
abbrev Hd:Type:=Int × Int × Int × List PBatch1.Wr × List (Int × Int)
theorem Ys (K:Nat)(hK:2000000<=K)(l:List Hd)(hl:l.length<=1000000):ju K l=some l.reverse:=by
 unfold ju
 rw [BK (by omega) (by omega),NN (fun i j m=>rfl) l K (by omega) hl]; rfl
end Go.Proofs.YthoimblkpcikdaaGreatDoor.PRev

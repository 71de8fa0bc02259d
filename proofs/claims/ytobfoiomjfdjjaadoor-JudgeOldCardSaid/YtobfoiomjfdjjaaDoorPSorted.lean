/- What the functions that sort texts compute. -/
import Derived.Test.YtobfoiomjfdjjaaDoorPSort
namespace Go.Proofs.YtobfoiomjfdjjaaDoor.PSorted
open Go.RowKit Go.Proofs.YtobfoiomjfdjjaaDoor.Mc Go.Proofs.YtobfoiomjfdjjaaDoor.N Go.Proofs.YtobfoiomjfdjjaaDoor.Plain Go.Proofs.YtobfoiomjfdjjaaDoor.PureRune Go.Proofs.YtobfoiomjfdjjaaDoor.PureKeys Go.Proofs.YtobfoiomjfdjjaaDoor.PureCmp Go.Proofs.YtobfoiomjfdjjaaDoor.PureBytes Go.Proofs.YtobfoiomjfdjjaaDoor.PSort
set_option linter.unusedSimpArgs false
set_option linter.unusedVariables false
theorem Rc (K:Nat){a b:ByteArray}(ha:a.size<=1000000)(hb:b.size<=1000000)(hK:2000000<=K):Zt K a b=some (cmp (rl a) (rl b)):=by
 obtain ⟨L,hL,h1,e1⟩:=XY a
 obtain ⟨M,hM,h2,e2⟩:=XY b
 rw [e1,e2]
 exact XJ K (by omega) (by omega) hL hM (by omega) (by omega) h1 h2
theorem Lp (K:Nat){a b:ByteArray}(ha:a.size<=1000000)(hb:b.size<=1000000)(hK:2000000<=K):∃ n,ZH K a b=some n/\(decide (n < 0))=lt a b:=by
 unfold ZH fT lt
 rw [Rc K ha hb hK,Option.bind_some]
 by_cases h:cmp (rl a) (rl b)=0
 · refine ⟨Lib.compareBytes a.data.toList b.data.toList,by rw [h]; rfl,?_⟩
   rw [h]
   simp only [BEq.rfl,Bool.true_and,show decide ((0:Int) < 0)=false from rfl,Bool.false_or]
   rw [ByteArray.toList_eq,ByteArray.toList_eq,Bool.eq_iff_iff,decide_eq_true_eq]
   exact Gr _ _
 · have hn:(cmp (rl a) (rl b) != 0)=true:=by rw [bne_iff_ne]; exact h
   have hb:(cmp (rl a) (rl b) == 0)=false:=by rw [beq_eq_false_iff_ne]; exact h
   refine ⟨cmp (rl a) (rl b),by rw [hn]; rfl,?_⟩
   rw [hb,Bool.false_and,Bool.or_false]
def Small (l:List ByteArray):Prop:=∀ a ∈ l,a.size<=1000000
theorem Dn (K:Nat)(hK:2000000<=K){a b:ByteArray}(ha:a.size<=1000000)(hb:b.size<=1000000):NR (ZH K) a b=lt a b:=by
 obtain ⟨n,h,e⟩:=Lp K ha hb hK
 unfold NR; rw [h]; exact e
theorem Zd (K:Nat)(hK:2000000<=K){l:List ByteArray}(hl:Small l)(hn:l.length<=1000000):Nb (ZH K) l where
 some a ha b hb:=by obtain ⟨n,h,_⟩:=Lp K (hl a ha) (hl b hb) hK; exact ⟨n,h⟩
 irrefl a ha:=by rw [Dn K hK (hl a ha) (hl a ha)]; exact lt_irrefl a
 trans a ha b hb c hc:=by rw [Dn K hK (hl a ha) (hl b hb),Dn K hK (hl b hb) (hl c hc),Dn K hK (hl a ha) (hl c hc)]; exact lt_trans
 ntrans a ha b hb c hc:=by rw [Dn K hK (hl a ha) (hl b hb),Dn K hK (hl b hb) (hl c hc),Dn K hK (hl a ha) (hl c hc)]; exact LZ
 total a ha b hb:=by rw [Dn K hK (hl a ha) (hl b hb),Dn K hK (hl b hb) (hl a ha)]; exact HD
 size:=by omega
noncomputable def ms (l:List ByteArray):List ByteArray:=l.mergeSort fun x y => !(lt y x)
theorem JS {l:List ByteArray}{f g:ByteArray->ByteArray->Bool}(h:∀ a ∈ l,∀ b ∈ l,f a b=g a b):l.mergeSort f=l.mergeSort g:=by
 have:=List.map_mergeSort (r:=f) (s:=g) (f:=id) (l:=l) h
 simpa using this
theorem Ue (K:Nat)(hK:2000000<=K){l:List ByteArray}(hl:Small l)(hn:l.length<=1000000):ea K l=some (ms l):=by
 unfold ea
 rw [Ut (Zd K hK hl hn)]
 congr 1
 refine JS fun a ha b hb=>?_
 rw [Dn K hK (hl b hb) (hl a ha)]
theorem ZX (l:List ByteArray)(x:ByteArray):x ∈ ms l ↔ x ∈ l:=(List.mergeSort_perm l _).mem_iff
theorem Ty (l:List ByteArray):(ms l).length=l.length:=List.length_mergeSort l
theorem Sc (l:List ByteArray):(ms l).Pairwise (fun x y=>lt y x=false):=by
 have:=List.pairwise_mergeSort (le:=fun x y => !(lt y x)) (fun a b c h1 h2=>by
   simp only [Bool.not_eq_true'] at *
   exact LZ h2 h1) (fun a b=>by
   cases h:lt b a with
   | false=>simp
   | true=>simp [lt_asymm h]) l
 exact this.imp (fun h=>by simpa using h)
theorem TF (K:Nat){l:List ByteArray}(hn:l.length<=1000000):ek K l=some l:=by
 unfold ek
 rw [We]
 · rw [Ew (by simp only [List.length_nil]; omega)]; rfl
 · intro h
   have:l=[]:=List.isEmpty_iff.1 h
   subst this
   rw [Ew (by decide)]; rfl
theorem QM (K:Nat) {l:List ByteArray} (hn:l.length<=1000000) {k0:Nat} (h0:1<=k0) (hk0:k0 < l.length) :
   ∀ (m j k n:Nat) (cur:List ByteArray),l.length - k0 - j=m->1<=j->k0+j<=l.length->m < n->k<=k0+j - 1->cur.length=l.length->cur.take k=dd (l.take (k0+j))->cur.drop (k0+j - 1)=l.drop (k0+j - 1) ->
     ∃ (k':Nat) (cur':List ByteArray),AX (Kv K ((k0:Int),l)) n ((k:Int),(j:Int),cur)=some ((k':Int),cur')/\k' <= l.length/\cur'.length=l.length/\cur'.take k' = dd l:=by
 intro m
 induction m with
 | zero =>
   intro j k n cur hm hj hle hlt hk hcl ht hd
   obtain ⟨n,rfl⟩:∃ i,n=i+1:=⟨n - 1,by omega⟩
   refine ⟨k,cur,Am ?_,by omega,hcl,?_⟩
   · unfold Kv
     simp only [Int.toNat_natCast]
     rw [BT (by omega)]
   · rw [ht,List.take_of_length_le (by omega)]
 | succ m ih =>
   intro j k n cur hm hj hle hlt hk hcl ht hd
   obtain ⟨n,rfl⟩:∃ i,n=i+1:=⟨n - 1,by omega⟩
   have hlt2:k0+j < l.length:=by omega
   have g1:cur[k0+j]? = some l[k0+j]:=by
     have:(cur.drop (k0+j - 1))[1]? = (l.drop (k0+j - 1))[1]? := by rw [hd]
     rw [List.getElem?_drop,List.getElem?_drop,show k0+j - 1+1=k0+j by omega,List.getElem?_eq_getElem hlt2] at this
     exact this
   have g0:cur[k0+(j - 1)]? = some (l[k0+j - 1]'(by omega)):=by
     have:(cur.drop (k0+j - 1))[0]? = (l.drop (k0+j - 1))[0]? := by rw [hd]
     rw [List.getElem?_drop,List.getElem?_drop,Nat.add_zero,List.getElem?_eq_getElem (by omega:k0+j - 1 < l.length)] at this
     rw [show k0+(j - 1)=k0+j - 1 by omega]; exact this
   have hkc:k < cur.length:=by omega
   have w1:IntKind.wrap .i64 ((j:Int) - 1)=((j - 1:Nat):Int):=by rw [LS (by omega) (by omega)]; omega
   have w2:IntKind.wrap .i64 ((j:Int)+1)=((j+1:Nat):Int):=by rw [LS (by omega) (by omega)]; omega
   have w3:IntKind.wrap .i64 ((k:Int)+1)=((k+1:Nat):Int):=by rw [LS (by omega) (by omega)]; omega
   have hdd:dd (l.take (k0+(j+1)))=_:=Rl (l:=l) (j:=k0+j) (by omega) hlt2
   have hd':∀ c:List ByteArray,c.drop (k0+j)=cur.drop (k0+j)->c.drop (k0+(j+1) - 1)=l.drop (k0+(j+1) - 1):=by
     intro c hc
     rw [show k0+(j+1) - 1=k0+j by omega,hc]
     have:(cur.drop (k0+j - 1)).drop 1=(l.drop (k0+j - 1)).drop 1:=by rw [hd]
     rwa [List.drop_drop,List.drop_drop,show k0+j - 1+1=k0+j by omega] at this
   by_cases he:l[k0+j - 1]'(by omega)=l[k0+j]
   · have hq:(!(l[k0+j].toList == (l[k0+j - 1]'(by omega)).toList))=false:=by rw [he]; simp
     obtain ⟨k', cur', e,r1,r2,r3⟩:=ih (j+1) k n cur (by omega) (by omega) (by omega) (by omega) (by omega) hcl (by rw [hdd,if_pos he,ht]) (hd' cur rfl)
     refine ⟨k', cur', ?_,r1,r2,r3⟩
     rw [Av (b:=((k:Int),((j+1:Nat):Int),cur)),e]
     unfold Kv
     simp only [Int.toNat_natCast,w1,w2,g1,g0,Option.bind_some,hq,cond_false]
     rw [BC (by omega),Ew (by omega),Ew (by omega)]
     rfl
   · have hq:(!(l[k0+j].toList == (l[k0+j - 1]'(by omega)).toList))=true:=by
       rw [Bool.not_eq_true', beq_eq_false_iff_ne]
       exact fun h=>he (Kk h).symm
     have hset:(cur.set k l[k0+j]).take (k+1)=dd (l.take (k0+(j+1))):=by
       rw [hdd,if_neg he,take_one (by rw [List.length_set]; exact hkc),List.take_set_of_le (Nat.le_refl _),ht,List.getElem_set_self]
     obtain ⟨k', cur', e,r1,r2,r3⟩:=ih (j+1) (k+1) n (cur.set k l[k0+j]) (by omega) (by omega) (by omega) (by omega) (by omega) (by rw [List.length_set]; exact hcl) hset (hd' _ (by rw [List.drop_set_of_lt (by omega)]))
     refine ⟨k', cur', ?_,r1,r2,r3⟩
     rw [Av (b:=(((k+1:Nat):Int),((j+1:Nat):Int),cur.set k l[k0+j])),e]
     unfold Kv
     simp only [Int.toNat_natCast,w1,w2,w3,g1,g0,Qw,List.getElem?_eq_getElem hkc,Option.bind_some,hq,cond_true]
     rw [BC (by omega),Ew (by omega),Ew (by omega),Ew (by omega)]
     rfl
theorem Nu (K:Nat) {l:List ByteArray} (hn:l.length<=1000000) (hK:2000000<=K) :
   ∀ (m k n:Nat),l.length - k=m->1<=k->k<=l.length->m < n->dd (l.take k)=l.take k ->
     ∃ r,AX (LC K) n ((k:Int),l)=some r/\Aq (fun y=>some ((y.2.2.drop y.1).take y.2.1)) (fun y=>some y) r=some (dd l):=by
 intro m
 induction m with
 | zero =>
   intro k n hm h1 hle hlt hd
   obtain ⟨n,rfl⟩:∃ i,n=i+1:=⟨n - 1,by omega⟩
   refine ⟨.inr l,Am ?_,?_⟩
   · unfold LC
     rw [BT (by show ¬ (k:Int) < (l.length:Int); omega)]
   · rw [List.take_of_length_le (by omega)] at hd
     rw [hd]; rfl
 | succ m ih =>
   intro k n hm h1 hle hlt hd
   obtain ⟨n,rfl⟩:∃ i,n=i+1:=⟨n - 1,by omega⟩
   have hk:k < l.length:=by omega
   have hk1:k - 1 < l.length:=by omega
   have w1:IntKind.wrap .i64 ((k:Int) - 1)=((k - 1:Nat):Int):=by rw [LS (by omega) (by omega)]; omega
   have w2:IntKind.wrap .i64 ((k:Int)+1)=((k+1:Nat):Int):=by rw [LS (by omega) (by omega)]; omega
   have hdd:=Rl (l:=l) (j:=k) h1 hk
   by_cases he:l[k - 1]=l[k]
   · have hq:(l[k].toList == l[k - 1].toList)=true:=by rw [he]; simp
     obtain ⟨k', cur', e,r1,r2,r3⟩:=QM K hn h1 hk (l.length - k - 1) 1 k K l (by omega) (Nat.le_refl _) (by omega) (by omega) (by omega) rfl (by rw [hdd,if_pos he,hd]) rfl
     have hlen:(cur'.take k' ++ List.replicate (cur'.length - k') ByteArray.empty ++ cur'.drop (k' + (cur'.length - k'))).length=cur'.length:=by
       simp only [List.length_append,List.length_take,List.length_replicate,List.length_drop]; omega
     refine ⟨.inl (0,k', cur'.take k' ++ List.replicate (cur'.length - k') ByteArray.empty ++ cur'.drop (k' + (cur'.length - k'))),Am ?_,?_⟩
     · unfold LC
       simp only [Qw,w1,Int.toNat_natCast,List.getElem?_eq_getElem hk,List.getElem?_eq_getElem hk1,Option.bind_some,hq,cond_true]
       rw [BC (by omega),LU (by unfold Dj; exact decide_eq_true (by omega))]
       rw [show ((1:Int))=((1:Nat):Int) from rfl,e]
       simp only [Option.bind_some,Int.toNat_natCast,Nat.sub_zero]
       rw [LU (by unfold Dj; exact decide_eq_true (by omega)),LU (by unfold Dj; rw [hlen]; exact decide_eq_true (by omega))]
     · show some (((cur'.take k' ++ List.replicate (cur'.length - k') ByteArray.empty ++ cur'.drop (k' + (cur'.length - k'))).drop 0).take k')=_
       rw [List.drop_zero,List.append_assoc,List.take_left' (by rw [List.length_take]; omega),r3]
   · have hq:(l[k].toList == l[k - 1].toList)=false:=by
       rw [beq_eq_false_iff_ne]
       exact fun h=>he (Kk h).symm
     obtain ⟨r,e,hr⟩:=ih (k+1) n (by omega) (by omega) (by omega) (by omega) (by
       rw [hdd,if_neg he,hd,take_one hk])
     refine ⟨r,?_,hr⟩
     rw [Av (b:=(((k+1:Nat):Int),l)),e]
     unfold LC
     simp only [Qw,w1,w2,Int.toNat_natCast,List.getElem?_eq_getElem hk,List.getElem?_eq_getElem hk1,Option.bind_some,hq,cond_false]
     rw [BC (by omega)]
theorem PN (K:Nat) {l:List ByteArray} (hn:l.length<=1000000) (hK:2000000<=K):eS K l=some (dd l):=by
 unfold eS
 by_cases h:l.length < 2
 · rw [BC (by omega)]
   match l,h with
   | [],_=>rfl
   | [x],_=>rfl
   | _ :: _ :: _,h=>simp only [List.length_cons] at h; omega
 · rw [BT (by omega)]
   have h1:dd (l.take 1)=l.take 1:=by
     match l,h with
     | [],_=>rfl
     | x :: l,_=>rfl
   obtain ⟨r,e,hr⟩:=Nu K hn hK (l.length - 1) 1 K rfl (Nat.le_refl _) (by omega) (by omega) h1
   rw [show ((1:Int))=((1:Nat):Int) from rfl,e,Option.bind_some]
   exact hr
noncomputable def YN (l:List ByteArray):List ByteArray:=dd (ms l)
theorem JZ (l:List ByteArray)(x:ByteArray):x ∈ YN l ↔ x ∈ l:=by unfold YN; rw [Qx,ZX]
theorem Kc (l:List ByteArray):(YN l).Pairwise (fun x y=>lt x y=true):=MG (Sc l)
theorem Rx (l:List ByteArray):(YN l).length<=l.length:=by unfold YN; have:=VO (ms l); rw [Ty] at this; exact this
theorem Ka (K:Nat)(hK:2000000<=K){l:List ByteArray}(hl:Small l)(hn:l.length<=1000000):Yi K l=some (YN l):=by
 unfold Yi
 rw [TF K hn,Option.bind_some,Ue K hK hl hn,Option.bind_some,PN K (by rw [Ty]; exact hn) hK]; rfl
noncomputable def ins (x:ByteArray)(l:List ByteArray):List ByteArray :=
 if l[(l.takeWhile fun y=>lt y x).length]? = some x then l else l.take (l.takeWhile fun y=>lt y x).length ++ [x] ++ l.drop (l.takeWhile fun y=>lt y x).length
noncomputable def ks (l:List ByteArray):List ByteArray:=l.foldl (fun o x=>ins x o) []
end Go.Proofs.YtobfoiomjfdjjaaDoor.PSorted

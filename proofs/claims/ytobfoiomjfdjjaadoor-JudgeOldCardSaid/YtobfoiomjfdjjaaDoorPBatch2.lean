/- What the functions that lay batches as bytes compute. -/
import Derived.Test.YtobfoiomjfdjjaaDoorPBatch1
import Derived.Test.YtobfoiomjfdjjaaDoorPBook
import Derived.Test.YtobfoiomjfdjjaaDoorPLay
namespace Go.Proofs.YtobfoiomjfdjjaaDoor.PBatch2
open Go.RowKit Go.Proofs.YtobfoiomjfdjjaaDoor.Mc Go.Proofs.YtobfoiomjfdjjaaDoor.N Go.Proofs.YtobfoiomjfdjjaaDoor.Plain Go.Proofs.YtobfoiomjfdjjaaDoor.PureRune Go.Proofs.YtobfoiomjfdjjaaDoor.PureKeys Go.Proofs.YtobfoiomjfdjjaaDoor.PBatch1 Go.Proofs.YtobfoiomjfdjjaaDoor.PLay
open Go.Proofs.YtobfoiomjfdjjaaDoor.PBook (short DM)
set_option linter.unusedSimpArgs false
set_option linter.unusedVariables false
theorem Ko (a b:ByteArray):Ab (a ++ b)=Ab a ++ Ab b:=by
 unfold Ab
 rw [ByteArray.data_append,Array.toList_append,List.map_append]
theorem Vt (s:ByteArray):strOfNums (Ab s)=s:=by
 apply ByteArray.ext
 apply Array.ext'
 simp only [strOfNums,Ab,List.map_map]
 have:∀ l:List UInt8,l.map ((fun n:Int=>UInt8.ofNat n.toNat) ∘ fun b:UInt8=>((b.toNat:Nat):Int))=l:=by
   intro l
   induction l with
   | nil=>rfl
   | cons x l ih=>rw [List.map_cons,ih]; congr 1; simp
 rw [this]
theorem QP (s:ByteArray):ME (Ab s)=true:=by
 unfold ME Ab
 rw [List.all_map,List.all_eq_true]
 intro b _
 have:=b.toNat_lt
 simp only [Function.comp,Bool.and_eq_true,decide_eq_true_eq]
 omega
theorem Hq (K:Nat)(s:ByteArray)(x:List Int)(h:x.length+s.size<=140737488355328):Zx K s x=some ((s.size:Int),x ++ Ab s):=by
 unfold Zx fN
 rw [Option.bind_some,Ew h]
theorem QV (K:Nat)(s:ByteArray):eo K (Ab s)=some (s,Ab s):=by
 unfold eo
 rw [LU (QP s),Vt]
def wb (w:Wr):ByteArray:=cond w.2.1 ((⟨#[1]⟩:ByteArray) ++ tx w.1) ((⟨#[0]⟩:ByteArray) ++ tx w.1 ++ tx w.2.2)
def cat:List Wr->ByteArray
 | []=>⟨#[]⟩
 | w :: l=>wb w ++ cat l
theorem UC (a:ByteArray):a ++ (⟨#[]⟩:ByteArray)=a:=by apply ByteArray.ext; simp
theorem Yf (a:ByteArray):(⟨#[]⟩:ByteArray) ++ a=a:=by apply ByteArray.ext; simp
theorem OB:∀ (l:List Wr) (w:Wr),cat (l ++ [w])=cat l ++ wb w
 | [],w=>by simp only [List.nil_append,cat,UC,Yf]
 | v :: l,w=>by simp only [List.cons_append,cat,OB l w,ByteArray.append_assoc]
def bb (l:List Wr):ByteArray:=strOfNums (nI l.length) ++ cat l
def DI (l:List Wr):Prop:=∀ w ∈ l,w.1.size<=1000000/\w.2.2.size<=1000000
theorem WV {w:Wr}(h:w.1.size<=1000000/\w.2.2.size<=1000000):(wb w).size<=3000000:=by
 have h1:=(DD _ (Lw w.1)).2
 have h2:=(DD _ (Lw w.2.2)).2
 unfold wb
 cases w.2.1 with
 | true=>rw [cond_true,ByteArray.size_append,HG]; show 1+_<=_; omega
 | false=>rw [cond_false,ByteArray.size_append,ByteArray.size_append,HG,HG]; show 1+_+_<=_; omega
theorem Pc:∀ {l:List Wr},DI l->(cat l).size<=3000000 * l.length
 | [],_=>Nat.le_refl _
 | w :: l,h=>by
   have h1:=WV (h w (List.mem_cons_self ..))
   have h2:=Pc (l:=l) (fun v hv=>h v (List.mem_cons_of_mem _ hv))
   rw [cat,ByteArray.size_append,List.length_cons]; omega
theorem RN {l:List Wr}(h:DI l)(i:Nat):DI (l.take i):=fun w hw=>h w (List.mem_of_mem_take hw)
theorem Qn (K:Nat)(l:List Wr)(hl:DI l)(hn:l.length<=1000)(hK:5<=K)(A:ByteArray)(hA:A.size<=1000)(i:Nat)(hi:i < l.length) :
   Mh K l ((i:Int),Ab (A ++ cat (l.take i)))=some (.inl (((i+1:Nat):Int),Ab (A ++ cat (l.take (i+1))))):=by
 have hli:l[i]? = some l[i]:=List.getElem?_eq_getElem hi
 have hs:=hl _ (List.getElem_mem hi)
 have hc:=Pc (RN hl i)
 rw [List.length_take] at hc
 have e1:=Pf hK l[i].1 (by omega)
 have e2:=Pf hK l[i].2.2 (by omega)
 have s1:=HG l[i].1
 have s2:=HG l[i].2.2
 have h1:=(DD _ (Lw l[i].1)).2
 have h2:=(DD _ (Lw l[i].2.2)).2
 unfold Mh
 simp only [Qw,Int.toNat_natCast,hli,Option.bind_some,e1,e2]
 rw [BC (by omega),LS (by omega) (by omega),DM hi,OB,wb,<- ByteArray.append_assoc,Ko (A ++ cat (l.take i))]
 have hsz:(Ab (A ++ cat (l.take i))).length=A.size+(cat (l.take i)).size:=by rw [CX,ByteArray.size_append]
 cases l[i].2.1 with
 | true =>
   rw [cond_true,cond_true,Ew (by show 1+_<=_; omega),Hq _ _ _ (by rw [hsz,ByteArray.size_append]; show _+_+(1+_)<=_; omega)]; rfl
 | false =>
   rw [cond_false,cond_false,Ew (by show 1+_<=_; omega),Ew (by rw [ByteArray.size_append]; show 1+_+_<=_; omega),Hq _ _ _ (by rw [hsz,ByteArray.size_append,ByteArray.size_append]; show _+_+(1+_+_)<=_; omega)]; rfl
theorem Qr {l:List Wr}(h:GO l=0):1<=l.length/\l.length<=8:=by
 unfold GO at h
 split at h
 · omega
 · omega
noncomputable def Wj (l:List Wr):ByteArray × Int:=if GO l=0 then (bb l,0) else (⟨#[]⟩,GO l)
theorem XV (n:Nat)(hn:n<=8):(strOfNums (nI n)).size<=5:=by
 rw [strOfNums_size]; exact (DD n (by omega)).2
theorem MP (K:Nat)(l:List Wr)(hl:DI l)(hK:2000000<=K):eX K l=some (Wj l):=by
 unfold eX Wj
 rw [DB K l hK,Option.bind_some]
 by_cases h:GO l=0
 · have hn:=Qr h
   have hz:=XV l.length hn.2
   rw [h,show ((0:Int) != 0)=false from rfl,cond_false,if_pos rfl,w32 (by omega) (by omega),SN (by omega) l.length (by omega),Option.bind_some,Hq _ _ _ (by simp only [List.length_nil]; omega),Option.bind_some,List.nil_append]
   rw [Na (r:=Ab (bb l)) (fun i=>((i:Int),Ab (strOfNums (nI l.length) ++ cat (l.take i)))) l.length (by simp only [List.take_zero,cat,UC]; rfl) (by omega) (fun i hi=>Qn K l hl (by omega) (by omega) _ (by omega) i hi) (by unfold Mh; rw [BT (by omega),List.take_length]; rfl)]
   rw [Option.bind_some,QV]; rfl
 · rw [bne_iff_ne.2 h,cond_true,if_neg h]
end Go.Proofs.YtobfoiomjfdjjaaDoor.PBatch2

/- What the functions that lay batches as bytes compute. -/
import Derived.Test.YthoimblkpcikdaaGreatDoorPBatch1
import Derived.Test.YthoimblkpcikdaaGreatDoorPBook
import Derived.Test.YthoimblkpcikdaaGreatDoorPLay
namespace Go.Proofs.YthoimblkpcikdaaGreatDoor.PBatch2
open Go.RowKit Go.Proofs.YthoimblkpcikdaaGreatDoor.Mc Go.Proofs.YthoimblkpcikdaaGreatDoor.N Go.Proofs.YthoimblkpcikdaaGreatDoor.Plain Go.Proofs.YthoimblkpcikdaaGreatDoor.PureRune Go.Proofs.YthoimblkpcikdaaGreatDoor.PureKeys Go.Proofs.YthoimblkpcikdaaGreatDoor.PBatch1 Go.Proofs.YthoimblkpcikdaaGreatDoor.PLay
open Go.Proofs.YthoimblkpcikdaaGreatDoor.PBook (short AM)
set_option linter.unusedSimpArgs false
set_option linter.unusedVariables false
theorem Dg (a b:ByteArray):AZ (a ++ b)=AZ a ++ AZ b:=by
 unfold AZ
 rw [ByteArray.data_append,Array.toList_append,List.map_append]
theorem IP (s:ByteArray):strOfNums (AZ s)=s:=by
 apply ByteArray.ext
 apply Array.ext'
 simp only [strOfNums,AZ,List.map_map]
 have:∀ l:List UInt8,l.map ((fun n:Int=>UInt8.ofNat n.toNat) ∘ fun b:UInt8=>((b.toNat:Nat):Int))=l:=by
   intro l
   induction l with
   | nil=>rfl
   | cons x l ih=>rw [List.map_cons,ih]; congr 1; simp
 rw [this]
theorem FQ (s:ByteArray):KR (AZ s)=true:=by
 unfold KR AZ
 rw [List.all_map,List.all_eq_true]
 intro b _
 have:=b.toNat_lt
 simp only [Function.comp,Bool.and_eq_true,decide_eq_true_eq]
 omega
theorem Xe (K:Nat)(s:ByteArray)(x:List Int)(h:x.length+s.size<=140737488355328):Sk K s x=some ((s.size:Int),x ++ AZ s):=by
 unfold Sk gF
 rw [Option.bind_some,BB h]
theorem HM (K:Nat)(s:ByteArray):SG K (AZ s)=some (s,AZ s):=by
 unfold SG
 rw [Ec (FQ s),IP]
def wb (w:Wr):ByteArray:=cond w.2.1 ((⟨#[1]⟩:ByteArray) ++ tx w.1) ((⟨#[0]⟩:ByteArray) ++ tx w.1 ++ tx w.2.2)
def cat:List Wr->ByteArray
 | []=>⟨#[]⟩
 | w :: l=>wb w ++ cat l
theorem Ld (a:ByteArray):a ++ (⟨#[]⟩:ByteArray)=a:=by apply ByteArray.ext; simp
theorem PR (a:ByteArray):(⟨#[]⟩:ByteArray) ++ a=a:=by apply ByteArray.ext; simp
theorem SI:∀ (l:List Wr) (w:Wr),cat (l ++ [w])=cat l ++ wb w
 | [],w=>by simp only [List.nil_append,cat,Ld,PR]
 | v :: l,w=>by simp only [List.cons_append,cat,SI l w,ByteArray.append_assoc]
def bb (l:List Wr):ByteArray:=strOfNums (nI l.length) ++ cat l
def Dm (l:List Wr):Prop:=∀ w ∈ l,w.1.size<=1000000/\w.2.2.size<=1000000
theorem cm {w:Wr}(h:w.1.size<=1000000/\w.2.2.size<=1000000):(wb w).size<=3000000:=by
 have h1:=(Bu _ (IC w.1)).2
 have h2:=(Bu _ (IC w.2.2)).2
 unfold wb
 cases w.2.1 with
 | true=>rw [cond_true,ByteArray.size_append,DW]; show 1+_<=_; omega
 | false=>rw [cond_false,ByteArray.size_append,ByteArray.size_append,DW,DW]; show 1+_+_<=_; omega
theorem Rr:∀ {l:List Wr},Dm l->(cat l).size<=3000000 * l.length
 | [],_=>Nat.le_refl _
 | w :: l,h=>by
   have h1:=cm (h w (List.mem_cons_self ..))
   have h2:=Rr (l:=l) (fun v hv=>h v (List.mem_cons_of_mem _ hv))
   rw [cat,ByteArray.size_append,List.length_cons]; omega
theorem Tk {l:List Wr}(h:Dm l)(i:Nat):Dm (l.take i):=fun w hw=>h w (List.mem_of_mem_take hw)
theorem Nh (K:Nat)(l:List Wr)(hl:Dm l)(hn:l.length<=1000)(hK:5<=K)(A:ByteArray)(hA:A.size<=1000)(i:Nat)(hi:i < l.length) :
   QG K l (A ++ cat (l.take i),(i:Int))=some (.inl (A ++ cat (l.take (i+1)),((i+1:Nat):Int))):=by
 have hli:l[i]? = some l[i]:=List.getElem?_eq_getElem hi
 have hs:=hl _ (List.getElem_mem hi)
 have hc:=Rr (Tk hl i)
 rw [List.length_take] at hc
 have e1:=Kb hK l[i].1 (by omega)
 have e2:=Kb hK l[i].2.2 (by omega)
 have s1:=DW l[i].1
 have s2:=DW l[i].2.2
 have h1:=(Bu _ (IC l[i].1)).2
 have h2:=(Bu _ (IC l[i].2.2)).2
 unfold QG
 simp only [DP,Int.toNat_natCast,hli,Option.bind_some,e1,e2]
 rw [AK (by omega),BK (by omega) (by omega),AM hi,SI,wb]
 cases l[i].2.1 with
 | true =>
   rw [cond_true,cond_true,BB (by show 1+_<=_; omega),BB (by rw [ByteArray.size_append,ByteArray.size_append]; show _+_+(1+_)<=_; omega),Option.bind_some,ByteArray.append_assoc]; rfl
 | false =>
   rw [cond_false,cond_false,BB (by show 1+_<=_; omega),BB (by rw [ByteArray.size_append]; show 1+_+_<=_; omega),BB (by rw [ByteArray.size_append,ByteArray.size_append,ByteArray.size_append]; show _+_+(1+_+_)<=_; omega),Option.bind_some,ByteArray.append_assoc]; rfl
theorem HC {l:List Wr}(h:Bq l=0):1<=l.length/\l.length<=8:=by
 unfold Bq at h
 split at h
 · omega
 · omega
noncomputable def fK (l:List Wr):ByteArray × Int:=if Bq l=0 then (bb l,0) else (⟨#[]⟩,Bq l)
theorem VS (n:Nat)(hn:n<=8):(strOfNums (nI n)).size<=5:=by
 rw [strOfNums_size]; exact (Bu n (by omega)).2
theorem Pb (K:Nat)(l:List Wr)(hl:Dm l)(hK:2000000<=K):nw K l=some (fK l):=by
 unfold nw fK
 rw [FY K l (fun w hw=>by have:=hl w hw; omega) hK,Option.bind_some]
 by_cases h:Bq l=0
 · have hn:=HC h
   have hz:=VS l.length hn.2
   rw [h,show ((0:Int) != 0)=false from rfl,cond_false,if_pos rfl,Kt (by omega) (by omega),MM (by omega) l.length (by omega),Option.bind_some]
   rw [BE (r:=bb l) (fun i=>(strOfNums (nI l.length) ++ cat (l.take i),(i:Int))) l.length (by simp only [List.take_zero,cat,Ld]; rfl) (by omega) (fun i hi=>Nh K l hl (by omega) (by omega) _ (by omega) i hi) (by unfold QG; rw [AJ (by omega),List.take_length]; rfl)]
   rfl
 · rw [bne_iff_ne.2 h,cond_true,if_neg h]
end Go.Proofs.YthoimblkpcikdaaGreatDoor.PBatch2

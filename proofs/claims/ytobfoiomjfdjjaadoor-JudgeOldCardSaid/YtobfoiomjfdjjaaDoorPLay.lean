/- Numbers and texts as bytes: the plain part, and what the functions of lay and the document's compute. -/
import Derived.Test.YtobfoiomjfdjjaaDoorPlain
import Derived.Test.YtobfoiomjfdjjaaDoorMLay
import Derived.Test.YtobfoiomjfdjjaaDoorPureRune
import Derived.Test.YtobfoiomjfdjjaaDoorPureKeys
namespace Go.Proofs.YtobfoiomjfdjjaaDoor.PLay
open Go.RowKit Go.Proofs.YtobfoiomjfdjjaaDoor.Mc Go.Proofs.YtobfoiomjfdjjaaDoor.N Go.Proofs.YtobfoiomjfdjjaaDoor.MLay Go.Proofs.YtobfoiomjfdjjaaDoor.Plain Go.Proofs.YtobfoiomjfdjjaaDoor.PureRune Go.Proofs.YtobfoiomjfdjjaaDoor.PureKeys
set_option linter.unusedSimpArgs false
set_option linter.unusedVariables false
theorem cY {β:Type}{c:Bool}{k:Option β}(h:c=true):Bl c k=k:=by subst h; rfl
def nI (v:Nat):List Int:=(NZ v).map fun x:Nat=>(x:Int)
theorem Tv {v:Nat}(h:v < 128):nI v=[(v:Int)]:=by rw [nI,Gh h]; rfl
theorem Zm {v:Nat}(h:¬ v < 128):nI v=((v:Int) % 128+128) :: nI (v / 128):=by rw [nI,Nr h]; simp [nI]
theorem wrap_u8 (x:Int):IntKind.u8.wrap x=x % 256:=rfl
theorem ZK (v:Nat):Go.bits .or .u8 (IntKind.wrap .u8 (v:Int)) 128=(v:Int) % 128+128:=by
 rw [wrap_u8,XQ _ (by omega) (by omega)]; omega
theorem XK (v:Nat):Int.fdiv (v:Int) 128=((v / 128:Nat):Int):=by rw [Int.fdiv_eq_ediv_of_nonneg _ (by omega)]; omega
theorem DD (v:Nat)(hv:v < 4294967296):1<=(nI v).length/\(nI v).length<=5:=by
 have:=Im 4 v (Nat.lt_of_lt_of_le hv (by decide))
 simpa [nI] using this
def ln (s:ByteArray):Nat:=s.size % 4294967296
theorem Lw (s:ByteArray):ln s < 4294967296:=Nat.mod_lt _ (by decide)
theorem Yg (s:ByteArray):IntKind.wrap .u32 (s.size:Int)=(ln s:Int):=by rw [wrap_u32]; unfold ln; omega
theorem LP (xs:List Int):(strOfNums xs).size=xs.length:=strOfNums_size xs
theorem Ov (K:Nat):∀ (d n v:Nat) (acc:List Int),d < n->v < 128 ^ (d+1)->acc.length+d<=1000->∃ r,AX (SJ K) n ((v:Int),acc)=some r/\r.2 ++ [IntKind.wrap .u8 r.1]=acc ++ nI v/\r.2.length<=1000
 | d,0,v,acc,hn,_,_=>by omega
 | d,n+1,v,acc,hn,hv,ha=>by
   by_cases h:v < 128
   · refine ⟨((v:Int),acc),Am (by unfold SJ; rw [BT (by omega)]),?_,by show acc.length<=1000; omega⟩
     rw [Tv h,wrap_u8]
     show acc ++ [(v:Int) % 256]=_
     rw [show (v:Int) % 256=(v:Int) by omega]
   · cases d with
     | zero=>simp at hv; omega
     | succ d =>
       obtain ⟨r,r1,r2,r3⟩:=Ov K d n (v / 128) (acc ++ [(v:Int) % 128+128]) (by omega) (by rw [Nat.div_lt_iff_lt_mul (by decide)]; rw [Nat.pow_succ] at hv; exact hv) (by simp only [List.length_append,List.length_singleton]; omega)
       refine ⟨r,?_,by rw [r2,Zm h,List.append_assoc]; rfl,r3⟩
       rw [Av (b:=(((v / 128:Nat):Int),acc ++ [(v:Int) % 128+128]))]
       · exact r1
       · unfold SJ
         rw [BC (by omega),Ew (by simp only [List.length_singleton]; omega),ZK,show ((2:Int) ^ 7)=128 from rfl,XK]
theorem SN {K:Nat}(hk:5<=K)(v:Nat)(hv:v < 4294967296):bU K (v:Int)=some (strOfNums (nI v)):=by
 obtain ⟨r,r1,r2,r3⟩:=Ov K 4 K v [] (by omega) (Nat.lt_of_lt_of_le hv (by decide)) (by simp)
 unfold bU
 rw [r1,Option.bind_some,Ew (by simp only [List.length_singleton]; omega),r2,List.nil_append]
def tx (s:ByteArray):ByteArray:=strOfNums (nI (ln s)) ++ s
theorem Pf {K:Nat}(hk:5<=K)(s:ByteArray)(hs:s.size<=140737488351232):Zv K s=some (tx s):=by
 unfold Zv tx
 rw [Yg,SN hk _ (Lw s),Option.bind_some,cY]
 have:=DD _ (Lw s)
 rw [LP]
 exact decide_eq_true (by omega)
theorem HG (s:ByteArray):(tx s).size=(nI (ln s)).length+s.size:=by unfold tx; rw [ByteArray.size_append,strOfNums_size]
def fR (c:Int)(i:Nat):Prop:=((i:Int)=4/\c > 15)\/((i:Int) > 0/\c=0)
instance (c:Int) (i:Nat):Decidable (fR c i):=inferInstanceAs (Decidable (_\/_))
end Go.Proofs.YtobfoiomjfdjjaaDoor.PLay

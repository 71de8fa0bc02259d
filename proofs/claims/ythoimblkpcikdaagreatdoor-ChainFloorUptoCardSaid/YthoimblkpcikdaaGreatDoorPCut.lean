/- Cut: the program's and the reference's. -/
import Derived.Test.YthoimblkpcikdaaGreatDoorPJoin2
import Derived.Test.YthoimblkpcikdaaGreatDoorPG4
import Derived.Test.YthoimblkpcikdaaGreatDoorPMkR
namespace Go.Proofs.YthoimblkpcikdaaGreatDoor.PCut
open Go.Proofs.YthoimblkpcikdaaGreatDoor.PJoin
open Go.RowKit Go.Proofs.YthoimblkpcikdaaGreatDoor.Mc Go.Proofs.YthoimblkpcikdaaGreatDoor.N Go.Proofs.YthoimblkpcikdaaGreatDoor.Plain Go.Proofs.YthoimblkpcikdaaGreatDoor.PBatch1 Go.Proofs.YthoimblkpcikdaaGreatDoor.PBatch2 Go.Proofs.YthoimblkpcikdaaGreatDoor.PG4 Go.Proofs.YthoimblkpcikdaaGreatDoor.PPiece Go.Proofs.YthoimblkpcikdaaGreatDoor.PLay
open Go.Proofs.YthoimblkpcikdaaGreatDoor.PCrc (Zj FI LI Lu)
set_option linter.unusedSimpArgs false
set_option linter.unusedVariables false
theorem Dj (K:Nat) (n m:Int) (h0:0 < m) (h1:m<=1000000000):bQ K n m=some (n % m):=by
 have ha:=Int.tmod_lt_of_pos n h0
 have hb : -m < n.tmod m:=by
   rcases Int.le_total 0 n with h | h
   · have:=Int.tmod_nonneg m h; omega
   · have:=Int.tmod_lt_of_pos (-n) h0
     rw [Int.neg_tmod] at this
     omega
 unfold bQ
 rw [Ec (by rw [bne_iff_ne]; omega),<- Ov h0]
 by_cases h:n.tmod m < 0
 · rw [AK h,if_pos h,Option.bind_some,BK (by omega) (by omega)]
 · rw [AJ h,if_neg h,Option.bind_some]
theorem aJ (K:Nat)(a b c:Int):F8 K a b c=some (32+a % 33,3+b % 4,4+c % 4):=by
 have h1:=Int.emod_nonneg a (show (33:Int) ≠ 0 by omega)
 have h2:=Int.emod_lt_of_pos a (show (0:Int) < 33 by omega)
 have h3:=Int.emod_nonneg b (show (4:Int) ≠ 0 by omega)
 have h4:=Int.emod_lt_of_pos b (show (0:Int) < 4 by omega)
 have h5:=Int.emod_nonneg c (show (4:Int) ≠ 0 by omega)
 have h6:=Int.emod_lt_of_pos c (show (0:Int) < 4 by omega)
 unfold F8
 rw [Dj K a 33 (by omega) (by omega),Dj K b 4 (by omega) (by omega),Dj K c 4 (by omega) (by omega),Option.bind_some,Option.bind_some,Option.bind_some,BK (by omega) (by omega),BK (by omega) (by omega),BK (by omega) (by omega)]
def Ag (p n r:Int):Prop:=32<=p/\p<=128/\3<=n/\n<=10/\4<=r/\r<=12
instance (p n r:Int):Decidable (Ag p n r):=by unfold Ag; infer_instance
theorem Uf (a b c:Int):Ag (32+a % 33) (3+b % 4) (4+c % 4):=by unfold Ag; omega
theorem TG (p:Prop)[Decidable p](q:Prop)[Decidable q]:cond (decide p) (some (decide q)) (some false)=some (decide (p/\q)):=by
 by_cases h:p <;> by_cases h2:q <;> simp [h,h2]
theorem Nj (K:Nat)(p n r:Int):nb K p n r=some (decide (Ag p n r)):=by
 unfold nb Ag
 simp only [TG]
theorem GS (K:Nat)(p n r:Int):dG K p n r=some (decide (Ag p n r)):=by
 unfold dG Ag
 simp only [TG]
theorem KI (K:Nat){p n r:Int}(h:Ag p n r):gk K p n r=some (p - 15):=by
 unfold gk
 unfold Ag at h
 rw [BK (by omega) (by omega)]
theorem Dc (K:Nat){p n r:Int}(h:Ag p n r):mC K p n r=some (n - 1):=by
 unfold mC
 unfold Ag at h
 rw [GS,Option.bind_some,decide_eq_true (show Ag p n r from h),Bool.not_true,cond_false,BK (by omega) (by omega)]
theorem CB (K:Nat){p n r:Int}(h:Ag p n r):ed K p n r=some (n - 1):=by
 unfold ed
 unfold Ag at h
 rw [BK (by omega) (by omega)]
theorem Oa {a b:Int}(h0:0<=a)(h1:a<=9)(h2:0<=b)(h3:b<=9):0<=a * b/\a * b<=81:=by
 refine ⟨Int.mul_nonneg h0 h2,?_⟩
 have:=Int.mul_le_mul h1 h3 h2 (show (0:Int)<=9 by omega)
 omega
theorem TI (K:Nat){p n r:Int}(h:Ag p n r):nZ K p n r=some ((r - 3) * (n - 1)):=by
 unfold nZ
 have h':=h
 unfold Ag at h
 have hm:=Oa (a:=r - 3) (b:=n - 1) (by omega) (by omega) (by omega) (by omega)
 rw [CB K h', Option.bind_some,BK (x:=r - 3) (by omega) (by omega),BK (by omega) (by omega)]
def Gm (s:Nat)(r:Nat):Nat:=(s+r - 1) / r
theorem Pr (s r i:Nat)(hr:0 < r):i < Gm s r ↔ i * r < s:=by
 unfold Gm
 rw [Nat.lt_iff_add_one_le,Nat.le_div_iff_mul_le hr,Nat.add_mul,Nat.one_mul]
 omega
theorem Jb (s r:Nat)(hr:0 < r):Gm s r<=s:=by
 unfold Gm
 rw [Nat.div_le_iff_le_mul_add_pred hr]
 have:=Nat.le_mul_of_pos_left s hr
 omega
theorem SH (K:Nat){p n g:Int}(h:Ag p n g)(s r:Nat)(hr:(r:Int)=p - 15)(h1:1<=s)(h2:s<=1000000):nY K p n g (s:Int)=some ((Gm s r+1:Nat):Int):=by
 have h':=h
 unfold Ag at h
 have hc:=Jb s r (by omega)
 have hmn:mn (mx (s:Int) 1) 1048576=(s:Int):=by
   unfold mn mx; split <;> (try split) <;> omega
 have hd:((s:Int)+(p - 15) - 1).tdiv (p - 15)=((Gm s r:Nat):Int):=by
   rw [<- hr,show (s:Int)+(r:Int) - 1=((s+r - 1:Nat):Int) by omega]; rfl
 unfold nY
 rw [KI K h', Option.bind_some,Option.bind_some,Ec (by rw [bne_iff_ne]; omega),hmn,BK (x:=(s:Int)+(p - 15)) (by omega) (by omega),BK (x:=(s:Int)+(p - 15) - 1) (by omega) (by omega),hd,BK (x:=((Gm s r:Nat):Int)) (by omega) (by omega),BK (by omega) (by omega)]
 congr 1
def prt (b:ByteArray)(sq:Int)(r i:Nat):Fr:=(2,sq,(i:Int),b.extract (i * r) (min ((i+1) * r) b.size))
def Kx (b:ByteArray)(sq:Int)(r n:Nat):List Fr:=(List.range n).map (prt b sq r)
theorem Eo (b:ByteArray)(sq:Int)(r n:Nat):(Kx b sq r n).length=n:=by simp [Kx]
theorem XJ (b:ByteArray)(sq:Int)(r n:Nat):Kx b sq r (n+1)=Kx b sq r n ++ [prt b sq r n]:=by
 unfold Kx
 rw [List.range_succ,List.map_append]; rfl
theorem dw (b:ByteArray)(sq:Int)(r n i:Nat)(h:i < n):(Kx b sq r n)[i]? = some (prt b sq r i):=by
 unfold Kx
 rw [List.getElem?_map,List.getElem?_range h]; rfl
def sb (pv fr:Int)(b:ByteArray):ByteArray:=s4 pv fr (Zj b) (b.size:Int)
def uD (b:ByteArray)(sq pv fr:Int)(r:Nat):Fr:=(3,sq,((Gm b.size r:Nat):Int),sb pv fr b)
def iQ (b:ByteArray)(sq pv fr:Int)(r:Nat):List Fr:=Kx b sq r (Gm b.size r) ++ [uD b sq pv fr r]
theorem dm (b:ByteArray)(sq pv fr:Int)(r:Nat):(iQ b sq pv fr r).length=Gm b.size r+1:=by
 unfold iQ; rw [List.length_append,Eo]; rfl
theorem nJ (b:ByteArray):U (Zj b):=by
 have:=Lu b b.size
 unfold U Zj
 omega
theorem cX (b:ByteArray)(sq:Int)(r i:Nat)(hr:0 < r)(h:i < Gm b.size r)(h1:1<=sq)(h2:sq<=2147483647):pr 2 sq (i:Int) (b.extract (i * r) (min ((i+1) * r) b.size))=true:=by
 have hib:=(Pr b.size r i hr).1 h
 have hmul:(i+1) * r=i * r+r:=by rw [Nat.add_mul,Nat.one_mul]
 have hs:0 < (b.extract (i * r) (min ((i+1) * r) b.size)).size:=by rw [ByteArray.size_extract]; omega
 generalize b.extract (i * r) (min ((i+1) * r) b.size)=t at hs
 unfold pr
 rw [decide_eq_false (by omega),decide_eq_false (by omega),Bool.or_self,cond_false]
 rw [show ((2:Int) == 1)=false from rfl,show ((2:Int) == 2)=true from rfl,cond_false,cond_true,PFd.gf,decide_eq_false]
 · rfl
 · intro e; subst e; exact absurd hs (by decide)
theorem dZ (sq k pv fr c z:Int)(h1:1<=sq)(h2:sq<=2147483647)(hk:k ≠ 0)(hp:0<=pv)(hps:pv < sq)(hf:1<=fr)(hfs:fr<=sq)(hz:U z)(hz0:z ≠ 0):pr 3 sq k (s4 pv fr c z)=true:=by
 unfold pr
 rw [decide_eq_false (by omega),decide_eq_false (by omega),Bool.or_self,cond_false]
 rw [show ((3:Int) == 1)=false from rfl,show ((3:Int) == 2)=false from rfl,show ((3:Int) == 3)=true from rfl,cond_false,cond_false,cond_true,Ve,bne_iff_ne.2 hk,cond_true,show (((16:Nat):Int) == 16)=true from rfl,cond_true]
 rw [pR _ _ _ (by unfold U; omega),sH _ _ _ (by unfold U; omega),kS _ _ _ hz,decide_eq_true hps,decide_eq_true hf,decide_eq_true hfs,bne_iff_ne.2 hz0]; rfl
theorem YQ (K:Nat) (hK:2000000<=K) (p n g sq:Int) (h:Ag p n g) (b:ByteArray) (c:Int) (hb:b.size<=1000000) (r:Nat) (hr:(r:Int)=p - 15):AE (QO K p n g sq (b,c)) K (0,[])=some (Kx b sq r (Gm b.size r)):=by
 have h':=h
 obtain ⟨h1,h2,_⟩:=h
 have hr0:0 < r:=by omega
 have hcl:=Jb b.size r hr0
 refine BE (fun i=>(((i * r:Nat):Int),Kx b sq r i)) (Gm b.size r) (by simp [Kx]) (by omega) (fun i hi=>?_) ?_
 · have hib:=(Pr b.size r i hr0).1 hi
   have hmul:(i+1) * r=i * r+r:=by rw [Nat.add_mul,Nat.one_mul]
   unfold QO
   dsimp only
   rw [AK (by omega),KI K h', Option.bind_some,BK (x:=((i * r:Nat):Int)+(p - 15)) (by omega) (by omega)]
   have hmn:mn (((i * r:Nat):Int)+(p - 15)) (b.size:Int)=((min ((i+1) * r) b.size:Nat):Int):=by
     unfold mn
     rw [hmul,<- hr]
     split <;> omega
   rw [hmn,Ec (by unfold Be; rw [hmul]; exact decide_eq_true (by omega)),BB (by rw [Eo]; simp only [List.length_singleton]; omega),Option.bind_some,Eo,Kt (by omega) (by omega),XJ,Int.toNat_natCast,Int.toNat_natCast]
   unfold prt
   rw [<- hr,hmul,BK (by omega) (by omega)]
   congr 3
 · have hend:¬ Gm b.size r * r < b.size:=fun hlt=>absurd ((Pr b.size r (Gm b.size r) hr0).2 hlt) (by omega)
   unfold QO
   dsimp only
   rw [AJ (by omega)]
theorem jG {w:Wr}(hk:w.1.size<=48)(hv:w.2.2.size<=48):(wb w).size<=110:=by
 unfold wb
 have h1:=DW w.1
 have h2:=DW w.2.2
 have h3:=(Bu _ (IC w.1)).2
 have h4:=(Bu _ (IC w.2.2)).2
 have e1:(⟨#[1]⟩:ByteArray).size=1:=rfl
 have e0:(⟨#[0]⟩:ByteArray).size=1:=rfl
 cases w.2.1 with
 | true=>rw [cond_true,ByteArray.size_append]; omega
 | false=>rw [cond_false,ByteArray.size_append,ByteArray.size_append]; omega
theorem VC:∀ {l:List Wr},(∀ w ∈ l,w.1.size<=48/\w.2.2.size<=48)->(cat l).size<=110 * l.length
 | [],_=>by unfold cat; exact Nat.le_refl _
 | w :: l,h=>by
   have h1:=jG (h w (by simp)).1 (h w (by simp)).2
   have h2:=VC (l:=l) (fun v hv=>h v (by simp [hv]))
   unfold cat
   rw [ByteArray.size_append,List.length_cons]
   omega
theorem JD {l:List Wr}(h:Bq l=0):∀ w ∈ l,kr w.1=true/\w.1.size<=48/\w.2.2.size<=48:=by
 intro w hw
 have hl:=HC h
 unfold Bq at h
 rw [if_neg (by omega)] at h
 obtain ⟨j,hj,e⟩:=List.getElem_of_mem hw
 have hz:=IK _ _ _ h j (by omega) (by omega)
 have hlj:l[j]? = some w:=by rw [List.getElem?_eq_getElem hj,e]
 have hk:=Lz hlj hz
 rw [IZ hlj,hk] at hz
 refine ⟨hk,IQ hk,?_⟩
 by_cases oC:48 < w.2.2.size
 · rw [decide_eq_true oC] at hz
   simp [pk] at hz
 · omega
theorem Zh {l:List Wr}(h:Bq l=0):1<=(bb l).size/\(bb l).size<=900:=by
 have hl:=HC h
 have h1:=VC (l:=l) (fun w hw=>⟨(JD h w hw).2.1,(JD h w hw).2.2⟩)
 have h2:=VS l.length hl.2
 have h3:=(Bu l.length (by omega)).1
 have h4:(strOfNums (nI l.length)).size=(nI l.length).length:=strOfNums_size _
 unfold bb
 rw [ByteArray.size_append]
 omega
noncomputable def cV (p n g sq pv fr:Int)(w:List Wr):Int ⊕ (Int × List Fr) :=
 if ¬ Ag p n g then .inl 1 else if Bq w ≠ 0 then .inl (Bq w) else if sq<=pv\/fr < 1\/sq < fr\/2147483647 < sq then .inl 2 else if (g - 3) * (n - 1) < ((Gm (bb w).size (p - 15).toNat+1:Nat):Int) then .inl 14 else .inr (0,iQ (bb w) sq pv fr (p - 15).toNat)
theorem or4 (a b c d:Prop)[Decidable a][Decidable b][Decidable c][Decidable d]:(cond (decide a) (some true) (cond (decide b) (some true) (cond (decide c) (some true) (some (decide d)))):Option Bool)=some (decide (a\/b\/c\/d)):=by
 by_cases h1:a <;> by_cases h2:b <;> by_cases h3:c <;> by_cases h4:d <;> simp [h1,h2,h3,h4]
theorem Lg (K:Nat) (hK:2000000<=K) (p n g sq pv fr:Int) (hpv:0<=pv) (w:List Wr) (hw:Dm w):lQ K p n g sq pv fr w=some (cV p n g sq pv fr w):=by
 unfold lQ cV
 rw [Nj,Option.bind_some]
 by_cases hR:Ag p n g
 · rw [decide_eq_true hR,Bool.not_true,cond_false,if_neg (not_not_intro hR),Pb K w hw hK,Option.bind_some]
   unfold fK
   by_cases hb:Bq w=0
   · rw [if_pos hb,if_neg (not_not_intro hb)]
     have hf:=Zh hb
     generalize bb w=b at *
     dsimp only
     rw [bne_self_eq_false,cond_false,or4,Option.bind_some]
     by_cases hq:sq<=pv\/fr < 1\/sq < fr\/2147483647 < sq
     · rw [decide_eq_true hq,cond_true,if_pos hq]
     · rw [decide_eq_false hq,cond_false,if_neg hq]
       have hRR:=hR
       unfold Ag at hR
       have hr:((p - 15).toNat:Int)=p - 15:=by omega
       generalize (p - 15).toNat=r at *
       have hcl:=Jb b.size r (by omega)
       rw [SH K hRR b.size r hr hf.1 (by omega),Option.bind_some,TI K hRR,Option.bind_some]
       by_cases hm:(g - 3) * (n - 1) < ((Gm b.size r+1:Nat):Int)
       · rw [AK hm,if_pos hm]
       · rw [AJ hm,if_neg hm,YQ K hK p n g sq hRR b 0 (by omega) r hr,Option.bind_some]
         have hU:=nJ b
         rw [Ez K pv hpv (by omega),Option.bind_some,Ez K fr (by omega) (by omega),Option.bind_some,BB (by rw [Bd,Bd]; omega),FI K (by omega) b (by omega) (by omega),Option.bind_some,Ez K _ hU.1 hU.2,Option.bind_some,BB (by rw [ByteArray.size_append,Bd,Bd,Bd]; omega),Kt (x:=(b.size:Int)) (by omega) (by omega),Ez K _ (by omega) (by omega),Option.bind_some,BB (by rw [ByteArray.size_append,ByteArray.size_append,Bd,Bd,Bd,Bd]; omega),BB (by rw [Eo]; simp only [List.length_singleton]; omega),Eo,Kt (by omega) (by omega)]
         rfl
   · rw [if_neg hb,if_pos hb,bne_iff_ne.2 hb,cond_true]
 · rw [decide_eq_false hR,Bool.not_false,cond_true,if_pos hR]
end Go.Proofs.YthoimblkpcikdaaGreatDoor.PCut

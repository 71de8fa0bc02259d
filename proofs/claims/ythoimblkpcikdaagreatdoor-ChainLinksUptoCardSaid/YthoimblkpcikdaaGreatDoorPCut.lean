/- Cut: the program's and the reference's. -/
import Derived.Test.YthoimblkpcikdaaGreatDoorPJoin2
import Derived.Test.YthoimblkpcikdaaGreatDoorPG4
import Derived.Test.YthoimblkpcikdaaGreatDoorPMkR
namespace Go.Proofs.YthoimblkpcikdaaGreatDoor.PCut
open Go.Proofs.YthoimblkpcikdaaGreatDoor.PJoin
open Go.RowKit Go.Proofs.YthoimblkpcikdaaGreatDoor.Mc Go.Proofs.YthoimblkpcikdaaGreatDoor.N Go.Proofs.YthoimblkpcikdaaGreatDoor.Plain Go.Proofs.YthoimblkpcikdaaGreatDoor.PBatch1 Go.Proofs.YthoimblkpcikdaaGreatDoor.PBatch2 Go.Proofs.YthoimblkpcikdaaGreatDoor.PG4 Go.Proofs.YthoimblkpcikdaaGreatDoor.PPiece Go.Proofs.YthoimblkpcikdaaGreatDoor.PLay
open Go.Proofs.YthoimblkpcikdaaGreatDoor.PCrc (YX EH Lv Ns)
set_option linter.unusedSimpArgs false
set_option linter.unusedVariables false
theorem FG (K:Nat) (n m:Int) (h0:0 < m) (h1:m<=1000000000):dU K n m=some (n % m):=by
 have ha:=Int.tmod_lt_of_pos n h0
 have hb : -m < n.tmod m:=by
   rcases Int.le_total 0 n with h | h
   · have:=Int.tmod_nonneg m h; omega
   · have:=Int.tmod_lt_of_pos (-n) h0
     rw [Int.neg_tmod] at this
     omega
 unfold dU
 rw [FY (by rw [bne_iff_ne]; omega),<- PR h0]
 by_cases h:n.tmod m < 0
 · rw [AE h,if_pos h,Option.bind_some,Aq (by omega) (by omega)]
 · rw [AF h,if_neg h,Option.bind_some]
theorem UQ (K:Nat)(a b c:Int):F8 K a b c=some (32+a % 33,3+b % 4,4+c % 4):=by
 have h1:=Int.emod_nonneg a (show (33:Int) ≠ 0 by omega)
 have h2:=Int.emod_lt_of_pos a (show (0:Int) < 33 by omega)
 have h3:=Int.emod_nonneg b (show (4:Int) ≠ 0 by omega)
 have h4:=Int.emod_lt_of_pos b (show (0:Int) < 4 by omega)
 have h5:=Int.emod_nonneg c (show (4:Int) ≠ 0 by omega)
 have h6:=Int.emod_lt_of_pos c (show (0:Int) < 4 by omega)
 unfold F8
 rw [FG K a 33 (by omega) (by omega),FG K b 4 (by omega) (by omega),FG K c 4 (by omega) (by omega),Option.bind_some,Option.bind_some,Option.bind_some,Aq (by omega) (by omega),Aq (by omega) (by omega),Aq (by omega) (by omega)]
def Ah (p n r:Int):Prop:=32<=p/\p<=128/\3<=n/\n<=10/\4<=r/\r<=12
instance (p n r:Int):Decidable (Ah p n r):=by unfold Ah; infer_instance
theorem NN (a b c:Int):Ah (32+a % 33) (3+b % 4) (4+c % 4):=by unfold Ah; omega
theorem UX (p:Prop)[Decidable p](q:Prop)[Decidable q]:cond (decide p) (some (decide q)) (some false)=some (decide (p/\q)):=by
 by_cases h:p <;> by_cases h2:q <;> simp [h,h2]
theorem PA (K:Nat)(p n r:Int):pR K p n r=some (decide (Ah p n r)):=by
 unfold pR Ah
 simp only [UX]
theorem HA (K:Nat)(p n r:Int):dz K p n r=some (decide (Ah p n r)):=by
 unfold dz Ah
 simp only [UX]
theorem LK (K:Nat){p n r:Int}(h:Ah p n r):kY K p n r=some (p - 15):=by
 unfold kY
 unfold Ah at h
 rw [Aq (by omega) (by omega)]
theorem Du (K:Nat){p n r:Int}(h:Ah p n r):ng K p n r=some (n - 1):=by
 unfold ng
 unfold Ah at h
 rw [HA,Option.bind_some,decide_eq_true (show Ah p n r from h),Bool.not_true,cond_false,Aq (by omega) (by omega)]
theorem CB (K:Nat){p n r:Int}(h:Ah p n r):kU K p n r=some (n - 1):=by
 unfold kU
 unfold Ah at h
 rw [Aq (by omega) (by omega)]
theorem Pg {a b:Int}(h0:0<=a)(h1:a<=9)(h2:0<=b)(h3:b<=9):0<=a * b/\a * b<=81:=by
 refine ⟨Int.mul_nonneg h0 h2,?_⟩
 have:=Int.mul_le_mul h1 h3 h2 (show (0:Int)<=9 by omega)
 omega
theorem SS (K:Nat){p n r:Int}(h:Ah p n r):pg K p n r=some ((r - 3) * (n - 1)):=by
 unfold pg
 have h':=h
 unfold Ah at h
 have hm:=Pg (a:=r - 3) (b:=n - 1) (by omega) (by omega) (by omega) (by omega)
 rw [CB K h', Option.bind_some,Aq (x:=r - 3) (by omega) (by omega),Aq (by omega) (by omega)]
def GW (s:Nat)(r:Nat):Nat:=(s+r - 1) / r
theorem Qd (s r i:Nat)(hr:0 < r):i < GW s r ↔ i * r < s:=by
 unfold GW
 rw [Nat.lt_iff_add_one_le,Nat.le_div_iff_mul_le hr,Nat.add_mul,Nat.one_mul]
 omega
theorem Jw (s r:Nat)(hr:0 < r):GW s r<=s:=by
 unfold GW
 rw [Nat.div_le_iff_le_mul_add_pred hr]
 have:=Nat.le_mul_of_pos_left s hr
 omega
theorem SP (K:Nat){p n g:Int}(h:Ah p n g)(s r:Nat)(hr:(r:Int)=p - 15)(h1:1<=s)(h2:s<=1000000):pb K p n g (s:Int)=some ((GW s r+1:Nat):Int):=by
 have h':=h
 unfold Ah at h
 have hc:=Jw s r (by omega)
 have hmn:mn (mx (s:Int) 1) 1048576=(s:Int):=by
   unfold mn mx; split <;> (try split) <;> omega
 have hd:((s:Int)+(p - 15) - 1).tdiv (p - 15)=((GW s r:Nat):Int):=by
   rw [<- hr,show (s:Int)+(r:Int) - 1=((s+r - 1:Nat):Int) by omega]; rfl
 unfold pb
 rw [LK K h', Option.bind_some,Option.bind_some,FY (by rw [bne_iff_ne]; omega),hmn,Aq (x:=(s:Int)+(p - 15)) (by omega) (by omega),Aq (x:=(s:Int)+(p - 15) - 1) (by omega) (by omega),hd,Aq (x:=((GW s r:Nat):Int)) (by omega) (by omega),Aq (by omega) (by omega)]
 congr 1
def prt (b:ByteArray)(sq:Int)(r i:Nat):Fr:=(2,sq,(i:Int),b.extract (i * r) (min ((i+1) * r) b.size))
def Lg (b:ByteArray)(sq:Int)(r n:Nat):List Fr:=(List.range n).map (prt b sq r)
theorem FA (b:ByteArray)(sq:Int)(r n:Nat):(Lg b sq r n).length=n:=by simp [Lg]
theorem Yq (b:ByteArray)(sq:Int)(r n:Nat):Lg b sq r (n+1)=Lg b sq r n ++ [prt b sq r n]:=by
 unfold Lg
 rw [List.range_succ,List.map_append]; rfl
theorem fY (b:ByteArray)(sq:Int)(r n i:Nat)(h:i < n):(Lg b sq r n)[i]? = some (prt b sq r i):=by
 unfold Lg
 rw [List.getElem?_map,List.getElem?_range h]; rfl
def sb (pv fr:Int)(b:ByteArray):ByteArray:=s4 pv fr (YX b) (b.size:Int)
def ub (b:ByteArray)(sq pv fr:Int)(r:Nat):Fr:=(3,sq,((GW b.size r:Nat):Int),sb pv fr b)
def ig (b:ByteArray)(sq pv fr:Int)(r:Nat):List Fr:=Lg b sq r (GW b.size r) ++ [ub b sq pv fr r]
theorem ft (b:ByteArray)(sq pv fr:Int)(r:Nat):(ig b sq pv fr r).length=GW b.size r+1:=by
 unfold ig; rw [List.length_append,FA]; rfl
theorem pB (b:ByteArray):U (YX b):=by
 have:=Ns b b.size
 unfold U YX
 omega
theorem eT (b:ByteArray)(sq:Int)(r i:Nat)(hr:0 < r)(h:i < GW b.size r)(h1:1<=sq)(h2:sq<=2147483647):pr 2 sq (i:Int) (b.extract (i * r) (min ((i+1) * r) b.size))=true:=by
 have hib:=(Qd b.size r i hr).1 h
 have hmul:(i+1) * r=i * r+r:=by rw [Nat.add_mul,Nat.one_mul]
 have hs:0 < (b.extract (i * r) (min ((i+1) * r) b.size)).size:=by rw [ByteArray.size_extract]; omega
 generalize b.extract (i * r) (min ((i+1) * r) b.size)=t at hs
 unfold pr
 rw [decide_eq_false (by omega),decide_eq_false (by omega),Bool.or_self,cond_false]
 rw [show ((2:Int) == 1)=false from rfl,show ((2:Int) == 2)=true from rfl,cond_false,cond_true,PFd.iu,decide_eq_false]
 · rfl
 · intro e; subst e; exact absurd hs (by decide)
theorem dr (sq k pv fr c z:Int)(h1:1<=sq)(h2:sq<=2147483647)(hk:k ≠ 0)(hp:0<=pv)(hps:pv < sq)(hf:1<=fr)(hfs:fr<=sq)(hz:U z)(hz0:z ≠ 0):pr 3 sq k (s4 pv fr c z)=true:=by
 unfold pr
 rw [decide_eq_false (by omega),decide_eq_false (by omega),Bool.or_self,cond_false]
 rw [show ((3:Int) == 1)=false from rfl,show ((3:Int) == 2)=false from rfl,show ((3:Int) == 3)=true from rfl,cond_false,cond_false,cond_true,Wl,bne_iff_ne.2 hk,cond_true,show (((16:Nat):Int) == 16)=true from rfl,cond_true]
 rw [qH _ _ _ (by unfold U; omega),sK _ _ _ (by unfold U; omega),oE _ _ _ hz,decide_eq_true hps,decide_eq_true hf,decide_eq_true hfs,bne_iff_ne.2 hz0]; rfl
theorem Zs (K:Nat) (hK:2000000<=K) (p n g sq:Int) (h:Ah p n g) (b:ByteArray) (c:Int) (hb:b.size<=1000000) (r:Nat) (hr:(r:Int)=p - 15):AB (Qm K p n g sq (b,c)) K (0,[])=some (Lg b sq r (GW b.size r)):=by
 have h':=h
 obtain ⟨h1,h2,_⟩:=h
 have hr0:0 < r:=by omega
 have hcl:=Jw b.size r hr0
 refine Ag (fun i=>(((i * r:Nat):Int),Lg b sq r i)) (GW b.size r) (by simp [Lg]) (by omega) (fun i hi=>?_) ?_
 · have hib:=(Qd b.size r i hr0).1 hi
   have hmul:(i+1) * r=i * r+r:=by rw [Nat.add_mul,Nat.one_mul]
   unfold Qm
   dsimp only
   rw [AE (by omega),LK K h', Option.bind_some,Aq (x:=((i * r:Nat):Int)+(p - 15)) (by omega) (by omega)]
   have hmn:mn (((i * r:Nat):Int)+(p - 15)) (b.size:Int)=((min ((i+1) * r) b.size:Nat):Int):=by
     unfold mn
     rw [hmul,<- hr]
     split <;> omega
   rw [hmn,FY (by unfold Bn; rw [hmul]; exact decide_eq_true (by omega)),Ak (by rw [FA]; simp only [List.length_singleton]; omega),Option.bind_some,FA,Iz (by omega) (by omega),Yq,Int.toNat_natCast,Int.toNat_natCast]
   unfold prt
   rw [<- hr,hmul,Aq (by omega) (by omega)]
   congr 3
 · have hend:¬ GW b.size r * r < b.size:=fun hlt=>absurd ((Qd b.size r (GW b.size r) hr0).2 hlt) (by omega)
   unfold Qm
   dsimp only
   rw [AF (by omega)]
theorem ja {w:Wr}(hk:w.1.size<=48)(hv:w.2.2.size<=48):(wb w).size<=110:=by
 unfold wb
 have h1:=Dj w.1
 have h2:=Dj w.2.2
 have h3:=(Bu _ (JN w.1)).2
 have h4:=(Bu _ (JN w.2.2)).2
 have e1:(⟨#[1]⟩:ByteArray).size=1:=rfl
 have e0:(⟨#[0]⟩:ByteArray).size=1:=rfl
 cases w.2.1 with
 | true=>rw [cond_true,ByteArray.size_append]; omega
 | false=>rw [cond_false,ByteArray.size_append,ByteArray.size_append]; omega
theorem XN:∀ {l:List Wr},(∀ w ∈ l,w.1.size<=48/\w.2.2.size<=48)->(cat l).size<=110 * l.length
 | [],_=>by unfold cat; exact Nat.le_refl _
 | w :: l,h=>by
   have h1:=ja (h w (by simp)).1 (h w (by simp)).2
   have h2:=XN (l:=l) (fun v hv=>h v (by simp [hv]))
   unfold cat
   rw [ByteArray.size_append,List.length_cons]
   omega
theorem JU {l:List Wr}(h:Bb l=0):∀ w ∈ l,kr w.1=true/\w.1.size<=48/\w.2.2.size<=48:=by
 intro w hw
 have hl:=Hc h
 unfold Bb at h
 rw [if_neg (by omega)] at h
 obtain ⟨j,hj,e⟩:=List.getElem_of_mem hw
 have hz:=JX _ _ _ h j (by omega) (by omega)
 have hlj:l[j]? = some w:=by rw [List.getElem?_eq_getElem hj,e]
 have hk:=Ip hlj hz
 rw [Gq hlj,hk] at hz
 refine ⟨hk,Fh hk,?_⟩
 by_cases po:48 < w.2.2.size
 · rw [decide_eq_true po] at hz
   simp [qu] at hz
 · omega
theorem cR {l:List Wr}(h:Bb l=0):1<=(bb l).size/\(bb l).size<=900:=by
 have hl:=Hc h
 have h1:=XN (l:=l) (fun w hw=>⟨(JU h w hw).2.1,(JU h w hw).2.2⟩)
 have h2:=XD l.length hl.2
 have h3:=(Bu l.length (by omega)).1
 have h4:(strOfNums (nI l.length)).size=(nI l.length).length:=strOfNums_size _
 unfold bb
 rw [ByteArray.size_append]
 omega
noncomputable def fU (p n g sq pv fr:Int)(w:List Wr):Int ⊕ (Int × List Fr) :=
 if ¬ Ah p n g then .inl 1 else if Bb w ≠ 0 then .inl (Bb w) else if sq<=pv\/fr < 1\/sq < fr\/2147483647 < sq then .inl 2 else if (g - 3) * (n - 1) < ((GW (bb w).size (p - 15).toNat+1:Nat):Int) then .inl 14 else .inr (0,ig (bb w) sq pv fr (p - 15).toNat)
theorem or4 (a b c d:Prop)[Decidable a][Decidable b][Decidable c][Decidable d]:(cond (decide a) (some true) (cond (decide b) (some true) (cond (decide c) (some true) (some (decide d)))):Option Bool)=some (decide (a\/b\/c\/d)):=by
 by_cases h1:a <;> by_cases h2:b <;> by_cases h3:c <;> by_cases h4:d <;> simp [h1,h2,h3,h4]
theorem Ng (K:Nat) (hK:2000000<=K) (p n g sq pv fr:Int) (hpv:0<=pv) (w:List Wr) (hw:DK w):pE K p n g sq pv fr w=some (fU p n g sq pv fr w):=by
 unfold pE fU
 rw [PA,Option.bind_some]
 by_cases hR:Ah p n g
 · rw [decide_eq_true hR,Bool.not_true,cond_false,if_neg (not_not_intro hR),QQ K w hw hK,Option.bind_some]
   unfold iJ
   by_cases hb:Bb w=0
   · rw [if_pos hb,if_neg (not_not_intro hb)]
     have hf:=cR hb
     generalize bb w=b at *
     dsimp only
     rw [bne_self_eq_false,cond_false,or4,Option.bind_some]
     by_cases hq:sq<=pv\/fr < 1\/sq < fr\/2147483647 < sq
     · rw [decide_eq_true hq,cond_true,if_pos hq]
     · rw [decide_eq_false hq,cond_false,if_neg hq]
       have hRR:=hR
       unfold Ah at hR
       have hr:((p - 15).toNat:Int)=p - 15:=by omega
       generalize (p - 15).toNat=r at *
       have hcl:=Jw b.size r (by omega)
       rw [SP K hRR b.size r hr hf.1 (by omega),Option.bind_some,SS K hRR,Option.bind_some]
       by_cases hm:(g - 3) * (n - 1) < ((GW b.size r+1:Nat):Int)
       · rw [AE hm,if_pos hm]
       · rw [AF hm,if_neg hm,Zs K hK p n g sq hRR b 0 (by omega) r hr,Option.bind_some]
         have hU:=pB b
         rw [Gf K pv hpv (by omega),Option.bind_some,Gf K fr (by omega) (by omega),Option.bind_some,Ak (by rw [Bi,Bi]; omega),EH K (by omega) b (by omega) (by omega),Option.bind_some,Gf K _ hU.1 hU.2,Option.bind_some,Ak (by rw [ByteArray.size_append,Bi,Bi,Bi]; omega),Iz (x:=(b.size:Int)) (by omega) (by omega),Gf K _ (by omega) (by omega),Option.bind_some,Ak (by rw [ByteArray.size_append,ByteArray.size_append,Bi,Bi,Bi,Bi]; omega),Ak (by rw [FA]; simp only [List.length_singleton]; omega),FA,Iz (by omega) (by omega)]
         rfl
   · rw [if_neg hb,if_pos hb,bne_iff_ne.2 hb,cond_true]
 · rw [decide_eq_false hR,Bool.not_false,cond_true,if_pos hR]
end Go.Proofs.YthoimblkpcikdaaGreatDoor.PCut

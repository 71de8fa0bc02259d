/- Plain laws' tools: loops, wraps, indices. -/
import Derived.Test.YtobfoiomjfdjjaaDoorX2
namespace Go.Proofs.YtobfoiomjfdjjaaDoor.Plain
open Go.RowKit Go.Proofs.YtobfoiomjfdjjaaDoor.Mc
theorem LS {x:Int}(h0 : -9223372036854775808<=x)(h1:x < 9223372036854775808):IntKind.wrap .i64 x=x:=by
 unfold IntKind.wrap
 have e1:IntKind.signed .i64=true:=rfl
 have e2:IntKind.bits .i64=64:=rfl
 simp only [e1,e2]
 simp
 omega
theorem w32 {x:Int}(h0:0<=x)(h1:x < 4294967296):IntKind.wrap .u32 x=x:=by
 show x % 4294967296=x
 omega
theorem LU {β:Type}{c:Bool}{k:Option β}(h:c=true):Bl c k=k:=by subst h; rfl
theorem Ew {β:Type}{p:Prop}[Decidable p]{k:Option β}(h:p):Bl (decide p) k=k:=by rw [decide_eq_true h]; rfl
theorem Qw {α:Type}(xs:List α)(i:Nat):ix xs (i:Int)=xs[i]? := by
 unfold ix; rw [decide_eq_true (by omega),cond_true,Int.toNat_natCast]
theorem BC {α:Type}{p:Prop}[Decidable p]{a b:α}(h:p):cond (decide p) a b=a:=by rw [decide_eq_true h]; rfl
theorem BT {α:Type}{p:Prop}[Decidable p]{a b:α}(h:¬ p):cond (decide p) a b=b:=by rw [decide_eq_false h]; rfl
theorem Us {α β:Type} {f:α->Option (α ⊕ β)} (st:Nat->α) (r:β):∀ (n k:Nat),n < k->(∀ i,i < n->f (st i)=some (.inl (st (i+1))))->f (st n)=some (.inr r)->AX f k (st 0)=some r:=by
 intro n k hk hs hd
 have key:∀ m,m<=n->∀ k,m < k->AX f k (st (n - m))=some r:=by
   intro m
   induction m with
   | zero =>
     intro _ k hk
     obtain ⟨k,rfl⟩:∃ j,k=j+1:=⟨k - 1,by omega⟩
     simp only [AX,Nat.sub_zero,hd,Option.bind_some,Aq]
   | succ m ih =>
     intro hm k hk
     obtain ⟨k,rfl⟩:∃ j,k=j+1:=⟨k - 1,by omega⟩
     have:=hs (n - (m+1)) (by omega)
     rw [show n - (m+1)+1=n - m by omega] at this
     simp only [AX,this,Option.bind_some,Aq]
     exact ih (by omega) k (by omega)
 have:=key n (Nat.le_refl _) k hk
 rwa [Nat.sub_self] at this
theorem Na {α β:Type}{f:α->Option (α ⊕ β)}{a:α}{r:β}{k:Nat}(st:Nat->α)(n:Nat)(h0:st 0=a)(hk:n < k)(hs:∀ i,i < n->f (st i)=some (.inl (st (i+1))))(hd:f (st n)=some (.inr r)):AX f k a=some r:=by
 rw [<- h0]; exact Us st r n k hk hs hd
theorem Sx {a n:Int}(hn:0 < n):(if a.tmod n < 0 then a.tmod n+n else a.tmod n)=a % n:=by
 have h1:=Int.emod_nonneg a (show n ≠ 0 by omega)
 have h2:=Int.emod_lt_of_pos a hn
 rw [Int.tmod_eq_emod]
 have e:(n.natAbs:Int)=n:=by omega
 by_cases h:0<=a\/n ∣ a
 · simp only [if_pos h]
   split <;> omega
 · simp only [if_neg h,e]
   split <;> omega
end Go.Proofs.YtobfoiomjfdjjaaDoor.Plain

/- Plain mathematics of numbers as bytes (chapter 4): 'numL' are a number's bytes, 'gn' reads a number at a place. No program in sight. -/
import Derived.Laws.Entries
import Derived.Laws.BytesArg
import Derived.RowKit
namespace Go.Proofs.YtobfoiomjfdjjaaDoor.MLay
open Go.RowKit
def NZ (v:Nat):List Nat:=if h:v < 128 then [v] else (v % 128+128) :: NZ (v / 128)
termination_by v
decreasing_by omega
theorem Gh {v:Nat}(h:v < 128):NZ v=[v]:=by rw [NZ,dif_pos h]
theorem Nr {v:Nat}(h:¬ v < 128):NZ v=(v % 128+128) :: NZ (v / 128):=by rw [NZ,dif_neg h]
theorem Im:∀ (n v:Nat),v < 128 ^ (n+1)->1<=(NZ v).length/\(NZ v).length<=n+1
 | 0,v,h=>by rw [Gh (by simpa using h)]; simp
 | n + 1,v,h=>by
   by_cases c:v < 128
   · rw [Gh c]; simp
   · rw [Nr c]
     have:=Im n (v / 128) (by rw [Nat.div_lt_iff_lt_mul (by decide)]; rw [Nat.pow_succ] at h; exact h)
     simp; omega
theorem Yq:∀ r:Fin 256,Go.bits .or .u8 ((r:Nat):Int) 128=((r:Nat):Int) % 128+128:=by decide +kernel
theorem XQ (r:Int)(h0:0<=r)(h1:r < 256):Go.bits .or .u8 r 128=r % 128+128:=by
 have:=Yq ⟨r.toNat,by omega⟩
 have e:((r.toNat:Nat):Int)=r:=by omega
 simpa [e] using this
theorem wrap_u32 (x:Int):IntKind.u32.wrap x=x % 4294967296:=rfl
end Go.Proofs.YtobfoiomjfdjjaaDoor.MLay

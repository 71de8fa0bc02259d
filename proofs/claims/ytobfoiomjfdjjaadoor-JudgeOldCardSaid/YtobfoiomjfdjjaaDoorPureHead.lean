/- A text's beginnings: their runes are the first ones. -/
import Derived.Test.YtobfoiomjfdjjaaDoorPureKeys
namespace Go.Proofs.YtobfoiomjfdjjaaDoor.PureHead
open Go.RowKit Go.Proofs.YtobfoiomjfdjjaaDoor.Mc Go.Proofs.YtobfoiomjfdjjaaDoor.N Go.Proofs.YtobfoiomjfdjjaaDoor.Plain Go.Proofs.YtobfoiomjfdjjaaDoor.PureRune Go.Proofs.YtobfoiomjfdjjaaDoor.PureKeys
set_option linter.unusedSimpArgs false
set_option linter.unusedVariables false
theorem RB (n b0 b1 b2 b3:Nat)(hn:1<=n):(Lib.decodeN n b0 b1 b2 b3).2<=n:=by
 unfold Lib.decodeN
 repeat' split
 all_goals (simp only; omega)
theorem Ts (s:ByteArray)(p:Nat)(h:p < s.size):p+(Utf8.decode s p).2<=s.size:=by
 rw [Lib.decode_at]
 have:=RB (s.size - p) (s.get! p).toNat (s.get! (p+1)).toNat (s.get! (p+2)).toNat (s.get! (p+3)).toNat (by omega)
 omega
end Go.Proofs.YtobfoiomjfdjjaaDoor.PureHead

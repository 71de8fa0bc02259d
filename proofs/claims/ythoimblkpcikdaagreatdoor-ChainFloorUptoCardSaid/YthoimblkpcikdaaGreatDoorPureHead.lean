/- A text's beginnings: their runes are the first ones. -/
import Derived.Test.YthoimblkpcikdaaGreatDoorPureKeys
namespace Go.Proofs.YthoimblkpcikdaaGreatDoor.PureHead
open Go.RowKit Go.Proofs.YthoimblkpcikdaaGreatDoor.Mc Go.Proofs.YthoimblkpcikdaaGreatDoor.N Go.Proofs.YthoimblkpcikdaaGreatDoor.Plain Go.Proofs.YthoimblkpcikdaaGreatDoor.PureRune Go.Proofs.YthoimblkpcikdaaGreatDoor.PureKeys
set_option linter.unusedSimpArgs false
set_option linter.unusedVariables false
theorem Tb (n b0 b1 b2 b3:Nat)(hn:1<=n):(Lib.decodeN n b0 b1 b2 b3).2<=n:=by
 unfold Lib.decodeN
 repeat' split
 all_goals (simp only; omega)
theorem YO (s:ByteArray)(p:Nat)(h:p < s.size):p+(Utf8.decode s p).2<=s.size:=by
 rw [Lib.decode_at]
 have:=Tb (s.size - p) (s.get! p).toNat (s.get! (p+1)).toNat (s.get! (p+2)).toNat (s.get! (p+3)).toNat (by omega)
 omega
end Go.Proofs.YthoimblkpcikdaaGreatDoor.PureHead

/-
 DERIVED: THE SHELF's CONTRACTS AT THIS DUMP, IN PLAIN WORDS (tools/lay-plain.mjs out of 'TrydShelf.lean', which tools/lay-shelf.mjs wrote): THE SAME DECLARATIONS UNDER THE SAME NAMES: 'import', 'namespace', 'open', 'def', 'theorem' AND NOTHING ELSE: no command of the shelf's: FOR A HAND-IN. Each laying: the table of numbers ('.._ren') and one theorem, a field a fact of the dump's own or the kernel's comparison; each contract: ONE APPLICATION.
-/
import Derived.Shelf.Strings.Builder1
import Derived.Shelf.Small.Bits
import Derived.Shelf.Small.Strs
import Derived.Shelf.Strings.BuilderF
import Derived.Shelf.Strconv.Itoa0
import Derived.Shelf.Unicode.Decode
import Derived.Shelf.Unicode.DecodeSlow
import Derived.Shelf.Unicode.DecodeAny
import Derived.Shelf.Slices.Equal
import Derived.Ground.Names2Prog
import Derived.Shelf.Slices.Clone
import Derived.Shelf.Slices.CompactS
import Derived.Shelf.Slices.Cells
import Derived.Shelf.Slices.Empties2
import Derived.Ground.SlgnProg
import Derived.Shelf.SlicesE.Clone
import Derived.Ground.SlsfProg
import Derived.Shelf.SlSortCmp.Insertion
import Derived.Shelf.SlSortCmp.SiftDown1
import Derived.Shelf.SlSortCmp.HeapSort1
import Derived.Shelf.SlSortCmp.Insertion1
import Derived.Shelf.SlSortCmp.Median1
import Derived.Shelf.SlSortCmp.Pivot1
import Derived.Shelf.SlSortCmp.ReverseRange1
import Derived.Shelf.SlSortCmp.PartialInsertion1
import Derived.Shelf.SlSortCmp.PartitionEqual1
import Derived.Shelf.SlSortCmp.Partition1
import Derived.Shelf.SlSortCmp.Pdq1
import Derived.Shelf.SlSortCmp.Whole1
import Derived.Shelf.SlSortCmp.NoneTotal
import Derived.Test.YtobfoiomjfdjjaaDoorProg
namespace Go.Proofs
open Go.Shelf
def Tryd.lays169_ren:Go.Shelf.Ren:=⟨fun | 169=>63 | n=>n,fun | 70=>104 | 9=>9 | 0=>0 | 72=>107 | 37=>105 | 127=>143 | 3=>3 | 5=>5 | n=>n,fun | n=>n⟩
theorem Tryd.lays169:Go.Proofs.Lays.n169 Tryd.prog Tryd.lays169_ren:={
 mixed:=by kernel_rfl
 f169:=Tryd.func63.trans (congrArg some (by kernel_rfl))
 t0:=Tryd.underlying0
 a0:=Tryd.isAgg0
 z0:=Tryd.sizeOf0
 v0:=Tryd.zeroValue0
 t3:=Tryd.underlying3
 a3:=Tryd.isAgg3
 z3:=Tryd.sizeOf3
 v3:=Tryd.zeroValue3
 t9:=Tryd.underlying9
 a9:=Tryd.isAgg9
 z9:=Tryd.sizeOf9
 v9:=Tryd.zeroValue9
 t37:=Tryd.underlying105
 a37:=Tryd.isAgg105
 z37:=Tryd.sizeOf105
 v37:=Tryd.zeroValue105
 t70:=Tryd.underlying104
 a70:=Tryd.isAgg104
 z70:=Tryd.sizeOf104
 v70:=Tryd.zeroValue104
 t72:=Tryd.underlying107
 a72:=Tryd.isAgg107
 z72:=Tryd.sizeOf107
 v72:=Tryd.zeroValue107
 t127:=Tryd.underlying143
 a127:=Tryd.isAgg143
 z127:=Tryd.sizeOf143
 v127:=Tryd.zeroValue143 }
theorem Tryd.Builder_Extra_169:Builder.Extra Tryd.prog Tryd.lays169_ren:={
 sizeBuilder:=by kernel_rfl
 liesBuilder:=by kernel_rfl
 t5:=Tryd.underlying5
 a5:=Tryd.isAgg5
 z5:=Tryd.sizeOf5
 v5:=Tryd.zeroValue5
 infoByte:=by kernel_rfl
 cellsByte:=by kernel_rfl
 sizeByte:=by kernel_rfl
 neB5:=by decide }
def Tryd.lays213_ren:Go.Shelf.Ren:=⟨fun | 213=>58 | 265=>85 | n=>n,fun | 9=>9 | 3=>3 | n=>n,fun | n=>n⟩
def Tryd.lays106_ren:Go.Shelf.Ren:=⟨fun | 106=>44 | 213=>58 | 265=>85 | n=>n,fun | 9=>9 | 3=>3 | n=>n,fun | n=>n⟩
theorem Tryd.lays106:Go.Proofs.Lays.n106 Tryd.prog Tryd.lays106_ren:={
 mixed:=by kernel_rfl
 f106:=Tryd.func44.trans (congrArg some (by kernel_rfl))
 f213:=Tryd.func58.trans (congrArg some (by kernel_rfl))
 f265:=Tryd.func85.trans (congrArg some (by kernel_rfl))
 t3:=Tryd.underlying3
 a3:=Tryd.isAgg3
 z3:=Tryd.sizeOf3
 v3:=Tryd.zeroValue3
 t9:=Tryd.underlying9
 a9:=Tryd.isAgg9
 z9:=Tryd.sizeOf9
 v9:=Tryd.zeroValue9 }
open Go.RowKit in
theorem Tryd.strings_Compare (a b:ByteArray)(w:World) :
   Calls Tryd.prog 44 #[.string a,.string b] w fun e w'=>e=.returned (.int .i64 (Lib.compareBytes a.data.toList b.data.toList))/\w' = w:=Any.strings_Compare Tryd.lays106 a b w
def Tryd.lays197_ren:Go.Shelf.Ren:=⟨fun | 197=>88 | 260=>97 | n=>n,fun | 9=>9 | 21=>21 | 3=>3 | 4=>4 | 5=>5 | 105=>144 | 119=>162 | 0=>0 | 46=>99 | 139=>165 | 138=>164 | n=>n,fun | 3=>2 | 4=>3 | n=>n⟩
theorem Tryd.lays197:Go.Proofs.Lays.n197 Tryd.prog Tryd.lays197_ren:={
 mixed:=by kernel_rfl
 f197:=Tryd.func88.trans (congrArg some (by kernel_rfl))
 f260:=Tryd.func97.trans (congrArg some (by kernel_rfl))
 t0:=Tryd.underlying0
 a0:=Tryd.isAgg0
 z0:=Tryd.sizeOf0
 v0:=Tryd.zeroValue0
 t3:=Tryd.underlying3
 a3:=Tryd.isAgg3
 z3:=Tryd.sizeOf3
 v3:=Tryd.zeroValue3
 t4:=Tryd.underlying4
 a4:=Tryd.isAgg4
 z4:=Tryd.sizeOf4
 v4:=Tryd.zeroValue4
 t5:=Tryd.underlying5
 a5:=Tryd.isAgg5
 z5:=Tryd.sizeOf5
 v5:=Tryd.zeroValue5
 t9:=Tryd.underlying9
 a9:=Tryd.isAgg9
 z9:=Tryd.sizeOf9
 v9:=Tryd.zeroValue9
 t21:=Tryd.underlying21
 a21:=Tryd.isAgg21
 z21:=Tryd.sizeOf21
 v21:=Tryd.zeroValue21
 t46:=Tryd.underlying99
 a46:=Tryd.isAgg99
 z46:=Tryd.sizeOf99
 v46:=Tryd.zeroValue99
 t105:=Tryd.underlying144
 a105:=Tryd.isAgg144
 z105:=Tryd.sizeOf144
 v105:=Tryd.zeroValue144
 t119:=Tryd.underlying162
 a119:=Tryd.isAgg162
 z119:=Tryd.sizeOf162
 t138:=Tryd.underlying164
 a138:=Tryd.isAgg164
 z138:=Tryd.sizeOf164
 v138:=Tryd.zeroValue164
 t139:=Tryd.underlying165
 a139:=Tryd.isAgg165
 z139:=Tryd.sizeOf165
 v139:=Tryd.zeroValue165
 g3:=by kernel_rfl
 g4:=by kernel_rfl }
def Tryd.lays260_ren:Go.Shelf.Ren:=⟨fun | 260=>97 | n=>n,fun | 9=>9 | 21=>21 | 3=>3 | 4=>4 | 5=>5 | 119=>162 | 0=>0 | 46=>99 | 139=>165 | 138=>164 | n=>n,fun | 3=>2 | 4=>3 | n=>n⟩
theorem Tryd.lays260:Go.Proofs.Lays.n260 Tryd.prog Tryd.lays260_ren:={
 mixed:=by kernel_rfl
 f260:=Tryd.func97.trans (congrArg some (by kernel_rfl))
 t0:=Tryd.underlying0
 a0:=Tryd.isAgg0
 z0:=Tryd.sizeOf0
 v0:=Tryd.zeroValue0
 t3:=Tryd.underlying3
 a3:=Tryd.isAgg3
 z3:=Tryd.sizeOf3
 v3:=Tryd.zeroValue3
 t4:=Tryd.underlying4
 a4:=Tryd.isAgg4
 z4:=Tryd.sizeOf4
 v4:=Tryd.zeroValue4
 t5:=Tryd.underlying5
 a5:=Tryd.isAgg5
 z5:=Tryd.sizeOf5
 v5:=Tryd.zeroValue5
 t9:=Tryd.underlying9
 a9:=Tryd.isAgg9
 z9:=Tryd.sizeOf9
 v9:=Tryd.zeroValue9
 t21:=Tryd.underlying21
 a21:=Tryd.isAgg21
 z21:=Tryd.sizeOf21
 v21:=Tryd.zeroValue21
 t46:=Tryd.underlying99
 a46:=Tryd.isAgg99
 z46:=Tryd.sizeOf99
 v46:=Tryd.zeroValue99
 t119:=Tryd.underlying162
 a119:=Tryd.isAgg162
 z119:=Tryd.sizeOf162
 t138:=Tryd.underlying164
 a138:=Tryd.isAgg164
 z138:=Tryd.sizeOf164
 v138:=Tryd.zeroValue164
 t139:=Tryd.underlying165
 a139:=Tryd.isAgg165
 z139:=Tryd.sizeOf165
 v139:=Tryd.zeroValue165
 g3:=by kernel_rfl
 g4:=by kernel_rfl }
open Go.RowKit Go.Lib in
theorem Tryd.utf8_DecodeRuneInString (s:ByteArray)(w:World)(hT:Lib.Utf8Tabs 2 3 w) :
   Calls Tryd.prog 88 #[.string s] w fun e w'=>e=.returned (.tuple #[.int .i32 (Lib.decodeGo s).1,.int .i64 (Lib.decodeGo s).2])/\Below w.heap.size w w':=Any.utf8_DecodeRuneInString Tryd.lays197 s w hT
def Tryd.laysSlF6_f41_ren:Go.Shelf.Ren:=⟨fun | 6=>41 | 15=>55 | 14=>54 | 28=>82 | 29=>83 | 20=>74 | 21=>75 | 22=>76 | 23=>77 | 24=>78 | 25=>79 | 26=>80 | 27=>81 | 46=>90 | 47=>91 | 48=>92 | 49=>93 | 50=>94 | 57=>99 | n=>n,fun | 22=>31 | 24=>9 | 25=>81 | 3=>3 | 39=>99 | 0=>0 | 53=>36 | 55=>141 | 4=>4 | 46=>133 | 45=>132 | 50=>137 | 5=>5 | 9=>9 | 66=>149 | 70=>153 | 76=>159 | 77=>160 | n=>n,fun | n=>n⟩
theorem Tryd.laysSlF6_f41:Go.Proofs.SlLaysF.n6 Tryd.prog Tryd.laysSlF6_f41_ren:={
 mixed:=by kernel_rfl
 f6:=⟨Tryd.f41.name,by decide,Tryd.func41.trans (congrArg some (by kernel_rfl))⟩
 f14:=⟨Tryd.f54.name,by decide,Tryd.func54.trans (congrArg some (by kernel_rfl))⟩
 f15:=Tryd.func55.trans (congrArg some (by kernel_rfl))
 f20:=⟨Tryd.f74.name,by decide,Tryd.func74.trans (congrArg some (by kernel_rfl))⟩
 f21:=⟨Tryd.f75.name,by decide,Tryd.func75.trans (congrArg some (by kernel_rfl))⟩
 f22:=⟨Tryd.f76.name,by decide,Tryd.func76.trans (congrArg some (by kernel_rfl))⟩
 f23:=⟨Tryd.f77.name,by decide,Tryd.func77.trans (congrArg some (by kernel_rfl))⟩
 f24:=⟨Tryd.f78.name,by decide,Tryd.func78.trans (congrArg some (by kernel_rfl))⟩
 f25:=⟨Tryd.f79.name,by decide,Tryd.func79.trans (congrArg some (by kernel_rfl))⟩
 f26:=⟨Tryd.f80.name,by decide,Tryd.func80.trans (congrArg some (by kernel_rfl))⟩
 f27:=⟨Tryd.f81.name,by decide,Tryd.func81.trans (congrArg some (by kernel_rfl))⟩
 f28:=Tryd.func82.trans (congrArg some (by kernel_rfl))
 f29:=Tryd.func83.trans (congrArg some (by kernel_rfl))
 f46:=⟨Tryd.f90.name,by decide,Tryd.func90.trans (congrArg some (by kernel_rfl))⟩
 f47:=Tryd.func91.trans (congrArg some (by kernel_rfl))
 f48:=Tryd.func92.trans (congrArg some (by kernel_rfl))
 f49:=⟨Tryd.f93.name,by decide,Tryd.func93.trans (congrArg some (by kernel_rfl))⟩
 f50:=⟨Tryd.f94.name,by decide,Tryd.func94.trans (congrArg some (by kernel_rfl))⟩
 f57:=⟨Tryd.f99.name,by decide,Tryd.func99.trans (congrArg some (by kernel_rfl))⟩
 t0:=Tryd.underlying0
 a0:=Tryd.isAgg0
 z0:=Tryd.sizeOf0
 v0:=Tryd.zeroValue0
 t3:=Tryd.underlying3
 a3:=Tryd.isAgg3
 z3:=Tryd.sizeOf3
 v3:=Tryd.zeroValue3
 t4:=Tryd.underlying4
 a4:=Tryd.isAgg4
 z4:=Tryd.sizeOf4
 v4:=Tryd.zeroValue4
 t5:=Tryd.underlying5
 a5:=Tryd.isAgg5
 z5:=Tryd.sizeOf5
 v5:=Tryd.zeroValue5
 t9:=Tryd.underlying9
 a9:=Tryd.isAgg9
 z9:=Tryd.sizeOf9
 v9:=Tryd.zeroValue9
 t22:=Tryd.underlying31
 a22:=Tryd.isAgg31
 z22:=Tryd.sizeOf31
 v22:=Tryd.zeroValue31
 a24:=Tryd.isAgg9
 z24:=Tryd.sizeOf9
 t25:=Tryd.underlying81
 a25:=Tryd.isAgg81
 z25:=Tryd.sizeOf81
 v25:=Tryd.zeroValue81
 t39:=Tryd.underlying99
 a39:=Tryd.isAgg99
 z39:=Tryd.sizeOf99
 v39:=Tryd.zeroValue99
 t45:=Tryd.underlying132
 a45:=Tryd.isAgg132
 z45:=Tryd.sizeOf132
 v45:=Tryd.zeroValue132
 t46:=Tryd.underlying133
 a46:=Tryd.isAgg133
 z46:=Tryd.sizeOf133
 v46:=Tryd.zeroValue133
 t50:=Tryd.underlying137
 a50:=Tryd.isAgg137
 z50:=Tryd.sizeOf137
 v50:=Tryd.zeroValue137
 t53:=Tryd.underlying36
 a53:=Tryd.isAgg36
 z53:=Tryd.sizeOf36
 v53:=Tryd.zeroValue36
 t55:=Tryd.underlying141
 a55:=Tryd.isAgg141
 z55:=Tryd.sizeOf141
 v55:=Tryd.zeroValue141
 t66:=Tryd.underlying149
 a66:=Tryd.isAgg149
 z66:=Tryd.sizeOf149
 v66:=Tryd.zeroValue149
 t70:=Tryd.underlying153
 a70:=Tryd.isAgg153
 z70:=Tryd.sizeOf153
 v70:=Tryd.zeroValue153
 t76:=Tryd.underlying159
 a76:=Tryd.isAgg159
 z76:=Tryd.sizeOf159
 v76:=Tryd.zeroValue159
 t77:=Tryd.underlying160
 a77:=Tryd.isAgg160
 z77:=Tryd.sizeOf160
 v77:=Tryd.zeroValue160 }
end Go.Proofs

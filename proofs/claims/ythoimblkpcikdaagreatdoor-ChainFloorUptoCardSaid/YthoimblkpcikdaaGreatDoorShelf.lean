/-
 DERIVED: THE SHELF's CONTRACTS AT THIS DUMP, IN PLAIN WORDS (tools/lay-plain.mjs out of 'TryzShelf.lean', which tools/lay-shelf.mjs wrote): THE SAME DECLARATIONS UNDER THE SAME NAMES: 'import', 'namespace', 'open', 'def', 'theorem' AND NOTHING ELSE: no command of the shelf's: FOR A HAND-IN. Each laying: the table of numbers ('.._ren') and one theorem, a field a fact of the dump's own or the kernel's comparison; each contract: ONE APPLICATION.
-/
import Derived.Shelf.Strings.Builder1
import Derived.Shelf.Small.Bits
import Derived.Shelf.Small.Wraps
import Derived.Shelf.Strconv.Itoa0
import Derived.Shelf.Sort.Plain
import Derived.Shelf.Unicode.Decode
import Derived.Shelf.Unicode.DecodeSlow
import Derived.Shelf.Unicode.DecodeAny
import Derived.Ground.Names2Prog
import Derived.Shelf.Slices.SearchI
import Derived.Shelf.Slices.In.SortNone
import Derived.Ground.SlgnProg
import Derived.Shelf.SlicesQ.Reverse
import Derived.Ground.SlsfProg
import Derived.Shelf.SlSortCmp.InsertionK
import Derived.Shelf.SlSortCmp.SiftDownK
import Derived.Shelf.SlSortCmp.HeapSortK
import Derived.Shelf.SlSortCmp.MedianK
import Derived.Shelf.SlSortCmp.PivotK
import Derived.Shelf.SlSortCmp.ReverseRangeK
import Derived.Shelf.SlSortCmp.PartialInsertionK
import Derived.Shelf.SlSortCmp.PartitionEqualK
import Derived.Shelf.SlSortCmp.PartitionK
import Derived.Shelf.SlSortCmp.PdqK
import Derived.Shelf.SlSortCmp.WholeK
import Derived.Shelf.SlSortCmp.NoneTotal
import Derived.Test.YthoimblkpcikdaaGreatDoorProg
namespace Go.Proofs
open Go.Shelf
def Tryz.lays169_ren:Go.Shelf.Ren:=⟨fun | 169=>147 | n=>n,fun | 70=>250 | 9=>9 | 0=>0 | 72=>252 | 37=>111 | 127=>283 | 3=>3 | 5=>5 | n=>n,fun | n=>n⟩
theorem Tryz.lays169:Go.Proofs.Lays.n169 Tryz.prog Tryz.lays169_ren:={
 mixed:=by kernel_rfl
 f169:=Tryz.func147.trans (congrArg some (by kernel_rfl))
 t0:=Tryz.underlying0
 a0:=Tryz.isAgg0
 z0:=Tryz.sizeOf0
 v0:=Tryz.zeroValue0
 t3:=Tryz.underlying3
 a3:=Tryz.isAgg3
 z3:=Tryz.sizeOf3
 v3:=Tryz.zeroValue3
 t9:=Tryz.underlying9
 a9:=Tryz.isAgg9
 z9:=Tryz.sizeOf9
 v9:=Tryz.zeroValue9
 t37:=Tryz.underlying111
 a37:=Tryz.isAgg111
 z37:=Tryz.sizeOf111
 v37:=Tryz.zeroValue111
 t70:=Tryz.underlying250
 a70:=Tryz.isAgg250
 z70:=Tryz.sizeOf250
 v70:=Tryz.zeroValue250
 t72:=Tryz.underlying252
 a72:=Tryz.isAgg252
 z72:=Tryz.sizeOf252
 v72:=Tryz.zeroValue252
 t127:=Tryz.underlying283
 a127:=Tryz.isAgg283
 z127:=Tryz.sizeOf283
 v127:=Tryz.zeroValue283 }
theorem Tryz.Builder_Extra_169:Builder.Extra Tryz.prog Tryz.lays169_ren:={
 sizeBuilder:=by kernel_rfl
 liesBuilder:=by kernel_rfl
 t5:=Tryz.underlying5
 a5:=Tryz.isAgg5
 z5:=Tryz.sizeOf5
 v5:=Tryz.zeroValue5
 infoByte:=by kernel_rfl
 cellsByte:=by kernel_rfl
 sizeByte:=by kernel_rfl
 neB5:=by decide }
def Tryz.lays189_ren:Go.Shelf.Ren:=⟨fun | 189=>35 | 125=>61 | 257=>60 | 128=>107 | 129=>108 | 294=>98 | 295=>99 | 296=>100 | 297=>101 | 298=>102 | 299=>103 | 216=>104 | 300=>105 | 301=>106 | 328=>150 | 329=>151 | 330=>152 | 331=>153 | 332=>154 | 215=>155 | 343=>180 | n=>n,fun | 28=>33 | 3=>3 | 46=>110 | 0=>0 | 51=>31 | 53=>138 | 4=>4 | 183=>202 | 182=>201 | 131=>207 | 5=>5 | 9=>9 | 218=>262 | 222=>266 | 228=>286 | 229=>287 | n=>n,fun | n=>n⟩
theorem Tryz.lays189:Go.Proofs.Lays.n189 Tryz.prog Tryz.lays189_ren:={
 mixed:=by kernel_rfl
 f125:=Tryz.func61.trans (congrArg some (by kernel_rfl))
 f128:=Tryz.func107.trans (congrArg some (by kernel_rfl))
 f129:=Tryz.func108.trans (congrArg some (by kernel_rfl))
 f189:=Tryz.func35.trans (congrArg some (by kernel_rfl))
 f215:=Tryz.func155.trans (congrArg some (by kernel_rfl))
 f216:=Tryz.func104.trans (congrArg some (by kernel_rfl))
 f257:=Tryz.func60.trans (congrArg some (by kernel_rfl))
 f294:=Tryz.func98.trans (congrArg some (by kernel_rfl))
 f295:=Tryz.func99.trans (congrArg some (by kernel_rfl))
 f296:=Tryz.func100.trans (congrArg some (by kernel_rfl))
 f297:=Tryz.func101.trans (congrArg some (by kernel_rfl))
 f298:=Tryz.func102.trans (congrArg some (by kernel_rfl))
 f299:=Tryz.func103.trans (congrArg some (by kernel_rfl))
 f300:=Tryz.func105.trans (congrArg some (by kernel_rfl))
 f301:=Tryz.func106.trans (congrArg some (by kernel_rfl))
 f328:=Tryz.func150.trans (congrArg some (by kernel_rfl))
 f329:=Tryz.func151.trans (congrArg some (by kernel_rfl))
 f330:=Tryz.func152.trans (congrArg some (by kernel_rfl))
 f331:=Tryz.func153.trans (congrArg some (by kernel_rfl))
 f332:=Tryz.func154.trans (congrArg some (by kernel_rfl))
 f343:=Tryz.func180.trans (congrArg some (by kernel_rfl))
 t0:=Tryz.underlying0
 a0:=Tryz.isAgg0
 z0:=Tryz.sizeOf0
 v0:=Tryz.zeroValue0
 t3:=Tryz.underlying3
 a3:=Tryz.isAgg3
 z3:=Tryz.sizeOf3
 v3:=Tryz.zeroValue3
 t4:=Tryz.underlying4
 a4:=Tryz.isAgg4
 z4:=Tryz.sizeOf4
 v4:=Tryz.zeroValue4
 t5:=Tryz.underlying5
 a5:=Tryz.isAgg5
 z5:=Tryz.sizeOf5
 v5:=Tryz.zeroValue5
 t9:=Tryz.underlying9
 a9:=Tryz.isAgg9
 z9:=Tryz.sizeOf9
 v9:=Tryz.zeroValue9
 t28:=Tryz.underlying33
 a28:=Tryz.isAgg33
 z28:=Tryz.sizeOf33
 v28:=Tryz.zeroValue33
 t46:=Tryz.underlying110
 a46:=Tryz.isAgg110
 z46:=Tryz.sizeOf110
 v46:=Tryz.zeroValue110
 t51:=Tryz.underlying31
 a51:=Tryz.isAgg31
 z51:=Tryz.sizeOf31
 v51:=Tryz.zeroValue31
 t53:=Tryz.underlying138
 a53:=Tryz.isAgg138
 z53:=Tryz.sizeOf138
 v53:=Tryz.zeroValue138
 t131:=Tryz.underlying207
 a131:=Tryz.isAgg207
 z131:=Tryz.sizeOf207
 v131:=Tryz.zeroValue207
 t182:=Tryz.underlying201
 a182:=Tryz.isAgg201
 z182:=Tryz.sizeOf201
 v182:=Tryz.zeroValue201
 t183:=Tryz.underlying202
 a183:=Tryz.isAgg202
 z183:=Tryz.sizeOf202
 v183:=Tryz.zeroValue202
 t218:=Tryz.underlying262
 a218:=Tryz.isAgg262
 z218:=Tryz.sizeOf262
 v218:=Tryz.zeroValue262
 t222:=Tryz.underlying266
 a222:=Tryz.isAgg266
 z222:=Tryz.sizeOf266
 v222:=Tryz.zeroValue266
 t228:=Tryz.underlying286
 a228:=Tryz.isAgg286
 z228:=Tryz.sizeOf286
 v228:=Tryz.zeroValue286
 t229:=Tryz.underlying287
 a229:=Tryz.isAgg287
 z229:=Tryz.sizeOf287
 v229:=Tryz.zeroValue287 }
def Tryz.lays197_ren:Go.Shelf.Ren:=⟨fun | 197=>194 | 260=>196 | n=>n,fun | 9=>9 | 21=>21 | 3=>3 | 4=>4 | 5=>5 | 105=>298 | 119=>303 | 0=>0 | 46=>110 | 139=>306 | 138=>305 | n=>n,fun | 3=>1 | 4=>2 | n=>n⟩
theorem Tryz.lays197:Go.Proofs.Lays.n197 Tryz.prog Tryz.lays197_ren:={
 mixed:=by kernel_rfl
 f197:=Tryz.func194.trans (congrArg some (by kernel_rfl))
 f260:=Tryz.func196.trans (congrArg some (by kernel_rfl))
 t0:=Tryz.underlying0
 a0:=Tryz.isAgg0
 z0:=Tryz.sizeOf0
 v0:=Tryz.zeroValue0
 t3:=Tryz.underlying3
 a3:=Tryz.isAgg3
 z3:=Tryz.sizeOf3
 v3:=Tryz.zeroValue3
 t4:=Tryz.underlying4
 a4:=Tryz.isAgg4
 z4:=Tryz.sizeOf4
 v4:=Tryz.zeroValue4
 t5:=Tryz.underlying5
 a5:=Tryz.isAgg5
 z5:=Tryz.sizeOf5
 v5:=Tryz.zeroValue5
 t9:=Tryz.underlying9
 a9:=Tryz.isAgg9
 z9:=Tryz.sizeOf9
 v9:=Tryz.zeroValue9
 t21:=Tryz.underlying21
 a21:=Tryz.isAgg21
 z21:=Tryz.sizeOf21
 v21:=Tryz.zeroValue21
 t46:=Tryz.underlying110
 a46:=Tryz.isAgg110
 z46:=Tryz.sizeOf110
 v46:=Tryz.zeroValue110
 t105:=Tryz.underlying298
 a105:=Tryz.isAgg298
 z105:=Tryz.sizeOf298
 v105:=Tryz.zeroValue298
 t119:=Tryz.underlying303
 a119:=Tryz.isAgg303
 z119:=Tryz.sizeOf303
 t138:=Tryz.underlying305
 a138:=Tryz.isAgg305
 z138:=Tryz.sizeOf305
 v138:=Tryz.zeroValue305
 t139:=Tryz.underlying306
 a139:=Tryz.isAgg306
 z139:=Tryz.sizeOf306
 v139:=Tryz.zeroValue306
 g3:=by kernel_rfl
 g4:=by kernel_rfl }
def Tryz.lays260_ren:Go.Shelf.Ren:=⟨fun | 260=>196 | n=>n,fun | 9=>9 | 21=>21 | 3=>3 | 4=>4 | 5=>5 | 119=>303 | 0=>0 | 46=>110 | 139=>306 | 138=>305 | n=>n,fun | 3=>1 | 4=>2 | n=>n⟩
theorem Tryz.lays260:Go.Proofs.Lays.n260 Tryz.prog Tryz.lays260_ren:={
 mixed:=by kernel_rfl
 f260:=Tryz.func196.trans (congrArg some (by kernel_rfl))
 t0:=Tryz.underlying0
 a0:=Tryz.isAgg0
 z0:=Tryz.sizeOf0
 v0:=Tryz.zeroValue0
 t3:=Tryz.underlying3
 a3:=Tryz.isAgg3
 z3:=Tryz.sizeOf3
 v3:=Tryz.zeroValue3
 t4:=Tryz.underlying4
 a4:=Tryz.isAgg4
 z4:=Tryz.sizeOf4
 v4:=Tryz.zeroValue4
 t5:=Tryz.underlying5
 a5:=Tryz.isAgg5
 z5:=Tryz.sizeOf5
 v5:=Tryz.zeroValue5
 t9:=Tryz.underlying9
 a9:=Tryz.isAgg9
 z9:=Tryz.sizeOf9
 v9:=Tryz.zeroValue9
 t21:=Tryz.underlying21
 a21:=Tryz.isAgg21
 z21:=Tryz.sizeOf21
 v21:=Tryz.zeroValue21
 t46:=Tryz.underlying110
 a46:=Tryz.isAgg110
 z46:=Tryz.sizeOf110
 v46:=Tryz.zeroValue110
 t119:=Tryz.underlying303
 a119:=Tryz.isAgg303
 z119:=Tryz.sizeOf303
 t138:=Tryz.underlying305
 a138:=Tryz.isAgg305
 z138:=Tryz.sizeOf305
 v138:=Tryz.zeroValue305
 t139:=Tryz.underlying306
 a139:=Tryz.isAgg306
 z139:=Tryz.sizeOf306
 v139:=Tryz.zeroValue306
 g3:=by kernel_rfl
 g4:=by kernel_rfl }
open Go.RowKit Go.Lib in
theorem Tryz.utf8_DecodeRuneInString (s:ByteArray)(w:World)(hT:Lib.Utf8Tabs 1 2 w) :
   Calls Tryz.prog 194 #[.string s] w fun e w'=>e=.returned (.tuple #[.int .i32 (Lib.decodeGo s).1,.int .i64 (Lib.decodeGo s).2])/\Below w.heap.size w w':=Any.utf8_DecodeRuneInString Tryz.lays197 s w hT
def Tryz.laysSlF06_f55_ren:Go.Shelf.Ren:=⟨fun | 6=>55 | 15=>61 | 14=>92 | 28=>107 | 29=>108 | 20=>133 | 21=>134 | 22=>135 | 23=>136 | 24=>137 | 25=>138 | 26=>139 | 27=>140 | 46=>172 | 47=>151 | 48=>152 | 49=>173 | 50=>174 | 57=>187 | n=>n,fun | 22=>26 | 24=>52 | 25=>127 | 3=>3 | 39=>110 | 0=>0 | 53=>31 | 55=>138 | 4=>4 | 46=>202 | 45=>201 | 50=>207 | 5=>5 | 9=>9 | 66=>262 | 70=>266 | 76=>286 | 77=>287 | n=>n,fun | n=>n⟩
theorem Tryz.laysSlF06_f55:Go.Proofs.SlLaysF0.n6 Tryz.prog Tryz.laysSlF06_f55_ren:={
 mixed:=by kernel_rfl
 f6:=⟨Tryz.f55.name,by decide,Tryz.func55.trans (congrArg some (by kernel_rfl))⟩
 f14:=⟨Tryz.f92.name,by decide,Tryz.func92.trans (congrArg some (by kernel_rfl))⟩
 f15:=Tryz.func61.trans (congrArg some (by kernel_rfl))
 f20:=⟨Tryz.f133.name,by decide,Tryz.func133.trans (congrArg some (by kernel_rfl))⟩
 f21:=⟨Tryz.f134.name,by decide,Tryz.func134.trans (congrArg some (by kernel_rfl))⟩
 f22:=⟨Tryz.f135.name,by decide,Tryz.func135.trans (congrArg some (by kernel_rfl))⟩
 f23:=⟨Tryz.f136.name,by decide,Tryz.func136.trans (congrArg some (by kernel_rfl))⟩
 f24:=⟨Tryz.f137.name,by decide,Tryz.func137.trans (congrArg some (by kernel_rfl))⟩
 f25:=⟨Tryz.f138.name,by decide,Tryz.func138.trans (congrArg some (by kernel_rfl))⟩
 f26:=⟨Tryz.f139.name,by decide,Tryz.func139.trans (congrArg some (by kernel_rfl))⟩
 f27:=⟨Tryz.f140.name,by decide,Tryz.func140.trans (congrArg some (by kernel_rfl))⟩
 f28:=Tryz.func107.trans (congrArg some (by kernel_rfl))
 f29:=Tryz.func108.trans (congrArg some (by kernel_rfl))
 f46:=⟨Tryz.f172.name,by decide,Tryz.func172.trans (congrArg some (by kernel_rfl))⟩
 f47:=Tryz.func151.trans (congrArg some (by kernel_rfl))
 f48:=Tryz.func152.trans (congrArg some (by kernel_rfl))
 f49:=⟨Tryz.f173.name,by decide,Tryz.func173.trans (congrArg some (by kernel_rfl))⟩
 f50:=⟨Tryz.f174.name,by decide,Tryz.func174.trans (congrArg some (by kernel_rfl))⟩
 f57:=⟨Tryz.f187.name,by decide,Tryz.func187.trans (congrArg some (by kernel_rfl))⟩
 t0:=Tryz.underlying0
 a0:=Tryz.isAgg0
 z0:=Tryz.sizeOf0
 v0:=Tryz.zeroValue0
 t3:=Tryz.underlying3
 a3:=Tryz.isAgg3
 z3:=Tryz.sizeOf3
 v3:=Tryz.zeroValue3
 t4:=Tryz.underlying4
 a4:=Tryz.isAgg4
 z4:=Tryz.sizeOf4
 v4:=Tryz.zeroValue4
 t5:=Tryz.underlying5
 a5:=Tryz.isAgg5
 z5:=Tryz.sizeOf5
 v5:=Tryz.zeroValue5
 t9:=Tryz.underlying9
 a9:=Tryz.isAgg9
 z9:=Tryz.sizeOf9
 v9:=Tryz.zeroValue9
 t22:=Tryz.underlying26
 a22:=Tryz.isAgg26
 z22:=Tryz.sizeOf26
 v22:=Tryz.zeroValue26
 t25:=Tryz.underlying127
 a25:=Tryz.isAgg127
 z25:=Tryz.sizeOf127
 v25:=Tryz.zeroValue127
 t39:=Tryz.underlying110
 a39:=Tryz.isAgg110
 z39:=Tryz.sizeOf110
 v39:=Tryz.zeroValue110
 t45:=Tryz.underlying201
 a45:=Tryz.isAgg201
 z45:=Tryz.sizeOf201
 v45:=Tryz.zeroValue201
 t46:=Tryz.underlying202
 a46:=Tryz.isAgg202
 z46:=Tryz.sizeOf202
 v46:=Tryz.zeroValue202
 t50:=Tryz.underlying207
 a50:=Tryz.isAgg207
 z50:=Tryz.sizeOf207
 v50:=Tryz.zeroValue207
 t53:=Tryz.underlying31
 a53:=Tryz.isAgg31
 z53:=Tryz.sizeOf31
 v53:=Tryz.zeroValue31
 t55:=Tryz.underlying138
 a55:=Tryz.isAgg138
 z55:=Tryz.sizeOf138
 v55:=Tryz.zeroValue138
 t66:=Tryz.underlying262
 a66:=Tryz.isAgg262
 z66:=Tryz.sizeOf262
 v66:=Tryz.zeroValue262
 t70:=Tryz.underlying266
 a70:=Tryz.isAgg266
 z70:=Tryz.sizeOf266
 v70:=Tryz.zeroValue266
 t76:=Tryz.underlying286
 a76:=Tryz.isAgg286
 z76:=Tryz.sizeOf286
 v76:=Tryz.zeroValue286
 t77:=Tryz.underlying287
 a77:=Tryz.isAgg287
 z77:=Tryz.sizeOf287
 v77:=Tryz.zeroValue287 }
end Go.Proofs

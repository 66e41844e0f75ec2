/- Where the library's functions lie in this program. Written by a program. -/
import Derived.Test.YtancibcbaajjkaaGreatDoorProg
import Derived.Shelf.Unicode.ValidAny
import Derived.Shelf.SlicesE.Clone
import Derived.Shelf.Utf8.RuneCount
import Derived.Shelf.Unicode.DecodeAny
set_option maxRecDepth 100000
namespace Go.Proofs
open Go
def Tryz.lays196_ren:Go.Shelf.Ren:=⟨λ| 196=>23 | 259=>65 | n=>n,λ| 0=>0 | 3=>3 | 4=>4 | 5=>5 | 9=>9 | 12=>12 | 46=>61 | 53=>22 | 119=>127 | 138=>129 | 139=>130 | n=>n,λ| 3=>1 | 4=>2 | n=>n⟩
theorem Tryz.lays196:Go.Proofs.Lays.n196 Tryz.prog Tryz.lays196_ren:={
 mixed:=by kernel_rfl
 f196:=Tryz.func23.trans (congrArg some (by kernel_rfl))
 f259:=Tryz.func65.trans (congrArg some (by kernel_rfl))
 t0:=Tryz.underlying0
 a0:=Tryz.isAgg0
 z0:=Tryz.sizeOf0
 v0:=Tryz.zeroValue0
 t3:=Tryz.underlying3
 a3:=Tryz.isAgg3
 z3:=Tryz.sizeOf3
 v3:=Tryz.zeroValue3
 t4:=Tryz.underlying4
 a4:=Tryz.isAgg4
 z4:=Tryz.sizeOf4
 v4:=Tryz.zeroValue4
 t5:=Tryz.underlying5
 a5:=Tryz.isAgg5
 z5:=Tryz.sizeOf5
 v5:=Tryz.zeroValue5
 t9:=Tryz.underlying9
 a9:=Tryz.isAgg9
 z9:=Tryz.sizeOf9
 v9:=Tryz.zeroValue9
 t12:=Tryz.underlying12
 a12:=Tryz.isAgg12
 z12:=Tryz.sizeOf12
 v12:=Tryz.zeroValue12
 t46:=Tryz.underlying61
 a46:=Tryz.isAgg61
 z46:=Tryz.sizeOf61
 v46:=Tryz.zeroValue61
 t53:=Tryz.underlying22
 a53:=Tryz.isAgg22
 z53:=Tryz.sizeOf22
 v53:=Tryz.zeroValue22
 t119:=Tryz.underlying127
 a119:=Tryz.isAgg127
 z119:=Tryz.sizeOf127
 t138:=Tryz.underlying129
 a138:=Tryz.isAgg129
 z138:=Tryz.sizeOf129
 v138:=Tryz.zeroValue129
 t139:=Tryz.underlying130
 a139:=Tryz.isAgg130
 z139:=Tryz.sizeOf130
 v139:=Tryz.zeroValue130
 g3:=by kernel_rfl
 g4:=by kernel_rfl }
def Tryz.lays195_ren:Go.Shelf.Ren:=⟨λ| 195=>258 | n=>n,λ| 0=>0 | 3=>3 | 4=>4 | 9=>9 | n=>n,λn=>n⟩
theorem Tryz.lays195:Go.Proofs.Lays.n195 Tryz.prog Tryz.lays195_ren:={
 mixed:=by kernel_rfl
 f195:=Tryz.func258.trans (congrArg some (by kernel_rfl))
 t0:=Tryz.underlying0
 a0:=Tryz.isAgg0
 z0:=Tryz.sizeOf0
 v0:=Tryz.zeroValue0
 t3:=Tryz.underlying3
 a3:=Tryz.isAgg3
 z3:=Tryz.sizeOf3
 v3:=Tryz.zeroValue3
 t4:=Tryz.underlying4
 a4:=Tryz.isAgg4
 z4:=Tryz.sizeOf4
 v4:=Tryz.zeroValue4
 t9:=Tryz.underlying9
 a9:=Tryz.isAgg9
 z9:=Tryz.sizeOf9
 v9:=Tryz.zeroValue9 }
def Tryz.lays197_ren:Go.Shelf.Ren:=⟨λ| 197=>259 | 260=>281 | n=>n,λ| 0=>0 | 3=>3 | 4=>4 | 5=>5 | 9=>9 | 21=>21 | 46=>61 | 105=>351 | 119=>127 | 138=>129 | 139=>130 | n=>n,λ| 3=>1 | 4=>2 | n=>n⟩
theorem Tryz.lays197:Go.Proofs.Lays.n197 Tryz.prog Tryz.lays197_ren:={
 mixed:=by kernel_rfl
 f197:=Tryz.func259.trans (congrArg some (by kernel_rfl))
 f260:=Tryz.func281.trans (congrArg some (by kernel_rfl))
 t0:=Tryz.underlying0
 a0:=Tryz.isAgg0
 z0:=Tryz.sizeOf0
 v0:=Tryz.zeroValue0
 t3:=Tryz.underlying3
 a3:=Tryz.isAgg3
 z3:=Tryz.sizeOf3
 v3:=Tryz.zeroValue3
 t4:=Tryz.underlying4
 a4:=Tryz.isAgg4
 z4:=Tryz.sizeOf4
 v4:=Tryz.zeroValue4
 t5:=Tryz.underlying5
 a5:=Tryz.isAgg5
 z5:=Tryz.sizeOf5
 v5:=Tryz.zeroValue5
 t9:=Tryz.underlying9
 a9:=Tryz.isAgg9
 z9:=Tryz.sizeOf9
 v9:=Tryz.zeroValue9
 t21:=Tryz.underlying21
 a21:=Tryz.isAgg21
 z21:=Tryz.sizeOf21
 v21:=Tryz.zeroValue21
 t46:=Tryz.underlying61
 a46:=Tryz.isAgg61
 z46:=Tryz.sizeOf61
 v46:=Tryz.zeroValue61
 t105:=Tryz.underlying351
 a105:=Tryz.isAgg351
 z105:=Tryz.sizeOf351
 v105:=Tryz.zeroValue351
 t119:=Tryz.underlying127
 a119:=Tryz.isAgg127
 z119:=Tryz.sizeOf127
 t138:=Tryz.underlying129
 a138:=Tryz.isAgg129
 z138:=Tryz.sizeOf129
 v138:=Tryz.zeroValue129
 t139:=Tryz.underlying130
 a139:=Tryz.isAgg130
 z139:=Tryz.sizeOf130
 v139:=Tryz.zeroValue130
 g3:=by kernel_rfl
 g4:=by kernel_rfl }
end Go.Proofs

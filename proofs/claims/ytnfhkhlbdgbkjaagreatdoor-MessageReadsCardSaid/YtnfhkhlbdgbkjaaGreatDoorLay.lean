/- Where the library's functions lie in this program. Written by a program. -/
import Derived.Test.YtnfhkhlbdgbkjaaGreatDoorProg
import Derived.Shelf.Unicode.ValidAny
import Derived.Shelf.SlicesE.Clone
import Derived.Shelf.Utf8.RuneCount
import Derived.Shelf.Unicode.DecodeAny
set_option maxRecDepth 100000
namespace Go.Proofs
open Go
def Tryz.lays196_ren:Go.Shelf.Ren:=⟨λ| 196=>31|259=>73|n=>n,λ| 0=>0|3=>3|4=>4|5=>5|9=>9|12=>12|46=>68|53=>27|119=>139|138=>141|139=>142|n=>n,λ| 3=>1|4=>2|n=>n⟩
theorem Tryz.lays196:Go.Proofs.Lays.n196 Tryz.prog Tryz.lays196_ren:={
 mixed:=by kernel_rfl
 f196:=Tryz.func31.trans (congrArg some (by kernel_rfl))
 f259:=Tryz.func73.trans (congrArg some (by kernel_rfl))
 t0:=Tryz.underlying0
 a0:=Tryz.isAgg0
 z0:=Tryz.sizeOf0
 v0:=Tryz.zeroValue0
 t3:=Tryz.underlying3
 a3:=Tryz.isAgg3
 z3:=Tryz.sizeOf3
 v3:=Tryz.zeroValue3
 t4:=Tryz.underlying4
 a4:=Tryz.isAgg4
 z4:=Tryz.sizeOf4
 v4:=Tryz.zeroValue4
 t5:=Tryz.underlying5
 a5:=Tryz.isAgg5
 z5:=Tryz.sizeOf5
 v5:=Tryz.zeroValue5
 t9:=Tryz.underlying9
 a9:=Tryz.isAgg9
 z9:=Tryz.sizeOf9
 v9:=Tryz.zeroValue9
 t12:=Tryz.underlying12
 a12:=Tryz.isAgg12
 z12:=Tryz.sizeOf12
 v12:=Tryz.zeroValue12
 t46:=Tryz.underlying68
 a46:=Tryz.isAgg68
 z46:=Tryz.sizeOf68
 v46:=Tryz.zeroValue68
 t53:=Tryz.underlying27
 a53:=Tryz.isAgg27
 z53:=Tryz.sizeOf27
 v53:=Tryz.zeroValue27
 t119:=Tryz.underlying139
 a119:=Tryz.isAgg139
 z119:=Tryz.sizeOf139
 t138:=Tryz.underlying141
 a138:=Tryz.isAgg141
 z138:=Tryz.sizeOf141
 v138:=Tryz.zeroValue141
 t139:=Tryz.underlying142
 a139:=Tryz.isAgg142
 z139:=Tryz.sizeOf142
 v139:=Tryz.zeroValue142
 g3:=by kernel_rfl
 g4:=by kernel_rfl }
def Tryz.laysCl_ren:Go.Shelf.Ren:=⟨λ| 41=>167|n=>n,λ| 4=>4|22=>45|23=>97|n=>n,λn=>n⟩
theorem Tryz.laysCl:Go.Proofs.SlLaysE0.n41 Tryz.prog Tryz.laysCl_ren:={
 mixed:=by kernel_rfl
 f41:=⟨Tryz.f167.name,by kernel_rfl,Tryz.func167.trans (congrArg some (by kernel_rfl))⟩
 t4:=Tryz.underlying4
 a4:=Tryz.isAgg4
 z4:=Tryz.sizeOf4
 v4:=Tryz.zeroValue4
 t22:=Tryz.underlying45
 a22:=Tryz.isAgg45
 z22:=Tryz.sizeOf45
 v22:=Tryz.zeroValue45
}
def Tryz.lays195_ren:Go.Shelf.Ren:=⟨λ| 195=>265|n=>n,λ| 0=>0|3=>3|4=>4|9=>9|n=>n,λn=>n⟩
theorem Tryz.lays195:Go.Proofs.Lays.n195 Tryz.prog Tryz.lays195_ren:={
 mixed:=by kernel_rfl
 f195:=Tryz.func265.trans (congrArg some (by kernel_rfl))
 t0:=Tryz.underlying0
 a0:=Tryz.isAgg0
 z0:=Tryz.sizeOf0
 v0:=Tryz.zeroValue0
 t3:=Tryz.underlying3
 a3:=Tryz.isAgg3
 z3:=Tryz.sizeOf3
 v3:=Tryz.zeroValue3
 t4:=Tryz.underlying4
 a4:=Tryz.isAgg4
 z4:=Tryz.sizeOf4
 v4:=Tryz.zeroValue4
 t9:=Tryz.underlying9
 a9:=Tryz.isAgg9
 z9:=Tryz.sizeOf9
 v9:=Tryz.zeroValue9 }
def Tryz.lays197_ren:Go.Shelf.Ren:=⟨λ| 197=>266|260=>286|n=>n,λ| 0=>0|3=>3|4=>4|5=>5|9=>9|21=>21|46=>68|105=>359|119=>139|138=>141|139=>142|n=>n,λ| 3=>1|4=>2|n=>n⟩
theorem Tryz.lays197:Go.Proofs.Lays.n197 Tryz.prog Tryz.lays197_ren:={
 mixed:=by kernel_rfl
 f197:=Tryz.func266.trans (congrArg some (by kernel_rfl))
 f260:=Tryz.func286.trans (congrArg some (by kernel_rfl))
 t0:=Tryz.underlying0
 a0:=Tryz.isAgg0
 z0:=Tryz.sizeOf0
 v0:=Tryz.zeroValue0
 t3:=Tryz.underlying3
 a3:=Tryz.isAgg3
 z3:=Tryz.sizeOf3
 v3:=Tryz.zeroValue3
 t4:=Tryz.underlying4
 a4:=Tryz.isAgg4
 z4:=Tryz.sizeOf4
 v4:=Tryz.zeroValue4
 t5:=Tryz.underlying5
 a5:=Tryz.isAgg5
 z5:=Tryz.sizeOf5
 v5:=Tryz.zeroValue5
 t9:=Tryz.underlying9
 a9:=Tryz.isAgg9
 z9:=Tryz.sizeOf9
 v9:=Tryz.zeroValue9
 t21:=Tryz.underlying21
 a21:=Tryz.isAgg21
 z21:=Tryz.sizeOf21
 v21:=Tryz.zeroValue21
 t46:=Tryz.underlying68
 a46:=Tryz.isAgg68
 z46:=Tryz.sizeOf68
 v46:=Tryz.zeroValue68
 t105:=Tryz.underlying359
 a105:=Tryz.isAgg359
 z105:=Tryz.sizeOf359
 v105:=Tryz.zeroValue359
 t119:=Tryz.underlying139
 a119:=Tryz.isAgg139
 z119:=Tryz.sizeOf139
 t138:=Tryz.underlying141
 a138:=Tryz.isAgg141
 z138:=Tryz.sizeOf141
 v138:=Tryz.zeroValue141
 t139:=Tryz.underlying142
 a139:=Tryz.isAgg142
 z139:=Tryz.sizeOf142
 v139:=Tryz.zeroValue142
 g3:=by kernel_rfl
 g4:=by kernel_rfl }
end Go.Proofs

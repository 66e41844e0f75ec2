/- Where the library's functions lie in this program. Written by a program. -/
import Derived.Test.YtghfcfjnfgmkgaaDoorProg
import Derived.Shelf.Unicode.ValidAny
import Derived.Shelf.SlicesE.Clone
set_option maxRecDepth 100000
namespace Go.Proofs
open Go
def Tryd.lays196_ren:Go.Shelf.Ren:=⟨fun | 196=>35 | 259=>57 | n=>n,fun | 0=>0 | 3=>3 | 4=>4 | 5=>5 | 9=>9 | 12=>12 | 46=>35 | 53=>22 | 119=>99 | 138=>101 | 139=>102 | n=>n,fun | 3=>0 | 4=>1 | n=>n⟩
theorem Tryd.lays196:Go.Proofs.Lays.n196 Tryd.prog Tryd.lays196_ren:={
  mixed:=by kernel_rfl
  f196:=Tryd.func35.trans (congrArg some (by kernel_rfl))
  f259:=Tryd.func57.trans (congrArg some (by kernel_rfl))
  t0:=Tryd.underlying0
  a0:=Tryd.isAgg0
  z0:=Tryd.sizeOf0
  v0:=Tryd.zeroValue0
  t3:=Tryd.underlying3
  a3:=Tryd.isAgg3
  z3:=Tryd.sizeOf3
  v3:=Tryd.zeroValue3
  t4:=Tryd.underlying4
  a4:=Tryd.isAgg4
  z4:=Tryd.sizeOf4
  v4:=Tryd.zeroValue4
  t5:=Tryd.underlying5
  a5:=Tryd.isAgg5
  z5:=Tryd.sizeOf5
  v5:=Tryd.zeroValue5
  t9:=Tryd.underlying9
  a9:=Tryd.isAgg9
  z9:=Tryd.sizeOf9
  v9:=Tryd.zeroValue9
  t12:=Tryd.underlying12
  a12:=Tryd.isAgg12
  z12:=Tryd.sizeOf12
  v12:=Tryd.zeroValue12
  t46:=Tryd.underlying35
  a46:=Tryd.isAgg35
  z46:=Tryd.sizeOf35
  v46:=Tryd.zeroValue35
  t53:=Tryd.underlying22
  a53:=Tryd.isAgg22
  z53:=Tryd.sizeOf22
  v53:=Tryd.zeroValue22
  t119:=Tryd.underlying99
  a119:=Tryd.isAgg99
  z119:=Tryd.sizeOf99
  t138:=Tryd.underlying101
  a138:=Tryd.isAgg101
  z138:=Tryd.sizeOf101
  v138:=Tryd.zeroValue101
  t139:=Tryd.underlying102
  a139:=Tryd.isAgg102
  z139:=Tryd.sizeOf102
  v139:=Tryd.zeroValue102
  g3:=by kernel_rfl
  g4:=by kernel_rfl }
def Tryd.laysCl_ren:Go.Shelf.Ren:=⟨fun | 41=>79 | n=>n,fun | 4=>4 | 22=>44 | 23=>74 | n=>n,fun n=>n⟩
theorem Tryd.laysCl:Go.Proofs.SlLaysE0.n41 Tryd.prog Tryd.laysCl_ren:={
  mixed:=by kernel_rfl
  f41:=⟨Tryd.f79.name,by kernel_rfl,Tryd.func79.trans (congrArg some (by kernel_rfl))⟩
  t4:=Tryd.underlying4
  a4:=Tryd.isAgg4
  z4:=Tryd.sizeOf4
  v4:=Tryd.zeroValue4
  t22:=Tryd.underlying44
  a22:=Tryd.isAgg44
  z22:=Tryd.sizeOf44
  v22:=Tryd.zeroValue44
}
end Go.Proofs

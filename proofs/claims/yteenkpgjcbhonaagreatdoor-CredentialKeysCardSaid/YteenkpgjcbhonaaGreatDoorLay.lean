/- Where the library's functions lie in this program. Written by a program. -/
import Derived.Test.YteenkpgjcbhonaaGreatDoorProg
import Derived.Shelf.Unicode.ValidAny
import Derived.Shelf.SlicesE.Clone
set_option maxRecDepth 100000
namespace Go.Proofs
open Go
def Tryz.lays196_ren : Go.Shelf.Ren := ⟨fun | 196 => 19 | 259 => 35 | n => n, fun | 0 => 0 | 3 => 3 | 4 => 4 | 5 => 5 | 9 => 9 | 12 => 12 | 46 => 34 | 53 => 22 | 119 => 65 | 138 => 67 | 139 => 68 | n => n, fun | 3 => 0 | 4 => 1 | n => n⟩
theorem Tryz.lays196 : Go.Proofs.Lays.n196 Tryz.prog Tryz.lays196_ren := {
  mixed := by kernel_rfl
  f196 := Tryz.func19.trans (congrArg some (by kernel_rfl))
  f259 := Tryz.func35.trans (congrArg some (by kernel_rfl))
  t0 := Tryz.underlying0
  a0 := Tryz.isAgg0
  z0 := Tryz.sizeOf0
  v0 := Tryz.zeroValue0
  t3 := Tryz.underlying3
  a3 := Tryz.isAgg3
  z3 := Tryz.sizeOf3
  v3 := Tryz.zeroValue3
  t4 := Tryz.underlying4
  a4 := Tryz.isAgg4
  z4 := Tryz.sizeOf4
  v4 := Tryz.zeroValue4
  t5 := Tryz.underlying5
  a5 := Tryz.isAgg5
  z5 := Tryz.sizeOf5
  v5 := Tryz.zeroValue5
  t9 := Tryz.underlying9
  a9 := Tryz.isAgg9
  z9 := Tryz.sizeOf9
  v9 := Tryz.zeroValue9
  t12 := Tryz.underlying12
  a12 := Tryz.isAgg12
  z12 := Tryz.sizeOf12
  v12 := Tryz.zeroValue12
  t46 := Tryz.underlying34
  a46 := Tryz.isAgg34
  z46 := Tryz.sizeOf34
  v46 := Tryz.zeroValue34
  t53 := Tryz.underlying22
  a53 := Tryz.isAgg22
  z53 := Tryz.sizeOf22
  v53 := Tryz.zeroValue22
  t119 := Tryz.underlying65
  a119 := Tryz.isAgg65
  z119 := Tryz.sizeOf65
  t138 := Tryz.underlying67
  a138 := Tryz.isAgg67
  z138 := Tryz.sizeOf67
  v138 := Tryz.zeroValue67
  t139 := Tryz.underlying68
  a139 := Tryz.isAgg68
  z139 := Tryz.sizeOf68
  v139 := Tryz.zeroValue68
  g3 := by kernel_rfl
  g4 := by kernel_rfl }
def Tryz.laysCl_ren : Go.Shelf.Ren := ⟨fun | 41 => 105 | n => n, fun | 4 => 4 | 22 => 59 | 23 => 93 | n => n, fun n => n⟩
theorem Tryz.laysCl : Go.Proofs.SlLaysE0.n41 Tryz.prog Tryz.laysCl_ren := {
  mixed := by kernel_rfl
  f41 := ⟨Tryz.f105.name, by kernel_rfl, Tryz.func105.trans (congrArg some (by kernel_rfl))⟩
  t4 := Tryz.underlying4
  a4 := Tryz.isAgg4
  z4 := Tryz.sizeOf4
  v4 := Tryz.zeroValue4
  t22 := Tryz.underlying59
  a22 := Tryz.isAgg59
  z22 := Tryz.sizeOf59
  v22 := Tryz.zeroValue59
}
end Go.Proofs

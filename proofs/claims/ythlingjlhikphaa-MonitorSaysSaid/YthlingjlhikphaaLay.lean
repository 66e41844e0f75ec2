/- The kit's contract of bytes.Clone, laid at this program. -/
import Derived.Shelf.Bytes.SlClone
import Derived.Test.YthlingjlhikphaaProg
namespace Go.Proofs
open Go.Shelf
def Try.laysClone_ren : Go.Shelf.Ren := ⟨fun | 4 => 29 | n => n, fun | 4 => 4 | 22 => 25 | 5 => 5 | n => n, fun n => n⟩
theorem Try.laysClone : Go.Proofs.SlLaysK.n4 Try.prog Try.laysClone_ren := {
  mixed := by kernel_rfl
  f4 := Try.func29.trans (congrArg some (by kernel_rfl))
  t4 := Try.underlying4
  a4 := Try.isAgg4
  z4 := Try.sizeOf4
  v4 := Try.zeroValue4
  t22 := Try.underlying25
  a22 := Try.isAgg25
  z22 := Try.sizeOf25
  v22 := Try.zeroValue25
  t5 := Try.underlying5
  i5 := by kernel_rfl }
end Go.Proofs

/- The kit's contract of bytes.Clone, laid at this program. -/
import Derived.Shelf.Bytes.SlClone
import Derived.Test.YtgenglnebkjhfaaProg
namespace Go.Proofs
open Go.Shelf
def Try.laysClone_ren : Go.Shelf.Ren := ⟨fun | 4 => 38 | n => n, fun | 4 => 4 | 22 => 26 | 5 => 5 | n => n, fun n => n⟩
theorem Try.laysClone : Go.Proofs.SlLaysK.n4 Try.prog Try.laysClone_ren := {
  mixed := by kernel_rfl
  f4 := Try.func38.trans (congrArg some (by kernel_rfl))
  t4 := Try.underlying4
  a4 := Try.isAgg4
  z4 := Try.sizeOf4
  v4 := Try.zeroValue4
  t22 := Try.underlying26
  a22 := Try.isAgg26
  z22 := Try.sizeOf26
  v22 := Try.zeroValue26
  t5 := Try.underlying5
  i5 := by kernel_rfl }
end Go.Proofs

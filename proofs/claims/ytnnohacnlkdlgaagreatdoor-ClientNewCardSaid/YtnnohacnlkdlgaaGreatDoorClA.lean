/- The fixed run of the law: the kernel finds it true. No condition. -/
import Derived.Test.YtnnohacnlkdlgaaGreatDoorFns
set_option linter.unusedVariables false
set_option maxRecDepth 100000
namespace Go.Proofs.YtnnohacnlkdlgaaGreatDoor
open Go Go.Abs
theorem Vtp:Zdy=some ((),true,()):=by kernel_rfl
end Go.Proofs.YtnnohacnlkdlgaaGreatDoor

/- The fixed run of the law: the kernel finds it true. No condition. -/
import Derived.Test.YtaddhgkhilmniaaGreatDoorFns
set_option linter.unusedVariables false
set_option maxRecDepth 100000
namespace Go.Proofs.YtaddhgkhilmniaaGreatDoor
open Go Go.Abs
theorem Vvz:Zeu=some ((),true,()):=by kernel_rfl
end Go.Proofs.YtaddhgkhilmniaaGreatDoor

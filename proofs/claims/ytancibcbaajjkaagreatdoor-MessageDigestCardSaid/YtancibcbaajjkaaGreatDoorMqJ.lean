/- A light request is sane; the law MessageValidates, but for the drawn request. -/
import Derived.Test.YtancibcbaajjkaaGreatDoorMqI
set_option linter.unusedVariables false
set_option linter.unusedSimpArgs false
set_option maxRecDepth 100000
namespace Go.Proofs.YtancibcbaajjkaaGreatDoor
open Go Go.Abs
theorem Veja:Zdm=some ((),true,()):=by kernel_rfl
end Go.Proofs.YtancibcbaajjkaaGreatDoor

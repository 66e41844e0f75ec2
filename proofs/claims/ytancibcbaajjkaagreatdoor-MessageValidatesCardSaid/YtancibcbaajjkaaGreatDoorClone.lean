/- slices.Clone at whatever element type: a contract out of the kit's theorem. No condition. -/
import Derived.Test.YtancibcbaajjkaaGreatDoorLib8
import Derived.Shelf.SlicesE.Clone
namespace Go.Abs
open Go Go.Proofs Go.Shelf Go.RowKit
set_option linter.unusedSimpArgs false
set_option linter.unusedVariables false
end Go.Abs

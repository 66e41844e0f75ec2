/- cbor: Decode of the program is the machine over bytes. No condition. -/
import Derived.Test.YtjedfmknnkimmaaDoorCborI
set_option linter.unusedVariables false
set_option linter.unusedSimpArgs false
set_option maxRecDepth 100000
namespace Go.Proofs.YtjedfmknnkimmaaDoor
open Go Go.Abs
end Go.Proofs.YtjedfmknnkimmaaDoor

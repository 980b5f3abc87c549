/- Layer 7: the document's decoding; the law CodecRight. -/
import Derived.Test.YtbocfphenkidnaaDoorCod7
namespace Go.Proofs.YtbocfphenkidnaaDoor.Cod
open Go Go.Px Go.Proofs
set_option maxRecDepth 100000
set_option linter.unusedVariables false

end Go.Proofs.YtbocfphenkidnaaDoor.Cod

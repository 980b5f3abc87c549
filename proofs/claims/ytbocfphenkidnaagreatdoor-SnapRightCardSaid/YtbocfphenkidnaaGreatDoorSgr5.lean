/- The law SegmentRight. -/
import Derived.Test.YtbocfphenkidnaaGreatDoorSgrN2
namespace Go.Proofs.YtbocfphenkidnaaGreatDoor.Sgr
open Go Go.Px Go.Proofs Cod Seg
set_option maxRecDepth 100000
set_option linter.unusedVariables false

end Go.Proofs.YtbocfphenkidnaaGreatDoor.Sgr

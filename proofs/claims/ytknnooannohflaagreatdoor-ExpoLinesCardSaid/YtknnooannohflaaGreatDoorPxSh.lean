/- A contract of the shelf over plain values, as a contract of this layer. -/
import Derived.Test.YtknnooannohflaaGreatDoorPxK
namespace Go.Px
open Go Go.RowKit
set_option maxRecDepth 100000
set_option linter.unusedVariables false

end Go.Px

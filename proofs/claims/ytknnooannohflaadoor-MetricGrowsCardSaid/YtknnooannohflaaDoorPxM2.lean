/- From the reading with sizes to the reading without. -/
import Derived.Test.YtknnooannohflaaDoorPxM
namespace Go.Px
open Go.RowKit Go.ChangeShapes Go.WideShapes Go.ChangeAt
set_option linter.unusedVariables false

end Go.Px

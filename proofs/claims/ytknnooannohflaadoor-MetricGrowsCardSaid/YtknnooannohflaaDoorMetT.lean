/- The readings of the arguments of layer 26's laws. -/
import Derived.Test.YtknnooannohflaaDoorStT
import Derived.Test.YtknnooannohflaaDoorPxM2
namespace Go.Proofs.YtknnooannohflaaDoor.Met
open Go Go.Px Go.Proofs Go.ChangeShapes Go.WideShapes Go.ChangeAt Go.RowKit
theorem own : ownKnob Tryd.prog.godebug = none := by kernel_rfl
theorem laidOut : laidOutB Tryd.prog = true := by kernel_rfl
theorem uB : Tryd.prog.underlying 4 = some .bool := by kernel_rfl
end Go.Proofs.YtknnooannohflaaDoor.Met

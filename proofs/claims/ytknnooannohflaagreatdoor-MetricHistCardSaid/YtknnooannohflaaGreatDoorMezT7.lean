/- The readings of the arguments of layer 26's second law. -/
import Derived.Test.YtknnooannohflaaGreatDoorStT
import Derived.Test.YtknnooannohflaaGreatDoorPxMm
import Derived.Test.YtknnooannohflaaGreatDoorMzK
namespace Go.Proofs.YtknnooannohflaaGreatDoor.Met
open Go Go.Px Go.Proofs Go.ChangeShapes Go.WideShapes Go.ChangeAt Go.RowKit
theorem own : ownKnob Tryz.prog.godebug = none := by kernel_rfl
theorem laidOut : laidOutB Tryz.prog = true := by kernel_rfl
theorem uB : Tryz.prog.underlying 4 = some .bool := by kernel_rfl
end Go.Proofs.YtknnooannohflaaGreatDoor.Met

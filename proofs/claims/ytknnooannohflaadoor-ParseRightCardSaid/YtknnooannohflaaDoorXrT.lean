/- The readings of the arguments of ParseRight. -/
import Derived.Test.YtknnooannohflaaDoorPxMm
import Derived.Test.YtknnooannohflaaDoorTrS
import Derived.Test.YtknnooannohflaaDoorProg
namespace Go.Proofs.YtknnooannohflaaDoor.Prs
open Go Go.Px Go.Proofs Trm Go.ChangeShapes Go.WideShapes Go.ChangeAt Go.RowKit
set_option maxRecDepth 100000
set_option linter.unusedVariables false
theorem own : ownKnob Tryd.prog.godebug = none := by kernel_rfl
theorem laidOut : laidOutB Tryd.prog = true := by kernel_rfl
theorem uB : Tryd.prog.underlying 4 = some .bool := by kernel_rfl
theorem w9 (n : Nat) (ss : List SV) : TypW Tryd.prog (n + 1) 9 ss = ∃ s : ByteArray, ss = [.val (.string s)] ∧ s.size ≤ reachBytes := by kernel_rfl
theorem typ_strW {s : SV} (ht : TypVW Tryd.prog 6 9 s) : ∃ b : ByteArray, s = S b := by
 obtain ⟨ss, h1, _, h3⟩ := ht; have h3 := h3 (by kernel_rfl); subst h3; rw [w9] at h1; obtain ⟨b, e, hb⟩ := h1; exact ⟨b, by simpa using e⟩
end Go.Proofs.YtknnooannohflaaDoor.Prs

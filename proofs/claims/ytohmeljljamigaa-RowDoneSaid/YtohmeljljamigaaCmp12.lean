/- What is told keeps a component right; what it counts. -/
import Derived.Test.YtohmeljljamigaaCmp11
namespace Go.Proofs.Ytohmeljljamigaa.Cmp
open Go Go.Px Go.Proofs
set_option maxRecDepth 100000
set_option linter.unusedVariables false

theorem tell_nm (c : CoD) (e : EvD) : (tellC c e).nm = c.nm ∧ (tellC c e).ro = c.ro := by
  have hh := fun (d : CoD) (n : Int) => hadC_rest d n
  unfold tellC
  repeat' split
  all_goals first | exact ⟨rfl, rfl⟩ | exact ⟨(hh _ _).1, (hh _ _).2.1⟩

end Go.Proofs.Ytohmeljljamigaa.Cmp

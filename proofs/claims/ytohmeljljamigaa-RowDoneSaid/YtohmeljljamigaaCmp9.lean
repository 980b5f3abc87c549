/- Layer 14: the document's May, Tell, Same. -/
import Derived.Test.YtohmeljljamigaaCmp8
namespace Go.Proofs.Ytohmeljljamigaa.Cmp
open Go Go.Px Go.Proofs
set_option maxRecDepth 100000
set_option linter.unusedVariables false

/-- Where a thing that is told is counted. -/
def plcOK (c : CoD) (e : EvD) (p : Int) (d : CoD) : Prop := (p = -1 ∧ d = tellC c e) ∨ ((0 ≤ p ∧ p < 3) ∧ cntC d p = tellC c e)

def sameP (c d : CoD) : Prop := c.nm = d.nm ∧ c.ro = d.ro ∧ c.mo = d.mo ∧ c.wd = d.wd ∧ c.sl = d.sl ∧ c.cl = d.cl ∧ c.h0 = d.h0 ∧ c.h1 = d.h1 ∧ c.h2 = d.h2 ∧ c.h3 = d.h3 ∧ c.h4 = d.h4 ∧ c.h5 = d.h5 ∧ c.h6 = d.h6 ∧ c.h7 = d.h7 ∧ c.h8 = d.h8 ∧ c.hs = d.hs ∧ c.rm = d.rm ∧ c.ha = d.ha ∧ c.c0 = d.c0 ∧ c.c1 = d.c1 ∧ c.c2 = d.c2
instance (c d : CoD) : Decidable (sameP c d) := by unfold sameP; infer_instance
theorem sameP_refl (c : CoD) : sameP c c := ⟨rfl, rfl, rfl, rfl, rfl, rfl, rfl, rfl, rfl, rfl, rfl, rfl, rfl, rfl, rfl, rfl, rfl, rfl, rfl, rfl, rfl⟩

end Go.Proofs.Ytohmeljljamigaa.Cmp

/- A region of open order in which a slot is read that a later operation fills. -/
import Derived.Test.YtknnooannohflaaDoorRpO1
import Derived.Below
namespace Go.Px
open Go Go.RowKit
set_option linter.unusedVariables false

structure J18 (a z : Nat) (w0 : World) (listed : Array Bool) (w : World) : Prop where
 bel : Below w0.heap.size w0 w
 ord : listed.getD z false = true → listed.getD a false = true
section
variable {a z : Nat} {w0 w w' : World} {listed : Array Bool}
theorem J18.start (n : Nat) : J18 a z w0 (Array.replicate n false) w0 := ⟨Below.refl _ _, fun h => by rw [Array.getD_eq_getD_getElem?, Array.getElem?_replicate] at h; split at h <;> cases h⟩
theorem J18.other (h : J18 a z w0 listed w) (i : Nat) (hi : i < listed.size) (hne : i ≠ z) : J18 a z w0 (listed.setIfInBounds i true) w := by
 refine ⟨h.bel, ?_⟩; rw [Zan _ _ _ hi, Zan _ _ _ hi, if_neg hne]; intro q
 split
 ·rfl
 ·exact h.ord q
theorem J18.oth (h : J18 a z w0 listed w) (i : Nat) {n : Nat} (hs : listed.size = n) (hd : i < n ∧ i ≠ z) : J18 a z w0 (listed.setIfInBounds i true) w := h.other i (by rw [hs]; exact hd.1) hd.2
theorem J18.last (h : J18 a z w0 listed w) (hi : z < listed.size) (h0 : listed.getD a false = true) : J18 a z w0 (listed.setIfInBounds z true) w := by
 refine ⟨h.bel, fun _ => ?_⟩; rw [Zan _ _ _ hi]
 split
 ·rfl
 ·exact h0
theorem J18.world (h : J18 a z w0 listed w) (hb : Below w.heap.size w w') : J18 a z w0 listed w' := ⟨h.bel.trans (hb.mono h.bel.size), h.ord⟩
theorem J18.not (h : J18 a z w0 listed w) (hl : listed.getD a false = false) : listed.getD z false = false := by
 cases hz : listed.getD z false with
 | false => rfl
 | true => rw [h.ord hz] at hl; cases hl
end
end Go.Px

/- From the reading with sizes to the reading without. -/
import Derived.Test.YtknnooannohflaaDoorPxM
namespace Go.Px
open Go.RowKit Go.ChangeShapes Go.WideShapes Go.ChangeAt
set_option linter.unusedVariables false

theorem splits_imp {α : Type} {Q R : α → List SV → Prop} (h : ∀ a s, Q a s → R a s) : ∀ (l : List α) (ss : List SV), splits Q l ss → splits R l ss
  | [], _, k => k
  | x :: xs, ss, ⟨a, b, e, h1, h2⟩ => ⟨a, b, e, h x a h1, splits_imp h xs b h2⟩

theorem bndL_le (P : Program) (e : TypeId) : bndL P e ≤ maxLen := by
  unfold bndL
  cases Nat.beq (P.bytesOf e) 0
  · show reachBytes ≤ maxLen; decide
  · exact Nat.le_refl _

theorem typ_of_W (P : Program) : ∀ (n : Nat) (t : TypeId) (ss : List SV), TypW P n t ss → Typ P n t ss
  | 0, _, _, _ => trivial
  | n + 1, t, ss, h => by
    unfold TypW at h
    unfold Typ
    cases hu : P.underlying t with
    | none => rw [hu] at h; exact trivial
    | some u =>
      rw [hu] at h
      cases u with
      | bool => exact h
      | int k => exact h
      | string => obtain ⟨s, e, hs⟩ := h; exact ⟨s, e, Nat.le_trans hs (by decide)⟩
      | slice e => obtain ⟨rows, er, hl, hr⟩ := h; exact ⟨rows, er, Nat.le_trans hl (bndL_le P e), fun r hm => typ_of_W P n e r (hr r hm)⟩
      | struct fs => exact splits_imp (fun a s => typ_of_W P n a s) _ _ h
      | array m e => exact splits_imp (fun a s => typ_of_W P n a s) _ _ h
      | _ => trivial

theorem typV_of_W {P : Program} {n : Nat} {t : TypeId} {s : SV} (h : TypVW P n t s) : TypV P n t s := by
  obtain ⟨ss, h1, h2, h3⟩ := h
  exact ⟨ss, typ_of_W P n t ss h1, h2, h3⟩
end Go.Px

/- Regions whose order is open: an invariant over what is listed. -/
import Derived.Test.YtknnooannohflaaGreatDoorPxB
namespace Go.Px
set_option linter.unusedVariables false

/-- How many are not listed. -/
def open_ (listed : Array Bool) : Nat := (listed.toList.filter (fun b => !b)).length

theorem open_set {listed : Array Bool} {i : Nat} (h : listed.getD i true = false) : open_ (listed.setIfInBounds i true) < open_ listed := by
  obtain ⟨l⟩ := listed
  simp only [open_, List.setIfInBounds_toArray]
  rw [Array.getD_eq_getD_getElem?] at h
  simp only [List.getElem?_toArray] at h
  induction l generalizing i with
  | nil => simp at h
  | cons b l ih =>
    cases i with
    | zero =>
      simp at h
      subst h
      simp
    | succ i =>
      have h : (l[i]?).getD true = false := by simpa using h
      have := ih h
      cases b <;> simp at this ⊢ <;> omega

theorem ready_mem {ops : Array Oper} {listed : Array Bool} {i : Nat} (h : i ∈ Region.ready .any ops listed) : i < ops.size ∧ listed.getD i true = false := by
  unfold Region.ready at h
  obtain ⟨h1, h2⟩ := List.mem_filter.1 h
  refine ⟨List.mem_range.1 h1, ?_⟩
  cases hg : listed.getD i true with
  | false => rfl
  | true => rw [hg] at h2; simp at h2

end Go.Px

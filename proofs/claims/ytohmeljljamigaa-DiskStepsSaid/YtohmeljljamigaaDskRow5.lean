/-
  Whatever operations, number of steps and room are given, the law DiskSteps returns true; the arguments read as before. No condition.
-/
import Derived.Test.YtohmeljljamigaaDskT
import Derived.Test.YtohmeljljamigaaRows
namespace Go.Proofs.Ytohmeljljamigaa
open Go Go.Px Go.Proofs Go.ChangeShapes Go.WideShapes Go.ChangeAt Go.RowKit Go.Proofs.Ytohmeljljamigaa.Dsk
set_option maxRecDepth 100000

theorem diskSteps_law (ss : List SV) (h : TypAll Try.prog 6 Try.f5.params.toList ss) : Ct Try.prog 5 {} ss (fun r => r = [.val (.bool true)]) := by
  have e : Try.f5.params.toList = [54, 5, 55] := by kernel_rfl
  rw [e] at h
  obtain ⟨s0, _, rfl, h0, s1, _, rfl, h1, s2, _, rfl, h2, rfl⟩ := h
  obtain ⟨l, rfl, hl, hw⟩ := typ_dos h0
  obtain ⟨n, rfl, hn⟩ := Dsk.typ_u8 h1
  obtain ⟨r, rfl, hr⟩ := typ_u16 h2
  exact law5_fn l hl hw n r hn hr

theorem diskSteps_lifted (os : Os) (started : os.Started) (H : Type) (enc : TypeId × Value → H) :
    ReturnsInHanded {} Try.checked os 5 .any (Rows.diskStepsSpec.pre6 enc Try.prog Try.f5 Rows.diskStepsRow.domain false) (Rows.diskStepsSpec.post enc Try.prog Try.f5 false true false false) := by
  refine returnsInHanded_of_change (C := Try.checked) Dsk.own started (by kernel_rfl) Try.func5
    (ChangeSpec.witness6 (enc := enc) (C := Try.checked) false ⟨#[], #[.slice none 0 0, .int .u8 0, .int .u16 0], []⟩ 8 (by kernel_rfl) (by kernel_rfl) (by kernel_rfl) (by kernel_rfl)) ?_
  intro W base args ds gs before hval hW _ _
  exact law_contract 6 Rows.diskStepsSpec 4 rfl Dsk.laidOut (by kernel_rfl) (by kernel_rfl) Dsk.u4 W base args ds gs before (fun l hl => match l, hl with | [_, _, _], _ => ⟨rfl, rfl, rfl⟩) hval hW diskSteps_law

theorem diskSteps_holds : Rows.DiskStepsSaid :=
  OpenClaim.holds_of_wide 5 Try.f5 rfl rfl rfl rfl rfl rfl rfl ⟨rfl, rfl, rfl, rfl, rfl⟩ rfl rfl rfl rfl rfl (by kernel_rfl) Try.func5 (by kernel_rfl)
    (of_decide_eq_true (by kernel_rfl)) (by unfold Func.isWrapper; first | (rw [if_pos (by decide +kernel)]; kernel_rfl) | (rw [if_neg (by decide +kernel)]; exact ⟨rfl, rfl⟩))
    (fun os started H enc _ => diskSteps_lifted os started H enc)

end Go.Proofs.Ytohmeljljamigaa

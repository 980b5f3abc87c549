/-
  Whatever events and number are given, the law ListFolds returns true; the arguments read as before. No condition.
-/
import Derived.Test.YtohmeljljamigaaStT
import Derived.Test.YtohmeljljamigaaLi19
import Derived.Test.YtohmeljljamigaaRows
namespace Go.Proofs.Ytohmeljljamigaa
open Go Go.Px Go.Proofs Go.ChangeShapes Go.WideShapes Go.ChangeAt Go.RowKit Go.Proofs.Ytohmeljljamigaa.St
set_option maxRecDepth 100000

theorem listFolds_law (ss : List SV) (h : TypAll Try.prog 9 Try.f12.params.toList ss) : Ct Try.prog 12 {} ss (fun r => r = [.val (.bool true)]) := by
  have e : Try.f12.params.toList = [65, 5] := by kernel_rfl
  rw [e] at h
  obtain ⟨s0, _, rfl, h0, s1, _, rfl, h1, rfl⟩ := h
  obtain ⟨l, rfl, hl⟩ := typ_evs h0
  obtain ⟨n, rfl, hn⟩ := St.typ_u8 h1
  exact Li.law12_fn l hl n hn

theorem listFolds_lifted (os : Os) (started : os.Started) (H : Type) (enc : TypeId × Value → H) :
    ReturnsInHanded {} Try.checked os 12 .any (Rows.listFoldsSpec.pre6 enc Try.prog Try.f12 Rows.listFoldsRow.domain false) (Rows.listFoldsSpec.post enc Try.prog Try.f12 false true false false) := by
  refine returnsInHanded_of_change (C := Try.checked) St.own started (by kernel_rfl) Try.func12
    (ChangeSpec.witness6 (enc := enc) (C := Try.checked) false ⟨#[], #[.slice none 0 0, .int .u8 0], []⟩ 8 (by kernel_rfl) (by kernel_rfl) (by kernel_rfl) (by kernel_rfl)) ?_
  intro W base args ds gs before hval hW _ _
  exact law_contract 9 Rows.listFoldsSpec 4 rfl St.laidOut (by kernel_rfl) (by kernel_rfl) St.u4 W base args ds gs before (fun l hl => match l, hl with | [_, _], _ => ⟨rfl, rfl, rfl⟩) hval hW listFolds_law

theorem listFolds_holds : Rows.ListFoldsSaid :=
  OpenClaim.holds_of_wide 12 Try.f12 rfl rfl rfl rfl rfl rfl rfl ⟨rfl, rfl, rfl, rfl, rfl⟩ rfl rfl rfl rfl rfl (by kernel_rfl) Try.func12 (by kernel_rfl)
    (of_decide_eq_true (by kernel_rfl)) (by unfold Func.isWrapper; first | (rw [if_pos (by decide +kernel)]; kernel_rfl) | (rw [if_neg (by decide +kernel)]; exact ⟨rfl, rfl⟩))
    (fun os started H enc _ => listFolds_lifted os started H enc)

end Go.Proofs.Ytohmeljljamigaa

/-
  Whatever state and event are given, the law StateOne returns true; the arguments read as before. No condition.
-/
import Derived.Test.YtohmeljljamigaaStT
import Derived.Test.YtohmeljljamigaaSt9
import Derived.Test.YtohmeljljamigaaRows
namespace Go.Proofs.Ytohmeljljamigaa
open Go Go.Px Go.Proofs Go.ChangeShapes Go.WideShapes Go.ChangeAt Go.RowKit Go.Proofs.Ytohmeljljamigaa.St
set_option maxRecDepth 100000

theorem stateOne_law (ss : List SV) (h : TypAll Try.prog 9 Try.f9.params.toList ss) : Ct Try.prog 9 {} ss (fun r => r = [.val (.bool true)]) := by
  have e : Try.f9.params.toList = [64, 73] := by kernel_rfl
  rw [e] at h
  obtain ⟨s0, _, rfl, h0, s1, _, rfl, h1, rfl⟩ := h
  obtain ⟨d, rfl, hd⟩ := typ_st h0
  obtain ⟨e, rfl⟩ := typ_ev h1
  exact law9_fn d hd e

theorem stateOne_lifted (os : Os) (started : os.Started) (H : Type) (enc : TypeId × Value → H) :
    ReturnsInHanded {} Try.checked os 9 .any (Rows.stateOneSpec.pre6 enc Try.prog Try.f9 Rows.stateOneRow.domain false) (Rows.stateOneSpec.post enc Try.prog Try.f9 false true false false) := by
  refine returnsInHanded_of_change (C := Try.checked) St.own started (by kernel_rfl) Try.func9
    (ChangeSpec.witness6 (enc := enc) (C := Try.checked) false ⟨#[], #[.agg #[.slice none 0 0, .int .i64 0, .int .i64 0], .agg #[.int .i64 0, .int .i64 0, .int .i64 0, .string ByteArray.empty, .int .i64 0, .int .i64 0, .int .i64 0]], []⟩ 8 (by kernel_rfl) (by kernel_rfl) (by kernel_rfl) (by kernel_rfl)) ?_
  intro W base args ds gs before hval hW _ _
  exact law_contract 9 Rows.stateOneSpec 4 rfl St.laidOut (by kernel_rfl) (by kernel_rfl) St.u4 W base args ds gs before (fun l hl => match l, hl with | [_, _], _ => ⟨rfl, rfl, rfl⟩) hval hW stateOne_law

theorem stateOne_holds : Rows.StateOneSaid :=
  OpenClaim.holds_of_wide 9 Try.f9 rfl rfl rfl rfl rfl rfl rfl ⟨rfl, rfl, rfl, rfl, rfl⟩ rfl rfl rfl rfl rfl (by kernel_rfl) Try.func9 (by kernel_rfl)
    (of_decide_eq_true (by kernel_rfl)) (by unfold Func.isWrapper; first | (rw [if_pos (by decide +kernel)]; kernel_rfl) | (rw [if_neg (by decide +kernel)]; exact ⟨rfl, rfl⟩))
    (fun os started H enc _ => stateOne_lifted os started H enc)

end Go.Proofs.Ytohmeljljamigaa

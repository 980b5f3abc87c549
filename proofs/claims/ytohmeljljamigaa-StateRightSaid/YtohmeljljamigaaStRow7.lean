/-
  Whatever states, events and name are given, the law StateRight returns true; the arguments read as before. No condition.
-/
import Derived.Test.YtohmeljljamigaaStT
import Derived.Test.YtohmeljljamigaaRows
namespace Go.Proofs.Ytohmeljljamigaa
open Go Go.Px Go.Proofs Go.ChangeShapes Go.WideShapes Go.ChangeAt Go.RowKit Go.Proofs.Ytohmeljljamigaa.St
set_option maxRecDepth 100000

theorem stateRight_law (ss : List SV) (h : TypAll Try.prog 9 Try.f7.params.toList ss) : Ct Try.prog 7 {} ss (fun r => r = [.val (.bool true)]) := by
  have e : Try.f7.params.toList = [64, 64, 65, 9] := by kernel_rfl
  rw [e] at h
  obtain ⟨s0, _, rfl, h0, s1, _, rfl, h1, s2, _, rfl, h2, s3, _, rfl, h3, rfl⟩ := h
  obtain ⟨d, rfl, hd⟩ := typ_st h0
  obtain ⟨d2, rfl, hd2⟩ := typ_st h1
  obtain ⟨l, rfl, hl⟩ := typ_evs h2
  obtain ⟨b, rfl⟩ := typ_str h3
  exact law7_fn d d2 hd hd2 l hl b

theorem stateRight_lifted (os : Os) (started : os.Started) (H : Type) (enc : TypeId × Value → H) :
    ReturnsInHanded {} Try.checked os 7 .any (Rows.stateRightSpec.pre6 enc Try.prog Try.f7 Rows.stateRightRow.domain false) (Rows.stateRightSpec.post enc Try.prog Try.f7 false true false false) := by
  refine returnsInHanded_of_change (C := Try.checked) St.own started (by kernel_rfl) Try.func7
    (ChangeSpec.witness6 (enc := enc) (C := Try.checked) false ⟨#[], #[.agg #[.slice none 0 0, .int .i64 0, .int .i64 0], .agg #[.slice none 0 0, .int .i64 0, .int .i64 0], .slice none 0 0, .string ByteArray.empty], []⟩ 8 (by kernel_rfl) (by kernel_rfl) (by kernel_rfl) (by kernel_rfl)) ?_
  intro W base args ds gs before hval hW _ _
  exact law_contract 9 Rows.stateRightSpec 4 rfl St.laidOut (by kernel_rfl) (by kernel_rfl) St.u4 W base args ds gs before (fun l hl => match l, hl with | [_, _, _, _], _ => ⟨rfl, rfl, rfl⟩) hval hW stateRight_law

theorem stateRight_holds : Rows.StateRightSaid :=
  OpenClaim.holds_of_wide 7 Try.f7 rfl rfl rfl rfl rfl rfl rfl ⟨rfl, rfl, rfl, rfl, rfl⟩ rfl rfl rfl rfl rfl (by kernel_rfl) Try.func7 (by kernel_rfl)
    (of_decide_eq_true (by kernel_rfl)) (by unfold Func.isWrapper; first | (rw [if_pos (by decide +kernel)]; kernel_rfl) | (rw [if_neg (by decide +kernel)]; exact ⟨rfl, rfl⟩))
    (fun os started H enc _ => stateRight_lifted os started H enc)

end Go.Proofs.Ytohmeljljamigaa

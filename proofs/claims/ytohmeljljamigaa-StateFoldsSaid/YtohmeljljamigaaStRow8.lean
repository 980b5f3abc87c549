/-
  Whatever state, events and number are given, the law StateFolds returns true; the arguments read as before. No condition.
-/
import Derived.Test.YtohmeljljamigaaStT
import Derived.Test.YtohmeljljamigaaSt5
import Derived.Test.YtohmeljljamigaaRows
namespace Go.Proofs.Ytohmeljljamigaa
open Go Go.Px Go.Proofs Go.ChangeShapes Go.WideShapes Go.ChangeAt Go.RowKit Go.Proofs.Ytohmeljljamigaa.St
set_option maxRecDepth 100000

theorem stateFolds_law (ss : List SV) (h : TypAll Try.prog 9 Try.f8.params.toList ss) : Ct Try.prog 8 {} ss (fun r => r = [.val (.bool true)]) := by
  have e : Try.f8.params.toList = [64, 65, 5] := by kernel_rfl
  rw [e] at h
  obtain ⟨s0, _, rfl, h0, s1, _, rfl, h1, s2, _, rfl, h2, rfl⟩ := h
  obtain ⟨d, rfl, hd⟩ := typ_st h0
  obtain ⟨l, rfl, hl⟩ := typ_evs h1
  obtain ⟨n, rfl, hn⟩ := St.typ_u8 h2
  exact law8_fn d hd l hl n hn

theorem stateFolds_lifted (os : Os) (started : os.Started) (H : Type) (enc : TypeId × Value → H) :
    ReturnsInHanded {} Try.checked os 8 .any (Rows.stateFoldsSpec.pre6 enc Try.prog Try.f8 Rows.stateFoldsRow.domain false) (Rows.stateFoldsSpec.post enc Try.prog Try.f8 false true false false) := by
  refine returnsInHanded_of_change (C := Try.checked) St.own started (by kernel_rfl) Try.func8
    (ChangeSpec.witness6 (enc := enc) (C := Try.checked) false ⟨#[], #[.agg #[.slice none 0 0, .int .i64 0, .int .i64 0], .slice none 0 0, .int .u8 0], []⟩ 8 (by kernel_rfl) (by kernel_rfl) (by kernel_rfl) (by kernel_rfl)) ?_
  intro W base args ds gs before hval hW _ _
  exact law_contract 9 Rows.stateFoldsSpec 4 rfl St.laidOut (by kernel_rfl) (by kernel_rfl) St.u4 W base args ds gs before (fun l hl => match l, hl with | [_, _, _], _ => ⟨rfl, rfl, rfl⟩) hval hW stateFolds_law

theorem stateFolds_holds : Rows.StateFoldsSaid :=
  OpenClaim.holds_of_wide 8 Try.f8 rfl rfl rfl rfl rfl rfl rfl ⟨rfl, rfl, rfl, rfl, rfl⟩ rfl rfl rfl rfl rfl (by kernel_rfl) Try.func8 (by kernel_rfl)
    (of_decide_eq_true (by kernel_rfl)) (by unfold Func.isWrapper; first | (rw [if_pos (by decide +kernel)]; kernel_rfl) | (rw [if_neg (by decide +kernel)]; exact ⟨rfl, rfl⟩))
    (fun os started H enc _ => stateFolds_lifted os started H enc)

end Go.Proofs.Ytohmeljljamigaa

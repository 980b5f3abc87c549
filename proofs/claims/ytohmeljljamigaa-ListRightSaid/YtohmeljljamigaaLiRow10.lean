/-
  Whatever list, event and number are given, the law ListRight returns true; the arguments read as before. No condition.
-/
import Derived.Test.YtohmeljljamigaaLiT
import Derived.Test.YtohmeljljamigaaRows
namespace Go.Proofs.Ytohmeljljamigaa
open Go Go.Px Go.Proofs Go.ChangeShapes Go.WideShapes Go.ChangeAt Go.RowKit Go.Proofs.Ytohmeljljamigaa.Li
set_option maxRecDepth 100000

theorem listRight_law (ss : List SV) (h : TypAll Try.prog 10 Try.f10.params.toList ss) : Ct Try.prog 10 {} ss (fun r => r = [.val (.bool true)]) := by
  have e : Try.f10.params.toList = [100, 73, 2] := by kernel_rfl
  rw [e] at h
  obtain ⟨s0, _, rfl, h0, s1, _, rfl, h1, s2, _, rfl, h2, rfl⟩ := h
  obtain ⟨l, rfl, a, b, c⟩ := typ_li h0
  obtain ⟨e, rfl⟩ := typ_ev10 h1
  obtain ⟨n, rfl, hn, _⟩ := typ_i2 h2
  exact law10_fn l a b c e n hn

theorem listRight_lifted (os : Os) (started : os.Started) (H : Type) (enc : TypeId × Value → H) :
    ReturnsInHanded {} Try.checked os 10 .any (Rows.listRightSpec.pre6 enc Try.prog Try.f10 Rows.listRightRow.domain false) (Rows.listRightSpec.post enc Try.prog Try.f10 false true false false) := by
  refine returnsInHanded_of_change (C := Try.checked) St.own started (by kernel_rfl) Try.func10
    (ChangeSpec.witness6 (enc := enc) (C := Try.checked) false ⟨#[], #[.agg #[.slice none 0 0, .slice none 0 0, .int .i64 0, .int .i64 0, .int .i64 0, .bool false], .agg #[.int .i64 0, .int .i64 0, .int .i64 0, .string ByteArray.empty, .int .i64 0, .int .i64 0, .int .i64 0], .int .i64 0], []⟩ 8 (by kernel_rfl) (by kernel_rfl) (by kernel_rfl) (by kernel_rfl)) ?_
  intro W base args ds gs before hval hW _ _
  exact law_contract 10 Rows.listRightSpec 4 rfl St.laidOut (by kernel_rfl) (by kernel_rfl) St.u4 W base args ds gs before (fun l hl => match l, hl with | [_, _, _], _ => ⟨rfl, rfl, rfl⟩) hval hW listRight_law

theorem listRight_holds : Rows.ListRightSaid :=
  OpenClaim.holds_of_wide 10 Try.f10 rfl rfl rfl rfl rfl rfl rfl ⟨rfl, rfl, rfl, rfl, rfl⟩ rfl rfl rfl rfl rfl (by kernel_rfl) Try.func10 (by kernel_rfl)
    (of_decide_eq_true (by kernel_rfl)) (by unfold Func.isWrapper; first | (rw [if_pos (by decide +kernel)]; kernel_rfl) | (rw [if_neg (by decide +kernel)]; exact ⟨rfl, rfl⟩))
    (fun os started H enc _ => listRight_lifted os started H enc)

end Go.Proofs.Ytohmeljljamigaa

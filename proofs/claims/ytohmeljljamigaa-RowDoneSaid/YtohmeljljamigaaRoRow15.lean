/-
  Whatever state and events are given, the law RowDone returns true; the arguments read as before. No condition.
-/
import Derived.Test.YtohmeljljamigaaRoA
import Derived.Test.YtohmeljljamigaaRows
namespace Go.Proofs.Ytohmeljljamigaa
open Go Go.Px Go.Proofs Go.ChangeShapes Go.WideShapes Go.ChangeAt Go.RowKit Go.Proofs.Ytohmeljljamigaa.St Go.Proofs.Ytohmeljljamigaa.Row
set_option maxRecDepth 100000

theorem rowDone_law (ss : List SV) (h : TypAll Try.prog 9 Try.f15.params.toList ss) : Ct Try.prog 15 {} ss (fun r => r = [.val (.bool true)]) := by
  have e : Try.f15.params.toList = [64, 65] := by kernel_rfl
  rw [e] at h
  obtain ⟨s0, _, rfl, h0, s1, _, rfl, h1, rfl⟩ := h
  obtain ⟨d, rfl, hd⟩ := St.typ_st h0
  obtain ⟨l, rfl, hl⟩ := St.typ_evs h1
  exact law15_fn d l hd hl

theorem rowDone_lifted (os : Os) (started : os.Started) (H : Type) (enc : TypeId × Value → H) :
    ReturnsInHanded {} Try.checked os 15 .any (Rows.rowDoneSpec.pre6 enc Try.prog Try.f15 Rows.rowDoneRow.domain false) (Rows.rowDoneSpec.post enc Try.prog Try.f15 false true false false) := by
  refine returnsInHanded_of_change (C := Try.checked) St.own started (by kernel_rfl) Try.func15
    (ChangeSpec.witness6 (enc := enc) (C := Try.checked) false ⟨#[], #[.agg #[.slice none 0 0, .int .i64 0, .int .i64 0], .slice none 0 0], []⟩ 8 (by kernel_rfl) (by kernel_rfl) (by kernel_rfl) (by kernel_rfl)) ?_
  intro W base args ds gs before hval hW _ _
  exact law_contract 9 Rows.rowDoneSpec 4 rfl St.laidOut (by kernel_rfl) (by kernel_rfl) St.u4 W base args ds gs before (fun l hl => match l, hl with | [_, _], _ => ⟨rfl, rfl, rfl⟩) hval hW rowDone_law

theorem rowDone_holds : Rows.RowDoneSaid :=
  OpenClaim.holds_of_wide 15 Try.f15 rfl rfl rfl rfl rfl rfl rfl ⟨rfl, rfl, rfl, rfl, rfl⟩ rfl rfl rfl rfl rfl (by kernel_rfl) Try.func15 (by kernel_rfl)
    (of_decide_eq_true (by kernel_rfl)) (by unfold Func.isWrapper; first | (rw [if_pos (by decide +kernel)]; kernel_rfl) | (rw [if_neg (by decide +kernel)]; exact ⟨rfl, rfl⟩))
    (fun os started H enc _ => rowDone_lifted os started H enc)

end Go.Proofs.Ytohmeljljamigaa

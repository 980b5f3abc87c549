/-
  Whatever states, bytes and cut are given, the law RowBack returns true; the arguments read as before. No condition.
-/
import Derived.Test.YtohmeljljamigaaRoA
import Derived.Test.YtohmeljljamigaaRows
namespace Go.Proofs.Ytohmeljljamigaa
open Go Go.Px Go.Proofs Go.ChangeShapes Go.WideShapes Go.ChangeAt Go.RowKit Go.Proofs.Ytohmeljljamigaa.St Go.Proofs.Ytohmeljljamigaa.Row
set_option maxRecDepth 100000

theorem rowBack_law (ss : List SV) (h : TypAll Try.prog 9 Try.f14.params.toList ss) : Ct Try.prog 14 {} ss (fun r => r = [.val (.bool true)]) := by
  have e : Try.f14.params.toList = [64, 64, 25, 55, 25] := by kernel_rfl
  rw [e] at h
  obtain ⟨s0, _, rfl, h0, s1, _, rfl, h1, s2, _, rfl, h2, s3, _, rfl, h3, s4, _, rfl, h4, rfl⟩ := h
  obtain ⟨d, rfl, hd⟩ := St.typ_st h0
  obtain ⟨d2, rfl, hd2⟩ := St.typ_st h1
  obtain ⟨l, rfl, hb⟩ := Row.typ_bytes h2
  obtain ⟨x, rfl, hx⟩ := Row.typ_u16 h3
  obtain ⟨m, rfl, hm⟩ := Row.typ_bytes h4
  exact law14_fn d d2 l x m hd hd2 hb hm hx.1 hx.2

theorem rowBack_lifted (os : Os) (started : os.Started) (H : Type) (enc : TypeId × Value → H) :
    ReturnsInHanded {} Try.checked os 14 .any (Rows.rowBackSpec.pre6 enc Try.prog Try.f14 Rows.rowBackRow.domain false) (Rows.rowBackSpec.post enc Try.prog Try.f14 false true false false) := by
  refine returnsInHanded_of_change (C := Try.checked) St.own started (by kernel_rfl) Try.func14
    (ChangeSpec.witness6 (enc := enc) (C := Try.checked) false ⟨#[], #[.agg #[.slice none 0 0, .int .i64 0, .int .i64 0], .agg #[.slice none 0 0, .int .i64 0, .int .i64 0], .slice none 0 0, .int .u16 0, .slice none 0 0], []⟩ 8 (by kernel_rfl) (by kernel_rfl) (by kernel_rfl) (by kernel_rfl)) ?_
  intro W base args ds gs before hval hW _ _
  exact law_contract 9 Rows.rowBackSpec 4 rfl St.laidOut (by kernel_rfl) (by kernel_rfl) St.u4 W base args ds gs before (fun l hl => match l, hl with | [_, _, _, _, _], _ => ⟨rfl, rfl, rfl⟩) hval hW rowBack_law

theorem rowBack_holds : Rows.RowBackSaid :=
  OpenClaim.holds_of_wide 14 Try.f14 rfl rfl rfl rfl rfl rfl rfl ⟨rfl, rfl, rfl, rfl, rfl⟩ rfl rfl rfl rfl rfl (by kernel_rfl) Try.func14 (by kernel_rfl)
    (of_decide_eq_true (by kernel_rfl)) (by unfold Func.isWrapper; first | (rw [if_pos (by decide +kernel)]; kernel_rfl) | (rw [if_neg (by decide +kernel)]; exact ⟨rfl, rfl⟩))
    (fun os started H enc _ => rowBack_lifted os started H enc)

end Go.Proofs.Ytohmeljljamigaa

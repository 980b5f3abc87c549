/-
  Whatever list, numbers and event are given, the law ListDrops returns true; the arguments read as before. No condition.
-/
import Derived.Test.YtohmeljljamigaaLiT
import Derived.Test.YtohmeljljamigaaRows
namespace Go.Proofs.Ytohmeljljamigaa
open Go Go.Px Go.Proofs Go.ChangeShapes Go.WideShapes Go.ChangeAt Go.RowKit Go.Proofs.Ytohmeljljamigaa.Li
set_option maxRecDepth 100000

theorem typ_u16L {s : SV} (ht : TypV Try.prog 10 55 s) : ∃ x : Int, s = .val (.int .u16 x) ∧ 0 ≤ x ∧ x ≤ 65535 := by
  have u55 : Try.prog.underlying 55 = some (.int .u16) := by kernel_rfl
  obtain ⟨ss, h1, _, h3⟩ := ht
  have h3 := h3 (by simp [isAggT])
  subst h3
  simp only [Typ, u55] at h1
  obtain ⟨x, e, hx⟩ := h1
  refine ⟨x, by simpa using e, ?_⟩
  simp [Lit.wf, IntKind.min, IntKind.max, IntKind.signed, IntKind.bits] at hx
  omega

theorem listDrops_law (ss : List SV) (h : TypAll Try.prog 10 Try.f11.params.toList ss) : Ct Try.prog 11 {} ss (fun r => r = [.val (.bool true)]) := by
  have e : Try.f11.params.toList = [100, 55, 55, 73] := by kernel_rfl
  rw [e] at h
  obtain ⟨s0, _, rfl, h0, s1, _, rfl, h1, s2, _, rfl, h2, s3, _, rfl, h3, rfl⟩ := h
  obtain ⟨l, rfl, a, b, c⟩ := typ_li h0
  obtain ⟨x, rfl, hx⟩ := typ_u16L h1
  obtain ⟨y, rfl, hy⟩ := typ_u16L h2
  obtain ⟨e, rfl⟩ := typ_ev10 h3
  exact law11_fn l a b x y hx hy e

theorem listDrops_lifted (os : Os) (started : os.Started) (H : Type) (enc : TypeId × Value → H) :
    ReturnsInHanded {} Try.checked os 11 .any (Rows.listDropsSpec.pre6 enc Try.prog Try.f11 Rows.listDropsRow.domain false) (Rows.listDropsSpec.post enc Try.prog Try.f11 false true false false) := by
  refine returnsInHanded_of_change (C := Try.checked) St.own started (by kernel_rfl) Try.func11
    (ChangeSpec.witness6 (enc := enc) (C := Try.checked) false ⟨#[], #[.agg #[.slice none 0 0, .slice none 0 0, .int .i64 0, .int .i64 0, .int .i64 0, .bool false], .int .u16 0, .int .u16 0, .agg #[.int .i64 0, .int .i64 0, .int .i64 0, .string ByteArray.empty, .int .i64 0, .int .i64 0, .int .i64 0]], []⟩ 8 (by kernel_rfl) (by kernel_rfl) (by kernel_rfl) (by kernel_rfl)) ?_
  intro W base args ds gs before hval hW _ _
  exact law_contract 10 Rows.listDropsSpec 4 rfl St.laidOut (by kernel_rfl) (by kernel_rfl) St.u4 W base args ds gs before (fun l hl => match l, hl with | [_, _, _, _], _ => ⟨rfl, rfl, rfl⟩) hval hW listDrops_law

theorem listDrops_holds : Rows.ListDropsSaid :=
  OpenClaim.holds_of_wide 11 Try.f11 rfl rfl rfl rfl rfl rfl rfl ⟨rfl, rfl, rfl, rfl, rfl⟩ rfl rfl rfl rfl rfl (by kernel_rfl) Try.func11 (by kernel_rfl)
    (of_decide_eq_true (by kernel_rfl)) (by unfold Func.isWrapper; first | (rw [if_pos (by decide +kernel)]; kernel_rfl) | (rw [if_neg (by decide +kernel)]; exact ⟨rfl, rfl⟩))
    (fun os started H enc _ => listDrops_lifted os started H enc)

end Go.Proofs.Ytohmeljljamigaa

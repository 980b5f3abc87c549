/-
  Whatever components, event, name, role and time are given, the law CompRight returns true; the arguments read as before. No condition.
-/
import Derived.Test.YtpgahnnbpfeldaaCmpT
import Derived.Test.YtpgahnnbpfeldaaRows
namespace Go.Proofs.Ytpgahnnbpfeldaa
open Go Go.Px Go.Proofs Go.ChangeShapes Go.WideShapes Go.ChangeAt Go.RowKit Go.Proofs.Ytpgahnnbpfeldaa.Cmp
set_option maxRecDepth 100000

theorem compRight_law (ss : List SV) (h : TypAll Try.prog 6 Try.f9.params.toList ss) : Ct Try.prog 9 {} ss (fun r => r = [.val (.bool true)]) := by
  have e : Try.f9.params.toList = [79, 79, 23, 9, 3, 2] := by kernel_rfl
  rw [e] at h
  obtain ⟨s0, _, rfl, h0, s1, _, rfl, h1, s2, _, rfl, h2, s3, _, rfl, h3, s4, _, rfl, h4, s5, _, rfl, h5, rfl⟩ := h
  obtain ⟨c, rfl⟩ := typ_cmp h0
  obtain ⟨d, rfl⟩ := typ_cmp h1
  obtain ⟨ev, rfl⟩ := Cmp.typ_ev h2
  obtain ⟨nm, rfl⟩ := typ_str h3
  obtain ⟨ro, rfl⟩ := typ_i3 h4
  obtain ⟨a, rfl⟩ := typ_i2 h5
  exact law9_fn c d ev nm ro a

theorem compRight_lifted (os : Os) (started : os.Started) (H : Type) (enc : TypeId × Value → H) :
    ReturnsInHanded {} Try.checked os 9 .any (Rows.compRightSpec.pre6 enc Try.prog Try.f9 Rows.compRightRow.domain false) (Rows.compRightSpec.post enc Try.prog Try.f9 false true false false) := by
  refine returnsInHanded_of_change (C := Try.checked) Cmp.own started (by kernel_rfl) Try.func9
    (ChangeSpec.witness6 (enc := enc) (C := Try.checked) false ⟨#[], #[.agg #[.string ByteArray.empty, .int .i64 0, .int .i64 0, .int .i64 0, .int .i64 0, .slice none 0 0, .int .i64 0, .int .i64 0, .int .i64 0, .int .i64 0, .int .i64 0, .int .i64 0, .int .i64 0, .int .i64 0, .int .i64 0, .int .i64 0, .int .i64 0, .int .i64 0, .int .i64 0, .int .i64 0, .int .i64 0], .agg #[.string ByteArray.empty, .int .i64 0, .int .i64 0, .int .i64 0, .int .i64 0, .slice none 0 0, .int .i64 0, .int .i64 0, .int .i64 0, .int .i64 0, .int .i64 0, .int .i64 0, .int .i64 0, .int .i64 0, .int .i64 0, .int .i64 0, .int .i64 0, .int .i64 0, .int .i64 0, .int .i64 0, .int .i64 0], .agg #[.int .i64 0, .int .i64 0, .int .i64 0, .string ByteArray.empty, .int .i64 0, .int .i64 0, .int .i64 0], .string ByteArray.empty, .int .i64 0, .int .i64 0], []⟩ 8 (by kernel_rfl) (by kernel_rfl) (by kernel_rfl) (by kernel_rfl)) ?_
  intro W base args ds gs before hval hW _ _
  exact law_contract 6 Rows.compRightSpec 4 rfl Cmp.laidOut (by kernel_rfl) (by kernel_rfl) Cmp.u4 W base args ds gs before (fun l hl => match l, hl with | [_, _, _, _, _, _], _ => ⟨rfl, rfl, rfl⟩) hval hW compRight_law

theorem compRight_holds : Rows.CompRightSaid :=
  OpenClaim.holds_of_wide 9 Try.f9 rfl rfl rfl rfl rfl rfl rfl ⟨rfl, rfl, rfl, rfl, rfl⟩ rfl rfl rfl rfl rfl (by kernel_rfl) Try.func9 (by kernel_rfl)
    (of_decide_eq_true (by kernel_rfl)) (by unfold Func.isWrapper; first | (rw [if_pos (by decide +kernel)]; kernel_rfl) | (rw [if_neg (by decide +kernel)]; exact ⟨rfl, rfl⟩))
    (fun os started H enc _ => compRight_lifted os started H enc)

end Go.Proofs.Ytpgahnnbpfeldaa

/-
  Whatever was ahead, whatever event and whatever bytes are given, the law CodecRight returns true; the arguments read as before. No condition.
-/
import Derived.Test.YtpgahnnbpfeldaaCodT
import Derived.Test.YtpgahnnbpfeldaaRows
namespace Go.Proofs.Ytpgahnnbpfeldaa
open Go Go.Px Go.Proofs Go.ChangeShapes Go.WideShapes Go.ChangeAt Go.RowKit Go.Proofs.Ytpgahnnbpfeldaa.Cod
set_option maxRecDepth 100000

theorem codecRight_law (ss : List SV) (h : TypAll Try.prog 6 Try.f5.params.toList ss) : Ct Try.prog 5 {} ss (fun r => r = [.val (.bool true)]) := by
  have e : Try.f5.params.toList = [37, 23, 38] := by kernel_rfl
  rw [e] at h
  obtain ⟨s0, _, rfl, h0, s1, _, rfl, h1, s2, _, rfl, h2, rfl⟩ := h
  obtain ⟨cs, ca, l, rfl, hl⟩ := typ_ctx h0
  obtain ⟨ev, rfl⟩ := Cod.typ_ev h1
  obtain ⟨b, rfl, hb⟩ := typ_bytes h2
  exact law5_fn cs ca l ev b hl hb

theorem codecRight_lifted (os : Os) (started : os.Started) (H : Type) (enc : TypeId × Value → H) :
    ReturnsInHanded {} Try.checked os 5 .any (Rows.codecRightSpec.pre6 enc Try.prog Try.f5 Rows.codecRightRow.domain false) (Rows.codecRightSpec.post enc Try.prog Try.f5 false true false false) := by
  refine returnsInHanded_of_change (C := Try.checked) Cod.own started (by kernel_rfl) Try.func5
    (ChangeSpec.witness6 (enc := enc) (C := Try.checked) false ⟨#[], #[.agg #[.int .i64 0, .int .i64 0, .slice none 0 0], .agg #[.int .i64 0, .int .i64 0, .int .i64 0, .string ByteArray.empty, .int .i64 0, .int .i64 0, .int .i64 0], .slice none 0 0], []⟩ 8 (by kernel_rfl) (by kernel_rfl) (by kernel_rfl) (by kernel_rfl)) ?_
  intro W base args ds gs before hval hW _ _
  exact law_contract 6 Rows.codecRightSpec 4 rfl Cod.laidOut (by kernel_rfl) (by kernel_rfl) Cod.u4 W base args ds gs before (fun l hl => match l, hl with | [_, _, _], _ => ⟨rfl, rfl, rfl⟩) hval hW codecRight_law

theorem codecRight_holds : Rows.CodecRightSaid :=
  OpenClaim.holds_of_wide 5 Try.f5 rfl rfl rfl rfl rfl rfl rfl ⟨rfl, rfl, rfl, rfl, rfl⟩ rfl rfl rfl rfl rfl (by kernel_rfl) Try.func5 (by kernel_rfl)
    (of_decide_eq_true (by kernel_rfl)) (by unfold Func.isWrapper; first | (rw [if_pos (by decide +kernel)]; kernel_rfl) | (rw [if_neg (by decide +kernel)]; exact ⟨rfl, rfl⟩))
    (fun os started H enc _ => codecRight_lifted os started H enc)

end Go.Proofs.Ytpgahnnbpfeldaa

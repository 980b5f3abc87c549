/-
  Whatever was ahead, whatever event, bytes, cut and further bytes are given, the law CodecBack returns true; the arguments read as before. No condition.
-/
import Derived.Test.YtpgahnnbpfeldaaCod11
import Derived.Test.YtpgahnnbpfeldaaCodT
import Derived.Test.YtpgahnnbpfeldaaRows
namespace Go.Proofs.Ytpgahnnbpfeldaa
open Go Go.Px Go.Proofs Go.ChangeShapes Go.WideShapes Go.ChangeAt Go.RowKit Go.Proofs.Ytpgahnnbpfeldaa.Cod
set_option maxRecDepth 100000

theorem codecBack_law (ss : List SV) (h : TypAll Try.prog 6 Try.f6.params.toList ss) : Ct Try.prog 6 {} ss (fun r => r = [.val (.bool true)]) := by
  have e : Try.f6.params.toList = [37, 23, 38, 5, 38] := by kernel_rfl
  rw [e] at h
  obtain ⟨s0, _, rfl, h0, s1, _, rfl, h1, s2, _, rfl, h2, s3, _, rfl, h3, s4, _, rfl, h4, rfl⟩ := h
  obtain ⟨cs, ca, l, rfl, hl⟩ := typ_ctx h0
  obtain ⟨ev, rfl⟩ := Cod.typ_ev h1
  obtain ⟨b, rfl, hb⟩ := typ_bytes h2
  obtain ⟨cut, rfl, hc⟩ := typ_u8 h3
  obtain ⟨m, rfl, hm⟩ := typ_bytes h4
  exact law6_fn cs ca l ev b cut m hl hb hc.1 hc.2 hm

theorem codecBack_lifted (os : Os) (started : os.Started) (H : Type) (enc : TypeId × Value → H) :
    ReturnsInHanded {} Try.checked os 6 .any (Rows.codecBackSpec.pre6 enc Try.prog Try.f6 Rows.codecBackRow.domain false) (Rows.codecBackSpec.post enc Try.prog Try.f6 false true false false) := by
  refine returnsInHanded_of_change (C := Try.checked) Cod.own started (by kernel_rfl) Try.func6
    (ChangeSpec.witness6 (enc := enc) (C := Try.checked) false ⟨#[], #[.agg #[.int .i64 0, .int .i64 0, .slice none 0 0], .agg #[.int .i64 0, .int .i64 0, .int .i64 0, .string ByteArray.empty, .int .i64 0, .int .i64 0, .int .i64 0], .slice none 0 0, .int .u8 0, .slice none 0 0], []⟩ 8 (by kernel_rfl) (by kernel_rfl) (by kernel_rfl) (by kernel_rfl)) ?_
  intro W base args ds gs before hval hW _ _
  exact law_contract 6 Rows.codecBackSpec 4 rfl Cod.laidOut (by kernel_rfl) (by kernel_rfl) Cod.u4 W base args ds gs before (fun l hl => match l, hl with | [_, _, _, _, _], _ => ⟨rfl, rfl, rfl⟩) hval hW codecBack_law

theorem codecBack_holds : Rows.CodecBackSaid :=
  OpenClaim.holds_of_wide 6 Try.f6 rfl rfl rfl rfl rfl rfl rfl ⟨rfl, rfl, rfl, rfl, rfl⟩ rfl rfl rfl rfl rfl (by kernel_rfl) Try.func6 (by kernel_rfl)
    (of_decide_eq_true (by kernel_rfl)) (by unfold Func.isWrapper; first | (rw [if_pos (by decide +kernel)]; kernel_rfl) | (rw [if_neg (by decide +kernel)]; exact ⟨rfl, rfl⟩))
    (fun os started H enc _ => codecBack_lifted os started H enc)

end Go.Proofs.Ytpgahnnbpfeldaa

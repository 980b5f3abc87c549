/-
  Whatever disk, names, bytes and numbers are given, the law DiskJoins returns true; the arguments read as before. No condition.
-/
import Derived.Test.YtohmeljljamigaaDskTW
import Derived.Test.YtohmeljljamigaaRows
namespace Go.Proofs.Ytohmeljljamigaa
open Go Go.Px Go.Proofs Go.ChangeShapes Go.WideShapes Go.ChangeAt Go.RowKit Go.Proofs.Ytohmeljljamigaa.Dsk
set_option maxRecDepth 100000

theorem diskJoins_law (ss : List SV) (h : TypAllW Try.prog 6 Try.f3.params.toList ss) : Ct Try.prog 3 {} ss (fun r => r = [.val (.bool true)]) := by
  have e : Try.f3.params.toList = [24, 9, 9, 25, 25, 26] := by kernel_rfl
  rw [e] at h
  obtain ⟨s0, _, rfl, h0, s1, _, rfl, h1, s2, _, rfl, h2, s3, _, rfl, h3, s4, _, rfl, h4, s5, _, rfl, h5, rfl⟩ := h
  obtain ⟨d, rfl, hd⟩ := typ_dskW h0
  obtain ⟨a, rfl⟩ := typ_strW h1
  obtain ⟨b, rfl⟩ := typ_strW h2
  obtain ⟨x, rfl, hx⟩ := typ_byW h3
  obtain ⟨y, rfl, hy⟩ := typ_byW h4
  obtain ⟨ks, rfl, hk⟩ := typ_intW h5
  exact law3_fn d hd a b x y ks hx hy hk

theorem diskJoins_lifted (os : Os) (started : os.Started) (H : Type) (enc : TypeId × Value → H) :
    ReturnsInHanded {} Try.checked os 3 .any (Rows.diskJoinsSpec.pre6 enc Try.prog Try.f3 Rows.diskJoinsRow.domain false) (Rows.diskJoinsSpec.post enc Try.prog Try.f3 false true false false) := by
  refine returns_sized (C := Try.checked) Dsk.ownW started (by kernel_rfl) Try.func3
    (ChangeSpec.witness6 (enc := enc) (C := Try.checked) false ⟨#[], #[.agg #[.slice none 0 0, .int .i64 0, .int .i64 0, .bool false], .string ByteArray.empty, .string ByteArray.empty, .slice none 0 0, .slice none 0 0, .slice none 0 0], []⟩ 8 (by kernel_rfl) (by kernel_rfl) (by kernel_rfl) (by kernel_rfl)) ?_
  intro W base args ds gs before hval hW _ hwt _
  exact law_contractW 6 Rows.diskJoinsSpec 4 rfl Dsk.laidOutW (by kernel_rfl) (by kernel_rfl) Dsk.w4 W base args ds gs before (fun l hl => match l, hl with | [_, _, _, _, _, _], _ => ⟨rfl, rfl, rfl⟩) hval hW hwt diskJoins_law

theorem diskJoins_holds : Rows.DiskJoinsSaid :=
  OpenClaim.holds_of_wide 3 Try.f3 rfl rfl rfl rfl rfl rfl rfl ⟨rfl, rfl, rfl, rfl, rfl⟩ rfl rfl rfl rfl rfl (by kernel_rfl) Try.func3 (by kernel_rfl)
    (of_decide_eq_true (by kernel_rfl)) (by unfold Func.isWrapper; first | (rw [if_pos (by decide +kernel)]; kernel_rfl) | (rw [if_neg (by decide +kernel)]; exact ⟨rfl, rfl⟩))
    (fun os started H enc _ => diskJoins_lifted os started H enc)

end Go.Proofs.Ytohmeljljamigaa

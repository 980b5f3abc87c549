/-
  Whatever operations, name, number of steps and numbers are given, the law DiskLasts returns true; the arguments read as before. No condition.
-/
import Derived.Test.YtohmeljljamigaaDskT
import Derived.Test.YtohmeljljamigaaDsk11
import Derived.Test.YtohmeljljamigaaRows
namespace Go.Proofs.Ytohmeljljamigaa
open Go Go.Px Go.Proofs Go.ChangeShapes Go.WideShapes Go.ChangeAt Go.RowKit Go.Proofs.Ytohmeljljamigaa.Dsk
set_option maxRecDepth 100000

theorem typ_intsV {s : SV} (ht : TypV Try.prog 6 26 s) : ∃ l : List Int, s = SL 1 (l.map fun k => [I k]) := by
  obtain ⟨ss, h1, _, h3⟩ := ht
  have h3 := h3 (by simp [isAggT])
  subst h3
  unfold Typ at h1
  rw [Dsk.u26] at h1
  obtain ⟨rows, e, hl, hr⟩ := h1
  obtain ⟨l, rfl, _⟩ := Dsk.rows_map (f := fun k : Int => [I k]) (Q := fun _ => True) rows (fun r hm => by
    have := hr r hm
    simp only [Typ, Dsk.u3] at this
    obtain ⟨x, rfl, _⟩ := this
    exact ⟨x, rfl, trivial⟩)
  exact ⟨l, by have c3 : Try.prog.cellsOf 3 = 1 := by kernel_rfl
               rw [c3] at e; simpa using e⟩

theorem diskLasts_law (ss : List SV) (h : TypAll Try.prog 6 Try.f6.params.toList ss) : Ct Try.prog 6 {} ss (fun r => r = [.val (.bool true)]) := by
  have e : Try.f6.params.toList = [54, 54, 5, 5, 26] := by kernel_rfl
  rw [e] at h
  obtain ⟨s0, _, rfl, h0, s1, _, rfl, h1, s2, _, rfl, h2, s3, _, rfl, h3, s4, _, rfl, h4, rfl⟩ := h
  obtain ⟨a, rfl, ha, wa⟩ := typ_dos h0
  obtain ⟨o, rfl, ho, wo⟩ := typ_dos h1
  obtain ⟨f, rfl, hf⟩ := Dsk.typ_u8 h2
  obtain ⟨n, rfl, hn⟩ := Dsk.typ_u8 h3
  obtain ⟨ks, rfl⟩ := typ_intsV h4
  exact law6_fn a o ha wa ho wo f n hf hn ks

theorem diskLasts_lifted (os : Os) (started : os.Started) (H : Type) (enc : TypeId × Value → H) :
    ReturnsInHanded {} Try.checked os 6 .any (Rows.diskLastsSpec.pre6 enc Try.prog Try.f6 Rows.diskLastsRow.domain false) (Rows.diskLastsSpec.post enc Try.prog Try.f6 false true false false) := by
  refine returnsInHanded_of_change (C := Try.checked) Dsk.own started (by kernel_rfl) Try.func6
    (ChangeSpec.witness6 (enc := enc) (C := Try.checked) false ⟨#[], #[.slice none 0 0, .slice none 0 0, .int .u8 0, .int .u8 0, .slice none 0 0], []⟩ 8 (by kernel_rfl) (by kernel_rfl) (by kernel_rfl) (by kernel_rfl)) ?_
  intro W base args ds gs before hval hW _ _
  exact law_contract 6 Rows.diskLastsSpec 4 rfl Dsk.laidOut (by kernel_rfl) (by kernel_rfl) Dsk.u4 W base args ds gs before (fun l hl => match l, hl with | [_, _, _, _, _], _ => ⟨rfl, rfl, rfl⟩) hval hW diskLasts_law

theorem diskLasts_holds : Rows.DiskLastsSaid :=
  OpenClaim.holds_of_wide 6 Try.f6 rfl rfl rfl rfl rfl rfl rfl ⟨rfl, rfl, rfl, rfl, rfl⟩ rfl rfl rfl rfl rfl (by kernel_rfl) Try.func6 (by kernel_rfl)
    (of_decide_eq_true (by kernel_rfl)) (by unfold Func.isWrapper; first | (rw [if_pos (by decide +kernel)]; kernel_rfl) | (rw [if_neg (by decide +kernel)]; exact ⟨rfl, rfl⟩))
    (fun os started H enc _ => diskLasts_lifted os started H enc)

end Go.Proofs.Ytohmeljljamigaa

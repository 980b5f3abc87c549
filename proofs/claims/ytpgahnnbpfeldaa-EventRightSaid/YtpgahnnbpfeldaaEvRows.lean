/-
  Whatever event, kind, text and numbers are given, the law EventRight returns true, and so does EventFields; the arguments read as before. No condition.
-/
import Derived.Test.YtpgahnnbpfeldaaEv
import Derived.Test.YtpgahnnbpfeldaaRows
import Derived.ProofKit
namespace Go.Proofs.Ytpgahnnbpfeldaa
open Go Go.Px Go.Proofs Go.ChangeShapes Go.WideShapes Go.ChangeAt Go.RowKit
set_option maxRecDepth 100000

theorem own : ownKnob Try.prog.godebug = none := by kernel_rfl
theorem laidOut : laidOutB Try.prog = true := by kernel_rfl

theorem typ_int {t : TypeId} (hu : Try.prog.underlying t = some (.int .i64)) {s : SV} (ht : TypV Try.prog 6 t s) : ∃ x : Int, s = I x ∧ (Lit.int .i64 x).wf = true := by
  obtain ⟨ss, h1, _, h3⟩ := ht
  have h3 := h3 (by simp [isAggT, hu])
  simp only [Typ, hu] at h1
  obtain ⟨x, e, hx⟩ := h1
  subst h3
  simp at e
  exact ⟨x, e, hx⟩

theorem typ_str {t : TypeId} (hu : Try.prog.underlying t = some .string) {s : SV} (ht : TypV Try.prog 6 t s) : ∃ c : ByteArray, s = S c := by
  obtain ⟨ss, h1, _, h3⟩ := ht
  have h3 := h3 (by simp [isAggT, hu])
  simp only [Typ, hu] at h1
  obtain ⟨x, e, hx⟩ := h1
  subst h3
  simp at e
  exact ⟨x, e⟩

theorem u2 : Try.prog.underlying 2 = some (.int .i64) := by kernel_rfl
theorem u3 : Try.prog.underlying 3 = some (.int .i64) := by kernel_rfl
theorem u4 : Try.prog.underlying 4 = some .bool := by kernel_rfl
theorem u9 : Try.prog.underlying 9 = some .string := by kernel_rfl
theorem u24 : Try.prog.underlying 24 = some (.slice 2) := by kernel_rfl

theorem typ_ints {s : SV} (ht : TypV Try.prog 6 24 s) : ∃ rows, s = SL 1 rows ∧ Ints rows := by
  obtain ⟨ss, h1, _, h3⟩ := ht
  have h3 := h3 (by simp [isAggT])
  simp only [Typ, u24, u2] at h1
  obtain ⟨rows, e, _, hr⟩ := h1
  subst h3
  simp at e
  have hz : Try.prog.cellsOf 2 = 1 := by kernel_rfl
  refine ⟨rows, by rw [e, hz], fun r hm => ?_⟩
  obtain ⟨x, hx, _⟩ := hr r hm
  exact ⟨x, hx⟩

theorem typ_ev {s : SV} (ht : TypV Try.prog 6 23 s) : ∃ sq a k c x y z, s = ev7 sq a k c x y z := by
  obtain ⟨ss, h1, h2, _⟩ := ht
  have h2 := h2 (by kernel_rfl)
  have h1 : splits (fun f s => Typ Try.prog 5 f s) [2, 2, 3, 9, 2, 2, 2] ss := by
    have e : Typ Try.prog 6 23 ss = splits (fun f s => Typ Try.prog 5 f s) [2, 2, 3, 9, 2, 2, 2] ss := by kernel_rfl
    rw [← e]; exact h1
  simp only [splits, Typ, u2, u3, u9] at h1
  obtain ⟨_, _, rfl, ⟨sq, rfl, _⟩, _, _, rfl, ⟨a, rfl, _⟩, _, _, rfl, ⟨k, rfl, _⟩, _, _, rfl, ⟨c, rfl, _⟩, _, _, rfl, ⟨x, rfl, _⟩, _, _, rfl, ⟨y, rfl, _⟩, _, _, rfl, ⟨z, rfl, _⟩, rfl⟩ := h1
  exact ⟨sq, a, k, c, x, y, z, h2⟩

theorem eventRight_law (ss : List SV) (h : TypAll Try.prog 6 Try.f3.params.toList ss) : Ct Try.prog 3 {} ss (fun r => r = [.val (.bool true)]) := by
  have e : Try.f3.params.toList = [23, 3, 9, 24] := by kernel_rfl
  rw [e] at h
  obtain ⟨s0, _, rfl, h0, s1, _, rfl, h1, s2, _, rfl, h2, s3, _, rfl, h3, rfl⟩ := h
  obtain ⟨sq, a, k, c, x, y, z, rfl⟩ := typ_ev h0
  obtain ⟨kind, rfl, _⟩ := typ_int u3 h1
  obtain ⟨t, rfl⟩ := typ_str u9 h2
  obtain ⟨rows, rfl, hr⟩ := typ_ints h3
  exact law3_fn sq a k c x y z kind t rows hr

theorem eventRight_lifted (os : Os) (started : os.Started) (H : Type) (enc : TypeId × Value → H) :
    ReturnsInHanded {} Try.checked os 3 .any (Rows.eventRightSpec.pre6 enc Try.prog Try.f3 Rows.eventRightRow.domain false) (Rows.eventRightSpec.post enc Try.prog Try.f3 false true false false) := by
  refine returnsInHanded_of_change (C := Try.checked) own started (by kernel_rfl) Try.func3
    (ChangeSpec.witness6 (enc := enc) (C := Try.checked) false ⟨#[], #[.agg #[.int .i64 0, .int .i64 0, .int .i64 0, .string ByteArray.empty, .int .i64 0, .int .i64 0, .int .i64 0], .int .i64 0, .string ByteArray.empty, .slice none 0 0], []⟩ 8 (by kernel_rfl) (by kernel_rfl) (by kernel_rfl) (by kernel_rfl)) ?_
  intro W base args ds gs before hval hW _ _
  exact law_contract 6 Rows.eventRightSpec 4 rfl laidOut (by kernel_rfl) (by kernel_rfl) u4 W base args ds gs before (fun l hl => match l, hl with | [_, _, _, _], _ => ⟨rfl, rfl, rfl⟩) hval hW eventRight_law

theorem eventRight_holds : Rows.EventRightSaid :=
  OpenClaim.holds_of_wide 3 Try.f3 rfl rfl rfl rfl rfl rfl rfl ⟨rfl, rfl, rfl, rfl, rfl⟩ rfl rfl rfl rfl rfl (by kernel_rfl) Try.func3 (by kernel_rfl)
    (of_decide_eq_true (by kernel_rfl)) (by unfold Func.isWrapper; first | (rw [if_pos (by decide +kernel)]; kernel_rfl) | (rw [if_neg (by decide +kernel)]; exact ⟨rfl, rfl⟩))
    (fun os started H enc _ => eventRight_lifted os started H enc)

theorem eventFields_law (ss : List SV) (h : TypAll Try.prog 6 Try.f4.params.toList ss) : Ct Try.prog 4 {} ss (fun r => r = [.val (.bool true)]) := by
  have e : Try.f4.params.toList = [23, 2] := by kernel_rfl
  rw [e] at h
  obtain ⟨s0, _, rfl, h0, s1, _, rfl, h1, rfl⟩ := h
  obtain ⟨sq, a, k, c, x, y, z, rfl⟩ := typ_ev h0
  obtain ⟨n, rfl, _⟩ := typ_int u2 h1
  exact law4_fn sq a k c x y z n

theorem eventFields_lifted (os : Os) (started : os.Started) (H : Type) (enc : TypeId × Value → H) :
    ReturnsInHanded {} Try.checked os 4 .any (Rows.eventFieldsSpec.pre6 enc Try.prog Try.f4 Rows.eventFieldsRow.domain false) (Rows.eventFieldsSpec.post enc Try.prog Try.f4 false true false false) := by
  refine returnsInHanded_of_change (C := Try.checked) own started (by kernel_rfl) Try.func4
    (ChangeSpec.witness6 (enc := enc) (C := Try.checked) false ⟨#[], #[.agg #[.int .i64 0, .int .i64 0, .int .i64 0, .string ByteArray.empty, .int .i64 0, .int .i64 0, .int .i64 0], .int .i64 0], []⟩ 8 (by kernel_rfl) (by kernel_rfl) (by kernel_rfl) (by kernel_rfl)) ?_
  intro W base args ds gs before hval hW _ _
  exact law_contract 6 Rows.eventFieldsSpec 4 rfl laidOut (by kernel_rfl) (by kernel_rfl) u4 W base args ds gs before (fun l hl => match l, hl with | [_, _], _ => ⟨rfl, rfl, rfl⟩) hval hW eventFields_law

theorem eventFields_holds : Rows.EventFieldsSaid :=
  OpenClaim.holds_of_wide 4 Try.f4 rfl rfl rfl rfl rfl rfl rfl ⟨rfl, rfl, rfl, rfl, rfl⟩ rfl rfl rfl rfl rfl (by kernel_rfl) Try.func4 (by kernel_rfl)
    (of_decide_eq_true (by kernel_rfl)) (by unfold Func.isWrapper; first | (rw [if_pos (by decide +kernel)]; kernel_rfl) | (rw [if_neg (by decide +kernel)]; exact ⟨rfl, rfl⟩))
    (fun os started H enc _ => eventFields_lifted os started H enc)

end Go.Proofs.Ytpgahnnbpfeldaa

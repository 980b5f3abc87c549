/-
  Whatever bucket and numbers are given, the law BucketRight returns true, and so does BucketJoins; the arguments read as before. No condition.
-/
import Derived.Test.YtggfbmcdodbchaaBkt
import Derived.Test.YtggfbmcdodbchaaRows
import Derived.ProofKit
namespace Go.Proofs.Ytggfbmcdodbchaa
open Go Go.Px Go.Proofs Go.ChangeShapes Go.WideShapes Go.ChangeAt Go.RowKit
set_option maxRecDepth 100000

theorem own : ownKnob Try.prog.godebug = none := by kernel_rfl
theorem laidOut : laidOutB Try.prog = true := by kernel_rfl

theorem typ_u32 {s : SV} (ht : TypV Try.prog 4 35 s) : ∃ x : Int, s = SV.int .u32 x ∧ (Lit.int .u32 x).wf = true := by
  obtain ⟨ss, h1, _, h3⟩ := ht
  have h3 := h3 (by kernel_rfl)
  obtain ⟨x, e, hx⟩ : ∃ x : Int, ss = [.val (.int .u32 x)] ∧ (Lit.int .u32 x).wf = true := h1
  subst h3
  simp at e
  exact ⟨x, e, hx⟩

theorem bucketRight_law (ss : List SV) (h : TypAll Try.prog 4 Try.f3.params.toList ss) : Ct Try.prog 3 false ss (fun r => r = [.val (.bool true)]) := by
  rw [Try.params3] at h
  obtain ⟨s0, _, rfl, h0, s1, _, rfl, h1, s2, _, rfl, h2, s3, _, rfl, h3, rfl⟩ := h
  obtain ⟨br, bh, rfl, _, _⟩ := typ_bk h0
  obtain ⟨n, rfl, hn⟩ := typ_i64 h1
  obtain ⟨room, rfl, _⟩ := typ_i64 h2
  obtain ⟨has, rfl, _⟩ := typ_i64 h3
  exact law3_fn br bh n room has (wf_i64 hn).2

theorem bucketRight_lifted (os : Os) (started : os.Started) (H : Type) (enc : TypeId × Value → H) :
    ReturnsInHanded {} Try.checked os 3 .any (Rows.bucketRightSpec.pre6 enc Try.prog Try.f3 Rows.bucketRightRow.domain false) (Rows.bucketRightSpec.post enc Try.prog Try.f3 false true false false) := by
  refine returnsInHanded_of_change (C := Try.checked) own started (by kernel_rfl) Try.func3
    (ChangeSpec.witness6 (enc := enc) (C := Try.checked) false ⟨#[], #[.agg #[.int .i64 0, .int .i64 0], .int .i64 0, .int .i64 0, .int .i64 0], []⟩ 8 (by kernel_rfl) (by kernel_rfl) (by kernel_rfl) (by kernel_rfl)) ?_
  intro W base args ds gs before hval hW _ _
  exact law_contract 4 Rows.bucketRightSpec 4 rfl laidOut (by kernel_rfl) (by kernel_rfl) Try.underlying4 W base args ds gs before (fun l hl => match l, hl with | [_, _, _, _], _ => ⟨rfl, rfl, rfl⟩) hval hW bucketRight_law

theorem bucketRight_holds : Rows.BucketRightSaid :=
  OpenClaim.holds_of_wide 3 Try.f3 rfl rfl rfl rfl rfl rfl rfl ⟨rfl, rfl, rfl, rfl, rfl⟩ rfl rfl rfl rfl rfl (by kernel_rfl) Try.func3 (by kernel_rfl)
    (of_decide_eq_true (by kernel_rfl)) (by unfold Func.isWrapper; first | (rw [if_pos (by decide +kernel)]; kernel_rfl) | (rw [if_neg (by decide +kernel)]; exact ⟨rfl, rfl⟩))
    (fun os started H enc _ => bucketRight_lifted os started H enc)

theorem bucketJoins_law (ss : List SV) (h : TypAll Try.prog 4 Try.f5.params.toList ss) : Ct Try.prog 5 false ss (fun r => r = [.val (.bool true)]) := by
  rw [Try.params5] at h
  obtain ⟨s0, _, rfl, h0, s1, _, rfl, h1, s2, _, rfl, h2, rfl⟩ := h
  obtain ⟨br, bh, rfl, _, _⟩ := typ_bk h0
  obtain ⟨m, rfl, hm⟩ := typ_u32 h1
  obtain ⟨n, rfl, hn⟩ := typ_u32 h2
  exact law5_fn br bh m n (wf_u32 hm) (wf_u32 hn)

theorem bucketJoins_lifted (os : Os) (started : os.Started) (H : Type) (enc : TypeId × Value → H) :
    ReturnsInHanded {} Try.checked os 5 .any (Rows.bucketJoinsSpec.pre6 enc Try.prog Try.f5 Rows.bucketJoinsRow.domain false) (Rows.bucketJoinsSpec.post enc Try.prog Try.f5 false true false false) := by
  refine returnsInHanded_of_change (C := Try.checked) own started (by kernel_rfl) Try.func5
    (ChangeSpec.witness6 (enc := enc) (C := Try.checked) false ⟨#[], #[.agg #[.int .i64 0, .int .i64 0], .int .u32 0, .int .u32 0], []⟩ 8 (by kernel_rfl) (by kernel_rfl) (by kernel_rfl) (by kernel_rfl)) ?_
  intro W base args ds gs before hval hW _ _
  exact law_contract 4 Rows.bucketJoinsSpec 4 rfl laidOut (by kernel_rfl) (by kernel_rfl) Try.underlying4 W base args ds gs before (fun l hl => match l, hl with | [_, _, _], _ => ⟨rfl, rfl, rfl⟩) hval hW bucketJoins_law

theorem bucketJoins_holds : Rows.BucketJoinsSaid :=
  OpenClaim.holds_of_wide 5 Try.f5 rfl rfl rfl rfl rfl rfl rfl ⟨rfl, rfl, rfl, rfl, rfl⟩ rfl rfl rfl rfl rfl (by kernel_rfl) Try.func5 (by kernel_rfl)
    (of_decide_eq_true (by kernel_rfl)) (by unfold Func.isWrapper; first | (rw [if_pos (by decide +kernel)]; kernel_rfl) | (rw [if_neg (by decide +kernel)]; exact ⟨rfl, rfl⟩))
    (fun os started H enc _ => bucketJoins_lifted os started H enc)

end Go.Proofs.Ytggfbmcdodbchaa

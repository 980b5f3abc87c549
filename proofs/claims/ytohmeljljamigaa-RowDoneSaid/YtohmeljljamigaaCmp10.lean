/- Layers 2, 11, 14: sums of a window at one place; two components alike; the fixed answer; CompRight over plain data. -/
import Derived.Test.YtohmeljljamigaaCmp9
import Derived.Test.YtohmeljljamigaaCmpN3
namespace Go.Proofs.Ytohmeljljamigaa.Cmp
open Go Go.Px Go.Proofs
set_option maxRecDepth 100000
set_option linter.unusedVariables false

theorem psame_fn (c d : CoD) (hl : c.cl.length ≤ 1000000) : Ct Try.prog 56 {} [c.sv, d.sv] (fun r => r = [B (decide (sameP c d))]) := by
  refine psame_nf _ _ _ _ _ _ _ _ _ _ _ _ _ _ _ _ _ _ _ _ _ _ _ _ _ _ _ _ _ _ _ _ _ _ _ _ _ _ _ _ _ _ _ (ifB_intro (fun h => Cl.of (cequal_fn c.cl d.cl hl) ⟨_, rfl, ?_⟩) (fun h => ?_))
  · rw [seq_d] at h
    simp at h
    refine congrArg (fun b => [B b]) ?_
    rw [Bool.eq_iff_iff, decide_eq_true_eq]; unfold sameP
    simp [h, and_assoc]
  · rw [seq_d] at h
    simp at h
    refine congrArg (fun b => [B b]) ?_
    rw [Bool.eq_iff_iff, decide_eq_true_eq]; unfold sameP
    simp
    intro h1 h2 h3 h4 h5
    exact absurd h5 (h h1 h2 h3 h4)

theorem qsame_fn (c d : CoD) (hl : c.cl.length ≤ 1000000) : Ct Try.prog 108 {} [c.sv, d.sv] (fun r => r = [B (decide (sameP c d))]) := by
  refine qsame_nf _ _ _ _ _ _ _ _ _ _ _ _ _ _ _ _ _ _ _ _ _ _ _ _ _ _ _ _ _ _ _ _ _ _ _ _ _ _ _ _ _ _ _ (ifB_intro (fun h => Cl.of (rwsame_fn c.wd c.sl c.cl d.wd d.sl d.cl hl) ⟨_, rfl, ?_⟩) (fun h => ?_))
  · rw [seq_d] at h
    simp at h
    refine congrArg (fun b => [B b]) ?_
    rw [Bool.eq_iff_iff, decide_eq_true_eq]; unfold sameP
    simp [h, and_assoc]
  · rw [seq_d] at h
    simp at h
    refine congrArg (fun b => [B b]) ?_
    rw [Bool.eq_iff_iff, decide_eq_true_eq]; unfold sameP
    simp
    intro h1 h2 h3
    exact absurd h3 (h h1 h2)

theorem qshort_fn (c : CoD) : Ct Try.prog 102 {} [c.sv] (fun r => r = [B (decide (c.nm.size ≤ 100 ∧ c.cl.length ≤ 40))]) := by
  refine qshort_nf _ _ _ _ _ _ _ _ _ _ _ _ _ _ _ _ _ _ _ _ _ _ ?_
  refine congrArg (fun b => [B b]) ?_
  rw [Bool.eq_iff_iff, decide_eq_true_eq]
  simp [slen_eq]
  omega

end Go.Proofs.Ytohmeljljamigaa.Cmp

/- Layers 2, 11, 14: sums of a window at one place; two components alike; the fixed answer; CompRight over plain data. -/
import Derived.Test.YtpgahnnbpfeldaaCmp9
import Derived.Test.YtpgahnnbpfeldaaCmpN4
import Derived.Test.YtpgahnnbpfeldaaFl
namespace Go.Proofs.Ytpgahnnbpfeldaa.Cmp
open Go Go.Px Go.Proofs
set_option maxRecDepth 100000
set_option linter.unusedVariables false

theorem psame_fn (c d : CoD) (hl : c.cl.length ≤ 1000000) : Ct Try.prog 55 {} [c.sv, d.sv] (fun r => r = [B (decide (sameP c d))]) := by
  refine psame_nf _ _ _ _ _ _ _ _ _ _ _ _ _ _ _ _ _ _ _ _ _ _ _ _ _ _ _ _ _ _ _ _ _ _ _ _ _ _ _ _ _ _ _ (ifB_intro (fun h => Cl.of (cequal_fn c.cl d.cl hl) ⟨_, rfl, ?_⟩) (fun h => ?_))
  · rw [seq_d] at h
    simp at h
    refine congrArg (fun b => [B b]) ?_
    rw [Bool.eq_iff_iff, decide_eq_true_eq]; unfold sameP
    simp [h, and_assoc]
  · rw [seq_d] at h
    simp at h
    refine congrArg (fun b => [B b]) ?_
    rw [Bool.eq_iff_iff, decide_eq_true_eq]; unfold sameP
    simp
    intro h1 h2 h3 h4 h5
    exact absurd h5 (h h1 h2 h3 h4)

theorem qsame_fn (c d : CoD) (hl : c.cl.length ≤ 1000000) : Ct Try.prog 48 {} [c.sv, d.sv] (fun r => r = [B (decide (sameP c d))]) := by
  refine qsame_nf _ _ _ _ _ _ _ _ _ _ _ _ _ _ _ _ _ _ _ _ _ _ _ _ _ _ _ _ _ _ _ _ _ _ _ _ _ _ _ _ _ _ _ (ifB_intro (fun h => Cl.of (rwsame_fn c.wd c.sl c.cl d.wd d.sl d.cl hl) ⟨_, rfl, ?_⟩) (fun h => ?_))
  · rw [seq_d] at h
    simp at h
    refine congrArg (fun b => [B b]) ?_
    rw [Bool.eq_iff_iff, decide_eq_true_eq]; unfold sameP
    simp [h, and_assoc]
  · rw [seq_d] at h
    simp at h
    refine congrArg (fun b => [B b]) ?_
    rw [Bool.eq_iff_iff, decide_eq_true_eq]; unfold sameP
    simp
    intro h1 h2 h3
    exact absurd h3 (h h1 h2)

theorem tof00 : Ct Try.prog 137 {} [I 0, I 0] (fun r => r = [.val (.complex .f64 0 0)]) :=
  tof_nf _ _ _ (Cl.of (hold_fn 0) ⟨_, rfl, _, by have := fcvt_if 0; rw [near0] at this; exact this, Cl.of (hold_fn 0) ⟨_, rfl, _, by have := fcvt_if 0; rw [near0] at this; exact this, rfl⟩⟩)
theorem tof01 : Ct Try.prog 137 {} [I 0, I 1] (fun r => r = [.val (.complex .f64 0 f1)]) :=
  tof_nf _ _ _ (Cl.of (hold_fn 0) ⟨_, rfl, _, by have := fcvt_if 0; rw [near0] at this; exact this, Cl.of (hold_fn 1) ⟨_, rfl, _, by have := fcvt_if 1; rw [near1] at this; exact this, rfl⟩⟩)

theorem whole0 : Ct Try.prog 184 {} [.val (.float .f64 0)] (fun r => r = [I 0]) :=
  whole_nf _ _ ⟨_, fbin_geq ford1, ifB_intro (fun _ => ⟨_, fbin_leq ford2, ifB_intro (fun _ => Cl.of (R := [.val (.float .f64 0)]) (trunc_nf _ _ ⟨_, fext_trunc trunc0, rfl⟩) ⟨_, rfl, _, fbin_eql ford3, ifB_intro (fun _ => ⟨_, fcvt_fi ftoi0 (by decide), rfl⟩) (fun h => by simp at h)⟩) (fun h => by simp at h)⟩) (fun h => by simp at h)⟩
theorem whole1 : Ct Try.prog 184 {} [.val (.float .f64 f1)] (fun r => r = [I 1]) :=
  whole_nf _ _ ⟨_, fbin_geq ford4, ifB_intro (fun _ => ⟨_, fbin_leq ford5, ifB_intro (fun _ => Cl.of (R := [.val (.float .f64 f1)]) (trunc_nf _ _ ⟨_, fext_trunc trunc1, rfl⟩) ⟨_, rfl, _, fbin_eql ford6, ifB_intro (fun _ => ⟨_, fcvt_fi ftoi1 (by decide), rfl⟩) (fun h => by simp at h)⟩) (fun h => by simp at h)⟩) (fun h => by simp at h)⟩
theorem parts01 : Ct Try.prog 138 {} [.val (.complex .f64 0 f1)] (fun r => r = [I 0, I 1]) :=
  tparts_nf _ _ _ (Cl.of whole0 ⟨_, rfl, Cl.of whole1 ⟨_, rfl, rfl⟩⟩)

abbrev z1 : List SV := [.val (.complex .f64 0 0)]
abbrev o1 : List SV := [.val (.complex .f64 0 f1)]
abbrev tr : List (List SV) := [z1, z1, o1, z1]
theorem tsum_tr : Ct Try.prog 139 {} [SL 1 tr] (fun r => r = [.val (.complex .f64 0 f1)]) := by
  refine tsum_nf _ _ ⟨fun p x => (0 ≤ x ∧ x ≤ 4) ∧ p = (0, if x ≤ 2 then 0 else f1), fun _ x => (4 - x).toNat, ⟨by omega, rfl⟩, ?_⟩
  rintro p x ⟨⟨x0, x4⟩, rfl⟩
  refine ifB_intro (fun hx => ?_) (fun hx => ?_)
  · have hx : x < 4 := by simpa [rlen] using hx
    rw [wadd_i64 (by omega) (by omega)]
    have : x = 0 ∨ x = 1 ∨ x = 2 ∨ x = 3 := by omega
    rcases this with rfl | rfl | rfl | rfl
    · exact ⟨⟨by decide, by decide⟩, _, _, rfl, _, _, fbin_cadd fadd00 fadd00, rfl, ⟨by decide, rfl⟩, mlt (by decide)⟩
    · exact ⟨⟨by decide, by decide⟩, _, _, rfl, _, _, fbin_cadd fadd00 fadd00, rfl, ⟨by decide, rfl⟩, mlt (by decide)⟩
    · exact ⟨⟨by decide, by decide⟩, _, _, rfl, _, _, fbin_cadd fadd00 fadd01, rfl, ⟨by decide, rfl⟩, mlt (by decide)⟩
    · exact ⟨⟨by decide, by decide⟩, _, _, rfl, _, _, fbin_cadd fadd00 fadd10, rfl, ⟨by decide, rfl⟩, mlt (by decide)⟩
  · have hx : 4 ≤ x := by simpa [rlen] using hx
    obtain rfl : x = 4 := by omega
    rfl

abbrev clB : List (Int × Int) := [(0, 0), (0, 0), (0, 1), (0, 0)]
theorem wsum_b : Ct Try.prog 61 {} [win3 10 2 (cR clB)] (fun r => r = [.agg [I 0, I 1]]) := by
  have hw : winP 10 2 clB := by decide
  have hr : rlen (cR clB) = 4 := rfl
  refine wsum_nf _ _ _ _ (Cl.of (wright_fn 10 2 clB) ⟨_, rfl, ifB_intro (fun h => ?_) (fun _ => ⟨⟨by decide, by rw [hr]; decide, by rw [hr]; decide⟩, fun l x => (0 ≤ x ∧ x ≤ 4) ∧ l = tr.take x.toNat, fun _ x => (4 - x).toNat, ⟨by omega, rfl⟩, ?_⟩)⟩)
  · simp [hw] at h
  rintro l x ⟨⟨x0, x4⟩, rfl⟩
  rw [hr]
  refine ifB_intro (fun hx => ?_) (fun hx => ?_)
  · have hx : x < 4 := by simpa using hx
    rw [wadd_i64 (by omega) (by omega)]
    have : x = 0 ∨ x = 1 ∨ x = 2 ∨ x = 3 := by omega
    rcases this with rfl | rfl | rfl | rfl
    · exact ⟨⟨by decide, by decide⟩, _, _, rfl, Cl.of tof00 ⟨_, _, rfl, by decide, rfl, ⟨by decide, rfl⟩, mlt (by decide)⟩⟩
    · exact ⟨⟨by decide, by decide⟩, _, _, rfl, Cl.of tof00 ⟨_, _, rfl, by decide, rfl, ⟨by decide, rfl⟩, mlt (by decide)⟩⟩
    · exact ⟨⟨by decide, by decide⟩, _, _, rfl, Cl.of tof01 ⟨_, _, rfl, by decide, rfl, ⟨by decide, rfl⟩, mlt (by decide)⟩⟩
    · exact ⟨⟨by decide, by decide⟩, _, _, rfl, Cl.of tof00 ⟨_, _, rfl, by decide, rfl, ⟨by decide, rfl⟩, mlt (by decide)⟩⟩
  · have hx : 4 ≤ x := by simpa using hx
    obtain rfl : x = 4 := by omega
    exact Cl.of tsum_tr ⟨_, _, rfl, Cl.of parts01 ⟨_, _, rfl, rfl⟩⟩

abbrev nq : ByteArray := ByteArray.mk (Array.mk [113])
abbrev ndb : ByteArray := ByteArray.mk (Array.mk [100, 98])
def cq : CoD := { co0 with nm := nq, ro := 2, rm := 10, ha := 10 }
def cq2 : CoD := { co0 with nm := nq, ro := 2, rm := 10, ha := 6, c0 := 1 }
def cb : CoD := { co0 with nm := ndb, ro := 1, wd := 10, sl := 2, cl := [(0, 0), (0, 0), (0, 0), (0, 0)] }
def cb2 : CoD := { co0 with nm := ndb, ro := 1, wd := 10, sl := 2, cl := clB, h3 := 1, hs := 5, c2 := 1 }
theorem new_q : newC nq 2 0 = (cq, 0) := by rfl
theorem new_b : newC ndb 1 25 = (cb, 0) := by rfl
theorem may_q : mayI cq ⟨0, 0, 5, nq, 4, 0, 0⟩ = 0 := by decide
theorem tell_q : tellC cq ⟨0, 0, 5, nq, 4, 0, 0⟩ = cq2 := by rfl
theorem may_b : mayI cb ⟨0, 27, 3, ndb, 2, 5, 0⟩ = 0 := by decide
theorem tell_b : tellC cb ⟨0, 27, 3, ndb, 2, 5, 0⟩ = cb2 := by rfl
theorem may_q2 : mayI cq2 ⟨0, 0, 4, nq, 0, 0, 0⟩ = 8 := by decide
theorem right_b : cb2.P := by decide
theorem same_bq : ¬ sameP cb2 cq2 := by decide

theorem awake_fn : Ct Try.prog 44 {} [] (fun r => r = [B true]) := by
  have h1 : Ct Try.prog 46 {} [S nq, I 2, I 0] (fun r => r = [cq.sv, I 0]) := by have := pnew_fn nq 2 0; rw [new_q] at this; exact this
  have h2 : Ct Try.prog 49 {} [cq.sv, EvD.sv ⟨0, 0, 5, nq, 4, 0, 0⟩] (fun r => r = [cq2.sv, I 0]) := by have := ptell_fn cq ⟨0, 0, 5, nq, 4, 0, 0⟩; unfold tellR at this; rw [if_pos may_q, tell_q] at this; exact this
  have h3 : Ct Try.prog 46 {} [S ndb, I 1, I 25] (fun r => r = [cb.sv, I 0]) := by have := pnew_fn ndb 1 25; rw [new_b] at this; exact this
  have h4 : Ct Try.prog 49 {} [cb.sv, EvD.sv ⟨0, 27, 3, ndb, 2, 5, 0⟩] (fun r => r = [cb2.sv, I 0]) := by have := ptell_fn cb ⟨0, 27, 3, ndb, 2, 5, 0⟩; unfold tellR at this; rw [if_pos may_b, tell_b] at this; exact this
  have h5 : Ct Try.prog 51 {} [cq2.sv, EvD.sv ⟨0, 0, 4, nq, 0, 0, 0⟩] (fun r => r = [I 8]) := by have := pmay_fn cq2 ⟨0, 0, 4, nq, 0, 0, 0⟩; rw [may_q2] at this; exact this
  have h6 : Ct Try.prog 53 {} [cb2.sv] (fun r => r = [B true]) := by have := pright_fn cb2; rw [decide_eq_true right_b] at this; exact this
  have h7 : Ct Try.prog 55 {} [cb2.sv, cq2.sv] (fun r => r = [B false]) := by have := psame_fn cb2 cq2 (by decide); rw [decide_eq_false same_bq] at this; exact this
  refine awake_nf _ (Cl.of h1 ⟨_, _, _, _, _, _, _, _, _, _, _, _, _, _, _, _, _, _, _, _, _, _, rfl, Cl.of h2 ⟨_, _, _, _, _, _, _, _, _, _, _, _, _, _, _, _, _, _, _, _, _, _, rfl, Cl.of h3 ⟨_, _, _, _, _, _, _, _, _, _, _, _, _, _, _, _, _, _, _, _, _, _, rfl, Cl.of h4 ⟨_, _, _, _, _, _, _, _, _, _, _, _, _, _, _, _, _, _, _, _, _, _, rfl, ?_⟩⟩⟩⟩)
  refine ifB_intro (fun _ => ?_) (fun h => absurd h (by decide))
  refine ifB_intro (fun _ => ?_) (fun h => absurd h (by decide))
  refine ifB_intro (fun _ => ?_) (fun h => absurd h (by decide))
  refine Cl.of wsum_b ⟨_, _, rfl, ifB_intro (fun _ => ?_) (fun h => absurd h (by decide))⟩
  refine Cl.of h5 ⟨_, rfl, ifB_intro (fun _ => ?_) (fun h => absurd h (by decide))⟩
  refine Cl.of h6 ⟨_, rfl, ifB_intro (fun _ => ?_) (fun h => absurd h (by decide))⟩
  exact Cl.of h7 ⟨_, rfl, rfl⟩

theorem qshort_fn (c : CoD) : Ct Try.prog 45 {} [c.sv] (fun r => r = [B (decide (c.nm.size ≤ 100 ∧ c.cl.length ≤ 40))]) := by
  refine qshort_nf _ _ _ _ _ _ _ _ _ _ _ _ _ _ _ _ _ _ _ _ _ _ ?_
  refine congrArg (fun b => [B b]) ?_
  rw [Bool.eq_iff_iff, decide_eq_true_eq]
  simp [slen_eq]
  omega

theorem new_len (nm : ByteArray) (ro a : Int) : (newC nm ro a).1.cl.length ≤ 1000000 := by
  unfold newC
  repeat' split
  all_goals simp [co0]

end Go.Proofs.Ytpgahnnbpfeldaa.Cmp

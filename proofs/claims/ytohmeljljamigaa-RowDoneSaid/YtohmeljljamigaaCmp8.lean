/- Layer 14: what Tell does, and the document's Tell. -/
import Derived.Test.YtohmeljljamigaaCmp7
namespace Go.Proofs.Ytohmeljljamigaa.Cmp
open Go Go.Px Go.Proofs
set_option maxRecDepth 100000
set_option linter.unusedVariables false

theorem wadd_ok {c : CoD} {e : EvD} (ok : MayOK c e) (hr : c.ro = 1) (b : Bool) : waddR c.wd c.sl c.cl e.a b = [win3 c.wd (wadS c.wd c.sl c.cl e.a b).1 (cR (wadS c.wd c.sl c.cl e.a b).2), I 0] := by
  unfold waddR
  rw [if_pos ⟨(right1 ok.right hr).1.2, (chkE_zero ok.chk).2.2.2.1⟩]

theorem ptell_fn (c : CoD) (e : EvD) : Ct Try.prog 58 {} [c.sv, e.sv] (fun r => r = tellR c e) := by
  refine ptell_nf _ _ _ _ _ _ _ _ _ _ _ _ _ _ _ _ _ _ _ _ _ _ _ _ _ _ _ _ _ (Cl.of (pmay_fn c e) ⟨_, rfl, ifB_intro (fun h => ?_) (fun h => ?_)⟩)
  · simp at h
    unfold tellR; rw [if_neg h]
  simp at h
  have ok := may_zero.1 h
  obtain ⟨r1, r2, r3⟩ := role_of ok
  obtain ⟨k0, _, kv, _, _⟩ := chkE_zero ok.chk
  have hlo := hi_le e.k
  unfold tellR
  rw [if_pos h]
  refine ifB_intro (fun k2 => ?_) (fun k2 => ifB_intro (fun k3 => ?_) (fun k3 => ifB_intro (fun k4 => ?_) (fun k4 => ifB_intro (fun k5 => ?_) (fun k5 => ifB_intro (fun k6 => ?_) (fun k6 => ifB_intro (fun k7 => ?_) (fun k7 => ifB_intro (fun k8 => ?_) (fun k8 => ifB_intro (fun k9 => ?_) (fun k9 => ifB_intro (fun k10 => ?_) (fun k10 => ?_)))))))))
  · simp at k2
    exact Cl.of (config_fn c e ok k2) ⟨_, _, _, _, _, _, _, _, _, _, _, _, _, _, _, _, _, _, _, _, _, rfl, rfl⟩
  · simp at k2 k3
    have hr := r1 (.inl k3)
    have hw := wadd_fn c.wd c.sl c.cl e.a (ieq e.x 0)
    rw [wadd_ok ok hr] at hw
    refine Cl.of hw ⟨_, _, _, _, rfl, ?_⟩
    have hh := hadd_fn c.h0 c.h1 c.h2 c.h3 c.h4 c.h5 c.h6 c.h7 c.h8 c.hs e.y
    have eh : haddS c.h0 c.h1 c.h2 c.h3 c.h4 c.h5 c.h6 c.h7 c.h8 c.hs e.y = _ := hadC_his (winC c e) e.y
    rw [eh] at hh
    refine Cl.of hh ⟨_, _, _, _, _, _, _, _, _, _, rfl, ?_⟩
    have hx : 0 ≤ e.x ∧ e.x < 3 := by
      rw [k3] at kv
      simp [lo1, hi1] at kv
      omega
    have q := counted_fn (hadC (winC c e) e.y) e.x hx.1 hx.2
    obtain ⟨e1, e2, e3, e4, e5, e6, e7, e8, e9, e10, e11⟩ := hadC_rest (winC c e) e.y
    have esv : (hadC (winC c e) e.y).sv = SV.agg [S c.nm, I c.ro, I c.mo, I c.wd, I (winC c e).sl, SL 2 (cR (winC c e).cl), I (hadC (winC c e) e.y).h0, I (hadC (winC c e) e.y).h1, I (hadC (winC c e) e.y).h2, I (hadC (winC c e) e.y).h3, I (hadC (winC c e) e.y).h4, I (hadC (winC c e) e.y).h5, I (hadC (winC c e) e.y).h6, I (hadC (winC c e) e.y).h7, I (hadC (winC c e) e.y).h8, I (hadC (winC c e) e.y).hs, I c.rm, I c.ha, I c.c0, I c.c1, I c.c2] := by
      unfold CoD.sv
      rw [e1, e2, e3, e4, e5, e6, e7, e8, e9, e10, e11]
      rfl
    rw [esv] at q
    refine Cl.of q ⟨_, _, _, _, _, _, _, _, _, _, _, _, _, _, _, _, _, _, _, _, _, rfl, ?_⟩
    have et : tellC c e = cntC (hadC (winC c e) e.y) e.x := by unfold tellC; rw [if_neg k2, if_pos k3]
    rw [et]
  · simp at k2 k3 k4
    have hr := r1 (.inr k4)
    refine ifB_intro (fun hx => ?_) (fun hx => ?_)
    · simp at hx
      rw [rlen_cR]
      have hw := wnew_fn c.wd c.cl.length e.a
      rw [wnew_trip ok hr] at hw
      refine Cl.of hw ⟨_, _, _, _, rfl, ?_⟩
      have et : tellC c e = { c with mo := e.x, sl := e.a / c.wd, cl := zer c.cl.length } := by unfold tellC; rw [if_neg k2, if_neg k3, if_pos k4, if_pos hx]
      rw [et]
    · simp at hx
      have et : tellC c e = { c with mo := e.x } := by unfold tellC; rw [if_neg k2, if_neg k3, if_pos k4, if_neg hx]
      rw [et]
  · simp at k2 k3 k4 k5
    refine Cl.of (btake_fn c.rm c.ha e.x) ⟨_, _, _, rfl, ?_⟩
    refine Cl.of (counted_fn { c with ha := takeH c.rm c.ha e.x } 0 (by omega) (by omega)) ⟨_, _, _, _, _, _, _, _, _, _, _, _, _, _, _, _, _, _, _, _, _, rfl, ?_⟩
    have et : tellC c e = cntC { c with ha := takeH c.rm c.ha e.x } 0 := by unfold tellC; rw [if_neg k2, if_neg k3, if_neg k4, if_pos k5]
    rw [et]
  · simp at k2 k3 k4 k5 k6
    refine Cl.of (counted_fn c 1 (by omega) (by omega)) ⟨_, _, _, _, _, _, _, _, _, _, _, _, _, _, _, _, _, _, _, _, _, rfl, ?_⟩
    have et : tellC c e = cntC c 1 := by unfold tellC; rw [if_neg k2, if_neg k3, if_neg k4, if_neg k5, if_pos k6]
    rw [et]
  · simp at k2 k3 k4 k5 k6 k7
    refine Cl.of (bput_fn c.rm c.ha e.x) ⟨_, _, rfl, ?_⟩
    refine Cl.of (counted_fn { c with ha := putH c.rm c.ha e.x } 2 (by omega) (by omega)) ⟨_, _, _, _, _, _, _, _, _, _, _, _, _, _, _, _, _, _, _, _, _, rfl, ?_⟩
    have et : tellC c e = cntC { c with ha := putH c.rm c.ha e.x } 2 := by unfold tellC; rw [if_neg k2, if_neg k3, if_neg k4, if_neg k5, if_neg k6, if_pos k7]
    rw [et]
  · simp at k2 k3 k4 k5 k6 k7 k8
    refine Cl.of (btake_fn c.rm c.ha 1) ⟨_, _, _, rfl, ?_⟩
    refine Cl.of (counted_fn { c with mo := e.x, ha := takeH c.rm c.ha 1 } 0 (by omega) (by omega)) ⟨_, _, _, _, _, _, _, _, _, _, _, _, _, _, _, _, _, _, _, _, _, rfl, ?_⟩
    have et : tellC c e = cntC { c with mo := e.x, ha := takeH c.rm c.ha 1 } 0 := by unfold tellC; rw [if_neg k2, if_neg k3, if_neg k4, if_neg k5, if_neg k6, if_neg k7, if_pos k8]
    rw [et]
  · simp at k2 k3 k4 k5 k6 k7 k8 k9
    have hh := hadd_fn c.h0 c.h1 c.h2 c.h3 c.h4 c.h5 c.h6 c.h7 c.h8 c.hs e.x
    rw [hadC_his c e.x] at hh
    refine Cl.of hh ⟨_, _, _, _, _, _, _, _, _, _, rfl, ?_⟩
    have q := counted_fn (hadC c e.x) 1 (by omega) (by omega)
    obtain ⟨e1, e2, e3, e4, e5, e6, e7, e8, e9, e10, e11⟩ := hadC_rest c e.x
    have esv : (hadC c e.x).sv = SV.agg [S c.nm, I c.ro, I c.mo, I c.wd, I c.sl, SL 2 (cR c.cl), I (hadC c e.x).h0, I (hadC c e.x).h1, I (hadC c e.x).h2, I (hadC c e.x).h3, I (hadC c e.x).h4, I (hadC c e.x).h5, I (hadC c e.x).h6, I (hadC c e.x).h7, I (hadC c e.x).h8, I (hadC c e.x).hs, I c.rm, I c.ha, I c.c0, I c.c1, I c.c2] := by
      unfold CoD.sv
      rw [e1, e2, e3, e4, e5, e6, e7, e8, e9, e10, e11]
    rw [esv] at q
    refine Cl.of q ⟨_, _, _, _, _, _, _, _, _, _, _, _, _, _, _, _, _, _, _, _, _, rfl, ?_⟩
    have et : tellC c e = cntC (hadC c e.x) 1 := by unfold tellC; rw [if_neg k2, if_neg k3, if_neg k4, if_neg k5, if_neg k6, if_neg k7, if_neg k8, if_pos k9]
    rw [et]
  · simp at k2 k3 k4 k5 k6 k7 k8 k9 k10
    refine Cl.of (counted_fn { c with mo := 0 } 2 (by omega) (by omega)) ⟨_, _, _, _, _, _, _, _, _, _, _, _, _, _, _, _, _, _, _, _, _, rfl, ?_⟩
    have et : tellC c e = cntC { c with mo := 0 } 2 := by unfold tellC; rw [if_neg k2, if_neg k3, if_neg k4, if_neg k5, if_neg k6, if_neg k7, if_neg k8, if_neg k9]
    rw [et]
  · simp at k2 k3 k4 k5 k6 k7 k8 k9 k10
    have := ok.k1
    omega

end Go.Proofs.Ytohmeljljamigaa.Cmp

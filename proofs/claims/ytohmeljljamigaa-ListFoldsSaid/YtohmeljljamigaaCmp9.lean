/- Layer 14: the document's May, Tell, Same. -/
import Derived.Test.YtohmeljljamigaaCmp8
namespace Go.Proofs.Ytohmeljljamigaa.Cmp
open Go Go.Px Go.Proofs
set_option maxRecDepth 100000
set_option linter.unusedVariables false

theorem qmay_fn (c : CoD) (e : EvD) : Ct Try.prog 162 {} [c.sv, e.sv] (fun r => r = [I (mayI c e)]) := by
  refine qmay_nf _ _ _ _ _ _ _ _ _ _ _ _ _ _ _ _ _ _ _ _ _ _ _ _ _ _ _ _ _ (Cl.of (qright_fn c) ⟨_, rfl, ifB_intro (fun h => ?_) (fun h => ?_)⟩)
  · simp at h; simp [mayI, h]
  simp at h
  refine Cl.of (rcheck_fn e.s e.a e.k e.c e.x e.y e.z) ⟨_, rfl, ifB_intro (fun h1 => ?_) (fun h1 => ?_)⟩
  · simp at h1
    have h1 : chkE e ≠ 0 := h1
    simp only [mayI, h, h1, not_true_eq_false, if_false, ne_eq, not_false_eq_true, if_true]
    rfl
  simp at h1
  have h1 : chkE e = 0 := h1
  obtain ⟨k0, _, kv, _, _⟩ := chkE_zero h1
  have hlo := hi_le e.k
  rw [sne_d]
  refine ifB_intro (fun h2 => ?_) (fun h2 => ifB_intro (fun h3 => ?_) (fun h3 => ?_))
  · simp at h2; simp [mayI, h, h1, h2]
  · simp at h2 h3; simp [mayI, h, h1, h2, h3]
  simp at h2 h3
  have hrn : 0 ≤ roleI e.k := (role_range e.k (fun hh => by have := (many0 _).1 hh; omega)).1
  refine Cl.of (rrole_fn e.k) ⟨_, rfl, ifB_intro (fun h4 => ?_) (fun h4 => ?_)⟩
  · simp at h4
    have h4' : ¬ roleI e.k = 0 ∧ ¬ roleI e.k = c.ro := by omega
    simp only [mayI, h, h1, h2, h3, h4', not_true_eq_false, if_false, ne_eq, not_false_eq_true, if_true, and_self]
  have h4' : ¬ (¬ roleI e.k = 0 ∧ ¬ roleI e.k = c.ro) := fun hh => by
    have : 0 < roleI e.k := by omega
    simp [this, hh.2] at h4
  refine ifB_intro (fun h5 => ?_) (fun h5 => ?_)
  · simp at h5
    simp only [mayI, h, h1, h2, h3, h5, h4', not_true_eq_false, if_false, ne_eq, false_and]
  simp at h5
  have bad : ¬ cfgP c.ro e → [I 4] = [I (mayI c e)] := fun hb => by
    rw [h5] at h3 h4'
    simp only [mayI, h, h1, h2, h5, hb, h3, h4', not_true_eq_false, if_false, ne_eq, not_false_eq_true, if_true, and_self]
  have good : cfgP c.ro e → [I 0] = [I (mayI c e)] := fun hb => by
    rw [h5] at h3 h4'
    simp only [mayI, h, h1, h2, h5, hb, h3, h4', not_true_eq_false, if_false, ne_eq, and_false]
  have hro := ro_range h
  unfold cfgP at bad good
  refine ifB_intro (fun h6 => ?_) (fun h6 => ifB_intro (fun h7 => ?_) (fun h7 => ifB_intro (fun h8 => ?_) (fun h8 => ?_)))
  · by_cases hr : c.ro = 1
    · rw [if_pos hr] at bad
      simp [hr] at h6
      exact bad (by omega)
    · simp [hr] at h6
  · by_cases hr : c.ro = 2
    · rw [if_neg (by omega), if_pos hr] at bad
      simp [hr] at h7
      exact bad (by omega)
    · simp [hr] at h7
  · by_cases hr : c.ro = 3
    · rw [if_neg (by omega), if_neg (by omega)] at bad
      simp [hr] at h8
      exact bad (by omega)
    · simp [hr] at h8
  · refine good ?_
    rcases hro with hr | hr | hr
    · simp [hr] at h6
      rw [if_pos hr]
      omega
    · simp [hr] at h7
      rw [if_neg (by omega), if_pos hr]
      omega
    · simp [hr] at h8
      rw [if_neg (by omega), if_neg (by omega)]
      omega

/-- Where a thing that is told is counted. -/
def plcOK (c : CoD) (e : EvD) (p : Int) (d : CoD) : Prop := (p = -1 ∧ d = tellC c e) ∨ ((0 ≤ p ∧ p < 3) ∧ cntC d p = tellC c e)

theorem qtell_fn (c : CoD) (e : EvD) : Ct Try.prog 116 {} [c.sv, e.sv] (fun r => r = tellR c e) := by
  refine qtell_nf _ _ _ _ _ _ _ _ _ _ _ _ _ _ _ _ _ _ _ _ _ _ _ _ _ _ _ _ _ (Cl.of (qmay_fn c e) ⟨_, rfl, ifB_intro (fun h => ?_) (fun h => ?_)⟩)
  · simp at h
    unfold tellR; rw [if_neg h]
  simp at h
  have ok := may_zero.1 h
  obtain ⟨r1, r2, r3⟩ := role_of ok
  obtain ⟨k0, _, kv, _, _⟩ := chkE_zero ok.chk
  have hlo := hi_le e.k
  have hk1 := ok.k1
  unfold tellR
  rw [if_pos h]
  refine ⟨fun p y0 y1 y2 y3 y4 y5 y6 y7 y8 y9 y10 y11 y12 y13 y14 y15 y16 y17 y18 y19 y20 => ∃ d : CoD, SV.agg [S y0, I y1, I y2, I y3, I y4, SL 2 y5, I y6, I y7, I y8, I y9, I y10, I y11, I y12, I y13, I y14, I y15, I y16, I y17, I y18, I y19, I y20] = d.sv ∧ plcOK c e p d, fun _ _ _ _ _ _ _ _ _ _ _ _ _ _ _ _ _ _ _ _ _ _ => 0, ?_, ?_⟩
  · refine ifB_intro (fun hr => ?_) (fun hr => ifB_intro (fun hr2 => ?_) (fun hr2 => ?_))
    · simp at hr
      have kk : e.k = 2 ∨ e.k = 3 ∨ e.k = 4 := by omega
      refine ifB_intro (fun k2 => ?_) (fun k2 => ifB_intro (fun k3 => ?_) (fun k3 => ifB_intro (fun hx => ?_) (fun hx => ?_)))
      · simp at k2
        have hw := rwnew_fn e.x e.y e.a
        rw [wnew_cfg ok k2 hr] at hw
        refine Cl.of hw ⟨_, _, _, _, rfl, rfl, { c with wd := e.x, sl := e.a / e.x, cl := zer e.y.toNat }, rfl, .inl ⟨rfl, ?_⟩⟩
        unfold tellC; rw [if_pos k2, if_pos hr]
      · simp at k2 k3
        have hw := rwadd_fn c.wd c.sl c.cl e.a (ieq e.x 0)
        rw [wadd_ok ok hr] at hw
        refine Cl.of hw ⟨_, _, _, _, rfl, ?_⟩
        have hh := rhadd_fn c.h0 c.h1 c.h2 c.h3 c.h4 c.h5 c.h6 c.h7 c.h8 c.hs e.y
        have eh : haddS c.h0 c.h1 c.h2 c.h3 c.h4 c.h5 c.h6 c.h7 c.h8 c.hs e.y = _ := hadC_his (winC c e) e.y
        rw [eh] at hh
        have hx : 0 ≤ e.x ∧ e.x < 3 := by
          rw [k3] at kv
          simp [lo1, hi1] at kv
          omega
        refine Cl.of hh ⟨_, _, _, _, _, _, _, _, _, _, rfl, rfl, hadC (winC c e) e.y, ?_, .inr ⟨hx, ?_⟩⟩
        · obtain ⟨e1, e2, e3, e4, e5, e6, e7, e8, e9, e10, e11⟩ := hadC_rest (winC c e) e.y
          unfold CoD.sv
          rw [e1, e2, e3, e4, e5, e6, e7, e8, e9, e10, e11]
          rfl
        · unfold tellC; rw [if_neg k2, if_pos k3]
      · simp at k2 k3 hx
        have k4 : e.k = 4 := by omega
        rw [rlen_cR]
        have hw := rwnew_fn c.wd c.cl.length e.a
        rw [wnew_trip ok hr] at hw
        refine Cl.of hw ⟨_, _, _, _, rfl, rfl, { c with mo := e.x, sl := e.a / c.wd, cl := zer c.cl.length }, rfl, .inl ⟨rfl, ?_⟩⟩
        unfold tellC; rw [if_neg k2, if_neg k3, if_pos k4, if_pos hx]
      · simp at k2 k3 hx
        have k4 : e.k = 4 := by omega
        refine ⟨rfl, { c with mo := e.x }, rfl, .inl ⟨rfl, ?_⟩⟩
        unfold tellC; rw [if_neg k2, if_neg k3, if_pos k4, if_neg hx]
    · simp at hr hr2
      have kk : e.k = 2 ∨ e.k = 5 ∨ e.k = 6 ∨ e.k = 7 := by omega
      refine ifB_intro (fun k2 => ?_) (fun k2 => ?_)
      · simp at k2
        refine ifB_intro (fun k5 => by simp [k2] at k5) (fun _ => ifB_intro (fun k7 => by simp [k2] at k7) (fun _ => ⟨rfl, { c with rm := e.x, ha := e.y }, rfl, .inl ⟨rfl, ?_⟩⟩))
        unfold tellC; rw [if_pos k2, if_neg hr, if_pos hr2]
      · simp at k2
        rw [wsub_i64 (by omega) (by omega)]
        refine ifB_intro (fun k5 => ?_) (fun k5 => ifB_intro (fun k7 => ?_) (fun k7 => ?_))
        · simp at k5
          refine Cl.of (rbtake_fn c.rm c.ha e.x) ⟨_, _, _, rfl, ifB_intro (fun k7 => by simp [k5] at k7) (fun _ => ⟨rfl, { c with ha := takeH c.rm c.ha e.x }, rfl, .inr ⟨by omega, ?_⟩⟩)⟩
          unfold tellC; rw [if_neg k2, if_neg (by omega), if_neg (by omega), if_pos k5, k5]; rfl
        · simp at k5 k7
          refine Cl.of (rbput_fn c.rm c.ha e.x) ⟨_, _, rfl, rfl, { c with ha := putH c.rm c.ha e.x }, rfl, .inr ⟨by omega, ?_⟩⟩
          unfold tellC; rw [if_neg k2, if_neg (by omega), if_neg (by omega), if_neg k5, if_neg (by omega), if_pos k7, k7]; rfl
        · simp at k5 k7
          have k6 : e.k = 6 := by omega
          refine ⟨rfl, c, rfl, .inr ⟨by omega, ?_⟩⟩
          unfold tellC; rw [if_neg k2, if_neg (by omega), if_neg (by omega), if_neg k5, if_pos k6, k6]; rfl
    · simp at hr hr2
      have hr3 : c.ro = 3 := by have := ro_range ok.right; omega
      have kk : e.k = 2 ∨ e.k = 8 ∨ e.k = 9 ∨ e.k = 10 := by omega
      refine ifB_intro (fun k2 => ?_) (fun k2 => ?_)
      · simp at k2
        refine ifB_intro (fun k8 => by simp [k2] at k8) (fun _ => ifB_intro (fun k9 => by simp [k2] at k9) (fun _ => ifB_intro (fun k10 => by simp [k2] at k10) (fun _ => ⟨rfl, { c with rm := e.x, ha := e.x }, rfl, .inl ⟨rfl, ?_⟩⟩)))
        unfold tellC; rw [if_pos k2, if_neg hr, if_neg hr2]
      · simp at k2
        rw [wsub_i64 (by omega) (by omega)]
        refine ifB_intro (fun k8 => ?_) (fun k8 => ifB_intro (fun k9 => ?_) (fun k9 => ifB_intro (fun k10 => ?_) (fun k10 => ?_)))
        · simp at k8
          refine Cl.of (rbtake_fn c.rm c.ha 1) ⟨_, _, _, rfl, ifB_intro (fun k9 => by simp [k8] at k9) (fun _ => ifB_intro (fun k10 => by simp [k8] at k10) (fun _ => ⟨rfl, { c with mo := e.x, ha := takeH c.rm c.ha 1 }, rfl, .inr ⟨by omega, ?_⟩⟩))⟩
          unfold tellC; rw [if_neg k2, if_neg (by omega), if_neg (by omega), if_neg (by omega), if_neg (by omega), if_neg (by omega), if_pos k8, k8]; rfl
        · simp at k8 k9
          have hh := rhadd_fn c.h0 c.h1 c.h2 c.h3 c.h4 c.h5 c.h6 c.h7 c.h8 c.hs e.x
          rw [hadC_his c e.x] at hh
          refine Cl.of hh ⟨_, _, _, _, _, _, _, _, _, _, rfl, ifB_intro (fun k10 => by simp [k9] at k10) (fun _ => ⟨rfl, hadC c e.x, ?_, .inr ⟨by omega, ?_⟩⟩)⟩
          · obtain ⟨e1, e2, e3, e4, e5, e6, e7, e8, e9, e10, e11⟩ := hadC_rest c e.x
            unfold CoD.sv
            rw [e1, e2, e3, e4, e5, e6, e7, e8, e9, e10, e11]
          · unfold tellC; rw [if_neg k2, if_neg (by omega), if_neg (by omega), if_neg (by omega), if_neg (by omega), if_neg (by omega), if_neg k8, if_pos k9, k9]; rfl
        · simp at k8 k9 k10
          refine ⟨rfl, { c with mo := 0 }, rfl, .inr ⟨by omega, ?_⟩⟩
          unfold tellC; rw [if_neg k2, if_neg (by omega), if_neg (by omega), if_neg (by omega), if_neg (by omega), if_neg (by omega), if_neg k8, if_neg k9, k10]; rfl
        · simp at k8 k9 k10
          omega
  · rintro p _ _ _ _ _ _ _ _ _ _ _ _ _ _ _ _ _ _ _ _ _ ⟨d, hd, hp⟩
    simp only [CoD.sv, SV.agg.injEq, List.cons.injEq, SV.val.injEq, Value.int.injEq, Value.string.injEq, SV.slice.injEq, true_and, and_true] at hd
    obtain ⟨rfl, rfl, rfl, rfl, rfl, rfl, rfl, rfl, rfl, rfl, rfl, rfl, rfl, rfl, rfl, rfl, rfl, rfl, rfl, rfl, rfl⟩ := hd
    rcases hp with ⟨rfl, rfl⟩ | ⟨hp, hc⟩
    · exact ifB_intro (fun h => by simp at h) (fun _ => rfl)
    · refine ifB_intro (fun _ => ?_) (fun h => by simp at h; omega)
      rw [← hc]
      refine ⟨hp, fun e0 => ?_, fun e0 => ?_, fun e0 => ?_, trivial⟩
      · refine Cl.of (rup_fn _ _) ⟨_, rfl, hp, fun _ => ?_, fun e' => absurd (e0.symm.trans e') (by decide), fun e' => absurd (e0.symm.trans e') (by decide), trivial⟩
        subst e0; rfl
      · refine Cl.of (rup_fn _ _) ⟨_, rfl, hp, fun e' => absurd (e0.symm.trans e') (by decide), fun _ => ?_, fun e' => absurd (e0.symm.trans e') (by decide), trivial⟩
        subst e0; rfl
      · refine Cl.of (rup_fn _ _) ⟨_, rfl, hp, fun e' => absurd (e0.symm.trans e') (by decide), fun e' => absurd (e0.symm.trans e') (by decide), fun _ => ?_, trivial⟩
        subst e0; rfl

def sameP (c d : CoD) : Prop := c.nm = d.nm ∧ c.ro = d.ro ∧ c.mo = d.mo ∧ c.wd = d.wd ∧ c.sl = d.sl ∧ c.cl = d.cl ∧ c.h0 = d.h0 ∧ c.h1 = d.h1 ∧ c.h2 = d.h2 ∧ c.h3 = d.h3 ∧ c.h4 = d.h4 ∧ c.h5 = d.h5 ∧ c.h6 = d.h6 ∧ c.h7 = d.h7 ∧ c.h8 = d.h8 ∧ c.hs = d.hs ∧ c.rm = d.rm ∧ c.ha = d.ha ∧ c.c0 = d.c0 ∧ c.c1 = d.c1 ∧ c.c2 = d.c2
instance (c d : CoD) : Decidable (sameP c d) := by unfold sameP; infer_instance
theorem sameP_refl (c : CoD) : sameP c c := ⟨rfl, rfl, rfl, rfl, rfl, rfl, rfl, rfl, rfl, rfl, rfl, rfl, rfl, rfl, rfl, rfl, rfl, rfl, rfl, rfl, rfl⟩

end Go.Proofs.Ytohmeljljamigaa.Cmp

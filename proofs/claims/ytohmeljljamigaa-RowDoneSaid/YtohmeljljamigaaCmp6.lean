/- Layer 14: the document's answers; what may be told. -/
import Derived.Test.YtohmeljljamigaaCmp5
namespace Go.Proofs.Ytohmeljljamigaa.Cmp
open Go Go.Px Go.Proofs
set_option maxRecDepth 100000
set_option linter.unusedVariables false

theorem bare_b (c : CoD) : bpick (bpick (ieq c.wd 0) (ieq c.sl 0) false) (ieq (rlen (cR c.cl)) 0) false = decide c.bare := by
  rw [Bool.eq_iff_iff, decide_eq_true_eq]; unfold CoD.bare; simp [and_assoc]
theorem his0_b (c : CoD) : band (band (ieq c.h0 0) (band (ieq c.h1 0) (band (ieq c.h2 0) (band (ieq c.h3 0) (band (ieq c.h4 0) (band (ieq c.h5 0) (band (ieq c.h6 0) (band (ieq c.h7 0) (band (ieq c.h8 0) true))))))))) (band (ieq c.hs 0) true) = decide c.his0 := by
  rw [Bool.eq_iff_iff, decide_eq_true_eq]; unfold CoD.his0; simp

theorem qright_fn (c : CoD) : Ct Try.prog 104 {} [c.sv] (fun r => r = [B (decide c.P)]) := by
  have no : ¬ c.P → [B false] = [B (decide c.P)] := fun h => by simp [h]
  refine qright_nf _ _ _ _ _ _ _ _ _ _ _ _ _ _ _ _ _ _ _ _ _ _ (ifB_intro (fun h => no (fun hh => ?_)) (fun h => ?_))
  · simp only [bor_t, ilt_eq, igt_eq, decide_eq_true_eq, slen_eq] at h
    have := hh.1.1
    simp [namB] at this
    omega
  simp only [bor_f, ilt_eq, igt_eq, decide_eq_false_iff_not, slen_eq] at h
  have h : namB c.nm = true := by simp [namB]; omega
  rw [bare_b, his0_b]
  refine ⟨fun x => 0 ≤ x ∧ x ≤ 3 ∧ ∀ i, 0 ≤ i → i < x → heldP (ctAt c.c0 c.c1 c.c2 i), fun x => (3 - x).toNat, ⟨by omega, by omega, fun i h1 h2 => by omega⟩, ?_⟩
  rintro x ⟨x0, x3, hi⟩
  refine ifB_intro (fun hx => ?_) (fun hx => ?_)
  · simp at hx
    rw [wadd_i64 (by omega) (by omega)]
    refine ⟨fun b => b = !decide (heldP (ctAt c.c0 c.c1 c.c2 x)), fun _ => 0, ?_, ?_⟩
    · have neg : ∀ {v : Int} {FX : Prop}, FX → ctAt c.c0 c.c1 c.c2 x = v → ilt v 0 = true → (FX ∧ true = !decide (heldP (ctAt c.c0 c.c1 c.c2 x))) := by
        intro v FX hFX hv hn
        refine ⟨hFX, ?_⟩
        rw [hv]
        simp at hn
        have : ¬ heldP v := by unfold heldP; omega
        simp [this]
      have pos : ∀ {v v' : Int} {FX : Prop}, FX → ctAt c.c0 c.c1 c.c2 x = v → ilt v 0 = false → ctAt c.c0 c.c1 c.c2 x = v' → (FX ∧ bpick false true (igt v' 1099511627776) = !decide (heldP (ctAt c.c0 c.c1 c.c2 x))) := by
        intro v v' FX hFX hv hn hv'
        refine ⟨hFX, ?_⟩
        rw [hv] at hv'
        subst hv'
        rw [hv]
        simp at hn
        by_cases hb : v ≤ 1099511627776
        · have : heldP v := ⟨hn, hb⟩
          simp [this, hb]
        · have : ¬ heldP v := fun hh => hb hh.2
          simp [this]; omega
      refine ⟨⟨x0, hx⟩, fun e => ifB_intro (fun hn => neg rfl (by rw [e]; rfl) hn) (fun hn => ⟨⟨x0, hx⟩, fun e' => pos rfl (by rw [e]; rfl) hn (by rw [e']; rfl), fun e' => pos rfl (by rw [e]; rfl) hn (by rw [e']; rfl), fun e' => pos rfl (by rw [e]; rfl) hn (by rw [e']; rfl), trivial⟩),
        fun e => ifB_intro (fun hn => neg rfl (by rw [e]; rfl) hn) (fun hn => ⟨⟨x0, hx⟩, fun e' => pos rfl (by rw [e]; rfl) hn (by rw [e']; rfl), fun e' => pos rfl (by rw [e]; rfl) hn (by rw [e']; rfl), fun e' => pos rfl (by rw [e]; rfl) hn (by rw [e']; rfl), trivial⟩),
        fun e => ifB_intro (fun hn => neg rfl (by rw [e]; rfl) hn) (fun hn => ⟨⟨x0, hx⟩, fun e' => pos rfl (by rw [e]; rfl) hn (by rw [e']; rfl), fun e' => pos rfl (by rw [e]; rfl) hn (by rw [e']; rfl), fun e' => pos rfl (by rw [e]; rfl) hn (by rw [e']; rfl), trivial⟩), trivial⟩
    · rintro b rfl
      refine ifB_intro (fun hb => no (fun hh => ?_)) (fun hb => ⟨rfl, ⟨by omega, by omega, ct_step hi (by simpa using hb)⟩, mlt (by dsimp only; omega)⟩)
      simp at hb
      exact hb (cnt_iff.1 hh.1.2 x x0 hx)
  · simp at hx
    obtain rfl : x = 3 := by omega
    have hcnt := cnt_iff.2 hi
    have fin : ∀ b : Bool, (b = true ↔ c.roleP) → [B b] = [B (decide c.P)] := fun b hb => by
      have : b = decide c.P := by
        rw [Bool.eq_iff_iff, decide_eq_true_eq, hb]
        exact ⟨fun hh => ⟨⟨h, hcnt⟩, hh⟩, fun hh => hh.2⟩
      rw [this]
    unfold CoD.roleP at fin
    refine ifB_intro (fun h1 => ?_) (fun h1 => ifB_intro (fun h2 => ?_) (fun h2 => ?_))
    · simp at h1
      rw [if_pos h1] at fin
      refine ifB_intro (fun hm => ?_) (fun hm => ?_)
      · simp at hm
        refine Cl.of (rwright_fn c.wd c.sl c.cl) ⟨_, rfl, ifB_intro (fun hw => ?_) (fun hw => ?_)⟩
        · simp at hw
          refine Cl.of (rhright_fn _ _ _ _ _ _ _ _ _ _) ⟨_, rfl, fin _ ?_⟩
          unfold CoD.his
          simp [hm, hw]
        · simp at hw
          exact fin _ (by simp [hw])
      · simp at hm
        have : ¬ (0 ≤ c.mo ∧ c.mo ≤ 2) := by omega
        exact fin _ (by simp [this])
    · simp at h1 h2
      rw [if_neg h1, if_pos h2] at fin
      refine ifB_intro (fun hm => ?_) (fun hm => ?_)
      · simp at hm
        refine Cl.of (rbright_fn c.rm c.ha) ⟨_, rfl, fin _ ?_⟩
        simp [hm]
      · refine fin _ ?_
        simp only [Bool.false_eq_true, false_iff]
        intro hh
        simp [hh.1.1.1, hh.1.1.2, hh.1.2] at hm
    · simp at h1 h2
      rw [if_neg h1, if_neg h2] at fin
      refine ifB_intro (fun hm => ?_) (fun hm => ?_)
      · simp at hm
        refine Cl.of (rhright_fn _ _ _ _ _ _ _ _ _ _) ⟨_, rfl, ifB_intro (fun hh => ?_) (fun hh => ?_)⟩
        · simp at hh
          have e2 : c.his := hh
          refine Cl.of (rbright_fn c.rm c.ha) ⟨_, rfl, fin _ ?_⟩
          simp [hm, e2]
        · simp at hh
          have e2 : ¬ c.his := hh
          exact fin _ (by simp [e2])
      · refine fin _ ?_
        simp only [Bool.false_eq_true, false_iff]
        intro hh
        simp [hh.1, hh.2.1.1, hh.2.1.2] at hm

def co0 : CoD := ⟨ByteArray.mk (Array.mk []), 0, 0, 0, 0, [], 0, 0, 0, 0, 0, 0, 0, 0, 0, 0, 0, 0, 0, 0, 0⟩
/-- A new component, and why not. -/
def newC (nm : ByteArray) (ro a : Int) : CoD × Int :=
  if namB nm = false then (co0, 3) else if ¬ (1 ≤ ro ∧ ro ≤ 3) then (co0, 4) else if ¬ timP a then (co0, 5)
  else if ro = 1 then ({ co0 with nm := nm, ro := ro, wd := 10, sl := a / 10, cl := [(0, 0), (0, 0), (0, 0), (0, 0)] }, 0) else ({ co0 with nm := nm, ro := ro, rm := 10, ha := 10 }, 0)

theorem wnew4 {a : Int} (h : timP a) : wnewR 10 4 a = [win3 10 (a / 10) (cR [(0, 0), (0, 0), (0, 0), (0, 0)]), I 0] := by
  unfold wnewR
  rw [if_pos ⟨by omega, h⟩]
  rfl

theorem pnew_fn (nm : ByteArray) (ro a : Int) : Ct Try.prog 57 {} [S nm, I ro, I a] (fun r => r = [(newC nm ro a).1.sv, I (newC nm ro a).2]) := by
  refine pnew_nf _ _ _ _ (Cl.of (named_fn nm) ⟨_, rfl, ifB_intro (fun h => ?_) (fun h => ifB_intro (fun h1 => ?_) (fun h1 => ifB_intro (fun h2 => ?_) (fun h2 => ?_)))⟩)
  · simp at h
    simp [newC, h, co0]
  · simp at h
    simp only [bor_t, ilt_eq, igt_eq, decide_eq_true_eq] at h1
    have : ¬ (1 ≤ ro ∧ ro ≤ 3) := by omega
    simp only [newC, h, Bool.true_eq_false, if_false, this, not_false_eq_true, if_true]
    rfl
  · simp at h
    simp only [bor_f, ilt_eq, igt_eq, decide_eq_false_iff_not] at h1
    simp only [bor_t, ilt_eq, igt_eq, decide_eq_true_eq] at h2
    have e1 : (1 ≤ ro ∧ ro ≤ 3) := by omega
    have e2 : ¬ timP a := by unfold timP; omega
    simp only [newC, h, Bool.true_eq_false, if_false, e1, e2, not_true_eq_false, not_false_eq_true, if_true, and_self]
    rfl
  · simp at h
    simp only [bor_f, ilt_eq, igt_eq, decide_eq_false_iff_not] at h1 h2
    have e1 : (1 ≤ ro ∧ ro ≤ 3) := by omega
    have e2 : timP a := by unfold timP; omega
    refine ifB_intro (fun h3 => ?_) (fun h3 => ?_)
    · simp at h3
      have hw := wnew_fn 10 4 a
      rw [wnew4 e2] at hw
      refine Cl.of hw ⟨_, _, _, _, rfl, ?_⟩
      rw [h3] at e1 ⊢
      simp only [newC, h, Bool.true_eq_false, if_false, e1, e2, not_true_eq_false, if_true]
      rfl
    · simp at h3
      refine Cl.of (bnew_fn 10 10) ⟨_, _, _, rfl, ?_⟩
      simp only [newC, h, Bool.true_eq_false, if_false, e1, e2, not_true_eq_false, h3, and_self]
      rfl

def chkE (e : EvD) : Int := chkI e.s e.a e.k e.c e.x e.y e.z
def cfgP (ro : Int) (e : EvD) : Prop := if ro = 1 then ((1 ≤ e.x ∧ 1 ≤ e.y) ∧ e.y ≤ 16) ∧ e.z = 0 else if ro = 2 then e.y ≤ e.x ∧ e.z = 0 else e.y = 0 ∧ e.z = 0
instance (ro : Int) (e : EvD) : Decidable (cfgP ro e) := by unfold cfgP; infer_instance
/-- Why an event may not be told of a component; 0: it may. -/
def mayI (c : CoD) (e : EvD) : Int :=
  if ¬ c.P then 1 else if chkE e ≠ 0 then chkE e else if e.c ≠ c.nm then 6 else if e.k = 1 then 7 else if roleI e.k ≠ 0 ∧ roleI e.k ≠ c.ro then 8 else if e.k = 2 ∧ ¬ cfgP c.ro e then 4 else 0

theorem configs_fn (ro : Int) (e : EvD) : Ct Try.prog 173 {} [I ro, e.sv] (fun r => r = [B (decide (cfgP ro e))]) := by
  refine configs_nf _ _ _ _ _ _ _ _ _ (ifB_intro (fun h => ?_) (fun h => ifB_intro (fun h1 => ?_) (fun h1 => ?_)))
  · simp at h
    have : bpick (bpick (bpick (ige e.x 1) (ige e.y 1) false) (ile e.y 16) false) (ieq e.z 0) false = decide (cfgP ro e) := by
      rw [Bool.eq_iff_iff, decide_eq_true_eq]; unfold cfgP; rw [if_pos h]; simp
    rw [this]
  · simp at h h1
    have : bpick (ile e.y e.x) (ieq e.z 0) false = decide (cfgP ro e) := by
      rw [Bool.eq_iff_iff, decide_eq_true_eq]; unfold cfgP; rw [if_neg h, if_pos h1]; simp
    rw [this]
  · simp at h h1
    have : bpick (ieq e.y 0) (ieq e.z 0) false = decide (cfgP ro e) := by
      rw [Bool.eq_iff_iff, decide_eq_true_eq]; unfold cfgP; rw [if_neg h, if_neg h1]; simp
    rw [this]

theorem pmay_fn (c : CoD) (e : EvD) : Ct Try.prog 118 {} [c.sv, e.sv] (fun r => r = [I (mayI c e)]) := by
  refine pmay_nf _ _ _ _ _ _ _ _ _ _ _ _ _ _ _ _ _ _ _ _ _ _ _ _ _ _ _ _ _ (Cl.of (pright_fn c) ⟨_, rfl, ifB_intro (fun h => ?_) (fun h => ?_)⟩)
  · simp at h; simp [mayI, h]
  simp at h
  refine Cl.of (check_fn e.s e.a e.k e.c e.x e.y e.z) ⟨_, rfl, ifB_intro (fun h1 => ?_) (fun h1 => ?_)⟩
  · simp at h1
    have h1 : chkE e ≠ 0 := h1
    simp only [mayI, h, h1, not_true_eq_false, if_false, ne_eq, not_false_eq_true, if_true]
    rfl
  simp at h1
  have h1 : chkE e = 0 := h1
  refine Cl.of (role_fn e.k) ⟨_, rfl, ?_⟩
  rw [sne_d]
  refine ifB_intro (fun h2 => ?_) (fun h2 => ifB_intro (fun h3 => ?_) (fun h3 => ifB_intro (fun h4 => ?_) (fun h4 => ifB_intro (fun h5 => ?_) (fun h5 => ?_))))
  · simp at h2; simp [mayI, h, h1, h2]
  · simp at h2 h3; simp [mayI, h, h1, h2, h3]
  · simp at h2 h3 h4; simp [mayI, h, h1, h2, h3, h4]
  · simp at h2 h3 h5
    have h4' : ¬ (¬ roleI e.k = 0 ∧ ¬ roleI e.k = c.ro) := fun hh => by simp [hh.1, hh.2] at h4
    refine Cl.of (configs_fn c.ro e) ⟨_, rfl, ifB_intro (fun h6 => ?_) (fun h6 => ?_)⟩
    · simp at h6
      have h2k : (2 : Int) ≠ 1 := by omega
      rw [h5] at h4'
      simp only [mayI, h, h1, h2, h5, h6, h4', not_true_eq_false, if_false, ne_eq, not_false_eq_true, if_true, and_self, h2k]
    · simp at h6
      rw [h5] at h4'
      have h2k : ¬ (2 : Int) = 1 := by omega
      simp only [mayI, h, h1, h2, h5, h6, h4', not_true_eq_false, if_false, ne_eq, and_false, h2k]
  · simp at h2 h3 h5
    have h4' : ¬ (¬ roleI e.k = 0 ∧ ¬ roleI e.k = c.ro) := fun hh => by simp [hh.1, hh.2] at h4
    simp only [mayI, h, h1, h2, h3, h5, h4', not_true_eq_false, if_false, ne_eq, false_and]

end Go.Proofs.Ytohmeljljamigaa.Cmp

/- Layer 14: whether a component is right, is made, and what may be told of it. -/
import Derived.Test.YtohmeljljamigaaCmp4
namespace Go.Proofs.Ytohmeljljamigaa.Cmp
open Go Go.Px Go.Proofs
set_option maxRecDepth 100000
set_option linter.unusedVariables false

structure CoD where
  nm : ByteArray
  ro : Int
  mo : Int
  wd : Int
  sl : Int
  cl : List (Int × Int)
  h0 : Int
  h1 : Int
  h2 : Int
  h3 : Int
  h4 : Int
  h5 : Int
  h6 : Int
  h7 : Int
  h8 : Int
  hs : Int
  rm : Int
  ha : Int
  c0 : Int
  c1 : Int
  c2 : Int

abbrev CoD.sv (c : CoD) : SV := cmp21 c.nm c.ro c.mo c.wd c.sl (cR c.cl) c.h0 c.h1 c.h2 c.h3 c.h4 c.h5 c.h6 c.h7 c.h8 c.hs c.rm c.ha c.c0 c.c1 c.c2
structure EvD where
  s : Int
  a : Int
  k : Int
  c : ByteArray
  x : Int
  y : Int
  z : Int
abbrev EvD.sv (e : EvD) : SV := ev7 e.s e.a e.k e.c e.x e.y e.z

def CoD.his (c : CoD) : Prop := hisP c.h0 c.h1 c.h2 c.h3 c.h4 c.h5 c.h6 c.h7 c.h8 c.hs
instance (c : CoD) : Decidable c.his := inferInstanceAs (Decidable (hisP _ _ _ _ _ _ _ _ _ _))
def CoD.his0 (c : CoD) : Prop := (c.h0 = 0 ∧ c.h1 = 0 ∧ c.h2 = 0 ∧ c.h3 = 0 ∧ c.h4 = 0 ∧ c.h5 = 0 ∧ c.h6 = 0 ∧ c.h7 = 0 ∧ c.h8 = 0) ∧ c.hs = 0
instance (c : CoD) : Decidable c.his0 := inferInstanceAs (Decidable (_ ∧ _))
def CoD.bare (c : CoD) : Prop := c.wd = 0 ∧ c.sl = 0 ∧ c.cl = []
instance (c : CoD) : Decidable c.bare := inferInstanceAs (Decidable (_ ∧ _))
def CoD.roleP (c : CoD) : Prop :=
  if c.ro = 1 then ((0 ≤ c.mo ∧ c.mo ≤ 2) ∧ winP c.wd c.sl c.cl) ∧ c.his ∧ (c.rm = 0 ∧ c.ha = 0)
  else if c.ro = 2 then ((c.mo = 0 ∧ c.bare) ∧ c.his0) ∧ bktP c.rm c.ha
  else c.ro = 3 ∧ ((0 ≤ c.mo ∧ c.mo ≤ 2147483647) ∧ c.bare) ∧ c.his ∧ bktP c.rm c.ha
instance (c : CoD) : Decidable c.roleP := by unfold CoD.roleP; infer_instance
def CoD.cntP (c : CoD) : Prop := heldP c.c0 ∧ heldP c.c1 ∧ heldP c.c2
instance (c : CoD) : Decidable c.cntP := inferInstanceAs (Decidable (_ ∧ _))
def CoD.P (c : CoD) : Prop := (namB c.nm = true ∧ c.cntP) ∧ c.roleP
instance (c : CoD) : Decidable c.P := inferInstanceAs (Decidable (_ ∧ _))

def ctAt (c0 c1 c2 x : Int) : Int := if x = 0 then c0 else if x = 1 then c1 else c2
theorem cnt_iff {c : CoD} : c.cntP ↔ ∀ i, 0 ≤ i → i < 3 → heldP (ctAt c.c0 c.c1 c.c2 i) := by
  unfold CoD.cntP
  constructor
  · rintro ⟨h0, h1, h2⟩ i i0 i3
    have : i = 0 ∨ i = 1 ∨ i = 2 := by omega
    rcases this with rfl | rfl | rfl <;> assumption
  · intro h
    exact ⟨h 0 (by omega) (by omega), h 1 (by omega) (by omega), h 2 (by omega) (by omega)⟩
theorem ct_step {c0 c1 c2 x : Int} (h : ∀ i, 0 ≤ i → i < x → heldP (ctAt c0 c1 c2 i)) (hx : heldP (ctAt c0 c1 c2 x)) : ∀ i, 0 ≤ i → i < x + 1 → heldP (ctAt c0 c1 c2 i) := by
  intro i h1 h2
  by_cases e : i = x
  · rw [e]; exact hx
  · exact h i h1 (by omega)

theorem pright_fn (c : CoD) : Ct Try.prog 103 {} [c.sv] (fun r => r = [B (decide c.P)]) := by
  have no : ¬ c.P → [B false] = [B (decide c.P)] := fun h => by simp [h]
  refine pright_nf _ _ _ _ _ _ _ _ _ _ _ _ _ _ _ _ _ _ _ _ _ _ (Cl.of (named_fn c.nm) ⟨_, rfl, ifB_intro (fun h => no (fun hh => ?_)) (fun h => ?_)⟩)
  · simp at h; rw [hh.1.1] at h; cases h
  simp at h
  refine ⟨fun x => 0 ≤ x ∧ x ≤ 3 ∧ ∀ i, 0 ≤ i → i < x → heldP (ctAt c.c0 c.c1 c.c2 i), fun x => (3 - x).toNat, ⟨by omega, by omega, fun i h1 h2 => by omega⟩, ?_⟩
  rintro x ⟨x0, x3, hi⟩
  refine ifB_intro (fun hx => ?_) (fun hx => ?_)
  · simp at hx
    rw [wadd_i64 (by omega) (by omega)]
    have step : ∀ (v : Int) {FX : Prop}, FX → ctAt c.c0 c.c1 c.c2 x = v → Cl Try.prog 150 sP [I v] (fun (rs : List SV) => ∃ x1 : Int, (rs = [I x1]) ∧ (ifB (ine v x1) ([B false] = [B (decide c.P)]) (FX ∧ ((0 ≤ x + 1 ∧ x + 1 ≤ 3 ∧ ∀ i, 0 ≤ i → i < x + 1 → heldP (ctAt c.c0 c.c1 c.c2 i)) ∧ (Nat.le (Nat.succ (3 - (x + 1)).toNat) (3 - x).toNat))))) := by
      intro v FX hFX hv
      refine Cl.of (hold_fn v) ⟨_, rfl, ifB_intro (fun hb => no (fun hh => ?_)) (fun hb => ⟨hFX, ⟨by omega, by omega, ct_step hi ?_⟩, mlt (by omega)⟩)⟩
      · simp at hb
        have := cnt_iff.1 hh.1.2 x x0 hx
        rw [hv] at this
        exact hb (hold_id this).symm
      · simp at hb
        rw [hv]
        exact hold_held.1 hb.symm
    exact ⟨⟨x0, hx⟩, fun e => step c.c0 rfl (by subst e; rfl), fun e => step c.c1 rfl (by subst e; rfl), fun e => step c.c2 rfl (by subst e; rfl), trivial⟩
  · simp at hx
    obtain rfl : x = 3 := by omega
    have hcnt := cnt_iff.2 hi
    have fin : ∀ b : Bool, (b = true ↔ c.roleP) → [B b] = [B (decide c.P)] := fun b hb => by
      have : b = decide c.P := by
        rw [Bool.eq_iff_iff, decide_eq_true_eq, hb]
        exact ⟨fun hh => ⟨⟨h, hcnt⟩, hh⟩, fun hh => hh.2⟩
      rw [this]
    refine ifB_intro (fun h1 => ?_) (fun h1 => ifB_intro (fun h2 => ?_) (fun h2 => ifB_intro (fun h3 => ?_) (fun h3 => ?_)))
    · simp at h1
      refine ifB_intro (fun hm => ?_) (fun hm => ?_)
      · refine Cl.of (wright_fn c.wd c.sl c.cl) ⟨_, rfl, ifB_intro (fun hw => ?_) (fun hw => ?_)⟩
        · refine Cl.of (hright_fn _ _ _ _ _ _ _ _ _ _) ⟨_, rfl, fin _ ?_⟩
          simp at hm hw
          unfold CoD.roleP CoD.his
          rw [if_pos h1]
          simp [hm, hw]
        · simp at hw
          refine fin _ ?_
          unfold CoD.roleP
          rw [if_pos h1]
          simp [hw]
      · refine fin _ ?_
        unfold CoD.roleP
        rw [if_pos h1]
        simp at hm
        have : ¬ (0 ≤ c.mo ∧ c.mo ≤ 2) := by omega
        simp [this]
    · simp at h1 h2
      unfold CoD.roleP at fin
      rw [if_neg h1, if_pos h2] at fin
      refine ifB_intro (fun hm => ?_) (fun hm => ?_)
      · simp at hm
        refine Cl.of (bare_fn c.wd c.sl c.cl) ⟨_, rfl, ifB_intro (fun hb => ?_) (fun hb => ?_)⟩
        · refine Cl.of (bright_fn c.rm c.ha) ⟨_, rfl, fin _ ?_⟩
          simp at hb
          have e1 : c.bare := hb.1
          have e2 : c.his0 := by unfold CoD.his0; omega
          simp [hm, e1, e2]
        · refine fin _ ?_
          simp at hb
          have : ¬ (c.bare ∧ c.his0) := fun hh => by
            have e1 := hh.1
            have e2 := hh.2
            unfold CoD.bare at e1
            unfold CoD.his0 at e2
            simp [e1, e2] at hb
          simp only [Bool.false_eq_true, false_iff]
          exact fun hh => this ⟨hh.1.1.2, hh.1.2⟩
      · simp at hm
        exact ifB_intro (fun hb => by simp at hb) (fun _ => fin _ (by simp [hm]))
    · simp at h1 h2 h3
      unfold CoD.roleP at fin
      rw [if_neg h1, if_neg h2] at fin
      refine ifB_intro (fun hm => ?_) (fun hm => ?_)
      · simp at hm
        refine Cl.of (bare_fn c.wd c.sl c.cl) ⟨_, rfl, ifB_intro (fun hb => ?_) (fun hb => ?_)⟩
        · simp at hb
          have e1 : c.bare := hb
          refine Cl.of (hright_fn _ _ _ _ _ _ _ _ _ _) ⟨_, rfl, ifB_intro (fun hh => ?_) (fun hh => ?_)⟩
          · simp at hh
            have e2 : c.his := hh
            refine Cl.of (bright_fn c.rm c.ha) ⟨_, rfl, fin _ ?_⟩
            simp [h3, hm, e1, e2]
          · simp at hh
            have e2 : ¬ c.his := hh
            exact fin _ (by simp [e2])
        · simp at hb
          have e1 : ¬ c.bare := fun hh => by unfold CoD.bare at hh; exact hb hh.1 hh.2.1 hh.2.2
          exact fin _ (by simp [e1])
      · simp at hm
        have : ¬ (0 ≤ c.mo ∧ c.mo ≤ 2147483647) := by omega
        exact fin _ (by simp [this])
    · simp at h1 h2 h3
      unfold CoD.roleP at fin
      rw [if_neg h1, if_neg h2] at fin
      exact fin _ (by simp [h3])

end Go.Proofs.Ytohmeljljamigaa.Cmp

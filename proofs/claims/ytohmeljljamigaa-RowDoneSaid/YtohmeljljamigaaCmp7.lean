/- Layer 14: an event is told of a component. -/
import Derived.Test.YtohmeljljamigaaCmp6
import Derived.Test.YtohmeljljamigaaCmpN3
namespace Go.Proofs.Ytohmeljljamigaa.Cmp
open Go Go.Px Go.Proofs
set_option maxRecDepth 100000
set_option linter.unusedVariables false

def cntC (c : CoD) (i : Int) : CoD := { c with c0 := if i = 0 then upI c.c0 1 else c.c0, c1 := if i = 1 then upI c.c1 1 else c.c1, c2 := if i = 2 then upI c.c2 1 else c.c2 }
def hadC (c : CoD) (n : Int) : CoD := if c.his ∧ 0 ≤ n then { c with h0 := hcI n 0 c.h0, h1 := hcI n 1 c.h1, h2 := hcI n 2 c.h2, h3 := hcI n 3 c.h3, h4 := hcI n 4 c.h4, h5 := hcI n 5 c.h5, h6 := hcI n 6 c.h6, h7 := hcI n 7 c.h7, h8 := hcI n 8 c.h8, hs := upI c.hs n } else c
theorem hadC_his (c : CoD) (n : Int) : haddS c.h0 c.h1 c.h2 c.h3 c.h4 c.h5 c.h6 c.h7 c.h8 c.hs n = his10 (hadC c n).h0 (hadC c n).h1 (hadC c n).h2 (hadC c n).h3 (hadC c n).h4 (hadC c n).h5 (hadC c n).h6 (hadC c n).h7 (hadC c n).h8 (hadC c n).hs := by
  unfold haddS hadC CoD.his
  split <;> rfl
theorem hadC_rest (c : CoD) (n : Int) : (hadC c n).nm = c.nm ∧ (hadC c n).ro = c.ro ∧ (hadC c n).mo = c.mo ∧ (hadC c n).wd = c.wd ∧ (hadC c n).sl = c.sl ∧ (hadC c n).cl = c.cl ∧ (hadC c n).rm = c.rm ∧ (hadC c n).ha = c.ha ∧ (hadC c n).c0 = c.c0 ∧ (hadC c n).c1 = c.c1 ∧ (hadC c n).c2 = c.c2 := by
  unfold hadC
  split <;> exact ⟨rfl, rfl, rfl, rfl, rfl, rfl, rfl, rfl, rfl, rfl, rfl⟩

theorem counted_fn (c : CoD) (i : Int) (h0 : 0 ≤ i) (h3 : i < 3) : Ct Try.prog 126 {} [c.sv, I i] (fun r => r = [(cntC c i).sv]) := by
  refine counted_nf _ _ _ _ _ _ _ _ _ _ _ _ _ _ _ _ _ _ _ _ _ _ _ ⟨⟨h0, h3⟩, fun e => ?_, fun e => ?_, fun e => ?_, trivial⟩
  · refine Cl.of (up_fn _ _) ⟨_, rfl, ⟨h0, h3⟩, fun _ => ?_, fun e' => absurd (e.symm.trans e') (by decide), fun e' => absurd (e.symm.trans e') (by decide), trivial⟩
    subst e; rfl
  · refine Cl.of (up_fn _ _) ⟨_, rfl, ⟨h0, h3⟩, fun e' => absurd (e.symm.trans e') (by decide), fun _ => ?_, fun e' => absurd (e.symm.trans e') (by decide), trivial⟩
    subst e; rfl
  · refine Cl.of (up_fn _ _) ⟨_, rfl, ⟨h0, h3⟩, fun e' => absurd (e.symm.trans e') (by decide), fun e' => absurd (e.symm.trans e') (by decide), fun _ => ?_, trivial⟩
    subst e; rfl

def winC (c : CoD) (e : EvD) : CoD := { c with sl := (wadS c.wd c.sl c.cl e.a (ieq e.x 0)).1, cl := (wadS c.wd c.sl c.cl e.a (ieq e.x 0)).2 }
def zer (n : Nat) : List (Int × Int) := List.replicate n (0, 0)
/-- What an event that may be told does. -/
def tellC (c : CoD) (e : EvD) : CoD :=
  if e.k = 2 then (if c.ro = 1 then { c with wd := e.x, sl := e.a / e.x, cl := zer e.y.toNat } else if c.ro = 2 then { c with rm := e.x, ha := e.y } else { c with rm := e.x, ha := e.x })
  else if e.k = 3 then cntC (hadC (winC c e) e.y) e.x
  else if e.k = 4 then (if e.x = 0 then { c with mo := e.x, sl := e.a / c.wd, cl := zer c.cl.length } else { c with mo := e.x })
  else if e.k = 5 then cntC { c with ha := takeH c.rm c.ha e.x } 0
  else if e.k = 6 then cntC c 1
  else if e.k = 7 then cntC { c with ha := putH c.rm c.ha e.x } 2
  else if e.k = 8 then cntC { c with mo := e.x, ha := takeH c.rm c.ha 1 } 0
  else if e.k = 9 then cntC (hadC c e.x) 1
  else cntC { c with mo := 0 } 2
def tellR (c : CoD) (e : EvD) : List SV := if mayI c e = 0 then [(tellC c e).sv, I 0] else [c.sv, I (mayI c e)]

/-- What is known when an event may be told. -/
structure MayOK (c : CoD) (e : EvD) : Prop where
  right : c.P
  chk : chkE e = 0
  name : e.c = c.nm
  k1 : e.k ≠ 1
  role : roleI e.k = 0 ∨ roleI e.k = c.ro
  cfg : e.k = 2 → cfgP c.ro e
theorem may_zero {c : CoD} {e : EvD} : mayI c e = 0 ↔ MayOK c e := by
  unfold mayI
  constructor
  · intro h
    split at h
    · simp at h
    · split at h
      · rename_i h1 h2; exact absurd h h2
      · split at h
        · simp at h
        · split at h
          · simp at h
          · split at h
            · simp at h
            · split at h
              · simp at h
              · rename_i h1 h2 h3 h4 h5 h6
                refine ⟨Classical.not_not.1 h1, Classical.not_not.1 h2, Classical.not_not.1 h3, h4, ?_, fun hk => Classical.not_not.1 (fun hn => h6 ⟨hk, hn⟩)⟩
                by_cases hr : roleI e.k = 0
                · exact .inl hr
                · exact .inr (Classical.not_not.1 (fun hn => h5 ⟨hr, hn⟩))
  · rintro ⟨h1, h2, h3, h4, h5, h6⟩
    rw [if_neg (by simp [h1]), if_neg (by simp [h2]), if_neg (by simp [h3]), if_neg h4, if_neg (fun hh => h5.elim hh.1 hh.2), if_neg (fun hh => hh.2 (h6 hh.1))]

theorem chkE_zero {e : EvD} (h : chkE e = 0) : (1 ≤ e.k ∧ e.k ≤ 10) ∧ (1 ≤ e.c.size ∧ e.c.size ≤ 24) ∧ (lo1 e.k ≤ e.x ∧ e.x ≤ hi1 e.k ∧ 0 ≤ e.y ∧ e.y ≤ hi2 e.k ∧ 0 ≤ e.z ∧ e.z ≤ hi3 e.k) ∧ timP e.a ∧ (0 ≤ e.s ∧ e.s ≤ 4294967296) := by
  obtain ⟨h1, h2, h3, h4, h5⟩ := chk0 h
  have h1 : ¬ (e.k < 1 ∨ 10 < e.k) := fun hh => h1 ((many0 _).2 hh)
  have h2 : 1 ≤ e.c.size ∧ e.c.size ≤ 24 := by simpa [namB] using h2
  have h3 : lo1 e.k ≤ e.x ∧ e.x ≤ hi1 e.k ∧ 0 ≤ e.y ∧ e.y ≤ hi2 e.k ∧ 0 ≤ e.z ∧ e.z ≤ hi3 e.k := by simpa [valB] using h3
  exact ⟨by omega, h2, h3, by unfold timP; omega, by omega⟩
theorem hi_le (k : Int) : 0 ≤ lo1 k ∧ hi1 k ≤ 2147483647 ∧ hi2 k ≤ 2147483647 ∧ hi3 k ≤ 2147483647 := by
  unfold lo1 hi1 hi2 hi3
  refine ⟨?_, ?_, ?_, ?_⟩ <;> repeat' split
  all_goals omega

/-- The role of which the event is told. -/
theorem role_of {c : CoD} {e : EvD} (ok : MayOK c e) : (e.k = 3 ∨ e.k = 4 → c.ro = 1) ∧ (e.k = 5 ∨ e.k = 6 ∨ e.k = 7 → c.ro = 2) ∧ (e.k = 8 ∨ e.k = 9 ∨ e.k = 10 → c.ro = 3) := by
  have h := ok.role
  refine ⟨fun hk => ?_, fun hk => ?_, fun hk => ?_⟩
  · rcases hk with hk | hk <;> rw [hk] at h <;> simp [roleI] at h <;> omega
  · rcases hk with hk | hk | hk <;> rw [hk] at h <;> simp [roleI] at h <;> omega
  · rcases hk with hk | hk | hk <;> rw [hk] at h <;> simp [roleI] at h <;> omega
theorem ro_range {c : CoD} (h : c.P) : c.ro = 1 ∨ c.ro = 2 ∨ c.ro = 3 := by
  have := h.2
  unfold CoD.roleP at this
  by_cases h1 : c.ro = 1
  · exact .inl h1
  · by_cases h2 : c.ro = 2
    · exact .inr (.inl h2)
    · rw [if_neg h1, if_neg h2] at this
      exact .inr (.inr this.1)
theorem right1 {c : CoD} (h : c.P) (h1 : c.ro = 1) : ((0 ≤ c.mo ∧ c.mo ≤ 2) ∧ winP c.wd c.sl c.cl) ∧ c.his ∧ (c.rm = 0 ∧ c.ha = 0) := by
  have := h.2
  unfold CoD.roleP at this
  rwa [if_pos h1] at this
theorem wnew_cfg {c : CoD} {e : EvD} (ok : MayOK c e) (hk : e.k = 2) (hr : c.ro = 1) : wnewR e.x e.y e.a = [win3 e.x (e.a / e.x) (cR (zer e.y.toNat)), I 0] := by
  obtain ⟨c1, c2, c3, c4, c5⟩ := chkE_zero ok.chk
  have hc := ok.cfg hk
  unfold cfgP at hc
  rw [if_pos hr] at hc
  have := hi_le e.k
  unfold wnewR
  rw [if_pos ⟨by omega, c4⟩]
  rfl
theorem wnew_trip {c : CoD} {e : EvD} (ok : MayOK c e) (hr : c.ro = 1) : wnewR c.wd c.cl.length e.a = [win3 c.wd (e.a / c.wd) (cR (zer c.cl.length)), I 0] := by
  obtain ⟨c1, c2, c3, c4, c5⟩ := chkE_zero ok.chk
  have hw := (right1 ok.right hr).1.2
  unfold wnewR
  rw [if_pos ⟨⟨hw.1, by have := hw.2.2.1; omega⟩, c4⟩]
  rfl
theorem bnew_ok {rm ha : Int} (h : bktP rm ha) : bnewR rm ha = [bkt2 rm ha, I 0] := by unfold bnewR; rw [if_pos h]

theorem config_fn (c : CoD) (e : EvD) (ok : MayOK c e) (hk : e.k = 2) : Ct Try.prog 123 {} [c.sv, e.sv] (fun r => r = [(tellC c e).sv]) := by
  obtain ⟨c1, c2, c3, c4, c5⟩ := chkE_zero ok.chk
  have hc := ok.cfg hk
  have hlo := hi_le e.k
  unfold tellC
  rw [if_pos hk]
  refine config_nf _ _ _ _ _ _ _ _ _ _ _ _ _ _ _ _ _ _ _ _ _ _ _ _ _ _ _ _ _ (ifB_intro (fun h1 => ?_) (fun h1 => ifB_intro (fun h2 => ?_) (fun h2 => ifB_intro (fun h3 => ?_) (fun h3 => ?_))))
  · simp at h1
    have hw := wnew_fn e.x e.y e.a
    rw [wnew_cfg ok hk h1] at hw
    refine Cl.of hw ⟨_, _, _, _, rfl, ?_⟩
    rw [if_pos h1]
  · simp at h1 h2
    unfold cfgP at hc
    rw [if_neg h1, if_pos h2] at hc
    have hw := bnew_fn e.x e.y
    rw [bnew_ok (by unfold bktP; omega)] at hw
    refine Cl.of hw ⟨_, _, _, rfl, ?_⟩
    rw [if_neg h1, if_pos h2]
  · simp at h1 h2 h3
    have hw := bnew_fn e.x e.x
    rw [bnew_ok (by unfold bktP; omega)] at hw
    refine Cl.of hw ⟨_, _, _, rfl, ?_⟩
    rw [if_neg h1, if_neg h2]
  · simp at h1 h2 h3
    have := ro_range ok.right
    omega

end Go.Proofs.Ytohmeljljamigaa.Cmp

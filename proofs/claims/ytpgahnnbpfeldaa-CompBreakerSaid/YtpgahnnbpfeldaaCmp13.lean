/- CompCounts over plain data. -/
import Derived.Test.YtpgahnnbpfeldaaCmp12
import Derived.Test.YtpgahnnbpfeldaaCmpN5
namespace Go.Proofs.Ytpgahnnbpfeldaa.Cmp
open Go Go.Px Go.Proofs
set_option maxRecDepth 100000
set_option linter.unusedVariables false

abbrev evR (l : List EvD) : List (List SV) := l.map fun e => [I e.s, I e.a, I e.k, S e.c, I e.x, I e.y, I e.z]
theorem rget_evR {l : List EvD} {i : Int} (h0 : 0 ≤ i) (h1 : i < l.length) : ∃ e : EvD, rget (evR l) i = [I e.s, I e.a, I e.k, S e.c, I e.x, I e.y, I e.z] := by
  have : i.toNat < l.length := by omega
  refine ⟨l[i.toNat], ?_⟩
  simp [rget, this]

def CoD.full (c : CoD) : Prop := c.c0 = 1099511627776 ∨ c.c1 = 1099511627776 ∨ c.c2 = 1099511627776

theorem tell_cnt2 {c : CoD} {e : EvD} (ok : MayOK c e) : ∃ q : Int, (0 ≤ q ∧ q ≤ 3) ∧ (tellC c e).c0 = (if q = 0 then c.c0 + 1 else c.c0) ∧ (tellC c e).c1 = (if q = 1 then c.c1 + 1 else c.c1) ∧ (tellC c e).c2 = (if q = 2 then c.c2 + 1 else c.c2) ∧ (¬ c.full → (q = 3 ↔ (e.k = 2 ∨ e.k = 4))) := by
  obtain ⟨p, hp, hp3, e0, e1, e2⟩ := tell_cnt ok
  obtain ⟨c0, c1, c2⟩ := ok.right.1.2
  rw [up1 c0] at e0
  rw [up1 c1] at e1
  rw [up1 c2] at e2
  unfold CoD.full
  rw [e0, e1, e2]
  rcases hp with rfl | rfl | rfl | rfl
  · by_cases h : c.c0 = 1099511627776
    · exact ⟨3, by omega, by simp [h], by simp, by simp, fun hf => absurd (.inl h) hf⟩
    · exact ⟨0, by omega, by simp [h], by simp, by simp, fun hf => hp3⟩
  · by_cases h : c.c1 = 1099511627776
    · exact ⟨3, by omega, by simp, by simp [h], by simp, fun hf => absurd (.inr (.inl h)) hf⟩
    · exact ⟨1, by omega, by simp, by simp [h], by simp, fun hf => hp3⟩
  · by_cases h : c.c2 = 1099511627776
    · exact ⟨3, by omega, by simp, by simp, by simp [h], fun hf => absurd (.inr (.inr h)) hf⟩
    · exact ⟨2, by omega, by simp, by simp, by simp [h], fun hf => hp3⟩
  · exact ⟨3, by omega, by simp, by simp, by simp, fun hf => hp3⟩

theorem tellD_P {c : CoD} (e : EvD) (h : c.P) : (tellD c e).P := by
  unfold tellD
  split
  · rename_i hm; exact tell_P (may_zero.1 hm)
  · exact h
theorem tellD_nm (c : CoD) (e : EvD) : (tellD c e).nm = c.nm ∧ (tellD c e).ro = c.ro := by
  unfold tellD
  split
  · exact tell_nm c e
  · exact ⟨rfl, rfl⟩
theorem tellD_len40 {c : CoD} (e : EvD) (h : c.cl.length ≤ 40) : (tellD c e).cl.length ≤ 40 := by
  unfold tellD
  split
  · rename_i hm
    rcases tell_cl (may_zero.1 hm) with h1 | h1 <;> omega
  · exact h

theorem ine_step {a b q i : Int} (h : a = if q = i then b + 1 else b) : ine a b = decide (i = q) := by
  rw [Bool.eq_iff_iff]
  simp
  split at h <;> omega
theorem ine_step1 {a b q i : Int} (hb : heldP b) (h : a = if q = i then b + 1 else b) (hi : i = q) : ine a (wadd .i64 b 1) = false := by
  obtain ⟨b0, b1⟩ := hb
  rw [wadd_i64 (by omega) (by omega)]
  simp
  rw [if_pos hi.symm] at h
  exact h

theorem law10_fn (c : CoD) (es : List EvD) : Ct Try.prog 10 {} [c.sv, SL 7 (evR es)] (fun r => r = [B true]) := by
  have ht : ∀ d e, Ct Try.prog 49 {} [CoD.sv d, EvD.sv e] (fun r => r = [(tellD d e).sv, I (mayI d e)]) := fun d e => by have := ptell_fn d e; rw [tellR_eq] at this; exact this
  have hrl : rlen (evR es) = (es.length : Int) := by simp
  refine law10_nf _ _ _ _ _ _ _ _ _ _ _ _ _ _ _ _ _ _ _ _ _ _ _ (Cl.of awake_fn ⟨_, rfl, ifB_intro (fun h => by simp at h) (fun _ => Cl.of (qshort_fn c) ⟨_, rfl, ifB_intro (fun _ => rfl) (fun h => Cl.of (pright_fn c) ⟨_, rfl, ifB_intro (fun _ => rfl) (fun h1 => ?_)⟩)⟩)⟩)
  rw [hrl] at h ⊢
  simp at h h1
  refine ⟨fun x y0 y1 y2 y3 y4 y5 y6 y7 y8 y9 y10 y11 y12 y13 y14 y15 y16 y17 y18 y19 y20 => ∃ d : CoD, SV.agg [S y0, I y1, I y2, I y3, I y4, SL 2 y5, I y6, I y7, I y8, I y9, I y10, I y11, I y12, I y13, I y14, I y15, I y16, I y17, I y18, I y19, I y20] = d.sv ∧ d.P ∧ d.cl.length ≤ 40 ∧ 0 ≤ x ∧ x ≤ es.length, fun x _ _ _ _ _ _ _ _ _ _ _ _ _ _ _ _ _ _ _ _ _ => (es.length - x).toNat, ⟨c, rfl, h1, by omega, by omega, by omega⟩, ?_⟩
  rintro x _ _ _ _ _ _ _ _ _ _ _ _ _ _ _ _ _ _ _ _ _ ⟨d, hd, hP, hL, x0, xn⟩
  simp only [CoD.sv, SV.agg.injEq, List.cons.injEq, SV.val.injEq, Value.int.injEq, Value.string.injEq, SV.slice.injEq, true_and, and_true] at hd
  obtain ⟨rfl, rfl, rfl, rfl, rfl, rfl, rfl, rfl, rfl, rfl, rfl, rfl, rfl, rfl, rfl, rfl, rfl, rfl, rfl, rfl, rfl⟩ := hd
  refine ifB_intro (fun hx => ?_) (fun _ => rfl)
  have hx : x < es.length := by simpa using hx
  obtain ⟨e, he⟩ := rget_evR x0 hx
  refine ⟨⟨x0, hx⟩, _, _, _, _, _, _, _, he, ifB_intro (fun _ => rfl) (fun _ => ?_)⟩
  refine Cl.of (ht d e) ⟨_, _, _, _, _, _, _, _, _, _, _, _, _, _, _, _, _, _, _, _, _, _, rfl, Cl.of (pmay_fn d e) ⟨_, rfl, ifB_intro (fun h => by simp at h) (fun _ => ?_)⟩⟩
  have hDP := tellD_P e hP
  have hDn := tellD_nm d e
  have hDL := tellD_len40 e hL
  refine Cl.of (pright_fn (tellD d e)) ⟨_, rfl, ifB_intro (fun h => ?_) (fun _ => ifB_intro (fun hne => ?_) (fun h0 => ?_))⟩
  · rw [sne_d, hDn.1, hDn.2] at h
    simp [hDP] at h
  · have hne : mayI d e ≠ 0 := by simpa using hne
    have hE : tellD d e = d := by unfold tellD; rw [if_neg hne]
    have hsm : sameP d (tellD d e) := by rw [hE]; exact sameP_refl d
    have hs : Ct Try.prog 55 {} [d.sv, (tellD d e).sv] (fun r => r = [B true]) := by
      have := psame_fn d (tellD d e) (by omega)
      rw [decide_eq_true hsm] at this
      exact this
    refine Cl.of hs ⟨_, rfl, ifB_intro (fun h => by simp at h) (fun _ => ⟨rfl, ?_, ?_⟩)⟩
    · rw [wadd_i64 (by omega) (by omega)]
      exact ⟨d, rfl, hP, hL, by omega, by omega⟩
    · rw [wadd_i64 (by omega) (by omega)]
      exact mlt (by dsimp only; omega)
  · have h0 : mayI d e = 0 := by simpa using h0
    have ok := may_zero.1 h0
    have hE : tellD d e = tellC d e := by unfold tellD; rw [if_pos h0]
    obtain ⟨q, hq, q0, q1, q2, hqf⟩ := tell_cnt2 ok
    rw [← hE] at q0 q1 q2
    obtain ⟨b0, b1, b2⟩ := hP.1.2
    refine ⟨fun mo k => (0 ≤ k ∧ k ≤ 3) ∧ mo = (if q < k then 1 else 0), fun _ k => (3 - k).toNat, ⟨by omega, by rw [if_neg (by omega)]⟩, ?_⟩
    rintro _ k ⟨⟨k0, k3⟩, rfl⟩
    refine ifB_intro (fun hk => ?_) (fun hk => ?_)
    · have hk : k < 3 := by simpa using hk
      refine ⟨fun b => b = decide (k = q), fun _ => 0, ?_, ?_⟩
      · refine ⟨⟨k0, hk⟩, fun f0 => ⟨⟨k0, hk⟩, fun f => ⟨rfl, ?_⟩, fun f => absurd (f0.symm.trans f) (by decide), fun f => absurd (f0.symm.trans f) (by decide), trivial⟩,
          fun f0 => ⟨⟨k0, hk⟩, fun f => absurd (f0.symm.trans f) (by decide), fun f => ⟨rfl, ?_⟩, fun f => absurd (f0.symm.trans f) (by decide), trivial⟩,
          fun f0 => ⟨⟨k0, hk⟩, fun f => absurd (f0.symm.trans f) (by decide), fun f => absurd (f0.symm.trans f) (by decide), fun f => ⟨rfl, ?_⟩, trivial⟩, trivial⟩
        · rw [f0]; exact ine_step q0
        · rw [f0]; exact ine_step q1
        · rw [f0]; exact ine_step q2
      · rintro _ rfl
        refine ifB_intro (fun hkq => ?_) (fun hkq => ?_)
        · have hkq : k = q := by simpa using hkq
          refine ⟨fun b => b = false, fun _ => 0, ?_, ?_⟩
          · refine ⟨⟨k0, hk⟩, fun f0 => ⟨⟨k0, hk⟩, fun f => ⟨rfl, ?_⟩, fun f => absurd (f0.symm.trans f) (by decide), fun f => absurd (f0.symm.trans f) (by decide), trivial⟩,
              fun f0 => ⟨⟨k0, hk⟩, fun f => absurd (f0.symm.trans f) (by decide), fun f => ⟨rfl, ?_⟩, fun f => absurd (f0.symm.trans f) (by decide), trivial⟩,
              fun f0 => ⟨⟨k0, hk⟩, fun f => absurd (f0.symm.trans f) (by decide), fun f => absurd (f0.symm.trans f) (by decide), fun f => ⟨rfl, ?_⟩, trivial⟩, trivial⟩
            · exact ine_step1 b0 q0 (by omega)
            · exact ine_step1 b1 q1 (by omega)
            · exact ine_step1 b2 q2 (by omega)
          · rintro _ rfl
            refine ifB_intro (fun h => by simp at h) (fun _ => ⟨rfl, ?_, ?_⟩)
            · rw [if_neg (by omega), wadd_i64 (by omega) (by omega), wadd_i64 (a := k) (by omega) (by omega)]
              exact ⟨by omega, by rw [if_pos (by omega)]; rfl⟩
            · rw [wadd_i64 (a := k) (by omega) (by omega)]
              exact mlt (by dsimp only; omega)
        · have hkq : ¬ k = q := by simpa using hkq
          refine ⟨rfl, ?_, ?_⟩
          · rw [wadd_i64 (a := k) (by omega) (by omega)]
            refine ⟨by omega, ?_⟩
            by_cases hlt : q < k
            · rw [if_pos hlt, if_pos (by omega)]
            · rw [if_neg hlt, if_neg (by omega)]
          · rw [wadd_i64 (a := k) (by omega) (by omega)]
            exact mlt (by dsimp only; omega)
    · have hk : 3 ≤ k := by simpa using hk
      obtain rfl : k = 3 := by omega
      refine ifB_intro (fun h => ?_) (fun _ => ?_)
      · exfalso
        have h : (1 : Int) < (if q < 3 then 1 else 0) := by simpa using h
        split at h <;> omega
      · refine Cl.of (full_fn d) ⟨_, rfl, ifB_intro (fun h => ?_) (fun _ => ⟨rfl, ?_, ?_⟩)⟩
        · exfalso
          by_cases hf : d.full
          · have hf' := hf
            unfold CoD.full at hf'
            rw [decide_eq_true hf'] at h
            simp at h
          · have hqf := hqf hf
            have hf' := hf
            unfold CoD.full at hf'
            rw [decide_eq_false hf'] at h
            by_cases hq3 : q = 3
            · have hk := hqf.1 hq3
              rw [if_neg (by omega)] at h
              rcases hk with hk | hk <;> rw [hk] at h <;> simp at h
            · have hk := fun hh => hq3 (hqf.2 hh)
              rw [if_pos (by omega)] at h
              have a1 : e.k ≠ 2 := fun hh => hk (.inl hh)
              have a2 : e.k ≠ 4 := fun hh => hk (.inr hh)
              simp [a1, a2] at h
        · rw [wadd_i64 (by omega) (by omega)]
          exact ⟨tellD d e, rfl, hDP, hDL, by omega, by omega⟩
        · rw [wadd_i64 (by omega) (by omega)]
          exact mlt (by dsimp only; omega)

end Go.Proofs.Ytpgahnnbpfeldaa.Cmp

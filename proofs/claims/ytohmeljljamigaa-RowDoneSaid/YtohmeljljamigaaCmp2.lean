/- Layer 13: the answers of the functions of package hist, and of its reference. -/
import Derived.Test.YtohmeljljamigaaCmp1
namespace Go.Proofs.Ytohmeljljamigaa.Cmp
open Go Go.Px Go.Proofs
set_option maxRecDepth 100000
set_option linter.unusedVariables false

def hAt (h0 h1 h2 h3 h4 h5 h6 h7 h8 x : Int) : Int := if x = 0 then h0 else if x = 1 then h1 else if x = 2 then h2 else if x = 3 then h3 else if x = 4 then h4 else if x = 5 then h5 else if x = 6 then h6 else if x = 7 then h7 else h8
theorem his_iff {h0 h1 h2 h3 h4 h5 h6 h7 h8 hs : Int} : hisP h0 h1 h2 h3 h4 h5 h6 h7 h8 hs ↔ (∀ i, 0 ≤ i → i < 9 → heldP (hAt h0 h1 h2 h3 h4 h5 h6 h7 h8 i)) ∧ heldP hs := by
  unfold hisP
  constructor
  · rintro ⟨e0, e1, e2, e3, e4, e5, e6, e7, e8, e⟩
    refine ⟨fun i h1 h2 => ?_, e⟩
    have : i = 0 ∨ i = 1 ∨ i = 2 ∨ i = 3 ∨ i = 4 ∨ i = 5 ∨ i = 6 ∨ i = 7 ∨ i = 8 := by omega
    rcases this with rfl | rfl | rfl | rfl | rfl | rfl | rfl | rfl | rfl <;> assumption
  · rintro ⟨h, e⟩
    exact ⟨h 0 (by omega) (by omega), h 1 (by omega) (by omega), h 2 (by omega) (by omega), h 3 (by omega) (by omega), h 4 (by omega) (by omega), h 5 (by omega) (by omega), h 6 (by omega) (by omega), h 7 (by omega) (by omega), h 8 (by omega) (by omega), e⟩
theorem held_step {h0 h1 h2 h3 h4 h5 h6 h7 h8 x : Int} (h : ∀ i, 0 ≤ i → i < x → heldP (hAt h0 h1 h2 h3 h4 h5 h6 h7 h8 i)) (hx : heldP (hAt h0 h1 h2 h3 h4 h5 h6 h7 h8 x)) : ∀ i, 0 ≤ i → i < x + 1 → heldP (hAt h0 h1 h2 h3 h4 h5 h6 h7 h8 i) := by
  intro i h1 h2
  by_cases e : i = x
  · rw [e]; exact hx
  · exact h i h1 (by omega)

theorem hright_fn (h0 h1 h2 h3 h4 h5 h6 h7 h8 hs : Int) : Ct Try.prog 152 {} [his10 h0 h1 h2 h3 h4 h5 h6 h7 h8 hs] (fun r => r = [B (decide (hisP h0 h1 h2 h3 h4 h5 h6 h7 h8 hs))]) := by
  have no : ¬ hisP h0 h1 h2 h3 h4 h5 h6 h7 h8 hs → [B false] = [B (decide (hisP h0 h1 h2 h3 h4 h5 h6 h7 h8 hs))] := fun h => by simp [h]
  refine hright_nf _ _ _ _ _ _ _ _ _ _ _ ⟨fun _ x => 0 ≤ x ∧ x ≤ 9 ∧ ∀ i, 0 ≤ i → i < x → heldP (hAt h0 h1 h2 h3 h4 h5 h6 h7 h8 i), fun _ x => (9 - x).toNat, ⟨by omega, by omega, fun i h1 h2 => by omega⟩, ?_⟩
  rintro b x ⟨x0, x9, hi⟩
  refine ifB_intro (fun h => ?_) (fun h => ?_)
  · simp at h
    rw [wadd_i64 (by omega) (by omega)]
    have step : ∀ (v : Int) {FX : Prop}, FX → hAt h0 h1 h2 h3 h4 h5 h6 h7 h8 x = v → Cl Try.prog 150 sP [I v] (fun (rs : List SV) => ∃ x1 : Int, (rs = [I x1]) ∧ (ifB (ine v x1) ([B false] = [B (decide (hisP h0 h1 h2 h3 h4 h5 h6 h7 h8 hs))]) (FX ∧ ((0 ≤ x + 1 ∧ x + 1 ≤ 9 ∧ ∀ i, 0 ≤ i → i < x + 1 → heldP (hAt h0 h1 h2 h3 h4 h5 h6 h7 h8 i)) ∧ (Nat.le (Nat.succ (9 - (x + 1)).toNat) (9 - x).toNat))))) := by
      intro v FX hFX hv
      refine Cl.of (hold_fn v) ⟨_, rfl, ifB_intro (fun hb => no (fun hh => ?_)) (fun hb => ⟨hFX, ⟨by omega, by omega, held_step hi ?_⟩, mlt (by omega)⟩)⟩
      · simp at hb
        have := (his_iff.1 hh).1 x x0 h
        rw [hv] at this
        exact hb (hold_id this).symm
      · simp at hb
        rw [hv]
        exact hold_held.1 hb.symm
    exact ⟨⟨x0, h⟩, fun e => step h0 rfl (by subst e; rfl), fun e => step h1 rfl (by subst e; rfl), fun e => step h2 rfl (by subst e; rfl), fun e => step h3 rfl (by subst e; rfl), fun e => step h4 rfl (by subst e; rfl), fun e => step h5 rfl (by subst e; rfl), fun e => step h6 rfl (by subst e; rfl), fun e => step h7 rfl (by subst e; rfl), fun e => step h8 rfl (by subst e; rfl), trivial⟩
  · simp at h
    obtain rfl : x = 9 := by omega
    refine Cl.of (hold_fn hs) ⟨_, rfl, ?_⟩
    have e : ieq hs (holdI hs) = decide (hisP h0 h1 h2 h3 h4 h5 h6 h7 h8 hs) := by
      rw [Bool.eq_iff_iff, decide_eq_true_eq, his_iff]
      simp only [ieq_eq, decide_eq_true_eq]
      exact ⟨fun e => ⟨hi, hold_held.1 e.symm⟩, fun e => (hold_id e.2).symm⟩
    rw [e]

theorem rhright_fn (h0 h1 h2 h3 h4 h5 h6 h7 h8 hs : Int) : Ct Try.prog 156 {} [his10 h0 h1 h2 h3 h4 h5 h6 h7 h8 hs] (fun r => r = [B (decide (hisP h0 h1 h2 h3 h4 h5 h6 h7 h8 hs))]) := by
  have no : ¬ hisP h0 h1 h2 h3 h4 h5 h6 h7 h8 hs → [B false] = [B (decide (hisP h0 h1 h2 h3 h4 h5 h6 h7 h8 hs))] := fun h => by simp [h]
  refine rhright_nf _ _ _ _ _ _ _ _ _ _ _ ⟨fun x => 0 ≤ x ∧ x ≤ 9 ∧ ∀ i, 0 ≤ i → i < x → heldP (hAt h0 h1 h2 h3 h4 h5 h6 h7 h8 i), fun x => (9 - x).toNat, ⟨by omega, by omega, fun i h1 h2 => by omega⟩, ?_⟩
  rintro x ⟨x0, x9, hi⟩
  refine ifB_intro (fun h => ?_) (fun h => ?_)
  · simp at h
    rw [wadd_i64 (by omega) (by omega)]
    refine ⟨fun b => b = !decide (heldP (hAt h0 h1 h2 h3 h4 h5 h6 h7 h8 x)), fun _ => 0, ?_, ?_⟩
    · have step : ∀ (v v' : Int) {FX : Prop}, FX → hAt h0 h1 h2 h3 h4 h5 h6 h7 h8 x = v → hAt h0 h1 h2 h3 h4 h5 h6 h7 h8 x = v' → Cl Try.prog 195 sP [I v'] (fun (rs : List SV) => ∃ x1 : Int, (rs = [I x1]) ∧ (FX ∧ ((ine v x1) = !decide (heldP (hAt h0 h1 h2 h3 h4 h5 h6 h7 h8 x))))) := by
        intro v v' FX hFX hv hv'
        refine Cl.of (rhold_fn v') ⟨_, rfl, hFX, ?_⟩
        rw [hv] at hv'
        subst hv'
        rw [hv, Bool.eq_iff_iff]
        simp only [ine_eq, Bool.not_eq_true', decide_eq_false_iff_not]
        rw [← hold_held]
        exact ⟨fun h e => h e.symm, fun h e => h e.symm⟩
      exact ⟨⟨x0, h⟩, fun e => ⟨⟨x0, h⟩, fun e' => step h0 h0 rfl (by rw [e]; rfl) (by rw [e']; rfl), fun e' => step h0 h1 rfl (by rw [e]; rfl) (by rw [e']; rfl), fun e' => step h0 h2 rfl (by rw [e]; rfl) (by rw [e']; rfl), fun e' => step h0 h3 rfl (by rw [e]; rfl) (by rw [e']; rfl), fun e' => step h0 h4 rfl (by rw [e]; rfl) (by rw [e']; rfl), fun e' => step h0 h5 rfl (by rw [e]; rfl) (by rw [e']; rfl), fun e' => step h0 h6 rfl (by rw [e]; rfl) (by rw [e']; rfl), fun e' => step h0 h7 rfl (by rw [e]; rfl) (by rw [e']; rfl), fun e' => step h0 h8 rfl (by rw [e]; rfl) (by rw [e']; rfl), trivial⟩, fun e => ⟨⟨x0, h⟩, fun e' => step h1 h0 rfl (by rw [e]; rfl) (by rw [e']; rfl), fun e' => step h1 h1 rfl (by rw [e]; rfl) (by rw [e']; rfl), fun e' => step h1 h2 rfl (by rw [e]; rfl) (by rw [e']; rfl), fun e' => step h1 h3 rfl (by rw [e]; rfl) (by rw [e']; rfl), fun e' => step h1 h4 rfl (by rw [e]; rfl) (by rw [e']; rfl), fun e' => step h1 h5 rfl (by rw [e]; rfl) (by rw [e']; rfl), fun e' => step h1 h6 rfl (by rw [e]; rfl) (by rw [e']; rfl), fun e' => step h1 h7 rfl (by rw [e]; rfl) (by rw [e']; rfl), fun e' => step h1 h8 rfl (by rw [e]; rfl) (by rw [e']; rfl), trivial⟩, fun e => ⟨⟨x0, h⟩, fun e' => step h2 h0 rfl (by rw [e]; rfl) (by rw [e']; rfl), fun e' => step h2 h1 rfl (by rw [e]; rfl) (by rw [e']; rfl), fun e' => step h2 h2 rfl (by rw [e]; rfl) (by rw [e']; rfl), fun e' => step h2 h3 rfl (by rw [e]; rfl) (by rw [e']; rfl), fun e' => step h2 h4 rfl (by rw [e]; rfl) (by rw [e']; rfl), fun e' => step h2 h5 rfl (by rw [e]; rfl) (by rw [e']; rfl), fun e' => step h2 h6 rfl (by rw [e]; rfl) (by rw [e']; rfl), fun e' => step h2 h7 rfl (by rw [e]; rfl) (by rw [e']; rfl), fun e' => step h2 h8 rfl (by rw [e]; rfl) (by rw [e']; rfl), trivial⟩, fun e => ⟨⟨x0, h⟩, fun e' => step h3 h0 rfl (by rw [e]; rfl) (by rw [e']; rfl), fun e' => step h3 h1 rfl (by rw [e]; rfl) (by rw [e']; rfl), fun e' => step h3 h2 rfl (by rw [e]; rfl) (by rw [e']; rfl), fun e' => step h3 h3 rfl (by rw [e]; rfl) (by rw [e']; rfl), fun e' => step h3 h4 rfl (by rw [e]; rfl) (by rw [e']; rfl), fun e' => step h3 h5 rfl (by rw [e]; rfl) (by rw [e']; rfl), fun e' => step h3 h6 rfl (by rw [e]; rfl) (by rw [e']; rfl), fun e' => step h3 h7 rfl (by rw [e]; rfl) (by rw [e']; rfl), fun e' => step h3 h8 rfl (by rw [e]; rfl) (by rw [e']; rfl), trivial⟩, fun e => ⟨⟨x0, h⟩, fun e' => step h4 h0 rfl (by rw [e]; rfl) (by rw [e']; rfl), fun e' => step h4 h1 rfl (by rw [e]; rfl) (by rw [e']; rfl), fun e' => step h4 h2 rfl (by rw [e]; rfl) (by rw [e']; rfl), fun e' => step h4 h3 rfl (by rw [e]; rfl) (by rw [e']; rfl), fun e' => step h4 h4 rfl (by rw [e]; rfl) (by rw [e']; rfl), fun e' => step h4 h5 rfl (by rw [e]; rfl) (by rw [e']; rfl), fun e' => step h4 h6 rfl (by rw [e]; rfl) (by rw [e']; rfl), fun e' => step h4 h7 rfl (by rw [e]; rfl) (by rw [e']; rfl), fun e' => step h4 h8 rfl (by rw [e]; rfl) (by rw [e']; rfl), trivial⟩, fun e => ⟨⟨x0, h⟩, fun e' => step h5 h0 rfl (by rw [e]; rfl) (by rw [e']; rfl), fun e' => step h5 h1 rfl (by rw [e]; rfl) (by rw [e']; rfl), fun e' => step h5 h2 rfl (by rw [e]; rfl) (by rw [e']; rfl), fun e' => step h5 h3 rfl (by rw [e]; rfl) (by rw [e']; rfl), fun e' => step h5 h4 rfl (by rw [e]; rfl) (by rw [e']; rfl), fun e' => step h5 h5 rfl (by rw [e]; rfl) (by rw [e']; rfl), fun e' => step h5 h6 rfl (by rw [e]; rfl) (by rw [e']; rfl), fun e' => step h5 h7 rfl (by rw [e]; rfl) (by rw [e']; rfl), fun e' => step h5 h8 rfl (by rw [e]; rfl) (by rw [e']; rfl), trivial⟩, fun e => ⟨⟨x0, h⟩, fun e' => step h6 h0 rfl (by rw [e]; rfl) (by rw [e']; rfl), fun e' => step h6 h1 rfl (by rw [e]; rfl) (by rw [e']; rfl), fun e' => step h6 h2 rfl (by rw [e]; rfl) (by rw [e']; rfl), fun e' => step h6 h3 rfl (by rw [e]; rfl) (by rw [e']; rfl), fun e' => step h6 h4 rfl (by rw [e]; rfl) (by rw [e']; rfl), fun e' => step h6 h5 rfl (by rw [e]; rfl) (by rw [e']; rfl), fun e' => step h6 h6 rfl (by rw [e]; rfl) (by rw [e']; rfl), fun e' => step h6 h7 rfl (by rw [e]; rfl) (by rw [e']; rfl), fun e' => step h6 h8 rfl (by rw [e]; rfl) (by rw [e']; rfl), trivial⟩, fun e => ⟨⟨x0, h⟩, fun e' => step h7 h0 rfl (by rw [e]; rfl) (by rw [e']; rfl), fun e' => step h7 h1 rfl (by rw [e]; rfl) (by rw [e']; rfl), fun e' => step h7 h2 rfl (by rw [e]; rfl) (by rw [e']; rfl), fun e' => step h7 h3 rfl (by rw [e]; rfl) (by rw [e']; rfl), fun e' => step h7 h4 rfl (by rw [e]; rfl) (by rw [e']; rfl), fun e' => step h7 h5 rfl (by rw [e]; rfl) (by rw [e']; rfl), fun e' => step h7 h6 rfl (by rw [e]; rfl) (by rw [e']; rfl), fun e' => step h7 h7 rfl (by rw [e]; rfl) (by rw [e']; rfl), fun e' => step h7 h8 rfl (by rw [e]; rfl) (by rw [e']; rfl), trivial⟩, fun e => ⟨⟨x0, h⟩, fun e' => step h8 h0 rfl (by rw [e]; rfl) (by rw [e']; rfl), fun e' => step h8 h1 rfl (by rw [e]; rfl) (by rw [e']; rfl), fun e' => step h8 h2 rfl (by rw [e]; rfl) (by rw [e']; rfl), fun e' => step h8 h3 rfl (by rw [e]; rfl) (by rw [e']; rfl), fun e' => step h8 h4 rfl (by rw [e]; rfl) (by rw [e']; rfl), fun e' => step h8 h5 rfl (by rw [e]; rfl) (by rw [e']; rfl), fun e' => step h8 h6 rfl (by rw [e]; rfl) (by rw [e']; rfl), fun e' => step h8 h7 rfl (by rw [e]; rfl) (by rw [e']; rfl), fun e' => step h8 h8 rfl (by rw [e]; rfl) (by rw [e']; rfl), trivial⟩, trivial⟩
    · rintro b rfl
      refine ifB_intro (fun hb => no (fun hh => ?_)) (fun hb => ⟨rfl, ⟨by omega, by omega, held_step hi ?_⟩, mlt (by dsimp only; omega)⟩)
      · simp at hb
        exact hb ((his_iff.1 hh).1 x x0 h)
      · simpa using hb
  · simp at h
    obtain rfl : x = 9 := by omega
    refine Cl.of (rhold_fn hs) ⟨_, rfl, ?_⟩
    have e : ieq hs (holdI hs) = decide (hisP h0 h1 h2 h3 h4 h5 h6 h7 h8 hs) := by
      rw [Bool.eq_iff_iff, decide_eq_true_eq, his_iff]
      simp only [ieq_eq, decide_eq_true_eq]
      exact ⟨fun e => ⟨hi, hold_held.1 e.symm⟩, fun e => (hold_id e.2).symm⟩
    rw [e]

/-- A count of a histogram, when a number is added. -/
def hcI (n k v : Int) : Int := if hplI n = k then upI v 1 else v
def haddS (h0 h1 h2 h3 h4 h5 h6 h7 h8 hs n : Int) : SV := if hisP h0 h1 h2 h3 h4 h5 h6 h7 h8 hs ∧ 0 ≤ n then his10 (hcI n 0 h0) (hcI n 1 h1) (hcI n 2 h2) (hcI n 3 h3) (hcI n 4 h4) (hcI n 5 h5) (hcI n 6 h6) (hcI n 7 h7) (hcI n 8 h8) (upI hs n) else his10 h0 h1 h2 h3 h4 h5 h6 h7 h8 hs

theorem hadd_fn (h0 h1 h2 h3 h4 h5 h6 h7 h8 hs n : Int) : Ct Try.prog 125 {} [his10 h0 h1 h2 h3 h4 h5 h6 h7 h8 hs, I n] (fun r => r = [haddS h0 h1 h2 h3 h4 h5 h6 h7 h8 hs n]) := by
  have hx := hpl_range n
  refine hadd_nf _ _ _ _ _ _ _ _ _ _ _ _ (Cl.of (hright_fn h0 h1 h2 h3 h4 h5 h6 h7 h8 hs) ⟨_, rfl, ifB_intro (fun h => ?_) (fun h => ?_)⟩)
  · simp only [bor_t, bnot_eq, Bool.not_eq_true', decide_eq_false_iff_not, ilt_eq, decide_eq_true_eq] at h
    have hn : ¬ (hisP h0 h1 h2 h3 h4 h5 h6 h7 h8 hs ∧ 0 ≤ n) := fun hh => h.elim (fun h => h hh.1) (fun h => by omega)
    simp [haddS, hn]
  · simp only [bor_f, bnot_eq, Bool.not_eq_false', decide_eq_true_eq, ilt_eq, decide_eq_false_iff_not] at h
    have hn : hisP h0 h1 h2 h3 h4 h5 h6 h7 h8 hs ∧ 0 ≤ n := ⟨h.1, by omega⟩
    refine Cl.of (hplace_fn n) ⟨_, rfl, fun y0 y1 y2 y3 y4 y5 y6 y7 y8 y9 => y0 = hcI n 0 h0 ∧ y1 = hcI n 1 h1 ∧ y2 = hcI n 2 h2 ∧ y3 = hcI n 3 h3 ∧ y4 = hcI n 4 h4 ∧ y5 = hcI n 5 h5 ∧ y6 = hcI n 6 h6 ∧ y7 = hcI n 7 h7 ∧ y8 = hcI n 8 h8 ∧ y9 = hs, fun _ _ _ _ _ _ _ _ _ _ => 0, ?_, ?_⟩
    · refine ⟨hx, fun e => Cl.of (up_fn h0 1) ⟨_, rfl, hx, fun _ => ⟨rfl, by rw [hcI, if_pos e], by rw [hcI, if_neg (by rw [e]; decide)], by rw [hcI, if_neg (by rw [e]; decide)], by rw [hcI, if_neg (by rw [e]; decide)], by rw [hcI, if_neg (by rw [e]; decide)], by rw [hcI, if_neg (by rw [e]; decide)], by rw [hcI, if_neg (by rw [e]; decide)], by rw [hcI, if_neg (by rw [e]; decide)], by rw [hcI, if_neg (by rw [e]; decide)], rfl⟩, fun e' => absurd (e.symm.trans e') (by decide), fun e' => absurd (e.symm.trans e') (by decide), fun e' => absurd (e.symm.trans e') (by decide), fun e' => absurd (e.symm.trans e') (by decide), fun e' => absurd (e.symm.trans e') (by decide), fun e' => absurd (e.symm.trans e') (by decide), fun e' => absurd (e.symm.trans e') (by decide), fun e' => absurd (e.symm.trans e') (by decide), trivial⟩, fun e => Cl.of (up_fn h1 1) ⟨_, rfl, hx, fun e' => absurd (e.symm.trans e') (by decide), fun _ => ⟨rfl, by rw [hcI, if_neg (by rw [e]; decide)], by rw [hcI, if_pos e], by rw [hcI, if_neg (by rw [e]; decide)], by rw [hcI, if_neg (by rw [e]; decide)], by rw [hcI, if_neg (by rw [e]; decide)], by rw [hcI, if_neg (by rw [e]; decide)], by rw [hcI, if_neg (by rw [e]; decide)], by rw [hcI, if_neg (by rw [e]; decide)], by rw [hcI, if_neg (by rw [e]; decide)], rfl⟩, fun e' => absurd (e.symm.trans e') (by decide), fun e' => absurd (e.symm.trans e') (by decide), fun e' => absurd (e.symm.trans e') (by decide), fun e' => absurd (e.symm.trans e') (by decide), fun e' => absurd (e.symm.trans e') (by decide), fun e' => absurd (e.symm.trans e') (by decide), fun e' => absurd (e.symm.trans e') (by decide), trivial⟩, fun e => Cl.of (up_fn h2 1) ⟨_, rfl, hx, fun e' => absurd (e.symm.trans e') (by decide), fun e' => absurd (e.symm.trans e') (by decide), fun _ => ⟨rfl, by rw [hcI, if_neg (by rw [e]; decide)], by rw [hcI, if_neg (by rw [e]; decide)], by rw [hcI, if_pos e], by rw [hcI, if_neg (by rw [e]; decide)], by rw [hcI, if_neg (by rw [e]; decide)], by rw [hcI, if_neg (by rw [e]; decide)], by rw [hcI, if_neg (by rw [e]; decide)], by rw [hcI, if_neg (by rw [e]; decide)], by rw [hcI, if_neg (by rw [e]; decide)], rfl⟩, fun e' => absurd (e.symm.trans e') (by decide), fun e' => absurd (e.symm.trans e') (by decide), fun e' => absurd (e.symm.trans e') (by decide), fun e' => absurd (e.symm.trans e') (by decide), fun e' => absurd (e.symm.trans e') (by decide), fun e' => absurd (e.symm.trans e') (by decide), trivial⟩, fun e => Cl.of (up_fn h3 1) ⟨_, rfl, hx, fun e' => absurd (e.symm.trans e') (by decide), fun e' => absurd (e.symm.trans e') (by decide), fun e' => absurd (e.symm.trans e') (by decide), fun _ => ⟨rfl, by rw [hcI, if_neg (by rw [e]; decide)], by rw [hcI, if_neg (by rw [e]; decide)], by rw [hcI, if_neg (by rw [e]; decide)], by rw [hcI, if_pos e], by rw [hcI, if_neg (by rw [e]; decide)], by rw [hcI, if_neg (by rw [e]; decide)], by rw [hcI, if_neg (by rw [e]; decide)], by rw [hcI, if_neg (by rw [e]; decide)], by rw [hcI, if_neg (by rw [e]; decide)], rfl⟩, fun e' => absurd (e.symm.trans e') (by decide), fun e' => absurd (e.symm.trans e') (by decide), fun e' => absurd (e.symm.trans e') (by decide), fun e' => absurd (e.symm.trans e') (by decide), fun e' => absurd (e.symm.trans e') (by decide), trivial⟩, fun e => Cl.of (up_fn h4 1) ⟨_, rfl, hx, fun e' => absurd (e.symm.trans e') (by decide), fun e' => absurd (e.symm.trans e') (by decide), fun e' => absurd (e.symm.trans e') (by decide), fun e' => absurd (e.symm.trans e') (by decide), fun _ => ⟨rfl, by rw [hcI, if_neg (by rw [e]; decide)], by rw [hcI, if_neg (by rw [e]; decide)], by rw [hcI, if_neg (by rw [e]; decide)], by rw [hcI, if_neg (by rw [e]; decide)], by rw [hcI, if_pos e], by rw [hcI, if_neg (by rw [e]; decide)], by rw [hcI, if_neg (by rw [e]; decide)], by rw [hcI, if_neg (by rw [e]; decide)], by rw [hcI, if_neg (by rw [e]; decide)], rfl⟩, fun e' => absurd (e.symm.trans e') (by decide), fun e' => absurd (e.symm.trans e') (by decide), fun e' => absurd (e.symm.trans e') (by decide), fun e' => absurd (e.symm.trans e') (by decide), trivial⟩, fun e => Cl.of (up_fn h5 1) ⟨_, rfl, hx, fun e' => absurd (e.symm.trans e') (by decide), fun e' => absurd (e.symm.trans e') (by decide), fun e' => absurd (e.symm.trans e') (by decide), fun e' => absurd (e.symm.trans e') (by decide), fun e' => absurd (e.symm.trans e') (by decide), fun _ => ⟨rfl, by rw [hcI, if_neg (by rw [e]; decide)], by rw [hcI, if_neg (by rw [e]; decide)], by rw [hcI, if_neg (by rw [e]; decide)], by rw [hcI, if_neg (by rw [e]; decide)], by rw [hcI, if_neg (by rw [e]; decide)], by rw [hcI, if_pos e], by rw [hcI, if_neg (by rw [e]; decide)], by rw [hcI, if_neg (by rw [e]; decide)], by rw [hcI, if_neg (by rw [e]; decide)], rfl⟩, fun e' => absurd (e.symm.trans e') (by decide), fun e' => absurd (e.symm.trans e') (by decide), fun e' => absurd (e.symm.trans e') (by decide), trivial⟩, fun e => Cl.of (up_fn h6 1) ⟨_, rfl, hx, fun e' => absurd (e.symm.trans e') (by decide), fun e' => absurd (e.symm.trans e') (by decide), fun e' => absurd (e.symm.trans e') (by decide), fun e' => absurd (e.symm.trans e') (by decide), fun e' => absurd (e.symm.trans e') (by decide), fun e' => absurd (e.symm.trans e') (by decide), fun _ => ⟨rfl, by rw [hcI, if_neg (by rw [e]; decide)], by rw [hcI, if_neg (by rw [e]; decide)], by rw [hcI, if_neg (by rw [e]; decide)], by rw [hcI, if_neg (by rw [e]; decide)], by rw [hcI, if_neg (by rw [e]; decide)], by rw [hcI, if_neg (by rw [e]; decide)], by rw [hcI, if_pos e], by rw [hcI, if_neg (by rw [e]; decide)], by rw [hcI, if_neg (by rw [e]; decide)], rfl⟩, fun e' => absurd (e.symm.trans e') (by decide), fun e' => absurd (e.symm.trans e') (by decide), trivial⟩, fun e => Cl.of (up_fn h7 1) ⟨_, rfl, hx, fun e' => absurd (e.symm.trans e') (by decide), fun e' => absurd (e.symm.trans e') (by decide), fun e' => absurd (e.symm.trans e') (by decide), fun e' => absurd (e.symm.trans e') (by decide), fun e' => absurd (e.symm.trans e') (by decide), fun e' => absurd (e.symm.trans e') (by decide), fun e' => absurd (e.symm.trans e') (by decide), fun _ => ⟨rfl, by rw [hcI, if_neg (by rw [e]; decide)], by rw [hcI, if_neg (by rw [e]; decide)], by rw [hcI, if_neg (by rw [e]; decide)], by rw [hcI, if_neg (by rw [e]; decide)], by rw [hcI, if_neg (by rw [e]; decide)], by rw [hcI, if_neg (by rw [e]; decide)], by rw [hcI, if_neg (by rw [e]; decide)], by rw [hcI, if_pos e], by rw [hcI, if_neg (by rw [e]; decide)], rfl⟩, fun e' => absurd (e.symm.trans e') (by decide), trivial⟩, fun e => Cl.of (up_fn h8 1) ⟨_, rfl, hx, fun e' => absurd (e.symm.trans e') (by decide), fun e' => absurd (e.symm.trans e') (by decide), fun e' => absurd (e.symm.trans e') (by decide), fun e' => absurd (e.symm.trans e') (by decide), fun e' => absurd (e.symm.trans e') (by decide), fun e' => absurd (e.symm.trans e') (by decide), fun e' => absurd (e.symm.trans e') (by decide), fun e' => absurd (e.symm.trans e') (by decide), fun _ => ⟨rfl, by rw [hcI, if_neg (by rw [e]; decide)], by rw [hcI, if_neg (by rw [e]; decide)], by rw [hcI, if_neg (by rw [e]; decide)], by rw [hcI, if_neg (by rw [e]; decide)], by rw [hcI, if_neg (by rw [e]; decide)], by rw [hcI, if_neg (by rw [e]; decide)], by rw [hcI, if_neg (by rw [e]; decide)], by rw [hcI, if_neg (by rw [e]; decide)], by rw [hcI, if_pos e], rfl⟩, trivial⟩, trivial⟩
    · rintro _ _ _ _ _ _ _ _ _ _ ⟨rfl, rfl, rfl, rfl, rfl, rfl, rfl, rfl, rfl, rfl⟩
      refine Cl.of (up_fn _ n) ⟨_, rfl, ?_⟩
      simp [haddS, hn]

end Go.Proofs.Ytohmeljljamigaa.Cmp

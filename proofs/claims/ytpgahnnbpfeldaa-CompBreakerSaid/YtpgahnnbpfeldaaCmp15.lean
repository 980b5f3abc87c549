/- Layer 13: how many there are below each bound. (Printed by mkcmp15.py.) -/
import Derived.Test.YtpgahnnbpfeldaaCmp14
import Derived.Test.YtpgahnnbpfeldaaCmpN6
namespace Go.Proofs.Ytpgahnnbpfeldaa.Cmp
open Go Go.Px Go.Proofs
set_option maxRecDepth 100000
set_option linter.unusedVariables false

def preI (h0 h1 h2 h3 h4 h5 h6 h7 h8 k : Int) : Int := if k = 0 then 0 else if k = 1 then 0 + h0 else if k = 2 then 0 + h0 + h1 else if k = 3 then 0 + h0 + h1 + h2 else if k = 4 then 0 + h0 + h1 + h2 + h3 else if k = 5 then 0 + h0 + h1 + h2 + h3 + h4 else if k = 6 then 0 + h0 + h1 + h2 + h3 + h4 + h5 else if k = 7 then 0 + h0 + h1 + h2 + h3 + h4 + h5 + h6 else if k = 8 then 0 + h0 + h1 + h2 + h3 + h4 + h5 + h6 + h7 else 0 + h0 + h1 + h2 + h3 + h4 + h5 + h6 + h7 + h8

theorem below_fn (h0 h1 h2 h3 h4 h5 h6 h7 h8 hs : Int) (hp : hisP h0 h1 h2 h3 h4 h5 h6 h7 h8 hs) : Ct Try.prog 60 {} [his10 h0 h1 h2 h3 h4 h5 h6 h7 h8 hs] (fun r => ∃ b0 b1 b2 b3 b4 b5 b6 b7 : Int, r = [.agg [I b0, I b1, I b2, I b3, I b4, I b5, I b6, I b7, I (0 + h0 + h1 + h2 + h3 + h4 + h5 + h6 + h7 + h8)]]) := by
  obtain ⟨⟨a0, a0'⟩, ⟨a1, a1'⟩, ⟨a2, a2'⟩, ⟨a3, a3'⟩, ⟨a4, a4'⟩, ⟨a5, a5'⟩, ⟨a6, a6'⟩, ⟨a7, a7'⟩, ⟨a8, a8'⟩, _⟩ := id hp
  refine below_nf _ _ _ _ _ _ _ _ _ _ _ (Cl.of (hright_fn h0 h1 h2 h3 h4 h5 h6 h7 h8 hs) ⟨_, rfl, ifB_intro (fun h => ?_) (fun _ => ⟨fun x x1 x2 x3 x4 x5 x6 x7 x8 x9 x10 => (0 ≤ x1 ∧ x1 ≤ 9) ∧ x = preI h0 h1 h2 h3 h4 h5 h6 h7 h8 x1 ∧ (x1 = 9 → x10 = 0 + h0 + h1 + h2 + h3 + h4 + h5 + h6 + h7 + h8), fun _ x1 _ _ _ _ _ _ _ _ _ => (9 - x1).toNat, ⟨by omega, rfl, fun h => by omega⟩, ?_⟩)⟩)
  · simp [hp] at h
  rintro x x1 x2 x3 x4 x5 x6 x7 x8 x9 x10 ⟨⟨k0, k9⟩, rfl, hx⟩
  refine ifB_intro (fun hk => ?_) (fun hk => ?_)
  · have hk : x1 < 9 := by simpa using hk
    refine ⟨⟨k0, hk⟩, fun f0 => ⟨⟨k0, hk⟩, fun f => ⟨rfl, ⟨?_, ?_, ?_⟩, ?_⟩, fun f => absurd (f0.symm.trans f) (by decide), fun f => absurd (f0.symm.trans f) (by decide), fun f => absurd (f0.symm.trans f) (by decide), fun f => absurd (f0.symm.trans f) (by decide), fun f => absurd (f0.symm.trans f) (by decide), fun f => absurd (f0.symm.trans f) (by decide), fun f => absurd (f0.symm.trans f) (by decide), fun f => absurd (f0.symm.trans f) (by decide), trivial⟩,
      fun f0 => ⟨⟨k0, hk⟩, fun f => absurd (f0.symm.trans f) (by decide), fun f => ⟨rfl, ⟨?_, ?_, ?_⟩, ?_⟩, fun f => absurd (f0.symm.trans f) (by decide), fun f => absurd (f0.symm.trans f) (by decide), fun f => absurd (f0.symm.trans f) (by decide), fun f => absurd (f0.symm.trans f) (by decide), fun f => absurd (f0.symm.trans f) (by decide), fun f => absurd (f0.symm.trans f) (by decide), fun f => absurd (f0.symm.trans f) (by decide), trivial⟩,
      fun f0 => ⟨⟨k0, hk⟩, fun f => absurd (f0.symm.trans f) (by decide), fun f => absurd (f0.symm.trans f) (by decide), fun f => ⟨rfl, ⟨?_, ?_, ?_⟩, ?_⟩, fun f => absurd (f0.symm.trans f) (by decide), fun f => absurd (f0.symm.trans f) (by decide), fun f => absurd (f0.symm.trans f) (by decide), fun f => absurd (f0.symm.trans f) (by decide), fun f => absurd (f0.symm.trans f) (by decide), fun f => absurd (f0.symm.trans f) (by decide), trivial⟩,
      fun f0 => ⟨⟨k0, hk⟩, fun f => absurd (f0.symm.trans f) (by decide), fun f => absurd (f0.symm.trans f) (by decide), fun f => absurd (f0.symm.trans f) (by decide), fun f => ⟨rfl, ⟨?_, ?_, ?_⟩, ?_⟩, fun f => absurd (f0.symm.trans f) (by decide), fun f => absurd (f0.symm.trans f) (by decide), fun f => absurd (f0.symm.trans f) (by decide), fun f => absurd (f0.symm.trans f) (by decide), fun f => absurd (f0.symm.trans f) (by decide), trivial⟩,
      fun f0 => ⟨⟨k0, hk⟩, fun f => absurd (f0.symm.trans f) (by decide), fun f => absurd (f0.symm.trans f) (by decide), fun f => absurd (f0.symm.trans f) (by decide), fun f => absurd (f0.symm.trans f) (by decide), fun f => ⟨rfl, ⟨?_, ?_, ?_⟩, ?_⟩, fun f => absurd (f0.symm.trans f) (by decide), fun f => absurd (f0.symm.trans f) (by decide), fun f => absurd (f0.symm.trans f) (by decide), fun f => absurd (f0.symm.trans f) (by decide), trivial⟩,
      fun f0 => ⟨⟨k0, hk⟩, fun f => absurd (f0.symm.trans f) (by decide), fun f => absurd (f0.symm.trans f) (by decide), fun f => absurd (f0.symm.trans f) (by decide), fun f => absurd (f0.symm.trans f) (by decide), fun f => absurd (f0.symm.trans f) (by decide), fun f => ⟨rfl, ⟨?_, ?_, ?_⟩, ?_⟩, fun f => absurd (f0.symm.trans f) (by decide), fun f => absurd (f0.symm.trans f) (by decide), fun f => absurd (f0.symm.trans f) (by decide), trivial⟩,
      fun f0 => ⟨⟨k0, hk⟩, fun f => absurd (f0.symm.trans f) (by decide), fun f => absurd (f0.symm.trans f) (by decide), fun f => absurd (f0.symm.trans f) (by decide), fun f => absurd (f0.symm.trans f) (by decide), fun f => absurd (f0.symm.trans f) (by decide), fun f => absurd (f0.symm.trans f) (by decide), fun f => ⟨rfl, ⟨?_, ?_, ?_⟩, ?_⟩, fun f => absurd (f0.symm.trans f) (by decide), fun f => absurd (f0.symm.trans f) (by decide), trivial⟩,
      fun f0 => ⟨⟨k0, hk⟩, fun f => absurd (f0.symm.trans f) (by decide), fun f => absurd (f0.symm.trans f) (by decide), fun f => absurd (f0.symm.trans f) (by decide), fun f => absurd (f0.symm.trans f) (by decide), fun f => absurd (f0.symm.trans f) (by decide), fun f => absurd (f0.symm.trans f) (by decide), fun f => absurd (f0.symm.trans f) (by decide), fun f => ⟨rfl, ⟨?_, ?_, ?_⟩, ?_⟩, fun f => absurd (f0.symm.trans f) (by decide), trivial⟩,
      fun f0 => ⟨⟨k0, hk⟩, fun f => absurd (f0.symm.trans f) (by decide), fun f => absurd (f0.symm.trans f) (by decide), fun f => absurd (f0.symm.trans f) (by decide), fun f => absurd (f0.symm.trans f) (by decide), fun f => absurd (f0.symm.trans f) (by decide), fun f => absurd (f0.symm.trans f) (by decide), fun f => absurd (f0.symm.trans f) (by decide), fun f => absurd (f0.symm.trans f) (by decide), fun f => ⟨rfl, ⟨?_, ?_, ?_⟩, ?_⟩, trivial⟩, trivial⟩
    · subst f0; decide
    · subst f0; show wadd .i64 (0) h0 = 0 + h0; exact wadd_i64 (by omega) (by omega)
    · subst f0; intro h; exact absurd h (by decide)
    · subst f0; exact mlt (by dsimp only; decide)
    · subst f0; decide
    · subst f0; show wadd .i64 (0 + h0) h1 = 0 + h0 + h1; exact wadd_i64 (by omega) (by omega)
    · subst f0; intro h; exact absurd h (by decide)
    · subst f0; exact mlt (by dsimp only; decide)
    · subst f0; decide
    · subst f0; show wadd .i64 (0 + h0 + h1) h2 = 0 + h0 + h1 + h2; exact wadd_i64 (by omega) (by omega)
    · subst f0; intro h; exact absurd h (by decide)
    · subst f0; exact mlt (by dsimp only; decide)
    · subst f0; decide
    · subst f0; show wadd .i64 (0 + h0 + h1 + h2) h3 = 0 + h0 + h1 + h2 + h3; exact wadd_i64 (by omega) (by omega)
    · subst f0; intro h; exact absurd h (by decide)
    · subst f0; exact mlt (by dsimp only; decide)
    · subst f0; decide
    · subst f0; show wadd .i64 (0 + h0 + h1 + h2 + h3) h4 = 0 + h0 + h1 + h2 + h3 + h4; exact wadd_i64 (by omega) (by omega)
    · subst f0; intro h; exact absurd h (by decide)
    · subst f0; exact mlt (by dsimp only; decide)
    · subst f0; decide
    · subst f0; show wadd .i64 (0 + h0 + h1 + h2 + h3 + h4) h5 = 0 + h0 + h1 + h2 + h3 + h4 + h5; exact wadd_i64 (by omega) (by omega)
    · subst f0; intro h; exact absurd h (by decide)
    · subst f0; exact mlt (by dsimp only; decide)
    · subst f0; decide
    · subst f0; show wadd .i64 (0 + h0 + h1 + h2 + h3 + h4 + h5) h6 = 0 + h0 + h1 + h2 + h3 + h4 + h5 + h6; exact wadd_i64 (by omega) (by omega)
    · subst f0; intro h; exact absurd h (by decide)
    · subst f0; exact mlt (by dsimp only; decide)
    · subst f0; decide
    · subst f0; show wadd .i64 (0 + h0 + h1 + h2 + h3 + h4 + h5 + h6) h7 = 0 + h0 + h1 + h2 + h3 + h4 + h5 + h6 + h7; exact wadd_i64 (by omega) (by omega)
    · subst f0; intro h; exact absurd h (by decide)
    · subst f0; exact mlt (by dsimp only; decide)
    · subst f0; decide
    · subst f0; show wadd .i64 (0 + h0 + h1 + h2 + h3 + h4 + h5 + h6 + h7) h8 = 0 + h0 + h1 + h2 + h3 + h4 + h5 + h6 + h7 + h8; exact wadd_i64 (by omega) (by omega)
    · subst f0; intro _; show wadd .i64 (0 + h0 + h1 + h2 + h3 + h4 + h5 + h6 + h7) h8 = 0 + h0 + h1 + h2 + h3 + h4 + h5 + h6 + h7 + h8; exact wadd_i64 (by omega) (by omega)
    · subst f0; exact mlt (by dsimp only; decide)
  · have hk : 9 ≤ x1 := by simpa using hk
    have := hx (by omega)
    subst this
    exact ⟨_, _, _, _, _, _, _, _, rfl⟩

end Go.Proofs.Ytpgahnnbpfeldaa.Cmp

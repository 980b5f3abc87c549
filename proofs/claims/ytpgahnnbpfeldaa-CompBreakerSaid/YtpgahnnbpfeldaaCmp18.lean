/- CompBreaker over plain data: the law. -/
import Derived.Test.YtpgahnnbpfeldaaCmp17
namespace Go.Proofs.Ytpgahnnbpfeldaa.Cmp
open Go Go.Px Go.Proofs
set_option maxRecDepth 100000
set_option linter.unusedVariables false

def cb0 : CoD := { co0 with nm := ndb, ro := 1, wd := 10, sl := 0, cl := [(0, 0), (0, 0), (0, 0), (0, 0)] }
theorem new_b0 : newC ndb 1 0 = (cb0, 0) := by rfl
abbrev evT (a k : Int) : EvD := ⟨0, a, 4, ndb, k, 0, 0⟩

theorem law11_fn (l1 l2 l3 : List Int) (t : Int) (b1 : ∀ x ∈ l1, 0 ≤ x ∧ x ≤ 255) (b2 : ∀ x ∈ l2, 0 ≤ x ∧ x ≤ 255) (b3 : ∀ x ∈ l3, 0 ≤ x ∧ x ≤ 255) (bt : 0 ≤ t ∧ t ≤ 255) :
    Ct Try.prog 11 {} [SL 1 (uR l1), SL 1 (uR l2), SL 1 (uR l3), U8 t] (fun r => r = [B true]) := by
  have r1 : rlen (uR l1) = (l1.length : Int) := by simp
  have r2 : rlen (uR l2) = (l2.length : Int) := by simp
  have r3 : rlen (uR l3) = (l3.length : Int) := by simp
  have et : wrem (wcv .i64 t) 3 = t % 3 := by rw [wcv8 bt.1 bt.2, wrem3 bt.1]
  have ht3 : 0 ≤ t % 3 ∧ t % 3 ≤ 2 := by omega
  have hnew : Ct Try.prog 46 {} [S ndb, I 1, I 0] (fun r => r = [cb0.sv, I 0]) := by have := pnew_fn ndb 1 0; rw [new_b0] at this; exact this
  have hwn : Ct Try.prog 57 {} [I 10, I 4, I 0] (fun r => r = [win3 10 0 (cR [(0, 0), (0, 0), (0, 0), (0, 0)]), I 0]) := by have := wnew_fn 10 4 0; rw [wnew4 (by decide)] at this; exact this
  refine law11_nf _ _ _ _ _ (Cl.of awake_fn ⟨_, rfl, ifB_intro (fun h => by simp at h) (fun _ => ifB_intro (fun _ => rfl) (fun hl => Cl.of hnew ⟨_, _, _, _, _, _, _, _, _, _, _, _, _, _, _, _, _, _, _, _, _, _, rfl, ifB_intro (fun h => by simp at h) (fun _ => Cl.of hwn ⟨_, _, _, _, rfl, ?_⟩)⟩))⟩)
  rw [et, r1, r2, r3]
  simp only [bor_f, igt_eq, ilt_eq, decide_eq_false_iff_not, r1, r2, r3] at hl
  refine ⟨fun su a i y0 y1 y2 y3 y4 y5 y6 y7 y8 y9 y10 y11 y12 y13 y14 y15 y16 y17 y18 y19 y20 k0 k1 k2 wd sl cl => ∃ (d : CoD) (L : List (Nat × Nat)), SV.agg [S y0, I y1, I y2, I y3, I y4, SL 2 y5, I y6, I y7, I y8, I y9, I y10, I y11, I y12, I y13, I y14, I y15, I y16, I y17, I y18, I y19, I y20] = d.sv ∧ BI d L su a i ∧ (k0 = d.c0 ∧ k1 = d.c1 ∧ k2 = d.c2) ∧ (wd = d.wd ∧ sl = d.sl ∧ cl = cR d.cl) ∧ i ≤ l1.length, fun _ _ i _ _ _ _ _ _ _ _ _ _ _ _ _ _ _ _ _ _ _ _ _ _ _ _ _ _ _ => (l1.length - i).toNat, ⟨cb0, [(0, 0), (0, 0), (0, 0), (0, 0)], rfl, ⟨by decide, rfl, rfl, rfl, by decide, by decide, rfl, rfl, by decide, by decide⟩, ⟨rfl, rfl, rfl⟩, ⟨rfl, rfl, rfl⟩, by omega⟩, ?_⟩
  rintro su a i _ _ _ _ _ _ _ _ _ _ _ _ _ _ _ _ _ _ _ _ _ _ _ _ _ _ _ ⟨d, L, hd, hB, ⟨rfl, rfl, rfl⟩, ⟨rfl, rfl, rfl⟩, hi⟩
  simp only [CoD.sv, SV.agg.injEq, List.cons.injEq, SV.val.injEq, Value.int.injEq, Value.string.injEq, SV.slice.injEq, true_and, and_true] at hd
  obtain ⟨rfl, rfl, rfl, rfl, rfl, rfl, rfl, rfl, rfl, rfl, rfl, rfl, rfl, rfl, rfl, rfl, rfl, rfl, rfl, rfl, rfl⟩ := hd
  have i0 := hB.i0
  obtain ⟨at0, at1⟩ := hB.at_
  refine ifB_intro (fun hx => ?_) (fun hx => ?_)
  · have hx : i < l1.length := by simpa using hx
    obtain ⟨st, g2, st0⟩ := rget_uR b2 i0 (by omega)
    obtain ⟨kk, g1, kk0⟩ := rget_uR b1 i0 hx
    obtain ⟨tt, g3, tt0⟩ := rget_uR b3 i0 (by omega)
    refine ⟨⟨i0, by omega⟩, _, g2, ⟨i0, hx⟩, _, g1, by decide, ⟨i0, by omega⟩, _, g3, ?_⟩
    refine and_self_iff.mpr ?_
    have ek : wrem (wcv .i64 kk) 3 = kk % 3 := by rw [wcv8 kk0.1 kk0.2, wrem3 kk0.1]
    have hk3 : 0 ≤ kk % 3 ∧ kk % 3 ≤ 2 := by omega
    rw [wcv8 st0.1 st0.2, wcv8 tt0.1 tt0.2, ek, wadd_i64 (a := a) (b := st) (by omega) (by omega)]
    obtain ⟨ok, ⟨L', hB'⟩, ew, es, ec, e0, e1, e2⟩ := hB.step (st := st) (k := kk % 3) (t := tt) (by omega) st0 hk3 tt0
    have ht := ptell_fn d (evO (a + st) (kk % 3) tt)
    unfold tellR at ht
    rw [if_pos (may_zero.2 ok)] at ht
    have hw := wadd_fn d.wd d.sl d.cl (a + st) (ieq (kk % 3) 0)
    have wok := wadd_ok ok hB.ro (ieq (kk % 3) 0)
    rw [wok] at hw
    refine Cl.of ht ⟨_, _, _, _, _, _, _, _, _, _, _, _, _, _, _, _, _, _, _, _, _, _, rfl, Cl.of hw ⟨_, _, _, _, rfl, ifB_intro (fun h => by simp at h) (fun _ => ?_)⟩⟩
    have hb := hB.c
    refine ⟨fun x y z => x = (tellC d (evO (a + st) (kk % 3) tt)).c0 ∧ y = (tellC d (evO (a + st) (kk % 3) tt)).c1 ∧ z = (tellC d (evO (a + st) (kk % 3) tt)).c2, fun _ _ _ => 0, ?_, ?_⟩
    · rw [e0, e1, e2]
      have p0 := hB.P.1.2.1.1
      have p1 := hB.P.1.2.2.1.1
      have p2 := hB.P.1.2.2.2.1
      refine ⟨⟨hk3.1, by omega⟩, fun f0 => ⟨⟨hk3.1, by omega⟩, fun f => ⟨rfl, ?_⟩, fun f => absurd (f0.symm.trans f) (by decide), fun f => absurd (f0.symm.trans f) (by decide), trivial⟩,
          fun f0 => ⟨⟨hk3.1, by omega⟩, fun f => absurd (f0.symm.trans f) (by decide), fun f => ⟨rfl, ?_⟩, fun f => absurd (f0.symm.trans f) (by decide), trivial⟩,
          fun f0 => ⟨⟨hk3.1, by omega⟩, fun f => absurd (f0.symm.trans f) (by decide), fun f => absurd (f0.symm.trans f) (by decide), fun f => ⟨rfl, ?_⟩, trivial⟩, trivial⟩
      · rw [wadd_i64 (by omega) (by omega), f0]; exact ⟨rfl, rfl, rfl⟩
      · rw [wadd_i64 (by omega) (by omega), f0]; exact ⟨rfl, rfl, rfl⟩
      · rw [wadd_i64 (by omega) (by omega), f0]; exact ⟨rfl, rfl, rfl⟩
    · rintro _ _ _ ⟨rfl, rfl, rfl⟩
      refine ⟨⟨i0, by omega⟩, _, g3, ?_⟩
      rw [wcv8 tt0.1 tt0.2]
      refine Cl.of (rup_fn su tt) ⟨_, rfl, rfl, ?_, ?_⟩
      · rw [wadd_i64 (a := i) (by omega) (by omega)]
        exact ⟨tellC d (evO (a + st) (kk % 3) tt), L', rfl, hB', ⟨rfl, rfl, rfl⟩, ⟨ew.symm, es.symm, by rw [ec]⟩, by omega⟩
      · rw [wadd_i64 (a := i) (by omega) (by omega)]
        exact mlt (by dsimp only; omega)
  · have hx : (l1.length : Int) ≤ i := by simpa using hx
    have hi : i = l1.length := by omega
    have q := right1 hB.P hB.ro
    have hsumI := hB.hsum
    have hsm := hB.sum
    refine ifB_intro (fun h => ?_) (fun _ => ?_)
    · exfalso
      rw [hB.hs] at h
      simp at h
    refine Cl.ofQ (below_fn d.h0 d.h1 d.h2 d.h3 d.h4 d.h5 d.h6 d.h7 d.h8 d.hs q.2.1) (fun r hr => ?_)
    obtain ⟨c0, c1, c2, c3, c4, c5, c6, c7, rfl⟩ := hr
    refine ⟨_, _, _, _, _, _, _, _, _, rfl, ifB_intro (fun h => ?_) (fun _ => ?_)⟩
    · exfalso
      have : 0 + d.h0 + d.h1 + d.h2 + d.h3 + d.h4 + d.h5 + d.h6 + d.h7 + d.h8 = (l1.length : Int) := by rw [← hi]; exact hsumI
      rw [this] at h
      simp at h
    have hws : Ct Try.prog 61 {} [win3 d.wd d.sl (cR d.cl)] (fun r => r = [.agg [I (s1 L), I (s2 L)]]) := by
      rw [hB.cl]
      exact wsum_n _ _ L hB.win (by omega) (by omega)
    refine Cl.of hws ⟨_, _, rfl, Cl.of hws ⟨_, _, rfl, ifB_intro (fun h => by simp at h) (fun _ => ⟨by decide, ?_⟩)⟩⟩
    have ok : MayOK d (evT a (t % 3)) := trip_ok hB.P hB.nm hB.ro (by omega) ht3
    have ht := ptell_fn d (evT a (t % 3))
    unfold tellR at ht
    rw [if_pos (may_zero.2 ok)] at ht
    have hTP := tell_P ok
    by_cases h0 : t % 3 = 0
    · have eT : tellC d (evT a (t % 3)) = { d with mo := t % 3, sl := a / d.wd, cl := zer d.cl.length } := by
        unfold tellC
        rw [if_neg (by show ¬ (4 : Int) = 2; decide), if_neg (by show ¬ (4 : Int) = 3; decide), if_pos rfl, if_pos h0]
      rw [eT] at ht hTP
      refine Cl.of ht ⟨_, _, _, _, _, _, _, _, _, _, _, _, _, _, _, _, _, _, _, _, _, _, rfl, ifB_intro (fun h => ?_) (fun _ => ifB_intro (fun _ => ?_) (fun h => ?_))⟩
      · exfalso; simp at h
      · have hz : zer d.cl.length = cN (List.replicate d.cl.length (0, 0)) := by simp [zer]
        have hw2 := (right1 hTP hB.ro).1.2
        have hw3 : winP d.wd (a / d.wd) (cN (List.replicate d.cl.length (0, 0))) := by rw [← hz]; exact hw2
        have z1 : s1 (List.replicate d.cl.length (0, 0)) = 0 := by simp [s1]
        have z2 : s2 (List.replicate d.cl.length (0, 0)) = 0 := by simp [s2]
        have hws2 := wsum_n d.wd (a / d.wd) (List.replicate d.cl.length (0, 0)) hw3 (by omega) (by omega)
        rw [← hz, z1, z2] at hws2
        exact Cl.of hws2 ⟨_, _, rfl, rfl⟩
      · exfalso; simp [h0] at h
    · have eT : tellC d (evT a (t % 3)) = { d with mo := t % 3 } := by
        unfold tellC
        rw [if_neg (by show ¬ (4 : Int) = 2; decide), if_neg (by show ¬ (4 : Int) = 3; decide), if_pos rfl, if_neg h0]
      rw [eT] at ht
      refine Cl.of ht ⟨_, _, _, _, _, _, _, _, _, _, _, _, _, _, _, _, _, _, _, _, _, _, rfl, ifB_intro (fun h => ?_) (fun _ => ifB_intro (fun h => ?_) (fun _ => ?_))⟩
      · exfalso; simp at h
      · exfalso; simp [h0] at h
      · have hsame : Ct Try.prog 55 {} [d.sv, d.sv] (fun r => r = [B true]) := by
          have := psame_fn d d (by have := q.1.2.2.2.1.2; omega)
          rw [decide_eq_true (sameP_refl d)] at this
          exact this
        exact Cl.of hsame ⟨_, rfl, rfl⟩

end Go.Proofs.Ytpgahnnbpfeldaa.Cmp

/- CompBreaker over plain data. -/
import Derived.Test.YtpgahnnbpfeldaaCmp16
namespace Go.Proofs.Ytpgahnnbpfeldaa.Cmp
open Go Go.Px Go.Proofs
set_option maxRecDepth 100000
set_option linter.unusedVariables false

/-- What is known of the breaker after i outcomes. -/
structure BI (d : CoD) (L : List (Nat × Nat)) (su a i : Int) : Prop where
  P : d.P
  nm : d.nm = ndb
  ro : d.ro = 1
  cl : d.cl = cN L
  sum : ((s1 L + s2 L : Nat) : Int) ≤ i
  c : d.c0 ≤ i ∧ d.c1 ≤ i ∧ d.c2 ≤ i
  hs : d.hs = su
  hsum : d.hsum = i
  at_ : 0 ≤ a ∧ a ≤ 255 * i
  i0 : 0 ≤ i

theorem BI.win {d : CoD} {L : List (Nat × Nat)} {su a i : Int} (h : BI d L su a i) : winP d.wd d.sl (cN L) := by
  have := (right1 h.P h.ro).1.2
  rwa [h.cl] at this

abbrev evO (a k t : Int) : EvD := ⟨0, a, 3, ndb, k, t, 0⟩
theorem tell_o (d : CoD) (a k t : Int) : tellC d (evO a k t) = cntC (hadC (winC d (evO a k t)) t) k := by
  unfold tellC
  rw [if_neg (by show ¬ (3 : Int) = 2; decide), if_pos rfl]

theorem BI.step {d : CoD} {L : List (Nat × Nat)} {su a i st k t : Int} (h : BI d L su a i) (hi : i < 40) (hst : 0 ≤ st ∧ st ≤ 255) (hk : 0 ≤ k ∧ k ≤ 2) (ht : 0 ≤ t ∧ t ≤ 255) :
    MayOK d (evO (a + st) k t) ∧ (∃ L', BI (tellC d (evO (a + st) k t)) L' (upI su t) (a + st) (i + 1)) ∧
    (tellC d (evO (a + st) k t)).wd = d.wd ∧ (tellC d (evO (a + st) k t)).sl = (wadS d.wd d.sl d.cl (a + st) (ieq k 0)).1 ∧ (tellC d (evO (a + st) k t)).cl = (wadS d.wd d.sl d.cl (a + st) (ieq k 0)).2 ∧
    (tellC d (evO (a + st) k t)).c0 = (if k = 0 then d.c0 + 1 else d.c0) ∧ (tellC d (evO (a + st) k t)).c1 = (if k = 1 then d.c1 + 1 else d.c1) ∧ (tellC d (evO (a + st) k t)).c2 = (if k = 2 then d.c2 + 1 else d.c2) := by
  obtain ⟨a1, a2⟩ := h.at_
  have i0 := h.i0
  have ok : MayOK d (evO (a + st) k t) := breaker_ok h.P h.nm h.ro (by omega) hk ht
  have hP := tell_P ok
  have hn := tell_nm d (evO (a + st) k t)
  obtain ⟨e1, e2, e3, e4, e5, e6, e7, e8, e9, e10, e11⟩ := hadC_rest (winC d (evO (a + st) k t)) t
  obtain ⟨g0, g1, g2⟩ := h.P.1.2
  obtain ⟨c0, c1, c2⟩ := h.c
  have hw := h.win
  have q := right1 h.P h.ro
  have hsum := h.sum
  obtain ⟨L', f1, f2⟩ := wadS_n d.wd d.sl (a + st) L (ieq k 0) (by omega) (by have := hw.2.2.1.1; simpa using this)
  have hh := hadC_sum (c := winC d (evO (a + st) k t)) (n := t) q.2.1 ht.1 (by have := h.hsum; show d.hsum ≤ 40; omega)
  have k0 : (tellC d (evO (a + st) k t)).c0 = (if k = 0 then d.c0 + 1 else d.c0) := by
    rw [tell_o]; show (if k = 0 then upI _ 1 else _) = _; rw [e9]; show (if k = 0 then upI d.c0 1 else d.c0) = _; rw [up1 g0, if_neg (by omega : ¬ d.c0 = 1099511627776)]
  have k1 : (tellC d (evO (a + st) k t)).c1 = (if k = 1 then d.c1 + 1 else d.c1) := by
    rw [tell_o]; show (if k = 1 then upI _ 1 else _) = _; rw [e10]; show (if k = 1 then upI d.c1 1 else d.c1) = _; rw [up1 g1, if_neg (by omega : ¬ d.c1 = 1099511627776)]
  have k2 : (tellC d (evO (a + st) k t)).c2 = (if k = 2 then d.c2 + 1 else d.c2) := by
    rw [tell_o]; show (if k = 2 then upI _ 1 else _) = _; rw [e11]; show (if k = 2 then upI d.c2 1 else d.c2) = _; rw [up1 g2, if_neg (by omega : ¬ d.c2 = 1099511627776)]
  have ew : (tellC d (evO (a + st) k t)).wd = d.wd := by rw [tell_o]; exact e4
  have es : (tellC d (evO (a + st) k t)).sl = (wadS d.wd d.sl d.cl (a + st) (ieq k 0)).1 := by rw [tell_o]; exact e5
  have ec : (tellC d (evO (a + st) k t)).cl = (wadS d.wd d.sl d.cl (a + st) (ieq k 0)).2 := by rw [tell_o]; exact e6
  refine ⟨ok, ⟨L', ⟨hP, hn.1.trans h.nm, hn.2.trans h.ro, ?_, by omega, ⟨?_, ?_, ?_⟩, ?_, ?_, by omega, by omega⟩⟩, ew, es, ec, k0, k1, k2⟩
  · rw [ec, h.cl]; exact f1
  · rw [k0]; split <;> omega
  · rw [k1]; split <;> omega
  · rw [k2]; split <;> omega
  · rw [tell_o]; show (hadC (winC d (evO (a + st) k t)) t).hs = _; rw [hh.2]; show upI d.hs t = _; rw [h.hs]
  · rw [tell_o]; show (hadC (winC d (evO (a + st) k t)) t).hsum = _; rw [hh.1]; show d.hsum + 1 = _; rw [h.hsum]

end Go.Proofs.Ytpgahnnbpfeldaa.Cmp

/- One outcome that is told of a breaker. -/
import Derived.Test.YtpgahnnbpfeldaaCmp15
namespace Go.Proofs.Ytpgahnnbpfeldaa.Cmp
open Go Go.Px Go.Proofs
set_option maxRecDepth 100000
set_option linter.unusedVariables false

abbrev uR (l : List Int) : List (List SV) := l.map fun n => [U8 n]
theorem rget_uR {l : List Int} {i : Int} (hb : ∀ x ∈ l, 0 ≤ x ∧ x ≤ 255) (h0 : 0 ≤ i) (h1 : i < l.length) : ∃ n : Int, rget (uR l) i = [U8 n] ∧ 0 ≤ n ∧ n ≤ 255 := by
  have : i.toNat < l.length := by omega
  exact ⟨l[i.toNat], by simp [rget, this], hb _ (List.getElem_mem this)⟩

theorem s1_set (L : List (Nat × Nat)) (i : Nat) (v : Nat × Nat) (h : i < L.length) : s1 (L.set i v) + L[i].1 = s1 L + v.1 := by
  induction L generalizing i with
  | nil => simp at h
  | cons x xs ih =>
    cases i with
    | zero => simp [s1]; omega
    | succ i =>
      have := ih i (by simpa using h)
      simp [s1] at this ⊢
      omega
theorem s2_set (L : List (Nat × Nat)) (i : Nat) (v : Nat × Nat) (h : i < L.length) : s2 (L.set i v) + L[i].2 = s2 L + v.2 := by
  induction L generalizing i with
  | nil => simp at h
  | cons x xs ih =>
    cases i with
    | zero => simp [s2]; omega
    | succ i =>
      have := ih i (by simpa using h)
      simp [s2] at this ⊢
      omega
theorem s1_mem {L : List (Nat × Nat)} {i : Nat} (h : i < L.length) : L[i].1 ≤ s1 L := by
  have := s1_take L h; have := s1_le L (i + 1); omega
theorem s2_mem {L : List (Nat × Nat)} {i : Nat} (h : i < L.length) : L[i].2 ≤ s2 L := by
  have := s2_take L h; have := s2_le L (i + 1); omega

theorem upn {a : Nat} (h : a ≤ 40) : upI (a : Int) 1 = ((a + 1 : Nat) : Int) := by
  rw [up1 ⟨by omega, by omega⟩, if_neg (by omega)]; omega

theorem addL_n (L : List (Nat × Nat)) (i : Int) (ok : Bool) (h : s1 L + s2 L ≤ 40) (h0 : 0 ≤ i) (h1 : i < L.length) : ∃ L' : List (Nat × Nat), addL (cN L) i ok = cN L' ∧ s1 L' + s2 L' = s1 L + s2 L + 1 := by
  have hi : i.toNat < L.length := by omega
  have m1 := s1_mem hi
  have m2 := s2_mem hi
  have e : ceAt (cN L) i = ((L[i.toNat].1 : Int), (L[i.toNat].2 : Int)) := by simp [ceAt, hi]
  cases ok
  · refine ⟨L.set i.toNat (L[i.toNat].1, L[i.toNat].2 + 1), ?_, ?_⟩
    · unfold addL ceU cN
      rw [e, List.map_set]
      simp only [Bool.false_eq_true, if_false]
      rw [upn (by omega)]
    · have a := s1_set L i.toNat (L[i.toNat].1, L[i.toNat].2 + 1) hi
      have b := s2_set L i.toNat (L[i.toNat].1, L[i.toNat].2 + 1) hi
      simp only at a b
      omega
  · refine ⟨L.set i.toNat (L[i.toNat].1 + 1, L[i.toNat].2), ?_, ?_⟩
    · unfold addL ceU cN
      rw [e, List.map_set]
      simp only [if_true]
      rw [upn (by omega)]
    · have a := s1_set L i.toNat (L[i.toNat].1 + 1, L[i.toNat].2) hi
      have b := s2_set L i.toNat (L[i.toNat].1 + 1, L[i.toNat].2) hi
      simp only at a b
      omega

theorem sum_map_le : ∀ (L : List (Nat × Nat)) (k : Nat) (f : Nat → Bool), s1 ((List.range L.length).map fun p => if f (p + k) then (0, 0) else L.getD p (0, 0)) ≤ s1 L ∧ s2 ((List.range L.length).map fun p => if f (p + k) then (0, 0) else L.getD p (0, 0)) ≤ s2 L
  | [], _, _ => by simp [s1, s2]
  | x :: xs, k, f => by
    have ih := sum_map_le xs (k + 1) f
    simp only [List.length_cons, List.range_succ_eq_map, List.map_cons, List.map_map] at ih ⊢
    have e : ((fun p => if f (p + k) = true then ((0 : Nat), (0 : Nat)) else (x :: xs).getD p (0, 0)) ∘ Nat.succ) = fun p => if f (p + (k + 1)) = true then (0, 0) else xs.getD p (0, 0) := by
      funext p
      simp [Nat.succ_eq_add_one, Nat.add_assoc, Nat.add_comm 1 k]
    rw [e]
    simp only [s1, s2, List.map_cons, List.sum_cons] at ih ⊢
    constructor
    · split
      · show 0 + _ ≤ _; omega
      · show x.1 + _ ≤ _; omega
    · split
      · show 0 + _ ≤ _; omega
      · show x.2 + _ ≤ _; omega

theorem mvL_n (L : List (Nat × Nat)) (sl slot : Int) : ∃ L' : List (Nat × Nat), mvL sl slot (cN L) = cN L' ∧ s1 L' + s2 L' ≤ s1 L + s2 L ∧ L'.length = L.length := by
  have hs := sum_map_le L 0 (fun p : Nat => decide (sl < kk slot L.length p))
  refine ⟨(List.range L.length).map fun p : Nat => if (fun p : Nat => decide (sl < kk slot L.length p)) (p + 0) = true then (0, 0) else L.getD p (0, 0), ?_, Nat.add_le_add hs.1 hs.2, by simp⟩
  unfold mvL cN
  simp only [List.length_map, List.map_map]
  apply List.map_congr_left
  intro p hp
  simp only [List.mem_range] at hp
  simp only [Function.comp, Nat.add_zero, decide_eq_true_eq]
  split
  · rfl
  · simp [hp]

theorem wadS_n (wd sl a : Int) (L : List (Nat × Nat)) (ok : Bool) (h : s1 L + s2 L ≤ 39) (hl : 1 ≤ L.length) : ∃ L' : List (Nat × Nat), (wadS wd sl (cN L) a ok).2 = cN L' ∧ s1 L' + s2 L' ≤ s1 L + s2 L + 1 := by
  have hlen : (cN L).length = L.length := by simp
  have m0 := Int.emod_nonneg (a / wd) (b := (L.length : Int)) (by omega)
  have m1 := Int.emod_lt_of_pos (a / wd) (b := (L.length : Int)) (by omega)
  unfold wadS
  rw [hlen]
  split
  · split
    · exact ⟨L, rfl, by omega⟩
    · obtain ⟨L', e1, e2⟩ := addL_n L ((a / wd) % L.length) ok (by omega) m0 m1
      exact ⟨L', e1, by omega⟩
  · obtain ⟨L0, f1, f2, f3⟩ := mvL_n L sl (a / wd)
    rw [f1]
    obtain ⟨L', e1, e2⟩ := addL_n L0 ((a / wd) % L.length) ok (by omega) m0 (by rw [f3]; exact m1)
    exact ⟨L', e1, by omega⟩

def CoD.hsum (c : CoD) : Int := 0 + c.h0 + c.h1 + c.h2 + c.h3 + c.h4 + c.h5 + c.h6 + c.h7 + c.h8
theorem hadC_sum {c : CoD} {n : Int} (h : c.his) (hn : 0 ≤ n) (hs : c.hsum ≤ 40) : (hadC c n).hsum = c.hsum + 1 ∧ (hadC c n).hs = upI c.hs n := by
  obtain ⟨⟨a0, a0'⟩, ⟨a1, a1'⟩, ⟨a2, a2'⟩, ⟨a3, a3'⟩, ⟨a4, a4'⟩, ⟨a5, a5'⟩, ⟨a6, a6'⟩, ⟨a7, a7'⟩, ⟨a8, a8'⟩, _⟩ := id h
  unfold CoD.hsum at *
  unfold hadC
  rw [if_pos ⟨h, hn⟩]
  refine ⟨?_, rfl⟩
  have hp := hpl_range n
  simp only [hcI]
  have : hplI n = 0 ∨ hplI n = 1 ∨ hplI n = 2 ∨ hplI n = 3 ∨ hplI n = 4 ∨ hplI n = 5 ∨ hplI n = 6 ∨ hplI n = 7 ∨ hplI n = 8 := by omega
  rcases this with e | e | e | e | e | e | e | e | e <;> rw [e] <;> simp only [if_true, if_false, Int.reduceEq]
  all_goals first | (rw [up1 ⟨a0, a0'⟩, if_neg (by omega)]; omega) | (rw [up1 ⟨a1, a1'⟩, if_neg (by omega)]; omega) | (rw [up1 ⟨a2, a2'⟩, if_neg (by omega)]; omega) | (rw [up1 ⟨a3, a3'⟩, if_neg (by omega)]; omega) | (rw [up1 ⟨a4, a4'⟩, if_neg (by omega)]; omega) | (rw [up1 ⟨a5, a5'⟩, if_neg (by omega)]; omega) | (rw [up1 ⟨a6, a6'⟩, if_neg (by omega)]; omega) | (rw [up1 ⟨a7, a7'⟩, if_neg (by omega)]; omega) | (rw [up1 ⟨a8, a8'⟩, if_neg (by omega)]; omega)

theorem breaker_ok {d : CoD} {a k t : Int} (hP : d.P) (hn : d.nm = ndb) (hr : d.ro = 1) (ha : 0 ≤ a ∧ a ≤ 1099511627776) (hk : 0 ≤ k ∧ k ≤ 2) (ht : 0 ≤ t ∧ t ≤ 255) : MayOK d ⟨0, a, 3, ndb, k, t, 0⟩ := by
  refine ⟨hP, ?_, hn.symm, by show (3 : Int) ≠ 1; decide, .inr (by rw [hr]; rfl), fun h => absurd h (by show ¬ (3 : Int) = 2; decide)⟩
  unfold chkE chkI
  rw [if_neg (by show ¬ manyI 3 = 0; decide), if_neg (by show ¬ namB ndb = false; decide), if_neg, if_neg (by show ¬ (a < 0 ∨ 1099511627776 < a); omega), if_neg (by show ¬ ((0 : Int) < 0 ∨ 4294967296 < (0 : Int)); decide)]
  simp [valB, lo1, hi1, hi2, hi3]
  omega
theorem trip_ok {d : CoD} {a k : Int} (hP : d.P) (hn : d.nm = ndb) (hr : d.ro = 1) (ha : 0 ≤ a ∧ a ≤ 1099511627776) (hk : 0 ≤ k ∧ k ≤ 2) : MayOK d ⟨0, a, 4, ndb, k, 0, 0⟩ := by
  refine ⟨hP, ?_, hn.symm, by show (4 : Int) ≠ 1; decide, .inr (by rw [hr]; rfl), fun h => absurd h (by show ¬ (4 : Int) = 2; decide)⟩
  unfold chkE chkI
  rw [if_neg (by show ¬ manyI 4 = 0; decide), if_neg (by show ¬ namB ndb = false; decide), if_neg, if_neg (by show ¬ (a < 0 ∨ 1099511627776 < a); omega), if_neg (by show ¬ ((0 : Int) < 0 ∨ 4294967296 < (0 : Int)); decide)]
  simp [valB, lo1, hi1, hi2, hi3]
  omega
theorem wcv8 {n : Int} (h0 : 0 ≤ n) (h1 : n ≤ 255) : wcv .i64 n = n := wrap_i64 (by omega) (by omega)
theorem wrem3 {n : Int} (h0 : 0 ≤ n) : wrem n 3 = n % 3 := by
  unfold wrem
  exact Int.tmod_eq_emod_of_nonneg h0

end Go.Proofs.Ytpgahnnbpfeldaa.Cmp

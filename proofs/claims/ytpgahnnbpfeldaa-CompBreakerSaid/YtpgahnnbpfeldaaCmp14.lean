/- The sum of a window of which the cells hold no more than 40 together. -/
import Derived.Test.YtpgahnnbpfeldaaCmp13
import Derived.Test.YtpgahnnbpfeldaaFl2
namespace Go.Proofs.Ytpgahnnbpfeldaa.Cmp
open Go Go.Px Go.Proofs
set_option maxRecDepth 100000
set_option linter.unusedVariables false

theorem fcvt_n (n : Nat) : fcvt Try.prog 2 222 (.int .i64 (n : Int)) (.float .f64 (fb n)) := fcvt_if _
theorem tof_n {a b : Nat} (ha : a ≤ 40) (hb : b ≤ 40) : Ct Try.prog 137 {} [I a, I b] (fun r => r = [.val (.complex .f64 (fb a) (fb b))]) := by
  have ea : holdI a = a := hold_id ⟨by omega, by omega⟩
  have eb : holdI b = b := hold_id ⟨by omega, by omega⟩
  have h1 := hold_fn a; rw [ea] at h1
  have h2 := hold_fn b; rw [eb] at h2
  exact tof_nf _ _ _ (Cl.of h1 ⟨_, rfl, _, fcvt_n a, Cl.of h2 ⟨_, rfl, _, fcvt_n b, rfl⟩⟩)
theorem whole_n {n : Nat} (h : n ≤ 40) : Ct Try.prog 184 {} [.val (.float .f64 (fb n))] (fun r => r = [I n]) := by
  obtain ⟨o1, o2, o3, o4, o5, o6⟩ := ford_all ⟨n, by omega⟩
  refine whole_nf _ _ ⟨_, fbin_geq o1, ifB_intro (fun _ => ⟨_, fbin_leq o2, ifB_intro (fun _ => Cl.of (R := [.val (.float .f64 (fb n))]) (trunc_nf _ _ ⟨_, fext_trunc (trunc_n o5 o6), rfl⟩) ⟨_, rfl, _, fbin_eql o3, ifB_intro (fun _ => ⟨_, fcvt_fi o4 ?_, rfl⟩) (fun h => by simp at h)⟩) (fun h => by simp at h)⟩) (fun h => by simp at h)⟩
  have a1 : IntKind.i64.min ≤ 0 := by decide
  have a2 : (40 : Int) ≤ IntKind.i64.max := by decide
  constructor
  · show IntKind.i64.min ≤ (n : Int); omega
  · show (n : Int) ≤ IntKind.i64.max; omega
theorem parts_n {a b : Nat} (ha : a ≤ 40) (hb : b ≤ 40) : Ct Try.prog 138 {} [.val (.complex .f64 (fb a) (fb b))] (fun r => r = [I a, I b]) :=
  tparts_nf _ _ _ (Cl.of (whole_n ha) ⟨_, rfl, Cl.of (whole_n hb) ⟨_, rfl, rfl⟩⟩)

abbrev nR2 (l : List (Nat × Nat)) : List (List SV) := l.map fun c => [.val (.complex .f64 (fb c.1) (fb c.2))]
def s1 (l : List (Nat × Nat)) : Nat := (l.map (·.1)).sum
def s2 (l : List (Nat × Nat)) : Nat := (l.map (·.2)).sum
theorem s1_take (l : List (Nat × Nat)) {i : Nat} (h : i < l.length) : s1 (l.take (i + 1)) = s1 (l.take i) + l[i].1 := by
  unfold s1; rw [List.take_add_one, List.getElem?_eq_getElem h, List.map_append, List.sum_append]; simp only [Option.toList_some, List.map_cons, List.map_nil, List.sum_cons, List.sum_nil, Nat.add_zero]
theorem s2_take (l : List (Nat × Nat)) {i : Nat} (h : i < l.length) : s2 (l.take (i + 1)) = s2 (l.take i) + l[i].2 := by
  unfold s2; rw [List.take_add_one, List.getElem?_eq_getElem h, List.map_append, List.sum_append]; simp only [Option.toList_some, List.map_cons, List.map_nil, List.sum_cons, List.sum_nil, Nat.add_zero]
theorem s1_le (l : List (Nat × Nat)) (i : Nat) : s1 (l.take i) ≤ s1 l := by
  have : s1 l = s1 (l.take i) + s1 (l.drop i) := by unfold s1; rw [← List.sum_append, ← List.map_append, List.take_append_drop]
  omega
theorem s2_le (l : List (Nat × Nat)) (i : Nat) : s2 (l.take i) ≤ s2 l := by
  have : s2 l = s2 (l.take i) + s2 (l.drop i) := by unfold s2; rw [← List.sum_append, ← List.map_append, List.take_append_drop]
  omega
theorem fb0 : fb 0 = 0 := near0

theorem tsum_n (l : List (Nat × Nat)) (h1 : s1 l ≤ 40) (h2 : s2 l ≤ 40) (hl : l.length ≤ 40) : Ct Try.prog 139 {} [SL 1 (nR2 l)] (fun r => r = [.val (.complex .f64 (fb (s1 l)) (fb (s2 l)))]) := by
  have hr : rlen (nR2 l) = (l.length : Int) := by simp
  refine tsum_nf _ _ ⟨fun p x => (0 ≤ x ∧ x ≤ l.length) ∧ p = (fb (s1 (l.take x.toNat)), fb (s2 (l.take x.toNat))), fun _ x => (l.length - x).toNat, ⟨by omega, by simp [s1, s2]; exact near0.symm⟩, ?_⟩
  rintro p x ⟨⟨x0, xl⟩, rfl⟩
  rw [hr]
  refine ifB_intro (fun hx => ?_) (fun hx => ?_)
  · have hx : x < l.length := by simpa using hx
    rw [wadd_i64 (by omega) (by omega)]
    have hi : x.toNat < l.length := by omega
    have ei : (x + 1).toNat = x.toNat + 1 := by omega
    have t1 := s1_take l hi
    have t2 := s2_take l hi
    have u1 := s1_le l (x.toNat + 1)
    have u2 := s2_le l (x.toNat + 1)
    refine ⟨⟨x0, hx⟩, _, _, by simp [rget, hi]; exact ⟨rfl, rfl⟩, _, _, fbin_cadd (fadd_n (by omega)) (fadd_n (by omega)), rfl, ⟨by omega, ?_⟩, mlt (by dsimp only; omega)⟩
    rw [ei, t1, t2]
  · have hx : l.length ≤ x := by simpa using hx
    have e : x.toNat = l.length := by omega
    rw [e, List.take_length]
    rfl

abbrev cN (l : List (Nat × Nat)) : List (Int × Int) := l.map fun c => ((c.1 : Int), (c.2 : Int))
theorem wsum_n (wd sl : Int) (l : List (Nat × Nat)) (hw : winP wd sl (cN l)) (h1 : s1 l ≤ 40) (h2 : s2 l ≤ 40) : Ct Try.prog 61 {} [win3 wd sl (cR (cN l))] (fun r => r = [.agg [I (s1 l), I (s2 l)]]) := by
  have hr : rlen (cR (cN l)) = (l.length : Int) := by simp
  have hl : l.length ≤ 16 := by have := hw.2.2.1.2; simpa using this
  refine wsum_nf _ _ _ _ (Cl.of (wright_fn wd sl (cN l)) ⟨_, rfl, ifB_intro (fun h => ?_) (fun _ => ⟨⟨by decide, by rw [hr]; omega, by rw [hr]; omega⟩, fun m x => (0 ≤ x ∧ x ≤ l.length) ∧ m = nR2 (l.take x.toNat), fun _ x => (l.length - x).toNat, ⟨by omega, by simp [rrep]⟩, ?_⟩)⟩)
  · simp [hw] at h
  rintro m x ⟨⟨x0, xl⟩, rfl⟩
  rw [hr]
  refine ifB_intro (fun hx => ?_) (fun hx => ?_)
  · have hx : x < l.length := by simpa using hx
    rw [wadd_i64 (by omega) (by omega)]
    have hi : x.toNat < l.length := by omega
    have ei : (x + 1).toNat = x.toNat + 1 := by omega
    have t1 := s1_take l hi
    have t2 := s2_take l hi
    have u1 := s1_le l (x.toNat + 1)
    have u2 := s2_le l (x.toNat + 1)
    have hg : rget (cR (cN l)) x = [I (l[x.toNat].1 : Int), I (l[x.toNat].2 : Int)] := by simp [rget, hi]
    refine ⟨⟨x0, hx⟩, _, _, hg, Cl.of (tof_n (by omega) (by omega)) ⟨_, _, rfl, ?_, rfl, ⟨by omega, ?_⟩, mlt (by dsimp only; omega)⟩⟩
    · simp [lsum]; omega
    · rw [ei, List.take_add_one, List.getElem?_eq_getElem hi]
      unfold nR2 rapp
      rw [List.map_append]
      rfl
  · have hx : l.length ≤ x := by simpa using hx
    have e : x.toNat = l.length := by omega
    rw [e, List.take_length]
    exact Cl.of (tsum_n l h1 h2 (by omega)) ⟨_, _, rfl, Cl.of (parts_n h1 h2) ⟨_, _, rfl, rfl⟩⟩

end Go.Proofs.Ytpgahnnbpfeldaa.Cmp

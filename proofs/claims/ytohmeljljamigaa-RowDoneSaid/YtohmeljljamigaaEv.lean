/- Layer 5: the answers of the functions of package event, and of its reference. -/
import Derived.Test.YtohmeljljamigaaEvN
namespace Go.Proofs.Ytohmeljljamigaa
open Go Go.Px Go.Proofs
set_option maxRecDepth 100000
set_option linter.unusedVariables false

def manyI (k : Int) : Int := if k < 1 ∨ 10 < k then 0 else if k = 2 then 3 else if k = 3 then 2 else 1
def roleI (k : Int) : Int := if k = 1 ∨ k = 2 then 0 else if k = 3 ∨ k = 4 then 1 else if k = 5 ∨ k = 6 ∨ k = 7 then 2 else if k = 8 ∨ k = 9 ∨ k = 10 then 3 else -1
def lo1 (k : Int) : Int := if k = 1 ∨ k = 8 ∨ k = 10 then 1 else 0
def hi1 (k : Int) : Int := if k = 1 then 3 else if k = 3 ∨ k = 4 then 2 else 2147483647
def hi2 (k : Int) : Int := if k = 2 ∨ k = 3 then 2147483647 else 0
def hi3 (k : Int) : Int := if k = 2 then 2147483647 else 0
def valB (k x y z : Int) : Bool := decide (lo1 k ≤ x ∧ x ≤ hi1 k ∧ 0 ≤ y ∧ y ≤ hi2 k ∧ 0 ≤ z ∧ z ≤ hi3 k)
def someB (n : Int) : Bool := decide (0 ≤ n ∧ n ≤ 2147483647)
def namB (c : ByteArray) : Bool := decide (1 ≤ c.size ∧ c.size ≤ 24)
def chkI (s a k : Int) (c : ByteArray) (x y z : Int) : Int :=
  if manyI k = 0 then 2 else if namB c = false then 3 else if valB k x y z = false then 4 else if a < 0 ∨ 1099511627776 < a then 5 else if s < 0 ∨ 4294967296 < s then 1 else 0

theorem ifB_iff {b : Bool} {x y : Prop} : ifB b x y ↔ ((b = true → x) ∧ (b = false → y)) := by
  cases b <;> simp [ifB]

theorem ifB_p {p : Prop} [Decidable p] {x y : Prop} : ifB (decide p) x y ↔ (if p then x else y) := by
  by_cases h : p <;> simp [h, ifB]

theorem mlt {a b : Nat} (h : a < b) : Nat.le (Nat.succ a) b := h
theorem bor_t {a b : Bool} : bpick a true b = true ↔ a = true ∨ b = true := by cases a <;> simp
theorem bor_f {a b : Bool} : bpick a true b = false ↔ a = false ∧ b = false := by cases a <;> simp
theorem named_fn (c : ByteArray) : Ct Try.prog 120 {} [S c] (fun r => r = [B (namB c)]) := by
  refine named_nf _ _ ?_
  have : (bpick (ige (slen c) 1) (ile (slen c) 24) false) = namB c := by
    rw [Bool.eq_iff_iff]; simp [namB]; omega
  rw [this]

theorem many_eq (k : Int) : ifB (bpick (ilt k 1) true (igt k 10)) (([I 0] : List SV) = [I (manyI k)]) (ifB (ieq k 2) (([I 3] : List SV) = [I (manyI k)]) (ifB (ieq k 3) (([I 2] : List SV) = [I (manyI k)]) (([I 1] : List SV) = [I (manyI k)]))) := by
  refine ifB_intro (fun h => ?_) (fun h => ?_)
  · simp at h
    have : k < 1 ∨ 10 < k := by omega
    simp [manyI, this]
  · simp at h
    have h0 : ¬ (k < 1 ∨ 10 < k) := by omega
    refine ifB_intro (fun h => ?_) (fun h => ?_)
    · simp at h; simp [manyI, h]
    · simp at h
      refine ifB_intro (fun h2 => ?_) (fun h2 => ?_)
      · simp at h2; simp [manyI, h2]
      · simp at h2; simp [manyI, h, h2, h0]

theorem many_fn (k : Int) : Ct Try.prog 170 {} [I k] (fun r => r = [I (manyI k)]) := many_nf _ _ (many_eq k)
theorem role_fn (k : Int) : Ct Try.prog 172 {} [I k] (fun r => r = [I (roleI k)]) := by
  refine role_nf _ _ ?_
  simp only [ieq_eq, ifB_p]
  repeat' split
  all_goals (subst_vars; simp_all [roleI])

theorem bounds_fn (k : Int) : Ct Try.prog 200 {} [I k] (fun r => r = [.agg [I (lo1 k), I (hi1 k), I 0, I (hi2 k), I 0, I (hi3 k)]]) := by
  refine bounds_nf _ _ ?_
  simp only [ieq_eq, ifB_p]
  repeat' split
  all_goals (subst_vars; simp_all [lo1, hi1, hi2, hi3])

theorem within_fn (s a k : Int) (c : ByteArray) (x y z : Int) : Ct Try.prog 171 {} [ev7 s a k c x y z] (fun r => r = [B (valB k x y z)]) := by
  refine within_nf _ _ _ _ _ _ _ _ (Cl.of (bounds_fn k) ⟨_, _, _, _, _, _, rfl, ?_⟩)
  refine ⟨fun _ i => 0 ≤ i ∧ i ≤ 3 ∧ (1 ≤ i → lo1 k ≤ x ∧ x ≤ hi1 k) ∧ (2 ≤ i → 0 ≤ y ∧ y ≤ hi2 k) ∧ (3 ≤ i → 0 ≤ z ∧ z ≤ hi3 k), fun _ i => (3 - i).toNat, by omega, fun b i hi => ?_⟩
  obtain ⟨h0, h3, g1, g2, g3⟩ := hi
  refine ifB_intro (fun h => ?_) (fun h => ?_)
  · simp at h
    have w : wadd IntKind.i64 i 1 = i + 1 := wadd_i64 (by omega) (by omega)
    have hc : i = 0 ∨ i = 1 ∨ i = 2 := by omega
    have vf : (lo1 k ≤ x ∧ x ≤ hi1 k ∧ 0 ≤ y ∧ y ≤ hi2 k ∧ 0 ≤ z ∧ z ≤ hi3 k → False) → [B false] = [B (valB k x y z)] := fun hn => by
      have : valB k x y z = false := by simpa [valB] using hn
      rw [this]
    rw [w]
    simp only [ifB_iff, ilt_eq, igt_eq, bpick_eq, decide_eq_true_eq, decide_eq_false_iff_not, Bool.false_eq_true, if_false]
    rcases hc with rfl | rfl | rfl
    · simp only [true_and, forall_const, and_true, Int.reduceLT, Int.reduceEq, false_implies, Int.reduceLE]
      refine ⟨fun h => vf (by omega), fun h => ⟨fun h' => vf (by omega), fun h' => ⟨by omega, mlt (by omega)⟩⟩⟩
    · simp only [true_and, forall_const, and_true, Int.reduceLT, Int.reduceEq, false_implies, Int.reduceLE]
      refine ⟨fun h => vf (by omega), fun h => ⟨fun h' => vf (by omega), fun h' => ⟨by omega, mlt (by omega)⟩⟩⟩
    · simp only [true_and, forall_const, and_true, Int.reduceLT, Int.reduceEq, false_implies, Int.reduceLE]
      refine ⟨fun h => vf (by omega), fun h => ⟨fun h' => vf (by omega), fun h' => ⟨by omega, mlt (by omega)⟩⟩⟩
  · simp at h
    have : valB k x y z = true := by simp [valB]; omega
    simp [this]

theorem many0 (k : Int) : manyI k = 0 ↔ k < 1 ∨ 10 < k := by
  unfold manyI; repeat' split
  all_goals simp_all

theorem check_fn (s a k : Int) (c : ByteArray) (x y z : Int) : Ct Try.prog 117 {} [ev7 s a k c x y z] (fun r => r = [I (chkI s a k c x y z)]) := by
  refine check_nf _ _ _ _ _ _ _ _ (Cl.of (many_fn k) ⟨_, rfl, ifB_intro (fun h => ?_) (fun h => ?_)⟩)
  · simp at h; simp [chkI, h]
  · simp at h
    refine Cl.of (named_fn c) ⟨_, rfl, ifB_intro (fun h1 => ?_) (fun h1 => ?_)⟩
    · simp at h1; simp [chkI, h, h1]
    · simp at h1
      refine Cl.of (within_fn s a k c x y z) ⟨_, rfl, ifB_intro (fun h2 => ?_) (fun h2 => ?_)⟩
      · simp at h2; simp [chkI, h, h1, h2]
      · simp at h2
        refine ifB_intro (fun h3 => ?_) (fun h3 => ?_)
        · simp at h3
          have : a < 0 ∨ 1099511627776 < a := by omega
          simp [chkI, h, h1, h2, this]
        · simp at h3
          have h3 : ¬ (a < 0 ∨ 1099511627776 < a) := by omega
          refine ifB_intro (fun h4 => ?_) (fun h4 => ?_)
          · simp at h4
            have : s < 0 ∨ 4294967296 < s := by omega
            simp [chkI, h, h1, h2, h3, this]
          · simp at h4
            have h4 : ¬ (s < 0 ∨ 4294967296 < s) := by omega
            simp [chkI, h, h1, h2, h3, h4]

def numL (k x y z : Int) : List (List SV) := rsub [[I x], [I y], [I z]] 0 (manyI k)

/-- The number at place i. -/
def nAt (rows : List (List SV)) (i : Nat) : Int :=
  match rows[i]? with
  | some [.val (.int _ n)] => n
  | _ => 0

def Ints (rows : List (List SV)) : Prop := ∀ r ∈ rows, ∃ n : Int, r = [I n]

theorem Ints.get {rows : List (List SV)} (h : Ints rows) {i : Nat} (hi : i < rows.length) (j : Int) (hj : j = (i : Int)) : rget rows j = [I (nAt rows i)] := by
  obtain ⟨n, hn⟩ := h rows[i] (List.getElem_mem hi)
  subst hj
  have : rows[i]? = some [I n] := by rw [List.getElem?_eq_getElem hi, hn]
  simp [rget, nAt, this]

theorem chk0 {s a k : Int} {c : ByteArray} {x y z : Int} (h : chkI s a k c x y z = 0) : manyI k ≠ 0 ∧ namB c = true ∧ valB k x y z = true ∧ ¬ (a < 0 ∨ 1099511627776 < a) ∧ ¬ (s < 0 ∨ 4294967296 < s) := by
  unfold chkI at h
  split at h
  · simp at h
  split at h
  · simp at h
  split at h
  · simp at h
  split at h
  · simp at h
  split at h
  · simp at h
  simp_all

end Go.Proofs.Ytohmeljljamigaa

/- Layer 5: the answers of the functions of package event, and of its reference. -/
import Derived.Test.YtbocfphenkidnaaDoorEvN
namespace Go.Proofs.YtbocfphenkidnaaDoor
open Go Go.Px Go.Proofs
set_option maxRecDepth 100000
set_option linter.unusedVariables false

def manyI (k : Int) : Int := if k < 1 ∨ 10 < k then 0 else if k = 2 then 3 else if k = 3 then 2 else 1
def roleI (k : Int) : Int := if k = 1 ∨ k = 2 then 0 else if k = 3 ∨ k = 4 then 1 else if k = 5 ∨ k = 6 ∨ k = 7 then 2 else if k = 8 ∨ k = 9 ∨ k = 10 then 3 else -1
def lo1 (k : Int) : Int := if k = 1 ∨ k = 8 ∨ k = 10 then 1 else 0
def hi1 (k : Int) : Int := if k = 1 then 3 else if k = 3 ∨ k = 4 then 2 else 2147483647
def hi2 (k : Int) : Int := if k = 2 ∨ k = 3 then 2147483647 else 0
def hi3 (k : Int) : Int := if k = 2 then 2147483647 else 0
def valB (k x y z : Int) : Bool := decide (lo1 k ≤ x ∧ x ≤ hi1 k ∧ 0 ≤ y ∧ y ≤ hi2 k ∧ 0 ≤ z ∧ z ≤ hi3 k)
def someB (n : Int) : Bool := decide (0 ≤ n ∧ n ≤ 2147483647)
def namB (c : ByteArray) : Bool := decide (1 ≤ c.size ∧ c.size ≤ 24)
def chkI (s a k : Int) (c : ByteArray) (x y z : Int) : Int :=
  if manyI k = 0 then 2 else if namB c = false then 3 else if valB k x y z = false then 4 else if a < 0 ∨ 1099511627776 < a then 5 else if s < 0 ∨ 4294967296 < s then 1 else 0

theorem ifB_iff {b : Bool} {x y : Prop} : ifB b x y ↔ ((b = true → x) ∧ (b = false → y)) := by
  cases b <;> simp [ifB]

theorem ifB_p {p : Prop} [Decidable p] {x y : Prop} : ifB (decide p) x y ↔ (if p then x else y) := by
  by_cases h : p <;> simp [h, ifB]

theorem mlt {a b : Nat} (h : a < b) : Nat.le (Nat.succ a) b := h
theorem bor_t {a b : Bool} : bpick a true b = true ↔ a = true ∨ b = true := by cases a <;> simp
theorem bor_f {a b : Bool} : bpick a true b = false ↔ a = false ∧ b = false := by cases a <;> simp
theorem ieq_t {a b : Int} : ieq a b = true ↔ a = b := by simp
theorem ieq_f {a b : Int} : ieq a b = false ↔ ¬ a = b := by simp
theorem igt_t {a b : Int} : igt a b = true ↔ b < a := by simp
theorem igt_f {a b : Int} : igt a b = false ↔ ¬ b < a := by simp

theorem named_fn (c : ByteArray) : Ct Tryd.prog 22 {} [S c] (fun r => r = [B (namB c)]) := by
  refine named_nf _ _ ?_
  have : (bpick (ige (slen c) 1) (ile (slen c) 24) false) = namB c := by
    rw [Bool.eq_iff_iff]; simp [namB]; omega
  rw [this]

theorem many_eq (k : Int) : ifB (bpick (ilt k 1) true (igt k 10)) (([I 0] : List SV) = [I (manyI k)]) (ifB (ieq k 2) (([I 3] : List SV) = [I (manyI k)]) (ifB (ieq k 3) (([I 2] : List SV) = [I (manyI k)]) (([I 1] : List SV) = [I (manyI k)]))) := by
  refine ifB_intro (fun h => ?_) (fun h => ?_)
  · simp at h
    have : k < 1 ∨ 10 < k := by omega
    simp [manyI, this]
  · simp at h
    have h0 : ¬ (k < 1 ∨ 10 < k) := by omega
    refine ifB_intro (fun h => ?_) (fun h => ?_)
    · simp at h; simp [manyI, h]
    · simp at h
      refine ifB_intro (fun h2 => ?_) (fun h2 => ?_)
      · simp at h2; simp [manyI, h2]
      · simp at h2; simp [manyI, h, h2, h0]

theorem many_fn (k : Int) : Ct Tryd.prog 21 {} [I k] (fun r => r = [I (manyI k)]) := many_nf _ _ (many_eq k)
theorem bounds_fn (k : Int) : Ct Tryd.prog 37 {} [I k] (fun r => r = [.agg [I (lo1 k), I (hi1 k), I 0, I (hi2 k), I 0, I (hi3 k)]]) := by
  refine bounds_nf _ _ ?_
  simp only [ieq_eq, ifB_p]
  repeat' split
  all_goals (subst_vars; simp_all [lo1, hi1, hi2, hi3])

theorem within_fn (s a k : Int) (c : ByteArray) (x y z : Int) : Ct Tryd.prog 23 {} [ev7 s a k c x y z] (fun r => r = [B (valB k x y z)]) := by
  refine within_nf _ _ _ _ _ _ _ _ (Cl.of (bounds_fn k) ⟨_, _, _, _, _, _, rfl, ?_⟩)
  refine ⟨fun _ i => 0 ≤ i ∧ i ≤ 3 ∧ (1 ≤ i → lo1 k ≤ x ∧ x ≤ hi1 k) ∧ (2 ≤ i → 0 ≤ y ∧ y ≤ hi2 k) ∧ (3 ≤ i → 0 ≤ z ∧ z ≤ hi3 k), fun _ i => (3 - i).toNat, by omega, fun b i hi => ?_⟩
  obtain ⟨h0, h3, g1, g2, g3⟩ := hi
  refine ifB_intro (fun h => ?_) (fun h => ?_)
  · simp at h
    have w : wadd IntKind.i64 i 1 = i + 1 := wadd_i64 (by omega) (by omega)
    have hc : i = 0 ∨ i = 1 ∨ i = 2 := by omega
    have vf : (lo1 k ≤ x ∧ x ≤ hi1 k ∧ 0 ≤ y ∧ y ≤ hi2 k ∧ 0 ≤ z ∧ z ≤ hi3 k → False) → [B false] = [B (valB k x y z)] := fun hn => by
      have : valB k x y z = false := by simpa [valB] using hn
      rw [this]
    rw [w]
    simp only [ifB_iff, ilt_eq, igt_eq, bpick_eq, decide_eq_true_eq, decide_eq_false_iff_not, Bool.false_eq_true, if_false]
    rcases hc with rfl | rfl | rfl
    · simp only [true_and, forall_const, and_true, Int.reduceLT, Int.reduceEq, false_implies, Int.reduceLE]
      refine ⟨fun h => vf (by omega), fun h => ⟨fun h' => vf (by omega), fun h' => ⟨by omega, mlt (by omega)⟩⟩⟩
    · simp only [true_and, forall_const, and_true, Int.reduceLT, Int.reduceEq, false_implies, Int.reduceLE]
      refine ⟨fun h => vf (by omega), fun h => ⟨fun h' => vf (by omega), fun h' => ⟨by omega, mlt (by omega)⟩⟩⟩
    · simp only [true_and, forall_const, and_true, Int.reduceLT, Int.reduceEq, false_implies, Int.reduceLE]
      refine ⟨fun h => vf (by omega), fun h => ⟨fun h' => vf (by omega), fun h' => ⟨by omega, mlt (by omega)⟩⟩⟩
  · simp at h
    have : valB k x y z = true := by simp [valB]; omega
    simp [this]

theorem many0 (k : Int) : manyI k = 0 ↔ k < 1 ∨ 10 < k := by
  unfold manyI; repeat' split
  all_goals simp_all

theorem check_fn (s a k : Int) (c : ByteArray) (x y z : Int) : Ct Tryd.prog 11 {} [ev7 s a k c x y z] (fun r => r = [I (chkI s a k c x y z)]) := by
  refine check_nf _ _ _ _ _ _ _ _ (Cl.of (many_fn k) ⟨_, rfl, ifB_intro (fun h => ?_) (fun h => ?_)⟩)
  · simp at h; simp [chkI, h]
  · simp at h
    refine Cl.of (named_fn c) ⟨_, rfl, ifB_intro (fun h1 => ?_) (fun h1 => ?_)⟩
    · simp at h1; simp [chkI, h, h1]
    · simp at h1
      refine Cl.of (within_fn s a k c x y z) ⟨_, rfl, ifB_intro (fun h2 => ?_) (fun h2 => ?_)⟩
      · simp at h2; simp [chkI, h, h1, h2]
      · simp at h2
        refine ifB_intro (fun h3 => ?_) (fun h3 => ?_)
        · simp at h3
          have : a < 0 ∨ 1099511627776 < a := by omega
          simp [chkI, h, h1, h2, this]
        · simp at h3
          have h3 : ¬ (a < 0 ∨ 1099511627776 < a) := by omega
          refine ifB_intro (fun h4 => ?_) (fun h4 => ?_)
          · simp at h4
            have : s < 0 ∨ 4294967296 < s := by omega
            simp [chkI, h, h1, h2, h3, this]
          · simp at h4
            have h4 : ¬ (s < 0 ∨ 4294967296 < s) := by omega
            simp [chkI, h, h1, h2, h3, h4]

def numL (k x y z : Int) : List (List SV) := rsub [[I x], [I y], [I z]] 0 (manyI k)

theorem many_cases (k : Int) : manyI k = 0 ∨ manyI k = 1 ∨ manyI k = 2 ∨ manyI k = 3 := by
  unfold manyI; repeat' split
  all_goals simp_all

theorem numL_len (k x y z : Int) : ((numL k x y z).length : Int) = manyI k := by
  unfold numL
  rcases many_cases k with h | h | h | h <;> rw [h] <;> rfl

theorem numbers_fn (s a k : Int) (c : ByteArray) (x y z : Int) : Ct Tryd.prog 52 {} [ev7 s a k c x y z] (fun r => r = [SL 1 (numL k x y z)]) := by
  refine numbers_nf _ _ _ _ _ _ _ _ (Cl.of (many_fn k) ⟨_, rfl, ?_, rfl⟩)
  simp only [rlen_eq, List.length_cons, List.length_nil]
  rcases many_cases k with h | h | h | h <;> omega

/-- The number at place i. -/
def nAt (rows : List (List SV)) (i : Nat) : Int :=
  match rows[i]? with
  | some [.val (.int _ n)] => n
  | _ => 0

def Ints (rows : List (List SV)) : Prop := ∀ r ∈ rows, ∃ n : Int, r = [I n]

theorem Ints.get {rows : List (List SV)} (h : Ints rows) {i : Nat} (hi : i < rows.length) (j : Int) (hj : j = (i : Int)) : rget rows j = [I (nAt rows i)] := by
  obtain ⟨n, hn⟩ := h rows[i] (List.getElem_mem hi)
  subst hj
  have : rows[i]? = some [I n] := by rw [List.getElem?_eq_getElem hi, hn]
  simp [rget, nAt, this]

theorem nAt_out {rows : List (List SV)} {i : Nat} (hi : rows.length ≤ i) : nAt rows i = 0 := by
  simp [nAt, List.getElem?_eq_none hi]

theorem fill_fn (s a k : Int) (c : ByteArray) (x y z : Int) (rows : List (List SV)) (hr : Ints rows) : Ct Tryd.prog 93 {} [ev7 s a k c x y z, SL 1 rows] (fun r => r = [ev7 s a k c (nAt rows 0) (nAt rows 1) (nAt rows 2)]) := by
  refine fill_nf _ _ _ _ _ _ _ _ _ ?_
  simp only [imin_eq, rlen_eq]
  refine ⟨fun h => ?_, fun h => ⟨_, hr.get (i := 0) (by omega) _ rfl, fun h1 => ?_, fun h1 => ⟨_, hr.get (i := 1) (by omega) _ rfl, fun h2 => ?_, fun h2 => ⟨_, hr.get (i := 2) (by omega) _ rfl, rfl⟩⟩⟩⟩
  · rw [nAt_out (i := 0) (by omega), nAt_out (i := 1) (by omega), nAt_out (i := 2) (by omega)]
  · rw [nAt_out (i := 1) (by omega), nAt_out (i := 2) (by omega)]
  · rw [nAt_out (i := 2) (by omega)]

theorem ints_nil : Ints [] := fun r hr => by cases hr

theorem role_many (k : Int) : roleI k = -1 ↔ manyI k = 0 := by
  rw [many0]
  unfold roleI
  repeat' split
  all_goals simp
  all_goals omega

theorem role_range (k : Int) (h : manyI k ≠ 0) : 0 ≤ roleI k ∧ roleI k ≤ 3 := by
  have : roleI k ≠ -1 := fun e => h ((role_many k).1 e)
  revert this
  unfold roleI
  repeat' split
  all_goals simp

theorem many1 {k : Int} (h : manyI k = 1) : hi2 k = 0 ∧ hi3 k = 0 := by
  have h2 : k ≠ 2 := fun e => by subst e; simp [manyI] at h
  have h3 : k ≠ 3 := fun e => by subst e; simp [manyI] at h
  simp [hi2, hi3, h2, h3]

theorem many2 {k : Int} (h : manyI k = 2) : hi3 k = 0 := by
  have h2 : k ≠ 2 := fun e => by subst e; simp [manyI] at h
  simp [hi3, h2]

theorem numL_ints (k x y z : Int) : Ints (numL k x y z) := by
  intro r hm
  unfold numL rsub at hm
  have := List.mem_of_mem_take (List.mem_of_mem_drop hm)
  simp at this
  rcases this with rfl | rfl | rfl
  · exact ⟨_, rfl⟩
  · exact ⟨_, rfl⟩
  · exact ⟨_, rfl⟩

theorem chk0 {s a k : Int} {c : ByteArray} {x y z : Int} (h : chkI s a k c x y z = 0) : manyI k ≠ 0 ∧ namB c = true ∧ valB k x y z = true ∧ ¬ (a < 0 ∨ 1099511627776 < a) ∧ ¬ (s < 0 ∨ 4294967296 < s) := by
  unfold chkI at h
  split at h
  · simp at h
  split at h
  · simp at h
  split at h
  · simp at h
  split at h
  · simp at h
  split at h
  · simp at h
  simp_all

end Go.Proofs.YtbocfphenkidnaaDoor

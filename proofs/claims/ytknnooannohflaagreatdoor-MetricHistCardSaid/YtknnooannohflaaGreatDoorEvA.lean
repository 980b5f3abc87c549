/- Layer 5: what the functions of package event, and of its reference, do with plain data. -/
import Derived.Test.YtknnooannohflaaGreatDoorPxK
import Derived.Test.YtknnooannohflaaGreatDoorProg
namespace Go.Proofs.YtknnooannohflaaGreatDoor
open Go Go.Px Go.Proofs
set_option maxRecDepth 100000
set_option linter.unusedVariables false

def SgT : FuncId → Sig := fun _ => {}
def SvT : TypeId → Sig := fun _ => {}
abbrev ev7 (s a k : Int) (c : ByteArray) (x y z : Int) : SV := .agg [I s, I a, I k, S c, I x, I y, I z]

theorem many_nf (k : Int) (Q : List SV → Prop) (h : ifB (bpick (ilt k 1) true (igt k 10)) (Q [I 0]) (ifB (ieq k 2) (Q [I 3]) (ifB (ieq k 3) (Q [I 2]) (Q [I 1])))) : Ct Tryz.prog 177 {} [I k] Q :=
 fn_of (f := 177) SgT SvT (fun _ => none) Tryz.f177 Tryz.func177 (by kernel_rfl) (by kernel_rfl) h

theorem named_nf (c : ByteArray) (Q : List SV → Prop) (h : Q [B (bpick (ige (slen c) 1) (ile (slen c) 24) false)]) : Ct Tryz.prog 107 {} [S c] Q :=
 fn_of (f := 107) SgT SvT (fun _ => none) Tryz.f107 Tryz.func107 (by kernel_rfl) (by kernel_rfl) h

theorem bounds_nf (k : Int) (Q : List SV → Prop) (h : ifB (ieq k 1) (Q ([SV.agg [I 1, I 3, I 0, I 0, I 0, I 0]])) (ifB (ieq k 2) (Q ([SV.agg [I 0, I 2147483647, I 0, I 2147483647, I 0, I 2147483647]])) (ifB (ieq k 3) (Q ([SV.agg [I 0, I 2, I 0, I 2147483647, I 0, I 0]])) (ifB (ieq k 4) (Q ([SV.agg [I 0, I 2, I 0, I 0, I 0, I 0]])) (ifB (ieq k 8) (ifB (ieq k 8) (Q ([SV.agg [I 1, I 2147483647, I 0, I 0, I 0, I 0]])) (Q ([SV.agg [I 0, I 2147483647, I 0, I 0, I 0, I 0]]))) (ifB (ieq k 10) (Q ([SV.agg [I 1, I 2147483647, I 0, I 0, I 0, I 0]])) (Q ([SV.agg [I 0, I 2147483647, I 0, I 0, I 0, I 0]])))))))) : Ct Tryz.prog 206 {} [I k] Q :=
 fn_of (f := 206) SgT SvT (fun _ => none) Tryz.f206 Tryz.func206 (by kernel_rfl) (by kernel_rfl) h

theorem within_nf (s a k : Int) (c : ByteArray) (x y z : Int) (Q : List SV → Prop) (h : Cl Tryz.prog 206 sP [I k] (fun rs => ∃ x1 x2, ∃ x3 x4, ∃ x5 x6, (rs = [SV.agg [I x1, I x2, I x3, I x4, I x5, I x6]]) ∧ ∃ Inv : Bool → Int → Prop, ∃ m : Bool → Int → Nat, (Inv false 0) ∧ ∀ b x7, (Inv b x7) → ifB (ilt x7 3) ((((0 : Int) ≤ x7) ∧ x7 < 3) ∧ ((x7 = (0 : Int)) → (((0 : Int) ≤ x7) ∧ x7 < 3) ∧ ((x7 = (0 : Int)) → ifB (ilt x x1) (Q [B false]) ((((0 : Int) ≤ x7) ∧ x7 < 3) ∧ ((x7 = (0 : Int)) → ifB (bpick false true (igt x x2)) (Q [B false]) ((Sm (some ([[I x, I y, I z], [I s, I a, I k, S c, I x, I y, I z]]))) ∧ (Inv b (wadd .i64 x7 1)) ∧ Nat.le (Nat.succ (m b (wadd .i64 x7 1))) (m b x7))) ∧ ((x7 = (1 : Int)) → ifB (bpick false true (igt y x2)) (Q [B false]) ((Sm (some ([[I x, I y, I z], [I s, I a, I k, S c, I x, I y, I z]]))) ∧ (Inv b (wadd .i64 x7 1)) ∧ Nat.le (Nat.succ (m b (wadd .i64 x7 1))) (m b x7))) ∧ ((x7 = (2 : Int)) → ifB (bpick false true (igt z x2)) (Q [B false]) ((Sm (some ([[I x, I y, I z], [I s, I a, I k, S c, I x, I y, I z]]))) ∧ (Inv b (wadd .i64 x7 1)) ∧ Nat.le (Nat.succ (m b (wadd .i64 x7 1))) (m b x7))) ∧ True)) ∧ ((x7 = (1 : Int)) → ifB (ilt y x1) (Q [B false]) ((((0 : Int) ≤ x7) ∧ x7 < 3) ∧ ((x7 = (0 : Int)) → ifB (bpick false true (igt x x2)) (Q [B false]) ((Sm (some ([[I x, I y, I z], [I s, I a, I k, S c, I x, I y, I z]]))) ∧ (Inv b (wadd .i64 x7 1)) ∧ Nat.le (Nat.succ (m b (wadd .i64 x7 1))) (m b x7))) ∧ ((x7 = (1 : Int)) → ifB (bpick false true (igt y x2)) (Q [B false]) ((Sm (some ([[I x, I y, I z], [I s, I a, I k, S c, I x, I y, I z]]))) ∧ (Inv b (wadd .i64 x7 1)) ∧ Nat.le (Nat.succ (m b (wadd .i64 x7 1))) (m b x7))) ∧ ((x7 = (2 : Int)) → ifB (bpick false true (igt z x2)) (Q [B false]) ((Sm (some ([[I x, I y, I z], [I s, I a, I k, S c, I x, I y, I z]]))) ∧ (Inv b (wadd .i64 x7 1)) ∧ Nat.le (Nat.succ (m b (wadd .i64 x7 1))) (m b x7))) ∧ True)) ∧ ((x7 = (2 : Int)) → ifB (ilt z x1) (Q [B false]) ((((0 : Int) ≤ x7) ∧ x7 < 3) ∧ ((x7 = (0 : Int)) → ifB (bpick false true (igt x x2)) (Q [B false]) ((Sm (some ([[I x, I y, I z], [I s, I a, I k, S c, I x, I y, I z]]))) ∧ (Inv b (wadd .i64 x7 1)) ∧ Nat.le (Nat.succ (m b (wadd .i64 x7 1))) (m b x7))) ∧ ((x7 = (1 : Int)) → ifB (bpick false true (igt y x2)) (Q [B false]) ((Sm (some ([[I x, I y, I z], [I s, I a, I k, S c, I x, I y, I z]]))) ∧ (Inv b (wadd .i64 x7 1)) ∧ Nat.le (Nat.succ (m b (wadd .i64 x7 1))) (m b x7))) ∧ ((x7 = (2 : Int)) → ifB (bpick false true (igt z x2)) (Q [B false]) ((Sm (some ([[I x, I y, I z], [I s, I a, I k, S c, I x, I y, I z]]))) ∧ (Inv b (wadd .i64 x7 1)) ∧ Nat.le (Nat.succ (m b (wadd .i64 x7 1))) (m b x7))) ∧ True)) ∧ True) ∧ ((x7 = (1 : Int)) → (((0 : Int) ≤ x7) ∧ x7 < 3) ∧ ((x7 = (0 : Int)) → ifB (ilt x x3) (Q [B false]) ((((0 : Int) ≤ x7) ∧ x7 < 3) ∧ ((x7 = (0 : Int)) → ifB (bpick false true (igt x x4)) (Q [B false]) ((Sm (some ([[I x, I y, I z], [I s, I a, I k, S c, I x, I y, I z]]))) ∧ (Inv b (wadd .i64 x7 1)) ∧ Nat.le (Nat.succ (m b (wadd .i64 x7 1))) (m b x7))) ∧ ((x7 = (1 : Int)) → ifB (bpick false true (igt y x4)) (Q [B false]) ((Sm (some ([[I x, I y, I z], [I s, I a, I k, S c, I x, I y, I z]]))) ∧ (Inv b (wadd .i64 x7 1)) ∧ Nat.le (Nat.succ (m b (wadd .i64 x7 1))) (m b x7))) ∧ ((x7 = (2 : Int)) → ifB (bpick false true (igt z x4)) (Q [B false]) ((Sm (some ([[I x, I y, I z], [I s, I a, I k, S c, I x, I y, I z]]))) ∧ (Inv b (wadd .i64 x7 1)) ∧ Nat.le (Nat.succ (m b (wadd .i64 x7 1))) (m b x7))) ∧ True)) ∧ ((x7 = (1 : Int)) → ifB (ilt y x3) (Q [B false]) ((((0 : Int) ≤ x7) ∧ x7 < 3) ∧ ((x7 = (0 : Int)) → ifB (bpick false true (igt x x4)) (Q [B false]) ((Sm (some ([[I x, I y, I z], [I s, I a, I k, S c, I x, I y, I z]]))) ∧ (Inv b (wadd .i64 x7 1)) ∧ Nat.le (Nat.succ (m b (wadd .i64 x7 1))) (m b x7))) ∧ ((x7 = (1 : Int)) → ifB (bpick false true (igt y x4)) (Q [B false]) ((Sm (some ([[I x, I y, I z], [I s, I a, I k, S c, I x, I y, I z]]))) ∧ (Inv b (wadd .i64 x7 1)) ∧ Nat.le (Nat.succ (m b (wadd .i64 x7 1))) (m b x7))) ∧ ((x7 = (2 : Int)) → ifB (bpick false true (igt z x4)) (Q [B false]) ((Sm (some ([[I x, I y, I z], [I s, I a, I k, S c, I x, I y, I z]]))) ∧ (Inv b (wadd .i64 x7 1)) ∧ Nat.le (Nat.succ (m b (wadd .i64 x7 1))) (m b x7))) ∧ True)) ∧ ((x7 = (2 : Int)) → ifB (ilt z x3) (Q [B false]) ((((0 : Int) ≤ x7) ∧ x7 < 3) ∧ ((x7 = (0 : Int)) → ifB (bpick false true (igt x x4)) (Q [B false]) ((Sm (some ([[I x, I y, I z], [I s, I a, I k, S c, I x, I y, I z]]))) ∧ (Inv b (wadd .i64 x7 1)) ∧ Nat.le (Nat.succ (m b (wadd .i64 x7 1))) (m b x7))) ∧ ((x7 = (1 : Int)) → ifB (bpick false true (igt y x4)) (Q [B false]) ((Sm (some ([[I x, I y, I z], [I s, I a, I k, S c, I x, I y, I z]]))) ∧ (Inv b (wadd .i64 x7 1)) ∧ Nat.le (Nat.succ (m b (wadd .i64 x7 1))) (m b x7))) ∧ ((x7 = (2 : Int)) → ifB (bpick false true (igt z x4)) (Q [B false]) ((Sm (some ([[I x, I y, I z], [I s, I a, I k, S c, I x, I y, I z]]))) ∧ (Inv b (wadd .i64 x7 1)) ∧ Nat.le (Nat.succ (m b (wadd .i64 x7 1))) (m b x7))) ∧ True)) ∧ True) ∧ ((x7 = (2 : Int)) → (((0 : Int) ≤ x7) ∧ x7 < 3) ∧ ((x7 = (0 : Int)) → ifB (ilt x x5) (Q [B false]) ((((0 : Int) ≤ x7) ∧ x7 < 3) ∧ ((x7 = (0 : Int)) → ifB (bpick false true (igt x x6)) (Q [B false]) ((Sm (some ([[I x, I y, I z], [I s, I a, I k, S c, I x, I y, I z]]))) ∧ (Inv b (wadd .i64 x7 1)) ∧ Nat.le (Nat.succ (m b (wadd .i64 x7 1))) (m b x7))) ∧ ((x7 = (1 : Int)) → ifB (bpick false true (igt y x6)) (Q [B false]) ((Sm (some ([[I x, I y, I z], [I s, I a, I k, S c, I x, I y, I z]]))) ∧ (Inv b (wadd .i64 x7 1)) ∧ Nat.le (Nat.succ (m b (wadd .i64 x7 1))) (m b x7))) ∧ ((x7 = (2 : Int)) → ifB (bpick false true (igt z x6)) (Q [B false]) ((Sm (some ([[I x, I y, I z], [I s, I a, I k, S c, I x, I y, I z]]))) ∧ (Inv b (wadd .i64 x7 1)) ∧ Nat.le (Nat.succ (m b (wadd .i64 x7 1))) (m b x7))) ∧ True)) ∧ ((x7 = (1 : Int)) → ifB (ilt y x5) (Q [B false]) ((((0 : Int) ≤ x7) ∧ x7 < 3) ∧ ((x7 = (0 : Int)) → ifB (bpick false true (igt x x6)) (Q [B false]) ((Sm (some ([[I x, I y, I z], [I s, I a, I k, S c, I x, I y, I z]]))) ∧ (Inv b (wadd .i64 x7 1)) ∧ Nat.le (Nat.succ (m b (wadd .i64 x7 1))) (m b x7))) ∧ ((x7 = (1 : Int)) → ifB (bpick false true (igt y x6)) (Q [B false]) ((Sm (some ([[I x, I y, I z], [I s, I a, I k, S c, I x, I y, I z]]))) ∧ (Inv b (wadd .i64 x7 1)) ∧ Nat.le (Nat.succ (m b (wadd .i64 x7 1))) (m b x7))) ∧ ((x7 = (2 : Int)) → ifB (bpick false true (igt z x6)) (Q [B false]) ((Sm (some ([[I x, I y, I z], [I s, I a, I k, S c, I x, I y, I z]]))) ∧ (Inv b (wadd .i64 x7 1)) ∧ Nat.le (Nat.succ (m b (wadd .i64 x7 1))) (m b x7))) ∧ True)) ∧ ((x7 = (2 : Int)) → ifB (ilt z x5) (Q [B false]) ((((0 : Int) ≤ x7) ∧ x7 < 3) ∧ ((x7 = (0 : Int)) → ifB (bpick false true (igt x x6)) (Q [B false]) ((Sm (some ([[I x, I y, I z], [I s, I a, I k, S c, I x, I y, I z]]))) ∧ (Inv b (wadd .i64 x7 1)) ∧ Nat.le (Nat.succ (m b (wadd .i64 x7 1))) (m b x7))) ∧ ((x7 = (1 : Int)) → ifB (bpick false true (igt y x6)) (Q [B false]) ((Sm (some ([[I x, I y, I z], [I s, I a, I k, S c, I x, I y, I z]]))) ∧ (Inv b (wadd .i64 x7 1)) ∧ Nat.le (Nat.succ (m b (wadd .i64 x7 1))) (m b x7))) ∧ ((x7 = (2 : Int)) → ifB (bpick false true (igt z x6)) (Q [B false]) ((Sm (some ([[I x, I y, I z], [I s, I a, I k, S c, I x, I y, I z]]))) ∧ (Inv b (wadd .i64 x7 1)) ∧ Nat.le (Nat.succ (m b (wadd .i64 x7 1))) (m b x7))) ∧ True)) ∧ True) ∧ True) (Q [B true]))) : Ct Tryz.prog 178 {} [ev7 s a k c x y z] Q :=
 fn_of (f := 178) SgT SvT (fun _ => none) Tryz.f178 Tryz.func178 (by kernel_rfl) (by kernel_rfl) h

theorem check_nf (s a k : Int) (c : ByteArray) (x y z : Int) (Q : List SV → Prop) (h : Cl Tryz.prog 177 sP [I k] (fun rs => ∃ x1, (rs = [I x1]) ∧ ifB (ieq x1 0) (Q [I 2]) (Cl Tryz.prog 107 sP [S c] (fun rs1 => ∃ b, (rs1 = [B b]) ∧ ifB (bnot b) (Q [I 3]) (Cl Tryz.prog 178 sP ([SV.agg [I s, I a, I k, S c, I x, I y, I z]]) (fun rs2 => ∃ b1, (rs2 = [B b1]) ∧ ifB (bnot b1) (Q [I 4]) (ifB (bpick (ilt a 0) true (igt a 1099511627776)) (Q [I 5]) (ifB (bpick (ilt s 0) true (igt s 4294967296)) (Q [I 1]) (Q [I 0]))))))))) : Ct Tryz.prog 130 {} [ev7 s a k c x y z] Q :=
 fn_of (f := 130) SgT SvT (fun _ => none) Tryz.f130 Tryz.func130 (by kernel_rfl) (by kernel_rfl) h


def manyI (k : Int) : Int := if k < 1 ∨ 10 < k then 0 else if k = 2 then 3 else if k = 3 then 2 else 1
def roleI (k : Int) : Int := if k = 1 ∨ k = 2 then 0 else if k = 3 ∨ k = 4 then 1 else if k = 5 ∨ k = 6 ∨ k = 7 then 2 else if k = 8 ∨ k = 9 ∨ k = 10 then 3 else -1
def lo1 (k : Int) : Int := if k = 1 ∨ k = 8 ∨ k = 10 then 1 else 0
def hi1 (k : Int) : Int := if k = 1 then 3 else if k = 3 ∨ k = 4 then 2 else 2147483647
def hi2 (k : Int) : Int := if k = 2 ∨ k = 3 then 2147483647 else 0
def hi3 (k : Int) : Int := if k = 2 then 2147483647 else 0
def valB (k x y z : Int) : Bool := decide (lo1 k ≤ x ∧ x ≤ hi1 k ∧ 0 ≤ y ∧ y ≤ hi2 k ∧ 0 ≤ z ∧ z ≤ hi3 k)
def someB (n : Int) : Bool := decide (0 ≤ n ∧ n ≤ 2147483647)
def namB (c : ByteArray) : Bool := decide (1 ≤ c.size ∧ c.size ≤ 24)
def chkI (s a k : Int) (c : ByteArray) (x y z : Int) : Int :=
 if manyI k = 0 then 2 else if namB c = false then 3 else if valB k x y z = false then 4 else if a < 0 ∨ 1099511627776 < a then 5 else if s < 0 ∨ 4294967296 < s then 1 else 0

theorem ifB_iff {b : Bool} {x y : Prop} : ifB b x y ↔ ((b = true → x) ∧ (b = false → y)) := by
 cases b <;> simp [ifB]

theorem ifB_p {p : Prop} [Decidable p] {x y : Prop} : ifB (decide p) x y ↔ (if p then x else y) := by
 by_cases h : p <;> simp [h, ifB]

theorem mlt {a b : Nat} (h : a < b) : Nat.le (Nat.succ a) b := h
theorem bor_t {a b : Bool} : bpick a true b = true ↔ a = true ∨ b = true := by cases a <;> simp
theorem bor_f {a b : Bool} : bpick a true b = false ↔ a = false ∧ b = false := by cases a <;> simp
theorem named_fn (c : ByteArray) : Ct Tryz.prog 107 {} [S c] (fun r => r = [B (namB c)]) := by
 refine named_nf _ _ ?_
 have : (bpick (ige (slen c) 1) (ile (slen c) 24) false) = namB c := by
  rw [Bool.eq_iff_iff]; simp [namB]; omega
 rw [this]

theorem many_eq (k : Int) : ifB (bpick (ilt k 1) true (igt k 10)) (([I 0] : List SV) = [I (manyI k)]) (ifB (ieq k 2) (([I 3] : List SV) = [I (manyI k)]) (ifB (ieq k 3) (([I 2] : List SV) = [I (manyI k)]) (([I 1] : List SV) = [I (manyI k)]))) := by
 refine ifB_intro (fun h => ?_) (fun h => ?_)
 ·simp at h
  have : k < 1 ∨ 10 < k := by omega
  simp [manyI, this]
 ·simp at h
  have h0 : ¬ (k < 1 ∨ 10 < k) := by omega
  refine ifB_intro (fun h => ?_) (fun h => ?_)
  ·simp at h; simp [manyI, h]
  ·simp at h
   refine ifB_intro (fun h2 => ?_) (fun h2 => ?_)
   ·simp at h2; simp [manyI, h2]
   ·simp at h2; simp [manyI, h, h2, h0]

theorem many_fn (k : Int) : Ct Tryz.prog 177 {} [I k] (fun r => r = [I (manyI k)]) := many_nf _ _ (many_eq k)
theorem bounds_fn (k : Int) : Ct Tryz.prog 206 {} [I k] (fun r => r = [.agg [I (lo1 k), I (hi1 k), I 0, I (hi2 k), I 0, I (hi3 k)]]) := by
 refine bounds_nf _ _ ?_
 simp only [ieq_eq, ifB_p]
 repeat' split
 all_goals (subst_vars; simp_all [lo1, hi1, hi2, hi3])

theorem within_fn (s a k : Int) (c : ByteArray) (x y z : Int) : Ct Tryz.prog 178 {} [ev7 s a k c x y z] (fun r => r = [B (valB k x y z)]) := by
 refine within_nf _ _ _ _ _ _ _ _ (Cl.of (bounds_fn k) ⟨_, _, _, _, _, _, rfl, ?_⟩)
 refine ⟨fun _ i => 0 ≤ i ∧ i ≤ 3 ∧ (1 ≤ i → lo1 k ≤ x ∧ x ≤ hi1 k) ∧ (2 ≤ i → 0 ≤ y ∧ y ≤ hi2 k) ∧ (3 ≤ i → 0 ≤ z ∧ z ≤ hi3 k), fun _ i => (3 - i).toNat, by omega, fun b i hi => ?_⟩
 obtain ⟨h0, h3, g1, g2, g3⟩ := hi
 refine ifB_intro (fun h => ?_) (fun h => ?_)
 ·simp at h
  have w : wadd IntKind.i64 i 1 = i + 1 := wadd_i64 (by omega) (by omega)
  have hc : i = 0 ∨ i = 1 ∨ i = 2 := by omega
  have vf : (lo1 k ≤ x ∧ x ≤ hi1 k ∧ 0 ≤ y ∧ y ≤ hi2 k ∧ 0 ≤ z ∧ z ≤ hi3 k → False) → [B false] = [B (valB k x y z)] := fun hn => by
   have : valB k x y z = false := by simpa [valB] using hn
   rw [this]
  rw [w]
  simp only [ifB_iff, ilt_eq, igt_eq, bpick_eq, decide_eq_true_eq, decide_eq_false_iff_not, Bool.false_eq_true, if_false]
  rcases hc with rfl | rfl | rfl
  ·simp only [true_and, forall_const, and_true, Int.reduceLT, Int.reduceEq, false_implies, Int.reduceLE]
   refine ⟨fun h => vf (by omega), fun h => ⟨fun h' => vf (by omega), fun h' => ⟨by omega, mlt (by omega)⟩⟩⟩
  ·simp only [true_and, forall_const, and_true, Int.reduceLT, Int.reduceEq, false_implies, Int.reduceLE]
   refine ⟨fun h => vf (by omega), fun h => ⟨fun h' => vf (by omega), fun h' => ⟨by omega, mlt (by omega)⟩⟩⟩
  ·simp only [true_and, forall_const, and_true, Int.reduceLT, Int.reduceEq, false_implies, Int.reduceLE]
   refine ⟨fun h => vf (by omega), fun h => ⟨fun h' => vf (by omega), fun h' => ⟨by omega, mlt (by omega)⟩⟩⟩
 ·simp at h
  have : valB k x y z = true := by simp [valB]; omega
  simp [this]

theorem many0 (k : Int) : manyI k = 0 ↔ k < 1 ∨ 10 < k := by
 unfold manyI; repeat' split
 all_goals simp_all

theorem check_fn (s a k : Int) (c : ByteArray) (x y z : Int) : Ct Tryz.prog 130 {} [ev7 s a k c x y z] (fun r => r = [I (chkI s a k c x y z)]) := by
 refine check_nf _ _ _ _ _ _ _ _ (Cl.of (many_fn k) ⟨_, rfl, ifB_intro (fun h => ?_) (fun h => ?_)⟩)
 ·simp at h; simp [chkI, h]
 ·simp at h
  refine Cl.of (named_fn c) ⟨_, rfl, ifB_intro (fun h1 => ?_) (fun h1 => ?_)⟩
  ·simp at h1; simp [chkI, h, h1]
  ·simp at h1
   refine Cl.of (within_fn s a k c x y z) ⟨_, rfl, ifB_intro (fun h2 => ?_) (fun h2 => ?_)⟩
   ·simp at h2; simp [chkI, h, h1, h2]
   ·simp at h2
    refine ifB_intro (fun h3 => ?_) (fun h3 => ?_)
    ·simp at h3
     have : a < 0 ∨ 1099511627776 < a := by omega
     simp [chkI, h, h1, h2, this]
    ·simp at h3
     have h3 : ¬ (a < 0 ∨ 1099511627776 < a) := by omega
     refine ifB_intro (fun h4 => ?_) (fun h4 => ?_)
     ·simp at h4
      have : s < 0 ∨ 4294967296 < s := by omega
      simp [chkI, h, h1, h2, h3, this]
     ·simp at h4
      have h4 : ¬ (s < 0 ∨ 4294967296 < s) := by omega
      simp [chkI, h, h1, h2, h3, h4]

def numL (k x y z : Int) : List (List SV) := rsub [[I x], [I y], [I z]] 0 (manyI k)

def nAt (rows : List (List SV)) (i : Nat) : Int :=
 match rows[i]? with
 | some [.val (.int _ n)] => n
 | _ => 0

def Ints (rows : List (List SV)) : Prop := ∀ r ∈ rows, ∃ n : Int, r = [I n]

theorem Ints.get {rows : List (List SV)} (h : Ints rows) {i : Nat} (hi : i < rows.length) (j : Int) (hj : j = (i : Int)) : rget rows j = [I (nAt rows i)] := by
 obtain ⟨n, hn⟩ := h rows[i] (List.getElem_mem hi)
 subst hj
 have : rows[i]? = some [I n] := by rw [List.getElem?_eq_getElem hi, hn]
 simp [rget, nAt, this]

theorem chk0 {s a k : Int} {c : ByteArray} {x y z : Int} (h : chkI s a k c x y z = 0) : manyI k ≠ 0 ∧ namB c = true ∧ valB k x y z = true ∧ ¬ (a < 0 ∨ 1099511627776 < a) ∧ ¬ (s < 0 ∨ 4294967296 < s) := by
 unfold chkI at h
 split at h
 ·simp at h
 split at h
 ·simp at h
 split at h
 ·simp at h
 split at h
 ·simp at h
 split at h
 ·simp at h
 simp_all

end Go.Proofs.YtknnooannohflaaGreatDoor

namespace Go.Px
set_option linter.unusedVariables false

def leb (n : Nat) : List Int := if n < 128 then [(n : Int)] else ((n % 128 + 128 : Nat) : Int) :: leb (n / 128)
termination_by n
decreasing_by omega

def ofB : List Int → Nat
 | [] => 0
 | x :: l => ofB l * 128 + (x % 128).toNat


theorem toList_iff (a b : ByteArray) : a.toList = b.toList ↔ a = b := by
 rw [ByteArray.toList_eq, ByteArray.toList_eq]
 constructor
 ·intro h
  cases a; cases b
  simp only [Array.toList_inj] at h
  rw [h]
 ·rintro rfl; rfl
theorem seq_d (a b : ByteArray) : seq a b = decide (a = b) := by
 rw [seq_eq, Bool.eq_iff_iff]; simp [toList_iff]
theorem sne_d (a b : ByteArray) : sne a b = !decide (a = b) := by
 rw [sne_eq, ← seq_eq, seq_d]

abbrev nR (l : List ByteArray) : List (List SV) := l.map fun s => [S s]
abbrev bR (l : List Int) : List (List SV) := l.map fun n => [U8 n]

def nmAt (l : List ByteArray) (i : Int) : ByteArray := l.getD i.toNat ByteArray.empty

def plc : List ByteArray → ByteArray → Nat
 | [], _ => 0
 | a :: l, s => if a = s then 1 else if plc l s = 0 then 0 else plc l s + 1

theorem plc_zero {l : List ByteArray} {s : ByteArray} : plc l s = 0 ↔ s ∉ l := by
 induction l with
 | nil => simp [plc]
 | cons a l ih =>
  simp only [plc, List.mem_cons, not_or]
  by_cases h : a = s
  ·simp [h]
  ·have : ¬ s = a := fun e => h e.symm
   simp only [h, if_false, this, not_false_eq_true, true_and]
   rw [← ih]
   split <;> simp_all

theorem plc_snoc (l : List ByteArray) (a s : ByteArray) : plc (l ++ [a]) s = if plc l s ≠ 0 then plc l s else if a = s then l.length + 1 else 0 := by
 induction l with
 | nil => simp [plc]
 | cons b l ih =>
  simp only [List.cons_append, plc, ih]
  by_cases h : b = s
  ·simp [h]
  ·simp only [h, if_false]
   by_cases h2 : plc l s = 0
   ·by_cases h3 : a = s <;> simp [h2, h3]
   ·simp [h2]

def nmB (c : ByteArray) : Bool := decide (1 ≤ c.size ∧ c.size ≤ 24)
def rgtB (l : List ByteArray) : Bool := decide (l.length ≤ 32 ∧ (∀ s ∈ l, nmB s = true) ∧ l.Nodup)

structure Plcs (l : List ByteArray) (es : List (ByteArray × Int)) : Prop where
 le : es.length ≤ l.length
 nd : es.length = l.length ↔ l.Nodup
 has : ∀ s, mhas es s = true ↔ s ∈ l
 get : ∀ s, mget es s = plc l s

theorem Plcs.nil : Plcs [] [] := ⟨by simp, by simp, by simp [mhas], by simp [mget, plc]⟩

theorem mset_new {es : List (ByteArray × Int)} {k : ByteArray} {n : Int} (h : mhas es k = false) : mset es k n = es ++ [(k, n)] := by
 unfold mset
 induction es with
 | nil => rfl
 | cons e es ih =>
  simp only [mhas, List.any_cons, Bool.or_eq_false_iff, decide_eq_false_iff_not] at h
  simp only [msetR, h.1, if_false, List.cons_append]
  rw [ih (by simpa [mhas] using h.2)]

theorem Plcs.old {l : List ByteArray} {es : List (ByteArray × Int)} (h : Plcs l es) {a : ByteArray} (ha : mhas es a = true) : Plcs (l ++ [a]) es := by
 have hm := (h.has a).1 ha
 refine ⟨by have := h.le; simp; omega, ?_, fun s => ?_, fun s => ?_⟩
 ·have := h.le
  simp only [List.length_append, List.length_cons, List.length_nil]
  constructor
  ·intro e; omega
  ·intro hn
   rw [List.nodup_append] at hn
   exact absurd rfl (hn.2.2 a hm a (by simp))
 ·rw [h.has s]; simp only [List.mem_append, List.mem_singleton]
  exact ⟨.inl, fun e => e.elim id (fun e => e ▸ hm)⟩
 ·rw [h.get s, plc_snoc]
  by_cases hp : plc l s = 0
  ·have : a ≠ s := fun e => (plc_zero.1 hp) (e ▸ hm)
   simp [hp, this]
  ·simp [hp]

theorem Plcs.new {l : List ByteArray} {es : List (ByteArray × Int)} (h : Plcs l es) {a : ByteArray} (ha : mhas es a = false) {n : Int} (hn : n = l.length + 1) : Plcs (l ++ [a]) (mset es a n) := by
 have hm : a ∉ l := fun e => by rw [(h.has a).2 e] at ha; cases ha
 rw [mset_new ha]
 refine ⟨by have := h.le; simp; omega, ?_, fun s => ?_, fun s => ?_⟩
 ·simp only [List.length_append, List.length_cons, List.length_nil, Nat.add_right_cancel_iff]
  rw [h.nd, List.nodup_append]
  simp only [List.nodup_cons, List.not_mem_nil, not_false_eq_true, List.nodup_nil, and_self, true_and, List.mem_cons, or_false]
  exact ⟨fun e => ⟨e, fun x hx b hb e2 => hm (by rw [← hb, ← e2]; exact hx)⟩, fun e => e.1⟩
 ·have hs := h.has s
  simp only [mhas, List.any_append, List.any_cons, List.any_nil, Bool.or_false, Bool.or_eq_true, decide_eq_true_eq, List.mem_append, List.mem_singleton] at hs ⊢
  rw [hs]
  exact or_congr Iff.rfl ⟨fun e => e.symm, fun e => e.symm⟩
 ·have hg := h.get s
  rw [plc_snoc]
  by_cases hp : plc l s = 0
  ·have hns : mhas es s = false := by
    cases e : mhas es s with
    | false => rfl
    | true => exact absurd ((h.has s).1 e) (plc_zero.1 hp)
   have hf : es.find? (fun e => decide (e.1 = s)) = none := by
    rw [List.find?_eq_none]
    intro e he hd
    simp only [mhas, List.any_eq_false] at hns
    exact hns e he hd
   simp only [mget, List.find?_append, hf, Option.none_or, hp, ne_eq, not_true_eq_false, if_false]
   by_cases hs : a = s
   ·subst hs; simp; omega
   ·simp [hs]
  ·simp only [hp, ne_eq, not_false_eq_true, if_true]
   rw [← hg]
   have hns : mhas es s = true := (h.has s).2 (by rw [plc_zero] at hp; exact Classical.not_not.1 hp)
   simp only [mhas, List.any_eq_true] at hns
   obtain ⟨x, hx, hd⟩ := hns
   simp only [mget, List.find?_append]
   cases hf : es.find? (fun e => decide (e.1 = s)) with
   | none => exact absurd hd (List.find?_eq_none.1 hf x hx)
   | some y => simp

end Go.Px

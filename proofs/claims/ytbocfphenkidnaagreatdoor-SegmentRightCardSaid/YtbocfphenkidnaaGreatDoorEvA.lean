/- Layer 5: what the functions of package event, and of its reference, do with plain data. -/
import Derived.Test.YtbocfphenkidnaaGreatDoorPxK
import Derived.Test.YtbocfphenkidnaaGreatDoorProg
namespace Go.Proofs.YtbocfphenkidnaaGreatDoor
open Go Go.Px Go.Proofs
set_option maxRecDepth 100000
set_option linter.unusedVariables false

def SgT : FuncId → Sig := fun _ => {}
def SvT : TypeId → Sig := fun _ => {}
abbrev ev7 (s a k : Int) (c : ByteArray) (x y z : Int) : SV := .agg [I s, I a, I k, S c, I x, I y, I z]

theorem some_nf (n : Int) (Q : List SV → Prop) (h : Q [B (bpick (ige n 0) (ile n 2147483647) false)]) : Ct Tryz.prog 236 {} [I n] Q :=
  fn_of (f := 236) SgT SvT (fun _ => none) Tryz.f236 Tryz.func236 (by kernel_rfl) (by kernel_rfl) h

theorem many_nf (k : Int) (Q : List SV → Prop) (h : ifB (bpick (ilt k 1) true (igt k 10)) (Q [I 0]) (ifB (ieq k 2) (Q [I 3]) (ifB (ieq k 3) (Q [I 2]) (Q [I 1])))) : Ct Tryz.prog 183 {} [I k] Q :=
  fn_of (f := 183) SgT SvT (fun _ => none) Tryz.f183 Tryz.func183 (by kernel_rfl) (by kernel_rfl) h

theorem rmany_nf (k : Int) (Q : List SV → Prop) (h : ifB (bpick (ilt k 1) true (igt k 10)) (Q [I 0]) (ifB (ieq k 2) (Q [I 3]) (ifB (ieq k 3) (Q [I 2]) (Q [I 1])))) : Ct Tryz.prog 132 {} [I k] Q :=
  fn_of (f := 132) SgT SvT (fun _ => none) Tryz.f132 Tryz.func132 (by kernel_rfl) (by kernel_rfl) h

theorem named_nf (c : ByteArray) (Q : List SV → Prop) (h : Q [B (bpick (ige (slen c) 1) (ile (slen c) 24) false)]) : Ct Tryz.prog 169 {} [S c] Q :=
  fn_of (f := 169) SgT SvT (fun _ => none) Tryz.f169 Tryz.func169 (by kernel_rfl) (by kernel_rfl) h

theorem bounds_nf (k : Int) (Q : List SV → Prop) (h : ifB (ieq k 1) (Q ([SV.agg [I 1, I 3, I 0, I 0, I 0, I 0]])) (ifB (ieq k 2) (Q ([SV.agg [I 0, I 2147483647, I 0, I 2147483647, I 0, I 2147483647]])) (ifB (ieq k 3) (Q ([SV.agg [I 0, I 2, I 0, I 2147483647, I 0, I 0]])) (ifB (ieq k 4) (Q ([SV.agg [I 0, I 2, I 0, I 0, I 0, I 0]])) (ifB (ieq k 8) (ifB (ieq k 8) (Q ([SV.agg [I 1, I 2147483647, I 0, I 0, I 0, I 0]])) (Q ([SV.agg [I 0, I 2147483647, I 0, I 0, I 0, I 0]]))) (ifB (ieq k 10) (Q ([SV.agg [I 1, I 2147483647, I 0, I 0, I 0, I 0]])) (Q ([SV.agg [I 0, I 2147483647, I 0, I 0, I 0, I 0]])))))))) : Ct Tryz.prog 217 {} [I k] Q :=
  fn_of (f := 217) SgT SvT (fun _ => none) Tryz.f217 Tryz.func217 (by kernel_rfl) (by kernel_rfl) h

theorem within_nf (s a k : Int) (c : ByteArray) (x y z : Int) (Q : List SV → Prop) (h : Cl Tryz.prog 217 sP [I k] (fun (rs : List SV) => ∃ x1 : Int, ∃ x2 : Int, ∃ x3 : Int, ∃ x4 : Int, ∃ x5 : Int, ∃ x6 : Int, (rs = [SV.agg [I x1, I x2, I x3, I x4, I x5, I x6]]) ∧ (∃ Inv : Bool → Int → Prop, ∃ m : Bool → Int → Nat, (Inv false 0) ∧ (∀ b : Bool, ∀ x7 : Int, (Inv b x7) → ifB (ilt x7 3) ((((0 : Int) ≤ x7) ∧ (x7 < ((3 : Int)))) ∧ (((x7 = (0 : Int)) → (((0 : Int) ≤ x7) ∧ (x7 < ((3 : Int)))) ∧ (((x7 = (0 : Int)) → ifB (ilt x x1) (Q [B false]) ((((0 : Int) ≤ x7) ∧ (x7 < ((3 : Int)))) ∧ (((x7 = (0 : Int)) → ifB (bpick false true (igt x x2)) (Q [B false]) ((Option.some ([[I x, I y, I z], [I s, I a, I k, S c, I x, I y, I z]]) = Option.some ([[I x, I y, I z], [I s, I a, I k, S c, I x, I y, I z]])) ∧ ((Inv b (wadd IntKind.i64 x7 1)) ∧ (Nat.le (Nat.succ (m b (wadd IntKind.i64 x7 1))) (m b x7))))) ∧ (((x7 = (1 : Int)) → ifB (bpick false true (igt y x2)) (Q [B false]) ((Option.some ([[I x, I y, I z], [I s, I a, I k, S c, I x, I y, I z]]) = Option.some ([[I x, I y, I z], [I s, I a, I k, S c, I x, I y, I z]])) ∧ ((Inv b (wadd IntKind.i64 x7 1)) ∧ (Nat.le (Nat.succ (m b (wadd IntKind.i64 x7 1))) (m b x7))))) ∧ (((x7 = (2 : Int)) → ifB (bpick false true (igt z x2)) (Q [B false]) ((Option.some ([[I x, I y, I z], [I s, I a, I k, S c, I x, I y, I z]]) = Option.some ([[I x, I y, I z], [I s, I a, I k, S c, I x, I y, I z]])) ∧ ((Inv b (wadd IntKind.i64 x7 1)) ∧ (Nat.le (Nat.succ (m b (wadd IntKind.i64 x7 1))) (m b x7))))) ∧ True))))) ∧ (((x7 = (1 : Int)) → ifB (ilt y x1) (Q [B false]) ((((0 : Int) ≤ x7) ∧ (x7 < ((3 : Int)))) ∧ (((x7 = (0 : Int)) → ifB (bpick false true (igt x x2)) (Q [B false]) ((Option.some ([[I x, I y, I z], [I s, I a, I k, S c, I x, I y, I z]]) = Option.some ([[I x, I y, I z], [I s, I a, I k, S c, I x, I y, I z]])) ∧ ((Inv b (wadd IntKind.i64 x7 1)) ∧ (Nat.le (Nat.succ (m b (wadd IntKind.i64 x7 1))) (m b x7))))) ∧ (((x7 = (1 : Int)) → ifB (bpick false true (igt y x2)) (Q [B false]) ((Option.some ([[I x, I y, I z], [I s, I a, I k, S c, I x, I y, I z]]) = Option.some ([[I x, I y, I z], [I s, I a, I k, S c, I x, I y, I z]])) ∧ ((Inv b (wadd IntKind.i64 x7 1)) ∧ (Nat.le (Nat.succ (m b (wadd IntKind.i64 x7 1))) (m b x7))))) ∧ (((x7 = (2 : Int)) → ifB (bpick false true (igt z x2)) (Q [B false]) ((Option.some ([[I x, I y, I z], [I s, I a, I k, S c, I x, I y, I z]]) = Option.some ([[I x, I y, I z], [I s, I a, I k, S c, I x, I y, I z]])) ∧ ((Inv b (wadd IntKind.i64 x7 1)) ∧ (Nat.le (Nat.succ (m b (wadd IntKind.i64 x7 1))) (m b x7))))) ∧ True))))) ∧ (((x7 = (2 : Int)) → ifB (ilt z x1) (Q [B false]) ((((0 : Int) ≤ x7) ∧ (x7 < ((3 : Int)))) ∧ (((x7 = (0 : Int)) → ifB (bpick false true (igt x x2)) (Q [B false]) ((Option.some ([[I x, I y, I z], [I s, I a, I k, S c, I x, I y, I z]]) = Option.some ([[I x, I y, I z], [I s, I a, I k, S c, I x, I y, I z]])) ∧ ((Inv b (wadd IntKind.i64 x7 1)) ∧ (Nat.le (Nat.succ (m b (wadd IntKind.i64 x7 1))) (m b x7))))) ∧ (((x7 = (1 : Int)) → ifB (bpick false true (igt y x2)) (Q [B false]) ((Option.some ([[I x, I y, I z], [I s, I a, I k, S c, I x, I y, I z]]) = Option.some ([[I x, I y, I z], [I s, I a, I k, S c, I x, I y, I z]])) ∧ ((Inv b (wadd IntKind.i64 x7 1)) ∧ (Nat.le (Nat.succ (m b (wadd IntKind.i64 x7 1))) (m b x7))))) ∧ (((x7 = (2 : Int)) → ifB (bpick false true (igt z x2)) (Q [B false]) ((Option.some ([[I x, I y, I z], [I s, I a, I k, S c, I x, I y, I z]]) = Option.some ([[I x, I y, I z], [I s, I a, I k, S c, I x, I y, I z]])) ∧ ((Inv b (wadd IntKind.i64 x7 1)) ∧ (Nat.le (Nat.succ (m b (wadd IntKind.i64 x7 1))) (m b x7))))) ∧ True))))) ∧ True)))) ∧ (((x7 = (1 : Int)) → (((0 : Int) ≤ x7) ∧ (x7 < ((3 : Int)))) ∧ (((x7 = (0 : Int)) → ifB (ilt x x3) (Q [B false]) ((((0 : Int) ≤ x7) ∧ (x7 < ((3 : Int)))) ∧ (((x7 = (0 : Int)) → ifB (bpick false true (igt x x4)) (Q [B false]) ((Option.some ([[I x, I y, I z], [I s, I a, I k, S c, I x, I y, I z]]) = Option.some ([[I x, I y, I z], [I s, I a, I k, S c, I x, I y, I z]])) ∧ ((Inv b (wadd IntKind.i64 x7 1)) ∧ (Nat.le (Nat.succ (m b (wadd IntKind.i64 x7 1))) (m b x7))))) ∧ (((x7 = (1 : Int)) → ifB (bpick false true (igt y x4)) (Q [B false]) ((Option.some ([[I x, I y, I z], [I s, I a, I k, S c, I x, I y, I z]]) = Option.some ([[I x, I y, I z], [I s, I a, I k, S c, I x, I y, I z]])) ∧ ((Inv b (wadd IntKind.i64 x7 1)) ∧ (Nat.le (Nat.succ (m b (wadd IntKind.i64 x7 1))) (m b x7))))) ∧ (((x7 = (2 : Int)) → ifB (bpick false true (igt z x4)) (Q [B false]) ((Option.some ([[I x, I y, I z], [I s, I a, I k, S c, I x, I y, I z]]) = Option.some ([[I x, I y, I z], [I s, I a, I k, S c, I x, I y, I z]])) ∧ ((Inv b (wadd IntKind.i64 x7 1)) ∧ (Nat.le (Nat.succ (m b (wadd IntKind.i64 x7 1))) (m b x7))))) ∧ True))))) ∧ (((x7 = (1 : Int)) → ifB (ilt y x3) (Q [B false]) ((((0 : Int) ≤ x7) ∧ (x7 < ((3 : Int)))) ∧ (((x7 = (0 : Int)) → ifB (bpick false true (igt x x4)) (Q [B false]) ((Option.some ([[I x, I y, I z], [I s, I a, I k, S c, I x, I y, I z]]) = Option.some ([[I x, I y, I z], [I s, I a, I k, S c, I x, I y, I z]])) ∧ ((Inv b (wadd IntKind.i64 x7 1)) ∧ (Nat.le (Nat.succ (m b (wadd IntKind.i64 x7 1))) (m b x7))))) ∧ (((x7 = (1 : Int)) → ifB (bpick false true (igt y x4)) (Q [B false]) ((Option.some ([[I x, I y, I z], [I s, I a, I k, S c, I x, I y, I z]]) = Option.some ([[I x, I y, I z], [I s, I a, I k, S c, I x, I y, I z]])) ∧ ((Inv b (wadd IntKind.i64 x7 1)) ∧ (Nat.le (Nat.succ (m b (wadd IntKind.i64 x7 1))) (m b x7))))) ∧ (((x7 = (2 : Int)) → ifB (bpick false true (igt z x4)) (Q [B false]) ((Option.some ([[I x, I y, I z], [I s, I a, I k, S c, I x, I y, I z]]) = Option.some ([[I x, I y, I z], [I s, I a, I k, S c, I x, I y, I z]])) ∧ ((Inv b (wadd IntKind.i64 x7 1)) ∧ (Nat.le (Nat.succ (m b (wadd IntKind.i64 x7 1))) (m b x7))))) ∧ True))))) ∧ (((x7 = (2 : Int)) → ifB (ilt z x3) (Q [B false]) ((((0 : Int) ≤ x7) ∧ (x7 < ((3 : Int)))) ∧ (((x7 = (0 : Int)) → ifB (bpick false true (igt x x4)) (Q [B false]) ((Option.some ([[I x, I y, I z], [I s, I a, I k, S c, I x, I y, I z]]) = Option.some ([[I x, I y, I z], [I s, I a, I k, S c, I x, I y, I z]])) ∧ ((Inv b (wadd IntKind.i64 x7 1)) ∧ (Nat.le (Nat.succ (m b (wadd IntKind.i64 x7 1))) (m b x7))))) ∧ (((x7 = (1 : Int)) → ifB (bpick false true (igt y x4)) (Q [B false]) ((Option.some ([[I x, I y, I z], [I s, I a, I k, S c, I x, I y, I z]]) = Option.some ([[I x, I y, I z], [I s, I a, I k, S c, I x, I y, I z]])) ∧ ((Inv b (wadd IntKind.i64 x7 1)) ∧ (Nat.le (Nat.succ (m b (wadd IntKind.i64 x7 1))) (m b x7))))) ∧ (((x7 = (2 : Int)) → ifB (bpick false true (igt z x4)) (Q [B false]) ((Option.some ([[I x, I y, I z], [I s, I a, I k, S c, I x, I y, I z]]) = Option.some ([[I x, I y, I z], [I s, I a, I k, S c, I x, I y, I z]])) ∧ ((Inv b (wadd IntKind.i64 x7 1)) ∧ (Nat.le (Nat.succ (m b (wadd IntKind.i64 x7 1))) (m b x7))))) ∧ True))))) ∧ True)))) ∧ (((x7 = (2 : Int)) → (((0 : Int) ≤ x7) ∧ (x7 < ((3 : Int)))) ∧ (((x7 = (0 : Int)) → ifB (ilt x x5) (Q [B false]) ((((0 : Int) ≤ x7) ∧ (x7 < ((3 : Int)))) ∧ (((x7 = (0 : Int)) → ifB (bpick false true (igt x x6)) (Q [B false]) ((Option.some ([[I x, I y, I z], [I s, I a, I k, S c, I x, I y, I z]]) = Option.some ([[I x, I y, I z], [I s, I a, I k, S c, I x, I y, I z]])) ∧ ((Inv b (wadd IntKind.i64 x7 1)) ∧ (Nat.le (Nat.succ (m b (wadd IntKind.i64 x7 1))) (m b x7))))) ∧ (((x7 = (1 : Int)) → ifB (bpick false true (igt y x6)) (Q [B false]) ((Option.some ([[I x, I y, I z], [I s, I a, I k, S c, I x, I y, I z]]) = Option.some ([[I x, I y, I z], [I s, I a, I k, S c, I x, I y, I z]])) ∧ ((Inv b (wadd IntKind.i64 x7 1)) ∧ (Nat.le (Nat.succ (m b (wadd IntKind.i64 x7 1))) (m b x7))))) ∧ (((x7 = (2 : Int)) → ifB (bpick false true (igt z x6)) (Q [B false]) ((Option.some ([[I x, I y, I z], [I s, I a, I k, S c, I x, I y, I z]]) = Option.some ([[I x, I y, I z], [I s, I a, I k, S c, I x, I y, I z]])) ∧ ((Inv b (wadd IntKind.i64 x7 1)) ∧ (Nat.le (Nat.succ (m b (wadd IntKind.i64 x7 1))) (m b x7))))) ∧ True))))) ∧ (((x7 = (1 : Int)) → ifB (ilt y x5) (Q [B false]) ((((0 : Int) ≤ x7) ∧ (x7 < ((3 : Int)))) ∧ (((x7 = (0 : Int)) → ifB (bpick false true (igt x x6)) (Q [B false]) ((Option.some ([[I x, I y, I z], [I s, I a, I k, S c, I x, I y, I z]]) = Option.some ([[I x, I y, I z], [I s, I a, I k, S c, I x, I y, I z]])) ∧ ((Inv b (wadd IntKind.i64 x7 1)) ∧ (Nat.le (Nat.succ (m b (wadd IntKind.i64 x7 1))) (m b x7))))) ∧ (((x7 = (1 : Int)) → ifB (bpick false true (igt y x6)) (Q [B false]) ((Option.some ([[I x, I y, I z], [I s, I a, I k, S c, I x, I y, I z]]) = Option.some ([[I x, I y, I z], [I s, I a, I k, S c, I x, I y, I z]])) ∧ ((Inv b (wadd IntKind.i64 x7 1)) ∧ (Nat.le (Nat.succ (m b (wadd IntKind.i64 x7 1))) (m b x7))))) ∧ (((x7 = (2 : Int)) → ifB (bpick false true (igt z x6)) (Q [B false]) ((Option.some ([[I x, I y, I z], [I s, I a, I k, S c, I x, I y, I z]]) = Option.some ([[I x, I y, I z], [I s, I a, I k, S c, I x, I y, I z]])) ∧ ((Inv b (wadd IntKind.i64 x7 1)) ∧ (Nat.le (Nat.succ (m b (wadd IntKind.i64 x7 1))) (m b x7))))) ∧ True))))) ∧ (((x7 = (2 : Int)) → ifB (ilt z x5) (Q [B false]) ((((0 : Int) ≤ x7) ∧ (x7 < ((3 : Int)))) ∧ (((x7 = (0 : Int)) → ifB (bpick false true (igt x x6)) (Q [B false]) ((Option.some ([[I x, I y, I z], [I s, I a, I k, S c, I x, I y, I z]]) = Option.some ([[I x, I y, I z], [I s, I a, I k, S c, I x, I y, I z]])) ∧ ((Inv b (wadd IntKind.i64 x7 1)) ∧ (Nat.le (Nat.succ (m b (wadd IntKind.i64 x7 1))) (m b x7))))) ∧ (((x7 = (1 : Int)) → ifB (bpick false true (igt y x6)) (Q [B false]) ((Option.some ([[I x, I y, I z], [I s, I a, I k, S c, I x, I y, I z]]) = Option.some ([[I x, I y, I z], [I s, I a, I k, S c, I x, I y, I z]])) ∧ ((Inv b (wadd IntKind.i64 x7 1)) ∧ (Nat.le (Nat.succ (m b (wadd IntKind.i64 x7 1))) (m b x7))))) ∧ (((x7 = (2 : Int)) → ifB (bpick false true (igt z x6)) (Q [B false]) ((Option.some ([[I x, I y, I z], [I s, I a, I k, S c, I x, I y, I z]]) = Option.some ([[I x, I y, I z], [I s, I a, I k, S c, I x, I y, I z]])) ∧ ((Inv b (wadd IntKind.i64 x7 1)) ∧ (Nat.le (Nat.succ (m b (wadd IntKind.i64 x7 1))) (m b x7))))) ∧ True))))) ∧ True)))) ∧ True)))) (Q [B true]))))) : Ct Tryz.prog 184 {} [ev7 s a k c x y z] Q :=
  fn_of (f := 184) SgT SvT (fun _ => none) Tryz.f184 Tryz.func184 (by kernel_rfl) (by kernel_rfl) h

theorem values_nf (s a k : Int) (c : ByteArray) (x y z : Int) (Q : List SV → Prop) (h : ifB (ieq k 1) (Q [B (bpick (bpick (bpick (ige x 1) (ile x 3) false) (ieq y 0) false) (ieq z 0) false)]) (ifB (ieq k 2) (Cl Tryz.prog 236 sP [I x] (fun (rs : List SV) => ∃ b : Bool, (rs = [B b]) ∧ (ifB b (Cl Tryz.prog 236 sP [I y] (fun (rs1 : List SV) => ∃ b1 : Bool, (rs1 = [B b1]) ∧ (ifB (bpick true b1 false) (Cl Tryz.prog 236 sP [I z] (fun (rs2 : List SV) => ∃ b2 : Bool, (rs2 = [B b2]) ∧ (Q [B (bpick true b2 false)]))) (Q [B false])))) (Q [B false])))) (ifB (ieq k 3) (ifB (bpick (ige x 0) (ile x 2) false) (Cl Tryz.prog 236 sP [I y] (fun (rs : List SV) => ∃ b : Bool, (rs = [B b]) ∧ (Q [B (bpick (bpick true b false) (ieq z 0) false)]))) (Q [B (bpick false (ieq z 0) false)])) (ifB (ieq k 4) (Q [B (bpick (bpick (bpick (ige x 0) (ile x 2) false) (ieq y 0) false) (ieq z 0) false)]) (ifB (ieq k 8) (ifB (ieq k 8) (ifB (ige x 1) (Cl Tryz.prog 236 sP [I x] (fun (rs : List SV) => ∃ b : Bool, (rs = [B b]) ∧ (Q [B (bpick (bpick (bpick true b false) (ieq y 0) false) (ieq z 0) false)]))) (Q [B (bpick (bpick false (ieq y 0) false) (ieq z 0) false)])) (Cl Tryz.prog 236 sP [I x] (fun (rs : List SV) => ∃ b : Bool, (rs = [B b]) ∧ (Q [B (bpick (bpick b (ieq y 0) false) (ieq z 0) false)])))) (ifB (ieq k 10) (ifB (ige x 1) (Cl Tryz.prog 236 sP [I x] (fun (rs : List SV) => ∃ b : Bool, (rs = [B b]) ∧ (Q [B (bpick (bpick (bpick true b false) (ieq y 0) false) (ieq z 0) false)]))) (Q [B (bpick (bpick false (ieq y 0) false) (ieq z 0) false)])) (Cl Tryz.prog 236 sP [I x] (fun (rs : List SV) => ∃ b : Bool, (rs = [B b]) ∧ (Q [B (bpick (bpick b (ieq y 0) false) (ieq z 0) false)]))))))))) : Ct Tryz.prog 218 {} [ev7 s a k c x y z] Q :=
  fn_of (f := 218) SgT SvT (fun _ => none) Tryz.f218 Tryz.func218 (by kernel_rfl) (by kernel_rfl) h

theorem check_nf (s a k : Int) (c : ByteArray) (x y z : Int) (Q : List SV → Prop) (h : Cl Tryz.prog 183 sP [I k] (fun (rs : List SV) => ∃ x1 : Int, (rs = [I x1]) ∧ (ifB (ieq x1 0) (Q [I 2]) (Cl Tryz.prog 169 sP [S c] (fun (rs1 : List SV) => ∃ b : Bool, (rs1 = [B b]) ∧ (ifB (bnot b) (Q [I 3]) (Cl Tryz.prog 184 sP ([SV.agg [I s, I a, I k, S c, I x, I y, I z]]) (fun (rs2 : List SV) => ∃ b1 : Bool, (rs2 = [B b1]) ∧ (ifB (bnot b1) (Q [I 4]) (ifB (bpick (ilt a 0) true (igt a 1099511627776)) (Q [I 5]) (ifB (bpick (ilt s 0) true (igt s 4294967296)) (Q [I 1]) (Q [I 0])))))))))))) : Ct Tryz.prog 111 {} [ev7 s a k c x y z] Q :=
  fn_of (f := 111) SgT SvT (fun _ => none) Tryz.f111 Tryz.func111 (by kernel_rfl) (by kernel_rfl) h

theorem rcheck_nf (s a k : Int) (c : ByteArray) (x y z : Int) (Q : List SV → Prop) (h : ifB (bpick (ilt k 1) true (igt k 10)) (Q [I 2]) (ifB (bpick (ieq (slen c) 0) true (igt (slen c) 24)) (Q [I 3]) (Cl Tryz.prog 218 sP ([SV.agg [I s, I a, I k, S c, I x, I y, I z]]) (fun (rs : List SV) => ∃ b : Bool, (rs = [B b]) ∧ (ifB (bnot b) (Q [I 4]) (ifB (bpick (ilt a 0) true (igt a 1099511627776)) (Q [I 5]) (ifB (bpick (ilt s 0) true (igt s 4294967296)) (Q [I 1]) (Q [I 0])))))))) : Ct Tryz.prog 186 {} [ev7 s a k c x y z] Q :=
  fn_of (f := 186) SgT SvT (fun _ => none) Tryz.f186 Tryz.func186 (by kernel_rfl) (by kernel_rfl) h

theorem numbers_nf (s a k : Int) (c : ByteArray) (x y z : Int) (Q : List SV → Prop) (h : Cl Tryz.prog 183 sP [I k] (fun (rs : List SV) => ∃ x1 : Int, (rs = [I x1]) ∧ ((((0 : Int) ≤ 0) ∧ (((0 : Int) ≤ x1) ∧ (x1 ≤ (rlen ([[I x], [I y], [I z]]))))) ∧ (Q ([SL 1 (rsub ([[I x], [I y], [I z]]) 0 x1)]))))) : Ct Tryz.prog 116 {} [ev7 s a k c x y z] Q :=
  fn_of (f := 116) SgT SvT (fun _ => none) Tryz.f116 Tryz.func116 (by kernel_rfl) (by kernel_rfl) h

theorem rnumbers_nf (s a k : Int) (c : ByteArray) (x y z : Int) (Q : List SV → Prop) (h : Cl Tryz.prog 132 sP [I k] (fun (rs : List SV) => ∃ x1 : Int, (rs = [I x1]) ∧ (ifB (igt x1 0) (((rlen ([[I x]])) ≤ ((2147483648 : Int))) ∧ (ifB (igt x1 1) (((lsum (rlen ([[I x]])) (rlen ([[I y]]))) ≤ ((2147483648 : Int))) ∧ (ifB (igt x1 2) (((lsum (rlen (rapp ([[I x]]) ([[I y]]))) (rlen ([[I z]]))) ≤ ((2147483648 : Int))) ∧ (Q ([SL 1 (rapp (rapp ([[I x]]) ([[I y]])) ([[I z]]))]))) (Q ([SL 1 (rapp ([[I x]]) ([[I y]]))])))) (ifB (igt x1 2) (((lsum (rlen ([[I x]])) (rlen ([[I z]]))) ≤ ((2147483648 : Int))) ∧ (Q ([SL 1 (rapp ([[I x]]) ([[I z]]))]))) (Q ([SL 1 ([[I x]])]))))) (ifB (igt x1 1) (((rlen ([[I y]])) ≤ ((2147483648 : Int))) ∧ (ifB (igt x1 2) (((lsum (rlen ([[I y]])) (rlen ([[I z]]))) ≤ ((2147483648 : Int))) ∧ (Q ([SL 1 (rapp ([[I y]]) ([[I z]]))]))) (Q ([SL 1 ([[I y]])])))) (ifB (igt x1 2) (((rlen ([[I z]])) ≤ ((2147483648 : Int))) ∧ (Q ([SL 1 ([[I z]])]))) (Q ([SL 1 []]))))))) : Ct Tryz.prog 119 {} [ev7 s a k c x y z] Q :=
  fn_of (f := 119) SgT SvT (fun _ => none) Tryz.f119 Tryz.func119 (by kernel_rfl) (by kernel_rfl) h

theorem fill_nf (s a k : Int) (c : ByteArray) (x y z : Int) (rows : List (List SV)) (Q : List SV → Prop) (h : ((imin (rlen rows) ((3 : Int)) = (0 : Int)) → Q ([SV.agg [I s, I a, I k, S c, I 0, I 0, I 0]])) ∧ ((((0 : Int)) < (imin (rlen rows) ((3 : Int)))) → ∃ x1 : Int, (rget rows ((0 : Int)) = [I x1]) ∧ (((imin (rlen rows) ((3 : Int)) = (1 : Int)) → Q ([SV.agg [I s, I a, I k, S c, I x1, I 0, I 0]])) ∧ ((((1 : Int)) < (imin (rlen rows) ((3 : Int)))) → ∃ x2 : Int, (rget rows ((1 : Int)) = [I x2]) ∧ (((imin (rlen rows) ((3 : Int)) = (2 : Int)) → Q ([SV.agg [I s, I a, I k, S c, I x1, I x2, I 0]])) ∧ ((((2 : Int)) < (imin (rlen rows) ((3 : Int)))) → ∃ x3 : Int, (rget rows ((2 : Int)) = [I x3]) ∧ (Q ([SV.agg [I s, I a, I k, S c, I x1, I x2, I x3]])))))))) : Ct Tryz.prog 242 {} [ev7 s a k c x y z, SL 1 rows] Q :=
  fn_of (f := 242) SgT SvT (fun _ => none) Tryz.f242 Tryz.func242 (by kernel_rfl) (by kernel_rfl) h

end Go.Proofs.YtbocfphenkidnaaGreatDoor

namespace Go.Proofs.YtbocfphenkidnaaGreatDoor
open Go Go.Px Go.Proofs
set_option maxRecDepth 100000
set_option linter.unusedVariables false

def manyI (k : Int) : Int := if k < 1 ∨ 10 < k then 0 else if k = 2 then 3 else if k = 3 then 2 else 1
def roleI (k : Int) : Int := if k = 1 ∨ k = 2 then 0 else if k = 3 ∨ k = 4 then 1 else if k = 5 ∨ k = 6 ∨ k = 7 then 2 else if k = 8 ∨ k = 9 ∨ k = 10 then 3 else -1
def lo1 (k : Int) : Int := if k = 1 ∨ k = 8 ∨ k = 10 then 1 else 0
def hi1 (k : Int) : Int := if k = 1 then 3 else if k = 3 ∨ k = 4 then 2 else 2147483647
def hi2 (k : Int) : Int := if k = 2 ∨ k = 3 then 2147483647 else 0
def hi3 (k : Int) : Int := if k = 2 then 2147483647 else 0
def valB (k x y z : Int) : Bool := decide (lo1 k ≤ x ∧ x ≤ hi1 k ∧ 0 ≤ y ∧ y ≤ hi2 k ∧ 0 ≤ z ∧ z ≤ hi3 k)
def someB (n : Int) : Bool := decide (0 ≤ n ∧ n ≤ 2147483647)
def namB (c : ByteArray) : Bool := decide (1 ≤ c.size ∧ c.size ≤ 24)
def chkI (s a k : Int) (c : ByteArray) (x y z : Int) : Int :=
  if manyI k = 0 then 2 else if namB c = false then 3 else if valB k x y z = false then 4 else if a < 0 ∨ 1099511627776 < a then 5 else if s < 0 ∨ 4294967296 < s then 1 else 0

theorem ifB_iff {b : Bool} {x y : Prop} : ifB b x y ↔ ((b = true → x) ∧ (b = false → y)) := by
  cases b <;> simp [ifB]

theorem ifB_p {p : Prop} [Decidable p] {x y : Prop} : ifB (decide p) x y ↔ (if p then x else y) := by
  by_cases h : p <;> simp [h, ifB]

theorem mlt {a b : Nat} (h : a < b) : Nat.le (Nat.succ a) b := h
theorem bor_t {a b : Bool} : bpick a true b = true ↔ a = true ∨ b = true := by cases a <;> simp
theorem bor_f {a b : Bool} : bpick a true b = false ↔ a = false ∧ b = false := by cases a <;> simp
theorem ieq_t {a b : Int} : ieq a b = true ↔ a = b := by simp
theorem ieq_f {a b : Int} : ieq a b = false ↔ ¬ a = b := by simp
theorem igt_t {a b : Int} : igt a b = true ↔ b < a := by simp
theorem igt_f {a b : Int} : igt a b = false ↔ ¬ b < a := by simp

theorem some_fn (n : Int) : Ct Tryz.prog 236 {} [I n] (fun r => r = [B (someB n)]) := by
  refine some_nf _ _ ?_
  have : (bpick (ige n 0) (ile n 2147483647) false) = someB n := by
    rw [Bool.eq_iff_iff]; simp [someB]
  rw [this]

theorem named_fn (c : ByteArray) : Ct Tryz.prog 169 {} [S c] (fun r => r = [B (namB c)]) := by
  refine named_nf _ _ ?_
  have : (bpick (ige (slen c) 1) (ile (slen c) 24) false) = namB c := by
    rw [Bool.eq_iff_iff]; simp [namB]; omega
  rw [this]

theorem many_eq (k : Int) : ifB (bpick (ilt k 1) true (igt k 10)) (([I 0] : List SV) = [I (manyI k)]) (ifB (ieq k 2) (([I 3] : List SV) = [I (manyI k)]) (ifB (ieq k 3) (([I 2] : List SV) = [I (manyI k)]) (([I 1] : List SV) = [I (manyI k)]))) := by
  refine ifB_intro (fun h => ?_) (fun h => ?_)
  · simp at h
    have : k < 1 ∨ 10 < k := by omega
    simp [manyI, this]
  · simp at h
    have h0 : ¬ (k < 1 ∨ 10 < k) := by omega
    refine ifB_intro (fun h => ?_) (fun h => ?_)
    · simp at h; simp [manyI, h]
    · simp at h
      refine ifB_intro (fun h2 => ?_) (fun h2 => ?_)
      · simp at h2; simp [manyI, h2]
      · simp at h2; simp [manyI, h, h2, h0]

theorem many_fn (k : Int) : Ct Tryz.prog 183 {} [I k] (fun r => r = [I (manyI k)]) := many_nf _ _ (many_eq k)
theorem rmany_fn (k : Int) : Ct Tryz.prog 132 {} [I k] (fun r => r = [I (manyI k)]) := rmany_nf _ _ (many_eq k)

theorem bounds_fn (k : Int) : Ct Tryz.prog 217 {} [I k] (fun r => r = [.agg [I (lo1 k), I (hi1 k), I 0, I (hi2 k), I 0, I (hi3 k)]]) := by
  refine bounds_nf _ _ ?_
  simp only [ieq_eq, ifB_p]
  repeat' split
  all_goals (subst_vars; simp_all [lo1, hi1, hi2, hi3])

theorem within_fn (s a k : Int) (c : ByteArray) (x y z : Int) : Ct Tryz.prog 184 {} [ev7 s a k c x y z] (fun r => r = [B (valB k x y z)]) := by
  refine within_nf _ _ _ _ _ _ _ _ (Cl.of (bounds_fn k) ⟨_, _, _, _, _, _, rfl, ?_⟩)
  refine ⟨fun _ i => 0 ≤ i ∧ i ≤ 3 ∧ (1 ≤ i → lo1 k ≤ x ∧ x ≤ hi1 k) ∧ (2 ≤ i → 0 ≤ y ∧ y ≤ hi2 k) ∧ (3 ≤ i → 0 ≤ z ∧ z ≤ hi3 k), fun _ i => (3 - i).toNat, by omega, fun b i hi => ?_⟩
  obtain ⟨h0, h3, g1, g2, g3⟩ := hi
  refine ifB_intro (fun h => ?_) (fun h => ?_)
  · simp at h
    have w : wadd IntKind.i64 i 1 = i + 1 := wadd_i64 (by omega) (by omega)
    have hc : i = 0 ∨ i = 1 ∨ i = 2 := by omega
    have vf : (lo1 k ≤ x ∧ x ≤ hi1 k ∧ 0 ≤ y ∧ y ≤ hi2 k ∧ 0 ≤ z ∧ z ≤ hi3 k → False) → [B false] = [B (valB k x y z)] := fun hn => by
      have : valB k x y z = false := by simpa [valB] using hn
      rw [this]
    rw [w]
    simp only [ifB_iff, ilt_eq, igt_eq, bpick_eq, decide_eq_true_eq, decide_eq_false_iff_not, Bool.false_eq_true, if_false]
    rcases hc with rfl | rfl | rfl
    · simp only [true_and, forall_const, and_true, Int.reduceLT, Int.reduceEq, false_implies, Int.reduceLE]
      refine ⟨fun h => vf (by omega), fun h => ⟨fun h' => vf (by omega), fun h' => ⟨by omega, mlt (by omega)⟩⟩⟩
    · simp only [true_and, forall_const, and_true, Int.reduceLT, Int.reduceEq, false_implies, Int.reduceLE]
      refine ⟨fun h => vf (by omega), fun h => ⟨fun h' => vf (by omega), fun h' => ⟨by omega, mlt (by omega)⟩⟩⟩
    · simp only [true_and, forall_const, and_true, Int.reduceLT, Int.reduceEq, false_implies, Int.reduceLE]
      refine ⟨fun h => vf (by omega), fun h => ⟨fun h' => vf (by omega), fun h' => ⟨by omega, mlt (by omega)⟩⟩⟩
  · simp at h
    have : valB k x y z = true := by simp [valB]; omega
    simp [this]

theorem values_fn (s a k : Int) (c : ByteArray) (x y z : Int) : Ct Tryz.prog 218 {} [ev7 s a k c x y z] (fun r => r = [B (valB k x y z)]) := by
  refine values_nf _ _ _ _ _ _ _ _ ?_
  have go : ∀ b : Bool, (b = true ↔ lo1 k ≤ x ∧ x ≤ hi1 k ∧ 0 ≤ y ∧ y ≤ hi2 k ∧ 0 ≤ z ∧ z ≤ hi3 k) → [B b] = [B (valB k x y z)] := fun b hb => by
    have : b = valB k x y z := by rw [Bool.eq_iff_iff, hb]; simp [valB]
    rw [this]
  simp only [ieq_eq, ifB_p]
  split
  · subst_vars
    refine go _ ?_
    simp [lo1, hi1, hi2, hi3]; omega
  split
  · subst_vars
    refine Cl.of (some_fn _) ⟨_, rfl, ifB_intro (fun h1 => ?_) (fun h1 => ?_)⟩
    · refine Cl.of (some_fn _) ⟨_, rfl, ifB_intro (fun h2 => ?_) (fun h2 => ?_)⟩
      · refine Cl.of (some_fn _) ⟨_, rfl, go _ ?_⟩
        simp [someB] at h1 h2
        simp [someB, lo1, hi1, hi2, hi3]; omega
      · refine go _ ?_
        simp [someB] at h1 h2
        simp [lo1, hi1, hi2, hi3]; omega
    · refine go _ ?_
      simp [someB] at h1
      simp [lo1, hi1, hi2, hi3]; omega
  split
  · subst_vars
    refine ifB_intro (fun h1 => ?_) (fun h1 => ?_)
    · refine Cl.of (some_fn _) ⟨_, rfl, go _ ?_⟩
      simp at h1
      simp [someB, lo1, hi1, hi2, hi3]; omega
    · refine go _ ?_
      simp at h1
      simp [lo1, hi1, hi2, hi3]; omega
  split
  · subst_vars
    refine go _ ?_
    simp [lo1, hi1, hi2, hi3]; omega
  split
  · rename_i h8
    refine ifB_intro (fun h1 => ?_) (fun h1 => ?_)
    · refine Cl.of (some_fn _) ⟨_, rfl, go _ ?_⟩
      simp at h1
      simp [someB, lo1, hi1, hi2, hi3, h8]; omega
    · refine go _ ?_
      simp at h1
      simp [lo1, hi1, hi2, hi3, h8]; omega
  split
  · subst_vars
    refine ifB_intro (fun h1 => ?_) (fun h1 => ?_)
    · refine Cl.of (some_fn _) ⟨_, rfl, go _ ?_⟩
      simp at h1
      simp [someB, lo1, hi1, hi2, hi3]; omega
    · refine go _ ?_
      simp at h1
      simp [lo1, hi1, hi2, hi3]; omega
  · refine Cl.of (some_fn _) ⟨_, rfl, go _ ?_⟩
    simp_all [someB, lo1, hi1, hi2, hi3]; omega

theorem many0 (k : Int) : manyI k = 0 ↔ k < 1 ∨ 10 < k := by
  unfold manyI; repeat' split
  all_goals simp_all

theorem check_fn (s a k : Int) (c : ByteArray) (x y z : Int) : Ct Tryz.prog 111 {} [ev7 s a k c x y z] (fun r => r = [I (chkI s a k c x y z)]) := by
  refine check_nf _ _ _ _ _ _ _ _ (Cl.of (many_fn k) ⟨_, rfl, ifB_intro (fun h => ?_) (fun h => ?_)⟩)
  · simp at h; simp [chkI, h]
  · simp at h
    refine Cl.of (named_fn c) ⟨_, rfl, ifB_intro (fun h1 => ?_) (fun h1 => ?_)⟩
    · simp at h1; simp [chkI, h, h1]
    · simp at h1
      refine Cl.of (within_fn s a k c x y z) ⟨_, rfl, ifB_intro (fun h2 => ?_) (fun h2 => ?_)⟩
      · simp at h2; simp [chkI, h, h1, h2]
      · simp at h2
        refine ifB_intro (fun h3 => ?_) (fun h3 => ?_)
        · simp at h3
          have : a < 0 ∨ 1099511627776 < a := by omega
          simp [chkI, h, h1, h2, this]
        · simp at h3
          have h3 : ¬ (a < 0 ∨ 1099511627776 < a) := by omega
          refine ifB_intro (fun h4 => ?_) (fun h4 => ?_)
          · simp at h4
            have : s < 0 ∨ 4294967296 < s := by omega
            simp [chkI, h, h1, h2, h3, this]
          · simp at h4
            have h4 : ¬ (s < 0 ∨ 4294967296 < s) := by omega
            simp [chkI, h, h1, h2, h3, h4]

theorem rcheck_fn (s a k : Int) (c : ByteArray) (x y z : Int) : Ct Tryz.prog 186 {} [ev7 s a k c x y z] (fun r => r = [I (chkI s a k c x y z)]) := by
  refine rcheck_nf _ _ _ _ _ _ _ _ (ifB_intro (fun h => ?_) (fun h => ?_))
  · simp at h
    have : manyI k = 0 := (many0 k).2 (by omega)
    simp [chkI, this]
  · simp at h
    have h : ¬ manyI k = 0 := fun e => by have := (many0 k).1 e; omega
    refine ifB_intro (fun h1 => ?_) (fun h1 => ?_)
    · simp only [bor_t, ieq_t, igt_t, slen_eq] at h1
      have : namB c = false := by unfold namB; rw [decide_eq_false_iff_not]; omega
      simp [chkI, h, this]
    · simp only [bor_f, ieq_f, igt_f, slen_eq] at h1
      have h1 : namB c = true := by unfold namB; rw [decide_eq_true_eq]; omega
      refine Cl.of (values_fn s a k c x y z) ⟨_, rfl, ifB_intro (fun h2 => ?_) (fun h2 => ?_)⟩
      · simp at h2; simp [chkI, h, h1, h2]
      · simp at h2
        refine ifB_intro (fun h3 => ?_) (fun h3 => ?_)
        · simp at h3
          have : a < 0 ∨ 1099511627776 < a := by omega
          simp [chkI, h, h1, h2, this]
        · simp at h3
          have h3 : ¬ (a < 0 ∨ 1099511627776 < a) := by omega
          refine ifB_intro (fun h4 => ?_) (fun h4 => ?_)
          · simp at h4
            have : s < 0 ∨ 4294967296 < s := by omega
            simp [chkI, h, h1, h2, h3, this]
          · simp at h4
            have h4 : ¬ (s < 0 ∨ 4294967296 < s) := by omega
            simp [chkI, h, h1, h2, h3, h4]

def numL (k x y z : Int) : List (List SV) := rsub [[I x], [I y], [I z]] 0 (manyI k)

theorem many_cases (k : Int) : manyI k = 0 ∨ manyI k = 1 ∨ manyI k = 2 ∨ manyI k = 3 := by
  unfold manyI; repeat' split
  all_goals simp_all

theorem numbers_fn (s a k : Int) (c : ByteArray) (x y z : Int) : Ct Tryz.prog 116 {} [ev7 s a k c x y z] (fun r => r = [SL 1 (numL k x y z)]) := by
  refine numbers_nf _ _ _ _ _ _ _ _ (Cl.of (many_fn k) ⟨_, rfl, ?_, rfl⟩)
  simp only [rlen_eq, List.length_cons, List.length_nil]
  rcases many_cases k with h | h | h | h <;> omega

theorem rnumbers_fn (s a k : Int) (c : ByteArray) (x y z : Int) : Ct Tryz.prog 119 {} [ev7 s a k c x y z] (fun r => r = [SL 1 (numL k x y z)]) := by
  refine rnumbers_nf _ _ _ _ _ _ _ _ (Cl.of (rmany_fn k) ⟨_, rfl, ?_⟩)
  unfold numL
  rcases many_cases k with h | h | h | h <;> rw [h] <;> simp only [igt_eq, ifB_p] <;> simp [rsub, rapp]

/-- The number at place i. -/
def nAt (rows : List (List SV)) (i : Nat) : Int :=
  match rows[i]? with
  | some [.val (.int _ n)] => n
  | _ => 0

def Ints (rows : List (List SV)) : Prop := ∀ r ∈ rows, ∃ n : Int, r = [I n]

theorem Ints.get {rows : List (List SV)} (h : Ints rows) {i : Nat} (hi : i < rows.length) (j : Int) (hj : j = (i : Int)) : rget rows j = [I (nAt rows i)] := by
  obtain ⟨n, hn⟩ := h rows[i] (List.getElem_mem hi)
  subst hj
  have : rows[i]? = some [I n] := by rw [List.getElem?_eq_getElem hi, hn]
  simp [rget, nAt, this]

theorem nAt_out {rows : List (List SV)} {i : Nat} (hi : rows.length ≤ i) : nAt rows i = 0 := by
  simp [nAt, List.getElem?_eq_none hi]

theorem fill_fn (s a k : Int) (c : ByteArray) (x y z : Int) (rows : List (List SV)) (hr : Ints rows) : Ct Tryz.prog 242 {} [ev7 s a k c x y z, SL 1 rows] (fun r => r = [ev7 s a k c (nAt rows 0) (nAt rows 1) (nAt rows 2)]) := by
  refine fill_nf _ _ _ _ _ _ _ _ _ ?_
  simp only [imin_eq, rlen_eq]
  refine ⟨fun h => ?_, fun h => ⟨_, hr.get (i := 0) (by omega) _ rfl, fun h1 => ?_, fun h1 => ⟨_, hr.get (i := 1) (by omega) _ rfl, fun h2 => ?_, fun h2 => ⟨_, hr.get (i := 2) (by omega) _ rfl, rfl⟩⟩⟩⟩
  · rw [nAt_out (i := 0) (by omega), nAt_out (i := 1) (by omega), nAt_out (i := 2) (by omega)]
  · rw [nAt_out (i := 1) (by omega), nAt_out (i := 2) (by omega)]
  · rw [nAt_out (i := 2) (by omega)]

theorem many1 {k : Int} (h : manyI k = 1) : hi2 k = 0 ∧ hi3 k = 0 := by
  have h2 : k ≠ 2 := fun e => by subst e; simp [manyI] at h
  have h3 : k ≠ 3 := fun e => by subst e; simp [manyI] at h
  simp [hi2, hi3, h2, h3]

theorem many2 {k : Int} (h : manyI k = 2) : hi3 k = 0 := by
  have h2 : k ≠ 2 := fun e => by subst e; simp [manyI] at h
  simp [hi3, h2]

theorem chk0 {s a k : Int} {c : ByteArray} {x y z : Int} (h : chkI s a k c x y z = 0) : manyI k ≠ 0 ∧ namB c = true ∧ valB k x y z = true ∧ ¬ (a < 0 ∨ 1099511627776 < a) ∧ ¬ (s < 0 ∨ 4294967296 < s) := by
  unfold chkI at h
  split at h
  · simp at h
  split at h
  · simp at h
  split at h
  · simp at h
  split at h
  · simp at h
  split at h
  · simp at h
  simp_all

end Go.Proofs.YtbocfphenkidnaaGreatDoor

namespace Go.Px
set_option linter.unusedVariables false

def leb (n : Nat) : List Int := if n < 128 then [(n : Int)] else ((n % 128 + 128 : Nat) : Int) :: leb (n / 128)
termination_by n
decreasing_by omega

theorem leb_lt {n : Nat} (h : n < 128) : leb n = [(n : Int)] := by rw [leb, if_pos h]
theorem leb_ge {n : Nat} (h : 128 ≤ n) : leb n = ((n % 128 + 128 : Nat) : Int) :: leb (n / 128) := by rw [leb, if_neg (by omega)]

theorem leb_pos (n : Nat) : 1 ≤ (leb n).length := by
  by_cases h : n < 128
  · simp [leb_lt h]
  · simp [leb_ge (Nat.le_of_not_lt h)]

theorem leb_inj : ∀ (n m : Nat) (r r' : List Int), leb n ++ r = leb m ++ r' → n = m ∧ r = r' := by
  intro n
  induction n using Nat.strongRecOn with
  | _ n ih =>
    intro m r r' e
    by_cases hn : n < 128 <;> by_cases hm : m < 128
    · simp only [leb_lt hn, leb_lt hm, List.cons_append, List.nil_append, List.cons.injEq] at e
      exact ⟨by omega, e.2⟩
    · simp only [leb_lt hn, leb_ge (Nat.le_of_not_lt hm), List.cons_append, List.nil_append, List.cons.injEq] at e
      omega
    · simp only [leb_lt hm, leb_ge (Nat.le_of_not_lt hn), List.cons_append, List.nil_append, List.cons.injEq] at e
      omega
    · simp only [leb_ge (Nat.le_of_not_lt hm), leb_ge (Nat.le_of_not_lt hn), List.cons_append, List.cons.injEq] at e
      obtain ⟨h1, h2⟩ := ih (n / 128) (by omega) _ _ _ e.2
      exact ⟨by omega, h2⟩

theorem leb_byte : ∀ (n : Nat) (x : Int), x ∈ leb n → 0 ≤ x ∧ x ≤ 255 := by
  intro n
  induction n using Nat.strongRecOn with
  | _ n ih =>
    intro x hx
    by_cases hn : n < 128
    · simp [leb_lt hn] at hx; omega
    · rw [leb_ge (Nat.le_of_not_lt hn)] at hx
      rcases List.mem_cons.1 hx with rfl | hx
      · omega
      · exact ih _ (by omega) _ hx

theorem leb_len : ∀ (k n : Nat), n < 128 ^ (k + 1) → (leb n).length ≤ k + 1
  | 0, n, h => by rw [leb_lt (by simpa using h)]; simp
  | k + 1, n, h => by
    by_cases hn : n < 128
    · simp [leb_lt hn]
    · rw [leb_ge (Nat.le_of_not_lt hn)]
      have h : n < 128 * 128 ^ (k + 1) := by rw [Nat.pow_succ] at h; omega
      have := leb_len k (n / 128) (Nat.div_lt_of_lt_mul h)
      simp; omega

/-- The number that bytes are. -/
def ofB : List Int → Nat
  | [] => 0
  | x :: l => ofB l * 128 + (x % 128).toNat

theorem ofB_leb : ∀ n : Nat, ofB (leb n) = n := by
  intro n
  induction n using Nat.strongRecOn with
  | _ n ih =>
    by_cases hn : n < 128
    · simp [leb_lt hn, ofB]; omega
    · rw [leb_ge (Nat.le_of_not_lt hn), ofB, ih _ (by omega)]
      omega

/-- The bytes are all great but the last one, which is small. -/
theorem leb_shape : ∀ n : Nat, ∃ l x, leb n = l ++ [x] ∧ 0 ≤ x ∧ x < 128 ∧ (∀ y ∈ l, 128 ≤ y ∧ y ≤ 255) ∧ (l ≠ [] → x ≠ 0) := by
  intro n
  induction n using Nat.strongRecOn with
  | _ n ih =>
    by_cases hn : n < 128
    · exact ⟨[], n, by simp [leb_lt hn], by omega, by omega, by simp, by simp⟩
    · obtain ⟨l, x, e, h0, h1, h2, h3⟩ := ih (n / 128) (by omega)
      refine ⟨((n % 128 + 128 : Nat) : Int) :: l, x, by rw [leb_ge (Nat.le_of_not_lt hn), e]; rfl, h0, h1, ?_, fun _ hx => ?_⟩
      · intro y hy
        rcases List.mem_cons.1 hy with rfl | hy
        · omega
        · exact h2 y hy
      · cases l with
        | nil =>
          have := ofB_leb (n / 128)
          rw [e] at this
          simp [ofB, hx] at this
          omega
        | cons y l => exact h3 (by simp) hx

end Go.Px

namespace Go.Px
set_option linter.unusedVariables false

theorem toList_iff (a b : ByteArray) : a.toList = b.toList ↔ a = b := by
  rw [ByteArray.toList_eq, ByteArray.toList_eq]
  constructor
  · intro h
    cases a; cases b
    simp only [Array.toList_inj] at h
    rw [h]
  · rintro rfl; rfl
theorem seq_d (a b : ByteArray) : seq a b = decide (a = b) := by
  rw [seq_eq, Bool.eq_iff_iff]; simp [toList_iff]
theorem sne_d (a b : ByteArray) : sne a b = !decide (a = b) := by
  rw [sne_eq, ← seq_eq, seq_d]

abbrev nR (l : List ByteArray) : List (List SV) := l.map fun s => [S s]
abbrev bR (l : List Int) : List (List SV) := l.map fun n => [U8 n]

def nmAt (l : List ByteArray) (i : Int) : ByteArray := l.getD i.toNat ByteArray.empty

theorem rget_nR {l : List ByteArray} {i : Int} (h0 : 0 ≤ i) (h1 : i < l.length) : rget (nR l) i = [S (nmAt l i)] := by
  have : i.toNat < l.length := by omega
  simp [rget, nmAt, this]
theorem nmAt_some {l : List ByteArray} {i : Nat} (h1 : i < l.length) : l[i]? = some (nmAt l i) := by
  simp [nmAt, h1]
theorem nmAt_mem {l : List ByteArray} {i : Int} (h0 : 0 ≤ i) (h1 : i < l.length) : nmAt l i ∈ l := by
  have : i.toNat < l.length := by omega
  simp [nmAt, this]
theorem rlen_nR (l : List ByteArray) : rlen (nR l) = (l.length : Int) := by simp
theorem rlen_bR (l : List Int) : rlen (bR l) = (l.length : Int) := by simp

/-- The place of a name, from 1 on; 0: none. -/
def plc : List ByteArray → ByteArray → Nat
  | [], _ => 0
  | a :: l, s => if a = s then 1 else if plc l s = 0 then 0 else plc l s + 1

theorem plc_zero {l : List ByteArray} {s : ByteArray} : plc l s = 0 ↔ s ∉ l := by
  induction l with
  | nil => simp [plc]
  | cons a l ih =>
    simp only [plc, List.mem_cons, not_or]
    by_cases h : a = s
    · simp [h]
    · have : ¬ s = a := fun e => h e.symm
      simp only [h, if_false, this, not_false_eq_true, true_and]
      rw [← ih]
      split <;> simp_all

theorem plc_le {l : List ByteArray} {s : ByteArray} : plc l s ≤ l.length := by
  induction l with
  | nil => simp [plc]
  | cons a l ih => simp only [plc]; split <;> (try split) <;> simp <;> omega

theorem plc_at : ∀ {l : List ByteArray} {s : ByteArray} {i : Nat}, plc l s = i + 1 → l[i]? = some s := by
  intro l
  induction l with
  | nil => intro s i h; simp [plc] at h
  | cons a l ih =>
    intro s i h
    simp only [plc] at h
    split at h
    · rename_i ha
      obtain rfl : i = 0 := by omega
      simp only [List.getElem?_cons_zero, ha]
    · split at h
      · omega
      · obtain ⟨j, rfl⟩ : ∃ j, i = j + 1 := ⟨i - 1, by omega⟩
        simpa using ih (i := j) (by omega)

theorem plc_hit : ∀ {l : List ByteArray} {s : ByteArray} {i : Nat}, l[i]? = some s → (∀ j, j < i → l[j]? ≠ some s) → plc l s = i + 1 := by
  intro l
  induction l with
  | nil => intro s i h; simp at h
  | cons a l ih =>
    intro s i h hj
    cases i with
    | zero => simp at h; simp [plc, h]
    | succ i =>
      have h0 : a ≠ s := by have := hj 0 (by omega); simpa using this
      have := ih (s := s) (i := i) (by simpa using h) (fun j hji => by have := hj (j + 1) (by omega); simpa using this)
      simp [plc, h0, this]

theorem plc_snoc (l : List ByteArray) (a s : ByteArray) : plc (l ++ [a]) s = if plc l s ≠ 0 then plc l s else if a = s then l.length + 1 else 0 := by
  induction l with
  | nil => simp [plc]
  | cons b l ih =>
    simp only [List.cons_append, plc, ih]
    by_cases h : b = s
    · simp [h]
    · simp only [h, if_false]
      by_cases h2 : plc l s = 0
      · by_cases h3 : a = s <;> simp [h2, h3]
      · simp [h2]

theorem plc_nodup {l : List ByteArray} (h : l.Nodup) {i : Nat} {s : ByteArray} (hi : l[i]? = some s) : plc l s = i + 1 := by
  refine plc_hit hi (fun j hj e => ?_)
  have hl : i < l.length := (List.getElem?_eq_some_iff.1 hi).1
  have := (List.getElem?_inj (i := j) (j := i) (by omega) h).1 (by rw [hi, e])
  omega

theorem nodup_of_plc : ∀ {l : List ByteArray}, (∀ i s, l[i]? = some s → plc l s = i + 1) → l.Nodup := by
  intro l h
  rw [List.Nodup, List.pairwise_iff_getElem]
  intro i j hi hj hij e
  have h1 := h i l[i] (List.getElem?_eq_getElem hi)
  have h2 := h j l[i] (by rw [e]; exact List.getElem?_eq_getElem hj)
  omega

/-- May they be names that were ahead? -/
def nmB (c : ByteArray) : Bool := decide (1 ≤ c.size ∧ c.size ≤ 24)
def rgtB (l : List ByteArray) : Bool := decide (l.length ≤ 32 ∧ (∀ s ∈ l, nmB s = true) ∧ l.Nodup)

theorem rgtB_iff {l : List ByteArray} : rgtB l = true ↔ l.length ≤ 32 ∧ (∀ s ∈ l, nmB s = true) ∧ l.Nodup := by simp [rgtB]

/-- What the places of names are as a table. -/
structure Plcs (l : List ByteArray) (es : List (ByteArray × Int)) : Prop where
  le : es.length ≤ l.length
  nd : es.length = l.length ↔ l.Nodup
  has : ∀ s, mhas es s = true ↔ s ∈ l
  get : ∀ s, mget es s = plc l s

theorem Plcs.nil : Plcs [] [] := ⟨by simp, by simp, by simp [mhas], by simp [mget, plc]⟩

theorem mset_new {es : List (ByteArray × Int)} {k : ByteArray} {n : Int} (h : mhas es k = false) : mset es k n = es ++ [(k, n)] := by
  unfold mset
  induction es with
  | nil => rfl
  | cons e es ih =>
    simp only [mhas, List.any_cons, Bool.or_eq_false_iff, decide_eq_false_iff_not] at h
    simp only [msetR, h.1, if_false, List.cons_append]
    rw [ih (by simpa [mhas] using h.2)]

theorem Plcs.old {l : List ByteArray} {es : List (ByteArray × Int)} (h : Plcs l es) {a : ByteArray} (ha : mhas es a = true) : Plcs (l ++ [a]) es := by
  have hm := (h.has a).1 ha
  refine ⟨by have := h.le; simp; omega, ?_, fun s => ?_, fun s => ?_⟩
  · have := h.le
    simp only [List.length_append, List.length_cons, List.length_nil]
    constructor
    · intro e; omega
    · intro hn
      rw [List.nodup_append] at hn
      exact absurd rfl (hn.2.2 a hm a (by simp))
  · rw [h.has s]; simp only [List.mem_append, List.mem_singleton]
    exact ⟨.inl, fun e => e.elim id (fun e => e ▸ hm)⟩
  · rw [h.get s, plc_snoc]
    by_cases hp : plc l s = 0
    · have : a ≠ s := fun e => (plc_zero.1 hp) (e ▸ hm)
      simp [hp, this]
    · simp [hp]

theorem Plcs.new {l : List ByteArray} {es : List (ByteArray × Int)} (h : Plcs l es) {a : ByteArray} (ha : mhas es a = false) {n : Int} (hn : n = l.length + 1) : Plcs (l ++ [a]) (mset es a n) := by
  have hm : a ∉ l := fun e => by rw [(h.has a).2 e] at ha; cases ha
  rw [mset_new ha]
  refine ⟨by have := h.le; simp; omega, ?_, fun s => ?_, fun s => ?_⟩
  · simp only [List.length_append, List.length_cons, List.length_nil, Nat.add_right_cancel_iff]
    rw [h.nd, List.nodup_append]
    simp only [List.nodup_cons, List.not_mem_nil, not_false_eq_true, List.nodup_nil, and_self, true_and, List.mem_cons, or_false]
    exact ⟨fun e => ⟨e, fun x hx b hb e2 => hm (by rw [← hb, ← e2]; exact hx)⟩, fun e => e.1⟩
  · have hs := h.has s
    simp only [mhas, List.any_append, List.any_cons, List.any_nil, Bool.or_false, Bool.or_eq_true, decide_eq_true_eq, List.mem_append, List.mem_singleton] at hs ⊢
    rw [hs]
    exact or_congr Iff.rfl ⟨fun e => e.symm, fun e => e.symm⟩
  · have hg := h.get s
    rw [plc_snoc]
    by_cases hp : plc l s = 0
    · have hns : mhas es s = false := by
        cases e : mhas es s with
        | false => rfl
        | true => exact absurd ((h.has s).1 e) (plc_zero.1 hp)
      have hf : es.find? (fun e => decide (e.1 = s)) = none := by
        rw [List.find?_eq_none]
        intro e he hd
        simp only [mhas, List.any_eq_false] at hns
        exact hns e he hd
      simp only [mget, List.find?_append, hf, Option.none_or, hp, ne_eq, not_true_eq_false, if_false]
      by_cases hs : a = s
      · subst hs; simp; omega
      · simp [hs]
    · simp only [hp, ne_eq, not_false_eq_true, if_true]
      rw [← hg]
      have hns : mhas es s = true := (h.has s).2 (by rw [plc_zero] at hp; exact Classical.not_not.1 hp)
      simp only [mhas, List.any_eq_true] at hns
      obtain ⟨x, hx, hd⟩ := hns
      simp only [mget, List.find?_append]
      cases hf : es.find? (fun e => decide (e.1 = s)) with
      | none => exact absurd hd (List.find?_eq_none.1 hf x hx)
      | some y => simp

theorem take_snoc {l : List ByteArray} {i : Nat} (h : i < l.length) : l.take (i + 1) = l.take i ++ [nmAt l i] := by
  rw [List.take_add_one, nmAt_some h]; rfl

end Go.Px

/- Printed conditions of functions: layer 28, a line. -/
import Derived.Test.YtknnooannohflaaDoorXrD1
namespace Go.Proofs.YtknnooannohflaaDoor.Met
open Go Go.Px Go.Proofs
set_option maxRecDepth 100000
set_option linter.unusedVariables false

theorem Zvl (s : ByteArray) (Q : List SV → Prop) (h : ifB (igt (slen s) 0) ((((0 : Int) ≤ 0) ∧ (0 < (slen s))) ∧ (ifB (ieq (sbyte s 0) 35) (Cl Tryd.prog 82 sP [S s] (fun rs => ∃ x s1, ∃ s2 s3, ∃ l x1 x2, (rs = [SV.agg [I x, S s1, S s2, S s3, SL 2 l, I x1, I x2]]) ∧ (Q ([SV.agg [I x, S s1, S s2, S s3, SL 2 l, I x1, I x2]])))) (Cl Tryd.prog 83 sP [S s, I 0] (fun rs => ∃ x s1 b, (rs = [SV.agg [I x, S s1, B b]]) ∧ (ifB b (Cl Tryd.prog 84 sP ([SV.agg [I x, S s1, B b]]) (fun rs1 => ∃ x1 s2, ∃ s3 s4, ∃ l x2 x3, (rs1 = [SV.agg [I x1, S s2, S s3, S s4, SL 2 l, I x2, I x3]]) ∧ (Q ([SV.agg [I x1, S s2, S s3, S s4, SL 2 l, I x2, I x3]])))) (∃ Inv : Int → Int → ByteArray → Bool → Int → ByteArray → ByteArray → ByteArray → (LL) → Int → Int → Prop, ∃ m : Int → Int → ByteArray → Bool → Int → ByteArray → ByteArray → ByteArray → (LL) → Int → Int → Nat, (Inv x x s1 b 3 s1 (ByteArray.mk (Array.mk [])) s1 [] ((0 : Int)) ((0 : Int))) ∧ (∀ x1 x2, ∀ s2 b1, ∀ x3 s3, ∀ s4 s5, ∀ l x4 x5, (Inv x1 x2 s2 b1 x3 s3 s4 s5 l x4 x5) → ifB (ilt x1 (slen s)) ((((0 : Int) ≤ x1) ∧ (x1 < (slen s))) ∧ (ifB (bpick (ieq (sbyte s x1) 123) (ieq (rlen l) 0) false) (Cl Tryd.prog 83 sP [S s, I (wadd .i64 x1 1)] (fun rs1 => ∃ x6 s6 b2, (rs1 = [SV.agg [I x6, S s6, B b2]]) ∧ (ifB b2 (Cl Tryd.prog 84 sP ([SV.agg [I x6, S s6, B b2]]) (fun rs2 => ∃ x7 s7, ∃ s8 s9, ∃ l1 x8 x9, (rs2 = [SV.agg [I x7, S s7, S s8, S s9, SL 2 l1, I x8, I x9]]) ∧ (Q ([SV.agg [I x7, S s7, S s8, S s9, SL 2 l1, I x8, I x9]])))) ((Zc8 ([[U8 34]])) ∧ (((lsum (slen (ByteArray.mk (Array.mk [61]))) (slen (bstr ([[U8 34]])))) ≤ 9223372036854775807) ∧ (Cl Tryd.prog 85 sP ([S s, I x6, S (scat (ByteArray.mk (Array.mk [61])) (bstr ([[U8 34]])))]) (fun rs2 => ∃ x7 s7 b3, (rs2 = [SV.agg [I x7, S s7, B b3]]) ∧ (ifB b3 (Cl Tryd.prog 84 sP ([SV.agg [I x7, S s7, B b3]]) (fun rs3 => ∃ x8 s8, ∃ s9 s10, ∃ l1 x9 x10, (rs3 = [SV.agg [I x8, S s8, S s9, S s10, SL 2 l1, I x9, I x10]]) ∧ (Q ([SV.agg [I x8, S s8, S s9, S s10, SL 2 l1, I x9, I x10]])))) (Cl Tryd.prog 86 sP [S s, I x7, B true] (fun rs3 => ∃ x8 s8 b4, (rs3 = [SV.agg [I x8, S s8, B b4]]) ∧ (ifB b4 (Cl Tryd.prog 84 sP ([SV.agg [I x8, S s8, B b4]]) (fun rs4 => ∃ x9 s9, ∃ s10 s11, ∃ l1 x10 x11, (rs4 = [SV.agg [I x9, S s9, S s10, S s11, SL 2 l1, I x10, I x11]]) ∧ (Q ([SV.agg [I x9, S s9, S s10, S s11, SL 2 l1, I x10, I x11]])))) (((lsum (rlen l) (rlen ([[S s6, S s8]]))) ≤ ((2147483648 : Int))) ∧ ((Sm (some ([[I ((0 : Int)), S (ByteArray.mk (Array.mk [])), S (ByteArray.mk (Array.mk [])), S (ByteArray.mk (Array.mk [])), SV.slice 2 [] 1, I ((0 : Int)), I ((0 : Int))]]))) ∧ ((Inv x8 x8 s8 b4 x3 s3 s4 s5 (rapp l ([[S s6, S s8]])) x4 x5) ∧ (Nat.le (Nat.succ (m x8 x8 s8 b4 x3 s3 s4 s5 (rapp l ([[S s6, S s8]])) x4 x5)) (m x1 x2 s2 b1 x3 s3 s4 s5 l x4 x5)))))))))))))))) ((((0 : Int) ≤ x1) ∧ (x1 < (slen s))) ∧ (ifB (bpick (ieq (sbyte s x1) 44) (igt (rlen l) 0) false) (Cl Tryd.prog 83 sP [S s, I (wadd .i64 x1 1)] (fun rs1 => ∃ x6 s6 b2, (rs1 = [SV.agg [I x6, S s6, B b2]]) ∧ (ifB b2 (Cl Tryd.prog 84 sP ([SV.agg [I x6, S s6, B b2]]) (fun rs2 => ∃ x7 s7, ∃ s8 s9, ∃ l1 x8 x9, (rs2 = [SV.agg [I x7, S s7, S s8, S s9, SL 2 l1, I x8, I x9]]) ∧ (Q ([SV.agg [I x7, S s7, S s8, S s9, SL 2 l1, I x8, I x9]])))) ((Zc8 ([[U8 34]])) ∧ (((lsum (slen (ByteArray.mk (Array.mk [61]))) (slen (bstr ([[U8 34]])))) ≤ 9223372036854775807) ∧ (Cl Tryd.prog 85 sP ([S s, I x6, S (scat (ByteArray.mk (Array.mk [61])) (bstr ([[U8 34]])))]) (fun rs2 => ∃ x7 s7 b3, (rs2 = [SV.agg [I x7, S s7, B b3]]) ∧ (ifB b3 (Cl Tryd.prog 84 sP ([SV.agg [I x7, S s7, B b3]]) (fun rs3 => ∃ x8 s8, ∃ s9 s10, ∃ l1 x9 x10, (rs3 = [SV.agg [I x8, S s8, S s9, S s10, SL 2 l1, I x9, I x10]]) ∧ (Q ([SV.agg [I x8, S s8, S s9, S s10, SL 2 l1, I x9, I x10]])))) (Cl Tryd.prog 86 sP [S s, I x7, B true] (fun rs3 => ∃ x8 s8 b4, (rs3 = [SV.agg [I x8, S s8, B b4]]) ∧ (ifB b4 (Cl Tryd.prog 84 sP ([SV.agg [I x8, S s8, B b4]]) (fun rs4 => ∃ x9 s9, ∃ s10 s11, ∃ l1 x10 x11, (rs4 = [SV.agg [I x9, S s9, S s10, S s11, SL 2 l1, I x10, I x11]]) ∧ (Q ([SV.agg [I x9, S s9, S s10, S s11, SL 2 l1, I x10, I x11]])))) (((lsum (rlen l) (rlen ([[S s6, S s8]]))) ≤ ((2147483648 : Int))) ∧ ((Sm (some ([[I ((0 : Int)), S (ByteArray.mk (Array.mk [])), S (ByteArray.mk (Array.mk [])), S (ByteArray.mk (Array.mk [])), SV.slice 2 [] 1, I ((0 : Int)), I ((0 : Int))]]))) ∧ ((Inv x8 x8 s8 b4 x3 s3 s4 s5 (rapp l ([[S s6, S s8]])) x4 x5) ∧ (Nat.le (Nat.succ (m x8 x8 s8 b4 x3 s3 s4 s5 (rapp l ([[S s6, S s8]])) x4 x5)) (m x1 x2 s2 b1 x3 s3 s4 s5 l x4 x5)))))))))))))))) (ifB (igt (rlen l) 0) (∃ Inv1 : ByteArray → Int → ByteArray → Bool → Int → ByteArray → ByteArray → ByteArray → (LL) → Int → Int → Prop, ∃ m1 : ByteArray → Int → ByteArray → Bool → Int → ByteArray → ByteArray → ByteArray → (LL) → Int → Int → Nat, ((Sm (some ([[I ((0 : Int)), S (ByteArray.mk (Array.mk [])), S (ByteArray.mk (Array.mk [])), S (ByteArray.mk (Array.mk [])), SV.slice 2 [] 1, I ((0 : Int)), I ((0 : Int))]]))) ∧ (Inv1 (ByteArray.mk (Array.mk [125, 32])) x2 s2 b1 x3 s3 s4 s5 l x4 x5)) ∧ (∀ s6 x6, ∀ s7 b2, ∀ x7 s8, ∀ s9 s10, ∀ l1 x8 x9, (Inv1 s6 x6 s7 b2 x7 s8 s9 s10 l1 x8 x9) → Cl Tryd.prog 85 sP [S s, I x1, S s6] (fun rs1 => ∃ x10 s11 b3, (rs1 = [SV.agg [I x10, S s11, B b3]]) ∧ (ifB b3 (Cl Tryd.prog 84 sP ([SV.agg [I x10, S s11, B b3]]) (fun rs2 => ∃ x11 s12, ∃ s13 s14, ∃ l2 x12 x13, (rs2 = [SV.agg [I x11, S s12, S s13, S s14, SL 2 l2, I x12, I x13]]) ∧ (Q ([SV.agg [I x11, S s12, S s13, S s14, SL 2 l2, I x12, I x13]])))) (Cl Tryd.prog 87 sP [S s, I x10] (fun rs2 => ∃ x11 x12, ∃ s12 b4, (rs2 = [I x11, SV.agg [I x12, S s12, B b4]]) ∧ (ifB (bpick b4 true (ilt x12 (slen s))) (Cl Tryd.prog 84 sP ([SV.agg [I x12, S s12, B b4]]) (fun rs3 => ∃ x13 s13, ∃ s14 s15, ∃ l2 x14 x15, (rs3 = [SV.agg [I x13, S s13, S s14, S s15, SL 2 l2, I x14, I x15]]) ∧ (Q ([SV.agg [I x13, S s13, S s14, S s15, SL 2 l2, I x14, I x15]])))) (Q ([SV.agg [I x7, S s8, S s9, S s10, SL 2 l1, I x11, I x9]]))))))))) (Cl Tryd.prog 85 sP ([S s, I x1, S (ByteArray.mk (Array.mk [32]))]) (fun rs1 => ∃ x6 s6 b2, (rs1 = [SV.agg [I x6, S s6, B b2]]) ∧ (ifB b2 (Cl Tryd.prog 84 sP ([SV.agg [I x6, S s6, B b2]]) (fun rs2 => ∃ x7 s7, ∃ s8 s9, ∃ l1 x8 x9, (rs2 = [SV.agg [I x7, S s7, S s8, S s9, SL 2 l1, I x8, I x9]]) ∧ (Q ([SV.agg [I x7, S s7, S s8, S s9, SL 2 l1, I x8, I x9]])))) (Cl Tryd.prog 87 sP [S s, I x6] (fun rs2 => ∃ x7 x8, ∃ s7 b3, (rs2 = [I x7, SV.agg [I x8, S s7, B b3]]) ∧ (ifB (bpick b3 true (ilt x8 (slen s))) (Cl Tryd.prog 84 sP ([SV.agg [I x8, S s7, B b3]]) (fun rs3 => ∃ x9 s8, ∃ s9 s10, ∃ l1 x10 x11, (rs3 = [SV.agg [I x9, S s8, S s9, S s10, SL 2 l1, I x10, I x11]]) ∧ (Q ([SV.agg [I x9, S s8, S s9, S s10, SL 2 l1, I x10, I x11]])))) (Q ([SV.agg [I x3, S s3, S s4, S s5, SL 2 l, I x7, I x5]]))))))))))))) (ifB (igt (rlen l) 0) (∃ Inv1 : ByteArray → Int → ByteArray → Bool → Int → ByteArray → ByteArray → ByteArray → (LL) → Int → Int → Prop, ∃ m1 : ByteArray → Int → ByteArray → Bool → Int → ByteArray → ByteArray → ByteArray → (LL) → Int → Int → Nat, ((Sm (some ([[I ((0 : Int)), S (ByteArray.mk (Array.mk [])), S (ByteArray.mk (Array.mk [])), S (ByteArray.mk (Array.mk [])), SV.slice 2 [] 1, I ((0 : Int)), I ((0 : Int))]]))) ∧ (Inv1 (ByteArray.mk (Array.mk [125, 32])) x2 s2 b1 x3 s3 s4 s5 l x4 x5)) ∧ (∀ s6 x6, ∀ s7 b2, ∀ x7 s8, ∀ s9 s10, ∀ l1 x8 x9, (Inv1 s6 x6 s7 b2 x7 s8 s9 s10 l1 x8 x9) → Cl Tryd.prog 85 sP [S s, I x1, S s6] (fun rs1 => ∃ x10 s11 b3, (rs1 = [SV.agg [I x10, S s11, B b3]]) ∧ (ifB b3 (Cl Tryd.prog 84 sP ([SV.agg [I x10, S s11, B b3]]) (fun rs2 => ∃ x11 s12, ∃ s13 s14, ∃ l2 x12 x13, (rs2 = [SV.agg [I x11, S s12, S s13, S s14, SL 2 l2, I x12, I x13]]) ∧ (Q ([SV.agg [I x11, S s12, S s13, S s14, SL 2 l2, I x12, I x13]])))) (Cl Tryd.prog 87 sP [S s, I x10] (fun rs2 => ∃ x11 x12, ∃ s12 b4, (rs2 = [I x11, SV.agg [I x12, S s12, B b4]]) ∧ (ifB (bpick b4 true (ilt x12 (slen s))) (Cl Tryd.prog 84 sP ([SV.agg [I x12, S s12, B b4]]) (fun rs3 => ∃ x13 s13, ∃ s14 s15, ∃ l2 x14 x15, (rs3 = [SV.agg [I x13, S s13, S s14, S s15, SL 2 l2, I x14, I x15]]) ∧ (Q ([SV.agg [I x13, S s13, S s14, S s15, SL 2 l2, I x14, I x15]])))) (Q ([SV.agg [I x7, S s8, S s9, S s10, SL 2 l1, I x11, I x9]]))))))))) (Cl Tryd.prog 85 sP ([S s, I x1, S (ByteArray.mk (Array.mk [32]))]) (fun rs1 => ∃ x6 s6 b2, (rs1 = [SV.agg [I x6, S s6, B b2]]) ∧ (ifB b2 (Cl Tryd.prog 84 sP ([SV.agg [I x6, S s6, B b2]]) (fun rs2 => ∃ x7 s7, ∃ s8 s9, ∃ l1 x8 x9, (rs2 = [SV.agg [I x7, S s7, S s8, S s9, SL 2 l1, I x8, I x9]]) ∧ (Q ([SV.agg [I x7, S s7, S s8, S s9, SL 2 l1, I x8, I x9]])))) (Cl Tryd.prog 87 sP [S s, I x6] (fun rs2 => ∃ x7 x8, ∃ s7 b3, (rs2 = [I x7, SV.agg [I x8, S s7, B b3]]) ∧ (ifB (bpick b3 true (ilt x8 (slen s))) (Cl Tryd.prog 84 sP ([SV.agg [I x8, S s7, B b3]]) (fun rs3 => ∃ x9 s8, ∃ s9 s10, ∃ l1 x10 x11, (rs3 = [SV.agg [I x9, S s8, S s9, S s10, SL 2 l1, I x10, I x11]]) ∧ (Q ([SV.agg [I x9, S s8, S s9, S s10, SL 2 l1, I x10, I x11]])))) (Q ([SV.agg [I x3, S s3, S s4, S s5, SL 2 l, I x7, I x5]])))))))))))))))) (Cl Tryd.prog 83 sP [S s, I 0] (fun rs => ∃ x s1 b, (rs = [SV.agg [I x, S s1, B b]]) ∧ (ifB b (Cl Tryd.prog 84 sP ([SV.agg [I x, S s1, B b]]) (fun rs1 => ∃ x1 s2, ∃ s3 s4, ∃ l x2 x3, (rs1 = [SV.agg [I x1, S s2, S s3, S s4, SL 2 l, I x2, I x3]]) ∧ (Q ([SV.agg [I x1, S s2, S s3, S s4, SL 2 l, I x2, I x3]])))) (∃ Inv : Int → Int → ByteArray → Bool → Int → ByteArray → ByteArray → ByteArray → (LL) → Int → Int → Prop, ∃ m : Int → Int → ByteArray → Bool → Int → ByteArray → ByteArray → ByteArray → (LL) → Int → Int → Nat, (Inv x x s1 b 3 s1 (ByteArray.mk (Array.mk [])) s1 [] ((0 : Int)) ((0 : Int))) ∧ (∀ x1 x2, ∀ s2 b1, ∀ x3 s3, ∀ s4 s5, ∀ l x4 x5, (Inv x1 x2 s2 b1 x3 s3 s4 s5 l x4 x5) → ifB (ilt x1 (slen s)) ((((0 : Int) ≤ x1) ∧ (x1 < (slen s))) ∧ (ifB (bpick (ieq (sbyte s x1) 123) (ieq (rlen l) 0) false) (Cl Tryd.prog 83 sP [S s, I (wadd .i64 x1 1)] (fun rs1 => ∃ x6 s6 b2, (rs1 = [SV.agg [I x6, S s6, B b2]]) ∧ (ifB b2 (Cl Tryd.prog 84 sP ([SV.agg [I x6, S s6, B b2]]) (fun rs2 => ∃ x7 s7, ∃ s8 s9, ∃ l1 x8 x9, (rs2 = [SV.agg [I x7, S s7, S s8, S s9, SL 2 l1, I x8, I x9]]) ∧ (Q ([SV.agg [I x7, S s7, S s8, S s9, SL 2 l1, I x8, I x9]])))) ((Zc8 ([[U8 34]])) ∧ (((lsum (slen (ByteArray.mk (Array.mk [61]))) (slen (bstr ([[U8 34]])))) ≤ 9223372036854775807) ∧ (Cl Tryd.prog 85 sP ([S s, I x6, S (scat (ByteArray.mk (Array.mk [61])) (bstr ([[U8 34]])))]) (fun rs2 => ∃ x7 s7 b3, (rs2 = [SV.agg [I x7, S s7, B b3]]) ∧ (ifB b3 (Cl Tryd.prog 84 sP ([SV.agg [I x7, S s7, B b3]]) (fun rs3 => ∃ x8 s8, ∃ s9 s10, ∃ l1 x9 x10, (rs3 = [SV.agg [I x8, S s8, S s9, S s10, SL 2 l1, I x9, I x10]]) ∧ (Q ([SV.agg [I x8, S s8, S s9, S s10, SL 2 l1, I x9, I x10]])))) (Cl Tryd.prog 86 sP [S s, I x7, B true] (fun rs3 => ∃ x8 s8 b4, (rs3 = [SV.agg [I x8, S s8, B b4]]) ∧ (ifB b4 (Cl Tryd.prog 84 sP ([SV.agg [I x8, S s8, B b4]]) (fun rs4 => ∃ x9 s9, ∃ s10 s11, ∃ l1 x10 x11, (rs4 = [SV.agg [I x9, S s9, S s10, S s11, SL 2 l1, I x10, I x11]]) ∧ (Q ([SV.agg [I x9, S s9, S s10, S s11, SL 2 l1, I x10, I x11]])))) (((lsum (rlen l) (rlen ([[S s6, S s8]]))) ≤ ((2147483648 : Int))) ∧ ((Sm (some ([[I ((0 : Int)), S (ByteArray.mk (Array.mk [])), S (ByteArray.mk (Array.mk [])), S (ByteArray.mk (Array.mk [])), SV.slice 2 [] 1, I ((0 : Int)), I ((0 : Int))]]))) ∧ ((Inv x8 x8 s8 b4 x3 s3 s4 s5 (rapp l ([[S s6, S s8]])) x4 x5) ∧ (Nat.le (Nat.succ (m x8 x8 s8 b4 x3 s3 s4 s5 (rapp l ([[S s6, S s8]])) x4 x5)) (m x1 x2 s2 b1 x3 s3 s4 s5 l x4 x5)))))))))))))))) ((((0 : Int) ≤ x1) ∧ (x1 < (slen s))) ∧ (ifB (bpick (ieq (sbyte s x1) 44) (igt (rlen l) 0) false) (Cl Tryd.prog 83 sP [S s, I (wadd .i64 x1 1)] (fun rs1 => ∃ x6 s6 b2, (rs1 = [SV.agg [I x6, S s6, B b2]]) ∧ (ifB b2 (Cl Tryd.prog 84 sP ([SV.agg [I x6, S s6, B b2]]) (fun rs2 => ∃ x7 s7, ∃ s8 s9, ∃ l1 x8 x9, (rs2 = [SV.agg [I x7, S s7, S s8, S s9, SL 2 l1, I x8, I x9]]) ∧ (Q ([SV.agg [I x7, S s7, S s8, S s9, SL 2 l1, I x8, I x9]])))) ((Zc8 ([[U8 34]])) ∧ (((lsum (slen (ByteArray.mk (Array.mk [61]))) (slen (bstr ([[U8 34]])))) ≤ 9223372036854775807) ∧ (Cl Tryd.prog 85 sP ([S s, I x6, S (scat (ByteArray.mk (Array.mk [61])) (bstr ([[U8 34]])))]) (fun rs2 => ∃ x7 s7 b3, (rs2 = [SV.agg [I x7, S s7, B b3]]) ∧ (ifB b3 (Cl Tryd.prog 84 sP ([SV.agg [I x7, S s7, B b3]]) (fun rs3 => ∃ x8 s8, ∃ s9 s10, ∃ l1 x9 x10, (rs3 = [SV.agg [I x8, S s8, S s9, S s10, SL 2 l1, I x9, I x10]]) ∧ (Q ([SV.agg [I x8, S s8, S s9, S s10, SL 2 l1, I x9, I x10]])))) (Cl Tryd.prog 86 sP [S s, I x7, B true] (fun rs3 => ∃ x8 s8 b4, (rs3 = [SV.agg [I x8, S s8, B b4]]) ∧ (ifB b4 (Cl Tryd.prog 84 sP ([SV.agg [I x8, S s8, B b4]]) (fun rs4 => ∃ x9 s9, ∃ s10 s11, ∃ l1 x10 x11, (rs4 = [SV.agg [I x9, S s9, S s10, S s11, SL 2 l1, I x10, I x11]]) ∧ (Q ([SV.agg [I x9, S s9, S s10, S s11, SL 2 l1, I x10, I x11]])))) (((lsum (rlen l) (rlen ([[S s6, S s8]]))) ≤ ((2147483648 : Int))) ∧ ((Sm (some ([[I ((0 : Int)), S (ByteArray.mk (Array.mk [])), S (ByteArray.mk (Array.mk [])), S (ByteArray.mk (Array.mk [])), SV.slice 2 [] 1, I ((0 : Int)), I ((0 : Int))]]))) ∧ ((Inv x8 x8 s8 b4 x3 s3 s4 s5 (rapp l ([[S s6, S s8]])) x4 x5) ∧ (Nat.le (Nat.succ (m x8 x8 s8 b4 x3 s3 s4 s5 (rapp l ([[S s6, S s8]])) x4 x5)) (m x1 x2 s2 b1 x3 s3 s4 s5 l x4 x5)))))))))))))))) (ifB (igt (rlen l) 0) (∃ Inv1 : ByteArray → Int → ByteArray → Bool → Int → ByteArray → ByteArray → ByteArray → (LL) → Int → Int → Prop, ∃ m1 : ByteArray → Int → ByteArray → Bool → Int → ByteArray → ByteArray → ByteArray → (LL) → Int → Int → Nat, ((Sm (some ([[I ((0 : Int)), S (ByteArray.mk (Array.mk [])), S (ByteArray.mk (Array.mk [])), S (ByteArray.mk (Array.mk [])), SV.slice 2 [] 1, I ((0 : Int)), I ((0 : Int))]]))) ∧ (Inv1 (ByteArray.mk (Array.mk [125, 32])) x2 s2 b1 x3 s3 s4 s5 l x4 x5)) ∧ (∀ s6 x6, ∀ s7 b2, ∀ x7 s8, ∀ s9 s10, ∀ l1 x8 x9, (Inv1 s6 x6 s7 b2 x7 s8 s9 s10 l1 x8 x9) → Cl Tryd.prog 85 sP [S s, I x1, S s6] (fun rs1 => ∃ x10 s11 b3, (rs1 = [SV.agg [I x10, S s11, B b3]]) ∧ (ifB b3 (Cl Tryd.prog 84 sP ([SV.agg [I x10, S s11, B b3]]) (fun rs2 => ∃ x11 s12, ∃ s13 s14, ∃ l2 x12 x13, (rs2 = [SV.agg [I x11, S s12, S s13, S s14, SL 2 l2, I x12, I x13]]) ∧ (Q ([SV.agg [I x11, S s12, S s13, S s14, SL 2 l2, I x12, I x13]])))) (Cl Tryd.prog 87 sP [S s, I x10] (fun rs2 => ∃ x11 x12, ∃ s12 b4, (rs2 = [I x11, SV.agg [I x12, S s12, B b4]]) ∧ (ifB (bpick b4 true (ilt x12 (slen s))) (Cl Tryd.prog 84 sP ([SV.agg [I x12, S s12, B b4]]) (fun rs3 => ∃ x13 s13, ∃ s14 s15, ∃ l2 x14 x15, (rs3 = [SV.agg [I x13, S s13, S s14, S s15, SL 2 l2, I x14, I x15]]) ∧ (Q ([SV.agg [I x13, S s13, S s14, S s15, SL 2 l2, I x14, I x15]])))) (Q ([SV.agg [I x7, S s8, S s9, S s10, SL 2 l1, I x11, I x9]]))))))))) (Cl Tryd.prog 85 sP ([S s, I x1, S (ByteArray.mk (Array.mk [32]))]) (fun rs1 => ∃ x6 s6 b2, (rs1 = [SV.agg [I x6, S s6, B b2]]) ∧ (ifB b2 (Cl Tryd.prog 84 sP ([SV.agg [I x6, S s6, B b2]]) (fun rs2 => ∃ x7 s7, ∃ s8 s9, ∃ l1 x8 x9, (rs2 = [SV.agg [I x7, S s7, S s8, S s9, SL 2 l1, I x8, I x9]]) ∧ (Q ([SV.agg [I x7, S s7, S s8, S s9, SL 2 l1, I x8, I x9]])))) (Cl Tryd.prog 87 sP [S s, I x6] (fun rs2 => ∃ x7 x8, ∃ s7 b3, (rs2 = [I x7, SV.agg [I x8, S s7, B b3]]) ∧ (ifB (bpick b3 true (ilt x8 (slen s))) (Cl Tryd.prog 84 sP ([SV.agg [I x8, S s7, B b3]]) (fun rs3 => ∃ x9 s8, ∃ s9 s10, ∃ l1 x10 x11, (rs3 = [SV.agg [I x9, S s8, S s9, S s10, SL 2 l1, I x10, I x11]]) ∧ (Q ([SV.agg [I x9, S s8, S s9, S s10, SL 2 l1, I x10, I x11]])))) (Q ([SV.agg [I x3, S s3, S s4, S s5, SL 2 l, I x7, I x5]]))))))))))))) (ifB (igt (rlen l) 0) (∃ Inv1 : ByteArray → Int → ByteArray → Bool → Int → ByteArray → ByteArray → ByteArray → (LL) → Int → Int → Prop, ∃ m1 : ByteArray → Int → ByteArray → Bool → Int → ByteArray → ByteArray → ByteArray → (LL) → Int → Int → Nat, ((Sm (some ([[I ((0 : Int)), S (ByteArray.mk (Array.mk [])), S (ByteArray.mk (Array.mk [])), S (ByteArray.mk (Array.mk [])), SV.slice 2 [] 1, I ((0 : Int)), I ((0 : Int))]]))) ∧ (Inv1 (ByteArray.mk (Array.mk [125, 32])) x2 s2 b1 x3 s3 s4 s5 l x4 x5)) ∧ (∀ s6 x6, ∀ s7 b2, ∀ x7 s8, ∀ s9 s10, ∀ l1 x8 x9, (Inv1 s6 x6 s7 b2 x7 s8 s9 s10 l1 x8 x9) → Cl Tryd.prog 85 sP [S s, I x1, S s6] (fun rs1 => ∃ x10 s11 b3, (rs1 = [SV.agg [I x10, S s11, B b3]]) ∧ (ifB b3 (Cl Tryd.prog 84 sP ([SV.agg [I x10, S s11, B b3]]) (fun rs2 => ∃ x11 s12, ∃ s13 s14, ∃ l2 x12 x13, (rs2 = [SV.agg [I x11, S s12, S s13, S s14, SL 2 l2, I x12, I x13]]) ∧ (Q ([SV.agg [I x11, S s12, S s13, S s14, SL 2 l2, I x12, I x13]])))) (Cl Tryd.prog 87 sP [S s, I x10] (fun rs2 => ∃ x11 x12, ∃ s12 b4, (rs2 = [I x11, SV.agg [I x12, S s12, B b4]]) ∧ (ifB (bpick b4 true (ilt x12 (slen s))) (Cl Tryd.prog 84 sP ([SV.agg [I x12, S s12, B b4]]) (fun rs3 => ∃ x13 s13, ∃ s14 s15, ∃ l2 x14 x15, (rs3 = [SV.agg [I x13, S s13, S s14, S s15, SL 2 l2, I x14, I x15]]) ∧ (Q ([SV.agg [I x13, S s13, S s14, S s15, SL 2 l2, I x14, I x15]])))) (Q ([SV.agg [I x7, S s8, S s9, S s10, SL 2 l1, I x11, I x9]]))))))))) (Cl Tryd.prog 85 sP ([S s, I x1, S (ByteArray.mk (Array.mk [32]))]) (fun rs1 => ∃ x6 s6 b2, (rs1 = [SV.agg [I x6, S s6, B b2]]) ∧ (ifB b2 (Cl Tryd.prog 84 sP ([SV.agg [I x6, S s6, B b2]]) (fun rs2 => ∃ x7 s7, ∃ s8 s9, ∃ l1 x8 x9, (rs2 = [SV.agg [I x7, S s7, S s8, S s9, SL 2 l1, I x8, I x9]]) ∧ (Q ([SV.agg [I x7, S s7, S s8, S s9, SL 2 l1, I x8, I x9]])))) (Cl Tryd.prog 87 sP [S s, I x6] (fun rs2 => ∃ x7 x8, ∃ s7 b3, (rs2 = [I x7, SV.agg [I x8, S s7, B b3]]) ∧ (ifB (bpick b3 true (ilt x8 (slen s))) (Cl Tryd.prog 84 sP ([SV.agg [I x8, S s7, B b3]]) (fun rs3 => ∃ x9 s8, ∃ s9 s10, ∃ l1 x10 x11, (rs3 = [SV.agg [I x9, S s8, S s9, S s10, SL 2 l1, I x10, I x11]]) ∧ (Q ([SV.agg [I x9, S s8, S s9, S s10, SL 2 l1, I x10, I x11]])))) (Q ([SV.agg [I x3, S s3, S s4, S s5, SL 2 l, I x7, I x5]]))))))))))))))) : Ct Tryd.prog 33 {} [S s] Q :=
 fn_of (f := 33) SgT SvT (fun k => bif Nat.beq k 34 then some { slots := [(5,false,[.int .i64])], boxes := [(384,[.int .i64,.str,.bool]),(512,[.int .i64,.str,.str,.str,.own 2,.int .i64,.int .i64])], fixed := [256] } else bif Nat.beq k 1000025 then some { slots := [(7,false,[.str])], boxes := [(384,[.int .i64,.str,.bool]),(512,[.int .i64,.str,.str,.str,.own 2,.int .i64,.int .i64])], fixed := [256], ptrs := [(3,384),(4,512)] } else none) Tryd.f33 Tryd.func33 (by kernel_rfl) (by kernel_rfl) h


def remK (s : ByteArray) (Q : List SV → Prop) (k0 : Int) (b0 : Bool) (x0 : Int) (s0 : ByteArray) : Prop := (∃ Inv : Bool → Int → ByteArray → ByteArray → ByteArray → (List (List SV)) → Int → Int → Int → ByteArray → Bool → Prop, ∃ m : Bool → Int → ByteArray → ByteArray → ByteArray → (List (List SV)) → Int → Int → Int → ByteArray → Bool → Nat, ((Option.some ([[I ((0 : Int)), S (ByteArray.mk (Array.mk [])), S (ByteArray.mk (Array.mk [])), S (ByteArray.mk (Array.mk [])), SV.slice 2 [] 1, I ((0 : Int)), I ((0 : Int))]]) = Option.some ([[I ((0 : Int)), S (ByteArray.mk (Array.mk [])), S (ByteArray.mk (Array.mk [])), S (ByteArray.mk (Array.mk [])), SV.slice 2 [] 1, I ((0 : Int)), I ((0 : Int))]])) ∧ (Inv b0 k0 (ByteArray.mk (Array.mk [])) (ByteArray.mk (Array.mk [])) (ByteArray.mk (Array.mk [])) [] ((0 : Int)) ((0 : Int)) x0 s0 b0)) ∧ (∀ b1 : Bool, ∀ x1 : Int, ∀ s2 : ByteArray, ∀ s3 : ByteArray, ∀ s4 : ByteArray, ∀ l : List (List SV), ∀ x2 : Int, ∀ x3 : Int, ∀ x4 : Int, ∀ s5 : ByteArray, ∀ b2 : Bool, (Inv b1 x1 s2 s3 s4 l x2 x3 x4 s5 b2) → ifB b1 (Cl Tryd.prog 84 sP ([SV.agg [I x4, S s5, B b2]]) (fun (rs1 : List SV) => ∃ x5 : Int, ∃ s6 : ByteArray, ∃ s7 : ByteArray, ∃ s8 : ByteArray, ∃ l1 : List (List SV), ∃ x6 : Int, ∃ x7 : Int, (rs1 = [SV.agg [I x5, S s6, S s7, S s8, SL 2 l1, I x6, I x7]]) ∧ (Q ([SV.agg [I x5, S s6, S s7, S s8, SL 2 l1, I x6, I x7]])))) (Cl Tryd.prog 83 sP [S s, I x4] (fun (rs1 : List SV) => ∃ x5 : Int, ∃ s6 : ByteArray, ∃ b3 : Bool, (rs1 = [SV.agg [I x5, S s6, B b3]]) ∧ (ifB b3 (Cl Tryd.prog 84 sP ([SV.agg [I x5, S s6, B b3]]) (fun (rs2 : List SV) => ∃ x6 : Int, ∃ s7 : ByteArray, ∃ s8 : ByteArray, ∃ s9 : ByteArray, ∃ l1 : List (List SV), ∃ x7 : Int, ∃ x8 : Int, (rs2 = [SV.agg [I x6, S s7, S s8, S s9, SL 2 l1, I x7, I x8]]) ∧ (Q ([SV.agg [I x6, S s7, S s8, S s9, SL 2 l1, I x7, I x8]])))) (Cl Tryd.prog 85 sP ([S s, I x5, S (ByteArray.mk (Array.mk [32]))]) (fun (rs2 : List SV) => ∃ x6 : Int, ∃ s7 : ByteArray, ∃ b4 : Bool, (rs2 = [SV.agg [I x6, S s7, B b4]]) ∧ (ifB b4 (Cl Tryd.prog 84 sP ([SV.agg [I x6, S s7, B b4]]) (fun (rs3 : List SV) => ∃ x7 : Int, ∃ s8 : ByteArray, ∃ s9 : ByteArray, ∃ s10 : ByteArray, ∃ l1 : List (List SV), ∃ x8 : Int, ∃ x9 : Int, (rs3 = [SV.agg [I x7, S s8, S s9, S s10, SL 2 l1, I x8, I x9]]) ∧ (Q ([SV.agg [I x7, S s8, S s9, S s10, SL 2 l1, I x8, I x9]])))) (ifB (ieq x1 1) (Cl Tryd.prog 86 sP [S s, I x6, B false] (fun (rs3 : List SV) => ∃ x7 : Int, ∃ s8 : ByteArray, ∃ b5 : Bool, (rs3 = [SV.agg [I x7, S s8, B b5]]) ∧ (ifB b5 (Cl Tryd.prog 84 sP ([SV.agg [I x7, S s8, B b5]]) (fun (rs4 : List SV) => ∃ x8 : Int, ∃ s9 : ByteArray, ∃ s10 : ByteArray, ∃ s11 : ByteArray, ∃ l1 : List (List SV), ∃ x9 : Int, ∃ x10 : Int, (rs4 = [SV.agg [I x8, S s9, S s10, S s11, SL 2 l1, I x9, I x10]]) ∧ (Q ([SV.agg [I x8, S s9, S s10, S s11, SL 2 l1, I x9, I x10]])))) (Q ([SV.agg [I x1, S s6, S s8, S s4, SL 2 l, I x2, I x3]]))))) (ifB (ilt x6 (slen s)) ((((0 : Int) ≤ x6) ∧ (x6 < (slen s))) ∧ (ifB (ieq (sbyte s x6) 99) (ifB (ilt x6 (slen s)) ((((0 : Int) ≤ x6) ∧ (x6 < (slen s))) ∧ (ifB (ieq (sbyte s x6) 103) (Cl Tryd.prog 85 sP ([S s, I x6, S (ByteArray.mk (Array.mk [103, 97, 117, 103, 101]))]) (fun (rs3 : List SV) => ∃ x7 : Int, ∃ s8 : ByteArray, ∃ b5 : Bool, (rs3 = [SV.agg [I x7, S s8, B b5]]) ∧ (ifB (bpick b5 true (ilt x7 (slen s))) (Cl Tryd.prog 84 sP ([SV.agg [I x7, S s8, B b5]]) (fun (rs4 : List SV) => ∃ x8 : Int, ∃ s9 : ByteArray, ∃ s10 : ByteArray, ∃ s11 : ByteArray, ∃ l1 : List (List SV), ∃ x9 : Int, ∃ x10 : Int, (rs4 = [SV.agg [I x8, S s9, S s10, S s11, SL 2 l1, I x9, I x10]]) ∧ (Q ([SV.agg [I x8, S s9, S s10, S s11, SL 2 l1, I x9, I x10]])))) (Q ([SV.agg ([I x1, S s6, S (ByteArray.mk (Array.mk [103, 97, 117, 103, 101])), S s4, SL 2 l, I x2, I x3])]))))) (Cl Tryd.prog 85 sP ([S s, I x6, S (ByteArray.mk (Array.mk [99, 111, 117, 110, 116, 101, 114]))]) (fun (rs3 : List SV) => ∃ x7 : Int, ∃ s8 : ByteArray, ∃ b5 : Bool, (rs3 = [SV.agg [I x7, S s8, B b5]]) ∧ (ifB (bpick b5 true (ilt x7 (slen s))) (Cl Tryd.prog 84 sP ([SV.agg [I x7, S s8, B b5]]) (fun (rs4 : List SV) => ∃ x8 : Int, ∃ s9 : ByteArray, ∃ s10 : ByteArray, ∃ s11 : ByteArray, ∃ l1 : List (List SV), ∃ x9 : Int, ∃ x10 : Int, (rs4 = [SV.agg [I x8, S s9, S s10, S s11, SL 2 l1, I x9, I x10]]) ∧ (Q ([SV.agg [I x8, S s9, S s10, S s11, SL 2 l1, I x9, I x10]])))) (Q ([SV.agg ([I x1, S s6, S (ByteArray.mk (Array.mk [99, 111, 117, 110, 116, 101, 114])), S s4, SL 2 l, I x2, I x3])]))))))) (Cl Tryd.prog 85 sP ([S s, I x6, S (ByteArray.mk (Array.mk [99, 111, 117, 110, 116, 101, 114]))]) (fun (rs3 : List SV) => ∃ x7 : Int, ∃ s8 : ByteArray, ∃ b5 : Bool, (rs3 = [SV.agg [I x7, S s8, B b5]]) ∧ (ifB (bpick b5 true (ilt x7 (slen s))) (Cl Tryd.prog 84 sP ([SV.agg [I x7, S s8, B b5]]) (fun (rs4 : List SV) => ∃ x8 : Int, ∃ s9 : ByteArray, ∃ s10 : ByteArray, ∃ s11 : ByteArray, ∃ l1 : List (List SV), ∃ x9 : Int, ∃ x10 : Int, (rs4 = [SV.agg [I x8, S s9, S s10, S s11, SL 2 l1, I x9, I x10]]) ∧ (Q ([SV.agg [I x8, S s9, S s10, S s11, SL 2 l1, I x9, I x10]])))) (Q ([SV.agg ([I x1, S s6, S (ByteArray.mk (Array.mk [99, 111, 117, 110, 116, 101, 114])), S s4, SL 2 l, I x2, I x3])])))))) (ifB (ilt x6 (slen s)) ((((0 : Int) ≤ x6) ∧ (x6 < (slen s))) ∧ (ifB (ieq (sbyte s x6) 103) (Cl Tryd.prog 85 sP ([S s, I x6, S (ByteArray.mk (Array.mk [103, 97, 117, 103, 101]))]) (fun (rs3 : List SV) => ∃ x7 : Int, ∃ s8 : ByteArray, ∃ b5 : Bool, (rs3 = [SV.agg [I x7, S s8, B b5]]) ∧ (ifB (bpick b5 true (ilt x7 (slen s))) (Cl Tryd.prog 84 sP ([SV.agg [I x7, S s8, B b5]]) (fun (rs4 : List SV) => ∃ x8 : Int, ∃ s9 : ByteArray, ∃ s10 : ByteArray, ∃ s11 : ByteArray, ∃ l1 : List (List SV), ∃ x9 : Int, ∃ x10 : Int, (rs4 = [SV.agg [I x8, S s9, S s10, S s11, SL 2 l1, I x9, I x10]]) ∧ (Q ([SV.agg [I x8, S s9, S s10, S s11, SL 2 l1, I x9, I x10]])))) (Q ([SV.agg ([I x1, S s6, S (ByteArray.mk (Array.mk [103, 97, 117, 103, 101])), S s4, SL 2 l, I x2, I x3])]))))) (Cl Tryd.prog 85 sP ([S s, I x6, S (ByteArray.mk (Array.mk [104, 105, 115, 116, 111, 103, 114, 97, 109]))]) (fun (rs3 : List SV) => ∃ x7 : Int, ∃ s8 : ByteArray, ∃ b5 : Bool, (rs3 = [SV.agg [I x7, S s8, B b5]]) ∧ (ifB (bpick b5 true (ilt x7 (slen s))) (Cl Tryd.prog 84 sP ([SV.agg [I x7, S s8, B b5]]) (fun (rs4 : List SV) => ∃ x8 : Int, ∃ s9 : ByteArray, ∃ s10 : ByteArray, ∃ s11 : ByteArray, ∃ l1 : List (List SV), ∃ x9 : Int, ∃ x10 : Int, (rs4 = [SV.agg [I x8, S s9, S s10, S s11, SL 2 l1, I x9, I x10]]) ∧ (Q ([SV.agg [I x8, S s9, S s10, S s11, SL 2 l1, I x9, I x10]])))) (Q ([SV.agg ([I x1, S s6, S (ByteArray.mk (Array.mk [104, 105, 115, 116, 111, 103, 114, 97, 109])), S s4, SL 2 l, I x2, I x3])]))))))) (Cl Tryd.prog 85 sP ([S s, I x6, S (ByteArray.mk (Array.mk [104, 105, 115, 116, 111, 103, 114, 97, 109]))]) (fun (rs3 : List SV) => ∃ x7 : Int, ∃ s8 : ByteArray, ∃ b5 : Bool, (rs3 = [SV.agg [I x7, S s8, B b5]]) ∧ (ifB (bpick b5 true (ilt x7 (slen s))) (Cl Tryd.prog 84 sP ([SV.agg [I x7, S s8, B b5]]) (fun (rs4 : List SV) => ∃ x8 : Int, ∃ s9 : ByteArray, ∃ s10 : ByteArray, ∃ s11 : ByteArray, ∃ l1 : List (List SV), ∃ x9 : Int, ∃ x10 : Int, (rs4 = [SV.agg [I x8, S s9, S s10, S s11, SL 2 l1, I x9, I x10]]) ∧ (Q ([SV.agg [I x8, S s9, S s10, S s11, SL 2 l1, I x9, I x10]])))) (Q ([SV.agg ([I x1, S s6, S (ByteArray.mk (Array.mk [104, 105, 115, 116, 111, 103, 114, 97, 109])), S s4, SL 2 l, I x2, I x3])])))))))) (ifB (ilt x6 (slen s)) ((((0 : Int) ≤ x6) ∧ (x6 < (slen s))) ∧ (ifB (ieq (sbyte s x6) 103) (Cl Tryd.prog 85 sP ([S s, I x6, S (ByteArray.mk (Array.mk [103, 97, 117, 103, 101]))]) (fun (rs3 : List SV) => ∃ x7 : Int, ∃ s8 : ByteArray, ∃ b5 : Bool, (rs3 = [SV.agg [I x7, S s8, B b5]]) ∧ (ifB (bpick b5 true (ilt x7 (slen s))) (Cl Tryd.prog 84 sP ([SV.agg [I x7, S s8, B b5]]) (fun (rs4 : List SV) => ∃ x8 : Int, ∃ s9 : ByteArray, ∃ s10 : ByteArray, ∃ s11 : ByteArray, ∃ l1 : List (List SV), ∃ x9 : Int, ∃ x10 : Int, (rs4 = [SV.agg [I x8, S s9, S s10, S s11, SL 2 l1, I x9, I x10]]) ∧ (Q ([SV.agg [I x8, S s9, S s10, S s11, SL 2 l1, I x9, I x10]])))) (Q ([SV.agg ([I x1, S s6, S (ByteArray.mk (Array.mk [103, 97, 117, 103, 101])), S s4, SL 2 l, I x2, I x3])]))))) (Cl Tryd.prog 85 sP ([S s, I x6, S (ByteArray.mk (Array.mk [104, 105, 115, 116, 111, 103, 114, 97, 109]))]) (fun (rs3 : List SV) => ∃ x7 : Int, ∃ s8 : ByteArray, ∃ b5 : Bool, (rs3 = [SV.agg [I x7, S s8, B b5]]) ∧ (ifB (bpick b5 true (ilt x7 (slen s))) (Cl Tryd.prog 84 sP ([SV.agg [I x7, S s8, B b5]]) (fun (rs4 : List SV) => ∃ x8 : Int, ∃ s9 : ByteArray, ∃ s10 : ByteArray, ∃ s11 : ByteArray, ∃ l1 : List (List SV), ∃ x9 : Int, ∃ x10 : Int, (rs4 = [SV.agg [I x8, S s9, S s10, S s11, SL 2 l1, I x9, I x10]]) ∧ (Q ([SV.agg [I x8, S s9, S s10, S s11, SL 2 l1, I x9, I x10]])))) (Q ([SV.agg ([I x1, S s6, S (ByteArray.mk (Array.mk [104, 105, 115, 116, 111, 103, 114, 97, 109])), S s4, SL 2 l, I x2, I x3])]))))))) (Cl Tryd.prog 85 sP ([S s, I x6, S (ByteArray.mk (Array.mk [104, 105, 115, 116, 111, 103, 114, 97, 109]))]) (fun (rs3 : List SV) => ∃ x7 : Int, ∃ s8 : ByteArray, ∃ b5 : Bool, (rs3 = [SV.agg [I x7, S s8, B b5]]) ∧ (ifB (bpick b5 true (ilt x7 (slen s))) (Cl Tryd.prog 84 sP ([SV.agg [I x7, S s8, B b5]]) (fun (rs4 : List SV) => ∃ x8 : Int, ∃ s9 : ByteArray, ∃ s10 : ByteArray, ∃ s11 : ByteArray, ∃ l1 : List (List SV), ∃ x9 : Int, ∃ x10 : Int, (rs4 = [SV.agg [I x8, S s9, S s10, S s11, SL 2 l1, I x9, I x10]]) ∧ (Q ([SV.agg [I x8, S s9, S s10, S s11, SL 2 l1, I x9, I x10]])))) (Q ([SV.agg ([I x1, S s6, S (ByteArray.mk (Array.mk [104, 105, 115, 116, 111, 103, 114, 97, 109])), S s4, SL 2 l, I x2, I x3])]))))))))))))))))

theorem Zru (s : ByteArray) (Q : List SV → Prop) (h : Cl Tryd.prog 85 sP ([S s, I 0, S (ByteArray.mk (Array.mk [35, 32, 72, 69, 76, 80, 32]))]) (fun rs => ∃ x s1 b, (rs = [SV.agg [I x, S s1, B b]]) ∧ (ifB (bpick (ieq x 2) (igt (slen s) 2) false) ((((0 : Int) ≤ 2) ∧ (2 < (slen s))) ∧ (ifB (ieq (sbyte s 2) 84) (Cl Tryd.prog 85 sP ([S s, I 0, S (ByteArray.mk (Array.mk [35, 32, 84, 89, 80, 69, 32]))]) (fun rs1 => ∃ x1 s2 b1, (rs1 = [SV.agg [I x1, S s2, B b1]]) ∧ (remK s Q 2 b1 x1 s2))) (remK s Q 1 b x s1))) (remK s Q 1 b x s1)))) : Ct Tryd.prog 82 {} [S s] Q :=
 fn_of (f := 82) SgT SvT (fun k => bif Nat.beq k 1000006 then some { slots := [(25,false,[.bool])], boxes := [(384,[.int .i64,.str,.str,.str,.sl 2,.int .i64,.int .i64]),(512,[.int .i64,.str,.bool])], fixed := [256], ptrs := [(3,384),(4,512)] } else none) Tryd.f82 Tryd.func82 (by kernel_rfl) (by kernel_rfl) h

end Go.Proofs.YtknnooannohflaaDoor.Met

namespace Go.Proofs.YtknnooannohflaaDoor.Met
open Go Go.Px Go.Proofs Cmp Go.Proofs.YtknnooannohflaaDoor.St Prs Trm Exp
set_option maxRecDepth 100000
set_option linter.unusedVariables false

theorem brk_r {p : Nat} {t : ByteArray} {b : Bool} {R0 : Except Nat LnD} (hp : p ≤ 4000000000) (h : lnR (.error p) = lnR R0) :
  Cl Tryd.prog 84 sP ([SV.agg [I (p : Int), S t, B b]]) (fun (rs : List SV) => ∃ x1 : Int, ∃ s2 : ByteArray, ∃ s3 : ByteArray, ∃ s4 : ByteArray, ∃ l : List (List SV), ∃ x2 : Int, ∃ x3 : Int, (rs = [SV.agg [I x1, S s2, S s3, S s4, SL 2 l, I x2, I x3]]) ∧ ([SV.agg [I x1, S s2, S s3, S s4, SL 2 l, I x2, I x3]] = lnR R0)) :=
 brk_x (Q := fun r => r = lnR R0) hp h
theorem Zvm {s : ByteArray} {L : List LaD} {e : Nat} (h : e < s.size) : goB s.data.toList L e = if L = [] then s[e]'h == 123 else s[e]'h == 44 := by
 unfold goB; rw [Zav h]
theorem Zi3 {T nm : Tx} {L : List LaD} {n e p : Nat} {v : Int} {bad : Bool} {R : Except Nat LnD} (hg : goB T L e = false) (hR : samE T (samF T nm L n e) = R) {e1 : Nat} {u : Unit} (h1 : pNeed T (endW L) e = .ok (u, e1))
  (hm : match pNum T e1 with
   | .ok (x, b) => p = b ∧ (bad = false → v = x) ∧ (T[b]? = none → bad = false)
   | .error b => p = b ∧ bad = true) : (bad = true ∨ p < T.length → R = .error p) ∧ (bad = false → ¬ p < T.length → R = .ok ⟨3, bA [], bA [], 0, ⟨bA nm, L, v⟩⟩) := by
 rw [Zgy hg, h1] at hR; simp only [numF] at hR
 cases hn : pNum T e1 with
 | error b => rw [hn] at hm hR; obtain ⟨rfl, rfl⟩ := hm; exact ⟨fun _ => hR.symm, fun h => by cases h⟩
 | ok q =>
  obtain ⟨x, b⟩ := q; rw [hn] at hm hR; obtain ⟨rfl, hv, hb⟩ := hm; simp only [samE] at hR; refine ⟨fun h => ?_, fun h1 h2 => ?_⟩
  ·have hlt : p < T.length := by
    rcases h with h | h
    ·rcases Nat.lt_or_ge p T.length with q | q
     ·exact q
     ·rw [hb (List.getElem?_eq_none q)] at h; cases h
    ·exact h
   rw [if_pos hlt] at hR; exact hR.symm
  ·rw [if_neg h2] at hR; rw [← hR, hv h1]

theorem Zqi {s : ByteArray} {v : Bool} {a b : Nat} {r : Tx} (ha : a ≤ s.size) (h : pEsc v s.data.toList a = .ok (r, b)) : b ≤ s.size := by
 have : ∀ (n : Nat) {l : Tx} {a b : Nat} {r : Tx}, l.length ≤ n → pEscL v l a = .ok (r, b) → b ≤ a + l.length := by
  intro n
  induction n with
  | zero => intro l a b r hn h; have : l = [] := (by cases l with | nil => rfl | cons c l => simp at hn); subst this; rw [pEscL.eq_def] at h; simp only [Except.ok.injEq, Prod.mk.injEq] at h; omega
  | succ n ih =>
   intro l a b r hn h
   have sub : ∀ (p : Tx) {l : Tx} {a' b : Nat} {r : Tx}, l.length ≤ n → eApp p (pEscL v l a') = .ok (r, b) → b ≤ a' + l.length := by
    intro p l a' b r hl h
    cases q : pEscL v l a' with
    | error e => rw [q] at h; cases h
    | ok y => obtain ⟨r', e⟩ := y; rw [q] at h; simp only [eApp, Except.ok.injEq, Prod.mk.injEq] at h; rw [← h.2]; exact ih hl q
   match l with
   | [] => rw [pEscL.eq_def] at h; simp only [Except.ok.injEq, Prod.mk.injEq] at h; omega
   | c :: l =>
    rw [pEscL.eq_def] at h; simp only [List.length_cons] at hn ⊢; simp only at h
    split at h
    ·simp only [Except.ok.injEq, Prod.mk.injEq] at h; omega
    ·split at h
     ·match l with
      | [] => cases h
      | d :: l' =>
       simp only at h; simp only [List.length_cons] at hn ⊢
       cases q : sgnB v d with
       | none => rw [q] at h; cases h
       | some y => rw [q] at h; have := sub _ (by omega) h; omega
     ·have := sub _ (by omega) h; omega
 have h1 := this _ (Nat.le_refl _) h; rw [List.length_drop, Array.length_toList] at h1; have e : s.data.size = s.size := rfl; omega

def endE {α : Type} : Except Nat (α × Nat) → Nat
 | .ok (_, b) => b
 | .error b => b
theorem Zn0 {most : Nat} : ∀ (l : Tx) (n a : Nat), endE (pDigs most l n a) ≤ a + l.length
 | [], n, a => by simp [pDigs, endE]
 | c :: l, n, a => by
  rw [pDigs]; by_cases h1 : 0 < n ∧ digB c = true
  ·rw [if_pos h1]; by_cases h2 : (most - (c.toNat - 48)) / 10 < n
   ·rw [if_pos h2]; simp [endE]
   ·rw [if_neg h2]; have := Zn0 (most := most) l (n * 10 + (c.toNat - 48)) (a + 1); simp only [List.length_cons]; omega
  ·rw [if_neg h1]; simp [endE]
theorem Zqj {most : Nat} {below : Bool} {t : Tx} {a : Nat} (ha : a ≤ t.length) : endE (pAbs most below t a) ≤ t.length := by
 unfold pAbs
 cases hc : t[a]? with
 | none => exact ha
 | some f =>
  simp only; have h1 := (List.getElem?_eq_some_iff.1 hc).1; by_cases h : digB f = false ∨ (below = true ∧ f = 48)
  ·rw [if_pos h]; exact ha
  ·rw [if_neg h]; have := Zn0 (most := most) (t.drop (a + 1)) (f.toNat - 48) (a + 1); rw [List.length_drop] at this; omega
theorem Zxp {t : Tx} {a : Nat} (ha : a ≤ t.length) : endE (pNum t a) ≤ t.length := by
 unfold pNum
 cases hc : t[a]? with
 | none => exact ha
 | some x =>
  simp only; have h1 := (List.getElem?_eq_some_iff.1 hc).1; by_cases h : x = 45
  ·rw [if_pos h]; have := Zqj (most := 9223372036854775808) (below := true) (t := t) (a := a + 1) (by omega)
   revert this
   cases pAbs 9223372036854775808 true t (a + 1) with
   | error b => exact id
   | ok q => exact id
  ·rw [if_neg h]; have := Zqj (most := 9223372036854775807) (below := false) (t := t) ha
   revert this
   cases pAbs 9223372036854775807 false t a with
   | error b => exact id
   | ok q => exact id
theorem Zi4 {s : ByteArray} {a p : Nat} {v : Int} {bad : Bool} (ha : a ≤ s.size) (hm : match pNum s.data.toList a with
   | .ok (x, b) => p = b ∧ (bad = false → v = x) ∧ (s.data.toList[b]? = none → bad = false)
   | .error b => p = b ∧ bad = true) (hs : s.size ≤ 2000000000) : p ≤ 4000000000 := by
 have h := Zxp (t := s.data.toList) (a := a) (by rw [Array.length_toList]; exact ha); have e : s.data.toList.length = s.size := Array.length_toList
 cases q : pNum s.data.toList a with
 | error b => rw [q] at h hm; simp only [endE] at h hm; omega
 | ok y => rw [q] at h hm; simp only [endE] at h hm; omega

theorem Zvn (s : ByteArray) (hs : s.size ≤ 60000) (hrem : s.data.toList[0]? = some 35 → Ct Tryd.prog 82 {} [S s] (fun r => r = lnR (pRead s.data.toList true))) : Ct Tryd.prog 33 {} [S s] (fun r => r = lnR (pRead s.data.toList true)) := by
 refine Zvl _ _ (Zaa (fun h0 => ?_) (fun h0 => ?_))
 ·have h0 : 0 < s.size := (by simpa [slen] using h0); refine ⟨⟨by omega, by rw [slen_eq]; omega⟩, Zaa (fun h35 => ?_) (fun h35 => ?_)⟩
  ·have hx : s.data.toList[0]? = some 35 := (by have e : sbyte s 0 = ((s[0]'h0).toNat : Int) := Zbr (b := 0) h0; rw [e] at h35; rw [Zav h0]; exact congrArg some (UInt8.toNat_inj.1 (by simp at h35; show (s[0]'h0).toNat = 35; omega))); refine Cl.of (hrem hx) ?_
   cases pRead s.data.toList true with
   | error b => exact ⟨_, _, _, _, _, _, _, rfl, rfl⟩
   | ok l =>
    unfold lnR; by_cases h3 : l.kd = 3
    ·simp only [if_pos h3]; exact ⟨_, _, _, _, _, _, _, rfl, rfl⟩
    ·simp only [if_neg h3]; exact ⟨_, _, _, _, _, _, _, rfl, rfl⟩
  ·have hx : ¬ s.data.toList[0]? = some 35 := by
    have e : sbyte s 0 = ((s[0]'h0).toNat : Int) := Zbr (b := 0) h0; rw [e] at h35; rw [Zav h0]; intro q; have q : s[0]'h0 = 35 := (by simpa using q); rw [q] at h35
    revert h35; decide
   have hne : ¬ s.data.toList = [] := fun q => by have : s.data.toList.length = 0 := (by rw [q]; rfl); rw [Array.length_toList] at this; have e : s.data.size = s.size := rfl; omega
   have hpr := Zul hx hne; rw [Zra] at hpr; refine Cl.of (Zhm s 0 (by omega) (by omega)) ?_
   cases hn : pName s.data.toList 0 with
   | error b => have hb := Zl6 hn; rw [hn] at hpr; exact ⟨_, _, _, rfl, yesB rfl (brk_r (p := b) (by omega) (by rw [hpr]; rfl))⟩
   | ok p =>
    obtain ⟨nm, b⟩ := p; have hb := Zl5 hn; rw [hn] at hpr; simp only at hpr; refine ⟨_, _, _, rfl, notB rfl ?_⟩
    refine ⟨fun x _ _ _ x3 s3 s4 s5 l x4 x5 => ∃ (e : Nat) (L : List LaD) (n : Nat), x = (e : Int) ∧ e ≤ s.size ∧ s.size ≤ n + e ∧ x3 = 3 ∧ s3 = bA nm ∧ s4 = eT ∧ s5 = bA nm ∧ l = laR L ∧ x4 = 0 ∧ x5 = 0 ∧ L.length ≤ e ∧ True ∧ samE s.data.toList (samF s.data.toList nm L n e) = pRead s.data.toList true, fun x _ _ _ _ _ _ _ _ _ _ => (s.size - x).toNat,
     ⟨b, [], s.data.toList.length + 1 - (b + 1), rfl, hb, ?_, rfl, rfl, rfl, rfl, rfl, rfl, rfl, Nat.zero_le _, trivial, hpr.symm⟩, ?_⟩
    ·rw [Array.length_toList]; show s.size ≤ s.size + 1 - (b + 1) + b; omega
    rintro x x2 s2 b1 x3 s3 s4 s5 l x4 x5 ⟨e, L, n, rfl, he, hn2, rfl, rfl, rfl, rfl, rfl, rfl, rfl, hLe, _, hR⟩; have hlen : rlen (laR L) = (L.length : Int) := (by rw [rlen_eq, List.length_map]); refine Zaa (fun hi => ?_) (fun hi => ?_)
    ·have hi : e < s.size := (by simpa [slen] using hi); have hg := Zvm (L := L) hi; rw [Zbr hi, hlen]; generalize s[e]'hi = c at *; refine ⟨⟨by omega, by rw [slen_eq]; omega⟩, Zaa (fun h1 => ?_) (fun h1 => ⟨⟨by omega, by rw [slen_eq]; omega⟩, Zaa (fun h2 => ?_) (fun h2 => ?_)⟩)⟩
     ·have hgo : goB s.data.toList L e = true := by
       rw [hg]; simp at h1; have e1 : L = [] := by first | exact h1.2 | exact List.eq_nil_of_length_eq_zero (by omega)
       rw [if_pos e1]; have : c = 123 := by first | exact h1.1 | exact UInt8.toNat_inj.1 (by have := h1.1; show c.toNat = 123; omega)
       rw [this]; rfl
      obtain ⟨k, rfl⟩ : ∃ k, n = k + 1 := ⟨n - 1, by omega⟩
      have hst := Znf (nm := nm) (k := k) hgo; unfold pLab at hst; rw [show wadd IntKind.i64 (e : Int) 1 = ((e + 1 : Nat) : Int) by rw [Za0 (by omega) (by omega)]; omega]; refine Cl.of (Zhm s (e + 1) (by omega) (by omega)) ?_
      cases q1 : pName s.data.toList (e + 1) with
      | error c => have hc := Zl6 q1; rw [q1] at hst; rw [hst] at hR; exact ⟨_, _, _, rfl, yesB rfl (brk_r (p := c) (by omega) (by rw [← hR]; rfl))⟩
      | ok p1 =>
       obtain ⟨ln, e1⟩ := p1; have b1 := Zl5 q1; have l1 := Ziv q1; rw [q1] at hst; simp only at hst; refine ⟨_, _, _, rfl, notB rfl ⟨fun r hr => by simp at hr; exact ⟨34, hr, by omega, by omega⟩, by decide, ?_⟩⟩; have hw : (scat (ByteArray.mk (Array.mk [61])) (bstr ([[U8 34]]))).data.toList = [61, 34] := (by decide); generalize scat (ByteArray.mk (Array.mk [61])) (bstr ([[U8 34]])) = w0 at hw ⊢; have hws : w0.size ≤ 4000000000000000000 := (by have : w0.data.toList.length = 2 := (by rw [hw]; rfl); rw [Array.length_toList] at this; have : w0.size = 2 := this; omega); refine Cl.of (Zch s e1 w0 b1 (by omega) hws) ?_; rw [hw]
       cases q2 : pNeed s.data.toList [61, 34] e1 with
       | error c => have hc := Zff q2; simp only [List.length_cons, List.length_nil] at hc; rw [q2] at hst; rw [hst] at hR; exact ⟨_, _, _, rfl, yesB rfl (brk_r (p := c) (by omega) (by rw [← hR]; rfl))⟩
       | ok p2 =>
        obtain ⟨u2, e2⟩ := p2; have b2 := Zee b1 q2; have l2 := Zey s.data.toList [61, 34] e1; rw [q2] at l2 hst; simp only [List.length_cons, List.length_nil] at l2; simp only at hst; refine ⟨_, _, _, rfl, notB rfl (Cl.of (Zmq s e2 true b2 (by omega)) ?_)⟩
        cases q3 : pEsc true s.data.toList e2 with
        | error c => have hc := Zn9 b2 q3; rw [q3] at hst; rw [hst] at hR; exact ⟨_, _, _, rfl, yesB rfl (brk_r (p := c) (by omega) (by rw [← hR]; rfl))⟩
        | ok p3 =>
         obtain ⟨v, e3⟩ := p3; have l3 := Zof q3; rw [q3] at hst; simp only at hst
         cases q4 : s.data.toList[e3]? with
         | none => have n1 : pNeed s.data.toList [34] e3 = .error e3 := (by rw [pNeed, q4]; rfl); rw [n1] at hst; rw [hst] at hR; have b3 : e3 ≤ s.size := (by have := Zjf _ (Nat.le_refl _) q3; have h3 := Zqi b2 q3; exact h3); have hE : ptE true s.data.toList (.ok (v, e3)) = [pa3 (e3 : Int) (bA v) true] := (by simp only [ptE, q4, if_true]); rw [hE]; exact ⟨_, _, _, rfl, yesB rfl (brk_r (p := e3) (by omega) (by rw [← hR]; rfl))⟩
         | some y =>
          have hy : y = 34 := by
           rcases Zpt q3 with h | h
           ·rw [h] at q4; cases q4
           ·rw [h] at q4; cases q4; rfl
          subst hy; have n1 : pNeed s.data.toList [34] e3 = .ok ((), e3 + 1) := by rw [pNeed, q4]; rfl
          rw [n1] at hst; simp only at hst; rw [hst] at hR; have b3 : e3 < s.size := (by have := (List.getElem?_eq_some_iff.1 q4).1; rw [Array.length_toList] at this; exact this); have hE : ptE true s.data.toList (.ok (v, e3)) = [pa3 ((e3 : Int) + 1) (bA v) false] := (by simp only [ptE, q4, if_true]); rw [hE]; refine ⟨_, _, _, rfl, notB rfl ⟨?_, rfl, ⟨e3 + 1, L ++ [(bA ln, bA v)], k, by omega, by omega, by omega, rfl, rfl, rfl, rfl, ?_, rfl, rfl, ?_, trivial, hR⟩, mlt (by dsimp only; omega)⟩⟩
          ·simp only [lsum_eq, rlen_eq, List.length_cons, List.length_nil]; omega
          ·simp [rapp, laR]
          ·simp only [List.length_append, List.length_cons, List.length_nil]; omega
     ·have hgo : goB s.data.toList L e = true := by
       rw [hg]; simp at h2; have e1 : ¬ L = [] := fun q => by subst q; simp at h2
       rw [if_neg e1]; have : c = 44 := by first | exact h2.1 | exact UInt8.toNat_inj.1 (by have := h2.1; show c.toNat = 44; omega)
       rw [this]; rfl
      obtain ⟨k, rfl⟩ : ∃ k, n = k + 1 := ⟨n - 1, by omega⟩
      have hst := Znf (nm := nm) (k := k) hgo; unfold pLab at hst; rw [show wadd IntKind.i64 (e : Int) 1 = ((e + 1 : Nat) : Int) by rw [Za0 (by omega) (by omega)]; omega]; refine Cl.of (Zhm s (e + 1) (by omega) (by omega)) ?_
      cases q1 : pName s.data.toList (e + 1) with
      | error c => have hc := Zl6 q1; rw [q1] at hst; rw [hst] at hR; exact ⟨_, _, _, rfl, yesB rfl (brk_r (p := c) (by omega) (by rw [← hR]; rfl))⟩
      | ok p1 =>
       obtain ⟨ln, e1⟩ := p1; have b1 := Zl5 q1; have l1 := Ziv q1; rw [q1] at hst; simp only at hst; refine ⟨_, _, _, rfl, notB rfl ⟨fun r hr => by simp at hr; exact ⟨34, hr, by omega, by omega⟩, by decide, ?_⟩⟩; have hw : (scat (ByteArray.mk (Array.mk [61])) (bstr ([[U8 34]]))).data.toList = [61, 34] := (by decide); generalize scat (ByteArray.mk (Array.mk [61])) (bstr ([[U8 34]])) = w0 at hw ⊢; have hws : w0.size ≤ 4000000000000000000 := (by have : w0.data.toList.length = 2 := (by rw [hw]; rfl); rw [Array.length_toList] at this; have : w0.size = 2 := this; omega); refine Cl.of (Zch s e1 w0 b1 (by omega) hws) ?_; rw [hw]
       cases q2 : pNeed s.data.toList [61, 34] e1 with
       | error c => have hc := Zff q2; simp only [List.length_cons, List.length_nil] at hc; rw [q2] at hst; rw [hst] at hR; exact ⟨_, _, _, rfl, yesB rfl (brk_r (p := c) (by omega) (by rw [← hR]; rfl))⟩
       | ok p2 =>
        obtain ⟨u2, e2⟩ := p2; have b2 := Zee b1 q2; have l2 := Zey s.data.toList [61, 34] e1; rw [q2] at l2 hst; simp only [List.length_cons, List.length_nil] at l2; simp only at hst; refine ⟨_, _, _, rfl, notB rfl (Cl.of (Zmq s e2 true b2 (by omega)) ?_)⟩
        cases q3 : pEsc true s.data.toList e2 with
        | error c => have hc := Zn9 b2 q3; rw [q3] at hst; rw [hst] at hR; exact ⟨_, _, _, rfl, yesB rfl (brk_r (p := c) (by omega) (by rw [← hR]; rfl))⟩
        | ok p3 =>
         obtain ⟨v, e3⟩ := p3; have l3 := Zof q3; rw [q3] at hst; simp only at hst
         cases q4 : s.data.toList[e3]? with
         | none => have n1 : pNeed s.data.toList [34] e3 = .error e3 := (by rw [pNeed, q4]; rfl); rw [n1] at hst; rw [hst] at hR; have b3 : e3 ≤ s.size := (by have := Zjf _ (Nat.le_refl _) q3; have h3 := Zqi b2 q3; exact h3); have hE : ptE true s.data.toList (.ok (v, e3)) = [pa3 (e3 : Int) (bA v) true] := (by simp only [ptE, q4, if_true]); rw [hE]; exact ⟨_, _, _, rfl, yesB rfl (brk_r (p := e3) (by omega) (by rw [← hR]; rfl))⟩
         | some y =>
          have hy : y = 34 := by
           rcases Zpt q3 with h | h
           ·rw [h] at q4; cases q4
           ·rw [h] at q4; cases q4; rfl
          subst hy; have n1 : pNeed s.data.toList [34] e3 = .ok ((), e3 + 1) := by rw [pNeed, q4]; rfl
          rw [n1] at hst; simp only at hst; rw [hst] at hR; have b3 : e3 < s.size := (by have := (List.getElem?_eq_some_iff.1 q4).1; rw [Array.length_toList] at this; exact this); have hE : ptE true s.data.toList (.ok (v, e3)) = [pa3 ((e3 : Int) + 1) (bA v) false] := (by simp only [ptE, q4, if_true]); rw [hE]; refine ⟨_, _, _, rfl, notB rfl ⟨?_, rfl, ⟨e3 + 1, L ++ [(bA ln, bA v)], k, by omega, by omega, by omega, rfl, rfl, rfl, rfl, ?_, rfl, rfl, ?_, trivial, hR⟩, mlt (by dsimp only; omega)⟩⟩
          ·simp only [lsum_eq, rlen_eq, List.length_cons, List.length_nil]; omega
          ·simp [rapp, laR]
          ·simp only [List.length_append, List.length_cons, List.length_nil]; omega
     ·have hgo : goB s.data.toList L e = false := by
       rw [hg]
       by_cases e1 : L = []
       ·rw [if_pos e1]
        cases q : (c == 123) with
        | false => rfl
        | true => have := eq_of_beq q; subst this; subst e1; simp at h1
       ·rw [if_neg e1]
        cases q : (c == 44) with
        | false => rfl
        | true => have := eq_of_beq q; subst this; simp at h2; exact absurd h2 e1
      refine Zaa (fun h => ⟨fun s6 x6 s7 b2 x7 s8 s9 s10 l1 x8 x9 => s6 = (ByteArray.mk (Array.mk [125, 32])) ∧ x7 = 3 ∧ s8 = bA nm ∧ s9 = eT ∧ s10 = bA nm ∧ l1 = laR L ∧ x9 = 0, fun _ _ _ _ _ _ _ _ _ _ _ => 0, ⟨rfl, rfl, rfl, rfl, rfl, rfl, rfl, rfl⟩, ?_⟩) (fun h => ?_)
      ·rintro _ x6 s7 b2 _ _ _ _ _ x8 _ ⟨rfl, rfl, rfl, rfl, rfl, rfl, rfl⟩; have hL : ¬ L = [] := fun q => by subst q; simp at h
       have hw : (ByteArray.mk (Array.mk [125, 32])).data.toList = endW L := (by unfold endW; rw [if_neg hL]); refine Cl.of (Zch s e _ he (by omega) (by decide)) ?_; rw [hw]
       cases q1 : pNeed s.data.toList (endW L) e with
       | error c =>
        have hc := Zff q1; have hwl : (endW L).length ≤ 2 := by unfold endW; split <;> simp
        have hR2 := hR; rw [Zgy hgo, q1] at hR2; exact ⟨_, _, _, rfl, yesB rfl (brk_r (p := c) (by omega) (by rw [← hR2]; rfl))⟩
       | ok p1 =>
        obtain ⟨u1, e1⟩ := p1; have b1 := Zee he q1; refine ⟨_, _, _, rfl, notB rfl (Cl.ofQ (Zf5 s e1 b1 (by omega)) ?_)⟩; rintro r ⟨v, p, bad, rfl, hm⟩; obtain ⟨d1, d2⟩ := Zi3 hgo hR q1 hm; have hp : p ≤ 4000000000 := Zi4 b1 hm (by omega); refine ⟨_, _, _, _, rfl, Zaa (fun hb => ?_) (fun hb => ?_)⟩
        ·have hb : bad = true ∨ p < s.data.toList.length := by
          cases bad with
          | true => exact .inl rfl
          | false =>
           right
           rw [Array.length_toList]; show p < s.size; simp at hb; omega
         exact brk_r hp (by rw [d1 hb])
        ·have hb : bad = false ∧ ¬ p < s.data.toList.length := by
          rw [Array.length_toList]; show bad = false ∧ ¬ p < s.size
          cases bad with
          | true => simp at hb
          | false => refine ⟨rfl, ?_⟩; simp at hb; omega
         rw [d2 hb.1 hb.2]; rfl
      ·have hL : L = [] := by
        simp at h
        first | exact h | exact List.eq_nil_of_length_eq_zero (by omega)
       have hw : (ByteArray.mk (Array.mk [32])).data.toList = endW L := (by unfold endW; rw [if_pos hL]); refine Cl.of (Zch s e _ he (by omega) (by decide)) ?_; rw [hw]
       cases q1 : pNeed s.data.toList (endW L) e with
       | error c =>
        have hc := Zff q1; have hwl : (endW L).length ≤ 2 := by unfold endW; split <;> simp
        have hR2 := hR; rw [Zgy hgo, q1] at hR2; exact ⟨_, _, _, rfl, yesB rfl (brk_r (p := c) (by omega) (by rw [← hR2]; rfl))⟩
       | ok p1 =>
        obtain ⟨u1, e1⟩ := p1; have b1 := Zee he q1; refine ⟨_, _, _, rfl, notB rfl (Cl.ofQ (Zf5 s e1 b1 (by omega)) ?_)⟩; rintro r ⟨v, p, bad, rfl, hm⟩; obtain ⟨d1, d2⟩ := Zi3 hgo hR q1 hm; have hp : p ≤ 4000000000 := Zi4 b1 hm (by omega); refine ⟨_, _, _, _, rfl, Zaa (fun hb => ?_) (fun hb => ?_)⟩
        ·have hb : bad = true ∨ p < s.data.toList.length := by
          cases bad with
          | true => exact .inl rfl
          | false =>
           right
           rw [Array.length_toList]; show p < s.size; simp at hb; omega
         exact brk_r hp (by rw [d1 hb])
        ·have hb : bad = false ∧ ¬ p < s.data.toList.length := by
          rw [Array.length_toList]; show bad = false ∧ ¬ p < s.size
          cases bad with
          | true => simp at hb
          | false => refine ⟨rfl, ?_⟩; simp at hb; omega
         rw [d2 hb.1 hb.2]; rfl
    ·have hi : ¬ e < s.size := (by simpa [slen] using hi); have hgo : goB s.data.toList L e = false := (by unfold goB; rw [Zbf hi]); rw [hlen]; refine Zaa (fun h => ⟨fun s6 x6 s7 b2 x7 s8 s9 s10 l1 x8 x9 => s6 = (ByteArray.mk (Array.mk [125, 32])) ∧ x7 = 3 ∧ s8 = bA nm ∧ s9 = eT ∧ s10 = bA nm ∧ l1 = laR L ∧ x9 = 0, fun _ _ _ _ _ _ _ _ _ _ _ => 0, ⟨rfl, rfl, rfl, rfl, rfl, rfl, rfl, rfl⟩, ?_⟩) (fun h => ?_)
     ·rintro _ x6 s7 b2 _ _ _ _ _ x8 _ ⟨rfl, rfl, rfl, rfl, rfl, rfl, rfl⟩; have hL : ¬ L = [] := fun q => by subst q; simp at h
      have hw : (ByteArray.mk (Array.mk [125, 32])).data.toList = endW L := (by unfold endW; rw [if_neg hL]); refine Cl.of (Zch s e _ he (by omega) (by decide)) ?_; rw [hw]
      cases q1 : pNeed s.data.toList (endW L) e with
      | error c =>
       have hc := Zff q1; have hwl : (endW L).length ≤ 2 := by unfold endW; split <;> simp
       have hR2 := hR; rw [Zgy hgo, q1] at hR2; exact ⟨_, _, _, rfl, yesB rfl (brk_r (p := c) (by omega) (by rw [← hR2]; rfl))⟩
      | ok p1 =>
       obtain ⟨u1, e1⟩ := p1; have b1 := Zee he q1; refine ⟨_, _, _, rfl, notB rfl (Cl.ofQ (Zf5 s e1 b1 (by omega)) ?_)⟩; rintro r ⟨v, p, bad, rfl, hm⟩; obtain ⟨d1, d2⟩ := Zi3 hgo hR q1 hm; have hp : p ≤ 4000000000 := Zi4 b1 hm (by omega); refine ⟨_, _, _, _, rfl, Zaa (fun hb => ?_) (fun hb => ?_)⟩
       ·have hb : bad = true ∨ p < s.data.toList.length := by
         cases bad with
         | true => exact .inl rfl
         | false =>
          right
          rw [Array.length_toList]; show p < s.size; simp at hb; omega
        exact brk_r hp (by rw [d1 hb])
       ·have hb : bad = false ∧ ¬ p < s.data.toList.length := by
         rw [Array.length_toList]; show bad = false ∧ ¬ p < s.size
         cases bad with
         | true => simp at hb
         | false => refine ⟨rfl, ?_⟩; simp at hb; omega
        rw [d2 hb.1 hb.2]; rfl
     ·have hL : L = [] := by
       simp at h
       first | exact h | exact List.eq_nil_of_length_eq_zero (by omega)
      have hw : (ByteArray.mk (Array.mk [32])).data.toList = endW L := (by unfold endW; rw [if_pos hL]); refine Cl.of (Zch s e _ he (by omega) (by decide)) ?_; rw [hw]
      cases q1 : pNeed s.data.toList (endW L) e with
      | error c =>
       have hc := Zff q1; have hwl : (endW L).length ≤ 2 := by unfold endW; split <;> simp
       have hR2 := hR; rw [Zgy hgo, q1] at hR2; exact ⟨_, _, _, rfl, yesB rfl (brk_r (p := c) (by omega) (by rw [← hR2]; rfl))⟩
      | ok p1 =>
       obtain ⟨u1, e1⟩ := p1; have b1 := Zee he q1; refine ⟨_, _, _, rfl, notB rfl (Cl.ofQ (Zf5 s e1 b1 (by omega)) ?_)⟩; rintro r ⟨v, p, bad, rfl, hm⟩; obtain ⟨d1, d2⟩ := Zi3 hgo hR q1 hm; have hp : p ≤ 4000000000 := Zi4 b1 hm (by omega); refine ⟨_, _, _, _, rfl, Zaa (fun hb => ?_) (fun hb => ?_)⟩
       ·have hb : bad = true ∨ p < s.data.toList.length := by
         cases bad with
         | true => exact .inl rfl
         | false =>
          right
          rw [Array.length_toList]; show p < s.size; simp at hb; omega
        exact brk_r hp (by rw [d1 hb])
       ·have hb : bad = false ∧ ¬ p < s.data.toList.length := by
         rw [Array.length_toList]; show bad = false ∧ ¬ p < s.size
         cases bad with
         | true => simp at hb
         | false => refine ⟨rfl, ?_⟩; simp at hb; omega
        rw [d2 hb.1 hb.2]; rfl
 ·have h0 : ¬ 0 < s.size := (by simpa [slen] using h0); have hn0 := Zbf h0; have hp : pRead s.data.toList true = .error 0 := (by unfold pRead pLine; rw [hn0]); refine Cl.of (Zhm s 0 (by omega) (by omega)) ?_; have hn : pName s.data.toList 0 = .error 0 := (by unfold pName; rw [hn0]); rw [hn, hp]; exact ⟨_, _, _, rfl, yesB rfl (brk_r (p := 0) (by omega) rfl)⟩


theorem Zlo (s : ByteArray) (d : Nat) (wd : Tx) (W : ByteArray) (k : Int) (nm : Tx) (R : Except Nat LnD) (hd : d ≤ s.size) (hs : s.size ≤ 60000) (hw : W.data.toList = wd) (hwl : wd.length ≤ 1000) (hk : pKind s.data.toList d = pWord s.data.toList wd k d) (hkw : wrdT k = wd)
  (hR : (match pKind s.data.toList d with
        | .error e => .error e
        | .ok (w, e) => if e < s.data.toList.length then .error e else .ok ⟨2, bA nm, bA [], w, sm0⟩) = R) :
  Cl Tryd.prog 85 sP ([S s, I (d : Int), S W]) (fun (rs4 : List SV) => ∃ x8 : Int, ∃ s9 : ByteArray, ∃ b6 : Bool, (rs4 = [SV.agg [I x8, S s9, B b6]]) ∧ (ifB (bpick b6 true (ilt x8 (slen s))) (Cl Tryd.prog 84 sP ([SV.agg [I x8, S s9, B b6]]) (fun (rs5 : List SV) => ∃ x9 : Int, ∃ s10 : ByteArray, ∃ s11 : ByteArray, ∃ s12 : ByteArray, ∃ l1 : List (List SV), ∃ x10 : Int, ∃ x11 : Int, (rs5 = [SV.agg [I x9, S s10, S s11, S s12, SL 2 l1, I x10, I x11]]) ∧ ([SV.agg [I x9, S s10, S s11, S s12, SL 2 l1, I x10, I x11]] = lnR R))) ([SV.agg ([I 2, S (bA nm), S W, S eT, SL 2 [], I 0, I 0])] = lnR R))) := by
 have hWs : W.size = wd.length := (by rw [← hw, Array.length_toList]; rfl); refine Cl.of (Zch s d W hd (by omega) (by omega)) ?_; rw [hw]; rw [hk] at hR; unfold pWord at hR
 cases q : pNeed s.data.toList wd d with
 | error c => have hc := Zff q; rw [q] at hR; exact ⟨_, _, _, rfl, Zaa (fun _ => brk_r (p := c) (by omega) (by rw [← hR])) (fun h => by simp at h)⟩
 | ok p =>
  obtain ⟨u, e⟩ := p; have he := Zee hd q; rw [q] at hR; simp only at hR; have hl : s.data.toList.length = s.size := Array.length_toList; refine ⟨_, _, _, rfl, Zaa (fun h => ?_) (fun h => ?_)⟩
  ·have h : e < s.size := (by simp at h; omega); rw [if_pos (by omega)] at hR; exact brk_r (p := e) (by omega) (by rw [← hR])
  ·have h : ¬ e < s.size := (by simp at h; omega); rw [if_neg (by omega)] at hR; have hW : W = bA (wrdT k) := (by rw [hkw]; exact Zjr.2 (by rw [Zbh, hw])); rw [← hR, hW]; simp [lnR]

theorem Zn1 {s : ByteArray} {w : Tx} (hw : w.length ≤ 10) : endE (pNeed s.data.toList w 0) ≤ s.size + 10 := by
 have := Zey s.data.toList w 0
 cases q : pNeed s.data.toList w 0 with
 | error b => rw [q] at this; simp only at this; simp only [endE]; omega
 | ok p => rw [q] at this; simp only at this; simp only [endE]; omega

theorem Zkg (s : ByteArray) (hs : s.size ≤ 60000) (R : Except Nat LnD) (kk : Int) (rr : Except Nat (Unit × Nat)) (hkk : kk = 1 ∨ kk = 2) (hE : endE rr ≤ s.size + 10) (hO : ∀ u b, rr = .ok (u, b) → b ≤ s.size) (hR : rmF s.data.toList kk rr = R) (b0 : Bool) (x0 : Int) (s0 : ByteArray) (hp0 : [pa3 x0 s0 b0] = ptU rr) : remK s (fun r => r = lnR R) kk b0 x0 s0 := by
 unfold remK
 refine ⟨fun b2 x2 s3 s4 s5 l x3 x4 x5 s6 b3 => ∃ (k : Int) (r : Except Nat (Unit × Nat)), (k = 1 ∨ k = 2) ∧ x2 = k ∧ s3 = eT ∧ s4 = eT ∧ s5 = eT ∧ l = [] ∧ x3 = 0 ∧ x4 = 0 ∧ [pa3 x5 s6 b3] = ptU r ∧ b2 = b3 ∧ endE r ≤ s.size + 10 ∧ (∀ u b, r = .ok (u, b) → b ≤ s.size) ∧ rmF s.data.toList k r = R, fun _ _ _ _ _ _ _ _ _ _ _ => 0,
  ⟨rfl, kk, rr, hkk, rfl, rfl, rfl, rfl, rfl, rfl, rfl, hp0, rfl, hE, hO, hR⟩, ?_⟩
 rintro b2 x2 s3 s4 s5 l x3 x4 x5 s6 b3 ⟨k, r, hk, rfl, rfl, rfl, rfl, rfl, rfl, rfl, hp, rfl, hb1, hb2, hR⟩
 cases r with
 | error c =>
  simp only [endE] at hb1; obtain ⟨rfl, rfl, rfl⟩ : x5 = (c : Int) ∧ s6 = eT ∧ b2 = true := by simpa [ptU] using hp
  exact yesB rfl (brk_r (p := c) (by omega) (by rw [← hR]; rfl))
 | ok p =>
  obtain ⟨u, b⟩ := p; have hb := hb2 u b rfl; obtain ⟨rfl, rfl, rfl⟩ : x5 = (b : Int) ∧ s6 = eT ∧ b2 = false := by simpa [ptU] using hp
  simp only [rmF] at hR; refine notB rfl (Cl.of (Zhm s b hb (by omega)) ?_)
  cases q1 : pName s.data.toList b with
  | error c => have hc := Zl6 q1; rw [q1] at hR; exact ⟨_, _, _, rfl, yesB rfl (brk_r (p := c) (by omega) (by rw [← hR]))⟩
  | ok p1 =>
   obtain ⟨nm, c⟩ := p1; have hc := Zl5 q1; rw [q1] at hR; simp only at hR; refine ⟨_, _, _, rfl, notB rfl (Cl.of (Zch s c _ hc (by omega) (by decide)) ?_)⟩; rw [show (ByteArray.mk (Array.mk [32])).data.toList = [32] from rfl]
   cases q2 : pNeed s.data.toList [32] c with
   | error d => have hd := Zff q2; simp only [List.length_cons, List.length_nil] at hd; rw [q2] at hR; exact ⟨_, _, _, rfl, yesB rfl (brk_r (p := d) (by omega) (by rw [← hR]))⟩
   | ok p2 =>
    obtain ⟨u2, d⟩ := p2; have hd := Zee hc q2; rw [q2] at hR; simp only at hR; refine ⟨_, _, _, rfl, notB rfl (Zaa (fun h1 => ?_) (fun h1 => ?_))⟩
    ·have h1 : x2 = 1 := (by simp at h1; omega); subst h1; rw [if_pos rfl] at hR; refine Cl.of (Zmq s d false hd (by omega)) ?_
     cases q3 : pEsc false s.data.toList d with
     | error e => have he := Zn9 hd q3; rw [q3] at hR; exact ⟨_, _, _, rfl, yesB rfl (brk_r (p := e) (by omega) (by rw [← hR]))⟩
     | ok p3 => obtain ⟨hp, e⟩ := p3; rw [q3] at hR; have hE : ptE false s.data.toList (.ok (hp, e)) = [pa3 (e : Int) (bA hp) false] := (by simp [ptE]); rw [hE]; refine ⟨_, _, _, rfl, notB rfl ?_⟩; rw [← hR]; simp [lnR]
    ·have h1 : x2 = 2 := (by simp at h1; omega); subst h1; rw [if_neg (by decide)] at hR
     have inb : d < s.size → (((0 : Int) ≤ (d : Int)) ∧ ((d : Int) < (slen s))) := fun h => ⟨by omega, by rw [slen_eq]; omega⟩
     have lt1 : ilt (d : Int) (slen s) = true → d < s.size := fun h => by simpa [slen] using h
     have is99 : ∀ h : d < s.size, ieq (sbyte s (d : Int)) 99 = true → s.data.toList[d]? = some 99 := fun h h2 => by rw [Zbr h] at h2; rw [Zav h]; exact congrArg some (UInt8.toNat_inj.1 (by simp at h2; show (s[d]'h).toNat = 99; omega))
     have is103 : ∀ h : d < s.size, ieq (sbyte s (d : Int)) 103 = true → s.data.toList[d]? = some 103 := fun h h2 => by rw [Zbr h] at h2; rw [Zav h]; exact congrArg some (UInt8.toNat_inj.1 (by simp at h2; show (s[d]'h).toNat = 103; omega))
     have w99 : s.data.toList[d]? = some 99 → pKind s.data.toList d = pWord s.data.toList [99, 111, 117, 110, 116, 101, 114] 1 d := fun h => by unfold pKind; rw [h]; rfl
     have w103 : s.data.toList[d]? = some 103 → pKind s.data.toList d = pWord s.data.toList [103, 97, 117, 103, 101] 2 d := fun h => by unfold pKind; rw [h]; rfl
     have wno : ¬ s.data.toList[d]? = some 99 → ¬ s.data.toList[d]? = some 103 → pKind s.data.toList d = pWord s.data.toList [104, 105, 115, 116, 111, 103, 114, 97, 109] 3 d := fun h1 h2 => by
      unfold pKind
      cases hc : s.data.toList[d]? with
      | none => have e1 : pNeed s.data.toList [104, 105, 115, 116, 111, 103, 114, 97, 109] d = .error d := (by rw [pNeed, hc]; rfl); unfold pWord; rw [e1]
      | some x => rw [hc] at h1 h2; simp only; rw [if_neg (by simpa using h1), if_neg (by simpa using h2)]
     have not99 : ∀ h : d < s.size, ieq (sbyte s (d : Int)) 99 = false → ¬ s.data.toList[d]? = some 99 := fun h h2 h3 => by
      rw [Zav h] at h3; have h3 : s[d]'h = 99 := (by simpa using h3); rw [Zbr h, h3] at h2
      revert h2; decide
     have not103 : ∀ h : d < s.size, ieq (sbyte s (d : Int)) 103 = false → ¬ s.data.toList[d]? = some 103 := fun h h2 h3 => by
      rw [Zav h] at h3; have h3 : s[d]'h = 103 := (by simpa using h3); rw [Zbr h, h3] at h2
      revert h2; decide
     have end9 : ilt (d : Int) (slen s) = false → ∀ x, ¬ s.data.toList[d]? = some x := fun h x h2 => by have h : ¬ d < s.size := (by simpa [slen] using h); rw [Zbf h] at h2; cases h2
     refine Zaa (fun g1 => ⟨inb (lt1 g1), Zaa (fun g2 => Zaa (fun g3 => ⟨inb (lt1 g3), Zaa (fun g4 => ?_) (fun g4 => ?_)⟩) (fun g3 => ?_)) (fun g2 => Zaa (fun g3 => ⟨inb (lt1 g3), Zaa (fun g4 => ?_) (fun g4 => ?_)⟩) (fun g3 => ?_))⟩) (fun g1 => Zaa (fun g3 => ⟨inb (lt1 g3), Zaa (fun g4 => ?_) (fun g4 => ?_)⟩) (fun g3 => ?_))
     ·exact Zlo s d _ _ 2 nm R hd hs rfl (by decide) (w103 (is103 (lt1 g3) g4)) rfl hR
     ·exact Zlo s d _ _ 1 nm R hd hs rfl (by decide) (w99 (is99 (lt1 g1) g2)) rfl hR
     ·exact Zlo s d _ _ 1 nm R hd hs rfl (by decide) (w99 (is99 (lt1 g1) g2)) rfl hR
     ·exact Zlo s d _ _ 2 nm R hd hs rfl (by decide) (w103 (is103 (lt1 g3) g4)) rfl hR
     ·exact Zlo s d _ _ 3 nm R hd hs rfl (by decide) (wno (not99 (lt1 g1) g2) (not103 (lt1 g3) g4)) rfl hR
     ·exact absurd (lt1 g1) (by simpa [slen] using g3)
     ·exact absurd (lt1 g3) (by simpa [slen] using g1)
     ·exact absurd (lt1 g3) (by simpa [slen] using g1)
     ·exact Zlo s d _ _ 3 nm R hd hs rfl (by decide) (wno (end9 g1 99) (end9 g1 103)) rfl hR

theorem Zrv (s : ByteArray) (hs : s.size ≤ 60000) (h0 : s.data.toList[0]? = some 35) : Ct Tryd.prog 82 {} [S s] (fun r => r = lnR (pRead s.data.toList true)) := by
 rw [Zr8 _ h0]; refine Zru _ _ (Cl.of (Zch s 0 _ (by omega) (by omega) (by decide)) ?_); rw [show (ByteArray.mk (Array.mk [35, 32, 72, 69, 76, 80, 32])).data.toList = rmH from rfl]; have hE1 := Zn1 (s := s) (w := rmH) (by decide); have hE2 := Zn1 (s := s) (w := rmT) (by decide); have hO1 : ∀ u b, pNeed s.data.toList rmH 0 = .ok (u, b) → b ≤ s.size := fun u b h => Zee (Nat.zero_le _) h; have hO2 : ∀ u b, pNeed s.data.toList rmT 0 = .ok (u, b) → b ≤ s.size := fun u b h => Zee (Nat.zero_le _) h; have hp := Zey s.data.toList rmH 0; generalize hRR : (if isT s.data.toList = true then rmF s.data.toList 2 (pNeed s.data.toList rmT 0) else rmF s.data.toList 1 (pNeed s.data.toList rmH 0)) = R; unfold isT at hRR
 cases q : pNeed s.data.toList rmH 0 with
 | error c =>
  rw [q] at hE1 hO1 hp hRR; simp only at hRR; refine ⟨_, _, _, rfl, Zaa (fun h => ?_) (fun h => ?_)⟩
  ·have h : c = 2 ∧ 2 < s.size := (by simp at h; omega); obtain ⟨rfl, h2⟩ := h; refine ⟨⟨by omega, by rw [slen_eq]; omega⟩, Zaa (fun g => ?_) (fun g => ?_)⟩
   ·have hy : s.data.toList[2]? = some 84 := (by have e : sbyte s 2 = ((s[2]'h2).toNat : Int) := Zbr (b := 2) h2; rw [e] at g; rw [Zav h2]; exact congrArg some (UInt8.toNat_inj.1 (by simp at g; show (s[2]'h2).toNat = 84; omega))); rw [hy, if_pos (by decide)] at hRR; refine Cl.of (Zch s 0 _ (by omega) (by omega) (by decide)) ?_; rw [show (ByteArray.mk (Array.mk [35, 32, 84, 89, 80, 69, 32])).data.toList = rmT from rfl]; have hE := hE2; have hO := hO2; have hR := hRR; generalize pNeed s.data.toList rmT 0 = r0 at *
    cases r0 with
    | error e => refine ⟨_, _, _, rfl, ?_⟩; exact Zkg s hs R 2 (.error e) (.inr rfl) hE hO hR _ _ _ rfl
    | ok p => obtain ⟨u, e⟩ := p; refine ⟨_, _, _, rfl, ?_⟩; exact Zkg s hs R 2 (.ok (u, e)) (.inr rfl) hE hO hR _ _ _ rfl
   ·have hy : ¬ s.data.toList[2]? = some 84 := by
     have e : sbyte s 2 = ((s[2]'h2).toNat : Int) := Zbr (b := 2) h2; rw [e] at g; rw [Zav h2]; intro q; have q : s[2]'h2 = 84 := (by simpa using q); rw [q] at g
     revert g; decide
    rw [if_neg (by simpa using hy)] at hRR; have hE := hE1; have hO := hO1; have hR := hRR; exact Zkg s hs R 1 (.error 2) (.inl rfl) hE hO hR _ _ _ rfl
  ·have hy : ¬ ((c == 2 && s.data.toList[2]? == some 84) = true) := (by intro hq; simp only [Bool.and_eq_true, beq_iff_eq] at hq; obtain ⟨rfl, h2⟩ := hq; have := (List.getElem?_eq_some_iff.1 h2).1; rw [Array.length_toList] at this; have e : s.data.size = s.size := rfl; simp at h; omega); rw [if_neg hy] at hRR; have hE := hE1; have hO := hO1; have hR := hRR; exact Zkg s hs R 1 (.error c) (.inl rfl) hE hO hR _ _ _ rfl
 | ok p => obtain ⟨u, b⟩ := p; rw [q] at hE1 hO1 hp hRR; simp only [List.length_cons, List.length_nil] at hp; simp only at hRR; rw [if_neg (by decide)] at hRR; refine ⟨_, _, _, rfl, notB (by simp; omega) ?_⟩; have hE := hE1; have hO := hO1; have hR := hRR; exact Zkg s hs R 1 (.ok (u, b)) (.inl rfl) hE hO hR _ _ _ rfl

theorem Zvo (s : ByteArray) (hs : s.size ≤ 60000) : Ct Tryd.prog 33 {} [S s] (fun r => r = lnR (pRead s.data.toList true)) := Zvn s hs (Zrv s hs)

end Go.Proofs.YtknnooannohflaaDoor.Met

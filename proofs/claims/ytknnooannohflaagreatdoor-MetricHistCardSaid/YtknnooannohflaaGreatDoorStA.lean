/- Layer 15: the printed conditions of state's functions and of its reference. -/
import Derived.Test.YtknnooannohflaaGreatDoorPxK
import Derived.Test.YtknnooannohflaaGreatDoorCmA
import Derived.Test.YtknnooannohflaaGreatDoorProg
import Derived.Test.YtknnooannohflaaGreatDoorDkA
import Derived.Laws.Externs
namespace Go.Proofs.YtknnooannohflaaGreatDoor.St
open Go Go.Px Go.Proofs Cmp
set_option maxRecDepth 100000
set_option linter.unusedVariables false

abbrev st3 (rows : List (List SV)) (s a : Int) : SV := .agg [SL 21 rows, I s, I a]
def SgT : FuncId → Sig := (fun f => bif Nat.beq f 84 then ⟨[], [.own]⟩ else bif Nat.beq f 89 then ⟨[.own], [.own]⟩ else {})
def SvT : TypeId → Sig := fun _ => {}
theorem sshort_nf (rows : LL) (q t : Int) (Q : List SV → Prop) (h : ∃ Inv : Bool → Int → Prop, ∃ m : Bool → Int → Nat, (Inv false 0) ∧ ∀ b x, (Inv b x) → ifB (ilt x (rlen rows)) ((((0 : Int) ≤ x) ∧ x < (rlen rows)) ∧ ∃ s x1, ∃ x2 x3, ∃ x4 l, ∃ x5 x6, ∃ x7 x8, ∃ x9 x10, ∃ x11 x12, ∃ x13 x14, ∃ x15 x16, ∃ x17 x18 x19, (rget rows x = [S s, I x1, I x2, I x3, I x4, SL 2 l, I x5, I x6, I x7, I x8, I x9, I x10, I x11, I x12, I x13, I x14, I x15, I x16, I x17, I x18, I x19]) ∧ Cl Tryz.prog 51 sP ([SV.agg [S s, I x1, I x2, I x3, I x4, SL 2 l, I x5, I x6, I x7, I x8, I x9, I x10, I x11, I x12, I x13, I x14, I x15, I x16, I x17, I x18, I x19]]) (fun rs => ∃ b1, (rs = [B b1]) ∧ ifB (bnot b1) (Q [B false]) ((Sm (some ([[SL 21 rows, I q, I t]]))) ∧ (Inv b (wadd .i64 x 1)) ∧ Nat.le (Nat.succ (m b (wadd .i64 x 1))) (m b x)))) (Q [B (ile (rlen rows) 20)])) : Ct Tryz.prog 23 {} [st3 rows q t] Q :=
 fn_of (f := 23) SgT SvT (fun _ => none) Tryz.f23 Tryz.func23 (by kernel_rfl) (by kernel_rfl) h

theorem sright_nf (rows : LL) (q t : Int) (Q : List SV → Prop) (h : ifB (bpick (bpick (bpick (bpick (igt (rlen rows) 12) true (ilt q 0)) true (igt q 4294967296)) true (ilt t 0)) true (igt t 1099511627776)) (Q [B false]) (∃ Inv : Bool → Int → Prop, ∃ m : Bool → Int → Nat, (Inv false 0) ∧ ∀ b x, (Inv b x) → ifB (ilt x (rlen rows)) ((((0 : Int) ≤ x) ∧ x < (rlen rows)) ∧ ∃ s x1, ∃ x2 x3, ∃ x4 l, ∃ x5 x6, ∃ x7 x8, ∃ x9 x10, ∃ x11 x12, ∃ x13 x14, ∃ x15 x16, ∃ x17 x18 x19, (rget rows x = [S s, I x1, I x2, I x3, I x4, SL 2 l, I x5, I x6, I x7, I x8, I x9, I x10, I x11, I x12, I x13, I x14, I x15, I x16, I x17, I x18, I x19]) ∧ Cl Tryz.prog 70 sP ([SV.agg [S s, I x1, I x2, I x3, I x4, SL 2 l, I x5, I x6, I x7, I x8, I x9, I x10, I x11, I x12, I x13, I x14, I x15, I x16, I x17, I x18, I x19]]) (fun rs => ∃ b1, (rs = [B b1]) ∧ ifB (bnot b1) (Q [B false]) (ifB (igt x 0) ((((0 : Int) ≤ (wsub .i64 x 1)) ∧ (wsub .i64 x 1) < (rlen rows)) ∧ ∃ s1 x20, ∃ x21 x22, ∃ x23 l1, ∃ x24 x25, ∃ x26 x27, ∃ x28 x29, ∃ x30 x31, ∃ x32 x33, ∃ x34 x35, ∃ x36 x37 x38, (rget rows (wsub .i64 x 1) = [S s1, I x20, I x21, I x22, I x23, SL 2 l1, I x24, I x25, I x26, I x27, I x28, I x29, I x30, I x31, I x32, I x33, I x34, I x35, I x36, I x37, I x38]) ∧ ifB (sge s1 s) (Q [B false]) ((Sm (some ([[SL 21 rows, I q, I t]]))) ∧ (Inv b (wadd .i64 x 1)) ∧ Nat.le (Nat.succ (m b (wadd .i64 x 1))) (m b x))) ((Sm (some ([[SL 21 rows, I q, I t]]))) ∧ (Inv b (wadd .i64 x 1)) ∧ Nat.le (Nat.succ (m b (wadd .i64 x 1))) (m b x))))) (Q [B true]))) : Ct Tryz.prog 34 {} [st3 rows q t] Q :=
 fn_of (f := 34) SgT SvT (fun _ => none) Tryz.f34 Tryz.func34 (by kernel_rfl) (by kernel_rfl) h

theorem sfind_nf (rows : LL) (q t : Int) (s : ByteArray) (Q : List SV → Prop) (h : Cl Tryz.prog 137 sP ([SL 21 rows, SV.clo 138 ([SV.ref 0 [S s]])]) (fun rs => ∃ x, (rs = [I x]) ∧ Q [I x])) : Ct Tryz.prog 90 {} [st3 rows q t, S s] Q :=
 fn_of (f := 90) SgT SvT (fun _ => none) Tryz.f90 Tryz.func90 (by kernel_rfl) (by kernel_rfl) h

theorem sfind1_nf (nm : ByteArray) (ro mo wd sl : Int) (cl : LL) (h0 h1 h2 h3 h4 h5 h6 h7 h8 hs rm ha c0 c1 c2 : Int) (s : ByteArray) (Q : List SV → Prop) (h : Q [B (seq nm s)]) : Ct Tryz.prog 138 {} [cmp21 nm ro mo wd sl cl h0 h1 h2 h3 h4 h5 h6 h7 h8 hs rm ha c0 c1 c2, .ref 0 [S s]] Q :=
 fn_of (f := 138) SgT SvT (fun _ => none) Tryz.f138 Tryz.func138 (by kernel_rfl) (by kernel_rfl) h

theorem sindex_nf (rows : LL) (f : FuncId) (cs : List SV) (Q : List SV → Prop) (h : ∃ Inv : Int → Int → Prop, ∃ m : Int → Int → Nat, (Inv 0 0) ∧ ∀ x x1, (Inv x x1) → ifB (ilt x1 (rlen rows)) ((((0 : Int) ≤ x1) ∧ x1 < (rlen rows)) ∧ ∃ s x2, ∃ x3 x4, ∃ x5 l, ∃ x6 x7, ∃ x8 x9, ∃ x10 x11, ∃ x12 x13, ∃ x14 x15, ∃ x16 x17, ∃ x18 x19 x20, (rget rows x1 = [S s, I x2, I x3, I x4, I x5, SL 2 l, I x6, I x7, I x8, I x9, I x10, I x11, I x12, I x13, I x14, I x15, I x16, I x17, I x18, I x19, I x20]) ∧ Cl Tryz.prog f sP ((SV.agg [S s, I x2, I x3, I x4, I x5, SL 2 l, I x6, I x7, I x8, I x9, I x10, I x11, I x12, I x13, I x14, I x15, I x16, I x17, I x18, I x19, I x20]) :: cs) (fun rs => ∃ b, (rs = [B b]) ∧ ifB b (Q [I x1]) (((Option.some [] : Option (LL)) = Option.some []) ∧ (Inv x (wadd .i64 x1 1)) ∧ Nat.le (Nat.succ (m x (wadd .i64 x1 1))) (m x x1)))) (Q [I ((-1 : Int))])) : Ct Tryz.prog 137 {} [SL 21 rows, .clo f cs] Q :=
 fn_of (f := 137) SgT SvT (fun _ => none) Tryz.f137 Tryz.func137 (by kernel_rfl) (by kernel_rfl) h

theorem ssame_nf (rows : LL) (q t : Int) (rows2 : LL) (q2 t2 : Int) (Q : List SV → Prop) (h : ifB (bpick (ieq q q2) (ieq t t2) false) (Cl Tryz.prog 71 sP ([SL 21 rows, SL 21 rows2, SV.clo 72 []]) (fun rs => ∃ b, (rs = [B b]) ∧ Q [B b])) (Q [B false])) : Ct Tryz.prog 35 {} [st3 rows q t, st3 rows2 q2 t2] Q :=
 fn_of (f := 35) SgT SvT (fun _ => none) Tryz.f35 Tryz.func35 (by kernel_rfl) (by kernel_rfl) h

theorem sequal_nf (rows rows2 : LL) (f : FuncId) (cs : List SV) (Q : List SV → Prop) (h : ifB (ine (rlen rows) (rlen rows2)) (Q [B false]) (∃ Inv : Bool → Int → Prop, ∃ m : Bool → Int → Nat, (Inv false 0) ∧ ∀ b x, (Inv b x) → ifB (ilt x (rlen rows)) ((((0 : Int) ≤ x) ∧ x < (rlen rows)) ∧ ∃ s x1, ∃ x2 x3, ∃ x4 l, ∃ x5 x6, ∃ x7 x8, ∃ x9 x10, ∃ x11 x12, ∃ x13 x14, ∃ x15 x16, ∃ x17 x18 x19, (rget rows x = [S s, I x1, I x2, I x3, I x4, SL 2 l, I x5, I x6, I x7, I x8, I x9, I x10, I x11, I x12, I x13, I x14, I x15, I x16, I x17, I x18, I x19]) ∧ (((0 : Int) ≤ x) ∧ x < (rlen rows2)) ∧ ∃ s1 x20, ∃ x21 x22, ∃ x23 l1, ∃ x24 x25, ∃ x26 x27, ∃ x28 x29, ∃ x30 x31, ∃ x32 x33, ∃ x34 x35, ∃ x36 x37 x38, (rget rows2 x = [S s1, I x20, I x21, I x22, I x23, SL 2 l1, I x24, I x25, I x26, I x27, I x28, I x29, I x30, I x31, I x32, I x33, I x34, I x35, I x36, I x37, I x38]) ∧ Cl Tryz.prog f sP ((SV.agg [S s, I x1, I x2, I x3, I x4, SL 2 l, I x5, I x6, I x7, I x8, I x9, I x10, I x11, I x12, I x13, I x14, I x15, I x16, I x17, I x18, I x19]) :: ((SV.agg [S s1, I x20, I x21, I x22, I x23, SL 2 l1, I x24, I x25, I x26, I x27, I x28, I x29, I x30, I x31, I x32, I x33, I x34, I x35, I x36, I x37, I x38]) :: cs)) (fun rs => ∃ b1, (rs = [B b1]) ∧ ifB (bnot b1) (Q [B false]) (((Option.some [] : Option (LL)) = Option.some []) ∧ (Inv b (wadd .i64 x 1)) ∧ Nat.le (Nat.succ (m b (wadd .i64 x 1))) (m b x)))) (Q [B true]))) : Ct Tryz.prog 71 {} [SL 21 rows, SL 21 rows2, .clo f cs] Q :=
 fn_of (f := 71) SgT SvT (fun _ => none) Tryz.f71 Tryz.func71 (by kernel_rfl) (by kernel_rfl) h

theorem sclone_nf (rows : LL) (Q : List SV → Prop) (h : ∀ b, ((b = true) → rlen rows = 0) → ifB b (Q ([SL 21 []])) (((lsum (rlen []) (rlen rows)) ≤ 2147483648) ∧ Q ([SL 21 (rapp [] rows)]))) : Ct Tryz.prog 84 ⟨[], [.own]⟩ [SL 21 rows] Q :=
 fn_of (f := 84) SgT SvT (fun _ => none) Tryz.f84 Tryz.func84 (by kernel_rfl) (by kernel_rfl) h

theorem sbin_nf (rows : LL) (s : ByteArray) (f : FuncId) (cs : List SV) (Q : List SV → Prop) (h : ∃ Inv : Int → Int → Prop, ∃ m : Int → Int → Nat, (Inv 0 (rlen rows)) ∧ ∀ x x1, (Inv x x1) → ifB (ilt x x1) (((0 : Int) ≤ 1) ∧ (((0 : Int) ≤ (wcv .i64 (wshr .u64 (wcv .u64 (wadd .i64 x x1)) 1))) ∧ (wcv .i64 (wshr .u64 (wcv .u64 (wadd .i64 x x1)) 1)) < (rlen rows)) ∧ ∃ s1 x2, ∃ x3 x4, ∃ x5 l, ∃ x6 x7, ∃ x8 x9, ∃ x10 x11, ∃ x12 x13, ∃ x14 x15, ∃ x16 x17, ∃ x18 x19 x20, (rget rows (wcv .i64 (wshr .u64 (wcv .u64 (wadd .i64 x x1)) 1)) = [S s1, I x2, I x3, I x4, I x5, SL 2 l, I x6, I x7, I x8, I x9, I x10, I x11, I x12, I x13, I x14, I x15, I x16, I x17, I x18, I x19, I x20]) ∧ Cl Tryz.prog f sP ((SV.agg [S s1, I x2, I x3, I x4, I x5, SL 2 l, I x6, I x7, I x8, I x9, I x10, I x11, I x12, I x13, I x14, I x15, I x16, I x17, I x18, I x19, I x20]) :: ((S s) :: cs)) (fun rs => ∃ x21, (rs = [I x21]) ∧ ifB (ilt x21 0) (((Option.some [] : Option (LL)) = Option.some []) ∧ (Inv (wadd .i64 (wcv .i64 (wshr .u64 (wcv .u64 (wadd .i64 x x1)) 1)) 1) x1) ∧ Nat.le (Nat.succ (m (wadd .i64 (wcv .i64 (wshr .u64 (wcv .u64 (wadd .i64 x x1)) 1)) 1) x1)) (m x x1)) (((Option.some [] : Option (LL)) = Option.some []) ∧ (Inv x (wcv .i64 (wshr .u64 (wcv .u64 (wadd .i64 x x1)) 1))) ∧ Nat.le (Nat.succ (m x (wcv .i64 (wshr .u64 (wcv .u64 (wadd .i64 x x1)) 1)))) (m x x1)))) (ifB (ilt x (rlen rows)) ((((0 : Int) ≤ x) ∧ x < (rlen rows)) ∧ ∃ s1 x2, ∃ x3 x4, ∃ x5 l, ∃ x6 x7, ∃ x8 x9, ∃ x10 x11, ∃ x12 x13, ∃ x14 x15, ∃ x16 x17, ∃ x18 x19 x20, (rget rows x = [S s1, I x2, I x3, I x4, I x5, SL 2 l, I x6, I x7, I x8, I x9, I x10, I x11, I x12, I x13, I x14, I x15, I x16, I x17, I x18, I x19, I x20]) ∧ Cl Tryz.prog f sP ((SV.agg [S s1, I x2, I x3, I x4, I x5, SL 2 l, I x6, I x7, I x8, I x9, I x10, I x11, I x12, I x13, I x14, I x15, I x16, I x17, I x18, I x19, I x20]) :: ((S s) :: cs)) (fun rs => ∃ x21, (rs = [I x21]) ∧ Q [I x, B (ieq x21 0)])) (Q [I x, B false]))) : Ct Tryz.prog 86 {} [SL 21 rows, S s, .clo f cs] Q :=
 fn_of (f := 86) SgT SvT (fun _ => none) Tryz.f86 Tryz.func86 (by kernel_rfl) (by kernel_rfl) h

theorem scompare_nf (s t : ByteArray) (Q : List SV → Prop) (h : Cl Tryz.prog 134 sP [S s] (fun rs => ∃ b, (rs = [B b]) ∧ Cl Tryz.prog 134 sP [S t] (fun rs1 => ∃ b1, (rs1 = [B b1]) ∧ ifB b (ifB b1 (Q [I 0]) (Q [I ((-1 : Int))])) (ifB b1 (Q [I 1]) (ifB (slt s t) (Q [I ((-1 : Int))]) (ifB (sgt s t) (Q [I 1]) (Q [I 0]))))))) : Ct Tryz.prog 88 {} [S s, S t] Q :=
 fn_of (f := 88) SgT SvT (fun _ => none) Tryz.f88 Tryz.func88 (by kernel_rfl) (by kernel_rfl) h

theorem snan_nf (s : ByteArray) (Q : List SV → Prop) (h : Q [B (sne s s)]) : Ct Tryz.prog 134 {} [S s] Q :=
 fn_of (f := 134) SgT SvT (fun _ => none) Tryz.f134 Tryz.func134 (by kernel_rfl) (by kernel_rfl) h

theorem sapp1_nf (nm : ByteArray) (ro mo wd sl : Int) (cl : LL) (h0 h1 h2 h3 h4 h5 h6 h7 h8 hs rm ha c0 c1 c2 : Int) (s : ByteArray) (Q : List SV → Prop) (h : Cl Tryz.prog 88 sP [S nm, S s] (fun rs => ∃ x, (rs = [I x]) ∧ Q [I x])) : Ct Tryz.prog 87 {} [cmp21 nm ro mo wd sl cl h0 h1 h2 h3 h4 h5 h6 h7 h8 hs rm ha c0 c1 c2, S s] Q :=
 fn_of (f := 87) SgT SvT (fun _ => none) Tryz.f87 Tryz.func87 (by kernel_rfl) (by kernel_rfl) h

theorem smay_nf (rows : LL) (q t : Int) (s a k : Int) (c : ByteArray) (x y z : Int) (Q : List SV → Prop) (h : Cl Tryz.prog 34 sP ([SV.agg [SL 21 rows, I q, I t]]) (fun rs => ∃ b, (rs = [B b]) ∧ ifB (bnot b) (Q [I 1]) (Cl Tryz.prog 130 sP ([SV.agg [I s, I a, I k, S c, I x, I y, I z]]) (fun rs1 => ∃ x1, (rs1 = [I x1]) ∧ ifB (ine x1 0) (Q [I x1]) (Cl Tryz.prog 90 sP ([SV.agg [SL 21 rows, I q, I t], S c]) (fun rs2 => ∃ x2, (rs2 = [I x2]) ∧ ifB (ine s (wadd .i64 q 1)) (Q [I 1]) (ifB (ilt a t) (Q [I 5]) (ifB (bpick (ieq k 1) (ine x2 ((-1 : Int))) false) (Q [I 7]) (ifB (bpick (ieq k 1) (ieq (rlen rows) 12) false) (Q [I 9]) (ifB (ieq k 1) (Q [I 0]) (ifB (ieq x2 ((-1 : Int))) (Q [I 6]) ((((0 : Int) ≤ x2) ∧ x2 < (rlen rows)) ∧ ∃ s1 x3, ∃ x4 x5, ∃ x6 l, ∃ x7 x8, ∃ x9 x10, ∃ x11 x12, ∃ x13 x14, ∃ x15 x16, ∃ x17 x18, ∃ x19 x20 x21, (rget rows x2 = [S s1, I x3, I x4, I x5, I x6, SL 2 l, I x7, I x8, I x9, I x10, I x11, I x12, I x13, I x14, I x15, I x16, I x17, I x18, I x19, I x20, I x21]) ∧ Cl Tryz.prog 131 sP ([SV.agg [S s1, I x3, I x4, I x5, I x6, SL 2 l, I x7, I x8, I x9, I x10, I x11, I x12, I x13, I x14, I x15, I x16, I x17, I x18, I x19, I x20, I x21], SV.agg [I s, I a, I k, S c, I x, I y, I z]]) (fun rs3 => ∃ x22, (rs3 = [I x22]) ∧ Q [I x22]))))))))))))) : Ct Tryz.prog 83 {} [st3 rows q t, ev7 s a k c x y z] Q :=
 fn_of (f := 83) SgT SvT (fun _ => none) Tryz.f83 Tryz.func83 (by kernel_rfl) (by kernel_rfl) h

theorem sapply_nf (rows : LL) (q t : Int) (s a k : Int) (c : ByteArray) (x y z : Int) (Q : List SV → Prop) (h : Cl Tryz.prog 83 sP ([SV.agg [SL 21 rows, I q, I t], SV.agg [I s, I a, I k, S c, I x, I y, I z]]) (fun rs => ∃ x1, (rs = [I x1]) ∧ ifB (ine x1 0) (Q ([SV.agg [SL 21 rows, I q, I t], I x1])) (Cl Tryz.prog 84 sO [SL 21 rows] (fun rs1 => ∃ l, (rs1 = [SL 21 l]) ∧ ifB (ieq k 1) (Cl Tryz.prog 85 sP [S c, I x, I a] (fun rs2 => ∃ s1 x2, ∃ x3 x4, ∃ x5 l1, ∃ x6 x7, ∃ x8 x9, ∃ x10 x11, ∃ x12 x13, ∃ x14 x15, ∃ x16 x17, ∃ x18 x19, ∃ x20 x21, (rs2 = [SV.agg [S s1, I x2, I x3, I x4, I x5, SL 2 l1, I x6, I x7, I x8, I x9, I x10, I x11, I x12, I x13, I x14, I x15, I x16, I x17, I x18, I x19, I x20], I x21]) ∧ ifB (ine x21 0) (Q ([SV.agg [SL 21 rows, I q, I t], I x21])) (Cl Tryz.prog 86 sP ([SL 21 l, S c, SV.clo 87 []]) (fun rs3 => ∃ x22 b, (rs3 = [I x22, B b]) ∧ Cl Tryz.prog 89 (Sig.mk [Md.own] [Md.own]) ([SL 21 l, I x22, SL 21 ([[S s1, I x2, I x3, I x4, I x5, SV.slice 2 l1 0, I x6, I x7, I x8, I x9, I x10, I x11, I x12, I x13, I x14, I x15, I x16, I x17, I x18, I x19, I x20]])]) (fun rs4 => ∃ l2, (rs4 = [SL 21 l2]) ∧ Q ([SV.agg [SL 21 l2, I s, I a], I 0])))))) (Cl Tryz.prog 90 sP ([SV.agg [SL 21 rows, I q, I t], S c]) (fun rs2 => ∃ x2, (rs2 = [I x2]) ∧ (((0 : Int) ≤ x2) ∧ x2 < (rlen l)) ∧ (((0 : Int) ≤ x2) ∧ x2 < (rlen l)) ∧ ∃ s1 x3, ∃ x4 x5, ∃ x6 l1, ∃ x7 x8, ∃ x9 x10, ∃ x11 x12, ∃ x13 x14, ∃ x15 x16, ∃ x17 x18, ∃ x19 x20 x21, (rget l x2 = [S s1, I x3, I x4, I x5, I x6, SL 2 l1, I x7, I x8, I x9, I x10, I x11, I x12, I x13, I x14, I x15, I x16, I x17, I x18, I x19, I x20, I x21]) ∧ (Cl Tryz.prog 91 sP ([SV.agg [S s1, I x3, I x4, I x5, I x6, SL 2 l1, I x7, I x8, I x9, I x10, I x11, I x12, I x13, I x14, I x15, I x16, I x17, I x18, I x19, I x20, I x21], SV.agg [I s, I a, I k, S c, I x, I y, I z]]) (fun rs3 => ∃ s2 x22, ∃ x23 x24, ∃ x25 l2, ∃ x26 x27, ∃ x28 x29, ∃ x30 x31, ∃ x32 x33, ∃ x34 x35, ∃ x36 x37, ∃ x38 x39, ∃ x40 x41, (rs3 = [SV.agg [S s2, I x22, I x23, I x24, I x25, SL 2 l2, I x26, I x27, I x28, I x29, I x30, I x31, I x32, I x33, I x34, I x35, I x36, I x37, I x38, I x39, I x40], I x41]) ∧ ifB (ine x41 0) (Q ([SV.agg [SL 21 rows, I q, I t], I x41])) ((((0 : Int) ≤ x2) ∧ x2 < (rlen l)) ∧ (((0 : Int) ≤ x2) ∧ x2 < (rlen l)) ∧ Q ([SV.agg ([SL 21 (rset l x2 [S s2, I x22, I x23, I x24, I x25, SV.slice 2 l2 0, I x26, I x27, I x28, I x29, I x30, I x31, I x32, I x33, I x34, I x35, I x36, I x37, I x38, I x39, I x40]), I s, I a]), I 0])))) ∧ Cl Tryz.prog 91 sP ([SV.agg [S s1, I x3, I x4, I x5, I x6, SL 2 l1, I x7, I x8, I x9, I x10, I x11, I x12, I x13, I x14, I x15, I x16, I x17, I x18, I x19, I x20, I x21], SV.agg [I s, I a, I k, S c, I x, I y, I z]]) (fun rs3 => ∃ s2 x22, ∃ x23 x24, ∃ x25 l2, ∃ x26 x27, ∃ x28 x29, ∃ x30 x31, ∃ x32 x33, ∃ x34 x35, ∃ x36 x37, ∃ x38 x39, ∃ x40 x41, (rs3 = [SV.agg [S s2, I x22, I x23, I x24, I x25, SL 2 l2, I x26, I x27, I x28, I x29, I x30, I x31, I x32, I x33, I x34, I x35, I x36, I x37, I x38, I x39, I x40], I x41]) ∧ ifB (ine x41 0) (Q ([SV.agg [SL 21 rows, I q, I t], I x41])) ((((0 : Int) ≤ x2) ∧ x2 < (rlen l)) ∧ (((0 : Int) ≤ x2) ∧ x2 < (rlen l)) ∧ Q ([SV.agg ([SL 21 (rset l x2 [S s2, I x22, I x23, I x24, I x25, SV.slice 2 l2 0, I x26, I x27, I x28, I x29, I x30, I x31, I x32, I x33, I x34, I x35, I x36, I x37, I x38, I x39, I x40]), I s, I a]), I 0]))))))))) : Ct Tryz.prog 50 {} [st3 rows q t, ev7 s a k c x y z] Q :=
 fn_of (f := 50) SgT SvT (fun _ => none) Tryz.f50 Tryz.func50 (by kernel_rfl) (by kernel_rfl) h


end Go.Proofs.YtknnooannohflaaGreatDoor.St

namespace Go.Proofs.YtknnooannohflaaGreatDoor.St
open Go Go.Px Go.Proofs Cmp
set_option maxRecDepth 100000
set_option linter.unusedVariables false

abbrev _root_.Go.Proofs.YtknnooannohflaaGreatDoor.Cmp.CoD.row (c : CoD) : List SV := [S c.nm, I c.ro, I c.mo, I c.wd, I c.sl, SL 2 (cR c.cl), I c.h0, I c.h1, I c.h2, I c.h3, I c.h4, I c.h5, I c.h6, I c.h7, I c.h8, I c.hs, I c.rm, I c.ha, I c.c0, I c.c1, I c.c2]
abbrev coR (l : List CoD) : List (List SV) := l.map CoD.row
abbrev _root_.Go.Proofs.YtknnooannohflaaGreatDoor.Cmp.EvD.row (e : EvD) : List SV := [I e.s, I e.a, I e.k, S e.c, I e.x, I e.y, I e.z]
abbrev eR (l : List EvD) : List (List SV) := l.map EvD.row
deriving instance DecidableEq for CoD
structure StD where
 cs : List CoD
 q : Int
 t : Int
deriving DecidableEq
abbrev StD.sv (d : StD) : SV := .agg [SL 21 (coR d.cs), I d.q, I d.t]

theorem same_iff {c d : CoD} : sameP c d ↔ c = d := by
 constructor
 ·intro h
  cases c; cases d
  simp only [sameP] at h
  simp [h]
 ·rintro rfl; exact sameP_refl c

def StD.P (d : StD) : Prop := (d.cs.length ≤ 12 ∧ 0 ≤ d.q ∧ d.q ≤ 4294967296 ∧ 0 ≤ d.t ∧ d.t ≤ 1099511627776) ∧ (∀ c ∈ d.cs, c.P) ∧ srt CoD.nm d.cs
instance (d : StD) : Decidable d.P := inferInstanceAs (Decidable (_ ∧ _))
def StD.short (d : StD) : Prop := (∀ c ∈ d.cs, c.nm.size ≤ 100 ∧ c.cl.length ≤ 40) ∧ d.cs.length ≤ 20
instance (d : StD) : Decidable d.short := inferInstanceAs (Decidable (_ ∧ _))

def mayS (d : StD) (e : EvD) : Int :=
 if ¬ d.P then 1 else if chkE e ≠ 0 then chkE e else if e.s ≠ d.q + 1 then 1 else if e.a < d.t then 5
 else if e.k = 1 then (if fAt CoD.nm d.cs e.c ≠ -1 then 7 else if d.cs.length = 12 then 9 else 0)
 else if fAt CoD.nm d.cs e.c = -1 then 6 else mayI (d.cs.getD (fAt CoD.nm d.cs e.c).toNat co0) e
def nxtS (d : StD) (e : EvD) : CoD := if e.k = 1 then (newC e.c e.x e.a).1 else tellC (d.cs.getD (fAt CoD.nm d.cs e.c).toNat co0) e
def appS (d : StD) (e : EvD) : StD × Int := if mayS d e ≠ 0 then (d, mayS d e) else (⟨withB CoD.nm d.cs (nxtS d e), e.s, e.a⟩, 0)
def foldS (d : StD) : List EvD → StD × Nat × Int
 | [] => (d, 0, 0)
 | e :: l => if (appS d e).2 ≠ 0 then (d, 0, (appS d e).2) else ((foldS (appS d e).1 l).1, (foldS (appS d e).1 l).2.1 + 1, (foldS (appS d e).1 l).2.2)

theorem adj_srtC {l : List CoD} (h : ∀ i : Nat, ∀ hi : i < l.length, 0 < i → nlt (l[i - 1]'(by omega)).nm l[i].nm) : srt CoD.nm l :=
 srt_adj fun i hi => h (i + 1) hi (by omega)

end Go.Proofs.YtknnooannohflaaGreatDoor.St

namespace Go.Proofs.YtknnooannohflaaGreatDoor.St
open Go Go.Px Go.Proofs Cmp
set_option maxRecDepth 100000
set_option linter.unusedVariables false

theorem sshort_fn (d : StD) (hl : d.cs.length ≤ 9223372036854775807) : Ct Tryz.prog 23 {} [d.sv] (fun r => r = [B (decide d.short)]) := by
 refine sshort_nf _ _ _ _ ⟨fun _ x => ∃ i : Nat, x = i ∧ i ≤ d.cs.length ∧ ∀ j : Nat, ∀ hj : j < d.cs.length, j < i → d.cs[j].nm.size ≤ 100 ∧ d.cs[j].cl.length ≤ 40, fun _ x => d.cs.length - x.toNat, ⟨0, rfl, by omega, fun j _ hj => by omega⟩, ?_⟩
 rintro b _ ⟨i, rfl, hi, hall⟩
 refine ifB_intro (fun h => ?_) (fun h => ?_)
 ·have h : i < d.cs.length := by simpa using h
  rw [waddN _ (by omega)]
  refine ⟨⟨by omega, by simpa using h⟩, _, _, _, _, _, _, _, _, _, _, _, _, _, _, _, _, _, _, _, _, _, rget_map _ _ _ h, Cl.of (qshort_fn d.cs[i]) ⟨_, rfl, ifB_intro (fun z => ?_) (fun z => ⟨rfl, ⟨i + 1, rfl, by omega, fun j hj hjk => ?_⟩, stepL (by simp; omega)⟩)⟩⟩
  ·have : ¬ d.short := fun p => by
    have := p.1 _ (List.getElem_mem h)
    rw [decide_eq_true this] at z; cases z
   simp [this]
  ·by_cases e : j = i
   ·subst e; simpa using z
   ·exact hall j hj (by omega)
 ·have h : ¬ i < d.cs.length := by simpa using h
  have : d.short ↔ d.cs.length ≤ 20 := ⟨fun p => p.2, fun p => ⟨fun c hc => by
   obtain ⟨j, hj, rfl⟩ := List.mem_iff_getElem.1 hc
   exact hall j hj (by omega), p⟩⟩
  simp [this]
  omega

theorem sright_fn (d : StD) : Ct Tryz.prog 34 {} [d.sv] (fun r => r = [B (decide d.P)]) := by
 have no : ¬ d.P → [B false] = [B (decide d.P)] := fun h => by simp [h]
 refine sright_nf _ _ _ _ (ifB_intro (fun h1 => no (fun p => ?_)) (fun h1 => ?_))
 ·have := p.1; simp at h1; omega
 ·simp at h1
  have hl : d.cs.length ≤ 12 := by omega
  refine ⟨fun _ y => ∃ i : Nat, y = i ∧ i ≤ d.cs.length ∧ ∀ j : Nat, ∀ hj : j < d.cs.length, j < i → d.cs[j].P ∧ (0 < j → nlt (d.cs[j - 1]'(by omega)).nm d.cs[j].nm), fun _ y => d.cs.length - y.toNat, ⟨0, rfl, by omega, fun j _ hj => by omega⟩, ?_⟩
  rintro b _ ⟨i, rfl, hi, hall⟩
  refine ifB_intro (fun h2 => ?_) (fun h2 => ?_)
  ·have h2 : i < d.cs.length := by simpa using h2
   have st : Nat.le (Nat.succ (d.cs.length - ((i + 1 : Nat) : Int).toNat)) (d.cs.length - ((i : Nat) : Int).toNat) := stepL (by simp; omega)
   have nxt : d.cs[i].P → (0 < i → nlt (d.cs[i - 1]'(by omega)).nm d.cs[i].nm) → ∃ k : Nat, ((i + 1 : Nat) : Int) = k ∧ k ≤ d.cs.length ∧ ∀ j : Nat, ∀ hj : j < d.cs.length, j < k → d.cs[j].P ∧ (0 < j → nlt (d.cs[j - 1]'(by omega)).nm d.cs[j].nm) := fun a b =>
    ⟨i + 1, rfl, by omega, fun j hj hjk => by
     by_cases e : j = i
     ·subst e; exact ⟨a, b⟩
     ·exact hall j hj (by omega)⟩
   rw [waddN _ (by omega)]
   refine ⟨⟨by omega, by simpa using h2⟩, _, _, _, _, _, _, _, _, _, _, _, _, _, _, _, _, _, _, _, _, _, rget_map _ _ _ h2, Cl.of (pright_fn d.cs[i]) ⟨_, rfl, ifB_intro (fun h3 => no (fun p => ?_)) (fun h3 => ?_)⟩⟩
   ·rw [decide_eq_true (p.2.1 _ (List.getElem_mem h2))] at h3; cases h3
   ·have h3 : d.cs[i].P := by simpa using h3
    refine ifB_intro (fun h4 => ?_) (fun h4 => ?_)
    ·have h4 : 0 < i := by simpa using h4
     have w : wsub .i64 (i : Int) 1 = ((i - 1 : Nat) : Int) := by rw [wsub_i64 (by omega) (by omega)]; omega
     rw [w]
     have hi1 : i - 1 < d.cs.length := by omega
     refine ⟨⟨by omega, by simp; omega⟩, _, _, _, _, _, _, _, _, _, _, _, _, _, _, _, _, _, _, _, _, _, rget_map _ _ _ hi1, ?_⟩
     rw [sge_d]
     refine ifB_intro (fun h5 => no (fun p => ?_)) (fun h5 => ⟨rfl, nxt h3 (fun _ => ?_), st⟩)
     ·simp at h5
      exact h5 (srt_get p.2.2 (by omega) h2)
     ·simp at h5; exact h5
    ·simp at h4
     exact ⟨rfl, nxt h3 (fun _ => by omega), st⟩
  ·have h2 : ¬ i < d.cs.length := by simpa using h2
   have hs : srt CoD.nm d.cs := adj_srtC fun j hj => (hall j hj (by omega)).2
   have hn : ∀ f ∈ d.cs, f.P := fun f hf => by
    obtain ⟨j, hj, rfl⟩ := List.mem_iff_getElem.1 hf
    exact (hall j hj (by omega)).1
   rw [decide_eq_true (show d.P from ⟨⟨hl, by omega, by omega, by omega, by omega⟩, hn, hs⟩)]

theorem fnd_of {l : List CoD} {s : ByteArray} {i : Nat} (hi : i < l.length) (e : l[i].nm = s) (h : ∀ j (hj : j < i), (l[j]'(by omega)).nm ≠ s) : fAt CoD.nm l s = i := by
 unfold fAt; rw [fnd_some.2 ⟨hi, e, h⟩]

theorem sfind1_fn (c : CoD) (s : ByteArray) : Ct Tryz.prog 138 {} [c.sv, .ref 0 [S s]] (fun r => r = [B (decide (c.nm = s))]) := by
 refine sfind1_nf _ _ _ _ _ _ _ _ _ _ _ _ _ _ _ _ _ _ _ _ _ _ _ ?_
 rw [seq_d]

theorem sfind_fn (d : StD) (hl : d.cs.length ≤ 9223372036854775807) (s : ByteArray) : Ct Tryz.prog 90 {} [d.sv, S s] (fun r => r = [I (fAt CoD.nm d.cs s)]) := by
 have A : Ct Tryz.prog 137 {} [SL 21 (coR d.cs), .clo 138 [.ref 0 [S s]]] (fun r => r = [I (fAt CoD.nm d.cs s)]) := by
  refine sindex_nf _ _ _ _ ⟨fun _ x => ∃ i : Nat, x = i ∧ i ≤ d.cs.length ∧ ∀ j : Nat, ∀ hj : j < d.cs.length, j < i → d.cs[j].nm ≠ s, fun _ x => d.cs.length - x.toNat, ⟨0, rfl, by omega, fun j _ hj => by omega⟩, ?_⟩
  rintro b _ ⟨i, rfl, hi, hall⟩
  refine ifB_intro (fun h => ?_) (fun h => ?_)
  ·have h : i < d.cs.length := by simpa using h
   refine ⟨⟨by omega, by simpa using h⟩, _, _, _, _, _, _, _, _, _, _, _, _, _, _, _, _, _, _, _, _, _, rget_map _ _ _ h, Cl.of (sfind1_fn d.cs[i] s) ⟨_, rfl, ?_⟩⟩
   rw [waddN _ (by omega)]
   refine ifB_intro (fun z => ?_) (fun z => ⟨rfl, ⟨i + 1, rfl, by omega, fun j hj hjk => ?_⟩, stepL (by simp; omega)⟩)
   ·rw [fnd_of h (by simpa using z) (fun j hj => hall j (by omega) hj)]
   ·by_cases e : j = i
    ·subst e; simpa using z
    ·exact hall j hj (by omega)
  ·have h : ¬ i < d.cs.length := by simpa using h
   rw [fAt_none.2 (fun f hf => by
    obtain ⟨j, hj, rfl⟩ := List.mem_iff_getElem.1 hf
    exact hall j hj (by omega))]
 exact sfind_nf _ _ _ _ _ (Cl.of A ⟨_, rfl, rfl⟩)

def cells40 (d : StD) : Prop := ∀ c ∈ d.cs, c.cl.length ≤ 1000000

theorem sequal_fn (a b : List CoD) (ha : a.length ≤ 9223372036854775807) (hc : ∀ c ∈ a, c.cl.length ≤ 1000000) : Ct Tryz.prog 71 {} [SL 21 (coR a), SL 21 (coR b), .clo 72 []] (fun r => r = [B (decide (a = b))]) := by
 have no : ¬ a = b → [B false] = [B (decide (a = b))] := fun h => by simp [h]
 refine sequal_nf _ _ _ _ _ (ifB_intro (fun h => no (fun e => by subst e; simp at h)) (fun h => ?_))
 have hlen : a.length = b.length := by simp at h; omega
 refine ⟨fun _ x => ∃ i : Nat, x = i ∧ i ≤ a.length ∧ ∀ j : Nat, ∀ hj : j < a.length, j < i → a[j] = b[j]'(by omega), fun _ x => a.length - x.toNat, ⟨0, rfl, by omega, fun j _ hj => by omega⟩, ?_⟩
 rintro _ _ ⟨i, rfl, hi, hall⟩
 refine ifB_intro (fun h => ?_) (fun h => ?_)
 ·have h : i < a.length := by simpa using h
  have h' : i < b.length := by omega
  rw [waddN _ (by omega)]
  refine ⟨⟨by omega, by simpa using h⟩, _, _, _, _, _, _, _, _, _, _, _, _, _, _, _, _, _, _, _, _, _, rget_map _ _ _ h, ⟨by omega, by simpa using h'⟩, _, _, _, _, _, _, _, _, _, _, _, _, _, _, _, _, _, _, _, _, _, rget_map _ _ _ h', Cl.of (psame_fn a[i] b[i] (hc _ (List.getElem_mem h))) ⟨_, rfl, ifB_intro (fun z => no (fun e => ?_)) (fun z => ⟨rfl, ⟨i + 1, rfl, by omega, fun j hj hjk => ?_⟩, stepL (by simp; omega)⟩)⟩⟩
  ·have : sameP a[i] b[i] := same_iff.2 (by subst e; rfl)
   rw [decide_eq_true this] at z; cases z
  ·by_cases e : j = i
   ·subst e; exact same_iff.1 (by simpa using z)
   ·exact hall j hj (by omega)
 ·have h : ¬ i < a.length := by simpa using h
  rw [decide_eq_true (List.ext_getElem hlen fun j h1 h2 => hall j h1 (by omega))]

theorem ssame_fn (a b : StD) (ha : a.cs.length ≤ 9223372036854775807) (hc : ∀ c ∈ a.cs, c.cl.length ≤ 1000000) : Ct Tryz.prog 35 {} [a.sv, b.sv] (fun r => r = [B (decide (a = b))]) := by
 refine ssame_nf _ _ _ _ _ _ _ (ifB_intro (fun h => Cl.of (sequal_fn a.cs b.cs ha hc) ⟨_, rfl, ?_⟩) (fun h => ?_))
 ·have h : a.q = b.q ∧ a.t = b.t := by simpa using h
  refine congrArg (fun b => [B b]) ?_
  rw [decide_eq_decide]
  cases a; cases b; simp_all
 ·have : ¬ a = b := fun e => by subst e; simp at h
  simp [this]

end Go.Proofs.YtknnooannohflaaGreatDoor.St

namespace Go.Proofs.YtknnooannohflaaGreatDoor.St
open Go Go.Px Go.Proofs Cmp
set_option maxRecDepth 100000
set_option linter.unusedVariables false

theorem ovl_comp : fovl Tryz.prog 135 40 := by
 refine ⟨#[4], fun x y w => ?_⟩
 rw [run_callFunc_extern Tryz.func135 (by kernel_rfl) (by kernel_rfl) (by kernel_rfl) (e := Extern.SlicesOverlaps.overlaps #[40, 40] #[4]) (by kernel_rfl)]

theorem sclone_fn (l : List CoD) (h : l.length ≤ 2147483648) : Ct Tryz.prog 84 ⟨[], [.own]⟩ [SL 21 (coR l)] (fun r => r = [SL 21 (coR l)]) := by
 refine sclone_nf _ _ (fun b hb => ifB_intro (fun e => ?_) (fun e => ⟨by simp; omega, by simp [rapp]⟩))
 have := hb e
 have : l = [] := by
  have h2 : (coR l).length = 0 := by simp only [rlen_eq] at this; omega
  rw [List.length_map] at h2
  exact List.eq_nil_of_length_eq_zero h2
 rw [this]; rfl

theorem snan_fn (s : ByteArray) : Ct Tryz.prog 134 {} [S s] (fun r => r = [B false]) := by
 refine snan_nf _ _ ?_
 simp
theorem scompare_fn (s t : ByteArray) : Ct Tryz.prog 88 {} [S s, S t] (fun r => r = [I (if nlt s t then -1 else if nlt t s then 1 else 0)]) := by
 refine scompare_nf _ _ _ (Cl.of (snan_fn s) ⟨_, rfl, Cl.of (snan_fn t) ⟨_, rfl, ?_⟩⟩)
 show ifB (slt s t) _ _
 rw [slt_d, sgt_d]
 exact ifB_d (fun h => by rw [if_pos h]) (fun h => ifB_d (fun k => by rw [if_neg h, if_pos k]) (fun k => by rw [if_neg h, if_neg k]))
theorem sapp1_fn (c : CoD) (s : ByteArray) : Ct Tryz.prog 87 {} [c.sv, S s] (fun r => r = [I (if nlt c.nm s then -1 else if nlt s c.nm then 1 else 0)]) :=
 sapp1_nf _ _ _ _ _ _ _ _ _ _ _ _ _ _ _ _ _ _ _ _ _ _ _ (Cl.of (scompare_fn _ _) ⟨_, rfl, rfl⟩)

theorem halfS {i j : Nat} (h : i + j ≤ 9223372036854775807) : wcv .i64 (wshr .u64 (wcv .u64 (wadd .i64 (i : Int) (j : Int))) 1) = (((i + j) / 2 : Nat) : Int) := by
 rw [waddNN _ _ h]
 have e1 : wcv .u64 ((i + j : Nat) : Int) = ((i + j : Nat) : Int) := by
  simp only [wcv, IntKind.wrap, IntKind.signed, IntKind.bits]; simp; omega
 rw [e1]
 have e2 : wshr .u64 ((i + j : Nat) : Int) 1 = (((i + j) / 2 : Nat) : Int) := by
  simp only [wshr, IntKind.bits]
  simp
  rw [Int.fdiv_eq_ediv_of_nonneg _ (by omega)]
 rw [e2]
 unfold wcv
 exact wrap_i64 (by omega) (by omega)

theorem sbin_fn (l : List CoD) (hs : srt CoD.nm l) (hl : l.length ≤ 1000000) (s : ByteArray) : Ct Tryz.prog 86 {} [SL 21 (coR l), S s, .clo 87 []] (fun r => ∃ b : Bool, r = [I ((ahd CoD.nm l s).length : Nat), B b]) := by
 refine sbin_nf _ _ _ _ _ ⟨fun x y => ∃ i j : Nat, x = i ∧ y = j ∧ i ≤ (ahd CoD.nm l s).length ∧ (ahd CoD.nm l s).length ≤ j ∧ j ≤ l.length, fun x y => y.toNat - x.toNat, ⟨0, l.length, rfl, by simp, by omega, ahd_len, by omega⟩, ?_⟩
 rintro _ _ ⟨i, j, rfl, rfl, h1, h2, h3⟩
 refine ifB_intro (fun h => ?_) (fun h => ?_)
 ·simp at h
  rw [halfS (by omega)]
  have hm : (i + j) / 2 < l.length := by omega
  refine ⟨by omega, ⟨by omega, by simp; omega⟩, _, _, _, _, _, _, _, _, _, _, _, _, _, _, _, _, _, _, _, _, _, rget_map _ _ _ hm, Cl.of (sapp1_fn _ s) ⟨_, rfl, ifB_intro (fun h4 => ⟨rfl, ?_, ?_⟩) (fun h4 => ⟨rfl, ⟨i, (i + j) / 2, rfl, rfl, h1, ?_, by omega⟩, stepL (by simp; omega)⟩)⟩⟩
  ·rw [waddN _ (by omega)]
   refine ⟨(i + j) / 2 + 1, j, rfl, rfl, ?_, h2, h3⟩
   have : nlt l[(i + j) / 2].nm s := by
    refine Decidable.byContradiction fun hn => ?_
    rw [if_neg hn] at h4
    split at h4 <;> simp at h4
   have := (ahd_iff (s := s) hs hm).2 this
   omega
  ·rw [waddN _ (by omega)]
   exact stepL (by simp; omega)
  ·have hn : ¬ nlt l[(i + j) / 2].nm s := fun hn => by rw [if_pos hn] at h4; simp at h4
   have : ¬ ((i + j) / 2 < (ahd CoD.nm l s).length) := fun k => hn ((ahd_iff (s := s) hs hm).1 k)
   omega
 ·simp at h
  have e : i = (ahd CoD.nm l s).length := by omega
  refine ifB_intro (fun h4 => ?_) (fun h4 => ⟨_, by rw [← e]⟩)
  have h4 : i < l.length := by simpa using h4
  exact ⟨⟨by omega, by simpa using h4⟩, _, _, _, _, _, _, _, _, _, _, _, _, _, _, _, _, _, _, _, _, _, rget_map _ _ _ h4, Cl.of (sapp1_fn _ s) ⟨_, rfl, _, by rw [← e]⟩⟩

theorem getD_at {l : List CoD} {i : Nat} (h : i < l.length) : l.getD ((i : Nat) : Int).toNat co0 = l[i] := by simp [h]

structure MayS (d : StD) (e : EvD) : Prop where
 p : d.P
 chk : chkE e = 0
 sq : e.s = d.q + 1
 tm : d.t ≤ e.a
 new : e.k = 1 → fAt CoD.nm d.cs e.c = -1 ∧ d.cs.length < 12
 old : e.k ≠ 1 → ∃ i : Nat, ∃ h : i < d.cs.length, fAt CoD.nm d.cs e.c = i ∧ d.cs[i].nm = e.c ∧ mayI d.cs[i] e = 0
theorem mayS_zero {d : StD} {e : EvD} (h : mayS d e = 0) : MayS d e := by
 unfold mayS at h
 by_cases hp : d.P
 case neg => rw [if_pos hp] at h; cases h
 rw [if_neg (by simp [hp])] at h
 by_cases hc : chkE e = 0
 case neg => rw [if_pos hc] at h; exact absurd h hc
 rw [if_neg (by simp [hc])] at h
 by_cases hs : e.s = d.q + 1
 case neg => rw [if_pos hs] at h; cases h
 rw [if_neg (by simp [hs])] at h
 by_cases ht : e.a < d.t
 ·rw [if_pos ht] at h; cases h
 rw [if_neg ht] at h
 refine ⟨hp, hc, hs, by omega, fun hk => ?_, fun hk => ?_⟩
 ·rw [if_pos hk] at h
  have hl := hp.1.1
  by_cases hf : fAt CoD.nm d.cs e.c = -1
  case neg => rw [if_pos hf] at h; cases h
  rw [if_neg (by simp [hf])] at h
  by_cases h12 : d.cs.length = 12
  ·rw [if_pos h12] at h; cases h
  ·exact ⟨hf, by omega⟩
 ·rw [if_neg hk] at h
  rcases fAt_cases (nm := CoD.nm) (l := d.cs) (s := e.c) with h5 | ⟨i, hi, h5, h6, _⟩
  ·rw [if_pos h5] at h; cases h
  ·rw [if_neg (by omega), h5, getD_at hi] at h
   exact ⟨i, hi, h5, h6, h⟩

theorem new_ok {d : StD} {e : EvD} (m : MayS d e) (hk : e.k = 1) : (newC e.c e.x e.a).2 = 0 ∧ (newC e.c e.x e.a).1.nm = e.c := by
 obtain ⟨_, hn, hv, ht, _⟩ := chkE_zero m.chk
 have hb : namB e.c = true := by unfold namB; rw [decide_eq_true hn]
 have l1 : lo1 e.k = 1 := by simp [lo1, hk]
 have l2 : hi1 e.k = 3 := by simp [hi1, hk]
 unfold newC
 rw [if_neg (by simp [hb]), if_neg (by omega), if_neg (by simp [ht])]
 split <;> exact ⟨rfl, rfl⟩

theorem nxt_nm {d : StD} {e : EvD} (m : MayS d e) : (nxtS d e).nm = e.c := by
 unfold nxtS
 by_cases hk : e.k = 1
 ·rw [if_pos hk]; exact (new_ok m hk).2
 ·rw [if_neg hk]
  obtain ⟨i, hi, h1, h2, _⟩ := m.old hk
  rw [h1, getD_at hi, (tell_nm _ _).1, h2]

end Go.Proofs.YtknnooannohflaaGreatDoor.St

namespace Go.Proofs.YtknnooannohflaaGreatDoor.St
open Go Go.Px Go.Proofs Cmp
set_option maxRecDepth 100000
set_option linter.unusedVariables false

end Go.Proofs.YtknnooannohflaaGreatDoor.St

namespace Go.Proofs.YtknnooannohflaaGreatDoor.St
open Go Go.Px Go.Proofs Cmp
set_option maxRecDepth 100000
set_option linter.unusedVariables false

theorem smay_reg (d : StD) (hl : d.cs.length ≤ 1000000) (e : EvD) (hk1 : e.k = 1) : Ct Tryz.prog 83 {} [d.sv, e.sv] (fun r => r = [I (mayS d e)]) := by
 refine smay_nf _ _ _ _ _ _ _ _ _ _ _ (Cl.of (sright_fn d) ⟨_, rfl, ifB_intro (fun h => ?_) (fun h => ?_)⟩)
 ·have h : ¬ d.P := by simpa using h
  unfold mayS; rw [if_pos h]
 have hp : d.P := by simpa using h
 refine Cl.of (check_fn e.s e.a e.k e.c e.x e.y e.z) ⟨_, rfl, ifB_intro (fun h => ?_) (fun h => ?_)⟩
 ·have h : chkE e ≠ 0 := by simpa [chkE] using h
  unfold mayS; rw [if_neg (by simp [hp]), if_pos h]; rfl
 have hc : chkE e = 0 := by simpa [chkE] using h
 have hq := hp.1.2.2.1
 have hq0 := hp.1.2.1
 have w : wadd .i64 d.q 1 = d.q + 1 := wadd_i64 (by omega) (by omega)
 unfold mayS
 rw [if_neg (by simp [hp]), if_neg (by simp [hc])]
 refine Cl.of (sfind_fn d (by omega) e.c) ⟨_, rfl, ?_⟩
 rw [w]
 refine ifB_intro (fun h => ?_) (fun h => ?_)
 ·rw [if_pos (by simpa using h)]
 rw [if_neg (by simpa using h)]
 refine ifB_intro (fun h => ?_) (fun h => ?_)
 ·rw [if_pos (by simpa using h)]
 rw [if_neg (by simpa using h)]
 refine ifB_intro (fun h => ?_) (fun h1 => ?_)
 ·have h : e.k = 1 ∧ ¬ fAt CoD.nm d.cs e.c = -1 := by simpa using h
  rw [if_pos h.1, if_pos h.2]
 refine ifB_intro (fun h => ?_) (fun h2 => ?_)
 ·have h : e.k = 1 ∧ d.cs.length = 12 := by simp at h; omega
  have h1 : e.k = 1 → fAt CoD.nm d.cs e.c = -1 := by simpa using h1
  rw [if_pos h.1, if_neg (by simp [h1 h.1]), if_pos h.2]
 refine ifB_intro (fun h => ?_) (fun h3 => ?_)
 ·have h : e.k = 1 := by simpa using h
  have h1 : e.k = 1 → fAt CoD.nm d.cs e.c = -1 := by simpa using h1
  have h2 : e.k = 1 → ¬ d.cs.length = 12 := by simp at h2; omega
  rw [if_pos h, if_neg (by simp [h1 h]), if_neg (h2 h)]
 have h3 : ¬ e.k = 1 := by simpa using h3
 exact absurd hk1 h3

theorem sapply_reg (d : StD) (hl : d.cs.length ≤ 1000000) (e : EvD) (hk1 : e.k = 1) : Ct Tryz.prog 50 {} [d.sv, e.sv] (fun r => r = [(appS d e).1.sv, I (appS d e).2]) := by
 refine sapply_nf _ _ _ _ _ _ _ _ _ _ _ (Cl.of (smay_reg d hl e hk1) ⟨_, rfl, ifB_intro (fun h => ?_) (fun h => ?_)⟩)
 ·have h : mayS d e ≠ 0 := by simpa using h
  unfold appS; rw [if_pos h]
 have h : mayS d e = 0 := by simpa using h
 have m := mayS_zero h
 have ea : appS d e = (⟨withB CoD.nm d.cs (nxtS d e), e.s, e.a⟩, 0) := by unfold appS; rw [if_neg (by simp [h])]
 rw [ea]
 refine Cl.of (sclone_fn d.cs (by omega)) ⟨_, rfl, ifB_intro (fun hk => ?_) (fun hk => ?_)⟩
 ·have hk : e.k = 1 := by simpa using hk
  obtain ⟨n1, n2⟩ := new_ok m hk
  have hn := (m.new hk).1
  have hno : ∀ g ∈ d.cs, g.nm ≠ e.c := fAt_none.1 hn
  refine Cl.of (pnew_fn e.c e.x e.a) ⟨_, _, _, _, _, _, _, _, _, _, _, _, _, _, _, _, _, _, _, _, _, _, rfl, ifB_intro (fun z => by simp [n1] at z) (fun _ => Cl.ofQ (sbin_fn d.cs m.p.2.2 hl e.c) ?_)⟩
  rintro _ ⟨b, rfl⟩
  refine ⟨_, _, rfl, Cl.of (Ins.cinsert_fn (coR d.cs) (ahd CoD.nm d.cs e.c).length (newC e.c e.x e.a).1.row (by simpa using ahd_len) (by simpa using hl) ovl_comp) ⟨_, rfl, ?_⟩⟩
  have : withB CoD.nm d.cs (nxtS d e) = d.cs.take (ahd CoD.nm d.cs e.c).length ++ (newC e.c e.x e.a).1 :: d.cs.drop (ahd CoD.nm d.cs e.c).length := by
   unfold nxtS; rw [if_pos hk, withB_new (by rw [n2]; exact hno), insB_at, n2]
  rw [this]
  simp [List.map_take, List.map_drop]
 ·have hk : ¬ e.k = 1 := by simpa using hk
  exact absurd hk1 hk

end Go.Proofs.YtknnooannohflaaGreatDoor.St

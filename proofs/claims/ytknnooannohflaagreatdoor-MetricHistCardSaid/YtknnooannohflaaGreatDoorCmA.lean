/- Layers 1, 11 to 14: what the functions of packages count, window, bucket, hist and comp, and of their references, do with plain data: the conditions. -/
import Derived.Test.YtknnooannohflaaGreatDoorEvA
namespace Go.Proofs.YtknnooannohflaaGreatDoor.Cmp
open Go Go.Px Go.Proofs
set_option maxRecDepth 100000
set_option linter.unusedVariables false

def SgT : FuncId → Sig := (fun f => bif Nat.beq f 183 then ⟨[], [.own]⟩ else {})
def SvT : TypeId → Sig := fun _ => {}
abbrev win3 (wd sl : Int) (cl : List (List SV)) : SV := .agg [I wd, I sl, SL 2 cl]
abbrev his10 (h0 h1 h2 h3 h4 h5 h6 h7 h8 hs : Int) : SV := .agg [I h0, I h1, I h2, I h3, I h4, I h5, I h6, I h7, I h8, I hs]
abbrev bkt2 (rm hs : Int) : SV := .agg [I rm, I hs]
abbrev cmp21 (nm : ByteArray) (ro mo wd sl : Int) (cl : List (List SV)) (h0 h1 h2 h3 h4 h5 h6 h7 h8 hs rm ha c0 c1 c2 : Int) : SV := .agg [S nm, I ro, I mo, I wd, I sl, SL 2 cl, I h0, I h1, I h2, I h3, I h4, I h5, I h6, I h7, I h8, I hs, I rm, I ha, I c0, I c1, I c2]

theorem hold_nf (n : Int) (Q : List SV → Prop) (h : Q [I (imax 0 (imin n 1099511627776))]) : Ct Tryz.prog 108 {} [I n] Q :=
 fn_of (f := 108) SgT SvT (fun _ => none) Tryz.f108 Tryz.func108 (by kernel_rfl) (by kernel_rfl) h

theorem bright_nf (rm ha : Int) (Q : List SV → Prop) (h : Q [B (bpick (bpick (bpick (ige rm 0) (ile rm 2147483647) false) (ige ha 0) false) (ile ha rm) false)]) : Ct Tryz.prog 112 {} [bkt2 rm ha] Q :=
 fn_of (f := 112) SgT SvT (fun _ => none) Tryz.f112 Tryz.func112 (by kernel_rfl) (by kernel_rfl) h

theorem bnew_nf (rm ha : Int) (Q : List SV → Prop) (h : Cl Tryz.prog 112 sP ([SV.agg [I rm, I ha]]) (fun rs => ∃ b, (rs = [B b]) ∧ ifB (bnot b) (Q ([SV.agg [I 0, I 0], I 1])) (Q ([SV.agg [I rm, I ha], I 0])))) : Ct Tryz.prog 133 {} [I rm, I ha] Q :=
 fn_of (f := 133) SgT SvT (fun _ => none) Tryz.f133 Tryz.func133 (by kernel_rfl) (by kernel_rfl) h

theorem hright_nf (h0 h1 h2 h3 h4 h5 h6 h7 h8 hs : Int) (Q : List SV → Prop) (h : ∃ Inv : Bool → Int → Prop, ∃ m : Bool → Int → Nat, (Inv false 0) ∧ ∀ b x, (Inv b x) → ifB (ilt x 9) ((((0 : Int) ≤ x) ∧ x < 9) ∧ ((x = (0 : Int)) → Cl Tryz.prog 108 sP [I h0] (fun rs => ∃ x1, (rs = [I x1]) ∧ ifB (ine h0 x1) (Q [B false]) ((Sm (some ([[I h0, I h1, I h2, I h3, I h4, I h5, I h6, I h7, I h8, I hs]]))) ∧ (Inv b (wadd .i64 x 1)) ∧ Nat.le (Nat.succ (m b (wadd .i64 x 1))) (m b x)))) ∧ ((x = (1 : Int)) → Cl Tryz.prog 108 sP [I h1] (fun rs => ∃ x1, (rs = [I x1]) ∧ ifB (ine h1 x1) (Q [B false]) ((Sm (some ([[I h0, I h1, I h2, I h3, I h4, I h5, I h6, I h7, I h8, I hs]]))) ∧ (Inv b (wadd .i64 x 1)) ∧ Nat.le (Nat.succ (m b (wadd .i64 x 1))) (m b x)))) ∧ ((x = (2 : Int)) → Cl Tryz.prog 108 sP [I h2] (fun rs => ∃ x1, (rs = [I x1]) ∧ ifB (ine h2 x1) (Q [B false]) ((Sm (some ([[I h0, I h1, I h2, I h3, I h4, I h5, I h6, I h7, I h8, I hs]]))) ∧ (Inv b (wadd .i64 x 1)) ∧ Nat.le (Nat.succ (m b (wadd .i64 x 1))) (m b x)))) ∧ ((x = (3 : Int)) → Cl Tryz.prog 108 sP [I h3] (fun rs => ∃ x1, (rs = [I x1]) ∧ ifB (ine h3 x1) (Q [B false]) ((Sm (some ([[I h0, I h1, I h2, I h3, I h4, I h5, I h6, I h7, I h8, I hs]]))) ∧ (Inv b (wadd .i64 x 1)) ∧ Nat.le (Nat.succ (m b (wadd .i64 x 1))) (m b x)))) ∧ ((x = (4 : Int)) → Cl Tryz.prog 108 sP [I h4] (fun rs => ∃ x1, (rs = [I x1]) ∧ ifB (ine h4 x1) (Q [B false]) ((Sm (some ([[I h0, I h1, I h2, I h3, I h4, I h5, I h6, I h7, I h8, I hs]]))) ∧ (Inv b (wadd .i64 x 1)) ∧ Nat.le (Nat.succ (m b (wadd .i64 x 1))) (m b x)))) ∧ ((x = (5 : Int)) → Cl Tryz.prog 108 sP [I h5] (fun rs => ∃ x1, (rs = [I x1]) ∧ ifB (ine h5 x1) (Q [B false]) ((Sm (some ([[I h0, I h1, I h2, I h3, I h4, I h5, I h6, I h7, I h8, I hs]]))) ∧ (Inv b (wadd .i64 x 1)) ∧ Nat.le (Nat.succ (m b (wadd .i64 x 1))) (m b x)))) ∧ ((x = (6 : Int)) → Cl Tryz.prog 108 sP [I h6] (fun rs => ∃ x1, (rs = [I x1]) ∧ ifB (ine h6 x1) (Q [B false]) ((Sm (some ([[I h0, I h1, I h2, I h3, I h4, I h5, I h6, I h7, I h8, I hs]]))) ∧ (Inv b (wadd .i64 x 1)) ∧ Nat.le (Nat.succ (m b (wadd .i64 x 1))) (m b x)))) ∧ ((x = (7 : Int)) → Cl Tryz.prog 108 sP [I h7] (fun rs => ∃ x1, (rs = [I x1]) ∧ ifB (ine h7 x1) (Q [B false]) ((Sm (some ([[I h0, I h1, I h2, I h3, I h4, I h5, I h6, I h7, I h8, I hs]]))) ∧ (Inv b (wadd .i64 x 1)) ∧ Nat.le (Nat.succ (m b (wadd .i64 x 1))) (m b x)))) ∧ ((x = (8 : Int)) → Cl Tryz.prog 108 sP [I h8] (fun rs => ∃ x1, (rs = [I x1]) ∧ ifB (ine h8 x1) (Q [B false]) ((Sm (some ([[I h0, I h1, I h2, I h3, I h4, I h5, I h6, I h7, I h8, I hs]]))) ∧ (Inv b (wadd .i64 x 1)) ∧ Nat.le (Nat.succ (m b (wadd .i64 x 1))) (m b x)))) ∧ True) (Cl Tryz.prog 108 sP [I hs] (fun rs => ∃ x1, (rs = [I x1]) ∧ Q [B (ieq hs x1)]))) : Ct Tryz.prog 110 {} [his10 h0 h1 h2 h3 h4 h5 h6 h7 h8 hs] Q :=
 fn_of (f := 110) SgT SvT (fun _ => none) Tryz.f110 Tryz.func110 (by kernel_rfl) (by kernel_rfl) h

theorem timely_nf (n : Int) (Q : List SV → Prop) (h : Q [B (bpick (ige n 0) (ile n 1099511627776) false)]) : Ct Tryz.prog 153 {} [I n] Q :=
 fn_of (f := 153) SgT SvT (fun _ => none) Tryz.f153 Tryz.func153 (by kernel_rfl) (by kernel_rfl) h

theorem wheld_nf (n : Int) (Q : List SV → Prop) (h : Cl Tryz.prog 108 sP [I n] (fun rs => ∃ x, (rs = [I x]) ∧ Q [B (ieq n x)])) : Ct Tryz.prog 154 {} [I n] Q :=
 fn_of (f := 154) SgT SvT (fun _ => none) Tryz.f154 Tryz.func154 (by kernel_rfl) (by kernel_rfl) h

theorem wwrong_nf (n m : Int) (f : FuncId) (cs : List SV) (Q : List SV → Prop) (h : Cl Tryz.prog f sP ((I n) :: cs) (fun rs => ∃ b, (rs = [B b]) ∧ ifB (bnot b) (Q [B true]) (Cl Tryz.prog f sP ((I m) :: cs) (fun rs1 => ∃ b1, (rs1 = [B b1]) ∧ Q [B (bpick false true (bnot b1))])))) : Ct Tryz.prog 155 {} [.agg [I n, I m], .ref 0 [.clo f cs]] Q :=
 fn_of (f := 155) SgT SvT (fun _ => none) Tryz.f155 Tryz.func155 (by kernel_rfl) (by kernel_rfl) h

theorem cindex_nf (rows : LL) (f : FuncId) (cs : List SV) (Q : List SV → Prop) (h : ∃ Inv : Int → Int → Prop, ∃ m : Int → Int → Nat, (Inv 0 0) ∧ ∀ x x1, (Inv x x1) → ifB (ilt x1 (rlen rows)) ((((0 : Int) ≤ x1) ∧ x1 < (rlen rows)) ∧ ∃ x2 x3, (rget rows x1 = [I x2, I x3]) ∧ Cl Tryz.prog f sP ((SV.agg [I x2, I x3]) :: cs) (fun rs => ∃ b, (rs = [B b]) ∧ ifB b (Q [I x1]) (((Option.some [] : Option (LL)) = Option.some []) ∧ (Inv x (wadd .i64 x1 1)) ∧ Nat.le (Nat.succ (m x (wadd .i64 x1 1))) (m x x1)))) (Q [I ((-1 : Int))])) : Ct Tryz.prog 187 {} [SL 2 rows, .clo f cs] Q :=
 fn_of (f := 187) SgT SvT (fun _ => none) Tryz.f187 Tryz.func187 (by kernel_rfl) (by kernel_rfl) h

theorem ccont_nf (rows : LL) (f : FuncId) (cs : List SV) (Q : List SV → Prop) (h : Cl Tryz.prog 187 sP [SL 2 rows, SV.clo f cs] (fun rs => ∃ x, (rs = [I x]) ∧ Q [B (ige x 0)])) : Ct Tryz.prog 156 {} [SL 2 rows, .clo f cs] Q :=
 fn_of (f := 156) SgT SvT (fun _ => none) Tryz.f156 Tryz.func156 (by kernel_rfl) (by kernel_rfl) h

theorem wright_nf (wd sl : Int) (cl : LL) (Q : List SV → Prop) (h : ifB (bpick (ilt wd 1) true (igt wd 2147483647)) (Q [B false]) (Cl Tryz.prog 153 sP [I sl] (fun rs => ∃ b, (rs = [B b]) ∧ ifB (bpick false true (bnot b)) (Q [B false]) (ifB (bpick (ilt (rlen cl) 1) true (igt (rlen cl) 16)) (Q [B false]) (Cl Tryz.prog 156 sP ([SL 2 cl, SV.clo 155 ([SV.ref 0 ([SV.clo 154 []])])]) (fun rs1 => ∃ b1, (rs1 = [B b1]) ∧ Q [B (bnot b1)])))))) : Ct Tryz.prog 109 {} [win3 wd sl cl] Q :=
 fn_of (f := 109) SgT SvT (fun _ => none) Tryz.f109 Tryz.func109 (by kernel_rfl) (by kernel_rfl) h

theorem wnew_nf (wd n at_ : Int) (Q : List SV → Prop) (h : ifB (bpick (bpick (bpick (ilt wd 1) true (igt wd 2147483647)) true (ilt n 1)) true (igt n 16)) (Q ([SV.agg ([I 0, I 0, SL 2 []]), I 1])) (Cl Tryz.prog 153 sP [I at_] (fun rs => ∃ b, (rs = [B b]) ∧ ifB (bpick false true (bnot b)) (Q ([SV.agg ([I 0, I 0, SL 2 []]), I 1])) (((wd = 0) → False) ∧ (((0 : Int) ≤ n) ∧ (n ≤ n) ∧ n ≤ 2147483648) ∧ Q ([SV.agg ([I wd, I (wquo .i64 at_ wd), SL 2 (rrep n [I 0, I 0])]), I 0]))))) : Ct Tryz.prog 132 {} [I wd, I n, I at_] Q :=
 fn_of (f := 132) SgT SvT (fun _ => none) Tryz.f132 Tryz.func132 (by kernel_rfl) (by kernel_rfl) h

theorem cequal_nf (rows rows2 : LL) (Q : List SV → Prop) (h : ifB (ine (rlen rows) (rlen rows2)) (Q [B false]) (∃ Inv : Bool → Int → Prop, ∃ m : Bool → Int → Nat, (Inv false 0) ∧ ∀ b x, (Inv b x) → ifB (ilt x (rlen rows)) ((((0 : Int) ≤ x) ∧ x < (rlen rows)) ∧ ∃ x1 x2, (rget rows x = [I x1, I x2]) ∧ (((0 : Int) ≤ x) ∧ x < (rlen rows2)) ∧ ∃ x3 x4, (rget rows2 x = [I x3, I x4]) ∧ ifB (bnot (band (ieq x1 x3) (band (ieq x2 x4) true))) (Q [B false]) (((Option.some [] : Option (LL)) = Option.some []) ∧ (Inv b (wadd .i64 x 1)) ∧ Nat.le (Nat.succ (m b (wadd .i64 x 1))) (m b x))) (Q [B true]))) : Ct Tryz.prog 113 {} [SL 2 rows, SL 2 rows2] Q :=
 fn_of (f := 113) SgT SvT (fun _ => none) Tryz.f113 Tryz.func113 (by kernel_rfl) (by kernel_rfl) h

theorem bare_nf (wd sl : Int) (cl : LL) (Q : List SV → Prop) (h : Q [B (bpick (bpick (ieq wd 0) (ieq sl 0) false) (ieq (rlen cl) 0) false)]) : Ct Tryz.prog 111 {} [win3 wd sl cl] Q :=
 fn_of (f := 111) SgT SvT (fun _ => none) Tryz.f111 Tryz.func111 (by kernel_rfl) (by kernel_rfl) h


theorem pright_nf (nm : ByteArray) (ro mo wd sl : Int) (cl : LL) (h0 h1 h2 h3 h4 h5 h6 h7 h8 hs rm ha c0 c1 c2 : Int) (Q : List SV → Prop) (h : Cl Tryz.prog 107 sP [S nm] (fun rs => ∃ b, (rs = [B b]) ∧ ifB (bnot b) (Q [B false]) (∃ Inv : Int → Prop, ∃ m : Int → Nat, (Inv 0) ∧ ∀ x, (Inv x) → ifB (ilt x 3) ((((0 : Int) ≤ x) ∧ x < 3) ∧ ((x = (0 : Int)) → Cl Tryz.prog 108 sP [I c0] (fun rs1 => ∃ x1, (rs1 = [I x1]) ∧ ifB (ine c0 x1) (Q [B false]) ((Sm (some ([[S nm, I ro, I mo, I wd, I sl, SL 2 cl, I h0, I h1, I h2, I h3, I h4, I h5, I h6, I h7, I h8, I hs, I rm, I ha, I c0, I c1, I c2]]))) ∧ (Inv (wadd .i64 x 1)) ∧ Nat.le (Nat.succ (m (wadd .i64 x 1))) (m x)))) ∧ ((x = (1 : Int)) → Cl Tryz.prog 108 sP [I c1] (fun rs1 => ∃ x1, (rs1 = [I x1]) ∧ ifB (ine c1 x1) (Q [B false]) ((Sm (some ([[S nm, I ro, I mo, I wd, I sl, SL 2 cl, I h0, I h1, I h2, I h3, I h4, I h5, I h6, I h7, I h8, I hs, I rm, I ha, I c0, I c1, I c2]]))) ∧ (Inv (wadd .i64 x 1)) ∧ Nat.le (Nat.succ (m (wadd .i64 x 1))) (m x)))) ∧ ((x = (2 : Int)) → Cl Tryz.prog 108 sP [I c2] (fun rs1 => ∃ x1, (rs1 = [I x1]) ∧ ifB (ine c2 x1) (Q [B false]) ((Sm (some ([[S nm, I ro, I mo, I wd, I sl, SL 2 cl, I h0, I h1, I h2, I h3, I h4, I h5, I h6, I h7, I h8, I hs, I rm, I ha, I c0, I c1, I c2]]))) ∧ (Inv (wadd .i64 x 1)) ∧ Nat.le (Nat.succ (m (wadd .i64 x 1))) (m x)))) ∧ True) (ifB (ieq ro 1) (ifB (bpick (ige mo 0) (ile mo 2) false) (Cl Tryz.prog 109 sP ([SV.agg [I wd, I sl, SL 2 cl]]) (fun rs1 => ∃ b1, (rs1 = [B b1]) ∧ ifB (bpick true b1 false) (Cl Tryz.prog 110 sP ([SV.agg [I h0, I h1, I h2, I h3, I h4, I h5, I h6, I h7, I h8, I hs]]) (fun rs2 => ∃ b2, (rs2 = [B b2]) ∧ Q [B (bpick (bpick true b2 false) (band (ieq rm 0) (band (ieq ha 0) true)) false)])) (Q [B (bpick false (band (ieq rm 0) (band (ieq ha 0) true)) false)]))) (Q [B (bpick false (band (ieq rm 0) (band (ieq ha 0) true)) false)])) (ifB (ieq ro 2) (ifB (ieq mo 0) (Cl Tryz.prog 111 sP ([SV.agg [I wd, I sl, SL 2 cl]]) (fun rs1 => ∃ b1, (rs1 = [B b1]) ∧ ifB (bpick (bpick true b1 false) (band (band (ieq h0 0) (band (ieq h1 0) (band (ieq h2 0) (band (ieq h3 0) (band (ieq h4 0) (band (ieq h5 0) (band (ieq h6 0) (band (ieq h7 0) (band (ieq h8 0) true))))))))) (band (ieq hs 0) true)) false) (Cl Tryz.prog 112 sP ([SV.agg [I rm, I ha]]) (fun rs2 => ∃ b2, (rs2 = [B b2]) ∧ Q [B (bpick true b2 false)])) (Q [B false]))) (ifB (bpick false (band (band (ieq h0 0) (band (ieq h1 0) (band (ieq h2 0) (band (ieq h3 0) (band (ieq h4 0) (band (ieq h5 0) (band (ieq h6 0) (band (ieq h7 0) (band (ieq h8 0) true))))))))) (band (ieq hs 0) true)) false) (Cl Tryz.prog 112 sP ([SV.agg [I rm, I ha]]) (fun rs1 => ∃ b1, (rs1 = [B b1]) ∧ Q [B (bpick true b1 false)])) (Q [B false]))) (ifB (ieq ro 3) (ifB (bpick (ige mo 0) (ile mo 2147483647) false) (Cl Tryz.prog 111 sP ([SV.agg [I wd, I sl, SL 2 cl]]) (fun rs1 => ∃ b1, (rs1 = [B b1]) ∧ ifB (bpick true b1 false) (Cl Tryz.prog 110 sP ([SV.agg [I h0, I h1, I h2, I h3, I h4, I h5, I h6, I h7, I h8, I hs]]) (fun rs2 => ∃ b2, (rs2 = [B b2]) ∧ ifB (bpick true b2 false) (Cl Tryz.prog 112 sP ([SV.agg [I rm, I ha]]) (fun rs3 => ∃ b3, (rs3 = [B b3]) ∧ Q [B (bpick true b3 false)])) (Q [B false]))) (Q [B false]))) (Q [B false])) (Q [B false]))))))) : Ct Tryz.prog 70 {} [cmp21 nm ro mo wd sl cl h0 h1 h2 h3 h4 h5 h6 h7 h8 hs rm ha c0 c1 c2] Q :=
 fn_of (f := 70) SgT SvT (fun k => bif Nat.beq k 12 then some { slots := [(11,false,[.int .i64])], fixed := [128] } else none) Tryz.f70 Tryz.func70 (by kernel_rfl) (by kernel_rfl) h

theorem pnew_nf (nm : ByteArray) (ro at_ : Int) (Q : List SV → Prop) (h : Cl Tryz.prog 107 sP [S nm] (fun rs => ∃ b, (rs = [B b]) ∧ ifB (bnot b) (Q ([SV.agg ([S (bA []), I 0, I 0, I 0, I 0, SL 2 [], I 0, I 0, I 0, I 0, I 0, I 0, I 0, I 0, I 0, I 0, I 0, I 0, I 0, I 0, I 0]), I 3])) (ifB (bpick (ilt ro 1) true (igt ro 3)) (Q ([SV.agg ([S (bA []), I 0, I 0, I 0, I 0, SL 2 [], I 0, I 0, I 0, I 0, I 0, I 0, I 0, I 0, I 0, I 0, I 0, I 0, I 0, I 0, I 0]), I 4])) (ifB (bpick (ilt at_ 0) true (igt at_ 1099511627776)) (Q ([SV.agg ([S (bA []), I 0, I 0, I 0, I 0, SL 2 [], I 0, I 0, I 0, I 0, I 0, I 0, I 0, I 0, I 0, I 0, I 0, I 0, I 0, I 0, I 0]), I 5])) (ifB (ieq ro 1) (Cl Tryz.prog 132 sP [I 10, I 4, I at_] (fun rs1 => ∃ x x1, ∃ l x2, (rs1 = [SV.agg [I x, I x1, SL 2 l], I x2]) ∧ Q ([SV.agg [S nm, I ro, I 0, I x, I x1, SL 2 l, I 0, I 0, I 0, I 0, I 0, I 0, I 0, I 0, I 0, I 0, I 0, I 0, I 0, I 0, I 0], I 0]))) (Cl Tryz.prog 133 sP [I 10, I 10] (fun rs1 => ∃ x x1 x2, (rs1 = [SV.agg [I x, I x1], I x2]) ∧ Q ([SV.agg ([S nm, I ro, I 0, I 0, I 0, SL 2 [], I 0, I 0, I 0, I 0, I 0, I 0, I 0, I 0, I 0, I 0, I x, I x1, I 0, I 0, I 0]), I 0])))))))) : Ct Tryz.prog 85 {} [S nm, I ro, I at_] Q :=
 fn_of (f := 85) SgT SvT (fun _ => none) Tryz.f85 Tryz.func85 (by kernel_rfl) (by kernel_rfl) h

theorem qshort_nf (nm : ByteArray) (ro mo wd sl : Int) (cl : LL) (h0 h1 h2 h3 h4 h5 h6 h7 h8 hs rm ha c0 c1 c2 : Int) (Q : List SV → Prop) (h : Q [B (bpick (ile (slen nm) 100) (ile (rlen cl) 40) false)]) : Ct Tryz.prog 51 {} [cmp21 nm ro mo wd sl cl h0 h1 h2 h3 h4 h5 h6 h7 h8 hs rm ha c0 c1 c2] Q :=
 fn_of (f := 51) SgT SvT (fun _ => none) Tryz.f51 Tryz.func51 (by kernel_rfl) (by kernel_rfl) h


theorem psame_nf (nm : ByteArray) (ro mo wd sl : Int) (cl : LL) (h0 h1 h2 h3 h4 h5 h6 h7 h8 hs rm ha c0 c1 c2 : Int) (nm2 : ByteArray) (ro2 mo2 wd2 sl2 : Int) (cl2 : LL) (g0 g1 g2 g3 g4 g5 g6 g7 g8 gs rm2 ha2 e0 e1 e2 : Int) (Q : List SV → Prop) (h : ifB (bpick (bpick (bpick (bpick (seq nm nm2) (ieq ro ro2) false) (ieq mo mo2) false) (ieq wd wd2) false) (ieq sl sl2) false) (Cl Tryz.prog 113 sP [SL 2 cl, SL 2 cl2] (fun rs => ∃ b, (rs = [B b]) ∧ Q [B (bpick (bpick (bpick (bpick true b false) (band (band (ieq h0 g0) (band (ieq h1 g1) (band (ieq h2 g2) (band (ieq h3 g3) (band (ieq h4 g4) (band (ieq h5 g5) (band (ieq h6 g6) (band (ieq h7 g7) (band (ieq h8 g8) true))))))))) (band (ieq hs gs) true)) false) (band (ieq rm rm2) (band (ieq ha ha2) true)) false) (band (ieq c0 e0) (band (ieq c1 e1) (band (ieq c2 e2) true))) false)])) (Q [B (bpick (bpick (bpick false (band (band (ieq h0 g0) (band (ieq h1 g1) (band (ieq h2 g2) (band (ieq h3 g3) (band (ieq h4 g4) (band (ieq h5 g5) (band (ieq h6 g6) (band (ieq h7 g7) (band (ieq h8 g8) true))))))))) (band (ieq hs gs) true)) false) (band (ieq rm rm2) (band (ieq ha ha2) true)) false) (band (ieq c0 e0) (band (ieq c1 e1) (band (ieq c2 e2) true))) false)])) : Ct Tryz.prog 72 {} [cmp21 nm ro mo wd sl cl h0 h1 h2 h3 h4 h5 h6 h7 h8 hs rm ha c0 c1 c2, cmp21 nm2 ro2 mo2 wd2 sl2 cl2 g0 g1 g2 g3 g4 g5 g6 g7 g8 gs rm2 ha2 e0 e1 e2] Q :=
 fn_of (f := 72) SgT SvT (fun _ => none) Tryz.f72 Tryz.func72 (by kernel_rfl) (by kernel_rfl) h


def holdI (n : Int) : Int := max 0 (min n 1099511627776)
def upI (a b : Int) : Int := holdI (holdI a + holdI b)
def heldP (n : Int) : Prop := 0 ≤ n ∧ n ≤ 1099511627776
instance (n : Int) : Decidable (heldP n) := inferInstanceAs (Decidable (0 ≤ n ∧ n ≤ 1099511627776))
theorem hold_range (n : Int) : 0 ≤ holdI n ∧ holdI n ≤ 1099511627776 := by unfold holdI; omega
theorem hold_held {n : Int} : holdI n = n ↔ heldP n := by unfold holdI heldP; omega
theorem hold_id {n : Int} (h : heldP n) : holdI n = n := hold_held.2 h
theorem up_held (a b : Int) : heldP (upI a b) := hold_range _

theorem hold_fn (n : Int) : Ct Tryz.prog 108 {} [I n] (fun r => r = [I (holdI n)]) := by
 refine hold_nf _ _ ?_
 simp [holdI]
def bktP (rm ha : Int) : Prop := 0 ≤ rm ∧ rm ≤ 2147483647 ∧ 0 ≤ ha ∧ ha ≤ rm
instance (rm ha : Int) : Decidable (bktP rm ha) := inferInstanceAs (Decidable (_ ∧ _))
theorem bright_fn (rm ha : Int) : Ct Tryz.prog 112 {} [bkt2 rm ha] (fun r => r = [B (decide (bktP rm ha))]) := by
 refine bright_nf _ _ _ ?_
 have : bpick (bpick (bpick (ige rm 0) (ile rm 2147483647) false) (ige ha 0) false) (ile ha rm) false = decide (bktP rm ha) := by
  rw [Bool.eq_iff_iff, decide_eq_true_eq]; unfold bktP; simp; omega
 rw [this]
def bnewR (rm ha : Int) : List SV := if bktP rm ha then [bkt2 rm ha, I 0] else [bkt2 0 0, I 1]
theorem bnew_fn (rm ha : Int) : Ct Tryz.prog 133 {} [I rm, I ha] (fun r => r = bnewR rm ha) := by
 refine bnew_nf _ _ _ (Cl.of (bright_fn rm ha) ⟨_, rfl, ifB_intro (fun h => ?_) (fun h => ?_)⟩)
 ·simp at h; simp [bnewR, h]
 ·simp at h; simp [bnewR, h]
def takeH (rm ha n : Int) : Int := if bktP rm ha ∧ 0 ≤ n then ha - min n ha else ha
def takeB (rm ha n : Int) : Bool := decide ((bktP rm ha ∧ 0 ≤ n) ∧ n ≤ ha)
def putH (rm ha n : Int) : Int := if bktP rm ha ∧ 0 ≤ n then ha + min n (rm - ha) else ha
def bndI (p : Int) : Int := if p = 0 then 1 else if p = 1 then 2 else if p = 2 then 4 else if p = 3 then 8 else if p = 4 then 16 else if p = 5 then 32 else if p = 6 then 64 else if p = 7 then 128 else 0
def hplI (n : Int) : Int := if n ≤ 1 then 0 else if n ≤ 2 then 1 else if n ≤ 4 then 2 else if n ≤ 8 then 3 else if n ≤ 16 then 4 else if n ≤ 32 then 5 else if n ≤ 64 then 6 else if n ≤ 128 then 7 else 8
theorem c8 {p : Int} (h0 : 0 ≤ p) (h1 : p < 8) : p = 0 ∨ p = 1 ∨ p = 2 ∨ p = 3 ∨ p = 4 ∨ p = 5 ∨ p = 6 ∨ p = 7 := by omega
def hisP (h0 h1 h2 h3 h4 h5 h6 h7 h8 hs : Int) : Prop := heldP h0 ∧ heldP h1 ∧ heldP h2 ∧ heldP h3 ∧ heldP h4 ∧ heldP h5 ∧ heldP h6 ∧ heldP h7 ∧ heldP h8 ∧ heldP hs
instance (h0 h1 h2 h3 h4 h5 h6 h7 h8 hs : Int) : Decidable (hisP h0 h1 h2 h3 h4 h5 h6 h7 h8 hs) := inferInstanceAs (Decidable (_ ∧ _))


def hAt (h0 h1 h2 h3 h4 h5 h6 h7 h8 x : Int) : Int := if x = 0 then h0 else if x = 1 then h1 else if x = 2 then h2 else if x = 3 then h3 else if x = 4 then h4 else if x = 5 then h5 else if x = 6 then h6 else if x = 7 then h7 else h8
theorem his_iff {h0 h1 h2 h3 h4 h5 h6 h7 h8 hs : Int} : hisP h0 h1 h2 h3 h4 h5 h6 h7 h8 hs ↔ (∀ i, 0 ≤ i → i < 9 → heldP (hAt h0 h1 h2 h3 h4 h5 h6 h7 h8 i)) ∧ heldP hs := by
 unfold hisP
 constructor
 ·rintro ⟨e0, e1, e2, e3, e4, e5, e6, e7, e8, e⟩
  refine ⟨fun i h1 h2 => ?_, e⟩
  have : i = 0 ∨ i = 1 ∨ i = 2 ∨ i = 3 ∨ i = 4 ∨ i = 5 ∨ i = 6 ∨ i = 7 ∨ i = 8 := by omega
  rcases this with rfl | rfl | rfl | rfl | rfl | rfl | rfl | rfl | rfl <;> assumption
 ·rintro ⟨h, e⟩
  exact ⟨h 0 (by omega) (by omega), h 1 (by omega) (by omega), h 2 (by omega) (by omega), h 3 (by omega) (by omega), h 4 (by omega) (by omega), h 5 (by omega) (by omega), h 6 (by omega) (by omega), h 7 (by omega) (by omega), h 8 (by omega) (by omega), e⟩
theorem held_step {h0 h1 h2 h3 h4 h5 h6 h7 h8 x : Int} (h : ∀ i, 0 ≤ i → i < x → heldP (hAt h0 h1 h2 h3 h4 h5 h6 h7 h8 i)) (hx : heldP (hAt h0 h1 h2 h3 h4 h5 h6 h7 h8 x)) : ∀ i, 0 ≤ i → i < x + 1 → heldP (hAt h0 h1 h2 h3 h4 h5 h6 h7 h8 i) := by
 intro i h1 h2
 by_cases e : i = x
 ·rw [e]; exact hx
 ·exact h i h1 (by omega)

theorem hright_fn (h0 h1 h2 h3 h4 h5 h6 h7 h8 hs : Int) : Ct Tryz.prog 110 {} [his10 h0 h1 h2 h3 h4 h5 h6 h7 h8 hs] (fun r => r = [B (decide (hisP h0 h1 h2 h3 h4 h5 h6 h7 h8 hs))]) := by
 have no : ¬ hisP h0 h1 h2 h3 h4 h5 h6 h7 h8 hs → [B false] = [B (decide (hisP h0 h1 h2 h3 h4 h5 h6 h7 h8 hs))] := fun h => by simp [h]
 refine hright_nf _ _ _ _ _ _ _ _ _ _ _ ⟨fun _ x => 0 ≤ x ∧ x ≤ 9 ∧ ∀ i, 0 ≤ i → i < x → heldP (hAt h0 h1 h2 h3 h4 h5 h6 h7 h8 i), fun _ x => (9 - x).toNat, ⟨by omega, by omega, fun i h1 h2 => by omega⟩, ?_⟩
 rintro b x ⟨x0, x9, hi⟩
 refine ifB_intro (fun h => ?_) (fun h => ?_)
 ·simp at h
  rw [wadd_i64 (by omega) (by omega)]
  have step : ∀ (v : Int) {FX : Prop}, FX → hAt h0 h1 h2 h3 h4 h5 h6 h7 h8 x = v → Cl Tryz.prog 108 sP [I v] (fun (rs : List SV) => ∃ x1 : Int, (rs = [I x1]) ∧ (ifB (ine v x1) ([B false] = [B (decide (hisP h0 h1 h2 h3 h4 h5 h6 h7 h8 hs))]) (FX ∧ ((0 ≤ x + 1 ∧ x + 1 ≤ 9 ∧ ∀ i, 0 ≤ i → i < x + 1 → heldP (hAt h0 h1 h2 h3 h4 h5 h6 h7 h8 i)) ∧ (Nat.le (Nat.succ (9 - (x + 1)).toNat) (9 - x).toNat))))) := by
   intro v FX hFX hv
   refine Cl.of (hold_fn v) ⟨_, rfl, ifB_intro (fun hb => no (fun hh => ?_)) (fun hb => ⟨hFX, ⟨by omega, by omega, held_step hi ?_⟩, mlt (by omega)⟩)⟩
   ·simp at hb
    have := (his_iff.1 hh).1 x x0 h
    rw [hv] at this
    exact hb (hold_id this).symm
   ·simp at hb
    rw [hv]
    exact hold_held.1 hb.symm
  exact ⟨⟨x0, h⟩, fun e => step h0 rfl (by subst e; rfl), fun e => step h1 rfl (by subst e; rfl), fun e => step h2 rfl (by subst e; rfl), fun e => step h3 rfl (by subst e; rfl), fun e => step h4 rfl (by subst e; rfl), fun e => step h5 rfl (by subst e; rfl), fun e => step h6 rfl (by subst e; rfl), fun e => step h7 rfl (by subst e; rfl), fun e => step h8 rfl (by subst e; rfl), trivial⟩
 ·simp at h
  obtain rfl : x = 9 := by omega
  refine Cl.of (hold_fn hs) ⟨_, rfl, ?_⟩
  have e : ieq hs (holdI hs) = decide (hisP h0 h1 h2 h3 h4 h5 h6 h7 h8 hs) := by
   rw [Bool.eq_iff_iff, decide_eq_true_eq, his_iff]
   simp only [ieq_eq, decide_eq_true_eq]
   exact ⟨fun e => ⟨hi, hold_held.1 e.symm⟩, fun e => (hold_id e.2).symm⟩
  rw [e]

def hcI (n k v : Int) : Int := if hplI n = k then upI v 1 else v
def haddS (h0 h1 h2 h3 h4 h5 h6 h7 h8 hs n : Int) : SV := if hisP h0 h1 h2 h3 h4 h5 h6 h7 h8 hs ∧ 0 ≤ n then his10 (hcI n 0 h0) (hcI n 1 h1) (hcI n 2 h2) (hcI n 3 h3) (hcI n 4 h4) (hcI n 5 h5) (hcI n 6 h6) (hcI n 7 h7) (hcI n 8 h8) (upI hs n) else his10 h0 h1 h2 h3 h4 h5 h6 h7 h8 hs


abbrev cR (l : List (Int × Int)) : List (List SV) := l.map fun c => [I c.1, I c.2]
def ceAt (l : List (Int × Int)) (i : Int) : Int × Int := l.getD i.toNat (0, 0)
theorem rget_cR {l : List (Int × Int)} {i : Int} (h0 : 0 ≤ i) (h1 : i < l.length) : rget (cR l) i = [I (ceAt l i).1, I (ceAt l i).2] := by
 have : i.toNat < l.length := by omega
 simp [rget, ceAt, this]
theorem ceAt_mem {l : List (Int × Int)} {i : Int} (h0 : 0 ≤ i) (h1 : i < l.length) : ceAt l i ∈ l := by
 have : i.toNat < l.length := by omega
 simp [ceAt, this]
theorem rlen_cR (l : List (Int × Int)) : rlen (cR l) = (l.length : Int) := by simp
def timP (n : Int) : Prop := 0 ≤ n ∧ n ≤ 1099511627776
instance (n : Int) : Decidable (timP n) := inferInstanceAs (Decidable (_ ∧ _))
def cellsP (l : List (Int × Int)) : Prop := ∀ c ∈ l, heldP c.1 ∧ heldP c.2
instance (l : List (Int × Int)) : Decidable (cellsP l) := inferInstanceAs (Decidable (∀ c ∈ l, heldP c.1 ∧ heldP c.2))
def winP (wd sl : Int) (cl : List (Int × Int)) : Prop := (1 ≤ wd ∧ wd ≤ 2147483647) ∧ timP sl ∧ (1 ≤ cl.length ∧ cl.length ≤ 16) ∧ cellsP cl
instance (wd sl : Int) (cl : List (Int × Int)) : Decidable (winP wd sl cl) := inferInstanceAs (Decidable (_ ∧ _))

theorem timely_fn (n : Int) : Ct Tryz.prog 153 {} [I n] (fun r => r = [B (decide (timP n))]) := by
 refine timely_nf _ _ ?_
 have : bpick (ige n 0) (ile n 1099511627776) false = decide (timP n) := by
  rw [Bool.eq_iff_iff, decide_eq_true_eq]; unfold timP; simp
 rw [this]
theorem wheld_fn (n : Int) : Ct Tryz.prog 154 {} [I n] (fun r => r = [B (decide (heldP n))]) := by
 refine wheld_nf _ _ (Cl.of (hold_fn n) ⟨_, rfl, ?_⟩)
 have : ieq n (holdI n) = decide (heldP n) := by
  rw [Bool.eq_iff_iff, decide_eq_true_eq, ← hold_held]; simp [eq_comm]
 rw [this]
theorem wwrong_fn (n m : Int) : Ct Tryz.prog 155 {} [.agg [I n, I m], .ref 0 [.clo 154 []]] (fun r => r = [B (!decide (heldP n ∧ heldP m))]) := by
 refine wwrong_nf _ _ _ _ _ (Cl.of (wheld_fn n) ⟨_, rfl, ifB_intro (fun h => ?_) (fun h => ?_)⟩)
 ·simp at h; simp [h]
 ·simp at h
  refine Cl.of (wheld_fn m) ⟨_, rfl, ?_⟩
  simp [h]

theorem ccont_fn (l : List (Int × Int)) (hl : l.length ≤ 1000000) : Ct Tryz.prog 156 {} [SL 2 (cR l), .clo 155 [.ref 0 [.clo 154 []]]] (fun r => r = [B (!decide (cellsP l))]) := by
 have A : Ct Tryz.prog 187 {} [SL 2 (cR l), .clo 155 [.ref 0 [.clo 154 []]]] (fun r => ∃ x : Int, r = [I x] ∧ (0 ≤ x ↔ ¬ cellsP l)) := by
  refine cindex_nf _ _ _ _ ⟨fun _ x => 0 ≤ x ∧ x ≤ l.length ∧ ∀ i : Nat, i < x.toNat → heldP (l.getD i (0, 0)).1 ∧ heldP (l.getD i (0, 0)).2, fun _ x => (l.length - x).toNat, ⟨by omega, by omega, by simp⟩, ?_⟩
  rintro _ x ⟨h0, h1, hp⟩
  refine ifB_intro (fun h => ?_) (fun h => ?_)
  ·simp at h
   have w : wadd IntKind.i64 x 1 = x + 1 := wadd_i64 (by omega) (by omega)
   refine ⟨⟨h0, by simpa using h⟩, _, _, rget_cR h0 h, Cl.of (wwrong_fn _ _) ⟨_, rfl, ifB_intro (fun hb => ?_) (fun hb => ⟨rfl, ?_, ?_⟩)⟩⟩
   ·simp only [Bool.not_eq_true', decide_eq_false_iff_not] at hb
    exact ⟨x, rfl, fun _ ha => hb (ha _ (ceAt_mem h0 h)), fun _ => h0⟩
   ·simp only [Bool.not_eq_false', decide_eq_true_eq] at hb
    rw [w]
    refine ⟨by omega, by omega, fun i hi => ?_⟩
    by_cases hix : i < x.toNat
    ·exact hp i hix
    ·obtain rfl : i = x.toNat := by omega
     exact hb
   ·rw [w]; exact mlt (by dsimp only; omega)
  ·simp at h
   refine ⟨-1, rfl, fun h => by omega, fun hn => absurd (fun c hc => ?_) hn⟩
   obtain ⟨i, hi, rfl⟩ := List.getElem_of_mem hc
   have := hp i (by omega)
   simpa [hi] using this
 refine ccont_nf _ _ _ _ (Cl.ofQ A ?_)
 rintro r ⟨x, rfl, hx⟩
 refine ⟨_, rfl, ?_⟩
 have : ige x 0 = !decide (cellsP l) := by
  rw [Bool.eq_iff_iff]; simp [hx]
 rw [this]

theorem wright_fn (wd sl : Int) (cl : List (Int × Int)) : Ct Tryz.prog 109 {} [win3 wd sl (cR cl)] (fun r => r = [B (decide (winP wd sl cl))]) := by
 have no : ¬ winP wd sl cl → [B false] = [B (decide (winP wd sl cl))] := fun h => by simp [h]
 refine wright_nf _ _ _ _ (ifB_intro (fun h => ?_) (fun h => ?_))
 ·simp only [bor_t, ilt_eq, igt_eq, decide_eq_true_eq] at h
  exact no (fun hh => by have := hh.1; omega)
 ·simp only [bor_f, ilt_eq, igt_eq, decide_eq_false_iff_not] at h
  refine Cl.of (timely_fn sl) ⟨_, rfl, ifB_intro (fun h1 => ?_) (fun h1 => ifB_intro (fun h2 => ?_) (fun h2 => ?_))⟩
  ·simp at h1
   exact no (fun hh => h1 hh.2.1)
  ·simp only [bor_t, ilt_eq, igt_eq, decide_eq_true_eq, rlen_cR] at h2
   exact no (fun hh => by have := hh.2.2.1; omega)
  ·simp at h1
   simp only [bor_f, ilt_eq, igt_eq, decide_eq_false_iff_not, rlen_cR] at h2
   refine Cl.of (ccont_fn cl (by omega)) ⟨_, rfl, ?_⟩
   have : bnot (!decide (cellsP cl)) = decide (winP wd sl cl) := by
    rw [bnot_eq, Bool.not_not]
    exact decide_eq_decide.2 ⟨fun hh => ⟨by omega, h1, by omega, hh⟩, fun hh => hh.2.2.2⟩
   rw [this]

theorem quo_nn {a b : Int} (h0 : 0 ≤ a) (h1 : a ≤ 9223372036854775807) (hb : 1 ≤ b) : wquo .i64 a b = a / b ∧ 0 ≤ a / b ∧ a / b ≤ a := by
 have e1 : 0 ≤ a / b := Int.ediv_nonneg h0 (by omega)
 have e2 : a / b ≤ a := Int.ediv_le_self b h0
 refine ⟨?_, e1, e2⟩
 unfold wquo
 rw [Int.tdiv_eq_ediv_of_nonneg h0]
 exact wrap_i64 (by omega) (by omega)

def wnewR (wd n a : Int) : List SV := if ((1 ≤ wd ∧ wd ≤ 2147483647) ∧ (1 ≤ n ∧ n ≤ 16)) ∧ timP a then [win3 wd (a / wd) (cR (List.replicate n.toNat (0, 0))), I 0] else [win3 0 0 [], I 1]
theorem rrep_cR (n : Int) : rrep n [I 0, I 0] = cR (List.replicate n.toNat (0, 0)) := by simp [rrep, cR]
theorem wnew_fn (wd n a : Int) : Ct Tryz.prog 132 {} [I wd, I n, I a] (fun r => r = wnewR wd n a) := by
 refine wnew_nf _ _ _ _ (ifB_intro (fun h => ?_) (fun h => ?_))
 ·simp only [bor_t, ilt_eq, igt_eq, decide_eq_true_eq] at h
  have : ¬ (((1 ≤ wd ∧ wd ≤ 2147483647) ∧ (1 ≤ n ∧ n ≤ 16)) ∧ timP a) := fun hh => by omega
  simp [wnewR, this]
 ·simp only [bor_f, ilt_eq, igt_eq, decide_eq_false_iff_not] at h
  refine Cl.of (timely_fn a) ⟨_, rfl, ifB_intro (fun h1 => ?_) (fun h1 => ?_)⟩
  ·simp at h1
   simp [wnewR, h1]
  ·simp at h1
   have h1' := h1
   unfold timP at h1'
   have hh : ((1 ≤ wd ∧ wd ≤ 2147483647) ∧ (1 ≤ n ∧ n ≤ 16)) ∧ timP a := ⟨by omega, h1⟩
   refine ⟨by omega, ⟨by omega, by omega, by omega⟩, ?_⟩
   rw [(quo_nn (by omega) (by omega) (by omega)).1, rrep_cR]
   simp [wnewR, hh]
def kk (slot n p : Int) : Int := slot - (slot - p) % n
def mvL (sl slot : Int) (cl : List (Int × Int)) : List (Int × Int) := (List.range cl.length).map fun p : Nat => if sl < kk slot cl.length p then (0, 0) else cl.getD p (0, 0)
theorem mvL_len (sl slot : Int) (cl : List (Int × Int)) : (mvL sl slot cl).length = cl.length := by simp [mvL]

def wmoveR (wd sl : Int) (cl : List (Int × Int)) (a : Int) : List SV :=
 if winP wd sl cl ∧ timP a then (if a / wd ≤ sl then [win3 wd sl (cR cl), I 0] else [win3 wd (a / wd) (cR (mvL sl (a / wd) cl)), I 0]) else [win3 wd sl (cR cl), I 1]


def getS (sl : Int) (cl : List (Int × Int)) (p : Int) : Int × Int := if (sl < p ∨ p ≤ sl - cl.length) ∨ p < 0 then (0, 0) else ceAt cl (p % cl.length)
def ceU (c : Int × Int) (ok : Bool) : Int × Int := if ok = true then (upI c.1 1, c.2) else (c.1, upI c.2 1)
def addL (cl : List (Int × Int)) (i : Int) (ok : Bool) : List (Int × Int) := cl.set i.toNat (ceU (ceAt cl i) ok)
def wadS (wd sl : Int) (cl : List (Int × Int)) (a : Int) (ok : Bool) : Int × List (Int × Int) :=
 if a / wd ≤ sl then (if a / wd ≤ sl - cl.length then (sl, cl) else (sl, addL cl ((a / wd) % cl.length) ok)) else (a / wd, addL (mvL sl (a / wd) cl) ((a / wd) % cl.length) ok)
def waddR (wd sl : Int) (cl : List (Int × Int)) (a : Int) (ok : Bool) : List SV :=
 if winP wd sl cl ∧ timP a then [win3 wd (wadS wd sl cl a ok).1 (cR (wadS wd sl cl a ok).2), I 0] else [win3 wd sl (cR cl), I 1]

theorem csame_loop (l m : List (Int × Int)) (hlm : l.length = m.length) (hl : l.length ≤ 1000000) {FX : Prop} (hFX : FX) {Qf Qt : Prop} (hf : ¬ l = m → Qf) (ht : l = m → Qt) :
  ∃ Inv : Bool → Int → Prop, ∃ mm : Bool → Int → Nat, (Inv false 0) ∧ (∀ b : Bool, ∀ x : Int, (Inv b x) → ifB (ilt x (rlen (cR l))) ((((0 : Int) ≤ x) ∧ (x < (rlen (cR l)))) ∧ (∃ x1 : Int, ∃ x2 : Int, (rget (cR l) x = [I x1, I x2]) ∧ ((((0 : Int) ≤ x) ∧ (x < (rlen (cR m)))) ∧ (∃ x3 : Int, ∃ x4 : Int, (rget (cR m) x = [I x3, I x4]) ∧ (ifB (bnot (band (ieq x1 x3) (band (ieq x2 x4) true))) Qf (FX ∧ ((Inv b (wadd IntKind.i64 x 1)) ∧ (Nat.le (Nat.succ (mm b (wadd IntKind.i64 x 1))) (mm b x))))))))) Qt) := by
 refine ⟨fun _ x => 0 ≤ x ∧ x ≤ l.length ∧ ∀ i : Nat, i < x.toNat → l[i]? = m[i]?, fun _ x => (l.length - x).toNat, ⟨by omega, by omega, by simp⟩, ?_⟩
 rintro _ x ⟨h0, h1, hp⟩
 refine ifB_intro (fun h => ?_) (fun h => ?_)
 ·simp at h
  rw [wadd_i64 (by omega) (by omega)]
  have k1 : x.toNat < l.length := by omega
  have k2 : x.toNat < m.length := by omega
  refine ⟨⟨h0, by simpa using h⟩, _, _, rget_cR h0 h, ⟨h0, by simp; omega⟩, _, _, rget_cR h0 (by omega), ifB_intro (fun hb => hf (fun e => ?_)) (fun hb => ⟨hFX, ⟨by omega, by omega, fun i hi => ?_⟩, mlt (by dsimp only; omega)⟩)⟩
  ·subst e
   simp at hb
  ·by_cases hix : i < x.toNat
   ·exact hp i hix
   ·obtain rfl : i = x.toNat := by omega
    simp [ceAt, k1, k2] at hb
    rw [List.getElem?_eq_getElem k1, List.getElem?_eq_getElem k2]
    exact congrArg some (Prod.ext hb.1 hb.2)
 ·simp at h
  refine ht (List.ext_getElem? (fun i => ?_))
  by_cases hi : i < l.length
  ·exact hp i (by omega)
  ·rw [List.getElem?_eq_none (by omega), List.getElem?_eq_none (by omega)]

theorem cequal_fn (l m : List (Int × Int)) (hl : l.length ≤ 1000000) : Ct Tryz.prog 113 {} [SL 2 (cR l), SL 2 (cR m)] (fun r => r = [B (decide (l = m))]) := by
 refine cequal_nf _ _ _ (ifB_intro (fun h => ?_) (fun h => ?_))
 ·simp at h
  have : ¬ l = m := fun e => by subst e; omega
  simp [this]
 ·simp at h
  exact csame_loop l m (by omega) hl rfl (fun hn => by simp [hn]) (fun hn => by simp [hn])

theorem bare_fn (wd sl : Int) (cl : List (Int × Int)) : Ct Tryz.prog 111 {} [win3 wd sl (cR cl)] (fun r => r = [B (decide (wd = 0 ∧ sl = 0 ∧ cl = []))]) := by
 refine bare_nf _ _ _ _ ?_
 have : bpick (bpick (ieq wd 0) (ieq sl 0) false) (ieq (rlen (cR cl)) 0) false = decide (wd = 0 ∧ sl = 0 ∧ cl = []) := by
  rw [Bool.eq_iff_iff]; simp [and_assoc]
 rw [this]


structure CoD where
 nm : ByteArray
 ro : Int
 mo : Int
 wd : Int
 sl : Int
 cl : List (Int × Int)
 h0 : Int
 h1 : Int
 h2 : Int
 h3 : Int
 h4 : Int
 h5 : Int
 h6 : Int
 h7 : Int
 h8 : Int
 hs : Int
 rm : Int
 ha : Int
 c0 : Int
 c1 : Int
 c2 : Int

abbrev CoD.sv (c : CoD) : SV := cmp21 c.nm c.ro c.mo c.wd c.sl (cR c.cl) c.h0 c.h1 c.h2 c.h3 c.h4 c.h5 c.h6 c.h7 c.h8 c.hs c.rm c.ha c.c0 c.c1 c.c2
structure EvD where
 s : Int
 a : Int
 k : Int
 c : ByteArray
 x : Int
 y : Int
 z : Int
abbrev EvD.sv (e : EvD) : SV := ev7 e.s e.a e.k e.c e.x e.y e.z

def CoD.his (c : CoD) : Prop := hisP c.h0 c.h1 c.h2 c.h3 c.h4 c.h5 c.h6 c.h7 c.h8 c.hs
instance (c : CoD) : Decidable c.his := inferInstanceAs (Decidable (hisP _ _ _ _ _ _ _ _ _ _))
def CoD.his0 (c : CoD) : Prop := (c.h0 = 0 ∧ c.h1 = 0 ∧ c.h2 = 0 ∧ c.h3 = 0 ∧ c.h4 = 0 ∧ c.h5 = 0 ∧ c.h6 = 0 ∧ c.h7 = 0 ∧ c.h8 = 0) ∧ c.hs = 0
instance (c : CoD) : Decidable c.his0 := inferInstanceAs (Decidable (_ ∧ _))
def CoD.bare (c : CoD) : Prop := c.wd = 0 ∧ c.sl = 0 ∧ c.cl = []
instance (c : CoD) : Decidable c.bare := inferInstanceAs (Decidable (_ ∧ _))
def CoD.roleP (c : CoD) : Prop :=
 if c.ro = 1 then ((0 ≤ c.mo ∧ c.mo ≤ 2) ∧ winP c.wd c.sl c.cl) ∧ c.his ∧ (c.rm = 0 ∧ c.ha = 0)
 else if c.ro = 2 then ((c.mo = 0 ∧ c.bare) ∧ c.his0) ∧ bktP c.rm c.ha
 else c.ro = 3 ∧ ((0 ≤ c.mo ∧ c.mo ≤ 2147483647) ∧ c.bare) ∧ c.his ∧ bktP c.rm c.ha
instance (c : CoD) : Decidable c.roleP := by unfold CoD.roleP; infer_instance
def CoD.cntP (c : CoD) : Prop := heldP c.c0 ∧ heldP c.c1 ∧ heldP c.c2
instance (c : CoD) : Decidable c.cntP := inferInstanceAs (Decidable (_ ∧ _))
def CoD.P (c : CoD) : Prop := (namB c.nm = true ∧ c.cntP) ∧ c.roleP
instance (c : CoD) : Decidable c.P := inferInstanceAs (Decidable (_ ∧ _))

def ctAt (c0 c1 c2 x : Int) : Int := if x = 0 then c0 else if x = 1 then c1 else c2
theorem cnt_iff {c : CoD} : c.cntP ↔ ∀ i, 0 ≤ i → i < 3 → heldP (ctAt c.c0 c.c1 c.c2 i) := by
 unfold CoD.cntP
 constructor
 ·rintro ⟨h0, h1, h2⟩ i i0 i3
  have : i = 0 ∨ i = 1 ∨ i = 2 := by omega
  rcases this with rfl | rfl | rfl <;> assumption
 ·intro h
  exact ⟨h 0 (by omega) (by omega), h 1 (by omega) (by omega), h 2 (by omega) (by omega)⟩
theorem ct_step {c0 c1 c2 x : Int} (h : ∀ i, 0 ≤ i → i < x → heldP (ctAt c0 c1 c2 i)) (hx : heldP (ctAt c0 c1 c2 x)) : ∀ i, 0 ≤ i → i < x + 1 → heldP (ctAt c0 c1 c2 i) := by
 intro i h1 h2
 by_cases e : i = x
 ·rw [e]; exact hx
 ·exact h i h1 (by omega)

theorem pright_fn (c : CoD) : Ct Tryz.prog 70 {} [c.sv] (fun r => r = [B (decide c.P)]) := by
 have no : ¬ c.P → [B false] = [B (decide c.P)] := fun h => by simp [h]
 refine pright_nf _ _ _ _ _ _ _ _ _ _ _ _ _ _ _ _ _ _ _ _ _ _ (Cl.of (named_fn c.nm) ⟨_, rfl, ifB_intro (fun h => no (fun hh => ?_)) (fun h => ?_)⟩)
 ·simp at h; rw [hh.1.1] at h; cases h
 simp at h
 refine ⟨fun x => 0 ≤ x ∧ x ≤ 3 ∧ ∀ i, 0 ≤ i → i < x → heldP (ctAt c.c0 c.c1 c.c2 i), fun x => (3 - x).toNat, ⟨by omega, by omega, fun i h1 h2 => by omega⟩, ?_⟩
 rintro x ⟨x0, x3, hi⟩
 refine ifB_intro (fun hx => ?_) (fun hx => ?_)
 ·simp at hx
  rw [wadd_i64 (by omega) (by omega)]
  have step : ∀ (v : Int) {FX : Prop}, FX → ctAt c.c0 c.c1 c.c2 x = v → Cl Tryz.prog 108 sP [I v] (fun (rs : List SV) => ∃ x1 : Int, (rs = [I x1]) ∧ (ifB (ine v x1) ([B false] = [B (decide c.P)]) (FX ∧ ((0 ≤ x + 1 ∧ x + 1 ≤ 3 ∧ ∀ i, 0 ≤ i → i < x + 1 → heldP (ctAt c.c0 c.c1 c.c2 i)) ∧ (Nat.le (Nat.succ (3 - (x + 1)).toNat) (3 - x).toNat))))) := by
   intro v FX hFX hv
   refine Cl.of (hold_fn v) ⟨_, rfl, ifB_intro (fun hb => no (fun hh => ?_)) (fun hb => ⟨hFX, ⟨by omega, by omega, ct_step hi ?_⟩, mlt (by omega)⟩)⟩
   ·simp at hb
    have := cnt_iff.1 hh.1.2 x x0 hx
    rw [hv] at this
    exact hb (hold_id this).symm
   ·simp at hb
    rw [hv]
    exact hold_held.1 hb.symm
  exact ⟨⟨x0, hx⟩, fun e => step c.c0 rfl (by subst e; rfl), fun e => step c.c1 rfl (by subst e; rfl), fun e => step c.c2 rfl (by subst e; rfl), trivial⟩
 ·simp at hx
  obtain rfl : x = 3 := by omega
  have hcnt := cnt_iff.2 hi
  have fin : ∀ b : Bool, (b = true ↔ c.roleP) → [B b] = [B (decide c.P)] := fun b hb => by
   have : b = decide c.P := by
    rw [Bool.eq_iff_iff, decide_eq_true_eq, hb]
    exact ⟨fun hh => ⟨⟨h, hcnt⟩, hh⟩, fun hh => hh.2⟩
   rw [this]
  refine ifB_intro (fun h1 => ?_) (fun h1 => ifB_intro (fun h2 => ?_) (fun h2 => ifB_intro (fun h3 => ?_) (fun h3 => ?_)))
  ·simp at h1
   refine ifB_intro (fun hm => ?_) (fun hm => ?_)
   ·refine Cl.of (wright_fn c.wd c.sl c.cl) ⟨_, rfl, ifB_intro (fun hw => ?_) (fun hw => ?_)⟩
    ·refine Cl.of (hright_fn _ _ _ _ _ _ _ _ _ _) ⟨_, rfl, fin _ ?_⟩
     simp at hm hw
     unfold CoD.roleP CoD.his
     rw [if_pos h1]
     simp [hm, hw]
    ·simp at hw
     refine fin _ ?_
     unfold CoD.roleP
     rw [if_pos h1]
     simp [hw]
   ·refine fin _ ?_
    unfold CoD.roleP
    rw [if_pos h1]
    simp at hm
    have : ¬ (0 ≤ c.mo ∧ c.mo ≤ 2) := by omega
    simp [this]
  ·simp at h1 h2
   unfold CoD.roleP at fin
   rw [if_neg h1, if_pos h2] at fin
   refine ifB_intro (fun hm => ?_) (fun hm => ?_)
   ·simp at hm
    refine Cl.of (bare_fn c.wd c.sl c.cl) ⟨_, rfl, ifB_intro (fun hb => ?_) (fun hb => ?_)⟩
    ·refine Cl.of (bright_fn c.rm c.ha) ⟨_, rfl, fin _ ?_⟩
     simp at hb
     have e1 : c.bare := hb.1
     have e2 : c.his0 := by unfold CoD.his0; omega
     simp [hm, e1, e2]
    ·refine fin _ ?_
     simp at hb
     have : ¬ (c.bare ∧ c.his0) := fun hh => by
      have e1 := hh.1
      have e2 := hh.2
      unfold CoD.bare at e1
      unfold CoD.his0 at e2
      simp [e1, e2] at hb
     simp only [Bool.false_eq_true, false_iff]
     exact fun hh => this ⟨hh.1.1.2, hh.1.2⟩
   ·simp at hm
    exact ifB_intro (fun hb => by simp at hb) (fun _ => fin _ (by simp [hm]))
  ·simp at h1 h2 h3
   unfold CoD.roleP at fin
   rw [if_neg h1, if_neg h2] at fin
   refine ifB_intro (fun hm => ?_) (fun hm => ?_)
   ·simp at hm
    refine Cl.of (bare_fn c.wd c.sl c.cl) ⟨_, rfl, ifB_intro (fun hb => ?_) (fun hb => ?_)⟩
    ·simp at hb
     have e1 : c.bare := hb
     refine Cl.of (hright_fn _ _ _ _ _ _ _ _ _ _) ⟨_, rfl, ifB_intro (fun hh => ?_) (fun hh => ?_)⟩
     ·simp at hh
      have e2 : c.his := hh
      refine Cl.of (bright_fn c.rm c.ha) ⟨_, rfl, fin _ ?_⟩
      simp [h3, hm, e1, e2]
     ·simp at hh
      have e2 : ¬ c.his := hh
      exact fin _ (by simp [e2])
    ·simp at hb
     have e1 : ¬ c.bare := fun hh => by unfold CoD.bare at hh; exact hb hh.1 hh.2.1 hh.2.2
     exact fin _ (by simp [e1])
   ·simp at hm
    have : ¬ (0 ≤ c.mo ∧ c.mo ≤ 2147483647) := by omega
    exact fin _ (by simp [this])
  ·simp at h1 h2 h3
   unfold CoD.roleP at fin
   rw [if_neg h1, if_neg h2] at fin
   exact fin _ (by simp [h3])


def co0 : CoD := ⟨bA [], 0, 0, 0, 0, [], 0, 0, 0, 0, 0, 0, 0, 0, 0, 0, 0, 0, 0, 0, 0⟩
def newC (nm : ByteArray) (ro a : Int) : CoD × Int :=
 if namB nm = false then (co0, 3) else if ¬ (1 ≤ ro ∧ ro ≤ 3) then (co0, 4) else if ¬ timP a then (co0, 5)
 else if ro = 1 then ({ co0 with nm := nm, ro := ro, wd := 10, sl := a / 10, cl := [(0, 0), (0, 0), (0, 0), (0, 0)] }, 0) else ({ co0 with nm := nm, ro := ro, rm := 10, ha := 10 }, 0)

theorem wnew4 {a : Int} (h : timP a) : wnewR 10 4 a = [win3 10 (a / 10) (cR [(0, 0), (0, 0), (0, 0), (0, 0)]), I 0] := by
 unfold wnewR
 rw [if_pos ⟨by omega, h⟩]
 rfl

theorem pnew_fn (nm : ByteArray) (ro a : Int) : Ct Tryz.prog 85 {} [S nm, I ro, I a] (fun r => r = [(newC nm ro a).1.sv, I (newC nm ro a).2]) := by
 refine pnew_nf _ _ _ _ (Cl.of (named_fn nm) ⟨_, rfl, ifB_intro (fun h => ?_) (fun h => ifB_intro (fun h1 => ?_) (fun h1 => ifB_intro (fun h2 => ?_) (fun h2 => ?_)))⟩)
 ·simp at h
  simp [newC, h, co0]
 ·simp at h
  simp only [bor_t, ilt_eq, igt_eq, decide_eq_true_eq] at h1
  have : ¬ (1 ≤ ro ∧ ro ≤ 3) := by omega
  simp only [newC, h, Bool.true_eq_false, if_false, this, not_false_eq_true, if_true]
  rfl
 ·simp at h
  simp only [bor_f, ilt_eq, igt_eq, decide_eq_false_iff_not] at h1
  simp only [bor_t, ilt_eq, igt_eq, decide_eq_true_eq] at h2
  have e1 : (1 ≤ ro ∧ ro ≤ 3) := by omega
  have e2 : ¬ timP a := by unfold timP; omega
  simp only [newC, h, Bool.true_eq_false, if_false, e1, e2, not_true_eq_false, not_false_eq_true, if_true, and_self]
  rfl
 ·simp at h
  simp only [bor_f, ilt_eq, igt_eq, decide_eq_false_iff_not] at h1 h2
  have e1 : (1 ≤ ro ∧ ro ≤ 3) := by omega
  have e2 : timP a := by unfold timP; omega
  refine ifB_intro (fun h3 => ?_) (fun h3 => ?_)
  ·simp at h3
   have hw := wnew_fn 10 4 a
   rw [wnew4 e2] at hw
   refine Cl.of hw ⟨_, _, _, _, rfl, ?_⟩
   rw [h3] at e1 ⊢
   simp only [newC, h, Bool.true_eq_false, if_false, e1, e2, not_true_eq_false, if_true]
   rfl
  ·simp at h3
   refine Cl.of (bnew_fn 10 10) ⟨_, _, _, rfl, ?_⟩
   simp only [newC, h, Bool.true_eq_false, if_false, e1, e2, not_true_eq_false, h3, and_self]
   rfl

def chkE (e : EvD) : Int := chkI e.s e.a e.k e.c e.x e.y e.z
def cfgP (ro : Int) (e : EvD) : Prop := if ro = 1 then ((1 ≤ e.x ∧ 1 ≤ e.y) ∧ e.y ≤ 16) ∧ e.z = 0 else if ro = 2 then e.y ≤ e.x ∧ e.z = 0 else e.y = 0 ∧ e.z = 0
instance (ro : Int) (e : EvD) : Decidable (cfgP ro e) := by unfold cfgP; infer_instance
def mayI (c : CoD) (e : EvD) : Int :=
 if ¬ c.P then 1 else if chkE e ≠ 0 then chkE e else if e.c ≠ c.nm then 6 else if e.k = 1 then 7 else if roleI e.k ≠ 0 ∧ roleI e.k ≠ c.ro then 8 else if e.k = 2 ∧ ¬ cfgP c.ro e then 4 else 0


def cntC (c : CoD) (i : Int) : CoD := { c with c0 := if i = 0 then upI c.c0 1 else c.c0, c1 := if i = 1 then upI c.c1 1 else c.c1, c2 := if i = 2 then upI c.c2 1 else c.c2 }
def hadC (c : CoD) (n : Int) : CoD := if c.his ∧ 0 ≤ n then { c with h0 := hcI n 0 c.h0, h1 := hcI n 1 c.h1, h2 := hcI n 2 c.h2, h3 := hcI n 3 c.h3, h4 := hcI n 4 c.h4, h5 := hcI n 5 c.h5, h6 := hcI n 6 c.h6, h7 := hcI n 7 c.h7, h8 := hcI n 8 c.h8, hs := upI c.hs n } else c
theorem hadC_rest (c : CoD) (n : Int) : (hadC c n).nm = c.nm ∧ (hadC c n).ro = c.ro ∧ (hadC c n).mo = c.mo ∧ (hadC c n).wd = c.wd ∧ (hadC c n).sl = c.sl ∧ (hadC c n).cl = c.cl ∧ (hadC c n).rm = c.rm ∧ (hadC c n).ha = c.ha ∧ (hadC c n).c0 = c.c0 ∧ (hadC c n).c1 = c.c1 ∧ (hadC c n).c2 = c.c2 := by
 unfold hadC
 split <;> exact ⟨rfl, rfl, rfl, rfl, rfl, rfl, rfl, rfl, rfl, rfl, rfl⟩

def winC (c : CoD) (e : EvD) : CoD := { c with sl := (wadS c.wd c.sl c.cl e.a (ieq e.x 0)).1, cl := (wadS c.wd c.sl c.cl e.a (ieq e.x 0)).2 }
def zer (n : Nat) : List (Int × Int) := List.replicate n (0, 0)
def tellC (c : CoD) (e : EvD) : CoD :=
 if e.k = 2 then (if c.ro = 1 then { c with wd := e.x, sl := e.a / e.x, cl := zer e.y.toNat } else if c.ro = 2 then { c with rm := e.x, ha := e.y } else { c with rm := e.x, ha := e.x })
 else if e.k = 3 then cntC (hadC (winC c e) e.y) e.x
 else if e.k = 4 then (if e.x = 0 then { c with mo := e.x, sl := e.a / c.wd, cl := zer c.cl.length } else { c with mo := e.x })
 else if e.k = 5 then cntC { c with ha := takeH c.rm c.ha e.x } 0
 else if e.k = 6 then cntC c 1
 else if e.k = 7 then cntC { c with ha := putH c.rm c.ha e.x } 2
 else if e.k = 8 then cntC { c with mo := e.x, ha := takeH c.rm c.ha 1 } 0
 else if e.k = 9 then cntC (hadC c e.x) 1
 else cntC { c with mo := 0 } 2
def tellR (c : CoD) (e : EvD) : List SV := if mayI c e = 0 then [(tellC c e).sv, I 0] else [c.sv, I (mayI c e)]

structure MayOK (c : CoD) (e : EvD) : Prop where
 right : c.P
 chk : chkE e = 0
 name : e.c = c.nm
 k1 : e.k ≠ 1
 role : roleI e.k = 0 ∨ roleI e.k = c.ro
 cfg : e.k = 2 → cfgP c.ro e
theorem may_zero {c : CoD} {e : EvD} : mayI c e = 0 ↔ MayOK c e := by
 unfold mayI
 constructor
 ·intro h
  split at h
  ·simp at h
  ·split at h
   ·rename_i h1 h2; exact absurd h h2
   ·split at h
    ·simp at h
    ·split at h
     ·simp at h
     ·split at h
      ·simp at h
      ·split at h
       ·simp at h
       ·rename_i h1 h2 h3 h4 h5 h6
        refine ⟨Classical.not_not.1 h1, Classical.not_not.1 h2, Classical.not_not.1 h3, h4, ?_, fun hk => Classical.not_not.1 (fun hn => h6 ⟨hk, hn⟩)⟩
        by_cases hr : roleI e.k = 0
        ·exact .inl hr
        ·exact .inr (Classical.not_not.1 (fun hn => h5 ⟨hr, hn⟩))
 ·rintro ⟨h1, h2, h3, h4, h5, h6⟩
  rw [if_neg (by simp [h1]), if_neg (by simp [h2]), if_neg (by simp [h3]), if_neg h4, if_neg (fun hh => h5.elim hh.1 hh.2), if_neg (fun hh => hh.2 (h6 hh.1))]

theorem chkE_zero {e : EvD} (h : chkE e = 0) : (1 ≤ e.k ∧ e.k ≤ 10) ∧ (1 ≤ e.c.size ∧ e.c.size ≤ 24) ∧ (lo1 e.k ≤ e.x ∧ e.x ≤ hi1 e.k ∧ 0 ≤ e.y ∧ e.y ≤ hi2 e.k ∧ 0 ≤ e.z ∧ e.z ≤ hi3 e.k) ∧ timP e.a ∧ (0 ≤ e.s ∧ e.s ≤ 4294967296) := by
 obtain ⟨h1, h2, h3, h4, h5⟩ := chk0 h
 have h1 : ¬ (e.k < 1 ∨ 10 < e.k) := fun hh => h1 ((many0 _).2 hh)
 have h2 : 1 ≤ e.c.size ∧ e.c.size ≤ 24 := by simpa [namB] using h2
 have h3 : lo1 e.k ≤ e.x ∧ e.x ≤ hi1 e.k ∧ 0 ≤ e.y ∧ e.y ≤ hi2 e.k ∧ 0 ≤ e.z ∧ e.z ≤ hi3 e.k := by simpa [valB] using h3
 exact ⟨by omega, h2, h3, by unfold timP; omega, by omega⟩
theorem hi_le (k : Int) : 0 ≤ lo1 k ∧ hi1 k ≤ 2147483647 ∧ hi2 k ≤ 2147483647 ∧ hi3 k ≤ 2147483647 := by
 unfold lo1 hi1 hi2 hi3
 refine ⟨?_, ?_, ?_, ?_⟩ <;> repeat' split
 all_goals omega

theorem role_of {c : CoD} {e : EvD} (ok : MayOK c e) : (e.k = 3 ∨ e.k = 4 → c.ro = 1) ∧ (e.k = 5 ∨ e.k = 6 ∨ e.k = 7 → c.ro = 2) ∧ (e.k = 8 ∨ e.k = 9 ∨ e.k = 10 → c.ro = 3) := by
 have h := ok.role
 refine ⟨fun hk => ?_, fun hk => ?_, fun hk => ?_⟩
 ·rcases hk with hk | hk <;> rw [hk] at h <;> simp [roleI] at h <;> omega
 ·rcases hk with hk | hk | hk <;> rw [hk] at h <;> simp [roleI] at h <;> omega
 ·rcases hk with hk | hk | hk <;> rw [hk] at h <;> simp [roleI] at h <;> omega
theorem ro_range {c : CoD} (h : c.P) : c.ro = 1 ∨ c.ro = 2 ∨ c.ro = 3 := by
 have := h.2
 unfold CoD.roleP at this
 by_cases h1 : c.ro = 1
 ·exact .inl h1
 ·by_cases h2 : c.ro = 2
  ·exact .inr (.inl h2)
  ·rw [if_neg h1, if_neg h2] at this
   exact .inr (.inr this.1)
theorem right1 {c : CoD} (h : c.P) (h1 : c.ro = 1) : ((0 ≤ c.mo ∧ c.mo ≤ 2) ∧ winP c.wd c.sl c.cl) ∧ c.his ∧ (c.rm = 0 ∧ c.ha = 0) := by
 have := h.2
 unfold CoD.roleP at this
 rwa [if_pos h1] at this
theorem right2 {c : CoD} (h : c.P) (h1 : c.ro = 2) : ((c.mo = 0 ∧ c.bare) ∧ c.his0) ∧ bktP c.rm c.ha := by
 have := h.2
 unfold CoD.roleP at this
 rwa [if_neg (by omega), if_pos h1] at this
theorem right3 {c : CoD} (h : c.P) (h1 : c.ro = 3) : ((0 ≤ c.mo ∧ c.mo ≤ 2147483647) ∧ c.bare) ∧ c.his ∧ bktP c.rm c.ha := by
 have := h.2
 unfold CoD.roleP at this
 rw [if_neg (by omega), if_neg (by omega)] at this
 exact this.2



def plcOK (c : CoD) (e : EvD) (p : Int) (d : CoD) : Prop := (p = -1 ∧ d = tellC c e) ∨ ((0 ≤ p ∧ p < 3) ∧ cntC d p = tellC c e)

def sameP (c d : CoD) : Prop := c.nm = d.nm ∧ c.ro = d.ro ∧ c.mo = d.mo ∧ c.wd = d.wd ∧ c.sl = d.sl ∧ c.cl = d.cl ∧ c.h0 = d.h0 ∧ c.h1 = d.h1 ∧ c.h2 = d.h2 ∧ c.h3 = d.h3 ∧ c.h4 = d.h4 ∧ c.h5 = d.h5 ∧ c.h6 = d.h6 ∧ c.h7 = d.h7 ∧ c.h8 = d.h8 ∧ c.hs = d.hs ∧ c.rm = d.rm ∧ c.ha = d.ha ∧ c.c0 = d.c0 ∧ c.c1 = d.c1 ∧ c.c2 = d.c2
instance (c d : CoD) : Decidable (sameP c d) := by unfold sameP; infer_instance
theorem sameP_refl (c : CoD) : sameP c c := ⟨rfl, rfl, rfl, rfl, rfl, rfl, rfl, rfl, rfl, rfl, rfl, rfl, rfl, rfl, rfl, rfl, rfl, rfl, rfl, rfl, rfl⟩


theorem psame_fn (c d : CoD) (hl : c.cl.length ≤ 1000000) : Ct Tryz.prog 72 {} [c.sv, d.sv] (fun r => r = [B (decide (sameP c d))]) := by
 refine psame_nf _ _ _ _ _ _ _ _ _ _ _ _ _ _ _ _ _ _ _ _ _ _ _ _ _ _ _ _ _ _ _ _ _ _ _ _ _ _ _ _ _ _ _ (ifB_intro (fun h => Cl.of (cequal_fn c.cl d.cl hl) ⟨_, rfl, ?_⟩) (fun h => ?_))
 ·rw [seq_d] at h
  simp at h
  refine congrArg (fun b => [B b]) ?_
  rw [Bool.eq_iff_iff, decide_eq_true_eq]; unfold sameP
  simp [h, and_assoc]
 ·rw [seq_d] at h
  simp at h
  refine congrArg (fun b => [B b]) ?_
  rw [Bool.eq_iff_iff, decide_eq_true_eq]; unfold sameP
  simp
  intro h1 h2 h3 h4 h5
  exact absurd h5 (h h1 h2 h3 h4)

theorem qshort_fn (c : CoD) : Ct Tryz.prog 51 {} [c.sv] (fun r => r = [B (decide (c.nm.size ≤ 100 ∧ c.cl.length ≤ 40))]) := by
 refine qshort_nf _ _ _ _ _ _ _ _ _ _ _ _ _ _ _ _ _ _ _ _ _ _ ?_
 refine congrArg (fun b => [B b]) ?_
 rw [Bool.eq_iff_iff, decide_eq_true_eq]
 simp [slen_eq]
 omega


def tellD (c : CoD) (e : EvD) : CoD := if mayI c e = 0 then tellC c e else c
theorem addL_len (cl : List (Int × Int)) (p : Int) (ok : Bool) : (addL cl p ok).length = cl.length := by simp [addL]
theorem wadS_len (wd sl : Int) (cl : List (Int × Int)) (a : Int) (ok : Bool) : (wadS wd sl cl a ok).2.length = cl.length := by
 unfold wadS
 repeat' split
 all_goals simp [addL_len, mvL_len]

theorem P_cnt {c : CoD} (i : Int) (h : c.P) : (cntC c i).P := by
 refine ⟨⟨h.1.1, ?_, ?_, ?_⟩, h.2⟩
 ·show heldP (if i = 0 then upI c.c0 1 else c.c0)
  split
  ·exact up_held _ _
  ·exact h.1.2.1
 ·show heldP (if i = 1 then upI c.c1 1 else c.c1)
  split
  ·exact up_held _ _
  ·exact h.1.2.2.1
 ·show heldP (if i = 2 then upI c.c2 1 else c.c2)
  split
  ·exact up_held _ _
  ·exact h.1.2.2.2

theorem hc_held {n k v : Int} (h : heldP v) : heldP (hcI n k v) := by
 unfold hcI
 split
 ·exact up_held _ _
 ·exact h
theorem his_had {c : CoD} (n : Int) (h : c.his) : (hadC c n).his := by
 unfold hadC
 split
 ·obtain ⟨a0, a1, a2, a3, a4, a5, a6, a7, a8, a9⟩ := h
  exact ⟨hc_held a0, hc_held a1, hc_held a2, hc_held a3, hc_held a4, hc_held a5, hc_held a6, hc_held a7, hc_held a8, up_held _ _⟩
 ·exact h
theorem cells_zer (n : Nat) : cellsP (zer n) := fun c hc => by
 rw [(List.mem_replicate.1 hc).2]
 exact ⟨⟨by decide, by decide⟩, ⟨by decide, by decide⟩⟩
theorem tim_div {a w : Int} (h : timP a) (hw : 1 ≤ w) : timP (a / w) := by
 refine ⟨Int.ediv_nonneg h.1 (by omega), ?_⟩
 have h1 : a / w ≤ a := Int.ediv_le_self w h.1
 have := h.2
 omega
theorem cells_add {cl : List (Int × Int)} (h : cellsP cl) (i : Int) (ok : Bool) : cellsP (addL cl i ok) := by
 intro c hc
 rcases List.mem_or_eq_of_mem_set hc with hc | rfl
 ·exact h c hc
 ·have : heldP (ceAt cl i).1 ∧ heldP (ceAt cl i).2 := by
   unfold ceAt
   rw [List.getD_eq_getElem?_getD]
   cases e : cl[i.toNat]? with
   | none => exact ⟨⟨by decide, by decide⟩, ⟨by decide, by decide⟩⟩
   | some v => exact h v (List.mem_of_getElem? e)
  unfold ceU
  cases ok
  ·exact ⟨this.1, up_held _ _⟩
  ·exact ⟨up_held _ _, this.2⟩
theorem cells_mv {cl : List (Int × Int)} (h : cellsP cl) (sl slot : Int) : cellsP (mvL sl slot cl) := by
 intro c hc
 simp only [mvL, List.mem_map, List.mem_range] at hc
 obtain ⟨p, hp, rfl⟩ := hc
 split
 ·exact ⟨⟨by decide, by decide⟩, ⟨by decide, by decide⟩⟩
 ·rw [List.getD_eq_getElem?_getD, List.getElem?_eq_getElem hp]
  exact h _ (List.getElem_mem hp)
theorem win_wad {wd sl a : Int} {cl : List (Int × Int)} (h : winP wd sl cl) (ha : timP a) (ok : Bool) : winP wd (wadS wd sl cl a ok).1 (wadS wd sl cl a ok).2 := by
 obtain ⟨h1, h2, h3, h4⟩ := h
 refine ⟨h1, ?_, by rw [wadS_len]; exact h3, ?_⟩
 ·unfold wadS
  split
  ·split <;> exact h2
  ·exact tim_div ha h1.1
 ·unfold wadS
  split
  ·split
   ·exact h4
   ·exact cells_add h4 _ _
  ·exact cells_add (cells_mv h4 _ _) _ _

theorem bkt_take {rm ha n : Int} (h : bktP rm ha) : bktP rm (takeH rm ha n) := by
 unfold takeH
 split
 ·unfold bktP at *; omega
 ·exact h
theorem bkt_put {rm ha n : Int} (h : bktP rm ha) : bktP rm (putH rm ha n) := by
 unfold putH
 split
 ·unfold bktP at *; omega
 ·exact h

theorem P1 {c : CoD} (hn : namB c.nm = true) (hc : c.cntP) (hr : c.ro = 1) (h : ((0 ≤ c.mo ∧ c.mo ≤ 2) ∧ winP c.wd c.sl c.cl) ∧ c.his ∧ (c.rm = 0 ∧ c.ha = 0)) : c.P := ⟨⟨hn, hc⟩, by unfold CoD.roleP; rw [if_pos hr]; exact h⟩
theorem P2 {c : CoD} (hn : namB c.nm = true) (hc : c.cntP) (hr : c.ro = 2) (h : ((c.mo = 0 ∧ c.bare) ∧ c.his0) ∧ bktP c.rm c.ha) : c.P := ⟨⟨hn, hc⟩, by unfold CoD.roleP; rw [if_neg (by omega), if_pos hr]; exact h⟩
theorem P3 {c : CoD} (hn : namB c.nm = true) (hc : c.cntP) (hr : c.ro = 3) (h : ((0 ≤ c.mo ∧ c.mo ≤ 2147483647) ∧ c.bare) ∧ c.his ∧ bktP c.rm c.ha) : c.P := ⟨⟨hn, hc⟩, by unfold CoD.roleP; rw [if_neg (by omega), if_neg (by omega)]; exact ⟨hr, h⟩⟩

theorem tell_P {c : CoD} {e : EvD} (ok : MayOK c e) : (tellC c e).P := by
 have hP := ok.right
 obtain ⟨r1, r2, r3⟩ := role_of ok
 obtain ⟨k0, _, kv, ha, _⟩ := chkE_zero ok.chk
 have hlo := hi_le e.k
 have hn := hP.1.1
 have hc := hP.1.2
 unfold tellC
 split
 ·rename_i k2
  have cfg := ok.cfg k2
  unfold cfgP at cfg
  split
  ·rename_i hr
   rw [if_pos hr] at cfg
   have q := right1 hP hr
   refine P1 hn hc hr ⟨⟨q.1.1, ⟨⟨cfg.1.1.1, by show e.x ≤ _; omega⟩, tim_div ha cfg.1.1.1, ?_, cells_zer _⟩⟩, q.2⟩
   simp only [zer, List.length_replicate]; omega
  ·split
   ·rename_i hr1 hr
    rw [if_neg hr1, if_pos hr] at cfg
    have q := right2 hP hr
    refine P2 hn hc hr ⟨q.1, ?_⟩
    show bktP e.x e.y
    unfold bktP; omega
   ·rename_i hr1 hr2
    have hr : c.ro = 3 := by have := ro_range hP; omega
    have q := right3 hP hr
    refine P3 hn hc hr ⟨q.1, q.2.1, ?_⟩
    show bktP e.x e.x
    unfold bktP; omega
 ·split
  ·rename_i k2 k3
   have hr := r1 (.inl k3)
   have q := right1 hP hr
   obtain ⟨e1, e2, e3, e4, e5, e6, e7, e8, e9, e10, e11⟩ := hadC_rest (winC c e) e.y
   refine P_cnt _ (P1 (by rw [e1]; exact hn) ⟨by rw [e9]; exact hc.1, by rw [e10]; exact hc.2.1, by rw [e11]; exact hc.2.2⟩ (by rw [e2]; exact hr) ⟨⟨by rw [e3]; exact q.1.1, ?_⟩, his_had _ q.2.1, by rw [e7, e8]; exact q.2.2⟩)
   rw [e4, e5, e6]
   exact win_wad q.1.2 ha _
  ·split
   ·rename_i k2 k3 k4
    have hr := r1 (.inr k4)
    have q := right1 hP hr
    have hx : 0 ≤ e.x ∧ e.x ≤ 2 := by
     rw [k4] at kv
     simp [lo1, hi1] at kv
     omega
    split
    ·refine P1 hn hc hr ⟨⟨hx, ⟨q.1.2.1, tim_div ha q.1.2.1.1, ?_, cells_zer _⟩⟩, q.2⟩
     simp only [zer, List.length_replicate]; exact q.1.2.2.2.1
    ·exact P1 hn hc hr ⟨⟨hx, q.1.2⟩, q.2⟩
   ·split
    ·rename_i k5
     have hr := r2 (.inl k5)
     have q := right2 hP hr
     exact P_cnt _ (P2 hn hc hr ⟨q.1, bkt_take q.2⟩)
    ·split
     ·exact P_cnt _ hP
     ·split
      ·rename_i k7
       have hr := r2 (.inr (.inr k7))
       have q := right2 hP hr
       exact P_cnt _ (P2 hn hc hr ⟨q.1, bkt_put q.2⟩)
      ·split
       ·rename_i k8
        have hr := r3 (.inl k8)
        have q := right3 hP hr
        exact P_cnt _ (P3 hn hc hr ⟨⟨⟨by show 0 ≤ e.x; omega, by show e.x ≤ _; omega⟩, q.1.2⟩, q.2.1, bkt_take q.2.2⟩)
       ·split
        ·rename_i k9
         have hr := r3 (.inr (.inl k9))
         have q := right3 hP hr
         obtain ⟨e1, e2, e3, e4, e5, e6, e7, e8, e9, e10, e11⟩ := hadC_rest c e.x
         refine P_cnt _ (P3 (by rw [e1]; exact hn) ⟨by rw [e9]; exact hc.1, by rw [e10]; exact hc.2.1, by rw [e11]; exact hc.2.2⟩ (by rw [e2]; exact hr) ⟨⟨by rw [e3]; exact q.1.1, ?_⟩, his_had _ q.2.1, by rw [e7, e8]; exact q.2.2⟩)
         unfold CoD.bare
         rw [e4, e5, e6]
         exact q.1.2
        ·have k1 := ok.k1
         have hr : c.ro = 3 := r3 (.inr (.inr (by omega)))
         have q := right3 hP hr
         exact P_cnt _ (P3 hn hc hr ⟨⟨⟨by show (0 : Int) ≤ 0; decide, by show (0 : Int) ≤ _; decide⟩, q.1.2⟩, q.2⟩)

theorem tell_nm (c : CoD) (e : EvD) : (tellC c e).nm = c.nm ∧ (tellC c e).ro = c.ro := by
 have hh := fun (d : CoD) (n : Int) => hadC_rest d n
 unfold tellC
 repeat' split
 all_goals first | exact ⟨rfl, rfl⟩ | exact ⟨(hh _ _).1, (hh _ _).2.1⟩

end Go.Proofs.YtknnooannohflaaGreatDoor.Cmp

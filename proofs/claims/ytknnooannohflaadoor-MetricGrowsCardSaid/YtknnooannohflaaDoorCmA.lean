/- Layers 1, 11 to 14: what the functions of packages count, window, bucket, hist and comp, and of their references, do with plain data: the conditions. -/
import Derived.Test.YtknnooannohflaaDoorEvA
namespace Go.Proofs.YtknnooannohflaaDoor.Cmp
open Go Go.Px Go.Proofs
set_option maxRecDepth 100000
set_option linter.unusedVariables false

def SgT : FuncId → Sig := (fun f => bif Nat.beq f 154 then ⟨[], [.own]⟩ else {})
def SvT : TypeId → Sig := fun _ => {}
abbrev win3 (wd sl : Int) (cl : List (List SV)) : SV := .agg [I wd, I sl, SL 2 cl]
abbrev his10 (h0 h1 h2 h3 h4 h5 h6 h7 h8 hs : Int) : SV := .agg [I h0, I h1, I h2, I h3, I h4, I h5, I h6, I h7, I h8, I hs]
abbrev bkt2 (rm hs : Int) : SV := .agg [I rm, I hs]
abbrev cmp21 (nm : ByteArray) (ro mo wd sl : Int) (cl : List (List SV)) (h0 h1 h2 h3 h4 h5 h6 h7 h8 hs rm ha c0 c1 c2 : Int) : SV := .agg [S nm, I ro, I mo, I wd, I sl, SL 2 cl, I h0, I h1, I h2, I h3, I h4, I h5, I h6, I h7, I h8, I hs, I rm, I ha, I c0, I c1, I c2]

theorem hold_nf (n : Int) (Q : List SV → Prop) (h : Q [I (imax 0 (imin n 1099511627776))]) : Ct Tryd.prog 158 {} [I n] Q :=
 fn_of (f := 158) SgT SvT (fun _ => none) Tryd.f158 Tryd.func158 (by kernel_rfl) (by kernel_rfl) h

theorem up_nf (a b : Int) (Q : List SV → Prop) (h : Cl Tryd.prog 158 sP [I a] (fun rs => ∃ x, (rs = [I x]) ∧ (Cl Tryd.prog 158 sP [I b] (fun rs1 => ∃ x1, (rs1 = [I x1]) ∧ (Cl Tryd.prog 158 sP [I (wadd .i64 x x1)] (fun rs2 => ∃ x2, (rs2 = [I x2]) ∧ (Q [I x2]))))))) : Ct Tryd.prog 155 {} [I a, I b] Q :=
 fn_of (f := 155) SgT SvT (fun _ => none) Tryd.f155 Tryd.func155 (by kernel_rfl) (by kernel_rfl) h

theorem bright_nf (rm ha : Int) (Q : List SV → Prop) (h : Q [B (bpick (bpick (bpick (ige rm 0) (ile rm 2147483647) false) (ige ha 0) false) (ile ha rm) false)]) : Ct Tryd.prog 151 {} [bkt2 rm ha] Q :=
 fn_of (f := 151) SgT SvT (fun _ => none) Tryd.f151 Tryd.func151 (by kernel_rfl) (by kernel_rfl) h

theorem bnew_nf (rm ha : Int) (Q : List SV → Prop) (h : Cl Tryd.prog 151 sP ([SV.agg [I rm, I ha]]) (fun rs => ∃ b, (rs = [B b]) ∧ (ifB (bnot b) (Q ([SV.agg [I 0, I 0], I 1])) (Q ([SV.agg [I rm, I ha], I 0]))))) : Ct Tryd.prog 108 {} [I rm, I ha] Q :=
 fn_of (f := 108) SgT SvT (fun _ => none) Tryd.f108 Tryd.func108 (by kernel_rfl) (by kernel_rfl) h

theorem btake_nf (rm ha : Int) (n : Int) (Q : List SV → Prop) (h : Cl Tryd.prog 151 sP ([SV.agg [I rm, I ha]]) (fun rs => ∃ b, (rs = [B b]) ∧ (ifB (bpick (bnot b) true (ilt n 0)) (Q ([SV.agg [I rm, I ha], B false])) (Q ([SV.agg [I rm, I (wsub .i64 ha (imin n ha))], B (ige ha n)]))))) : Ct Tryd.prog 118 {} [bkt2 rm ha, I n] Q :=
 fn_of (f := 118) SgT SvT (fun _ => none) Tryd.f118 Tryd.func118 (by kernel_rfl) (by kernel_rfl) h

theorem bput_nf (rm ha : Int) (n : Int) (Q : List SV → Prop) (h : Cl Tryd.prog 151 sP ([SV.agg [I rm, I ha]]) (fun rs => ∃ b, (rs = [B b]) ∧ (ifB (bpick (bnot b) true (ilt n 0)) (Q ([SV.agg [I rm, I ha]])) (Q ([SV.agg [I rm, I (wadd .i64 ha (imin n (wsub .i64 rm ha)))]]))))) : Ct Tryd.prog 119 {} [bkt2 rm ha, I n] Q :=
 fn_of (f := 119) SgT SvT (fun _ => none) Tryd.f119 Tryd.func119 (by kernel_rfl) (by kernel_rfl) h

theorem hbound_nf (p : Int) (Q : List SV → Prop) (h : ifB (bpick (ilt p 0) true (ige p 8)) (Q [I 0]) (((0 : Int) ≤ p) ∧ (Q [I (wshl .i64 1 p)]))) : Ct Tryd.prog 185 {} [I p] Q :=
 fn_of (f := 185) SgT SvT (fun _ => none) Tryd.f185 Tryd.func185 (by kernel_rfl) (by kernel_rfl) h

theorem hplace_nf (n : Int) (Q : List SV → Prop) (h : ∃ Inv : Int → Int → Prop, ∃ m : Int → Int → Nat, (Inv 0 0) ∧ (∀ x x1, (Inv x x1) → ifB (ilt x1 8) (Cl Tryd.prog 185 sP [I x1] (fun rs => ∃ x2, (rs = [I x2]) ∧ (ifB (ile n x2) (Q [I x1]) (((Option.some [] : Option (LL)) = Option.some []) ∧ ((Inv x (wadd .i64 x1 1)) ∧ (Nat.le (Nat.succ (m x (wadd .i64 x1 1))) (m x x1))))))) (Q [I 8]))) : Ct Tryd.prog 157 {} [I n] Q :=
 fn_of (f := 157) SgT SvT (fun _ => none) Tryd.f157 Tryd.func157 (by kernel_rfl) (by kernel_rfl) h

theorem hright_nf (h0 h1 h2 h3 h4 h5 h6 h7 h8 hs : Int) (Q : List SV → Prop) (h : ∃ Inv : Bool → Int → Prop, ∃ m : Bool → Int → Nat, (Inv false 0) ∧ (∀ b x, (Inv b x) → ifB (ilt x 9) ((((0 : Int) ≤ x) ∧ (x < ((9 : Int)))) ∧ (((x = (0 : Int)) → Cl Tryd.prog 158 sP [I h0] (fun rs => ∃ x1, (rs = [I x1]) ∧ (ifB (ine h0 x1) (Q [B false]) ((Sm (some ([[I h0, I h1, I h2, I h3, I h4, I h5, I h6, I h7, I h8, I hs]]))) ∧ ((Inv b (wadd .i64 x 1)) ∧ (Nat.le (Nat.succ (m b (wadd .i64 x 1))) (m b x))))))) ∧ (((x = (1 : Int)) → Cl Tryd.prog 158 sP [I h1] (fun rs => ∃ x1, (rs = [I x1]) ∧ (ifB (ine h1 x1) (Q [B false]) ((Sm (some ([[I h0, I h1, I h2, I h3, I h4, I h5, I h6, I h7, I h8, I hs]]))) ∧ ((Inv b (wadd .i64 x 1)) ∧ (Nat.le (Nat.succ (m b (wadd .i64 x 1))) (m b x))))))) ∧ (((x = (2 : Int)) → Cl Tryd.prog 158 sP [I h2] (fun rs => ∃ x1, (rs = [I x1]) ∧ (ifB (ine h2 x1) (Q [B false]) ((Sm (some ([[I h0, I h1, I h2, I h3, I h4, I h5, I h6, I h7, I h8, I hs]]))) ∧ ((Inv b (wadd .i64 x 1)) ∧ (Nat.le (Nat.succ (m b (wadd .i64 x 1))) (m b x))))))) ∧ (((x = (3 : Int)) → Cl Tryd.prog 158 sP [I h3] (fun rs => ∃ x1, (rs = [I x1]) ∧ (ifB (ine h3 x1) (Q [B false]) ((Sm (some ([[I h0, I h1, I h2, I h3, I h4, I h5, I h6, I h7, I h8, I hs]]))) ∧ ((Inv b (wadd .i64 x 1)) ∧ (Nat.le (Nat.succ (m b (wadd .i64 x 1))) (m b x))))))) ∧ (((x = (4 : Int)) → Cl Tryd.prog 158 sP [I h4] (fun rs => ∃ x1, (rs = [I x1]) ∧ (ifB (ine h4 x1) (Q [B false]) ((Sm (some ([[I h0, I h1, I h2, I h3, I h4, I h5, I h6, I h7, I h8, I hs]]))) ∧ ((Inv b (wadd .i64 x 1)) ∧ (Nat.le (Nat.succ (m b (wadd .i64 x 1))) (m b x))))))) ∧ (((x = (5 : Int)) → Cl Tryd.prog 158 sP [I h5] (fun rs => ∃ x1, (rs = [I x1]) ∧ (ifB (ine h5 x1) (Q [B false]) ((Sm (some ([[I h0, I h1, I h2, I h3, I h4, I h5, I h6, I h7, I h8, I hs]]))) ∧ ((Inv b (wadd .i64 x 1)) ∧ (Nat.le (Nat.succ (m b (wadd .i64 x 1))) (m b x))))))) ∧ (((x = (6 : Int)) → Cl Tryd.prog 158 sP [I h6] (fun rs => ∃ x1, (rs = [I x1]) ∧ (ifB (ine h6 x1) (Q [B false]) ((Sm (some ([[I h0, I h1, I h2, I h3, I h4, I h5, I h6, I h7, I h8, I hs]]))) ∧ ((Inv b (wadd .i64 x 1)) ∧ (Nat.le (Nat.succ (m b (wadd .i64 x 1))) (m b x))))))) ∧ (((x = (7 : Int)) → Cl Tryd.prog 158 sP [I h7] (fun rs => ∃ x1, (rs = [I x1]) ∧ (ifB (ine h7 x1) (Q [B false]) ((Sm (some ([[I h0, I h1, I h2, I h3, I h4, I h5, I h6, I h7, I h8, I hs]]))) ∧ ((Inv b (wadd .i64 x 1)) ∧ (Nat.le (Nat.succ (m b (wadd .i64 x 1))) (m b x))))))) ∧ (((x = (8 : Int)) → Cl Tryd.prog 158 sP [I h8] (fun rs => ∃ x1, (rs = [I x1]) ∧ (ifB (ine h8 x1) (Q [B false]) ((Sm (some ([[I h0, I h1, I h2, I h3, I h4, I h5, I h6, I h7, I h8, I hs]]))) ∧ ((Inv b (wadd .i64 x 1)) ∧ (Nat.le (Nat.succ (m b (wadd .i64 x 1))) (m b x))))))) ∧ True)))))))))) (Cl Tryd.prog 158 sP [I hs] (fun rs => ∃ x1, (rs = [I x1]) ∧ (Q [B (ieq hs x1)]))))) : Ct Tryd.prog 156 {} [his10 h0 h1 h2 h3 h4 h5 h6 h7 h8 hs] Q :=
 fn_of (f := 156) SgT SvT (fun _ => none) Tryd.f156 Tryd.func156 (by kernel_rfl) (by kernel_rfl) h

theorem timely_nf (n : Int) (Q : List SV → Prop) (h : Q [B (bpick (ige n 0) (ile n 1099511627776) false)]) : Ct Tryd.prog 150 {} [I n] Q :=
 fn_of (f := 150) SgT SvT (fun _ => none) Tryd.f150 Tryd.func150 (by kernel_rfl) (by kernel_rfl) h

theorem wheld_nf (n : Int) (Q : List SV → Prop) (h : Cl Tryd.prog 158 sP [I n] (fun rs => ∃ x, (rs = [I x]) ∧ (Q [B (ieq n x)]))) : Ct Tryd.prog 186 {} [I n] Q :=
 fn_of (f := 186) SgT SvT (fun _ => none) Tryd.f186 Tryd.func186 (by kernel_rfl) (by kernel_rfl) h

theorem wwrong_nf (n m : Int) (f : FuncId) (cs : List SV) (Q : List SV → Prop) (h : Cl Tryd.prog f sP ((I n) :: cs) (fun rs => ∃ b, (rs = [B b]) ∧ (ifB (bnot b) (Q [B true]) (Cl Tryd.prog f sP ((I m) :: cs) (fun rs1 => ∃ b1, (rs1 = [B b1]) ∧ (Q [B (bpick false true (bnot b1))])))))) : Ct Tryd.prog 187 {} [.agg [I n, I m], .ref 0 [.clo f cs]] Q :=
 fn_of (f := 187) SgT SvT (fun _ => none) Tryd.f187 Tryd.func187 (by kernel_rfl) (by kernel_rfl) h

theorem cindex_nf (rows : LL) (f : FuncId) (cs : List SV) (Q : List SV → Prop) (h : ∃ Inv : Int → Int → Prop, ∃ m : Int → Int → Nat, (Inv 0 0) ∧ (∀ x x1, (Inv x x1) → ifB (ilt x1 (rlen rows)) ((((0 : Int) ≤ x1) ∧ (x1 < (rlen rows))) ∧ (∃ x2 x3, (rget rows x1 = [I x2, I x3]) ∧ (Cl Tryd.prog f sP ((SV.agg [I x2, I x3]) :: cs) (fun rs => ∃ b, (rs = [B b]) ∧ (ifB b (Q [I x1]) (((Option.some [] : Option (LL)) = Option.some []) ∧ ((Inv x (wadd .i64 x1 1)) ∧ (Nat.le (Nat.succ (m x (wadd .i64 x1 1))) (m x x1))))))))) (Q [I ((-1 : Int))]))) : Ct Tryd.prog 203 {} [SL 2 rows, .clo f cs] Q :=
 fn_of (f := 203) SgT SvT (fun _ => none) Tryd.f203 Tryd.func203 (by kernel_rfl) (by kernel_rfl) h

theorem ccont_nf (rows : LL) (f : FuncId) (cs : List SV) (Q : List SV → Prop) (h : Cl Tryd.prog 203 sP [SL 2 rows, SV.clo f cs] (fun rs => ∃ x, (rs = [I x]) ∧ (Q [B (ige x 0)]))) : Ct Tryd.prog 188 {} [SL 2 rows, .clo f cs] Q :=
 fn_of (f := 188) SgT SvT (fun _ => none) Tryd.f188 Tryd.func188 (by kernel_rfl) (by kernel_rfl) h

theorem wright_nf (wd sl : Int) (cl : LL) (Q : List SV → Prop) (h : ifB (bpick (ilt wd 1) true (igt wd 2147483647)) (Q [B false]) (Cl Tryd.prog 150 sP [I sl] (fun rs => ∃ b, (rs = [B b]) ∧ (ifB (bpick false true (bnot b)) (Q [B false]) (ifB (bpick (ilt (rlen cl) 1) true (igt (rlen cl) 16)) (Q [B false]) (Cl Tryd.prog 188 sP ([SL 2 cl, SV.clo 187 ([SV.ref 0 ([SV.clo 186 []])])]) (fun rs1 => ∃ b1, (rs1 = [B b1]) ∧ (Q [B (bnot b1)])))))))) : Ct Tryd.prog 159 {} [win3 wd sl cl] Q :=
 fn_of (f := 159) SgT SvT (fun _ => none) Tryd.f159 Tryd.func159 (by kernel_rfl) (by kernel_rfl) h

theorem wnew_nf (wd n at_ : Int) (Q : List SV → Prop) (h : ifB (bpick (bpick (bpick (ilt wd 1) true (igt wd 2147483647)) true (ilt n 1)) true (igt n 16)) (Q ([SV.agg ([I 0, I 0, SL 2 []]), I 1])) (Cl Tryd.prog 150 sP [I at_] (fun rs => ∃ b, (rs = [B b]) ∧ (ifB (bpick false true (bnot b)) (Q ([SV.agg ([I 0, I 0, SL 2 []]), I 1])) (((wd = 0) → False) ∧ ((((0 : Int) ≤ n) ∧ ((n ≤ n) ∧ (n ≤ ((2147483648 : Int))))) ∧ (Q ([SV.agg ([I wd, I (wquo .i64 at_ wd), SL 2 (rrep n [I 0, I 0])]), I 0])))))))) : Ct Tryd.prog 107 {} [I wd, I n, I at_] Q :=
 fn_of (f := 107) SgT SvT (fun _ => none) Tryd.f107 Tryd.func107 (by kernel_rfl) (by kernel_rfl) h

theorem cclone_nf (rows : LL) (Q : List SV → Prop) (h : ∀ b, ((b = true) → rlen rows = 0) → ifB b (Q ([SL 2 []])) (((lsum (rlen []) (rlen rows)) ≤ ((2147483648 : Int))) ∧ (Q ([SL 2 (rapp [] rows)])))) : Ct Tryd.prog 154 ⟨[], [.own]⟩ [SL 2 rows] Q :=
 fn_of (f := 154) SgT SvT (fun _ => none) Tryd.f154 Tryd.func154 (by kernel_rfl) (by kernel_rfl) h

theorem wmove_nf (wd sl : Int) (cl : LL) (at_ : Int) (Q : List SV → Prop) (h : Cl Tryd.prog 159 sP ([SV.agg [I wd, I sl, SL 2 cl]]) (fun rs => ∃ b, (rs = [B b]) ∧ (ifB (bnot b) (Q ([SV.agg [I wd, I sl, SL 2 cl], I 1])) (Cl Tryd.prog 150 sP [I at_] (fun rs1 => ∃ b1, (rs1 = [B b1]) ∧ (ifB (bpick false true (bnot b1)) (Q ([SV.agg [I wd, I sl, SL 2 cl], I 1])) (((wd = 0) → False) ∧ (ifB (ile (wquo .i64 at_ wd) sl) (Q ([SV.agg [I wd, I sl, SL 2 cl], I 0])) (Cl Tryd.prog 154 sO [SL 2 cl] (fun rs2 => ∃ l, (rs2 = [SL 2 l]) ∧ (∃ Inv : Int → (LL) → Prop, ∃ m : Int → (LL) → Nat, (Inv (imax (wadd .i64 sl 1) (wadd .i64 (wsub .i64 (wquo .i64 at_ wd) (rlen l)) 1)) l) ∧ (∀ x l1, (Inv x l1) → ifB (ile x (wquo .i64 at_ wd)) (((rlen l = 0) → False) ∧ ((((0 : Int) ≤ (wrem x (rlen l))) ∧ ((wrem x (rlen l)) < (rlen l1))) ∧ ((((0 : Int) ≤ (wrem x (rlen l))) ∧ ((wrem x (rlen l)) < (rlen l1))) ∧ ((Sm (some ([[I 0, I 0, SV.slice 2 [] 1], [I wd, I sl, SL 2 cl]]))) ∧ ((Inv (wadd .i64 x 1) (rset l1 (wrem x (rlen l)) [I 0, I 0])) ∧ (Nat.le (Nat.succ (m (wadd .i64 x 1) (rset l1 (wrem x (rlen l)) [I 0, I 0]))) (m x l1))))))) (Q ([SV.agg [I wd, I (wquo .i64 at_ wd), SL 2 l1], I 0])))))))))))))) : Ct Tryd.prog 153 {} [win3 wd sl cl, I at_] Q :=
 fn_of (f := 153) SgT SvT (fun _ => none) Tryd.f153 Tryd.func153 (by kernel_rfl) (by kernel_rfl) h

theorem wadd1_nf (wd sl : Int) (cl : LL) (at_ : Int) (ok : Bool) (Q : List SV → Prop) (h : Cl Tryd.prog 153 sP ([SV.agg [I wd, I sl, SL 2 cl], I at_]) (fun rs => ∃ x x1, ∃ l x2, (rs = [SV.agg [I x, I x1, SL 2 l], I x2]) ∧ (ifB (ine x2 0) (Q ([SV.agg [I x, I x1, SL 2 l], I x2])) (((x = 0) → False) ∧ (ifB (ile (wquo .i64 at_ x) (wsub .i64 x1 (rlen l))) (Q ([SV.agg [I x, I x1, SL 2 l], I 0])) (Cl Tryd.prog 154 sO [SL 2 l] (fun rs1 => ∃ l1, (rs1 = [SL 2 l1]) ∧ (((rlen l = 0) → False) ∧ ((((0 : Int) ≤ (wrem (wquo .i64 at_ x) (rlen l))) ∧ ((wrem (wquo .i64 at_ x) (rlen l)) < (rlen l1))) ∧ (ifB ok ((((0 : Int) ≤ (wrem (wquo .i64 at_ x) (rlen l))) ∧ ((wrem (wquo .i64 at_ x) (rlen l)) < (rlen l1))) ∧ (∃ x3 x4, (rget l1 (wrem (wquo .i64 at_ x) (rlen l)) = [I x3, I x4]) ∧ (Cl Tryd.prog 155 sP [I x3, I 1] (fun rs2 => ∃ x5, (rs2 = [I x5]) ∧ ((((0 : Int) ≤ (wrem (wquo .i64 at_ x) (rlen l))) ∧ ((wrem (wquo .i64 at_ x) (rlen l)) < (rlen l1))) ∧ (∃ x6 x7, (rget l1 (wrem (wquo .i64 at_ x) (rlen l)) = [I x6, I x7]) ∧ (Q ([SV.agg ([I x, I x1, SL 2 (rset l1 (wrem (wquo .i64 at_ x) (rlen l)) [I x5, I x7])]), I 0])))))))) ((((0 : Int) ≤ (wrem (wquo .i64 at_ x) (rlen l))) ∧ ((wrem (wquo .i64 at_ x) (rlen l)) < (rlen l1))) ∧ (∃ x3 x4, (rget l1 (wrem (wquo .i64 at_ x) (rlen l)) = [I x3, I x4]) ∧ (Cl Tryd.prog 155 sP [I x4, I 1] (fun rs2 => ∃ x5, (rs2 = [I x5]) ∧ ((((0 : Int) ≤ (wrem (wquo .i64 at_ x) (rlen l))) ∧ ((wrem (wquo .i64 at_ x) (rlen l)) < (rlen l1))) ∧ (∃ x6 x7, (rget l1 (wrem (wquo .i64 at_ x) (rlen l)) = [I x6, I x7]) ∧ (Q ([SV.agg ([I x, I x1, SL 2 (rset l1 (wrem (wquo .i64 at_ x) (rlen l)) [I x6, I x5])]), I 0])))))))))))))))))) : Ct Tryd.prog 115 {} [win3 wd sl cl, I at_, B ok] Q :=
 fn_of (f := 115) SgT SvT (fun _ => none) Tryd.f115 Tryd.func115 (by kernel_rfl) (by kernel_rfl) h

theorem bare_nf (wd sl : Int) (cl : LL) (Q : List SV → Prop) (h : Q [B (bpick (bpick (ieq wd 0) (ieq sl 0) false) (ieq (rlen cl) 0) false)]) : Ct Tryd.prog 160 {} [win3 wd sl cl] Q :=
 fn_of (f := 160) SgT SvT (fun _ => none) Tryd.f160 Tryd.func160 (by kernel_rfl) (by kernel_rfl) h

theorem configs_nf (ro : Int) (s a k : Int) (c : ByteArray) (x y z : Int) (Q : List SV → Prop) (h : ifB (ieq ro 1) (Q [B (bpick (bpick (bpick (ige x 1) (ige y 1) false) (ile y 16) false) (ieq z 0) false)]) (ifB (ieq ro 2) (Q [B (bpick (ile y x) (ieq z 0) false)]) (Q [B (bpick (ieq y 0) (ieq z 0) false)]))) : Ct Tryd.prog 149 {} [I ro, ev7 s a k c x y z] Q :=
 fn_of (f := 149) SgT SvT (fun _ => none) Tryd.f149 Tryd.func149 (by kernel_rfl) (by kernel_rfl) h

theorem counted_nf (nm : ByteArray) (ro mo wd sl : Int) (cl : LL) (h0 h1 h2 h3 h4 h5 h6 h7 h8 hs rm ha c0 c1 c2 : Int) (n : Int) (Q : List SV → Prop) (h : (((0 : Int) ≤ n) ∧ (n < ((3 : Int)))) ∧ (((n = (0 : Int)) → Cl Tryd.prog 155 sP [I c0, I 1] (fun rs => ∃ x, (rs = [I x]) ∧ ((((0 : Int) ≤ n) ∧ (n < ((3 : Int)))) ∧ (((n = (0 : Int)) → Q ([SV.agg [S nm, I ro, I mo, I wd, I sl, SL 2 cl, I h0, I h1, I h2, I h3, I h4, I h5, I h6, I h7, I h8, I hs, I rm, I ha, I x, I c1, I c2]])) ∧ (((n = (1 : Int)) → Q ([SV.agg [S nm, I ro, I mo, I wd, I sl, SL 2 cl, I h0, I h1, I h2, I h3, I h4, I h5, I h6, I h7, I h8, I hs, I rm, I ha, I c0, I x, I c2]])) ∧ (((n = (2 : Int)) → Q ([SV.agg [S nm, I ro, I mo, I wd, I sl, SL 2 cl, I h0, I h1, I h2, I h3, I h4, I h5, I h6, I h7, I h8, I hs, I rm, I ha, I c0, I c1, I x]])) ∧ True)))))) ∧ (((n = (1 : Int)) → Cl Tryd.prog 155 sP [I c1, I 1] (fun rs => ∃ x, (rs = [I x]) ∧ ((((0 : Int) ≤ n) ∧ (n < ((3 : Int)))) ∧ (((n = (0 : Int)) → Q ([SV.agg [S nm, I ro, I mo, I wd, I sl, SL 2 cl, I h0, I h1, I h2, I h3, I h4, I h5, I h6, I h7, I h8, I hs, I rm, I ha, I x, I c1, I c2]])) ∧ (((n = (1 : Int)) → Q ([SV.agg [S nm, I ro, I mo, I wd, I sl, SL 2 cl, I h0, I h1, I h2, I h3, I h4, I h5, I h6, I h7, I h8, I hs, I rm, I ha, I c0, I x, I c2]])) ∧ (((n = (2 : Int)) → Q ([SV.agg [S nm, I ro, I mo, I wd, I sl, SL 2 cl, I h0, I h1, I h2, I h3, I h4, I h5, I h6, I h7, I h8, I hs, I rm, I ha, I c0, I c1, I x]])) ∧ True)))))) ∧ (((n = (2 : Int)) → Cl Tryd.prog 155 sP [I c2, I 1] (fun rs => ∃ x, (rs = [I x]) ∧ ((((0 : Int) ≤ n) ∧ (n < ((3 : Int)))) ∧ (((n = (0 : Int)) → Q ([SV.agg [S nm, I ro, I mo, I wd, I sl, SL 2 cl, I h0, I h1, I h2, I h3, I h4, I h5, I h6, I h7, I h8, I hs, I rm, I ha, I x, I c1, I c2]])) ∧ (((n = (1 : Int)) → Q ([SV.agg [S nm, I ro, I mo, I wd, I sl, SL 2 cl, I h0, I h1, I h2, I h3, I h4, I h5, I h6, I h7, I h8, I hs, I rm, I ha, I c0, I x, I c2]])) ∧ (((n = (2 : Int)) → Q ([SV.agg [S nm, I ro, I mo, I wd, I sl, SL 2 cl, I h0, I h1, I h2, I h3, I h4, I h5, I h6, I h7, I h8, I hs, I rm, I ha, I c0, I c1, I x]])) ∧ True)))))) ∧ True)))) : Ct Tryd.prog 117 {} [cmp21 nm ro mo wd sl cl h0 h1 h2 h3 h4 h5 h6 h7 h8 hs rm ha c0 c1 c2, I n] Q :=
 fn_of (f := 117) SgT SvT (fun _ => none) Tryd.f117 Tryd.func117 (by kernel_rfl) (by kernel_rfl) h


theorem hadd_nf (h0 h1 h2 h3 h4 h5 h6 h7 h8 hs : Int) (n : Int) (Q : List SV → Prop) (h : Cl Tryd.prog 156 sP ([SV.agg [I h0, I h1, I h2, I h3, I h4, I h5, I h6, I h7, I h8, I hs]]) (fun rs => ∃ b, (rs = [B b]) ∧ (ifB (bpick (bnot b) true (ilt n 0)) (Q ([SV.agg [I h0, I h1, I h2, I h3, I h4, I h5, I h6, I h7, I h8, I hs]])) (Cl Tryd.prog 157 sP [I n] (fun rs1 => ∃ x, (rs1 = [I x]) ∧ (∃ Inv : Int → Int → Int → Int → Int → Int → Int → Int → Int → Int → Prop, ∃ m : Int → Int → Int → Int → Int → Int → Int → Int → Int → Int → Nat, ((((0 : Int) ≤ x) ∧ (x < ((9 : Int)))) ∧ (((x = (0 : Int)) → Cl Tryd.prog 155 sP [I h0, I 1] (fun rs2 => ∃ x1, (rs2 = [I x1]) ∧ ((((0 : Int) ≤ x) ∧ (x < ((9 : Int)))) ∧ (((x = (0 : Int)) → (Sm (some ([[I 0, I 0, I 0, I 0, I 0, I 0, I 0, I 0, I 0, I 0]]))) ∧ (Inv x1 h1 h2 h3 h4 h5 h6 h7 h8 hs)) ∧ (((x = (1 : Int)) → (Sm (some ([[I 0, I 0, I 0, I 0, I 0, I 0, I 0, I 0, I 0, I 0]]))) ∧ (Inv h0 x1 h2 h3 h4 h5 h6 h7 h8 hs)) ∧ (((x = (2 : Int)) → (Sm (some ([[I 0, I 0, I 0, I 0, I 0, I 0, I 0, I 0, I 0, I 0]]))) ∧ (Inv h0 h1 x1 h3 h4 h5 h6 h7 h8 hs)) ∧ (((x = (3 : Int)) → (Sm (some ([[I 0, I 0, I 0, I 0, I 0, I 0, I 0, I 0, I 0, I 0]]))) ∧ (Inv h0 h1 h2 x1 h4 h5 h6 h7 h8 hs)) ∧ (((x = (4 : Int)) → (Sm (some ([[I 0, I 0, I 0, I 0, I 0, I 0, I 0, I 0, I 0, I 0]]))) ∧ (Inv h0 h1 h2 h3 x1 h5 h6 h7 h8 hs)) ∧ (((x = (5 : Int)) → (Sm (some ([[I 0, I 0, I 0, I 0, I 0, I 0, I 0, I 0, I 0, I 0]]))) ∧ (Inv h0 h1 h2 h3 h4 x1 h6 h7 h8 hs)) ∧ (((x = (6 : Int)) → (Sm (some ([[I 0, I 0, I 0, I 0, I 0, I 0, I 0, I 0, I 0, I 0]]))) ∧ (Inv h0 h1 h2 h3 h4 h5 x1 h7 h8 hs)) ∧ (((x = (7 : Int)) → (Sm (some ([[I 0, I 0, I 0, I 0, I 0, I 0, I 0, I 0, I 0, I 0]]))) ∧ (Inv h0 h1 h2 h3 h4 h5 h6 x1 h8 hs)) ∧ (((x = (8 : Int)) → (Sm (some ([[I 0, I 0, I 0, I 0, I 0, I 0, I 0, I 0, I 0, I 0]]))) ∧ (Inv h0 h1 h2 h3 h4 h5 h6 h7 x1 hs)) ∧ True)))))))))))) ∧ (((x = (1 : Int)) → Cl Tryd.prog 155 sP [I h1, I 1] (fun rs2 => ∃ x1, (rs2 = [I x1]) ∧ ((((0 : Int) ≤ x) ∧ (x < ((9 : Int)))) ∧ (((x = (0 : Int)) → (Sm (some ([[I 0, I 0, I 0, I 0, I 0, I 0, I 0, I 0, I 0, I 0]]))) ∧ (Inv x1 h1 h2 h3 h4 h5 h6 h7 h8 hs)) ∧ (((x = (1 : Int)) → (Sm (some ([[I 0, I 0, I 0, I 0, I 0, I 0, I 0, I 0, I 0, I 0]]))) ∧ (Inv h0 x1 h2 h3 h4 h5 h6 h7 h8 hs)) ∧ (((x = (2 : Int)) → (Sm (some ([[I 0, I 0, I 0, I 0, I 0, I 0, I 0, I 0, I 0, I 0]]))) ∧ (Inv h0 h1 x1 h3 h4 h5 h6 h7 h8 hs)) ∧ (((x = (3 : Int)) → (Sm (some ([[I 0, I 0, I 0, I 0, I 0, I 0, I 0, I 0, I 0, I 0]]))) ∧ (Inv h0 h1 h2 x1 h4 h5 h6 h7 h8 hs)) ∧ (((x = (4 : Int)) → (Sm (some ([[I 0, I 0, I 0, I 0, I 0, I 0, I 0, I 0, I 0, I 0]]))) ∧ (Inv h0 h1 h2 h3 x1 h5 h6 h7 h8 hs)) ∧ (((x = (5 : Int)) → (Sm (some ([[I 0, I 0, I 0, I 0, I 0, I 0, I 0, I 0, I 0, I 0]]))) ∧ (Inv h0 h1 h2 h3 h4 x1 h6 h7 h8 hs)) ∧ (((x = (6 : Int)) → (Sm (some ([[I 0, I 0, I 0, I 0, I 0, I 0, I 0, I 0, I 0, I 0]]))) ∧ (Inv h0 h1 h2 h3 h4 h5 x1 h7 h8 hs)) ∧ (((x = (7 : Int)) → (Sm (some ([[I 0, I 0, I 0, I 0, I 0, I 0, I 0, I 0, I 0, I 0]]))) ∧ (Inv h0 h1 h2 h3 h4 h5 h6 x1 h8 hs)) ∧ (((x = (8 : Int)) → (Sm (some ([[I 0, I 0, I 0, I 0, I 0, I 0, I 0, I 0, I 0, I 0]]))) ∧ (Inv h0 h1 h2 h3 h4 h5 h6 h7 x1 hs)) ∧ True)))))))))))) ∧ (((x = (2 : Int)) → Cl Tryd.prog 155 sP [I h2, I 1] (fun rs2 => ∃ x1, (rs2 = [I x1]) ∧ ((((0 : Int) ≤ x) ∧ (x < ((9 : Int)))) ∧ (((x = (0 : Int)) → (Sm (some ([[I 0, I 0, I 0, I 0, I 0, I 0, I 0, I 0, I 0, I 0]]))) ∧ (Inv x1 h1 h2 h3 h4 h5 h6 h7 h8 hs)) ∧ (((x = (1 : Int)) → (Sm (some ([[I 0, I 0, I 0, I 0, I 0, I 0, I 0, I 0, I 0, I 0]]))) ∧ (Inv h0 x1 h2 h3 h4 h5 h6 h7 h8 hs)) ∧ (((x = (2 : Int)) → (Sm (some ([[I 0, I 0, I 0, I 0, I 0, I 0, I 0, I 0, I 0, I 0]]))) ∧ (Inv h0 h1 x1 h3 h4 h5 h6 h7 h8 hs)) ∧ (((x = (3 : Int)) → (Sm (some ([[I 0, I 0, I 0, I 0, I 0, I 0, I 0, I 0, I 0, I 0]]))) ∧ (Inv h0 h1 h2 x1 h4 h5 h6 h7 h8 hs)) ∧ (((x = (4 : Int)) → (Sm (some ([[I 0, I 0, I 0, I 0, I 0, I 0, I 0, I 0, I 0, I 0]]))) ∧ (Inv h0 h1 h2 h3 x1 h5 h6 h7 h8 hs)) ∧ (((x = (5 : Int)) → (Sm (some ([[I 0, I 0, I 0, I 0, I 0, I 0, I 0, I 0, I 0, I 0]]))) ∧ (Inv h0 h1 h2 h3 h4 x1 h6 h7 h8 hs)) ∧ (((x = (6 : Int)) → (Sm (some ([[I 0, I 0, I 0, I 0, I 0, I 0, I 0, I 0, I 0, I 0]]))) ∧ (Inv h0 h1 h2 h3 h4 h5 x1 h7 h8 hs)) ∧ (((x = (7 : Int)) → (Sm (some ([[I 0, I 0, I 0, I 0, I 0, I 0, I 0, I 0, I 0, I 0]]))) ∧ (Inv h0 h1 h2 h3 h4 h5 h6 x1 h8 hs)) ∧ (((x = (8 : Int)) → (Sm (some ([[I 0, I 0, I 0, I 0, I 0, I 0, I 0, I 0, I 0, I 0]]))) ∧ (Inv h0 h1 h2 h3 h4 h5 h6 h7 x1 hs)) ∧ True)))))))))))) ∧ (((x = (3 : Int)) → Cl Tryd.prog 155 sP [I h3, I 1] (fun rs2 => ∃ x1, (rs2 = [I x1]) ∧ ((((0 : Int) ≤ x) ∧ (x < ((9 : Int)))) ∧ (((x = (0 : Int)) → (Sm (some ([[I 0, I 0, I 0, I 0, I 0, I 0, I 0, I 0, I 0, I 0]]))) ∧ (Inv x1 h1 h2 h3 h4 h5 h6 h7 h8 hs)) ∧ (((x = (1 : Int)) → (Sm (some ([[I 0, I 0, I 0, I 0, I 0, I 0, I 0, I 0, I 0, I 0]]))) ∧ (Inv h0 x1 h2 h3 h4 h5 h6 h7 h8 hs)) ∧ (((x = (2 : Int)) → (Sm (some ([[I 0, I 0, I 0, I 0, I 0, I 0, I 0, I 0, I 0, I 0]]))) ∧ (Inv h0 h1 x1 h3 h4 h5 h6 h7 h8 hs)) ∧ (((x = (3 : Int)) → (Sm (some ([[I 0, I 0, I 0, I 0, I 0, I 0, I 0, I 0, I 0, I 0]]))) ∧ (Inv h0 h1 h2 x1 h4 h5 h6 h7 h8 hs)) ∧ (((x = (4 : Int)) → (Sm (some ([[I 0, I 0, I 0, I 0, I 0, I 0, I 0, I 0, I 0, I 0]]))) ∧ (Inv h0 h1 h2 h3 x1 h5 h6 h7 h8 hs)) ∧ (((x = (5 : Int)) → (Sm (some ([[I 0, I 0, I 0, I 0, I 0, I 0, I 0, I 0, I 0, I 0]]))) ∧ (Inv h0 h1 h2 h3 h4 x1 h6 h7 h8 hs)) ∧ (((x = (6 : Int)) → (Sm (some ([[I 0, I 0, I 0, I 0, I 0, I 0, I 0, I 0, I 0, I 0]]))) ∧ (Inv h0 h1 h2 h3 h4 h5 x1 h7 h8 hs)) ∧ (((x = (7 : Int)) → (Sm (some ([[I 0, I 0, I 0, I 0, I 0, I 0, I 0, I 0, I 0, I 0]]))) ∧ (Inv h0 h1 h2 h3 h4 h5 h6 x1 h8 hs)) ∧ (((x = (8 : Int)) → (Sm (some ([[I 0, I 0, I 0, I 0, I 0, I 0, I 0, I 0, I 0, I 0]]))) ∧ (Inv h0 h1 h2 h3 h4 h5 h6 h7 x1 hs)) ∧ True)))))))))))) ∧ (((x = (4 : Int)) → Cl Tryd.prog 155 sP [I h4, I 1] (fun rs2 => ∃ x1, (rs2 = [I x1]) ∧ ((((0 : Int) ≤ x) ∧ (x < ((9 : Int)))) ∧ (((x = (0 : Int)) → (Sm (some ([[I 0, I 0, I 0, I 0, I 0, I 0, I 0, I 0, I 0, I 0]]))) ∧ (Inv x1 h1 h2 h3 h4 h5 h6 h7 h8 hs)) ∧ (((x = (1 : Int)) → (Sm (some ([[I 0, I 0, I 0, I 0, I 0, I 0, I 0, I 0, I 0, I 0]]))) ∧ (Inv h0 x1 h2 h3 h4 h5 h6 h7 h8 hs)) ∧ (((x = (2 : Int)) → (Sm (some ([[I 0, I 0, I 0, I 0, I 0, I 0, I 0, I 0, I 0, I 0]]))) ∧ (Inv h0 h1 x1 h3 h4 h5 h6 h7 h8 hs)) ∧ (((x = (3 : Int)) → (Sm (some ([[I 0, I 0, I 0, I 0, I 0, I 0, I 0, I 0, I 0, I 0]]))) ∧ (Inv h0 h1 h2 x1 h4 h5 h6 h7 h8 hs)) ∧ (((x = (4 : Int)) → (Sm (some ([[I 0, I 0, I 0, I 0, I 0, I 0, I 0, I 0, I 0, I 0]]))) ∧ (Inv h0 h1 h2 h3 x1 h5 h6 h7 h8 hs)) ∧ (((x = (5 : Int)) → (Sm (some ([[I 0, I 0, I 0, I 0, I 0, I 0, I 0, I 0, I 0, I 0]]))) ∧ (Inv h0 h1 h2 h3 h4 x1 h6 h7 h8 hs)) ∧ (((x = (6 : Int)) → (Sm (some ([[I 0, I 0, I 0, I 0, I 0, I 0, I 0, I 0, I 0, I 0]]))) ∧ (Inv h0 h1 h2 h3 h4 h5 x1 h7 h8 hs)) ∧ (((x = (7 : Int)) → (Sm (some ([[I 0, I 0, I 0, I 0, I 0, I 0, I 0, I 0, I 0, I 0]]))) ∧ (Inv h0 h1 h2 h3 h4 h5 h6 x1 h8 hs)) ∧ (((x = (8 : Int)) → (Sm (some ([[I 0, I 0, I 0, I 0, I 0, I 0, I 0, I 0, I 0, I 0]]))) ∧ (Inv h0 h1 h2 h3 h4 h5 h6 h7 x1 hs)) ∧ True)))))))))))) ∧ (((x = (5 : Int)) → Cl Tryd.prog 155 sP [I h5, I 1] (fun rs2 => ∃ x1, (rs2 = [I x1]) ∧ ((((0 : Int) ≤ x) ∧ (x < ((9 : Int)))) ∧ (((x = (0 : Int)) → (Sm (some ([[I 0, I 0, I 0, I 0, I 0, I 0, I 0, I 0, I 0, I 0]]))) ∧ (Inv x1 h1 h2 h3 h4 h5 h6 h7 h8 hs)) ∧ (((x = (1 : Int)) → (Sm (some ([[I 0, I 0, I 0, I 0, I 0, I 0, I 0, I 0, I 0, I 0]]))) ∧ (Inv h0 x1 h2 h3 h4 h5 h6 h7 h8 hs)) ∧ (((x = (2 : Int)) → (Sm (some ([[I 0, I 0, I 0, I 0, I 0, I 0, I 0, I 0, I 0, I 0]]))) ∧ (Inv h0 h1 x1 h3 h4 h5 h6 h7 h8 hs)) ∧ (((x = (3 : Int)) → (Sm (some ([[I 0, I 0, I 0, I 0, I 0, I 0, I 0, I 0, I 0, I 0]]))) ∧ (Inv h0 h1 h2 x1 h4 h5 h6 h7 h8 hs)) ∧ (((x = (4 : Int)) → (Sm (some ([[I 0, I 0, I 0, I 0, I 0, I 0, I 0, I 0, I 0, I 0]]))) ∧ (Inv h0 h1 h2 h3 x1 h5 h6 h7 h8 hs)) ∧ (((x = (5 : Int)) → (Sm (some ([[I 0, I 0, I 0, I 0, I 0, I 0, I 0, I 0, I 0, I 0]]))) ∧ (Inv h0 h1 h2 h3 h4 x1 h6 h7 h8 hs)) ∧ (((x = (6 : Int)) → (Sm (some ([[I 0, I 0, I 0, I 0, I 0, I 0, I 0, I 0, I 0, I 0]]))) ∧ (Inv h0 h1 h2 h3 h4 h5 x1 h7 h8 hs)) ∧ (((x = (7 : Int)) → (Sm (some ([[I 0, I 0, I 0, I 0, I 0, I 0, I 0, I 0, I 0, I 0]]))) ∧ (Inv h0 h1 h2 h3 h4 h5 h6 x1 h8 hs)) ∧ (((x = (8 : Int)) → (Sm (some ([[I 0, I 0, I 0, I 0, I 0, I 0, I 0, I 0, I 0, I 0]]))) ∧ (Inv h0 h1 h2 h3 h4 h5 h6 h7 x1 hs)) ∧ True)))))))))))) ∧ (((x = (6 : Int)) → Cl Tryd.prog 155 sP [I h6, I 1] (fun rs2 => ∃ x1, (rs2 = [I x1]) ∧ ((((0 : Int) ≤ x) ∧ (x < ((9 : Int)))) ∧ (((x = (0 : Int)) → (Sm (some ([[I 0, I 0, I 0, I 0, I 0, I 0, I 0, I 0, I 0, I 0]]))) ∧ (Inv x1 h1 h2 h3 h4 h5 h6 h7 h8 hs)) ∧ (((x = (1 : Int)) → (Sm (some ([[I 0, I 0, I 0, I 0, I 0, I 0, I 0, I 0, I 0, I 0]]))) ∧ (Inv h0 x1 h2 h3 h4 h5 h6 h7 h8 hs)) ∧ (((x = (2 : Int)) → (Sm (some ([[I 0, I 0, I 0, I 0, I 0, I 0, I 0, I 0, I 0, I 0]]))) ∧ (Inv h0 h1 x1 h3 h4 h5 h6 h7 h8 hs)) ∧ (((x = (3 : Int)) → (Sm (some ([[I 0, I 0, I 0, I 0, I 0, I 0, I 0, I 0, I 0, I 0]]))) ∧ (Inv h0 h1 h2 x1 h4 h5 h6 h7 h8 hs)) ∧ (((x = (4 : Int)) → (Sm (some ([[I 0, I 0, I 0, I 0, I 0, I 0, I 0, I 0, I 0, I 0]]))) ∧ (Inv h0 h1 h2 h3 x1 h5 h6 h7 h8 hs)) ∧ (((x = (5 : Int)) → (Sm (some ([[I 0, I 0, I 0, I 0, I 0, I 0, I 0, I 0, I 0, I 0]]))) ∧ (Inv h0 h1 h2 h3 h4 x1 h6 h7 h8 hs)) ∧ (((x = (6 : Int)) → (Sm (some ([[I 0, I 0, I 0, I 0, I 0, I 0, I 0, I 0, I 0, I 0]]))) ∧ (Inv h0 h1 h2 h3 h4 h5 x1 h7 h8 hs)) ∧ (((x = (7 : Int)) → (Sm (some ([[I 0, I 0, I 0, I 0, I 0, I 0, I 0, I 0, I 0, I 0]]))) ∧ (Inv h0 h1 h2 h3 h4 h5 h6 x1 h8 hs)) ∧ (((x = (8 : Int)) → (Sm (some ([[I 0, I 0, I 0, I 0, I 0, I 0, I 0, I 0, I 0, I 0]]))) ∧ (Inv h0 h1 h2 h3 h4 h5 h6 h7 x1 hs)) ∧ True)))))))))))) ∧ (((x = (7 : Int)) → Cl Tryd.prog 155 sP [I h7, I 1] (fun rs2 => ∃ x1, (rs2 = [I x1]) ∧ ((((0 : Int) ≤ x) ∧ (x < ((9 : Int)))) ∧ (((x = (0 : Int)) → (Sm (some ([[I 0, I 0, I 0, I 0, I 0, I 0, I 0, I 0, I 0, I 0]]))) ∧ (Inv x1 h1 h2 h3 h4 h5 h6 h7 h8 hs)) ∧ (((x = (1 : Int)) → (Sm (some ([[I 0, I 0, I 0, I 0, I 0, I 0, I 0, I 0, I 0, I 0]]))) ∧ (Inv h0 x1 h2 h3 h4 h5 h6 h7 h8 hs)) ∧ (((x = (2 : Int)) → (Sm (some ([[I 0, I 0, I 0, I 0, I 0, I 0, I 0, I 0, I 0, I 0]]))) ∧ (Inv h0 h1 x1 h3 h4 h5 h6 h7 h8 hs)) ∧ (((x = (3 : Int)) → (Sm (some ([[I 0, I 0, I 0, I 0, I 0, I 0, I 0, I 0, I 0, I 0]]))) ∧ (Inv h0 h1 h2 x1 h4 h5 h6 h7 h8 hs)) ∧ (((x = (4 : Int)) → (Sm (some ([[I 0, I 0, I 0, I 0, I 0, I 0, I 0, I 0, I 0, I 0]]))) ∧ (Inv h0 h1 h2 h3 x1 h5 h6 h7 h8 hs)) ∧ (((x = (5 : Int)) → (Sm (some ([[I 0, I 0, I 0, I 0, I 0, I 0, I 0, I 0, I 0, I 0]]))) ∧ (Inv h0 h1 h2 h3 h4 x1 h6 h7 h8 hs)) ∧ (((x = (6 : Int)) → (Sm (some ([[I 0, I 0, I 0, I 0, I 0, I 0, I 0, I 0, I 0, I 0]]))) ∧ (Inv h0 h1 h2 h3 h4 h5 x1 h7 h8 hs)) ∧ (((x = (7 : Int)) → (Sm (some ([[I 0, I 0, I 0, I 0, I 0, I 0, I 0, I 0, I 0, I 0]]))) ∧ (Inv h0 h1 h2 h3 h4 h5 h6 x1 h8 hs)) ∧ (((x = (8 : Int)) → (Sm (some ([[I 0, I 0, I 0, I 0, I 0, I 0, I 0, I 0, I 0, I 0]]))) ∧ (Inv h0 h1 h2 h3 h4 h5 h6 h7 x1 hs)) ∧ True)))))))))))) ∧ (((x = (8 : Int)) → Cl Tryd.prog 155 sP [I h8, I 1] (fun rs2 => ∃ x1, (rs2 = [I x1]) ∧ ((((0 : Int) ≤ x) ∧ (x < ((9 : Int)))) ∧ (((x = (0 : Int)) → (Sm (some ([[I 0, I 0, I 0, I 0, I 0, I 0, I 0, I 0, I 0, I 0]]))) ∧ (Inv x1 h1 h2 h3 h4 h5 h6 h7 h8 hs)) ∧ (((x = (1 : Int)) → (Sm (some ([[I 0, I 0, I 0, I 0, I 0, I 0, I 0, I 0, I 0, I 0]]))) ∧ (Inv h0 x1 h2 h3 h4 h5 h6 h7 h8 hs)) ∧ (((x = (2 : Int)) → (Sm (some ([[I 0, I 0, I 0, I 0, I 0, I 0, I 0, I 0, I 0, I 0]]))) ∧ (Inv h0 h1 x1 h3 h4 h5 h6 h7 h8 hs)) ∧ (((x = (3 : Int)) → (Sm (some ([[I 0, I 0, I 0, I 0, I 0, I 0, I 0, I 0, I 0, I 0]]))) ∧ (Inv h0 h1 h2 x1 h4 h5 h6 h7 h8 hs)) ∧ (((x = (4 : Int)) → (Sm (some ([[I 0, I 0, I 0, I 0, I 0, I 0, I 0, I 0, I 0, I 0]]))) ∧ (Inv h0 h1 h2 h3 x1 h5 h6 h7 h8 hs)) ∧ (((x = (5 : Int)) → (Sm (some ([[I 0, I 0, I 0, I 0, I 0, I 0, I 0, I 0, I 0, I 0]]))) ∧ (Inv h0 h1 h2 h3 h4 x1 h6 h7 h8 hs)) ∧ (((x = (6 : Int)) → (Sm (some ([[I 0, I 0, I 0, I 0, I 0, I 0, I 0, I 0, I 0, I 0]]))) ∧ (Inv h0 h1 h2 h3 h4 h5 x1 h7 h8 hs)) ∧ (((x = (7 : Int)) → (Sm (some ([[I 0, I 0, I 0, I 0, I 0, I 0, I 0, I 0, I 0, I 0]]))) ∧ (Inv h0 h1 h2 h3 h4 h5 h6 x1 h8 hs)) ∧ (((x = (8 : Int)) → (Sm (some ([[I 0, I 0, I 0, I 0, I 0, I 0, I 0, I 0, I 0, I 0]]))) ∧ (Inv h0 h1 h2 h3 h4 h5 h6 h7 x1 hs)) ∧ True)))))))))))) ∧ True)))))))))) ∧ (∀ x1 x2, ∀ x3 x4, ∀ x5 x6, ∀ x7 x8, ∀ x9 x10, (Inv x1 x2 x3 x4 x5 x6 x7 x8 x9 x10) → Cl Tryd.prog 155 sP [I x10, I n] (fun rs2 => ∃ x11, (rs2 = [I x11]) ∧ (Q ([SV.agg [I x1, I x2, I x3, I x4, I x5, I x6, I x7, I x8, I x9, I x11]])))))))))) : Ct Tryd.prog 116 {} [his10 h0 h1 h2 h3 h4 h5 h6 h7 h8 hs, I n] Q :=
 fn_of (f := 116) SgT SvT (fun k => bif Nat.beq k 1000004 then some { boxes := [(256,[.int .i64,.int .i64,.int .i64,.int .i64,.int .i64,.int .i64,.int .i64,.int .i64,.int .i64,.int .i64])], fixed := [512] } else none) Tryd.f116 Tryd.func116 (by kernel_rfl) (by kernel_rfl) h

theorem pright_nf (nm : ByteArray) (ro mo wd sl : Int) (cl : LL) (h0 h1 h2 h3 h4 h5 h6 h7 h8 hs rm ha c0 c1 c2 : Int) (Q : List SV → Prop) (h : Cl Tryd.prog 106 sP [S nm] (fun rs => ∃ b, (rs = [B b]) ∧ (ifB (bnot b) (Q [B false]) (∃ Inv : Int → Prop, ∃ m : Int → Nat, (Inv 0) ∧ (∀ x, (Inv x) → ifB (ilt x 3) ((((0 : Int) ≤ x) ∧ (x < ((3 : Int)))) ∧ (((x = (0 : Int)) → Cl Tryd.prog 158 sP [I c0] (fun rs1 => ∃ x1, (rs1 = [I x1]) ∧ (ifB (ine c0 x1) (Q [B false]) ((Sm (some ([[S nm, I ro, I mo, I wd, I sl, SL 2 cl, I h0, I h1, I h2, I h3, I h4, I h5, I h6, I h7, I h8, I hs, I rm, I ha, I c0, I c1, I c2]]))) ∧ ((Inv (wadd .i64 x 1)) ∧ (Nat.le (Nat.succ (m (wadd .i64 x 1))) (m x))))))) ∧ (((x = (1 : Int)) → Cl Tryd.prog 158 sP [I c1] (fun rs1 => ∃ x1, (rs1 = [I x1]) ∧ (ifB (ine c1 x1) (Q [B false]) ((Sm (some ([[S nm, I ro, I mo, I wd, I sl, SL 2 cl, I h0, I h1, I h2, I h3, I h4, I h5, I h6, I h7, I h8, I hs, I rm, I ha, I c0, I c1, I c2]]))) ∧ ((Inv (wadd .i64 x 1)) ∧ (Nat.le (Nat.succ (m (wadd .i64 x 1))) (m x))))))) ∧ (((x = (2 : Int)) → Cl Tryd.prog 158 sP [I c2] (fun rs1 => ∃ x1, (rs1 = [I x1]) ∧ (ifB (ine c2 x1) (Q [B false]) ((Sm (some ([[S nm, I ro, I mo, I wd, I sl, SL 2 cl, I h0, I h1, I h2, I h3, I h4, I h5, I h6, I h7, I h8, I hs, I rm, I ha, I c0, I c1, I c2]]))) ∧ ((Inv (wadd .i64 x 1)) ∧ (Nat.le (Nat.succ (m (wadd .i64 x 1))) (m x))))))) ∧ True)))) (ifB (ieq ro 1) (ifB (bpick (ige mo 0) (ile mo 2) false) (Cl Tryd.prog 159 sP ([SV.agg [I wd, I sl, SL 2 cl]]) (fun rs1 => ∃ b1, (rs1 = [B b1]) ∧ (ifB (bpick true b1 false) (Cl Tryd.prog 156 sP ([SV.agg [I h0, I h1, I h2, I h3, I h4, I h5, I h6, I h7, I h8, I hs]]) (fun rs2 => ∃ b2, (rs2 = [B b2]) ∧ (Q [B (bpick (bpick true b2 false) (band (ieq rm 0) (band (ieq ha 0) true)) false)]))) (Q [B (bpick false (band (ieq rm 0) (band (ieq ha 0) true)) false)])))) (Q [B (bpick false (band (ieq rm 0) (band (ieq ha 0) true)) false)])) (ifB (ieq ro 2) (ifB (ieq mo 0) (Cl Tryd.prog 160 sP ([SV.agg [I wd, I sl, SL 2 cl]]) (fun rs1 => ∃ b1, (rs1 = [B b1]) ∧ (ifB (bpick (bpick true b1 false) (band (band (ieq h0 0) (band (ieq h1 0) (band (ieq h2 0) (band (ieq h3 0) (band (ieq h4 0) (band (ieq h5 0) (band (ieq h6 0) (band (ieq h7 0) (band (ieq h8 0) true))))))))) (band (ieq hs 0) true)) false) (Cl Tryd.prog 151 sP ([SV.agg [I rm, I ha]]) (fun rs2 => ∃ b2, (rs2 = [B b2]) ∧ (Q [B (bpick true b2 false)]))) (Q [B false])))) (ifB (bpick false (band (band (ieq h0 0) (band (ieq h1 0) (band (ieq h2 0) (band (ieq h3 0) (band (ieq h4 0) (band (ieq h5 0) (band (ieq h6 0) (band (ieq h7 0) (band (ieq h8 0) true))))))))) (band (ieq hs 0) true)) false) (Cl Tryd.prog 151 sP ([SV.agg [I rm, I ha]]) (fun rs1 => ∃ b1, (rs1 = [B b1]) ∧ (Q [B (bpick true b1 false)]))) (Q [B false]))) (ifB (ieq ro 3) (ifB (bpick (ige mo 0) (ile mo 2147483647) false) (Cl Tryd.prog 160 sP ([SV.agg [I wd, I sl, SL 2 cl]]) (fun rs1 => ∃ b1, (rs1 = [B b1]) ∧ (ifB (bpick true b1 false) (Cl Tryd.prog 156 sP ([SV.agg [I h0, I h1, I h2, I h3, I h4, I h5, I h6, I h7, I h8, I hs]]) (fun rs2 => ∃ b2, (rs2 = [B b2]) ∧ (ifB (bpick true b2 false) (Cl Tryd.prog 151 sP ([SV.agg [I rm, I ha]]) (fun rs3 => ∃ b3, (rs3 = [B b3]) ∧ (Q [B (bpick true b3 false)]))) (Q [B false])))) (Q [B false])))) (Q [B false])) (Q [B false]))))))))) : Ct Tryd.prog 120 {} [cmp21 nm ro mo wd sl cl h0 h1 h2 h3 h4 h5 h6 h7 h8 hs rm ha c0 c1 c2] Q :=
 fn_of (f := 120) SgT SvT (fun k => bif Nat.beq k 12 then some { slots := [(11,false,[.int .i64])], fixed := [128] } else none) Tryd.f120 Tryd.func120 (by kernel_rfl) (by kernel_rfl) h

theorem pnew_nf (nm : ByteArray) (ro at_ : Int) (Q : List SV → Prop) (h : Cl Tryd.prog 106 sP [S nm] (fun rs => ∃ b, (rs = [B b]) ∧ (ifB (bnot b) (Q ([SV.agg ([S (ByteArray.mk (Array.mk [])), I 0, I 0, I 0, I 0, SL 2 [], I 0, I 0, I 0, I 0, I 0, I 0, I 0, I 0, I 0, I 0, I 0, I 0, I 0, I 0, I 0]), I 3])) (ifB (bpick (ilt ro 1) true (igt ro 3)) (Q ([SV.agg ([S (ByteArray.mk (Array.mk [])), I 0, I 0, I 0, I 0, SL 2 [], I 0, I 0, I 0, I 0, I 0, I 0, I 0, I 0, I 0, I 0, I 0, I 0, I 0, I 0, I 0]), I 4])) (ifB (bpick (ilt at_ 0) true (igt at_ 1099511627776)) (Q ([SV.agg ([S (ByteArray.mk (Array.mk [])), I 0, I 0, I 0, I 0, SL 2 [], I 0, I 0, I 0, I 0, I 0, I 0, I 0, I 0, I 0, I 0, I 0, I 0, I 0, I 0, I 0]), I 5])) (ifB (ieq ro 1) (Cl Tryd.prog 107 sP [I 10, I 4, I at_] (fun rs1 => ∃ x x1, ∃ l x2, (rs1 = [SV.agg [I x, I x1, SL 2 l], I x2]) ∧ (Q ([SV.agg [S nm, I ro, I 0, I x, I x1, SL 2 l, I 0, I 0, I 0, I 0, I 0, I 0, I 0, I 0, I 0, I 0, I 0, I 0, I 0, I 0, I 0], I 0])))) (Cl Tryd.prog 108 sP [I 10, I 10] (fun rs1 => ∃ x x1 x2, (rs1 = [SV.agg [I x, I x1], I x2]) ∧ (Q ([SV.agg ([S nm, I ro, I 0, I 0, I 0, SL 2 [], I 0, I 0, I 0, I 0, I 0, I 0, I 0, I 0, I 0, I 0, I x, I x1, I 0, I 0, I 0]), I 0])))))))))) : Ct Tryd.prog 52 {} [S nm, I ro, I at_] Q :=
 fn_of (f := 52) SgT SvT (fun _ => none) Tryd.f52 Tryd.func52 (by kernel_rfl) (by kernel_rfl) h

theorem pmay_nf (nm : ByteArray) (ro mo wd sl : Int) (cl : LL) (h0 h1 h2 h3 h4 h5 h6 h7 h8 hs rm ha c0 c1 c2 : Int) (s a k : Int) (c : ByteArray) (x y z : Int) (Q : List SV → Prop) (h : Cl Tryd.prog 120 sP ([SV.agg [S nm, I ro, I mo, I wd, I sl, SL 2 cl, I h0, I h1, I h2, I h3, I h4, I h5, I h6, I h7, I h8, I hs, I rm, I ha, I c0, I c1, I c2]]) (fun rs => ∃ b, (rs = [B b]) ∧ (ifB (bnot b) (Q [I 1]) (Cl Tryd.prog 104 sP ([SV.agg [I s, I a, I k, S c, I x, I y, I z]]) (fun rs1 => ∃ x1, (rs1 = [I x1]) ∧ (ifB (ine x1 0) (Q [I x1]) (Cl Tryd.prog 148 sP [I k] (fun rs2 => ∃ x2, (rs2 = [I x2]) ∧ (ifB (sne c nm) (Q [I 6]) (ifB (ieq k 1) (Q [I 7]) (ifB (bpick (ine x2 0) (ine x2 ro) false) (Q [I 8]) (ifB (ieq k 2) (Cl Tryd.prog 149 sP ([I ro, SV.agg [I s, I a, I k, S c, I x, I y, I z]]) (fun rs3 => ∃ b1, (rs3 = [B b1]) ∧ (ifB (bpick true (bnot b1) false) (Q [I 4]) (Q [I 0])))) (Q [I 0]))))))))))))) : Ct Tryd.prog 105 {} [cmp21 nm ro mo wd sl cl h0 h1 h2 h3 h4 h5 h6 h7 h8 hs rm ha c0 c1 c2, ev7 s a k c x y z] Q :=
 fn_of (f := 105) SgT SvT (fun _ => none) Tryd.f105 Tryd.func105 (by kernel_rfl) (by kernel_rfl) h

theorem config_nf (nm : ByteArray) (ro mo wd sl : Int) (cl : LL) (h0 h1 h2 h3 h4 h5 h6 h7 h8 hs rm ha c0 c1 c2 : Int) (s a k : Int) (c : ByteArray) (x y z : Int) (Q : List SV → Prop) (h : ifB (ieq ro 1) (Cl Tryd.prog 107 sP [I x, I y, I a] (fun rs => ∃ x1 x2, ∃ l x3, (rs = [SV.agg [I x1, I x2, SL 2 l], I x3]) ∧ (Q ([SV.agg [S nm, I ro, I mo, I x1, I x2, SL 2 l, I h0, I h1, I h2, I h3, I h4, I h5, I h6, I h7, I h8, I hs, I rm, I ha, I c0, I c1, I c2]])))) (ifB (ieq ro 2) (Cl Tryd.prog 108 sP [I x, I y] (fun rs => ∃ x1 x2 x3, (rs = [SV.agg [I x1, I x2], I x3]) ∧ (Q ([SV.agg [S nm, I ro, I mo, I wd, I sl, SL 2 cl, I h0, I h1, I h2, I h3, I h4, I h5, I h6, I h7, I h8, I hs, I x1, I x2, I c0, I c1, I c2]])))) (ifB (ieq ro 3) (Cl Tryd.prog 108 sP [I x, I x] (fun rs => ∃ x1 x2 x3, (rs = [SV.agg [I x1, I x2], I x3]) ∧ (Q ([SV.agg [S nm, I ro, I mo, I wd, I sl, SL 2 cl, I h0, I h1, I h2, I h3, I h4, I h5, I h6, I h7, I h8, I hs, I x1, I x2, I c0, I c1, I c2]])))) (Q ([SV.agg [S nm, I ro, I mo, I wd, I sl, SL 2 cl, I h0, I h1, I h2, I h3, I h4, I h5, I h6, I h7, I h8, I hs, I rm, I ha, I c0, I c1, I c2]]))))) : Ct Tryd.prog 114 {} [cmp21 nm ro mo wd sl cl h0 h1 h2 h3 h4 h5 h6 h7 h8 hs rm ha c0 c1 c2, ev7 s a k c x y z] Q :=
 fn_of (f := 114) SgT SvT (fun _ => none) Tryd.f114 Tryd.func114 (by kernel_rfl) (by kernel_rfl) h

theorem qshort_nf (nm : ByteArray) (ro mo wd sl : Int) (cl : LL) (h0 h1 h2 h3 h4 h5 h6 h7 h8 hs rm ha c0 c1 c2 : Int) (Q : List SV → Prop) (h : Q [B (bpick (ile (slen nm) 100) (ile (rlen cl) 40) false)]) : Ct Tryd.prog 49 {} [cmp21 nm ro mo wd sl cl h0 h1 h2 h3 h4 h5 h6 h7 h8 hs rm ha c0 c1 c2] Q :=
 fn_of (f := 49) SgT SvT (fun _ => none) Tryd.f49 Tryd.func49 (by kernel_rfl) (by kernel_rfl) h


theorem ptell_nf (nm : ByteArray) (ro mo wd sl : Int) (cl : LL) (h0 h1 h2 h3 h4 h5 h6 h7 h8 hs rm ha c0 c1 c2 : Int) (s a k : Int) (c : ByteArray) (x y z : Int) (Q : List SV → Prop) (h : Cl Tryd.prog 105 sP ([SV.agg [S nm, I ro, I mo, I wd, I sl, SL 2 cl, I h0, I h1, I h2, I h3, I h4, I h5, I h6, I h7, I h8, I hs, I rm, I ha, I c0, I c1, I c2], SV.agg [I s, I a, I k, S c, I x, I y, I z]]) (fun rs => ∃ x1, (rs = [I x1]) ∧ (ifB (ine x1 0) (Q ([SV.agg [S nm, I ro, I mo, I wd, I sl, SL 2 cl, I h0, I h1, I h2, I h3, I h4, I h5, I h6, I h7, I h8, I hs, I rm, I ha, I c0, I c1, I c2], I x1])) (ifB (ieq k 2) (Cl Tryd.prog 114 sP ([SV.agg [S nm, I ro, I mo, I wd, I sl, SL 2 cl, I h0, I h1, I h2, I h3, I h4, I h5, I h6, I h7, I h8, I hs, I rm, I ha, I c0, I c1, I c2], SV.agg [I s, I a, I k, S c, I x, I y, I z]]) (fun rs1 => ∃ s1 x2, ∃ x3 x4, ∃ x5 l, ∃ x6 x7, ∃ x8 x9, ∃ x10 x11, ∃ x12 x13, ∃ x14 x15, ∃ x16 x17, ∃ x18 x19 x20, (rs1 = [SV.agg [S s1, I x2, I x3, I x4, I x5, SL 2 l, I x6, I x7, I x8, I x9, I x10, I x11, I x12, I x13, I x14, I x15, I x16, I x17, I x18, I x19, I x20]]) ∧ (Q ([SV.agg [S s1, I x2, I x3, I x4, I x5, SL 2 l, I x6, I x7, I x8, I x9, I x10, I x11, I x12, I x13, I x14, I x15, I x16, I x17, I x18, I x19, I x20], I 0])))) (ifB (ieq k 3) (Cl Tryd.prog 115 sP ([SV.agg [I wd, I sl, SL 2 cl], I a, B (ieq x 0)]) (fun rs1 => ∃ x2 x3, ∃ l x4, (rs1 = [SV.agg [I x2, I x3, SL 2 l], I x4]) ∧ (Cl Tryd.prog 116 sP ([SV.agg [I h0, I h1, I h2, I h3, I h4, I h5, I h6, I h7, I h8, I hs], I y]) (fun rs2 => ∃ x5 x6, ∃ x7 x8, ∃ x9 x10, ∃ x11 x12, ∃ x13 x14, (rs2 = [SV.agg [I x5, I x6, I x7, I x8, I x9, I x10, I x11, I x12, I x13, I x14]]) ∧ (Cl Tryd.prog 117 sP ([SV.agg [S nm, I ro, I mo, I x2, I x3, SL 2 l, I x5, I x6, I x7, I x8, I x9, I x10, I x11, I x12, I x13, I x14, I rm, I ha, I c0, I c1, I c2], I x]) (fun rs3 => ∃ s1 x15, ∃ x16 x17, ∃ x18 l1, ∃ x19 x20, ∃ x21 x22, ∃ x23 x24, ∃ x25 x26, ∃ x27 x28, ∃ x29 x30, ∃ x31 x32 x33, (rs3 = [SV.agg [S s1, I x15, I x16, I x17, I x18, SL 2 l1, I x19, I x20, I x21, I x22, I x23, I x24, I x25, I x26, I x27, I x28, I x29, I x30, I x31, I x32, I x33]]) ∧ (Q ([SV.agg [S s1, I x15, I x16, I x17, I x18, SL 2 l1, I x19, I x20, I x21, I x22, I x23, I x24, I x25, I x26, I x27, I x28, I x29, I x30, I x31, I x32, I x33], I 0])))))))) (ifB (ieq k 4) (ifB (ieq x 0) (Cl Tryd.prog 107 sP [I wd, I (rlen cl), I a] (fun rs1 => ∃ x2 x3, ∃ l x4, (rs1 = [SV.agg [I x2, I x3, SL 2 l], I x4]) ∧ (Q ([SV.agg [S nm, I ro, I x, I x2, I x3, SL 2 l, I h0, I h1, I h2, I h3, I h4, I h5, I h6, I h7, I h8, I hs, I rm, I ha, I c0, I c1, I c2], I 0])))) (Q ([SV.agg [S nm, I ro, I x, I wd, I sl, SL 2 cl, I h0, I h1, I h2, I h3, I h4, I h5, I h6, I h7, I h8, I hs, I rm, I ha, I c0, I c1, I c2], I 0]))) (ifB (ieq k 5) (Cl Tryd.prog 118 sP ([SV.agg [I rm, I ha], I x]) (fun rs1 => ∃ x2 x3 b, (rs1 = [SV.agg [I x2, I x3], B b]) ∧ (Cl Tryd.prog 117 sP ([SV.agg [S nm, I ro, I mo, I wd, I sl, SL 2 cl, I h0, I h1, I h2, I h3, I h4, I h5, I h6, I h7, I h8, I hs, I x2, I x3, I c0, I c1, I c2], I 0]) (fun rs2 => ∃ s1 x4, ∃ x5 x6, ∃ x7 l, ∃ x8 x9, ∃ x10 x11, ∃ x12 x13, ∃ x14 x15, ∃ x16 x17, ∃ x18 x19, ∃ x20 x21 x22, (rs2 = [SV.agg [S s1, I x4, I x5, I x6, I x7, SL 2 l, I x8, I x9, I x10, I x11, I x12, I x13, I x14, I x15, I x16, I x17, I x18, I x19, I x20, I x21, I x22]]) ∧ (Q ([SV.agg [S s1, I x4, I x5, I x6, I x7, SL 2 l, I x8, I x9, I x10, I x11, I x12, I x13, I x14, I x15, I x16, I x17, I x18, I x19, I x20, I x21, I x22], I 0])))))) (ifB (ieq k 6) (Cl Tryd.prog 117 sP ([SV.agg [S nm, I ro, I mo, I wd, I sl, SL 2 cl, I h0, I h1, I h2, I h3, I h4, I h5, I h6, I h7, I h8, I hs, I rm, I ha, I c0, I c1, I c2], I 1]) (fun rs1 => ∃ s1 x2, ∃ x3 x4, ∃ x5 l, ∃ x6 x7, ∃ x8 x9, ∃ x10 x11, ∃ x12 x13, ∃ x14 x15, ∃ x16 x17, ∃ x18 x19 x20, (rs1 = [SV.agg [S s1, I x2, I x3, I x4, I x5, SL 2 l, I x6, I x7, I x8, I x9, I x10, I x11, I x12, I x13, I x14, I x15, I x16, I x17, I x18, I x19, I x20]]) ∧ (Q ([SV.agg [S s1, I x2, I x3, I x4, I x5, SL 2 l, I x6, I x7, I x8, I x9, I x10, I x11, I x12, I x13, I x14, I x15, I x16, I x17, I x18, I x19, I x20], I 0])))) (ifB (ieq k 7) (Cl Tryd.prog 119 sP ([SV.agg [I rm, I ha], I x]) (fun rs1 => ∃ x2 x3, (rs1 = [SV.agg [I x2, I x3]]) ∧ (Cl Tryd.prog 117 sP ([SV.agg [S nm, I ro, I mo, I wd, I sl, SL 2 cl, I h0, I h1, I h2, I h3, I h4, I h5, I h6, I h7, I h8, I hs, I x2, I x3, I c0, I c1, I c2], I 2]) (fun rs2 => ∃ s1 x4, ∃ x5 x6, ∃ x7 l, ∃ x8 x9, ∃ x10 x11, ∃ x12 x13, ∃ x14 x15, ∃ x16 x17, ∃ x18 x19, ∃ x20 x21 x22, (rs2 = [SV.agg [S s1, I x4, I x5, I x6, I x7, SL 2 l, I x8, I x9, I x10, I x11, I x12, I x13, I x14, I x15, I x16, I x17, I x18, I x19, I x20, I x21, I x22]]) ∧ (Q ([SV.agg [S s1, I x4, I x5, I x6, I x7, SL 2 l, I x8, I x9, I x10, I x11, I x12, I x13, I x14, I x15, I x16, I x17, I x18, I x19, I x20, I x21, I x22], I 0])))))) (ifB (ieq k 8) (Cl Tryd.prog 118 sP ([SV.agg [I rm, I ha], I 1]) (fun rs1 => ∃ x2 x3 b, (rs1 = [SV.agg [I x2, I x3], B b]) ∧ (Cl Tryd.prog 117 sP ([SV.agg [S nm, I ro, I x, I wd, I sl, SL 2 cl, I h0, I h1, I h2, I h3, I h4, I h5, I h6, I h7, I h8, I hs, I x2, I x3, I c0, I c1, I c2], I 0]) (fun rs2 => ∃ s1 x4, ∃ x5 x6, ∃ x7 l, ∃ x8 x9, ∃ x10 x11, ∃ x12 x13, ∃ x14 x15, ∃ x16 x17, ∃ x18 x19, ∃ x20 x21 x22, (rs2 = [SV.agg [S s1, I x4, I x5, I x6, I x7, SL 2 l, I x8, I x9, I x10, I x11, I x12, I x13, I x14, I x15, I x16, I x17, I x18, I x19, I x20, I x21, I x22]]) ∧ (Q ([SV.agg [S s1, I x4, I x5, I x6, I x7, SL 2 l, I x8, I x9, I x10, I x11, I x12, I x13, I x14, I x15, I x16, I x17, I x18, I x19, I x20, I x21, I x22], I 0])))))) (ifB (ieq k 9) (Cl Tryd.prog 116 sP ([SV.agg [I h0, I h1, I h2, I h3, I h4, I h5, I h6, I h7, I h8, I hs], I x]) (fun rs1 => ∃ x2 x3, ∃ x4 x5, ∃ x6 x7, ∃ x8 x9, ∃ x10 x11, (rs1 = [SV.agg [I x2, I x3, I x4, I x5, I x6, I x7, I x8, I x9, I x10, I x11]]) ∧ (Cl Tryd.prog 117 sP ([SV.agg [S nm, I ro, I mo, I wd, I sl, SL 2 cl, I x2, I x3, I x4, I x5, I x6, I x7, I x8, I x9, I x10, I x11, I rm, I ha, I c0, I c1, I c2], I 1]) (fun rs2 => ∃ s1 x12, ∃ x13 x14, ∃ x15 l, ∃ x16 x17, ∃ x18 x19, ∃ x20 x21, ∃ x22 x23, ∃ x24 x25, ∃ x26 x27, ∃ x28 x29 x30, (rs2 = [SV.agg [S s1, I x12, I x13, I x14, I x15, SL 2 l, I x16, I x17, I x18, I x19, I x20, I x21, I x22, I x23, I x24, I x25, I x26, I x27, I x28, I x29, I x30]]) ∧ (Q ([SV.agg [S s1, I x12, I x13, I x14, I x15, SL 2 l, I x16, I x17, I x18, I x19, I x20, I x21, I x22, I x23, I x24, I x25, I x26, I x27, I x28, I x29, I x30], I 0])))))) (ifB (ieq k 10) (Cl Tryd.prog 117 sP ([SV.agg [S nm, I ro, I 0, I wd, I sl, SL 2 cl, I h0, I h1, I h2, I h3, I h4, I h5, I h6, I h7, I h8, I hs, I rm, I ha, I c0, I c1, I c2], I 2]) (fun rs1 => ∃ s1 x2, ∃ x3 x4, ∃ x5 l, ∃ x6 x7, ∃ x8 x9, ∃ x10 x11, ∃ x12 x13, ∃ x14 x15, ∃ x16 x17, ∃ x18 x19 x20, (rs1 = [SV.agg [S s1, I x2, I x3, I x4, I x5, SL 2 l, I x6, I x7, I x8, I x9, I x10, I x11, I x12, I x13, I x14, I x15, I x16, I x17, I x18, I x19, I x20]]) ∧ (Q ([SV.agg [S s1, I x2, I x3, I x4, I x5, SL 2 l, I x6, I x7, I x8, I x9, I x10, I x11, I x12, I x13, I x14, I x15, I x16, I x17, I x18, I x19, I x20], I 0])))) (Q ([SV.agg [S nm, I ro, I mo, I wd, I sl, SL 2 cl, I h0, I h1, I h2, I h3, I h4, I h5, I h6, I h7, I h8, I hs, I rm, I ha, I c0, I c1, I c2], I 0])))))))))))))) : Ct Tryd.prog 58 {} [cmp21 nm ro mo wd sl cl h0 h1 h2 h3 h4 h5 h6 h7 h8 hs rm ha c0 c1 c2, ev7 s a k c x y z] Q :=
 fn_of (f := 58) SgT SvT (fun _ => none) Tryd.f58 Tryd.func58 (by kernel_rfl) (by kernel_rfl) h


def holdI (n : Int) : Int := max 0 (min n 1099511627776)
def upI (a b : Int) : Int := holdI (holdI a + holdI b)
def heldP (n : Int) : Prop := 0 ≤ n ∧ n ≤ 1099511627776
instance (n : Int) : Decidable (heldP n) := inferInstanceAs (Decidable (0 ≤ n ∧ n ≤ 1099511627776))
theorem hold_range (n : Int) : 0 ≤ holdI n ∧ holdI n ≤ 1099511627776 := by unfold holdI; omega
theorem hold_held {n : Int} : holdI n = n ↔ heldP n := by unfold holdI heldP; omega
theorem hold_id {n : Int} (h : heldP n) : holdI n = n := hold_held.2 h
theorem up_held (a b : Int) : heldP (upI a b) := hold_range _

theorem hold_fn (n : Int) : Ct Tryd.prog 158 {} [I n] (fun r => r = [I (holdI n)]) := by
 refine hold_nf _ _ ?_
 simp [holdI]
theorem up_fn (a b : Int) : Ct Tryd.prog 155 {} [I a, I b] (fun r => r = [I (upI a b)]) := by
 have h1 := hold_range a
 have h2 := hold_range b
 refine up_nf _ _ _ (Cl.of (hold_fn a) ⟨_, rfl, Cl.of (hold_fn b) ⟨_, rfl, ?_⟩⟩)
 rw [wadd_i64 (by omega) (by omega)]
 exact Cl.of (hold_fn _) ⟨_, rfl, rfl⟩
def bktP (rm ha : Int) : Prop := 0 ≤ rm ∧ rm ≤ 2147483647 ∧ 0 ≤ ha ∧ ha ≤ rm
instance (rm ha : Int) : Decidable (bktP rm ha) := inferInstanceAs (Decidable (_ ∧ _))
theorem bright_fn (rm ha : Int) : Ct Tryd.prog 151 {} [bkt2 rm ha] (fun r => r = [B (decide (bktP rm ha))]) := by
 refine bright_nf _ _ _ ?_
 have : bpick (bpick (bpick (ige rm 0) (ile rm 2147483647) false) (ige ha 0) false) (ile ha rm) false = decide (bktP rm ha) := by
  rw [Bool.eq_iff_iff, decide_eq_true_eq]; unfold bktP; simp; omega
 rw [this]
def bnewR (rm ha : Int) : List SV := if bktP rm ha then [bkt2 rm ha, I 0] else [bkt2 0 0, I 1]
theorem bnew_fn (rm ha : Int) : Ct Tryd.prog 108 {} [I rm, I ha] (fun r => r = bnewR rm ha) := by
 refine bnew_nf _ _ _ (Cl.of (bright_fn rm ha) ⟨_, rfl, ifB_intro (fun h => ?_) (fun h => ?_)⟩)
 ·simp at h; simp [bnewR, h]
 ·simp at h; simp [bnewR, h]
def takeH (rm ha n : Int) : Int := if bktP rm ha ∧ 0 ≤ n then ha - min n ha else ha
def takeB (rm ha n : Int) : Bool := decide ((bktP rm ha ∧ 0 ≤ n) ∧ n ≤ ha)
theorem btake_fn (rm ha n : Int) : Ct Tryd.prog 118 {} [bkt2 rm ha, I n] (fun r => r = [bkt2 rm (takeH rm ha n), B (takeB rm ha n)]) := by
 refine btake_nf _ _ _ _ (Cl.of (bright_fn rm ha) ⟨_, rfl, ifB_intro (fun h => ?_) (fun h => ?_)⟩)
 ·simp only [bor_t, bnot_eq, Bool.not_eq_true', decide_eq_false_iff_not, ilt_eq, decide_eq_true_eq] at h
  have hn : ¬ (bktP rm ha ∧ 0 ≤ n) := fun hh => h.elim (fun h => h hh.1) (fun h => by omega)
  simp [takeH, takeB, hn]
 ·simp only [bor_f, bnot_eq, Bool.not_eq_false', decide_eq_true_eq, ilt_eq, decide_eq_false_iff_not] at h
  have hn : bktP rm ha ∧ 0 ≤ n := ⟨h.1, by omega⟩
  have hb := hn.1
  unfold bktP at hb
  rw [imin_eq, wsub_i64 (by omega) (by omega)]
  simp [takeH, takeB, hn]
def putH (rm ha n : Int) : Int := if bktP rm ha ∧ 0 ≤ n then ha + min n (rm - ha) else ha
theorem bput_fn (rm ha n : Int) : Ct Tryd.prog 119 {} [bkt2 rm ha, I n] (fun r => r = [bkt2 rm (putH rm ha n)]) := by
 refine bput_nf _ _ _ _ (Cl.of (bright_fn rm ha) ⟨_, rfl, ifB_intro (fun h => ?_) (fun h => ?_)⟩)
 ·simp only [bor_t, bnot_eq, Bool.not_eq_true', decide_eq_false_iff_not, ilt_eq, decide_eq_true_eq] at h
  have hn : ¬ (bktP rm ha ∧ 0 ≤ n) := fun hh => h.elim (fun h => h hh.1) (fun h => by omega)
  simp [putH, hn]
 ·simp only [bor_f, bnot_eq, Bool.not_eq_false', decide_eq_true_eq, ilt_eq, decide_eq_false_iff_not] at h
  have hn : bktP rm ha ∧ 0 ≤ n := ⟨h.1, by omega⟩
  have hb := hn.1
  unfold bktP at hb
  rw [imin_eq, wsub_i64 (by omega) (by omega), wadd_i64 (by omega) (by omega)]
  simp [putH, hn]
def bndI (p : Int) : Int := if p = 0 then 1 else if p = 1 then 2 else if p = 2 then 4 else if p = 3 then 8 else if p = 4 then 16 else if p = 5 then 32 else if p = 6 then 64 else if p = 7 then 128 else 0
def hplI (n : Int) : Int := if n ≤ 1 then 0 else if n ≤ 2 then 1 else if n ≤ 4 then 2 else if n ≤ 8 then 3 else if n ≤ 16 then 4 else if n ≤ 32 then 5 else if n ≤ 64 then 6 else if n ≤ 128 then 7 else 8
theorem hpl_range (n : Int) : 0 ≤ hplI n ∧ hplI n < 9 := by
 unfold hplI; repeat' split
 all_goals omega
theorem c8 {p : Int} (h0 : 0 ≤ p) (h1 : p < 8) : p = 0 ∨ p = 1 ∨ p = 2 ∨ p = 3 ∨ p = 4 ∨ p = 5 ∨ p = 6 ∨ p = 7 := by omega
theorem hbound_fn (p : Int) : Ct Tryd.prog 185 {} [I p] (fun r => r = [I (bndI p)]) := by
 refine hbound_nf _ _ (ifB_intro (fun h => ?_) (fun h => ?_))
 ·simp at h
  have : bndI p = 0 := by unfold bndI; repeat' split
                          all_goals omega
  rw [this]
 ·simp at h
  refine ⟨by omega, ?_⟩
  rcases c8 (p := p) (by omega) (by omega) with rfl | rfl | rfl | rfl | rfl | rfl | rfl | rfl <;> rfl
theorem hpl_loop {f : FuncId} (hf : ∀ p, Ct Tryd.prog f {} [I p] (fun r => r = [I (bndI p)])) (n : Int) : ∃ Inv : Int → Int → Prop, ∃ m : Int → Int → Nat, (Inv 0 0) ∧ (∀ x : Int, ∀ x1 : Int, (Inv x x1) → ifB (ilt x1 8) (Cl Tryd.prog f sP [I x1] (fun (rs : List SV) => ∃ x2 : Int, (rs = [I x2]) ∧ (ifB (ile n x2) ([I x1] = [I (hplI n)]) (((Option.some [] : Option (List (List SV))) = Option.some []) ∧ ((Inv x (wadd IntKind.i64 x1 1)) ∧ (Nat.le (Nat.succ (m x (wadd IntKind.i64 x1 1))) (m x x1))))))) ([I 8] = [I (hplI n)])) := by
 refine ⟨fun _ x => 0 ≤ x ∧ x ≤ 8 ∧ (1 ≤ x → 1 < n) ∧ (2 ≤ x → 2 < n) ∧ (3 ≤ x → 4 < n) ∧ (4 ≤ x → 8 < n) ∧ (5 ≤ x → 16 < n) ∧ (6 ≤ x → 32 < n) ∧ (7 ≤ x → 64 < n) ∧ (8 ≤ x → 128 < n), fun _ x => (8 - x).toNat, by omega, ?_⟩
 rintro _ x ⟨h0, h8, g⟩
 refine ifB_intro (fun h => ?_) (fun h => ?_)
 ·simp at h
  rw [wadd_i64 (by omega) (by omega)]
  refine Cl.of (hf x) ⟨_, rfl, ifB_intro (fun hb => ?_) (fun hb => ⟨rfl, ?_, mlt (by dsimp only; omega)⟩)⟩
  ·simp at hb
   have key : hplI n = x := by
    rcases c8 h0 h with rfl | rfl | rfl | rfl | rfl | rfl | rfl | rfl <;> simp [bndI] at hb <;> (unfold hplI; repeat' split) <;> omega
   rw [key]
  ·simp at hb
   rcases c8 h0 h with rfl | rfl | rfl | rfl | rfl | rfl | rfl | rfl <;> simp [bndI] at hb <;> omega
 ·simp at h
  obtain rfl : x = 8 := by omega
  have : hplI n = 8 := by unfold hplI; repeat' split
                          all_goals omega
  rw [this]
theorem hplace_fn (n : Int) : Ct Tryd.prog 157 {} [I n] (fun r => r = [I (hplI n)]) := hplace_nf _ _ (hpl_loop hbound_fn n)
def hisP (h0 h1 h2 h3 h4 h5 h6 h7 h8 hs : Int) : Prop := heldP h0 ∧ heldP h1 ∧ heldP h2 ∧ heldP h3 ∧ heldP h4 ∧ heldP h5 ∧ heldP h6 ∧ heldP h7 ∧ heldP h8 ∧ heldP hs
instance (h0 h1 h2 h3 h4 h5 h6 h7 h8 hs : Int) : Decidable (hisP h0 h1 h2 h3 h4 h5 h6 h7 h8 hs) := inferInstanceAs (Decidable (_ ∧ _))


def hAt (h0 h1 h2 h3 h4 h5 h6 h7 h8 x : Int) : Int := if x = 0 then h0 else if x = 1 then h1 else if x = 2 then h2 else if x = 3 then h3 else if x = 4 then h4 else if x = 5 then h5 else if x = 6 then h6 else if x = 7 then h7 else h8
theorem his_iff {h0 h1 h2 h3 h4 h5 h6 h7 h8 hs : Int} : hisP h0 h1 h2 h3 h4 h5 h6 h7 h8 hs ↔ (∀ i, 0 ≤ i → i < 9 → heldP (hAt h0 h1 h2 h3 h4 h5 h6 h7 h8 i)) ∧ heldP hs := by
 unfold hisP
 constructor
 ·rintro ⟨e0, e1, e2, e3, e4, e5, e6, e7, e8, e⟩
  refine ⟨fun i h1 h2 => ?_, e⟩
  have : i = 0 ∨ i = 1 ∨ i = 2 ∨ i = 3 ∨ i = 4 ∨ i = 5 ∨ i = 6 ∨ i = 7 ∨ i = 8 := by omega
  rcases this with rfl | rfl | rfl | rfl | rfl | rfl | rfl | rfl | rfl <;> assumption
 ·rintro ⟨h, e⟩
  exact ⟨h 0 (by omega) (by omega), h 1 (by omega) (by omega), h 2 (by omega) (by omega), h 3 (by omega) (by omega), h 4 (by omega) (by omega), h 5 (by omega) (by omega), h 6 (by omega) (by omega), h 7 (by omega) (by omega), h 8 (by omega) (by omega), e⟩
theorem held_step {h0 h1 h2 h3 h4 h5 h6 h7 h8 x : Int} (h : ∀ i, 0 ≤ i → i < x → heldP (hAt h0 h1 h2 h3 h4 h5 h6 h7 h8 i)) (hx : heldP (hAt h0 h1 h2 h3 h4 h5 h6 h7 h8 x)) : ∀ i, 0 ≤ i → i < x + 1 → heldP (hAt h0 h1 h2 h3 h4 h5 h6 h7 h8 i) := by
 intro i h1 h2
 by_cases e : i = x
 ·rw [e]; exact hx
 ·exact h i h1 (by omega)

theorem hright_fn (h0 h1 h2 h3 h4 h5 h6 h7 h8 hs : Int) : Ct Tryd.prog 156 {} [his10 h0 h1 h2 h3 h4 h5 h6 h7 h8 hs] (fun r => r = [B (decide (hisP h0 h1 h2 h3 h4 h5 h6 h7 h8 hs))]) := by
 have no : ¬ hisP h0 h1 h2 h3 h4 h5 h6 h7 h8 hs → [B false] = [B (decide (hisP h0 h1 h2 h3 h4 h5 h6 h7 h8 hs))] := fun h => by simp [h]
 refine hright_nf _ _ _ _ _ _ _ _ _ _ _ ⟨fun _ x => 0 ≤ x ∧ x ≤ 9 ∧ ∀ i, 0 ≤ i → i < x → heldP (hAt h0 h1 h2 h3 h4 h5 h6 h7 h8 i), fun _ x => (9 - x).toNat, ⟨by omega, by omega, fun i h1 h2 => by omega⟩, ?_⟩
 rintro b x ⟨x0, x9, hi⟩
 refine ifB_intro (fun h => ?_) (fun h => ?_)
 ·simp at h
  rw [wadd_i64 (by omega) (by omega)]
  have step : ∀ (v : Int) {FX : Prop}, FX → hAt h0 h1 h2 h3 h4 h5 h6 h7 h8 x = v → Cl Tryd.prog 158 sP [I v] (fun (rs : List SV) => ∃ x1 : Int, (rs = [I x1]) ∧ (ifB (ine v x1) ([B false] = [B (decide (hisP h0 h1 h2 h3 h4 h5 h6 h7 h8 hs))]) (FX ∧ ((0 ≤ x + 1 ∧ x + 1 ≤ 9 ∧ ∀ i, 0 ≤ i → i < x + 1 → heldP (hAt h0 h1 h2 h3 h4 h5 h6 h7 h8 i)) ∧ (Nat.le (Nat.succ (9 - (x + 1)).toNat) (9 - x).toNat))))) := by
   intro v FX hFX hv
   refine Cl.of (hold_fn v) ⟨_, rfl, ifB_intro (fun hb => no (fun hh => ?_)) (fun hb => ⟨hFX, ⟨by omega, by omega, held_step hi ?_⟩, mlt (by omega)⟩)⟩
   ·simp at hb
    have := (his_iff.1 hh).1 x x0 h
    rw [hv] at this
    exact hb (hold_id this).symm
   ·simp at hb
    rw [hv]
    exact hold_held.1 hb.symm
  exact ⟨⟨x0, h⟩, fun e => step h0 rfl (by subst e; rfl), fun e => step h1 rfl (by subst e; rfl), fun e => step h2 rfl (by subst e; rfl), fun e => step h3 rfl (by subst e; rfl), fun e => step h4 rfl (by subst e; rfl), fun e => step h5 rfl (by subst e; rfl), fun e => step h6 rfl (by subst e; rfl), fun e => step h7 rfl (by subst e; rfl), fun e => step h8 rfl (by subst e; rfl), trivial⟩
 ·simp at h
  obtain rfl : x = 9 := by omega
  refine Cl.of (hold_fn hs) ⟨_, rfl, ?_⟩
  have e : ieq hs (holdI hs) = decide (hisP h0 h1 h2 h3 h4 h5 h6 h7 h8 hs) := by
   rw [Bool.eq_iff_iff, decide_eq_true_eq, his_iff]
   simp only [ieq_eq, decide_eq_true_eq]
   exact ⟨fun e => ⟨hi, hold_held.1 e.symm⟩, fun e => (hold_id e.2).symm⟩
  rw [e]

def hcI (n k v : Int) : Int := if hplI n = k then upI v 1 else v
def haddS (h0 h1 h2 h3 h4 h5 h6 h7 h8 hs n : Int) : SV := if hisP h0 h1 h2 h3 h4 h5 h6 h7 h8 hs ∧ 0 ≤ n then his10 (hcI n 0 h0) (hcI n 1 h1) (hcI n 2 h2) (hcI n 3 h3) (hcI n 4 h4) (hcI n 5 h5) (hcI n 6 h6) (hcI n 7 h7) (hcI n 8 h8) (upI hs n) else his10 h0 h1 h2 h3 h4 h5 h6 h7 h8 hs

theorem hadd_fn (h0 h1 h2 h3 h4 h5 h6 h7 h8 hs n : Int) : Ct Tryd.prog 116 {} [his10 h0 h1 h2 h3 h4 h5 h6 h7 h8 hs, I n] (fun r => r = [haddS h0 h1 h2 h3 h4 h5 h6 h7 h8 hs n]) := by
 have hx := hpl_range n
 refine hadd_nf _ _ _ _ _ _ _ _ _ _ _ _ (Cl.of (hright_fn h0 h1 h2 h3 h4 h5 h6 h7 h8 hs) ⟨_, rfl, ifB_intro (fun h => ?_) (fun h => ?_)⟩)
 ·simp only [bor_t, bnot_eq, Bool.not_eq_true', decide_eq_false_iff_not, ilt_eq, decide_eq_true_eq] at h
  have hn : ¬ (hisP h0 h1 h2 h3 h4 h5 h6 h7 h8 hs ∧ 0 ≤ n) := fun hh => h.elim (fun h => h hh.1) (fun h => by omega)
  simp [haddS, hn]
 ·simp only [bor_f, bnot_eq, Bool.not_eq_false', decide_eq_true_eq, ilt_eq, decide_eq_false_iff_not] at h
  have hn : hisP h0 h1 h2 h3 h4 h5 h6 h7 h8 hs ∧ 0 ≤ n := ⟨h.1, by omega⟩
  refine Cl.of (hplace_fn n) ⟨_, rfl, fun y0 y1 y2 y3 y4 y5 y6 y7 y8 y9 => y0 = hcI n 0 h0 ∧ y1 = hcI n 1 h1 ∧ y2 = hcI n 2 h2 ∧ y3 = hcI n 3 h3 ∧ y4 = hcI n 4 h4 ∧ y5 = hcI n 5 h5 ∧ y6 = hcI n 6 h6 ∧ y7 = hcI n 7 h7 ∧ y8 = hcI n 8 h8 ∧ y9 = hs, fun _ _ _ _ _ _ _ _ _ _ => 0, ?_, ?_⟩
  ·refine ⟨hx, fun e => Cl.of (up_fn h0 1) ⟨_, rfl, hx, fun _ => ⟨rfl, by rw [hcI, if_pos e], by rw [hcI, if_neg (by rw [e]; decide)], by rw [hcI, if_neg (by rw [e]; decide)], by rw [hcI, if_neg (by rw [e]; decide)], by rw [hcI, if_neg (by rw [e]; decide)], by rw [hcI, if_neg (by rw [e]; decide)], by rw [hcI, if_neg (by rw [e]; decide)], by rw [hcI, if_neg (by rw [e]; decide)], by rw [hcI, if_neg (by rw [e]; decide)], rfl⟩, fun e' => absurd (e.symm.trans e') (by decide), fun e' => absurd (e.symm.trans e') (by decide), fun e' => absurd (e.symm.trans e') (by decide), fun e' => absurd (e.symm.trans e') (by decide), fun e' => absurd (e.symm.trans e') (by decide), fun e' => absurd (e.symm.trans e') (by decide), fun e' => absurd (e.symm.trans e') (by decide), fun e' => absurd (e.symm.trans e') (by decide), trivial⟩, fun e => Cl.of (up_fn h1 1) ⟨_, rfl, hx, fun e' => absurd (e.symm.trans e') (by decide), fun _ => ⟨rfl, by rw [hcI, if_neg (by rw [e]; decide)], by rw [hcI, if_pos e], by rw [hcI, if_neg (by rw [e]; decide)], by rw [hcI, if_neg (by rw [e]; decide)], by rw [hcI, if_neg (by rw [e]; decide)], by rw [hcI, if_neg (by rw [e]; decide)], by rw [hcI, if_neg (by rw [e]; decide)], by rw [hcI, if_neg (by rw [e]; decide)], by rw [hcI, if_neg (by rw [e]; decide)], rfl⟩, fun e' => absurd (e.symm.trans e') (by decide), fun e' => absurd (e.symm.trans e') (by decide), fun e' => absurd (e.symm.trans e') (by decide), fun e' => absurd (e.symm.trans e') (by decide), fun e' => absurd (e.symm.trans e') (by decide), fun e' => absurd (e.symm.trans e') (by decide), fun e' => absurd (e.symm.trans e') (by decide), trivial⟩, fun e => Cl.of (up_fn h2 1) ⟨_, rfl, hx, fun e' => absurd (e.symm.trans e') (by decide), fun e' => absurd (e.symm.trans e') (by decide), fun _ => ⟨rfl, by rw [hcI, if_neg (by rw [e]; decide)], by rw [hcI, if_neg (by rw [e]; decide)], by rw [hcI, if_pos e], by rw [hcI, if_neg (by rw [e]; decide)], by rw [hcI, if_neg (by rw [e]; decide)], by rw [hcI, if_neg (by rw [e]; decide)], by rw [hcI, if_neg (by rw [e]; decide)], by rw [hcI, if_neg (by rw [e]; decide)], by rw [hcI, if_neg (by rw [e]; decide)], rfl⟩, fun e' => absurd (e.symm.trans e') (by decide), fun e' => absurd (e.symm.trans e') (by decide), fun e' => absurd (e.symm.trans e') (by decide), fun e' => absurd (e.symm.trans e') (by decide), fun e' => absurd (e.symm.trans e') (by decide), fun e' => absurd (e.symm.trans e') (by decide), trivial⟩, fun e => Cl.of (up_fn h3 1) ⟨_, rfl, hx, fun e' => absurd (e.symm.trans e') (by decide), fun e' => absurd (e.symm.trans e') (by decide), fun e' => absurd (e.symm.trans e') (by decide), fun _ => ⟨rfl, by rw [hcI, if_neg (by rw [e]; decide)], by rw [hcI, if_neg (by rw [e]; decide)], by rw [hcI, if_neg (by rw [e]; decide)], by rw [hcI, if_pos e], by rw [hcI, if_neg (by rw [e]; decide)], by rw [hcI, if_neg (by rw [e]; decide)], by rw [hcI, if_neg (by rw [e]; decide)], by rw [hcI, if_neg (by rw [e]; decide)], by rw [hcI, if_neg (by rw [e]; decide)], rfl⟩, fun e' => absurd (e.symm.trans e') (by decide), fun e' => absurd (e.symm.trans e') (by decide), fun e' => absurd (e.symm.trans e') (by decide), fun e' => absurd (e.symm.trans e') (by decide), fun e' => absurd (e.symm.trans e') (by decide), trivial⟩, fun e => Cl.of (up_fn h4 1) ⟨_, rfl, hx, fun e' => absurd (e.symm.trans e') (by decide), fun e' => absurd (e.symm.trans e') (by decide), fun e' => absurd (e.symm.trans e') (by decide), fun e' => absurd (e.symm.trans e') (by decide), fun _ => ⟨rfl, by rw [hcI, if_neg (by rw [e]; decide)], by rw [hcI, if_neg (by rw [e]; decide)], by rw [hcI, if_neg (by rw [e]; decide)], by rw [hcI, if_neg (by rw [e]; decide)], by rw [hcI, if_pos e], by rw [hcI, if_neg (by rw [e]; decide)], by rw [hcI, if_neg (by rw [e]; decide)], by rw [hcI, if_neg (by rw [e]; decide)], by rw [hcI, if_neg (by rw [e]; decide)], rfl⟩, fun e' => absurd (e.symm.trans e') (by decide), fun e' => absurd (e.symm.trans e') (by decide), fun e' => absurd (e.symm.trans e') (by decide), fun e' => absurd (e.symm.trans e') (by decide), trivial⟩, fun e => Cl.of (up_fn h5 1) ⟨_, rfl, hx, fun e' => absurd (e.symm.trans e') (by decide), fun e' => absurd (e.symm.trans e') (by decide), fun e' => absurd (e.symm.trans e') (by decide), fun e' => absurd (e.symm.trans e') (by decide), fun e' => absurd (e.symm.trans e') (by decide), fun _ => ⟨rfl, by rw [hcI, if_neg (by rw [e]; decide)], by rw [hcI, if_neg (by rw [e]; decide)], by rw [hcI, if_neg (by rw [e]; decide)], by rw [hcI, if_neg (by rw [e]; decide)], by rw [hcI, if_neg (by rw [e]; decide)], by rw [hcI, if_pos e], by rw [hcI, if_neg (by rw [e]; decide)], by rw [hcI, if_neg (by rw [e]; decide)], by rw [hcI, if_neg (by rw [e]; decide)], rfl⟩, fun e' => absurd (e.symm.trans e') (by decide), fun e' => absurd (e.symm.trans e') (by decide), fun e' => absurd (e.symm.trans e') (by decide), trivial⟩, fun e => Cl.of (up_fn h6 1) ⟨_, rfl, hx, fun e' => absurd (e.symm.trans e') (by decide), fun e' => absurd (e.symm.trans e') (by decide), fun e' => absurd (e.symm.trans e') (by decide), fun e' => absurd (e.symm.trans e') (by decide), fun e' => absurd (e.symm.trans e') (by decide), fun e' => absurd (e.symm.trans e') (by decide), fun _ => ⟨rfl, by rw [hcI, if_neg (by rw [e]; decide)], by rw [hcI, if_neg (by rw [e]; decide)], by rw [hcI, if_neg (by rw [e]; decide)], by rw [hcI, if_neg (by rw [e]; decide)], by rw [hcI, if_neg (by rw [e]; decide)], by rw [hcI, if_neg (by rw [e]; decide)], by rw [hcI, if_pos e], by rw [hcI, if_neg (by rw [e]; decide)], by rw [hcI, if_neg (by rw [e]; decide)], rfl⟩, fun e' => absurd (e.symm.trans e') (by decide), fun e' => absurd (e.symm.trans e') (by decide), trivial⟩, fun e => Cl.of (up_fn h7 1) ⟨_, rfl, hx, fun e' => absurd (e.symm.trans e') (by decide), fun e' => absurd (e.symm.trans e') (by decide), fun e' => absurd (e.symm.trans e') (by decide), fun e' => absurd (e.symm.trans e') (by decide), fun e' => absurd (e.symm.trans e') (by decide), fun e' => absurd (e.symm.trans e') (by decide), fun e' => absurd (e.symm.trans e') (by decide), fun _ => ⟨rfl, by rw [hcI, if_neg (by rw [e]; decide)], by rw [hcI, if_neg (by rw [e]; decide)], by rw [hcI, if_neg (by rw [e]; decide)], by rw [hcI, if_neg (by rw [e]; decide)], by rw [hcI, if_neg (by rw [e]; decide)], by rw [hcI, if_neg (by rw [e]; decide)], by rw [hcI, if_neg (by rw [e]; decide)], by rw [hcI, if_pos e], by rw [hcI, if_neg (by rw [e]; decide)], rfl⟩, fun e' => absurd (e.symm.trans e') (by decide), trivial⟩, fun e => Cl.of (up_fn h8 1) ⟨_, rfl, hx, fun e' => absurd (e.symm.trans e') (by decide), fun e' => absurd (e.symm.trans e') (by decide), fun e' => absurd (e.symm.trans e') (by decide), fun e' => absurd (e.symm.trans e') (by decide), fun e' => absurd (e.symm.trans e') (by decide), fun e' => absurd (e.symm.trans e') (by decide), fun e' => absurd (e.symm.trans e') (by decide), fun e' => absurd (e.symm.trans e') (by decide), fun _ => ⟨rfl, by rw [hcI, if_neg (by rw [e]; decide)], by rw [hcI, if_neg (by rw [e]; decide)], by rw [hcI, if_neg (by rw [e]; decide)], by rw [hcI, if_neg (by rw [e]; decide)], by rw [hcI, if_neg (by rw [e]; decide)], by rw [hcI, if_neg (by rw [e]; decide)], by rw [hcI, if_neg (by rw [e]; decide)], by rw [hcI, if_neg (by rw [e]; decide)], by rw [hcI, if_pos e], rfl⟩, trivial⟩, trivial⟩
  ·rintro _ _ _ _ _ _ _ _ _ _ ⟨rfl, rfl, rfl, rfl, rfl, rfl, rfl, rfl, rfl, rfl⟩
   refine Cl.of (up_fn _ n) ⟨_, rfl, ?_⟩
   simp [haddS, hn]


abbrev cR (l : List (Int × Int)) : List (List SV) := l.map fun c => [I c.1, I c.2]
def ceAt (l : List (Int × Int)) (i : Int) : Int × Int := l.getD i.toNat (0, 0)
theorem rget_cR {l : List (Int × Int)} {i : Int} (h0 : 0 ≤ i) (h1 : i < l.length) : rget (cR l) i = [I (ceAt l i).1, I (ceAt l i).2] := by
 have : i.toNat < l.length := by omega
 simp [rget, ceAt, this]
theorem ceAt_mem {l : List (Int × Int)} {i : Int} (h0 : 0 ≤ i) (h1 : i < l.length) : ceAt l i ∈ l := by
 have : i.toNat < l.length := by omega
 simp [ceAt, this]
theorem rlen_cR (l : List (Int × Int)) : rlen (cR l) = (l.length : Int) := by simp
theorem rset_cR (l : List (Int × Int)) (i a b : Int) : rset (cR l) i [I a, I b] = cR (l.set i.toNat (a, b)) := by
 simp [rset, cR, List.map_set]

def timP (n : Int) : Prop := 0 ≤ n ∧ n ≤ 1099511627776
instance (n : Int) : Decidable (timP n) := inferInstanceAs (Decidable (_ ∧ _))
def cellsP (l : List (Int × Int)) : Prop := ∀ c ∈ l, heldP c.1 ∧ heldP c.2
instance (l : List (Int × Int)) : Decidable (cellsP l) := inferInstanceAs (Decidable (∀ c ∈ l, heldP c.1 ∧ heldP c.2))
def winP (wd sl : Int) (cl : List (Int × Int)) : Prop := (1 ≤ wd ∧ wd ≤ 2147483647) ∧ timP sl ∧ (1 ≤ cl.length ∧ cl.length ≤ 16) ∧ cellsP cl
instance (wd sl : Int) (cl : List (Int × Int)) : Decidable (winP wd sl cl) := inferInstanceAs (Decidable (_ ∧ _))

theorem timely_fn (n : Int) : Ct Tryd.prog 150 {} [I n] (fun r => r = [B (decide (timP n))]) := by
 refine timely_nf _ _ ?_
 have : bpick (ige n 0) (ile n 1099511627776) false = decide (timP n) := by
  rw [Bool.eq_iff_iff, decide_eq_true_eq]; unfold timP; simp
 rw [this]
theorem wheld_fn (n : Int) : Ct Tryd.prog 186 {} [I n] (fun r => r = [B (decide (heldP n))]) := by
 refine wheld_nf _ _ (Cl.of (hold_fn n) ⟨_, rfl, ?_⟩)
 have : ieq n (holdI n) = decide (heldP n) := by
  rw [Bool.eq_iff_iff, decide_eq_true_eq, ← hold_held]; simp [eq_comm]
 rw [this]
theorem wwrong_fn (n m : Int) : Ct Tryd.prog 187 {} [.agg [I n, I m], .ref 0 [.clo 186 []]] (fun r => r = [B (!decide (heldP n ∧ heldP m))]) := by
 refine wwrong_nf _ _ _ _ _ (Cl.of (wheld_fn n) ⟨_, rfl, ifB_intro (fun h => ?_) (fun h => ?_)⟩)
 ·simp at h; simp [h]
 ·simp at h
  refine Cl.of (wheld_fn m) ⟨_, rfl, ?_⟩
  simp [h]

theorem ccont_fn (l : List (Int × Int)) (hl : l.length ≤ 1000000) : Ct Tryd.prog 188 {} [SL 2 (cR l), .clo 187 [.ref 0 [.clo 186 []]]] (fun r => r = [B (!decide (cellsP l))]) := by
 have A : Ct Tryd.prog 203 {} [SL 2 (cR l), .clo 187 [.ref 0 [.clo 186 []]]] (fun r => ∃ x : Int, r = [I x] ∧ (0 ≤ x ↔ ¬ cellsP l)) := by
  refine cindex_nf _ _ _ _ ⟨fun _ x => 0 ≤ x ∧ x ≤ l.length ∧ ∀ i : Nat, i < x.toNat → heldP (l.getD i (0, 0)).1 ∧ heldP (l.getD i (0, 0)).2, fun _ x => (l.length - x).toNat, ⟨by omega, by omega, by simp⟩, ?_⟩
  rintro _ x ⟨h0, h1, hp⟩
  refine ifB_intro (fun h => ?_) (fun h => ?_)
  ·simp at h
   have w : wadd IntKind.i64 x 1 = x + 1 := wadd_i64 (by omega) (by omega)
   refine ⟨⟨h0, by simpa using h⟩, _, _, rget_cR h0 h, Cl.of (wwrong_fn _ _) ⟨_, rfl, ifB_intro (fun hb => ?_) (fun hb => ⟨rfl, ?_, ?_⟩)⟩⟩
   ·simp only [Bool.not_eq_true', decide_eq_false_iff_not] at hb
    exact ⟨x, rfl, fun _ ha => hb (ha _ (ceAt_mem h0 h)), fun _ => h0⟩
   ·simp only [Bool.not_eq_false', decide_eq_true_eq] at hb
    rw [w]
    refine ⟨by omega, by omega, fun i hi => ?_⟩
    by_cases hix : i < x.toNat
    ·exact hp i hix
    ·obtain rfl : i = x.toNat := by omega
     exact hb
   ·rw [w]; exact mlt (by dsimp only; omega)
  ·simp at h
   refine ⟨-1, rfl, fun h => by omega, fun hn => absurd (fun c hc => ?_) hn⟩
   obtain ⟨i, hi, rfl⟩ := List.getElem_of_mem hc
   have := hp i (by omega)
   simpa [hi] using this
 refine ccont_nf _ _ _ _ (Cl.ofQ A ?_)
 rintro r ⟨x, rfl, hx⟩
 refine ⟨_, rfl, ?_⟩
 have : ige x 0 = !decide (cellsP l) := by
  rw [Bool.eq_iff_iff]; simp [hx]
 rw [this]

theorem wright_fn (wd sl : Int) (cl : List (Int × Int)) : Ct Tryd.prog 159 {} [win3 wd sl (cR cl)] (fun r => r = [B (decide (winP wd sl cl))]) := by
 have no : ¬ winP wd sl cl → [B false] = [B (decide (winP wd sl cl))] := fun h => by simp [h]
 refine wright_nf _ _ _ _ (ifB_intro (fun h => ?_) (fun h => ?_))
 ·simp only [bor_t, ilt_eq, igt_eq, decide_eq_true_eq] at h
  exact no (fun hh => by have := hh.1; omega)
 ·simp only [bor_f, ilt_eq, igt_eq, decide_eq_false_iff_not] at h
  refine Cl.of (timely_fn sl) ⟨_, rfl, ifB_intro (fun h1 => ?_) (fun h1 => ifB_intro (fun h2 => ?_) (fun h2 => ?_))⟩
  ·simp at h1
   exact no (fun hh => h1 hh.2.1)
  ·simp only [bor_t, ilt_eq, igt_eq, decide_eq_true_eq, rlen_cR] at h2
   exact no (fun hh => by have := hh.2.2.1; omega)
  ·simp at h1
   simp only [bor_f, ilt_eq, igt_eq, decide_eq_false_iff_not, rlen_cR] at h2
   refine Cl.of (ccont_fn cl (by omega)) ⟨_, rfl, ?_⟩
   have : bnot (!decide (cellsP cl)) = decide (winP wd sl cl) := by
    rw [bnot_eq, Bool.not_not]
    exact decide_eq_decide.2 ⟨fun hh => ⟨by omega, h1, by omega, hh⟩, fun hh => hh.2.2.2⟩
   rw [this]

theorem quo_nn {a b : Int} (h0 : 0 ≤ a) (h1 : a ≤ 9223372036854775807) (hb : 1 ≤ b) : wquo .i64 a b = a / b ∧ 0 ≤ a / b ∧ a / b ≤ a := by
 have e1 : 0 ≤ a / b := Int.ediv_nonneg h0 (by omega)
 have e2 : a / b ≤ a := Int.ediv_le_self b h0
 refine ⟨?_, e1, e2⟩
 unfold wquo
 rw [Int.tdiv_eq_ediv_of_nonneg h0]
 exact wrap_i64 (by omega) (by omega)

def wnewR (wd n a : Int) : List SV := if ((1 ≤ wd ∧ wd ≤ 2147483647) ∧ (1 ≤ n ∧ n ≤ 16)) ∧ timP a then [win3 wd (a / wd) (cR (List.replicate n.toNat (0, 0))), I 0] else [win3 0 0 [], I 1]
theorem rrep_cR (n : Int) : rrep n [I 0, I 0] = cR (List.replicate n.toNat (0, 0)) := by simp [rrep, cR]
theorem wnew_fn (wd n a : Int) : Ct Tryd.prog 107 {} [I wd, I n, I a] (fun r => r = wnewR wd n a) := by
 refine wnew_nf _ _ _ _ (ifB_intro (fun h => ?_) (fun h => ?_))
 ·simp only [bor_t, ilt_eq, igt_eq, decide_eq_true_eq] at h
  have : ¬ (((1 ≤ wd ∧ wd ≤ 2147483647) ∧ (1 ≤ n ∧ n ≤ 16)) ∧ timP a) := fun hh => by omega
  simp [wnewR, this]
 ·simp only [bor_f, ilt_eq, igt_eq, decide_eq_false_iff_not] at h
  refine Cl.of (timely_fn a) ⟨_, rfl, ifB_intro (fun h1 => ?_) (fun h1 => ?_)⟩
  ·simp at h1
   simp [wnewR, h1]
  ·simp at h1
   have h1' := h1
   unfold timP at h1'
   have hh : ((1 ≤ wd ∧ wd ≤ 2147483647) ∧ (1 ≤ n ∧ n ≤ 16)) ∧ timP a := ⟨by omega, h1⟩
   refine ⟨by omega, ⟨by omega, by omega, by omega⟩, ?_⟩
   rw [(quo_nn (by omega) (by omega) (by omega)).1, rrep_cR]
   simp [wnewR, hh]
theorem cclone_fn (rows : List (List SV)) (h : rows.length ≤ 2147483648) : Ct Tryd.prog 154 ⟨[], [.own]⟩ [SL 2 rows] (fun r => r = [SL 2 rows]) := by
 refine cclone_nf _ _ (fun b hb => ifB_intro (fun e => ?_) (fun e => ⟨?_, ?_⟩))
 ·have := hb e
  have : rows = [] := by simpa using this
  rw [this]
 ·simp; omega
 ·simp [rapp]

def kk (slot n p : Int) : Int := slot - (slot - p) % n
theorem kk_range {slot n p : Int} (h : 1 ≤ n) : slot - n < kk slot n p ∧ kk slot n p ≤ slot := by
 unfold kk
 have h1 := Int.emod_nonneg (slot - p) (show n ≠ 0 by omega)
 have h2 := Int.emod_lt_of_pos (slot - p) (show 0 < n by omega)
 omega
theorem kk_eq {slot n p x : Int} (h : 1 ≤ n) (hn : n ≤ 16) (p0 : 0 ≤ p) (pn : p < n) (x0 : slot - n < x) (x1 : x ≤ slot) : kk slot n p = x ↔ p = x % n := by
 unfold kk
 have hc : n = 1 ∨ n = 2 ∨ n = 3 ∨ n = 4 ∨ n = 5 ∨ n = 6 ∨ n = 7 ∨ n = 8 ∨ n = 9 ∨ n = 10 ∨ n = 11 ∨ n = 12 ∨ n = 13 ∨ n = 14 ∨ n = 15 ∨ n = 16 := by omega
 rcases hc with rfl | rfl | rfl | rfl | rfl | rfl | rfl | rfl | rfl | rfl | rfl | rfl | rfl | rfl | rfl | rfl <;> omega

def mvL (sl slot : Int) (cl : List (Int × Int)) : List (Int × Int) := (List.range cl.length).map fun p : Nat => if sl < kk slot cl.length p then (0, 0) else cl.getD p (0, 0)
theorem mvL_len (sl slot : Int) (cl : List (Int × Int)) : (mvL sl slot cl).length = cl.length := by simp [mvL]

theorem map_range_set {n : Nat} {f f' : Nat → Int × Int} {i : Nat} {v : Int × Int} (hi : i < n) (h : ∀ p, p < n → f' p = if p = i then v else f p) : (List.range n).map f' = ((List.range n).map f).set i v := by
 apply List.ext_getElem
 ·simp
 ·intro p h1 h2
  simp at h1
  rw [List.getElem_set]
  simp only [List.getElem_map, List.getElem_range]
  rw [h p h1]
  by_cases e : p = i
  ·simp [e]
  ·rw [if_neg e, if_neg (fun e' => e e'.symm)]

def wmoveR (wd sl : Int) (cl : List (Int × Int)) (a : Int) : List SV :=
 if winP wd sl cl ∧ timP a then (if a / wd ≤ sl then [win3 wd sl (cR cl), I 0] else [win3 wd (a / wd) (cR (mvL sl (a / wd) cl)), I 0]) else [win3 wd sl (cR cl), I 1]

theorem wmove_fn (wd sl : Int) (cl : List (Int × Int)) (a : Int) : Ct Tryd.prog 153 {} [win3 wd sl (cR cl), I a] (fun r => r = wmoveR wd sl cl a) := by
 refine wmove_nf _ _ _ _ _ (Cl.of (wright_fn wd sl cl) ⟨_, rfl, ifB_intro (fun h => ?_) (fun h => ?_)⟩)
 ·simp at h; simp [wmoveR, h]
 ·simp at h
  refine Cl.of (timely_fn a) ⟨_, rfl, ifB_intro (fun h1 => ?_) (fun h1 => ?_)⟩
  ·simp at h1; simp [wmoveR, h1]
  ·simp at h1
   have hw := h
   have ha := h1
   unfold winP at hw
   unfold timP at hw ha
   obtain ⟨q1, q2, q3⟩ := quo_nn (a := a) (b := wd) (by omega) (by omega) (by omega)
   rw [q1]
   refine ⟨by omega, ifB_intro (fun h2 => ?_) (fun h2 => ?_)⟩
   ·simp at h2; simp [wmoveR, h, h1, h2]
   ·simp at h2
    have h2' : ¬ a / wd ≤ sl := by omega
    refine Cl.of (cclone_fn _ (by simp; omega)) ⟨_, rfl, ?_⟩
    generalize hslot : a / wd = slot at *
    have hlen : (1 : Int) ≤ cl.length ∧ (cl.length : Int) ≤ 16 := by omega
    rw [rlen_cR, wadd_i64 (by omega) (by omega), wsub_i64 (by omega) (by omega), wadd_i64 (by omega) (by omega), imax_eq]
    generalize hlo : max (sl + 1) (slot - cl.length + 1) = lo
    have hlo1 : lo ≤ slot := by omega
    have hlo2 : sl < lo := by omega
    have hlo3 : slot - cl.length < lo := by omega
    have hlo4 : 0 ≤ lo := by omega
    refine ⟨fun x l1 => lo ≤ x ∧ x ≤ slot + 1 ∧ l1 = cR ((List.range cl.length).map fun p : Nat => if lo ≤ kk slot cl.length p ∧ kk slot cl.length p < x then (0, 0) else cl.getD p (0, 0)), fun x _ => (slot + 1 - x).toNat, ⟨by omega, by omega, ?_⟩, ?_⟩
    ·congr 1
     apply List.ext_getElem
     ·simp
     ·intro p p1 p2
      simp only [List.getElem_map, List.getElem_range]
      rw [if_neg (by omega)]
      simp [p1]
    ·rintro x _ ⟨g1, g2, rfl⟩
     refine ifB_intro (fun g3 => ?_) (fun g3 => ?_)
     ·simp at g3
      have m1 : wrem x cl.length = x % cl.length := by unfold wrem; exact Int.tmod_eq_emod_of_nonneg (by omega)
      have m2 := Int.emod_nonneg x (show (cl.length : Int) ≠ 0 by omega)
      have m3 := Int.emod_lt_of_pos x (show (0 : Int) < cl.length by omega)
      rw [m1, wadd_i64 (by omega) (by omega), rset_cR]
      refine ⟨by omega, ⟨by omega, by simp; omega⟩, ⟨by omega, by simp; omega⟩, rfl, ⟨by omega, by omega, ?_⟩, mlt (by dsimp only; omega)⟩
      congr 1
      symm
      refine map_range_set (by omega) (fun p hp => ?_)
      have hk := kk_eq (slot := slot) (n := cl.length) (p := p) (x := x) (by omega) (by omega) (by omega) (by omega) (by omega) (by omega)
      by_cases e : p = (x % cl.length).toNat
      ·have e' : kk slot cl.length p = x := hk.2 (by omega)
       rw [if_pos e, if_pos (by omega)]
      ·have e' : ¬ kk slot cl.length p = x := fun hh => e (by have := hk.1 hh; omega)
       rw [if_neg e]
       by_cases c : lo ≤ kk slot cl.length p ∧ kk slot cl.length p < x
       ·rw [if_pos c, if_pos (by omega)]
       ·rw [if_neg c, if_neg (by omega)]
     ·simp at g3
      obtain rfl : x = slot + 1 := by omega
      have : ((List.range cl.length).map fun p : Nat => if lo ≤ kk slot cl.length p ∧ kk slot cl.length p < slot + 1 then ((0, 0) : Int × Int) else cl.getD p (0, 0)) = mvL sl slot cl := by
       unfold mvL
       apply List.map_congr_left
       intro p hp
       have hr := kk_range (slot := slot) (n := cl.length) (p := p) (by omega)
       by_cases c : sl < kk slot cl.length p
       ·rw [if_pos c, if_pos (by omega)]
       ·rw [if_neg c, if_neg (by omega)]
      rw [this]
      simp only [wmoveR]
      rw [if_pos ⟨h, h1⟩, hslot, if_neg h2']


theorem rem_nn {x n : Int} (h0 : 0 ≤ x) (hn : 1 ≤ n) : wrem x n = x % n ∧ 0 ≤ x % n ∧ x % n < n := by
 refine ⟨?_, Int.emod_nonneg x (by omega), Int.emod_lt_of_pos x (by omega)⟩
 unfold wrem; exact Int.tmod_eq_emod_of_nonneg h0

def getS (sl : Int) (cl : List (Int × Int)) (p : Int) : Int × Int := if (sl < p ∨ p ≤ sl - cl.length) ∨ p < 0 then (0, 0) else ceAt cl (p % cl.length)
def ceU (c : Int × Int) (ok : Bool) : Int × Int := if ok = true then (upI c.1 1, c.2) else (c.1, upI c.2 1)
def addL (cl : List (Int × Int)) (i : Int) (ok : Bool) : List (Int × Int) := cl.set i.toNat (ceU (ceAt cl i) ok)
def wadS (wd sl : Int) (cl : List (Int × Int)) (a : Int) (ok : Bool) : Int × List (Int × Int) :=
 if a / wd ≤ sl then (if a / wd ≤ sl - cl.length then (sl, cl) else (sl, addL cl ((a / wd) % cl.length) ok)) else (a / wd, addL (mvL sl (a / wd) cl) ((a / wd) % cl.length) ok)
def waddR (wd sl : Int) (cl : List (Int × Int)) (a : Int) (ok : Bool) : List SV :=
 if winP wd sl cl ∧ timP a then [win3 wd (wadS wd sl cl a ok).1 (cR (wadS wd sl cl a ok).2), I 0] else [win3 wd sl (cR cl), I 1]

theorem mv_shape {wd sl : Int} {cl : List (Int × Int)} {a : Int} (h : winP wd sl cl ∧ timP a) : ∃ (s2 : Int) (l2 : List (Int × Int)), wmoveR wd sl cl a = [win3 wd s2 (cR l2), I 0] ∧ l2.length = cl.length ∧ a / wd ≤ s2 ∧ 0 ≤ s2 ∧ s2 ≤ 1099511627776 ∧
  ∀ ok, wadS wd sl cl a ok = if a / wd ≤ s2 - cl.length then (s2, l2) else (s2, addL l2 ((a / wd) % cl.length) ok) := by
 have hw := h.1
 have ha := h.2
 unfold winP at hw
 unfold timP at hw ha
 obtain ⟨q1, q2, q3⟩ := quo_nn (a := a) (b := wd) (by omega) (by omega) (by omega)
 unfold wmoveR
 rw [if_pos h]
 by_cases c : a / wd ≤ sl
 ·rw [if_pos c]
  exact ⟨_, _, rfl, rfl, c, by omega, by omega, fun ok => by unfold wadS; rw [if_pos c]⟩
 ·rw [if_neg c]
  exact ⟨_, _, rfl, mvL_len _ _ _, by omega, by omega, by omega, fun ok => by unfold wadS; rw [if_neg c, if_neg (by omega)]⟩

theorem wadd_fn (wd sl : Int) (cl : List (Int × Int)) (a : Int) (ok : Bool) : Ct Tryd.prog 115 {} [win3 wd sl (cR cl), I a, B ok] (fun r => r = waddR wd sl cl a ok) := by
 have hm := wmove_fn wd sl cl a
 by_cases h : winP wd sl cl ∧ timP a
 ·obtain ⟨s2, l2, e, hl, hs, s0, s1, hS⟩ := mv_shape h
  rw [e] at hm
  have hw := h.1
  have ha := h.2
  unfold winP at hw
  unfold timP at hw ha
  obtain ⟨q1, q2, q3⟩ := quo_nn (a := a) (b := wd) (by omega) (by omega) (by omega)
  refine wadd1_nf _ _ _ _ _ _ (Cl.of hm ⟨_, _, _, _, rfl, ifB_intro (fun h => by simp at h) (fun _ => ⟨by omega, ?_⟩)⟩)
  obtain ⟨m1, m2, m3⟩ := rem_nn (x := a / wd) (n := cl.length) (by omega) (by omega)
  rw [q1, rlen_cR, hl, wsub_i64 (by omega) (by omega), m1]
  unfold waddR
  rw [if_pos h, hS]
  refine ifB_intro (fun h2 => ?_) (fun h2 => ?_)
  ·simp at h2; rw [if_pos h2]
  ·simp at h2
   rw [if_neg (by omega)]
   refine Cl.of (cclone_fn _ (by simp; omega)) ⟨_, rfl, by omega, ⟨m2, by simp; omega⟩, ?_⟩
   have hi : (0 : Int) ≤ (a / wd) % cl.length ∧ (a / wd) % cl.length < rlen (cR l2) := ⟨m2, by simp; omega⟩
   have hg := rget_cR (l := l2) m2 (by omega)
   refine ifB_intro (fun h3 => ?_) (fun h3 => ?_)
   ·refine ⟨hi, _, _, hg, Cl.of (up_fn _ _) ⟨_, rfl, hi, _, _, hg, ?_⟩⟩
    rw [rset_cR]
    simp [addL, ceU, h3]
   ·refine ⟨hi, _, _, hg, Cl.of (up_fn _ _) ⟨_, rfl, hi, _, _, hg, ?_⟩⟩
    rw [rset_cR]
    simp [addL, ceU, h3]
 ·have e : wmoveR wd sl cl a = [win3 wd sl (cR cl), I 1] := by unfold wmoveR; rw [if_neg h]
  rw [e] at hm
  refine wadd1_nf _ _ _ _ _ _ (Cl.of hm ⟨_, _, _, _, rfl, ifB_intro (fun _ => ?_) (fun h => by simp at h)⟩)
  unfold waddR; rw [if_neg h]

theorem bare_fn (wd sl : Int) (cl : List (Int × Int)) : Ct Tryd.prog 160 {} [win3 wd sl (cR cl)] (fun r => r = [B (decide (wd = 0 ∧ sl = 0 ∧ cl = []))]) := by
 refine bare_nf _ _ _ _ ?_
 have : bpick (bpick (ieq wd 0) (ieq sl 0) false) (ieq (rlen (cR cl)) 0) false = decide (wd = 0 ∧ sl = 0 ∧ cl = []) := by
  rw [Bool.eq_iff_iff]; simp [and_assoc]
 rw [this]


structure CoD where
 nm : ByteArray
 ro : Int
 mo : Int
 wd : Int
 sl : Int
 cl : List (Int × Int)
 h0 : Int
 h1 : Int
 h2 : Int
 h3 : Int
 h4 : Int
 h5 : Int
 h6 : Int
 h7 : Int
 h8 : Int
 hs : Int
 rm : Int
 ha : Int
 c0 : Int
 c1 : Int
 c2 : Int

abbrev CoD.sv (c : CoD) : SV := cmp21 c.nm c.ro c.mo c.wd c.sl (cR c.cl) c.h0 c.h1 c.h2 c.h3 c.h4 c.h5 c.h6 c.h7 c.h8 c.hs c.rm c.ha c.c0 c.c1 c.c2
structure EvD where
 s : Int
 a : Int
 k : Int
 c : ByteArray
 x : Int
 y : Int
 z : Int
abbrev EvD.sv (e : EvD) : SV := ev7 e.s e.a e.k e.c e.x e.y e.z

def CoD.his (c : CoD) : Prop := hisP c.h0 c.h1 c.h2 c.h3 c.h4 c.h5 c.h6 c.h7 c.h8 c.hs
instance (c : CoD) : Decidable c.his := inferInstanceAs (Decidable (hisP _ _ _ _ _ _ _ _ _ _))
def CoD.his0 (c : CoD) : Prop := (c.h0 = 0 ∧ c.h1 = 0 ∧ c.h2 = 0 ∧ c.h3 = 0 ∧ c.h4 = 0 ∧ c.h5 = 0 ∧ c.h6 = 0 ∧ c.h7 = 0 ∧ c.h8 = 0) ∧ c.hs = 0
instance (c : CoD) : Decidable c.his0 := inferInstanceAs (Decidable (_ ∧ _))
def CoD.bare (c : CoD) : Prop := c.wd = 0 ∧ c.sl = 0 ∧ c.cl = []
instance (c : CoD) : Decidable c.bare := inferInstanceAs (Decidable (_ ∧ _))
def CoD.roleP (c : CoD) : Prop :=
 if c.ro = 1 then ((0 ≤ c.mo ∧ c.mo ≤ 2) ∧ winP c.wd c.sl c.cl) ∧ c.his ∧ (c.rm = 0 ∧ c.ha = 0)
 else if c.ro = 2 then ((c.mo = 0 ∧ c.bare) ∧ c.his0) ∧ bktP c.rm c.ha
 else c.ro = 3 ∧ ((0 ≤ c.mo ∧ c.mo ≤ 2147483647) ∧ c.bare) ∧ c.his ∧ bktP c.rm c.ha
instance (c : CoD) : Decidable c.roleP := by unfold CoD.roleP; infer_instance
def CoD.cntP (c : CoD) : Prop := heldP c.c0 ∧ heldP c.c1 ∧ heldP c.c2
instance (c : CoD) : Decidable c.cntP := inferInstanceAs (Decidable (_ ∧ _))
def CoD.P (c : CoD) : Prop := (namB c.nm = true ∧ c.cntP) ∧ c.roleP
instance (c : CoD) : Decidable c.P := inferInstanceAs (Decidable (_ ∧ _))

def ctAt (c0 c1 c2 x : Int) : Int := if x = 0 then c0 else if x = 1 then c1 else c2
theorem cnt_iff {c : CoD} : c.cntP ↔ ∀ i, 0 ≤ i → i < 3 → heldP (ctAt c.c0 c.c1 c.c2 i) := by
 unfold CoD.cntP
 constructor
 ·rintro ⟨h0, h1, h2⟩ i i0 i3
  have : i = 0 ∨ i = 1 ∨ i = 2 := by omega
  rcases this with rfl | rfl | rfl <;> assumption
 ·intro h
  exact ⟨h 0 (by omega) (by omega), h 1 (by omega) (by omega), h 2 (by omega) (by omega)⟩
theorem ct_step {c0 c1 c2 x : Int} (h : ∀ i, 0 ≤ i → i < x → heldP (ctAt c0 c1 c2 i)) (hx : heldP (ctAt c0 c1 c2 x)) : ∀ i, 0 ≤ i → i < x + 1 → heldP (ctAt c0 c1 c2 i) := by
 intro i h1 h2
 by_cases e : i = x
 ·rw [e]; exact hx
 ·exact h i h1 (by omega)

theorem pright_fn (c : CoD) : Ct Tryd.prog 120 {} [c.sv] (fun r => r = [B (decide c.P)]) := by
 have no : ¬ c.P → [B false] = [B (decide c.P)] := fun h => by simp [h]
 refine pright_nf _ _ _ _ _ _ _ _ _ _ _ _ _ _ _ _ _ _ _ _ _ _ (Cl.of (named_fn c.nm) ⟨_, rfl, ifB_intro (fun h => no (fun hh => ?_)) (fun h => ?_)⟩)
 ·simp at h; rw [hh.1.1] at h; cases h
 simp at h
 refine ⟨fun x => 0 ≤ x ∧ x ≤ 3 ∧ ∀ i, 0 ≤ i → i < x → heldP (ctAt c.c0 c.c1 c.c2 i), fun x => (3 - x).toNat, ⟨by omega, by omega, fun i h1 h2 => by omega⟩, ?_⟩
 rintro x ⟨x0, x3, hi⟩
 refine ifB_intro (fun hx => ?_) (fun hx => ?_)
 ·simp at hx
  rw [wadd_i64 (by omega) (by omega)]
  have step : ∀ (v : Int) {FX : Prop}, FX → ctAt c.c0 c.c1 c.c2 x = v → Cl Tryd.prog 158 sP [I v] (fun (rs : List SV) => ∃ x1 : Int, (rs = [I x1]) ∧ (ifB (ine v x1) ([B false] = [B (decide c.P)]) (FX ∧ ((0 ≤ x + 1 ∧ x + 1 ≤ 3 ∧ ∀ i, 0 ≤ i → i < x + 1 → heldP (ctAt c.c0 c.c1 c.c2 i)) ∧ (Nat.le (Nat.succ (3 - (x + 1)).toNat) (3 - x).toNat))))) := by
   intro v FX hFX hv
   refine Cl.of (hold_fn v) ⟨_, rfl, ifB_intro (fun hb => no (fun hh => ?_)) (fun hb => ⟨hFX, ⟨by omega, by omega, ct_step hi ?_⟩, mlt (by omega)⟩)⟩
   ·simp at hb
    have := cnt_iff.1 hh.1.2 x x0 hx
    rw [hv] at this
    exact hb (hold_id this).symm
   ·simp at hb
    rw [hv]
    exact hold_held.1 hb.symm
  exact ⟨⟨x0, hx⟩, fun e => step c.c0 rfl (by subst e; rfl), fun e => step c.c1 rfl (by subst e; rfl), fun e => step c.c2 rfl (by subst e; rfl), trivial⟩
 ·simp at hx
  obtain rfl : x = 3 := by omega
  have hcnt := cnt_iff.2 hi
  have fin : ∀ b : Bool, (b = true ↔ c.roleP) → [B b] = [B (decide c.P)] := fun b hb => by
   have : b = decide c.P := by
    rw [Bool.eq_iff_iff, decide_eq_true_eq, hb]
    exact ⟨fun hh => ⟨⟨h, hcnt⟩, hh⟩, fun hh => hh.2⟩
   rw [this]
  refine ifB_intro (fun h1 => ?_) (fun h1 => ifB_intro (fun h2 => ?_) (fun h2 => ifB_intro (fun h3 => ?_) (fun h3 => ?_)))
  ·simp at h1
   refine ifB_intro (fun hm => ?_) (fun hm => ?_)
   ·refine Cl.of (wright_fn c.wd c.sl c.cl) ⟨_, rfl, ifB_intro (fun hw => ?_) (fun hw => ?_)⟩
    ·refine Cl.of (hright_fn _ _ _ _ _ _ _ _ _ _) ⟨_, rfl, fin _ ?_⟩
     simp at hm hw
     unfold CoD.roleP CoD.his
     rw [if_pos h1]
     simp [hm, hw]
    ·simp at hw
     refine fin _ ?_
     unfold CoD.roleP
     rw [if_pos h1]
     simp [hw]
   ·refine fin _ ?_
    unfold CoD.roleP
    rw [if_pos h1]
    simp at hm
    have : ¬ (0 ≤ c.mo ∧ c.mo ≤ 2) := by omega
    simp [this]
  ·simp at h1 h2
   unfold CoD.roleP at fin
   rw [if_neg h1, if_pos h2] at fin
   refine ifB_intro (fun hm => ?_) (fun hm => ?_)
   ·simp at hm
    refine Cl.of (bare_fn c.wd c.sl c.cl) ⟨_, rfl, ifB_intro (fun hb => ?_) (fun hb => ?_)⟩
    ·refine Cl.of (bright_fn c.rm c.ha) ⟨_, rfl, fin _ ?_⟩
     simp at hb
     have e1 : c.bare := hb.1
     have e2 : c.his0 := by unfold CoD.his0; omega
     simp [hm, e1, e2]
    ·refine fin _ ?_
     simp at hb
     have : ¬ (c.bare ∧ c.his0) := fun hh => by
      have e1 := hh.1
      have e2 := hh.2
      unfold CoD.bare at e1
      unfold CoD.his0 at e2
      simp [e1, e2] at hb
     simp only [Bool.false_eq_true, false_iff]
     exact fun hh => this ⟨hh.1.1.2, hh.1.2⟩
   ·simp at hm
    exact ifB_intro (fun hb => by simp at hb) (fun _ => fin _ (by simp [hm]))
  ·simp at h1 h2 h3
   unfold CoD.roleP at fin
   rw [if_neg h1, if_neg h2] at fin
   refine ifB_intro (fun hm => ?_) (fun hm => ?_)
   ·simp at hm
    refine Cl.of (bare_fn c.wd c.sl c.cl) ⟨_, rfl, ifB_intro (fun hb => ?_) (fun hb => ?_)⟩
    ·simp at hb
     have e1 : c.bare := hb
     refine Cl.of (hright_fn _ _ _ _ _ _ _ _ _ _) ⟨_, rfl, ifB_intro (fun hh => ?_) (fun hh => ?_)⟩
     ·simp at hh
      have e2 : c.his := hh
      refine Cl.of (bright_fn c.rm c.ha) ⟨_, rfl, fin _ ?_⟩
      simp [h3, hm, e1, e2]
     ·simp at hh
      have e2 : ¬ c.his := hh
      exact fin _ (by simp [e2])
    ·simp at hb
     have e1 : ¬ c.bare := fun hh => by unfold CoD.bare at hh; exact hb hh.1 hh.2.1 hh.2.2
     exact fin _ (by simp [e1])
   ·simp at hm
    have : ¬ (0 ≤ c.mo ∧ c.mo ≤ 2147483647) := by omega
    exact fin _ (by simp [this])
  ·simp at h1 h2 h3
   unfold CoD.roleP at fin
   rw [if_neg h1, if_neg h2] at fin
   exact fin _ (by simp [h3])


def co0 : CoD := ⟨ByteArray.mk (Array.mk []), 0, 0, 0, 0, [], 0, 0, 0, 0, 0, 0, 0, 0, 0, 0, 0, 0, 0, 0, 0⟩
def newC (nm : ByteArray) (ro a : Int) : CoD × Int :=
 if namB nm = false then (co0, 3) else if ¬ (1 ≤ ro ∧ ro ≤ 3) then (co0, 4) else if ¬ timP a then (co0, 5)
 else if ro = 1 then ({ co0 with nm := nm, ro := ro, wd := 10, sl := a / 10, cl := [(0, 0), (0, 0), (0, 0), (0, 0)] }, 0) else ({ co0 with nm := nm, ro := ro, rm := 10, ha := 10 }, 0)

theorem wnew4 {a : Int} (h : timP a) : wnewR 10 4 a = [win3 10 (a / 10) (cR [(0, 0), (0, 0), (0, 0), (0, 0)]), I 0] := by
 unfold wnewR
 rw [if_pos ⟨by omega, h⟩]
 rfl

theorem pnew_fn (nm : ByteArray) (ro a : Int) : Ct Tryd.prog 52 {} [S nm, I ro, I a] (fun r => r = [(newC nm ro a).1.sv, I (newC nm ro a).2]) := by
 refine pnew_nf _ _ _ _ (Cl.of (named_fn nm) ⟨_, rfl, ifB_intro (fun h => ?_) (fun h => ifB_intro (fun h1 => ?_) (fun h1 => ifB_intro (fun h2 => ?_) (fun h2 => ?_)))⟩)
 ·simp at h
  simp [newC, h, co0]
 ·simp at h
  simp only [bor_t, ilt_eq, igt_eq, decide_eq_true_eq] at h1
  have : ¬ (1 ≤ ro ∧ ro ≤ 3) := by omega
  simp only [newC, h, Bool.true_eq_false, if_false, this, not_false_eq_true, if_true]
  rfl
 ·simp at h
  simp only [bor_f, ilt_eq, igt_eq, decide_eq_false_iff_not] at h1
  simp only [bor_t, ilt_eq, igt_eq, decide_eq_true_eq] at h2
  have e1 : (1 ≤ ro ∧ ro ≤ 3) := by omega
  have e2 : ¬ timP a := by unfold timP; omega
  simp only [newC, h, Bool.true_eq_false, if_false, e1, e2, not_true_eq_false, not_false_eq_true, if_true, and_self]
  rfl
 ·simp at h
  simp only [bor_f, ilt_eq, igt_eq, decide_eq_false_iff_not] at h1 h2
  have e1 : (1 ≤ ro ∧ ro ≤ 3) := by omega
  have e2 : timP a := by unfold timP; omega
  refine ifB_intro (fun h3 => ?_) (fun h3 => ?_)
  ·simp at h3
   have hw := wnew_fn 10 4 a
   rw [wnew4 e2] at hw
   refine Cl.of hw ⟨_, _, _, _, rfl, ?_⟩
   rw [h3] at e1 ⊢
   simp only [newC, h, Bool.true_eq_false, if_false, e1, e2, not_true_eq_false, if_true]
   rfl
  ·simp at h3
   refine Cl.of (bnew_fn 10 10) ⟨_, _, _, rfl, ?_⟩
   simp only [newC, h, Bool.true_eq_false, if_false, e1, e2, not_true_eq_false, h3, and_self]
   rfl

def chkE (e : EvD) : Int := chkI e.s e.a e.k e.c e.x e.y e.z
def cfgP (ro : Int) (e : EvD) : Prop := if ro = 1 then ((1 ≤ e.x ∧ 1 ≤ e.y) ∧ e.y ≤ 16) ∧ e.z = 0 else if ro = 2 then e.y ≤ e.x ∧ e.z = 0 else e.y = 0 ∧ e.z = 0
instance (ro : Int) (e : EvD) : Decidable (cfgP ro e) := by unfold cfgP; infer_instance
def mayI (c : CoD) (e : EvD) : Int :=
 if ¬ c.P then 1 else if chkE e ≠ 0 then chkE e else if e.c ≠ c.nm then 6 else if e.k = 1 then 7 else if roleI e.k ≠ 0 ∧ roleI e.k ≠ c.ro then 8 else if e.k = 2 ∧ ¬ cfgP c.ro e then 4 else 0

theorem configs_fn (ro : Int) (e : EvD) : Ct Tryd.prog 149 {} [I ro, e.sv] (fun r => r = [B (decide (cfgP ro e))]) := by
 refine configs_nf _ _ _ _ _ _ _ _ _ (ifB_intro (fun h => ?_) (fun h => ifB_intro (fun h1 => ?_) (fun h1 => ?_)))
 ·simp at h
  have : bpick (bpick (bpick (ige e.x 1) (ige e.y 1) false) (ile e.y 16) false) (ieq e.z 0) false = decide (cfgP ro e) := by
   rw [Bool.eq_iff_iff, decide_eq_true_eq]; unfold cfgP; rw [if_pos h]; simp
  rw [this]
 ·simp at h h1
  have : bpick (ile e.y e.x) (ieq e.z 0) false = decide (cfgP ro e) := by
   rw [Bool.eq_iff_iff, decide_eq_true_eq]; unfold cfgP; rw [if_neg h, if_pos h1]; simp
  rw [this]
 ·simp at h h1
  have : bpick (ieq e.y 0) (ieq e.z 0) false = decide (cfgP ro e) := by
   rw [Bool.eq_iff_iff, decide_eq_true_eq]; unfold cfgP; rw [if_neg h, if_neg h1]; simp
  rw [this]

theorem pmay_fn (c : CoD) (e : EvD) : Ct Tryd.prog 105 {} [c.sv, e.sv] (fun r => r = [I (mayI c e)]) := by
 refine pmay_nf _ _ _ _ _ _ _ _ _ _ _ _ _ _ _ _ _ _ _ _ _ _ _ _ _ _ _ _ _ (Cl.of (pright_fn c) ⟨_, rfl, ifB_intro (fun h => ?_) (fun h => ?_)⟩)
 ·simp at h; simp [mayI, h]
 simp at h
 refine Cl.of (check_fn e.s e.a e.k e.c e.x e.y e.z) ⟨_, rfl, ifB_intro (fun h1 => ?_) (fun h1 => ?_)⟩
 ·simp at h1
  have h1 : chkE e ≠ 0 := h1
  simp only [mayI, h, h1, not_true_eq_false, if_false, ne_eq, not_false_eq_true, if_true]
  rfl
 simp at h1
 have h1 : chkE e = 0 := h1
 refine Cl.of (role_fn e.k) ⟨_, rfl, ?_⟩
 rw [sne_d]
 refine ifB_intro (fun h2 => ?_) (fun h2 => ifB_intro (fun h3 => ?_) (fun h3 => ifB_intro (fun h4 => ?_) (fun h4 => ifB_intro (fun h5 => ?_) (fun h5 => ?_))))
 ·simp at h2; simp [mayI, h, h1, h2]
 ·simp at h2 h3; simp [mayI, h, h1, h2, h3]
 ·simp at h2 h3 h4; simp [mayI, h, h1, h2, h3, h4]
 ·simp at h2 h3 h5
  have h4' : ¬ (¬ roleI e.k = 0 ∧ ¬ roleI e.k = c.ro) := fun hh => by simp [hh.1, hh.2] at h4
  refine Cl.of (configs_fn c.ro e) ⟨_, rfl, ifB_intro (fun h6 => ?_) (fun h6 => ?_)⟩
  ·simp at h6
   have h2k : (2 : Int) ≠ 1 := by omega
   rw [h5] at h4'
   simp only [mayI, h, h1, h2, h5, h6, h4', not_true_eq_false, if_false, ne_eq, not_false_eq_true, if_true, and_self, h2k]
  ·simp at h6
   rw [h5] at h4'
   have h2k : ¬ (2 : Int) = 1 := by omega
   simp only [mayI, h, h1, h2, h5, h6, h4', not_true_eq_false, if_false, ne_eq, and_false, h2k]
 ·simp at h2 h3 h5
  have h4' : ¬ (¬ roleI e.k = 0 ∧ ¬ roleI e.k = c.ro) := fun hh => by simp [hh.1, hh.2] at h4
  simp only [mayI, h, h1, h2, h3, h5, h4', not_true_eq_false, if_false, ne_eq, false_and]


def cntC (c : CoD) (i : Int) : CoD := { c with c0 := if i = 0 then upI c.c0 1 else c.c0, c1 := if i = 1 then upI c.c1 1 else c.c1, c2 := if i = 2 then upI c.c2 1 else c.c2 }
def hadC (c : CoD) (n : Int) : CoD := if c.his ∧ 0 ≤ n then { c with h0 := hcI n 0 c.h0, h1 := hcI n 1 c.h1, h2 := hcI n 2 c.h2, h3 := hcI n 3 c.h3, h4 := hcI n 4 c.h4, h5 := hcI n 5 c.h5, h6 := hcI n 6 c.h6, h7 := hcI n 7 c.h7, h8 := hcI n 8 c.h8, hs := upI c.hs n } else c
theorem hadC_his (c : CoD) (n : Int) : haddS c.h0 c.h1 c.h2 c.h3 c.h4 c.h5 c.h6 c.h7 c.h8 c.hs n = his10 (hadC c n).h0 (hadC c n).h1 (hadC c n).h2 (hadC c n).h3 (hadC c n).h4 (hadC c n).h5 (hadC c n).h6 (hadC c n).h7 (hadC c n).h8 (hadC c n).hs := by
 unfold haddS hadC CoD.his
 split <;> rfl
theorem hadC_rest (c : CoD) (n : Int) : (hadC c n).nm = c.nm ∧ (hadC c n).ro = c.ro ∧ (hadC c n).mo = c.mo ∧ (hadC c n).wd = c.wd ∧ (hadC c n).sl = c.sl ∧ (hadC c n).cl = c.cl ∧ (hadC c n).rm = c.rm ∧ (hadC c n).ha = c.ha ∧ (hadC c n).c0 = c.c0 ∧ (hadC c n).c1 = c.c1 ∧ (hadC c n).c2 = c.c2 := by
 unfold hadC
 split <;> exact ⟨rfl, rfl, rfl, rfl, rfl, rfl, rfl, rfl, rfl, rfl, rfl⟩

theorem counted_fn (c : CoD) (i : Int) (h0 : 0 ≤ i) (h3 : i < 3) : Ct Tryd.prog 117 {} [c.sv, I i] (fun r => r = [(cntC c i).sv]) := by
 refine counted_nf _ _ _ _ _ _ _ _ _ _ _ _ _ _ _ _ _ _ _ _ _ _ _ ⟨⟨h0, h3⟩, fun e => ?_, fun e => ?_, fun e => ?_, trivial⟩
 ·refine Cl.of (up_fn _ _) ⟨_, rfl, ⟨h0, h3⟩, fun _ => ?_, fun e' => absurd (e.symm.trans e') (by decide), fun e' => absurd (e.symm.trans e') (by decide), trivial⟩
  subst e; rfl
 ·refine Cl.of (up_fn _ _) ⟨_, rfl, ⟨h0, h3⟩, fun e' => absurd (e.symm.trans e') (by decide), fun _ => ?_, fun e' => absurd (e.symm.trans e') (by decide), trivial⟩
  subst e; rfl
 ·refine Cl.of (up_fn _ _) ⟨_, rfl, ⟨h0, h3⟩, fun e' => absurd (e.symm.trans e') (by decide), fun e' => absurd (e.symm.trans e') (by decide), fun _ => ?_, trivial⟩
  subst e; rfl

def winC (c : CoD) (e : EvD) : CoD := { c with sl := (wadS c.wd c.sl c.cl e.a (ieq e.x 0)).1, cl := (wadS c.wd c.sl c.cl e.a (ieq e.x 0)).2 }
def zer (n : Nat) : List (Int × Int) := List.replicate n (0, 0)
def tellC (c : CoD) (e : EvD) : CoD :=
 if e.k = 2 then (if c.ro = 1 then { c with wd := e.x, sl := e.a / e.x, cl := zer e.y.toNat } else if c.ro = 2 then { c with rm := e.x, ha := e.y } else { c with rm := e.x, ha := e.x })
 else if e.k = 3 then cntC (hadC (winC c e) e.y) e.x
 else if e.k = 4 then (if e.x = 0 then { c with mo := e.x, sl := e.a / c.wd, cl := zer c.cl.length } else { c with mo := e.x })
 else if e.k = 5 then cntC { c with ha := takeH c.rm c.ha e.x } 0
 else if e.k = 6 then cntC c 1
 else if e.k = 7 then cntC { c with ha := putH c.rm c.ha e.x } 2
 else if e.k = 8 then cntC { c with mo := e.x, ha := takeH c.rm c.ha 1 } 0
 else if e.k = 9 then cntC (hadC c e.x) 1
 else cntC { c with mo := 0 } 2
def tellR (c : CoD) (e : EvD) : List SV := if mayI c e = 0 then [(tellC c e).sv, I 0] else [c.sv, I (mayI c e)]

structure MayOK (c : CoD) (e : EvD) : Prop where
 right : c.P
 chk : chkE e = 0
 name : e.c = c.nm
 k1 : e.k ≠ 1
 role : roleI e.k = 0 ∨ roleI e.k = c.ro
 cfg : e.k = 2 → cfgP c.ro e
theorem may_zero {c : CoD} {e : EvD} : mayI c e = 0 ↔ MayOK c e := by
 unfold mayI
 constructor
 ·intro h
  split at h
  ·simp at h
  ·split at h
   ·rename_i h1 h2; exact absurd h h2
   ·split at h
    ·simp at h
    ·split at h
     ·simp at h
     ·split at h
      ·simp at h
      ·split at h
       ·simp at h
       ·rename_i h1 h2 h3 h4 h5 h6
        refine ⟨Classical.not_not.1 h1, Classical.not_not.1 h2, Classical.not_not.1 h3, h4, ?_, fun hk => Classical.not_not.1 (fun hn => h6 ⟨hk, hn⟩)⟩
        by_cases hr : roleI e.k = 0
        ·exact .inl hr
        ·exact .inr (Classical.not_not.1 (fun hn => h5 ⟨hr, hn⟩))
 ·rintro ⟨h1, h2, h3, h4, h5, h6⟩
  rw [if_neg (by simp [h1]), if_neg (by simp [h2]), if_neg (by simp [h3]), if_neg h4, if_neg (fun hh => h5.elim hh.1 hh.2), if_neg (fun hh => hh.2 (h6 hh.1))]

theorem chkE_zero {e : EvD} (h : chkE e = 0) : (1 ≤ e.k ∧ e.k ≤ 10) ∧ (1 ≤ e.c.size ∧ e.c.size ≤ 24) ∧ (lo1 e.k ≤ e.x ∧ e.x ≤ hi1 e.k ∧ 0 ≤ e.y ∧ e.y ≤ hi2 e.k ∧ 0 ≤ e.z ∧ e.z ≤ hi3 e.k) ∧ timP e.a ∧ (0 ≤ e.s ∧ e.s ≤ 4294967296) := by
 obtain ⟨h1, h2, h3, h4, h5⟩ := chk0 h
 have h1 : ¬ (e.k < 1 ∨ 10 < e.k) := fun hh => h1 ((many0 _).2 hh)
 have h2 : 1 ≤ e.c.size ∧ e.c.size ≤ 24 := by simpa [namB] using h2
 have h3 : lo1 e.k ≤ e.x ∧ e.x ≤ hi1 e.k ∧ 0 ≤ e.y ∧ e.y ≤ hi2 e.k ∧ 0 ≤ e.z ∧ e.z ≤ hi3 e.k := by simpa [valB] using h3
 exact ⟨by omega, h2, h3, by unfold timP; omega, by omega⟩
theorem hi_le (k : Int) : 0 ≤ lo1 k ∧ hi1 k ≤ 2147483647 ∧ hi2 k ≤ 2147483647 ∧ hi3 k ≤ 2147483647 := by
 unfold lo1 hi1 hi2 hi3
 refine ⟨?_, ?_, ?_, ?_⟩ <;> repeat' split
 all_goals omega

theorem role_of {c : CoD} {e : EvD} (ok : MayOK c e) : (e.k = 3 ∨ e.k = 4 → c.ro = 1) ∧ (e.k = 5 ∨ e.k = 6 ∨ e.k = 7 → c.ro = 2) ∧ (e.k = 8 ∨ e.k = 9 ∨ e.k = 10 → c.ro = 3) := by
 have h := ok.role
 refine ⟨fun hk => ?_, fun hk => ?_, fun hk => ?_⟩
 ·rcases hk with hk | hk <;> rw [hk] at h <;> simp [roleI] at h <;> omega
 ·rcases hk with hk | hk | hk <;> rw [hk] at h <;> simp [roleI] at h <;> omega
 ·rcases hk with hk | hk | hk <;> rw [hk] at h <;> simp [roleI] at h <;> omega
theorem ro_range {c : CoD} (h : c.P) : c.ro = 1 ∨ c.ro = 2 ∨ c.ro = 3 := by
 have := h.2
 unfold CoD.roleP at this
 by_cases h1 : c.ro = 1
 ·exact .inl h1
 ·by_cases h2 : c.ro = 2
  ·exact .inr (.inl h2)
  ·rw [if_neg h1, if_neg h2] at this
   exact .inr (.inr this.1)
theorem right1 {c : CoD} (h : c.P) (h1 : c.ro = 1) : ((0 ≤ c.mo ∧ c.mo ≤ 2) ∧ winP c.wd c.sl c.cl) ∧ c.his ∧ (c.rm = 0 ∧ c.ha = 0) := by
 have := h.2
 unfold CoD.roleP at this
 rwa [if_pos h1] at this
theorem right2 {c : CoD} (h : c.P) (h1 : c.ro = 2) : ((c.mo = 0 ∧ c.bare) ∧ c.his0) ∧ bktP c.rm c.ha := by
 have := h.2
 unfold CoD.roleP at this
 rwa [if_neg (by omega), if_pos h1] at this
theorem right3 {c : CoD} (h : c.P) (h1 : c.ro = 3) : ((0 ≤ c.mo ∧ c.mo ≤ 2147483647) ∧ c.bare) ∧ c.his ∧ bktP c.rm c.ha := by
 have := h.2
 unfold CoD.roleP at this
 rw [if_neg (by omega), if_neg (by omega)] at this
 exact this.2

theorem wnew_cfg {c : CoD} {e : EvD} (ok : MayOK c e) (hk : e.k = 2) (hr : c.ro = 1) : wnewR e.x e.y e.a = [win3 e.x (e.a / e.x) (cR (zer e.y.toNat)), I 0] := by
 obtain ⟨c1, c2, c3, c4, c5⟩ := chkE_zero ok.chk
 have hc := ok.cfg hk
 unfold cfgP at hc
 rw [if_pos hr] at hc
 have := hi_le e.k
 unfold wnewR
 rw [if_pos ⟨by omega, c4⟩]
 rfl
theorem wnew_trip {c : CoD} {e : EvD} (ok : MayOK c e) (hr : c.ro = 1) : wnewR c.wd c.cl.length e.a = [win3 c.wd (e.a / c.wd) (cR (zer c.cl.length)), I 0] := by
 obtain ⟨c1, c2, c3, c4, c5⟩ := chkE_zero ok.chk
 have hw := (right1 ok.right hr).1.2
 unfold wnewR
 rw [if_pos ⟨⟨hw.1, by have := hw.2.2.1; omega⟩, c4⟩]
 rfl
theorem bnew_ok {rm ha : Int} (h : bktP rm ha) : bnewR rm ha = [bkt2 rm ha, I 0] := by unfold bnewR; rw [if_pos h]

theorem config_fn (c : CoD) (e : EvD) (ok : MayOK c e) (hk : e.k = 2) : Ct Tryd.prog 114 {} [c.sv, e.sv] (fun r => r = [(tellC c e).sv]) := by
 obtain ⟨c1, c2, c3, c4, c5⟩ := chkE_zero ok.chk
 have hc := ok.cfg hk
 have hlo := hi_le e.k
 unfold tellC
 rw [if_pos hk]
 refine config_nf _ _ _ _ _ _ _ _ _ _ _ _ _ _ _ _ _ _ _ _ _ _ _ _ _ _ _ _ _ (ifB_intro (fun h1 => ?_) (fun h1 => ifB_intro (fun h2 => ?_) (fun h2 => ifB_intro (fun h3 => ?_) (fun h3 => ?_))))
 ·simp at h1
  have hw := wnew_fn e.x e.y e.a
  rw [wnew_cfg ok hk h1] at hw
  refine Cl.of hw ⟨_, _, _, _, rfl, ?_⟩
  rw [if_pos h1]
 ·simp at h1 h2
  unfold cfgP at hc
  rw [if_neg h1, if_pos h2] at hc
  have hw := bnew_fn e.x e.y
  rw [bnew_ok (by unfold bktP; omega)] at hw
  refine Cl.of hw ⟨_, _, _, rfl, ?_⟩
  rw [if_neg h1, if_pos h2]
 ·simp at h1 h2 h3
  have hw := bnew_fn e.x e.x
  rw [bnew_ok (by unfold bktP; omega)] at hw
  refine Cl.of hw ⟨_, _, _, rfl, ?_⟩
  rw [if_neg h1, if_neg h2]
 ·simp at h1 h2 h3
  have := ro_range ok.right
  omega


theorem wadd_ok {c : CoD} {e : EvD} (ok : MayOK c e) (hr : c.ro = 1) (b : Bool) : waddR c.wd c.sl c.cl e.a b = [win3 c.wd (wadS c.wd c.sl c.cl e.a b).1 (cR (wadS c.wd c.sl c.cl e.a b).2), I 0] := by
 unfold waddR
 rw [if_pos ⟨(right1 ok.right hr).1.2, (chkE_zero ok.chk).2.2.2.1⟩]

theorem ptell_fn (c : CoD) (e : EvD) : Ct Tryd.prog 58 {} [c.sv, e.sv] (fun r => r = tellR c e) := by
 refine ptell_nf _ _ _ _ _ _ _ _ _ _ _ _ _ _ _ _ _ _ _ _ _ _ _ _ _ _ _ _ _ (Cl.of (pmay_fn c e) ⟨_, rfl, ifB_intro (fun h => ?_) (fun h => ?_)⟩)
 ·simp at h
  unfold tellR; rw [if_neg h]
 simp at h
 have ok := may_zero.1 h
 obtain ⟨r1, r2, r3⟩ := role_of ok
 obtain ⟨k0, _, kv, _, _⟩ := chkE_zero ok.chk
 have hlo := hi_le e.k
 unfold tellR
 rw [if_pos h]
 refine ifB_intro (fun k2 => ?_) (fun k2 => ifB_intro (fun k3 => ?_) (fun k3 => ifB_intro (fun k4 => ?_) (fun k4 => ifB_intro (fun k5 => ?_) (fun k5 => ifB_intro (fun k6 => ?_) (fun k6 => ifB_intro (fun k7 => ?_) (fun k7 => ifB_intro (fun k8 => ?_) (fun k8 => ifB_intro (fun k9 => ?_) (fun k9 => ifB_intro (fun k10 => ?_) (fun k10 => ?_)))))))))
 ·simp at k2
  exact Cl.of (config_fn c e ok k2) ⟨_, _, _, _, _, _, _, _, _, _, _, _, _, _, _, _, _, _, _, _, _, rfl, rfl⟩
 ·simp at k2 k3
  have hr := r1 (.inl k3)
  have hw := wadd_fn c.wd c.sl c.cl e.a (ieq e.x 0)
  rw [wadd_ok ok hr] at hw
  refine Cl.of hw ⟨_, _, _, _, rfl, ?_⟩
  have hh := hadd_fn c.h0 c.h1 c.h2 c.h3 c.h4 c.h5 c.h6 c.h7 c.h8 c.hs e.y
  have eh : haddS c.h0 c.h1 c.h2 c.h3 c.h4 c.h5 c.h6 c.h7 c.h8 c.hs e.y = _ := hadC_his (winC c e) e.y
  rw [eh] at hh
  refine Cl.of hh ⟨_, _, _, _, _, _, _, _, _, _, rfl, ?_⟩
  have hx : 0 ≤ e.x ∧ e.x < 3 := by
   rw [k3] at kv
   simp [lo1, hi1] at kv
   omega
  have q := counted_fn (hadC (winC c e) e.y) e.x hx.1 hx.2
  obtain ⟨e1, e2, e3, e4, e5, e6, e7, e8, e9, e10, e11⟩ := hadC_rest (winC c e) e.y
  have esv : (hadC (winC c e) e.y).sv = SV.agg [S c.nm, I c.ro, I c.mo, I c.wd, I (winC c e).sl, SL 2 (cR (winC c e).cl), I (hadC (winC c e) e.y).h0, I (hadC (winC c e) e.y).h1, I (hadC (winC c e) e.y).h2, I (hadC (winC c e) e.y).h3, I (hadC (winC c e) e.y).h4, I (hadC (winC c e) e.y).h5, I (hadC (winC c e) e.y).h6, I (hadC (winC c e) e.y).h7, I (hadC (winC c e) e.y).h8, I (hadC (winC c e) e.y).hs, I c.rm, I c.ha, I c.c0, I c.c1, I c.c2] := by
   unfold CoD.sv
   rw [e1, e2, e3, e4, e5, e6, e7, e8, e9, e10, e11]
   rfl
  rw [esv] at q
  refine Cl.of q ⟨_, _, _, _, _, _, _, _, _, _, _, _, _, _, _, _, _, _, _, _, _, rfl, ?_⟩
  have et : tellC c e = cntC (hadC (winC c e) e.y) e.x := by unfold tellC; rw [if_neg k2, if_pos k3]
  rw [et]
 ·simp at k2 k3 k4
  have hr := r1 (.inr k4)
  refine ifB_intro (fun hx => ?_) (fun hx => ?_)
  ·simp at hx
   rw [rlen_cR]
   have hw := wnew_fn c.wd c.cl.length e.a
   rw [wnew_trip ok hr] at hw
   refine Cl.of hw ⟨_, _, _, _, rfl, ?_⟩
   have et : tellC c e = { c with mo := e.x, sl := e.a / c.wd, cl := zer c.cl.length } := by unfold tellC; rw [if_neg k2, if_neg k3, if_pos k4, if_pos hx]
   rw [et]
  ·simp at hx
   have et : tellC c e = { c with mo := e.x } := by unfold tellC; rw [if_neg k2, if_neg k3, if_pos k4, if_neg hx]
   rw [et]
 ·simp at k2 k3 k4 k5
  refine Cl.of (btake_fn c.rm c.ha e.x) ⟨_, _, _, rfl, ?_⟩
  refine Cl.of (counted_fn { c with ha := takeH c.rm c.ha e.x } 0 (by omega) (by omega)) ⟨_, _, _, _, _, _, _, _, _, _, _, _, _, _, _, _, _, _, _, _, _, rfl, ?_⟩
  have et : tellC c e = cntC { c with ha := takeH c.rm c.ha e.x } 0 := by unfold tellC; rw [if_neg k2, if_neg k3, if_neg k4, if_pos k5]
  rw [et]
 ·simp at k2 k3 k4 k5 k6
  refine Cl.of (counted_fn c 1 (by omega) (by omega)) ⟨_, _, _, _, _, _, _, _, _, _, _, _, _, _, _, _, _, _, _, _, _, rfl, ?_⟩
  have et : tellC c e = cntC c 1 := by unfold tellC; rw [if_neg k2, if_neg k3, if_neg k4, if_neg k5, if_pos k6]
  rw [et]
 ·simp at k2 k3 k4 k5 k6 k7
  refine Cl.of (bput_fn c.rm c.ha e.x) ⟨_, _, rfl, ?_⟩
  refine Cl.of (counted_fn { c with ha := putH c.rm c.ha e.x } 2 (by omega) (by omega)) ⟨_, _, _, _, _, _, _, _, _, _, _, _, _, _, _, _, _, _, _, _, _, rfl, ?_⟩
  have et : tellC c e = cntC { c with ha := putH c.rm c.ha e.x } 2 := by unfold tellC; rw [if_neg k2, if_neg k3, if_neg k4, if_neg k5, if_neg k6, if_pos k7]
  rw [et]
 ·simp at k2 k3 k4 k5 k6 k7 k8
  refine Cl.of (btake_fn c.rm c.ha 1) ⟨_, _, _, rfl, ?_⟩
  refine Cl.of (counted_fn { c with mo := e.x, ha := takeH c.rm c.ha 1 } 0 (by omega) (by omega)) ⟨_, _, _, _, _, _, _, _, _, _, _, _, _, _, _, _, _, _, _, _, _, rfl, ?_⟩
  have et : tellC c e = cntC { c with mo := e.x, ha := takeH c.rm c.ha 1 } 0 := by unfold tellC; rw [if_neg k2, if_neg k3, if_neg k4, if_neg k5, if_neg k6, if_neg k7, if_pos k8]
  rw [et]
 ·simp at k2 k3 k4 k5 k6 k7 k8 k9
  have hh := hadd_fn c.h0 c.h1 c.h2 c.h3 c.h4 c.h5 c.h6 c.h7 c.h8 c.hs e.x
  rw [hadC_his c e.x] at hh
  refine Cl.of hh ⟨_, _, _, _, _, _, _, _, _, _, rfl, ?_⟩
  have q := counted_fn (hadC c e.x) 1 (by omega) (by omega)
  obtain ⟨e1, e2, e3, e4, e5, e6, e7, e8, e9, e10, e11⟩ := hadC_rest c e.x
  have esv : (hadC c e.x).sv = SV.agg [S c.nm, I c.ro, I c.mo, I c.wd, I c.sl, SL 2 (cR c.cl), I (hadC c e.x).h0, I (hadC c e.x).h1, I (hadC c e.x).h2, I (hadC c e.x).h3, I (hadC c e.x).h4, I (hadC c e.x).h5, I (hadC c e.x).h6, I (hadC c e.x).h7, I (hadC c e.x).h8, I (hadC c e.x).hs, I c.rm, I c.ha, I c.c0, I c.c1, I c.c2] := by
   unfold CoD.sv
   rw [e1, e2, e3, e4, e5, e6, e7, e8, e9, e10, e11]
  rw [esv] at q
  refine Cl.of q ⟨_, _, _, _, _, _, _, _, _, _, _, _, _, _, _, _, _, _, _, _, _, rfl, ?_⟩
  have et : tellC c e = cntC (hadC c e.x) 1 := by unfold tellC; rw [if_neg k2, if_neg k3, if_neg k4, if_neg k5, if_neg k6, if_neg k7, if_neg k8, if_pos k9]
  rw [et]
 ·simp at k2 k3 k4 k5 k6 k7 k8 k9 k10
  refine Cl.of (counted_fn { c with mo := 0 } 2 (by omega) (by omega)) ⟨_, _, _, _, _, _, _, _, _, _, _, _, _, _, _, _, _, _, _, _, _, rfl, ?_⟩
  have et : tellC c e = cntC { c with mo := 0 } 2 := by unfold tellC; rw [if_neg k2, if_neg k3, if_neg k4, if_neg k5, if_neg k6, if_neg k7, if_neg k8, if_neg k9]
  rw [et]
 ·simp at k2 k3 k4 k5 k6 k7 k8 k9 k10
  have := ok.k1
  omega


def plcOK (c : CoD) (e : EvD) (p : Int) (d : CoD) : Prop := (p = -1 ∧ d = tellC c e) ∨ ((0 ≤ p ∧ p < 3) ∧ cntC d p = tellC c e)

def sameP (c d : CoD) : Prop := c.nm = d.nm ∧ c.ro = d.ro ∧ c.mo = d.mo ∧ c.wd = d.wd ∧ c.sl = d.sl ∧ c.cl = d.cl ∧ c.h0 = d.h0 ∧ c.h1 = d.h1 ∧ c.h2 = d.h2 ∧ c.h3 = d.h3 ∧ c.h4 = d.h4 ∧ c.h5 = d.h5 ∧ c.h6 = d.h6 ∧ c.h7 = d.h7 ∧ c.h8 = d.h8 ∧ c.hs = d.hs ∧ c.rm = d.rm ∧ c.ha = d.ha ∧ c.c0 = d.c0 ∧ c.c1 = d.c1 ∧ c.c2 = d.c2
instance (c d : CoD) : Decidable (sameP c d) := by unfold sameP; infer_instance

theorem qshort_fn (c : CoD) : Ct Tryd.prog 49 {} [c.sv] (fun r => r = [B (decide (c.nm.size ≤ 100 ∧ c.cl.length ≤ 40))]) := by
 refine qshort_nf _ _ _ _ _ _ _ _ _ _ _ _ _ _ _ _ _ _ _ _ _ _ ?_
 refine congrArg (fun b => [B b]) ?_
 rw [Bool.eq_iff_iff, decide_eq_true_eq]
 simp [slen_eq]
 omega


def tellD (c : CoD) (e : EvD) : CoD := if mayI c e = 0 then tellC c e else c
theorem addL_len (cl : List (Int × Int)) (p : Int) (ok : Bool) : (addL cl p ok).length = cl.length := by simp [addL]
theorem wadS_len (wd sl : Int) (cl : List (Int × Int)) (a : Int) (ok : Bool) : (wadS wd sl cl a ok).2.length = cl.length := by
 unfold wadS
 repeat' split
 all_goals simp [addL_len, mvL_len]

theorem P_cnt {c : CoD} (i : Int) (h : c.P) : (cntC c i).P := by
 refine ⟨⟨h.1.1, ?_, ?_, ?_⟩, h.2⟩
 ·show heldP (if i = 0 then upI c.c0 1 else c.c0)
  split
  ·exact up_held _ _
  ·exact h.1.2.1
 ·show heldP (if i = 1 then upI c.c1 1 else c.c1)
  split
  ·exact up_held _ _
  ·exact h.1.2.2.1
 ·show heldP (if i = 2 then upI c.c2 1 else c.c2)
  split
  ·exact up_held _ _
  ·exact h.1.2.2.2

theorem hc_held {n k v : Int} (h : heldP v) : heldP (hcI n k v) := by
 unfold hcI
 split
 ·exact up_held _ _
 ·exact h
theorem his_had {c : CoD} (n : Int) (h : c.his) : (hadC c n).his := by
 unfold hadC
 split
 ·obtain ⟨a0, a1, a2, a3, a4, a5, a6, a7, a8, a9⟩ := h
  exact ⟨hc_held a0, hc_held a1, hc_held a2, hc_held a3, hc_held a4, hc_held a5, hc_held a6, hc_held a7, hc_held a8, up_held _ _⟩
 ·exact h
theorem cells_zer (n : Nat) : cellsP (zer n) := fun c hc => by
 rw [(List.mem_replicate.1 hc).2]
 exact ⟨⟨by decide, by decide⟩, ⟨by decide, by decide⟩⟩
theorem tim_div {a w : Int} (h : timP a) (hw : 1 ≤ w) : timP (a / w) := by
 refine ⟨Int.ediv_nonneg h.1 (by omega), ?_⟩
 have h1 : a / w ≤ a := Int.ediv_le_self w h.1
 have := h.2
 omega
theorem cells_add {cl : List (Int × Int)} (h : cellsP cl) (i : Int) (ok : Bool) : cellsP (addL cl i ok) := by
 intro c hc
 rcases List.mem_or_eq_of_mem_set hc with hc | rfl
 ·exact h c hc
 ·have : heldP (ceAt cl i).1 ∧ heldP (ceAt cl i).2 := by
   unfold ceAt
   rw [List.getD_eq_getElem?_getD]
   cases e : cl[i.toNat]? with
   | none => exact ⟨⟨by decide, by decide⟩, ⟨by decide, by decide⟩⟩
   | some v => exact h v (List.mem_of_getElem? e)
  unfold ceU
  cases ok
  ·exact ⟨this.1, up_held _ _⟩
  ·exact ⟨up_held _ _, this.2⟩
theorem cells_mv {cl : List (Int × Int)} (h : cellsP cl) (sl slot : Int) : cellsP (mvL sl slot cl) := by
 intro c hc
 simp only [mvL, List.mem_map, List.mem_range] at hc
 obtain ⟨p, hp, rfl⟩ := hc
 split
 ·exact ⟨⟨by decide, by decide⟩, ⟨by decide, by decide⟩⟩
 ·rw [List.getD_eq_getElem?_getD, List.getElem?_eq_getElem hp]
  exact h _ (List.getElem_mem hp)
theorem win_wad {wd sl a : Int} {cl : List (Int × Int)} (h : winP wd sl cl) (ha : timP a) (ok : Bool) : winP wd (wadS wd sl cl a ok).1 (wadS wd sl cl a ok).2 := by
 obtain ⟨h1, h2, h3, h4⟩ := h
 refine ⟨h1, ?_, by rw [wadS_len]; exact h3, ?_⟩
 ·unfold wadS
  split
  ·split <;> exact h2
  ·exact tim_div ha h1.1
 ·unfold wadS
  split
  ·split
   ·exact h4
   ·exact cells_add h4 _ _
  ·exact cells_add (cells_mv h4 _ _) _ _

theorem bkt_take {rm ha n : Int} (h : bktP rm ha) : bktP rm (takeH rm ha n) := by
 unfold takeH
 split
 ·unfold bktP at *; omega
 ·exact h
theorem bkt_put {rm ha n : Int} (h : bktP rm ha) : bktP rm (putH rm ha n) := by
 unfold putH
 split
 ·unfold bktP at *; omega
 ·exact h

theorem P1 {c : CoD} (hn : namB c.nm = true) (hc : c.cntP) (hr : c.ro = 1) (h : ((0 ≤ c.mo ∧ c.mo ≤ 2) ∧ winP c.wd c.sl c.cl) ∧ c.his ∧ (c.rm = 0 ∧ c.ha = 0)) : c.P := ⟨⟨hn, hc⟩, by unfold CoD.roleP; rw [if_pos hr]; exact h⟩
theorem P2 {c : CoD} (hn : namB c.nm = true) (hc : c.cntP) (hr : c.ro = 2) (h : ((c.mo = 0 ∧ c.bare) ∧ c.his0) ∧ bktP c.rm c.ha) : c.P := ⟨⟨hn, hc⟩, by unfold CoD.roleP; rw [if_neg (by omega), if_pos hr]; exact h⟩
theorem P3 {c : CoD} (hn : namB c.nm = true) (hc : c.cntP) (hr : c.ro = 3) (h : ((0 ≤ c.mo ∧ c.mo ≤ 2147483647) ∧ c.bare) ∧ c.his ∧ bktP c.rm c.ha) : c.P := ⟨⟨hn, hc⟩, by unfold CoD.roleP; rw [if_neg (by omega), if_neg (by omega)]; exact ⟨hr, h⟩⟩

theorem tell_P {c : CoD} {e : EvD} (ok : MayOK c e) : (tellC c e).P := by
 have hP := ok.right
 obtain ⟨r1, r2, r3⟩ := role_of ok
 obtain ⟨k0, _, kv, ha, _⟩ := chkE_zero ok.chk
 have hlo := hi_le e.k
 have hn := hP.1.1
 have hc := hP.1.2
 unfold tellC
 split
 ·rename_i k2
  have cfg := ok.cfg k2
  unfold cfgP at cfg
  split
  ·rename_i hr
   rw [if_pos hr] at cfg
   have q := right1 hP hr
   refine P1 hn hc hr ⟨⟨q.1.1, ⟨⟨cfg.1.1.1, by show e.x ≤ _; omega⟩, tim_div ha cfg.1.1.1, ?_, cells_zer _⟩⟩, q.2⟩
   simp only [zer, List.length_replicate]; omega
  ·split
   ·rename_i hr1 hr
    rw [if_neg hr1, if_pos hr] at cfg
    have q := right2 hP hr
    refine P2 hn hc hr ⟨q.1, ?_⟩
    show bktP e.x e.y
    unfold bktP; omega
   ·rename_i hr1 hr2
    have hr : c.ro = 3 := by have := ro_range hP; omega
    have q := right3 hP hr
    refine P3 hn hc hr ⟨q.1, q.2.1, ?_⟩
    show bktP e.x e.x
    unfold bktP; omega
 ·split
  ·rename_i k2 k3
   have hr := r1 (.inl k3)
   have q := right1 hP hr
   obtain ⟨e1, e2, e3, e4, e5, e6, e7, e8, e9, e10, e11⟩ := hadC_rest (winC c e) e.y
   refine P_cnt _ (P1 (by rw [e1]; exact hn) ⟨by rw [e9]; exact hc.1, by rw [e10]; exact hc.2.1, by rw [e11]; exact hc.2.2⟩ (by rw [e2]; exact hr) ⟨⟨by rw [e3]; exact q.1.1, ?_⟩, his_had _ q.2.1, by rw [e7, e8]; exact q.2.2⟩)
   rw [e4, e5, e6]
   exact win_wad q.1.2 ha _
  ·split
   ·rename_i k2 k3 k4
    have hr := r1 (.inr k4)
    have q := right1 hP hr
    have hx : 0 ≤ e.x ∧ e.x ≤ 2 := by
     rw [k4] at kv
     simp [lo1, hi1] at kv
     omega
    split
    ·refine P1 hn hc hr ⟨⟨hx, ⟨q.1.2.1, tim_div ha q.1.2.1.1, ?_, cells_zer _⟩⟩, q.2⟩
     simp only [zer, List.length_replicate]; exact q.1.2.2.2.1
    ·exact P1 hn hc hr ⟨⟨hx, q.1.2⟩, q.2⟩
   ·split
    ·rename_i k5
     have hr := r2 (.inl k5)
     have q := right2 hP hr
     exact P_cnt _ (P2 hn hc hr ⟨q.1, bkt_take q.2⟩)
    ·split
     ·exact P_cnt _ hP
     ·split
      ·rename_i k7
       have hr := r2 (.inr (.inr k7))
       have q := right2 hP hr
       exact P_cnt _ (P2 hn hc hr ⟨q.1, bkt_put q.2⟩)
      ·split
       ·rename_i k8
        have hr := r3 (.inl k8)
        have q := right3 hP hr
        exact P_cnt _ (P3 hn hc hr ⟨⟨⟨by show 0 ≤ e.x; omega, by show e.x ≤ _; omega⟩, q.1.2⟩, q.2.1, bkt_take q.2.2⟩)
       ·split
        ·rename_i k9
         have hr := r3 (.inr (.inl k9))
         have q := right3 hP hr
         obtain ⟨e1, e2, e3, e4, e5, e6, e7, e8, e9, e10, e11⟩ := hadC_rest c e.x
         refine P_cnt _ (P3 (by rw [e1]; exact hn) ⟨by rw [e9]; exact hc.1, by rw [e10]; exact hc.2.1, by rw [e11]; exact hc.2.2⟩ (by rw [e2]; exact hr) ⟨⟨by rw [e3]; exact q.1.1, ?_⟩, his_had _ q.2.1, by rw [e7, e8]; exact q.2.2⟩)
         unfold CoD.bare
         rw [e4, e5, e6]
         exact q.1.2
        ·have k1 := ok.k1
         have hr : c.ro = 3 := r3 (.inr (.inr (by omega)))
         have q := right3 hP hr
         exact P_cnt _ (P3 hn hc hr ⟨⟨⟨by show (0 : Int) ≤ 0; decide, by show (0 : Int) ≤ _; decide⟩, q.1.2⟩, q.2⟩)

theorem tell_nm (c : CoD) (e : EvD) : (tellC c e).nm = c.nm ∧ (tellC c e).ro = c.ro := by
 have hh := fun (d : CoD) (n : Int) => hadC_rest d n
 unfold tellC
 repeat' split
 all_goals first | exact ⟨rfl, rfl⟩ | exact ⟨(hh _ _).1, (hh _ _).2.1⟩

end Go.Proofs.YtknnooannohflaaDoor.Cmp

/- Printed conditions of functions. -/
import Derived.Test.YtknnooannohflaaGreatDoorPxIK
import Derived.Test.YtknnooannohflaaGreatDoorProg
import Derived.Conc.DeferLaws
import Derived.Test.YtknnooannohflaaGreatDoorEvA
import Derived.Test.YtknnooannohflaaGreatDoorDkA
namespace Go.Proofs.YtknnooannohflaaGreatDoor.Met
open Go Go.Px Go.Proofs 
set_option maxRecDepth 100000
set_option linter.unusedVariables false

abbrev st3 (rows : List (List SV)) (s a : Int) : SV := .agg [SL 21 rows, I s, I a]
abbrev ev7 (s a k : Int) (c : ByteArray) (x y z : Int) : SV := .agg [I s, I a, I k, S c, I x, I y, I z]
abbrev co21 (cnm : ByteArray) (crl cmd cwd csl : Int) (ccl : List (List SV)) (h0 h1 h2 h3 h4 h5 h6 h7 h8 hs br bh t0 t1 t2 : Int) : SV := .agg [S cnm, I crl, I cmd, I cwd, I csl, SL 2 ccl, I h0, I h1, I h2, I h3, I h4, I h5, I h6, I h7, I h8, I hs, I br, I bh, I t0, I t1, I t2]
abbrev fa4 (n hp : ByteArray) (t : Int) (ss : List (List SV)) : SV := .agg [S n, S hp, I t, SL 3 ss]
abbrev sa3 (n : ByteArray) (ls : List (List SV)) (v : Int) : SV := .agg [S n, SL 2 ls, I v]
def SgT : FuncId → Sig := (fun f => {})
def SvT : TypeId → Sig := (fun f => {})

theorem msame_nf (x y : LL) (Q : List SV → Prop) (h : Cl Tryz.prog 46 sP ([SL 4 x, SL 4 y, SV.clo 47 []]) (fun rs => ∃ b, (rs = [B b]) ∧ (Q [B b]))) : Ct Tryz.prog 21 {} [SL 4 x, SL 4 y] Q :=
 fn_of (f := 21) SgT SvT (fun _ => none) Tryz.f21 Tryz.func21 (by kernel_rfl) (by kernel_rfl) h

theorem msame1_nf (n hp : ByteArray) (t : Int) (ss : LL) (n2 h2 : ByteArray) (t2 : Int) (ss2 : LL) (Q : List SV → Prop) (h : ifB (bpick (bpick (seq n n2) (seq hp h2) false) (ieq t t2) false) (Cl Tryz.prog 48 sP ([SL 3 ss, SL 3 ss2, SV.clo 49 []]) (fun rs => ∃ b, (rs = [B b]) ∧ (Q [B b]))) (Q [B false])) : Ct Tryz.prog 47 {} [fa4 n hp t ss, fa4 n2 h2 t2 ss2] Q :=
 fn_of (f := 47) SgT SvT (fun _ => none) Tryz.f47 Tryz.func47 (by kernel_rfl) (by kernel_rfl) h

theorem malike_nf (n : ByteArray) (ls : LL) (v : Int) (n2 : ByteArray) (ls2 : LL) (v2 : Int) (Q : List SV → Prop) (h : ifB (bpick (seq n n2) (ieq v v2) false) (Cl Tryz.prog 82 sP [SL 2 ls, SL 2 ls2] (fun rs => ∃ b, (rs = [B b]) ∧ (Q [B b]))) (Q [B false])) : Ct Tryz.prog 49 {} [sa3 n ls v, sa3 n2 ls2 v2] Q :=
 fn_of (f := 49) SgT SvT (fun _ => none) Tryz.f49 Tryz.func49 (by kernel_rfl) (by kernel_rfl) h

theorem meql_nf (x y : LL) (Q : List SV → Prop) (h : ifB (ine (rlen x) (rlen y)) (Q [B false]) (∃ Inv : Bool → Int → Prop, ∃ m : Bool → Int → Nat, (Inv false 0) ∧ (∀ b x1, (Inv b x1) → ifB (ilt x1 (rlen x)) ((((0 : Int) ≤ x1) ∧ (x1 < (rlen x))) ∧ (∃ s s1, (rget x x1 = [S s, S s1]) ∧ ((((0 : Int) ≤ x1) ∧ (x1 < (rlen y))) ∧ (∃ s2 s3, (rget y x1 = [S s2, S s3]) ∧ (ifB (bnot (band (seq s s2) (band (seq s1 s3) true))) (Q [B false]) (((Option.some [] : Option (LL)) = Option.some []) ∧ ((Inv b (wadd .i64 x1 1)) ∧ (Nat.le (Nat.succ (m b (wadd .i64 x1 1))) (m b x1))))))))) (Q [B true])))) : Ct Tryz.prog 82 {} [SL 2 x, SL 2 y] Q :=
 fn_of (f := 82) SgT SvT (fun _ => none) Tryz.f82 Tryz.func82 (by kernel_rfl) (by kernel_rfl) h

theorem meqff_nf (x y : LL) (Q : List SV → Prop) (h : ifB (ine (rlen x) (rlen y)) (Q [B false]) (∃ Inv : Bool → Int → Prop, ∃ m : Bool → Int → Nat, (Inv false 0) ∧ (∀ b x1, (Inv b x1) → ifB (ilt x1 (rlen x)) ((((0 : Int) ≤ x1) ∧ (x1 < (rlen x))) ∧ (∃ s s1, ∃ x2 l, (rget x x1 = [S s, S s1, I x2, SL 3 l]) ∧ ((((0 : Int) ≤ x1) ∧ (x1 < (rlen y))) ∧ (∃ s2 s3, ∃ x3 l1, (rget y x1 = [S s2, S s3, I x3, SL 3 l1]) ∧ (Cl Tryz.prog 47 sP ([SV.agg [S s, S s1, I x2, SL 3 l], SV.agg [S s2, S s3, I x3, SL 3 l1]]) (fun rs => ∃ b1, (rs = [B b1]) ∧ (ifB (bnot b1) (Q [B false]) (((Option.some [] : Option (LL)) = Option.some []) ∧ ((Inv b (wadd .i64 x1 1)) ∧ (Nat.le (Nat.succ (m b (wadd .i64 x1 1))) (m b x1))))))))))) (Q [B true])))) : Ct Tryz.prog 46 {} [SL 4 x, SL 4 y, .clo 47 []] Q :=
 fn_of (f := 46) SgT SvT (fun _ => none) Tryz.f46 Tryz.func46 (by kernel_rfl) (by kernel_rfl) h

theorem meqfs_nf (x y : LL) (Q : List SV → Prop) (h : ifB (ine (rlen x) (rlen y)) (Q [B false]) (∃ Inv : Bool → Int → Prop, ∃ m : Bool → Int → Nat, (Inv false 0) ∧ (∀ b x1, (Inv b x1) → ifB (ilt x1 (rlen x)) ((((0 : Int) ≤ x1) ∧ (x1 < (rlen x))) ∧ (∃ s l x2, (rget x x1 = [S s, SL 2 l, I x2]) ∧ ((((0 : Int) ≤ x1) ∧ (x1 < (rlen y))) ∧ (∃ s1 l1 x3, (rget y x1 = [S s1, SL 2 l1, I x3]) ∧ (Cl Tryz.prog 49 sP ([SV.agg [S s, SL 2 l, I x2], SV.agg [S s1, SL 2 l1, I x3]]) (fun rs => ∃ b1, (rs = [B b1]) ∧ (ifB (bnot b1) (Q [B false]) (((Option.some [] : Option (LL)) = Option.some []) ∧ ((Inv b (wadd .i64 x1 1)) ∧ (Nat.le (Nat.succ (m b (wadd .i64 x1 1))) (m b x1))))))))))) (Q [B true])))) : Ct Tryz.prog 48 {} [SL 3 x, SL 3 y, .clo 49 []] Q :=
 fn_of (f := 48) SgT SvT (fun _ => none) Tryz.f48 Tryz.func48 (by kernel_rfl) (by kernel_rfl) h

theorem mall_nf (l : LL) (Q : List SV → Prop) (h : ifB (igt (rlen l) 40) (Q [B false]) (∃ Inv : Bool → Int → Prop, ∃ m : Bool → Int → Nat, (Inv false 0) ∧ (∀ b x, (Inv b x) → ifB (ilt x (rlen l)) ((((0 : Int) ≤ x) ∧ (x < (rlen l))) ∧ (∃ s s1, ∃ x1 l1, (rget l x = [S s, S s1, I x1, SL 3 l1]) ∧ (Cl Tryz.prog 29 sP ([SV.agg [S s, S s1, I x1, SL 3 l1]]) (fun rs => ∃ b1, (rs = [B b1]) ∧ (ifB (bnot b1) (Q [B false]) (ifB (igt x 0) ((((0 : Int) ≤ (wsub .i64 x 1)) ∧ ((wsub .i64 x 1) < (rlen l))) ∧ (∃ s2 s3, ∃ x2 l2, (rget l (wsub .i64 x 1) = [S s2, S s3, I x2, SL 3 l2]) ∧ (ifB (sge s2 s) (Q [B false]) (((Option.some [] : Option (LL)) = Option.some []) ∧ ((Inv b (wadd .i64 x 1)) ∧ (Nat.le (Nat.succ (m b (wadd .i64 x 1))) (m b x))))))) (((Option.some [] : Option (LL)) = Option.some []) ∧ ((Inv b (wadd .i64 x 1)) ∧ (Nat.le (Nat.succ (m b (wadd .i64 x 1))) (m b x)))))))))) (Q [B true])))) : Ct Tryz.prog 20 {} [SL 4 l] Q :=
 fn_of (f := 20) SgT SvT (fun _ => none) Tryz.f20 Tryz.func20 (by kernel_rfl) (by kernel_rfl) h

theorem mright_nf (n hp : ByteArray) (t : Int) (ss : LL) (Q : List SV → Prop) (h : Cl Tryz.prog 24 sP [S n] (fun rs => ∃ b, (rs = [B b]) ∧ (ifB (bpick (bnot b) true (igt (slen hp) 200)) (Q [B false]) (ifB (bpick (ilt t 1) true (igt t 3)) (Q [B false]) (ifB (bpick (ilt (rlen ss) 1) true (igt (rlen ss) 400)) (Q [B false]) (∃ Inv : Bool → Int → Prop, ∃ m : Bool → Int → Nat, (Inv false 0) ∧ (∀ b1 x, (Inv b1 x) → ifB (ilt x (rlen ss)) ((((0 : Int) ≤ x) ∧ (x < (rlen ss))) ∧ (∃ s l x1, (rget ss x = [S s, SL 2 l, I x1]) ∧ (Cl Tryz.prog 26 sP [SL 2 l] (fun rs1 => ∃ b2, (rs1 = [B b2]) ∧ (ifB (bnot b2) (Q [B false]) ((Sm (some ([[S n, S hp, I t, SL 3 ss]]))) ∧ ((Inv b1 (wadd .i64 x 1)) ∧ (Nat.le (Nat.succ (m b1 (wadd .i64 x 1))) (m b1 x))))))))) (ifB (ieq t 3) (Cl Tryz.prog 55 sP ([SV.agg [S n, S hp, I t, SL 3 ss]]) (fun rs1 => ∃ b2, (rs1 = [B b2]) ∧ (Q [B b2]))) (∃ Inv1 : Bool → Int → Prop, ∃ m1 : Bool → Int → Nat, (Inv1 b1 0) ∧ (∀ b2 x1, (Inv1 b2 x1) → ifB (ilt x1 (rlen ss)) ((((0 : Int) ≤ x1) ∧ (x1 < (rlen ss))) ∧ (∃ s l x2, (rget ss x1 = [S s, SL 2 l, I x2]) ∧ (ifB (sne s n) (Q [B false]) (Cl Tryz.prog 53 sP ([SL 2 l, S (ByteArray.mk (Array.mk [108, 101]))]) (fun rs1 => ∃ b3, (rs1 = [B b3]) ∧ (ifB b3 (Q [B false]) ((Sm (some ([[S n, S hp, I t, SL 3 ss]]))) ∧ ((Inv1 b2 (wadd .i64 x1 1)) ∧ (Nat.le (Nat.succ (m1 b2 (wadd .i64 x1 1))) (m1 b2 x1)))))))))) (Q [B true]))))))))))) : Ct Tryz.prog 29 {} [fa4 n hp t ss] Q :=
 fn_of (f := 29) SgT SvT (fun _ => none) Tryz.f29 Tryz.func29 (by kernel_rfl) (by kernel_rfl) h

theorem mnamed_nf (s : ByteArray) (Q : List SV → Prop) (h : ifB (bpick (ilt (slen s) 1) true (igt (slen s) 64)) (Q [B false]) (∃ Inv : Bool → Int → Prop, ∃ m : Bool → Int → Nat, (Inv false 0) ∧ (∀ b x, (Inv b x) → ifB (ilt x (slen s)) ((((0 : Int) ≤ x) ∧ (x < (slen s))) ∧ (ifB (bpick (bnot (bpick (bpick (bpick (ige (sbyte s x) 97) (ile (sbyte s x) 122) false) true (bpick (ige (sbyte s x) 65) (ile (sbyte s x) 90) false)) true (ieq (sbyte s x) 95))) (bpick (bnot (bpick (ige (sbyte s x) 48) (ile (sbyte s x) 57) false)) true (ieq x 0)) false) (Q [B false]) (((Option.some [] : Option (LL)) = Option.some []) ∧ ((Inv b (wadd .i64 x 1)) ∧ (Nat.le (Nat.succ (m b (wadd .i64 x 1))) (m b x)))))) (Q [B true])))) : Ct Tryz.prog 24 {} [S s] Q :=
 fn_of (f := 24) SgT SvT (fun _ => none) Tryz.f24 Tryz.func24 (by kernel_rfl) (by kernel_rfl) h

theorem mlabelled_nf (l : LL) (Q : List SV → Prop) (h : ifB (igt (rlen l) 8) (Q [B false]) (∃ Inv : Bool → Int → Prop, ∃ m : Bool → Int → Nat, (Inv false 0) ∧ (∀ b x, (Inv b x) → ifB (ilt x (rlen l)) ((((0 : Int) ≤ x) ∧ (x < (rlen l))) ∧ (∃ s s1, (rget l x = [S s, S s1]) ∧ (Cl Tryz.prog 24 sP [S s] (fun rs => ∃ b1, (rs = [B b1]) ∧ (ifB (bpick (bnot b1) true (igt (slen s1) 200)) (Q [B false]) ((((0 : Int) ≤ 0) ∧ (((0 : Int) ≤ x) ∧ (x ≤ (rlen l)))) ∧ (Cl Tryz.prog 53 sP [SL 2 (rsub l 0 x), S s] (fun rs1 => ∃ b2, (rs1 = [B b2]) ∧ (ifB b2 (Q [B false]) (((Option.some [] : Option (LL)) = Option.some []) ∧ ((Inv b (wadd .i64 x 1)) ∧ (Nat.le (Nat.succ (m b (wadd .i64 x 1))) (m b x))))))))))))) (Q [B true])))) : Ct Tryz.prog 26 {} [SL 2 l] Q :=
 fn_of (f := 26) SgT SvT (fun _ => none) Tryz.f26 Tryz.func26 (by kernel_rfl) (by kernel_rfl) h

theorem mhas_nf (l : LL) (s : ByteArray) (Q : List SV → Prop) (h : Cl Tryz.prog 92 sP ([SL 2 l, SV.clo 93 ([SV.ref 0 [S s]])]) (fun rs => ∃ b, (rs = [B b]) ∧ (Q [B b]))) : Ct Tryz.prog 53 {} [SL 2 l, S s] Q :=
 fn_of (f := 53) SgT SvT (fun _ => none) Tryz.f53 Tryz.func53 (by kernel_rfl) (by kernel_rfl) h

end Go.Proofs.YtknnooannohflaaGreatDoor.Met

namespace Go.Px
open Go Ieee
set_option maxRecDepth 100000
set_option linter.unusedVariables false

def wW (n : Nat) : Nat := double.nearest false n 0

theorem lp : double.leastPlace = -1074 := by decide
theorem bnd : double.binade = 4503599627370496 := by decide
def lastP (mag : Nat) (place : Int) : Int := max (place + mag.log2 - double.fractionBits) double.leastPlace
end Go.Px

namespace Go.Proofs.YtknnooannohflaaGreatDoor.Met
open Go Go.Px Go.Proofs Cmp
set_option maxRecDepth 100000
set_option linter.unusedVariables false

abbrev nR2 (l : List (Nat × Nat)) : List (List SV) := l.map fun c => [.val (.complex .f64 (wW c.1) (wW c.2))]
def s1 (l : List (Nat × Nat)) : Nat := (l.map (·.1)).sum
def s2 (l : List (Nat × Nat)) : Nat := (l.map (·.2)).sum
abbrev nC (l : List (Int × Int)) : List (Nat × Nat) := l.map fun c => (c.1.toNat, c.2.toNat)
def partI (wd sl : Int) (l : List (Int × Int)) : Int :=
 if winP wd sl l then (if s1 (nC l) + s2 (nC l) = 0 then 0 else wquo .i64 (wmul .i64 1000 (s2 (nC l))) (s1 (nC l) + s2 (nC l) : Nat)) else 0

end Go.Proofs.YtknnooannohflaaGreatDoor.Met

namespace Go.Proofs.YtknnooannohflaaGreatDoor.Met
open Go Go.Px Go.Proofs Cmp Go.Proofs.YtknnooannohflaaGreatDoor.St
set_option maxRecDepth 100000
set_option linter.unusedVariables false

abbrev LaD := ByteArray × ByteArray
structure SmD where
 nm : ByteArray
 ls : List LaD
 v : Int
structure FaD where
 nm : ByteArray
 hp : ByteArray
 ty : Int
 ss : List SmD
abbrev laR (l : List LaD) : List (List SV) := l.map fun p => [S p.1, S p.2]
abbrev SmD.row (x : SmD) : List SV := [S x.nm, SL 2 (laR x.ls), I x.v]
abbrev smR (l : List SmD) : List (List SV) := l.map SmD.row
abbrev FaD.row (f : FaD) : List SV := [S f.nm, S f.hp, I f.ty, SL 3 (smR f.ss)]
abbrev faR (l : List FaD) : List (List SV) := l.map FaD.row

abbrev comN : ByteArray := ByteArray.mk (Array.mk [99, 111, 109, 112, 111, 110, 101, 110, 116])
def labs (c : CoD) (more : List LaD) : List LaD := (comN, c.nm) :: more

def ofC (c : CoD) (roles : List Int) : List CoD := roles.flatMap fun r => if c.ro = r then [c] else []
def ofR (cs : List CoD) (roles : List Int) : List CoD := cs.flatMap fun c => ofC c roles

abbrev rolR (l : List Int) : List (List SV) := l.map fun r => [I r]

def gaugeF (n hp : ByteArray) (cs : List CoD) (roles : List Int) (f : CoD → Int) : FaD := ⟨n, hp, 2, (ofR cs roles).map fun c => ⟨n, labs c [], f c⟩⟩

theorem map_take {α β : Type} (l : List α) (f : α → β) {i : Nat} (h : i < l.length) : (l.take (i + 1)).map f = (l.take i).map f ++ [f l[i]] := by
 rw [List.take_add_one, List.getElem?_eq_getElem h, List.map_append]; rfl

def cnt3 (n lb v0 v1 v2 : ByteArray) (c : CoD) : List SmD := [⟨n, labs c [(lb, v0)], c.c0⟩, ⟨n, labs c [(lb, v1)], c.c1⟩, ⟨n, labs c [(lb, v2)], c.c2⟩]
def counterF (n hp : ByteArray) (cs : List CoD) (role : Int) (lb v0 v1 v2 : ByteArray) : FaD := ⟨n, hp, 1, (ofR cs [role]).flatMap (cnt3 n lb v0 v1 v2)⟩

end Go.Proofs.YtknnooannohflaaGreatDoor.Met

namespace Go.Proofs.YtknnooannohflaaGreatDoor.Met
open Go Go.Px Go.Proofs 
set_option maxRecDepth 100000
set_option linter.unusedVariables false

theorem mcf_nf (l : LL) (s : ByteArray) (Q : List SV → Prop) (h : Cl Tryz.prog 145 sP ([SL 2 l, SV.clo 93 ([SV.ref 0 [S s]])]) (fun rs => ∃ x, (rs = [I x]) ∧ (Q [B (ige x 0)]))) : Ct Tryz.prog 92 {} [SL 2 l, .clo 93 [.ref 0 [S s]]] Q :=
 fn_of (f := 92) SgT SvT (fun _ => none) Tryz.f92 Tryz.func92 (by kernel_rfl) (by kernel_rfl) h

theorem mhas1_nf (k v s : ByteArray) (Q : List SV → Prop) (h : Q [B (seq k s)]) : Ct Tryz.prog 93 {} [.agg [S k, S v], .ref 0 [S s]] Q :=
 fn_of (f := 93) SgT SvT (fun _ => none) Tryz.f93 Tryz.func93 (by kernel_rfl) (by kernel_rfl) h

theorem midx_nf (l : LL) (s : ByteArray) (Q : List SV → Prop) (h : ∃ Inv : Int → Int → Prop, ∃ m : Int → Int → Nat, (Inv 0 0) ∧ (∀ x x1, (Inv x x1) → ifB (ilt x1 (rlen l)) ((((0 : Int) ≤ x1) ∧ (x1 < (rlen l))) ∧ (∃ s1 s2, (rget l x1 = [S s1, S s2]) ∧ (Cl Tryz.prog 93 sP ([SV.agg [S s1, S s2], SV.ref 0 [S s]]) (fun rs => ∃ b, (rs = [B b]) ∧ (ifB b (Q [I x1]) (((Option.some [] : Option (LL)) = Option.some []) ∧ ((Inv x (wadd .i64 x1 1)) ∧ (Nat.le (Nat.succ (m x (wadd .i64 x1 1))) (m x x1))))))))) (Q [I ((-1 : Int))]))) : Ct Tryz.prog 145 {} [SL 2 l, .clo 93 [.ref 0 [S s]]] Q :=
 fn_of (f := 145) SgT SvT (fun _ => none) Tryz.f145 Tryz.func145 (by kernel_rfl) (by kernel_rfl) h

end Go.Proofs.YtknnooannohflaaGreatDoor.Met

namespace Go.Proofs.YtknnooannohflaaGreatDoor.Met
open Go Go.Px Go.Proofs Cmp Go.Proofs.YtknnooannohflaaGreatDoor.St
set_option maxRecDepth 100000
set_option linter.unusedVariables false

theorem len_dec {α : Type} [DecidableEq α] {l m : List α} {x : Nat} (h : l.length = m.length) (hx : x < l.length) (hp : l.take x = m.take x) (he : l[x] = m[x]'(by omega)) : l.take (x + 1) = m.take (x + 1) := by
 rw [List.take_add_one, List.take_add_one, List.getElem?_eq_getElem hx, List.getElem?_eq_getElem (by omega : x < m.length), hp, he]

deriving instance DecidableEq for SmD
deriving instance DecidableEq for FaD

theorem labB (a b c d : ByteArray) : bnot (band (seq a b) (band (seq c d) true)) = !decide ((a, c) = (b, d)) := by
 rw [seq_d, seq_d]
 by_cases h1 : a = b <;> by_cases h2 : c = d <;> simp [h1, h2, bnot, band]

theorem lab_loop (x y : List LaD) (hl : x.length ≤ 4000000000000000000) (hxy : x.length = y.length) (Q : List SV → Prop) (hQ : Q [B (decide (x = y))]) :
  ∃ Inv : Bool → Int → Prop, ∃ m : Bool → Int → Nat, (Inv false 0) ∧ (∀ b : Bool, ∀ x1 : Int, (Inv b x1) → ifB (ilt x1 (rlen (laR x))) ((((0 : Int) ≤ x1) ∧ (x1 < (rlen (laR x)))) ∧ (∃ s : ByteArray, ∃ s1 : ByteArray, (rget (laR x) x1 = [S s, S s1]) ∧ ((((0 : Int) ≤ x1) ∧ (x1 < (rlen (laR y)))) ∧ (∃ s2 : ByteArray, ∃ s3 : ByteArray, (rget (laR y) x1 = [S s2, S s3]) ∧ (ifB (bnot (band (seq s s2) (band (seq s1 s3) true))) (Q [B false]) (((Option.some [] : Option (List (List SV))) = Option.some []) ∧ ((Inv b (wadd IntKind.i64 x1 1)) ∧ (Nat.le (Nat.succ (m b (wadd IntKind.i64 x1 1))) (m b x1))))))))) (Q [B true])) := by
 refine ⟨fun _ i => (0 ≤ i ∧ i ≤ x.length) ∧ x.take i.toNat = y.take i.toNat, fun _ i => (x.length - i).toNat, ⟨by omega, by simp⟩, ?_⟩
 rintro b i ⟨⟨i0, il⟩, hp⟩
 rw [rlen_eq, rlen_eq, List.length_map, List.length_map]
 refine ifB_intro (fun hi => ?_) (fun hi => ?_)
 ·have hi : i < x.length := by simpa using hi
  refine ⟨⟨i0, hi⟩, _, _, rget_mapI (fun p : LaD => [S p.1, S p.2]) x i i0 hi, ⟨i0, by omega⟩, _, _, rget_mapI (fun p : LaD => [S p.1, S p.2]) y i i0 (by omega), ?_⟩
  rw [labB]
  refine ifB_intro (fun h => ?_) (fun h => ?_)
  ·have h : ¬ (x[i.toNat]'(by omega)) = (y[i.toNat]'(by omega)) := of_decide_eq_false (by simpa only [Bool.not_eq_true'] using h)
   have hne : x ≠ y := fun e => h (by subst e; rfl)
   simpa [hne] using hQ
  ·have h : (x[i.toNat]'(by omega)) = (y[i.toNat]'(by omega)) := of_decide_eq_true (by simpa only [Bool.not_eq_false'] using h)
   rw [wadd_i64 (by omega) (by omega)]
   refine ⟨rfl, ⟨by omega, ?_⟩, mlt (by dsimp only; omega)⟩
   rw [show (i + 1).toNat = i.toNat + 1 by omega]
   exact len_dec hxy (by omega) hp h
 ·have hi : x.length ≤ i := by simpa using hi
  rw [List.take_of_length_le (by omega), List.take_of_length_le (by omega)] at hp
  simpa [hp] using hQ

theorem lab_eq_len {α : Type} [DecidableEq α] {x y : List α} (h : ¬ ((x.length : Int) = (y.length : Int))) : decide (x = y) = false := by
 have : x ≠ y := fun e => h (by rw [e])
 simp [this]

theorem eql_fn (x y : List LaD) (hl : x.length ≤ 4000000000000000000) : Ct Tryz.prog 82 {} [SL 2 (laR x), SL 2 (laR y)] (fun r => r = [B (decide (x = y))]) := by
 refine meql_nf _ _ _ (ifB_intro (fun h => ?_) (fun h => lab_loop x y hl ?_ (fun r => r = [B (decide (x = y))]) rfl))
 ·rw [lab_eq_len (by simpa [ine] using h)]
 ·have : (x.length : Int) = y.length := by simpa [ine] using h
  omega

def SmD.ok (x : SmD) : Prop := x.ls.length ≤ 4000000000000000000
def FaD.ok (f : FaD) : Prop := f.ss.length ≤ 4000000000000000000 ∧ ∀ x ∈ f.ss, x.ok

theorem alike_fn (x y : SmD) (hx : x.ok) : Ct Tryz.prog 49 {} [.agg x.row, .agg y.row] (fun r => r = [B (decide (x = y))]) := by
 refine malike_nf _ _ _ _ _ _ _ (ifB_intro (fun h => ?_) (fun h => ?_))
 ·rw [seq_d] at h
  have h : x.nm = y.nm ∧ x.v = y.v := by
   by_cases h1 : x.nm = y.nm <;> by_cases h2 : x.v = y.v <;> simp_all [bpick, ieq]
  refine Cl.of (eql_fn x.ls y.ls hx) ⟨_, rfl, ?_⟩
  have : (x.ls = y.ls) ↔ x = y := ⟨fun e => by cases x; cases y; simp_all, fun e => by rw [e]⟩
  simp [this]
 ·have : x ≠ y := fun e => by subst e; simp [bpick, ieq] at h
  simp [this]

theorem eqfs_fn (x y : List SmD) (hl : x.length ≤ 4000000000000000000) (hx : ∀ s ∈ x, s.ok) : Ct Tryz.prog 48 {} [SL 3 (smR x), SL 3 (smR y), .clo 49 []] (fun r => r = [B (decide (x = y))]) := by
 refine meqfs_nf _ _ _ (ifB_intro (fun h => ?_) (fun h => ?_))
 ·rw [lab_eq_len (by simpa [ine] using h)]
 have hxy : x.length = y.length := by
  have : (x.length : Int) = y.length := by simpa [ine] using h
  omega
 refine ⟨fun _ i => (0 ≤ i ∧ i ≤ x.length) ∧ x.take i.toNat = y.take i.toNat, fun _ i => (x.length - i).toNat, ⟨by omega, by simp⟩, ?_⟩
 rintro b i ⟨⟨i0, il⟩, hp⟩
 rw [rlen_eq, rlen_eq, List.length_map, List.length_map]
 refine ifB_intro (fun hi => ?_) (fun hi => ?_)
 ·have hi : i < x.length := by simpa using hi
  have hi' : i.toNat < x.length := by omega
  refine ⟨⟨i0, hi⟩, _, _, _, rget_mapI SmD.row x i i0 hi, ⟨i0, by omega⟩, _, _, _, rget_mapI SmD.row y i i0 (by omega), Cl.of (alike_fn x[i.toNat] (y[i.toNat]'(by omega)) (hx _ (List.getElem_mem hi'))) ⟨_, rfl, ?_⟩⟩
  refine ifB_intro (fun h => ?_) (fun h => ?_)
  ·have h : ¬ (x[i.toNat]'(by omega)) = (y[i.toNat]'(by omega)) := by simpa using h
   have hne : x ≠ y := fun e => h (by subst e; rfl)
   simp [hne]
  ·have h : (x[i.toNat]'(by omega)) = (y[i.toNat]'(by omega)) := by simpa using h
   rw [wadd_i64 (by omega) (by omega)]
   refine ⟨rfl, ⟨by omega, ?_⟩, mlt (by dsimp only; omega)⟩
   rw [show (i + 1).toNat = i.toNat + 1 by omega]
   exact len_dec hxy (by omega) hp h
 ·have hi : x.length ≤ i := by simpa using hi
  rw [List.take_of_length_le (by omega), List.take_of_length_le (by omega)] at hp
  simp [hp]

theorem same1_fn (x y : FaD) (hx : x.ok) : Ct Tryz.prog 47 {} [.agg x.row, .agg y.row] (fun r => r = [B (decide (x = y))]) := by
 refine msame1_nf _ _ _ _ _ _ _ _ _ (ifB_intro (fun h => ?_) (fun h => ?_))
 ·rw [seq_d, seq_d] at h
  have h : x.nm = y.nm ∧ x.hp = y.hp ∧ x.ty = y.ty := by
   by_cases h1 : x.nm = y.nm <;> by_cases h2 : x.hp = y.hp <;> by_cases h3 : x.ty = y.ty <;> simp_all [bpick, ieq]
  refine Cl.of (eqfs_fn x.ss y.ss hx.1 hx.2) ⟨_, rfl, ?_⟩
  have : (x.ss = y.ss) ↔ x = y := ⟨fun e => by cases x; cases y; simp_all, fun e => by rw [e]⟩
  simp [this]
 ·have : x ≠ y := fun e => by subst e; simp [bpick, ieq] at h
  simp [this]

theorem same_fn (x y : List FaD) (hl : x.length ≤ 4000000000000000000) (hx : ∀ s ∈ x, s.ok) : Ct Tryz.prog 21 {} [SL 4 (faR x), SL 4 (faR y)] (fun r => r = [B (decide (x = y))]) := by
 refine msame_nf _ _ _ (Cl.of ?_ ⟨_, rfl, rfl⟩)
 refine meqff_nf _ _ _ (ifB_intro (fun h => ?_) (fun h => ?_))
 ·rw [lab_eq_len (by simpa [ine] using h)]
 have hxy : x.length = y.length := by
  have : (x.length : Int) = y.length := by simpa [ine] using h
  omega
 refine ⟨fun _ i => (0 ≤ i ∧ i ≤ x.length) ∧ x.take i.toNat = y.take i.toNat, fun _ i => (x.length - i).toNat, ⟨by omega, by simp⟩, ?_⟩
 rintro b i ⟨⟨i0, il⟩, hp⟩
 rw [rlen_eq, rlen_eq, List.length_map, List.length_map]
 refine ifB_intro (fun hi => ?_) (fun hi => ?_)
 ·have hi : i < x.length := by simpa using hi
  have hi' : i.toNat < x.length := by omega
  refine ⟨⟨i0, hi⟩, _, _, _, _, rget_mapI FaD.row x i i0 hi, ⟨i0, by omega⟩, _, _, _, _, rget_mapI FaD.row y i i0 (by omega), Cl.of (same1_fn x[i.toNat] (y[i.toNat]'(by omega)) (hx _ (List.getElem_mem hi'))) ⟨_, rfl, ?_⟩⟩
  refine ifB_intro (fun h => ?_) (fun h => ?_)
  ·have h : ¬ (x[i.toNat]'(by omega)) = (y[i.toNat]'(by omega)) := by simpa using h
   have hne : x ≠ y := fun e => h (by subst e; rfl)
   simp [hne]
  ·have h : (x[i.toNat]'(by omega)) = (y[i.toNat]'(by omega)) := by simpa using h
   rw [wadd_i64 (by omega) (by omega)]
   refine ⟨rfl, ⟨by omega, ?_⟩, mlt (by dsimp only; omega)⟩
   rw [show (i + 1).toNat = i.toNat + 1 by omega]
   exact len_dec hxy (by omega) hp h
 ·have hi : x.length ≤ i := by simpa using hi
  rw [List.take_of_length_le (by omega), List.take_of_length_le (by omega)] at hp
  simp [hp]

def hasB (l : List LaD) (s : ByteArray) : Bool := l.any fun p => decide (p.1 = s)


theorem has1_fn (p : LaD) (s : ByteArray) : Ct Tryz.prog 93 {} [.agg [S p.1, S p.2], .ref 0 [S s]] (fun r => r = [B (decide (p.1 = s))]) := by
 refine mhas1_nf _ _ _ _ ?_
 rw [seq_d]

theorem idx_fn (l : List LaD) (hl : l.length ≤ 4000000000000000000) (s : ByteArray) : Ct Tryz.prog 145 {} [SL 2 (laR l), .clo 93 [.ref 0 [S s]]] (fun r => ∃ i : Int, r = [I i] ∧ (0 ≤ i ↔ hasB l s = true)) := by
 refine midx_nf _ _ _ ⟨fun _ i => (0 ≤ i ∧ i ≤ l.length) ∧ hasB (l.take i.toNat) s = false, fun _ i => (l.length - i).toNat, ⟨by omega, by simp [hasB]⟩, ?_⟩
 rintro b i ⟨⟨i0, il⟩, hp⟩
 rw [rlen_eq, List.length_map]
 refine ifB_intro (fun hi => ?_) (fun hi => ?_)
 ·have hi : i < l.length := by simpa using hi
  have hi' : i.toNat < l.length := by omega
  refine ⟨⟨i0, hi⟩, _, _, rget_mapI (fun p : LaD => [S p.1, S p.2]) l i i0 hi, Cl.of (has1_fn l[i.toNat] s) ⟨_, rfl, ?_⟩⟩
  refine ifB_intro (fun h => ?_) (fun h => ?_)
  ·refine ⟨i, rfl, ⟨fun _ => ?_, fun _ => i0⟩⟩
   exact List.any_eq_true.2 ⟨l[i.toNat], List.getElem_mem hi', h⟩
  ·rw [wadd_i64 (by omega) (by omega)]
   refine ⟨rfl, ⟨by omega, ?_⟩, mlt (by dsimp only; omega)⟩
   rw [show (i + 1).toNat = i.toNat + 1 by omega, List.take_add_one, List.getElem?_eq_getElem hi']
   simp only [hasB, Option.toList_some, List.any_append, List.any_cons, List.any_nil, Bool.or_false, Bool.or_eq_false_iff]
   exact ⟨hp, h⟩
 ·have hi : l.length ≤ i := by simpa using hi
  rw [List.take_of_length_le (by omega)] at hp
  exact ⟨-1, rfl, ⟨fun h => absurd h (by decide), fun h => by rw [hp] at h; cases h⟩⟩

theorem has_fn (l : List LaD) (hl : l.length ≤ 4000000000000000000) (s : ByteArray) : Ct Tryz.prog 53 {} [SL 2 (laR l), S s] (fun r => r = [B (hasB l s)]) := by
 refine mhas_nf _ _ _ (Cl.ofQ (mcf_nf _ _ _ (Cl.ofQ (idx_fn l hl s) ?_)) (Q := fun r => r = [B (hasB l s)]) ?_)
 ·rintro r ⟨i, rfl, hi⟩
  refine ⟨i, rfl, ?_⟩
  cases h : hasB l s with
  | true => have := hi.2 h; simp [ige, this]
  | false => have : ¬ 0 ≤ i := fun e => by rw [hi.1 e] at h; cases h
             simp [ige, this]
 ·rintro r rfl
  exact ⟨_, rfl, rfl⟩

def badC (s : ByteArray) (x : Int) : Bool := bpick (bnot (bpick (bpick (bpick (ige (sbyte s x) 97) (ile (sbyte s x) 122) false) true (bpick (ige (sbyte s x) 65) (ile (sbyte s x) 90) false)) true (ieq (sbyte s x) 95))) (bpick (bnot (bpick (ige (sbyte s x) 48) (ile (sbyte s x) 57) false)) true (ieq x 0)) false
def namP (s : ByteArray) : Prop := (1 ≤ s.size ∧ s.size ≤ 64) ∧ ∀ i : Nat, i < s.size → badC s (i : Int) = false
instance (s : ByteArray) : Decidable (namP s) := inferInstanceAs (Decidable (_ ∧ _))

theorem mnam_fn (s : ByteArray) : Ct Tryz.prog 24 {} [S s] (fun r => r = [B (decide (namP s))]) := by
 refine mnamed_nf _ _ (ifB_intro (fun h => ?_) (fun h => ?_))
 ·have h : (s.size : Int) < 1 ∨ 64 < (s.size : Int) := by simpa [bor_t, slen] using h
  have : ¬ namP s := fun e => by have := e.1; omega
  simp [this]
 have h : 1 ≤ (s.size : Int) ∧ (s.size : Int) ≤ 64 := by simpa [bor_f, slen] using h
 refine ⟨fun _ i => (0 ≤ i ∧ i ≤ s.size) ∧ ∀ k : Nat, (k : Int) < i → badC s (k : Int) = false, fun _ i => (s.size - i).toNat, ⟨by omega, fun k hk => by omega⟩, ?_⟩
 rintro b i ⟨⟨i0, il⟩, hp⟩
 refine ifB_intro (fun hi => ?_) (fun hi => ?_)
 ·have hi : i < s.size := by simpa [slen] using hi
  refine ⟨⟨i0, hi⟩, ?_⟩
  show ifB (badC s i) _ _
  refine ifB_intro (fun hb => ?_) (fun hb => ?_)
  ·have : ¬ namP s := fun e => by
    have := e.2 i.toNat (by omega)
    rw [Int.toNat_of_nonneg i0, hb] at this; cases this
   simp [this]
  ·rw [wadd_i64 (by omega) (by omega)]
   refine ⟨rfl, ⟨by omega, fun k hk => ?_⟩, mlt (by dsimp only; omega)⟩
   by_cases e : (k : Int) = i
   ·rw [e]; exact hb
   ·exact hp k (by omega)
 ·have hi : s.size ≤ i := by simpa [slen] using hi
  have : namP s := ⟨by omega, fun k hk => hp k (by omega)⟩
  simp [this]

def labUp (l : List LaD) (n : Nat) : Prop := ∀ k : Nat, k < n → ∀ h : k < l.length, namP l[k].1 ∧ l[k].2.size ≤ 200 ∧ hasB (l.take k) l[k].1 = false
instance (l : List LaD) (n : Nat) : Decidable (labUp l n) := inferInstanceAs (Decidable (∀ k : Nat, k < n → ∀ h : k < l.length, _))
def labP (l : List LaD) : Prop := l.length ≤ 8 ∧ labUp l l.length
instance (l : List LaD) : Decidable (labP l) := inferInstanceAs (Decidable (_ ∧ _))

theorem labelled_fn (l : List LaD) : Ct Tryz.prog 26 {} [SL 2 (laR l)] (fun r => r = [B (decide (labP l))]) := by
 refine mlabelled_nf _ _ (ifB_intro (fun h => ?_) (fun h => ?_))
 ·have h : 8 < (l.length : Int) := by simpa using h
  have : ¬ labP l := fun e => by have := e.1; omega
  simp [this]
 have h : (l.length : Int) ≤ 8 := by simpa using h
 refine ⟨fun _ i => (0 ≤ i ∧ i ≤ l.length) ∧ labUp l i.toNat, fun _ i => (l.length - i).toNat, ⟨by omega, fun k hk => by simp at hk⟩, ?_⟩
 rintro b i ⟨⟨i0, il⟩, hp⟩
 rw [rlen_eq, List.length_map]
 refine ifB_intro (fun hi => ?_) (fun hi => ?_)
 ·have hi : i < l.length := by simpa using hi
  have hi' : i.toNat < l.length := by omega
  have no : ∀ {Q : Prop}, ¬ (namP l[i.toNat].1 ∧ l[i.toNat].2.size ≤ 200 ∧ hasB (l.take i.toNat) l[i.toNat].1 = false) → ([B false] : List SV) = [B (decide (labP l))] := fun hn => by
   have : ¬ labP l := fun e => hn (e.2 _ hi' hi')
   simp [this]
  refine ⟨⟨i0, hi⟩, _, _, rget_mapI (fun p : LaD => [S p.1, S p.2]) l i i0 hi, Cl.of (mnam_fn l[i.toNat].1) ⟨_, rfl, ?_⟩⟩
  refine ifB_intro (fun h1 => ?_) (fun h1 => ?_)
  ·refine no (Q := True) fun e => ?_
   have h1 : ¬ namP l[i.toNat].1 ∨ 200 < (l[i.toNat].2.size : Int) := by simpa [bor_t, slen, bnot] using h1
   rcases h1 with h1 | h1
   ·exact h1 e.1
   ·have := e.2.1; omega
  ·have h1 : namP l[i.toNat].1 ∧ (l[i.toNat].2.size : Int) ≤ 200 := by simpa [bor_f, slen, bnot] using h1
   refine ⟨⟨by decide, i0, by omega⟩, ?_⟩
   have e : rsub (laR l) 0 i = laR (l.take i.toNat) := by simp [rsub, List.map_take]
   rw [e]
   refine Cl.of (has_fn (l.take i.toNat) (by rw [List.length_take]; omega) l[i.toNat].1) ⟨_, rfl, ?_⟩
   refine ifB_intro (fun h2 => ?_) (fun h2 => ?_)
   ·exact no (Q := True) fun e => by rw [e.2.2] at h2; cases h2
   ·rw [wadd_i64 (by omega) (by omega)]
    refine ⟨rfl, ⟨by omega, fun k hk hkl => ?_⟩, mlt (by dsimp only; omega)⟩
    by_cases e : k = i.toNat
    ·subst e; exact ⟨h1.1, by omega, h2⟩
    ·exact hp k (by omega) hkl
 ·have hi : l.length ≤ i := by simpa using hi
  have : labP l := ⟨by omega, fun k hk hkl => hp k (by omega) hkl⟩
  simp [this]

def plainP (f : FaD) : Prop := namP f.nm ∧ f.hp.size ≤ 200 ∧ (f.ty = 1 ∨ f.ty = 2) ∧ (1 ≤ f.ss.length ∧ f.ss.length ≤ 400) ∧ ∀ x ∈ f.ss, labP x.ls ∧ x.nm = f.nm ∧ hasB x.ls (ByteArray.mk (Array.mk [108, 101])) = false
instance (f : FaD) : Decidable (plainP f) := inferInstanceAs (Decidable (_ ∧ _ ∧ _ ∧ _ ∧ _))

def grow (l : List FaD) : Prop := ∀ k : Nat, ∀ h : k + 1 < l.length, sge l[k].nm l[k + 1].nm = false

end Go.Proofs.YtknnooannohflaaGreatDoor.Met

namespace Go.Proofs.YtknnooannohflaaGreatDoor.Met
open Go Go.Px Go.Proofs 
set_option maxRecDepth 100000
set_option linter.unusedVariables false


end Go.Proofs.YtknnooannohflaaGreatDoor.Met

namespace Go.Proofs.YtknnooannohflaaGreatDoor.Met
open Go Go.Px Go.Proofs Cmp Go.Proofs.YtknnooannohflaaGreatDoor.St
set_option maxRecDepth 100000
set_option linter.unusedVariables false

abbrev pre1 (h0 : Int) : Int := 0 + h0
abbrev pre2 (h0 h1 : Int) : Int := 0 + h0 + h1
abbrev pre3 (h0 h1 h2 : Int) : Int := 0 + h0 + h1 + h2
abbrev pre4 (h0 h1 h2 h3 : Int) : Int := 0 + h0 + h1 + h2 + h3
abbrev pre5 (h0 h1 h2 h3 h4 : Int) : Int := 0 + h0 + h1 + h2 + h3 + h4
abbrev pre6 (h0 h1 h2 h3 h4 h5 : Int) : Int := 0 + h0 + h1 + h2 + h3 + h4 + h5
abbrev pre7 (h0 h1 h2 h3 h4 h5 h6 : Int) : Int := 0 + h0 + h1 + h2 + h3 + h4 + h5 + h6
abbrev pre8 (h0 h1 h2 h3 h4 h5 h6 h7 : Int) : Int := 0 + h0 + h1 + h2 + h3 + h4 + h5 + h6 + h7
abbrev pre9 (h0 h1 h2 h3 h4 h5 h6 h7 h8 : Int) : Int := 0 + h0 + h1 + h2 + h3 + h4 + h5 + h6 + h7 + h8
def preI (h0 h1 h2 h3 h4 h5 h6 h7 h8 k : Int) : Int := if k = 0 then 0 else if k = 1 then (pre1 h0) else if k = 2 then (pre2 h0 h1) else if k = 3 then (pre3 h0 h1 h2) else if k = 4 then (pre4 h0 h1 h2 h3) else if k = 5 then (pre5 h0 h1 h2 h3 h4) else if k = 6 then (pre6 h0 h1 h2 h3 h4 h5) else if k = 7 then (pre7 h0 h1 h2 h3 h4 h5 h6) else if k = 8 then (pre8 h0 h1 h2 h3 h4 h5 h6 h7) else (pre9 h0 h1 h2 h3 h4 h5 h6 h7 h8)
abbrev leN : ByteArray := ByteArray.mk (Array.mk [108, 101])
abbrev bo0 : ByteArray := ByteArray.mk (Array.mk [49])
abbrev bo1 : ByteArray := ByteArray.mk (Array.mk [50])
abbrev bo2 : ByteArray := ByteArray.mk (Array.mk [52])
abbrev bo3 : ByteArray := ByteArray.mk (Array.mk [56])
abbrev bo4 : ByteArray := ByteArray.mk (Array.mk [49, 54])
abbrev bo5 : ByteArray := ByteArray.mk (Array.mk [51, 50])
abbrev bo6 : ByteArray := ByteArray.mk (Array.mk [54, 52])
abbrev bo7 : ByteArray := ByteArray.mk (Array.mk [49, 50, 56])
abbrev bo8 : ByteArray := ByteArray.mk (Array.mk [43, 73, 110, 102])
abbrev bucN : ByteArray := ByteArray.mk (Array.mk [95, 98, 117, 99, 107, 101, 116])
abbrev sumN : ByteArray := ByteArray.mk (Array.mk [95, 115, 117, 109])
abbrev couN : ByteArray := ByteArray.mk (Array.mk [95, 99, 111, 117, 110, 116])
def bkt9 (n : ByteArray) (c : CoD) : List SmD := [⟨n ++ bucN, labs c [(leN, bo0)], (pre1 c.h0)⟩, ⟨n ++ bucN, labs c [(leN, bo1)], (pre2 c.h0 c.h1)⟩, ⟨n ++ bucN, labs c [(leN, bo2)], (pre3 c.h0 c.h1 c.h2)⟩, ⟨n ++ bucN, labs c [(leN, bo3)], (pre4 c.h0 c.h1 c.h2 c.h3)⟩, ⟨n ++ bucN, labs c [(leN, bo4)], (pre5 c.h0 c.h1 c.h2 c.h3 c.h4)⟩, ⟨n ++ bucN, labs c [(leN, bo5)], (pre6 c.h0 c.h1 c.h2 c.h3 c.h4 c.h5)⟩, ⟨n ++ bucN, labs c [(leN, bo6)], (pre7 c.h0 c.h1 c.h2 c.h3 c.h4 c.h5 c.h6)⟩, ⟨n ++ bucN, labs c [(leN, bo7)], (pre8 c.h0 c.h1 c.h2 c.h3 c.h4 c.h5 c.h6 c.h7)⟩, ⟨n ++ bucN, labs c [(leN, bo8)], (pre9 c.h0 c.h1 c.h2 c.h3 c.h4 c.h5 c.h6 c.h7 c.h8)⟩]
def tot2 (n : ByteArray) (c : CoD) : List SmD := [⟨n ++ sumN, labs c [], c.hs⟩, ⟨n ++ couN, labs c [], (pre9 c.h0 c.h1 c.h2 c.h3 c.h4 c.h5 c.h6 c.h7 c.h8)⟩]
def hst11 (n : ByteArray) (c : CoD) : List SmD := bkt9 n c ++ tot2 n c
def histF (n hp : ByteArray) (cs : List CoD) (roles : List Int) : FaD := ⟨n, hp, 3, (ofR cs roles).flatMap (hst11 n)⟩

end Go.Proofs.YtknnooannohflaaGreatDoor.Met

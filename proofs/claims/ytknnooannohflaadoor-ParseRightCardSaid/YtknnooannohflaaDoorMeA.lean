/- Printed conditions of functions. -/
import Derived.Test.YtknnooannohflaaDoorPxIK
import Derived.Test.YtknnooannohflaaDoorProg
import Derived.Conc.DeferLaws
import Derived.Test.YtknnooannohflaaDoorEvA
import Derived.Test.YtknnooannohflaaDoorDkA
namespace Go.Proofs.YtknnooannohflaaDoor.Met
open Go Go.Px Go.Proofs 
set_option maxRecDepth 100000
set_option linter.unusedVariables false

abbrev st3 (rows : List (List SV)) (s a : Int) : SV := .agg [SL 21 rows, I s, I a]
abbrev ev7 (s a k : Int) (c : ByteArray) (x y z : Int) : SV := .agg [I s, I a, I k, S c, I x, I y, I z]
abbrev co21 (cnm : ByteArray) (crl cmd cwd csl : Int) (ccl : List (List SV)) (h0 h1 h2 h3 h4 h5 h6 h7 h8 hs br bh t0 t1 t2 : Int) : SV := .agg [S cnm, I crl, I cmd, I cwd, I csl, SL 2 ccl, I h0, I h1, I h2, I h3, I h4, I h5, I h6, I h7, I h8, I hs, I br, I bh, I t0, I t1, I t2]
abbrev fa4 (n hp : ByteArray) (t : Int) (ss : List (List SV)) : SV := .agg [S n, S hp, I t, SL 3 ss]
abbrev sa3 (n : ByteArray) (ls : List (List SV)) (v : Int) : SV := .agg [S n, SL 2 ls, I v]
def SgT : FuncId → Sig := (fun f => {})
def SvT : TypeId → Sig := (fun f => {})

theorem Zrj (x y : LL) (Q : List SV → Prop) (h : ifB (ine (rlen x) (rlen y)) (Q [B false]) (∃ Inv : Bool → Int → Prop, ∃ m : Bool → Int → Nat, (Inv false 0) ∧ (∀ b x1, (Inv b x1) → ifB (ilt x1 (rlen x)) ((((0 : Int) ≤ x1) ∧ (x1 < (rlen x))) ∧ (∃ s s1, (rget x x1 = [S s, S s1]) ∧ ((((0 : Int) ≤ x1) ∧ (x1 < (rlen y))) ∧ (∃ s2 s3, (rget y x1 = [S s2, S s3]) ∧ (ifB (bnot (band (seq s s2) (band (seq s1 s3) true))) (Q [B false]) (((Option.some [] : Option (LL)) = Option.some []) ∧ ((Inv b (wadd .i64 x1 1)) ∧ (Nat.le (Nat.succ (m b (wadd .i64 x1 1))) (m b x1))))))))) (Q [B true])))) : Ct Tryd.prog 27 {} [SL 2 x, SL 2 y] Q :=
 fn_of (f := 27) SgT SvT (fun _ => none) Tryd.f27 Tryd.func27 (by kernel_rfl) (by kernel_rfl) h

theorem Zw9 (x y : LL) (Q : List SV → Prop) (h : ifB (ine (rlen x) (rlen y)) (Q [B false]) (∃ Inv : Bool → Int → Prop, ∃ m : Bool → Int → Nat, (Inv false 0) ∧ (∀ b x1, (Inv b x1) → ifB (ilt x1 (rlen x)) ((((0 : Int) ≤ x1) ∧ (x1 < (rlen x))) ∧ (∃ s s1, (rget x x1 = [S s, S s1]) ∧ ((((0 : Int) ≤ x1) ∧ (x1 < (rlen y))) ∧ (∃ s2 s3, (rget y x1 = [S s2, S s3]) ∧ (ifB (bnot (band (seq s s2) (band (seq s1 s3) true))) (Q [B false]) (((Option.some [] : Option (LL)) = Option.some []) ∧ ((Inv b (wadd .i64 x1 1)) ∧ (Nat.le (Nat.succ (m b (wadd .i64 x1 1))) (m b x1))))))))) (Q [B true])))) : Ct Tryd.prog 125 {} [SL 2 x, SL 2 y] Q :=
 fn_of (f := 125) SgT SvT (fun _ => none) Tryd.f125 Tryd.func125 (by kernel_rfl) (by kernel_rfl) h

theorem Zso (s : ByteArray) (Q : List SV → Prop) (h : ifB (bpick (ilt (slen s) 1) true (igt (slen s) 64)) (Q [B false]) (∃ Inv : Bool → Int → Prop, ∃ m : Bool → Int → Nat, (Inv false 0) ∧ (∀ b x, (Inv b x) → ifB (ilt x (slen s)) ((((0 : Int) ≤ x) ∧ (x < (slen s))) ∧ (ifB (bpick (bnot (bpick (bpick (bpick (ige (sbyte s x) 97) (ile (sbyte s x) 122) false) true (bpick (ige (sbyte s x) 65) (ile (sbyte s x) 90) false)) true (ieq (sbyte s x) 95))) (bpick (bnot (bpick (ige (sbyte s x) 48) (ile (sbyte s x) 57) false)) true (ieq x 0)) false) (Q [B false]) (((Option.some [] : Option (LL)) = Option.some []) ∧ ((Inv b (wadd .i64 x 1)) ∧ (Nat.le (Nat.succ (m b (wadd .i64 x 1))) (m b x)))))) (Q [B true])))) : Ct Tryd.prog 48 {} [S s] Q :=
 fn_of (f := 48) SgT SvT (fun _ => none) Tryd.f48 Tryd.func48 (by kernel_rfl) (by kernel_rfl) h

theorem Zns (l : LL) (Q : List SV → Prop) (h : ifB (igt (rlen l) 8) (Q [B false]) (∃ Inv : Bool → Int → Prop, ∃ m : Bool → Int → Nat, (Inv false 0) ∧ (∀ b x, (Inv b x) → ifB (ilt x (rlen l)) ((((0 : Int) ≤ x) ∧ (x < (rlen l))) ∧ (∃ s s1, (rget l x = [S s, S s1]) ∧ (Cl Tryd.prog 48 sP [S s] (fun rs => ∃ b1, (rs = [B b1]) ∧ (ifB (bpick (bnot b1) true (igt (slen s1) 200)) (Q [B false]) ((((0 : Int) ≤ 0) ∧ (((0 : Int) ≤ x) ∧ (x ≤ (rlen l)))) ∧ (Cl Tryd.prog 133 sP [SL 2 (rsub l 0 x), S s] (fun rs1 => ∃ b2, (rs1 = [B b2]) ∧ (ifB b2 (Q [B false]) (((Option.some [] : Option (LL)) = Option.some []) ∧ ((Inv b (wadd .i64 x 1)) ∧ (Nat.le (Nat.succ (m b (wadd .i64 x 1))) (m b x))))))))))))) (Q [B true])))) : Ct Tryd.prog 80 {} [SL 2 l] Q :=
 fn_of (f := 80) SgT SvT (fun _ => none) Tryd.f80 Tryd.func80 (by kernel_rfl) (by kernel_rfl) h

theorem Zxa (l : LL) (s : ByteArray) (Q : List SV → Prop) (h : Cl Tryd.prog 173 sP ([SL 2 l, SV.clo 174 ([SV.ref 0 [S s]])]) (fun rs => ∃ b, (rs = [B b]) ∧ (Q [B b]))) : Ct Tryd.prog 133 {} [SL 2 l, S s] Q :=
 fn_of (f := 133) SgT SvT (fun _ => none) Tryd.f133 Tryd.func133 (by kernel_rfl) (by kernel_rfl) h

end Go.Proofs.YtknnooannohflaaDoor.Met

namespace Go.Px
open Go Ieee
set_option maxRecDepth 100000
set_option linter.unusedVariables false

def wW (n : Nat) : Nat := double.nearest false n 0

theorem bnd : double.binade = 4503599627370496 := by decide
def lastP (mag : Nat) (place : Int) : Int := max (place + mag.log2 - double.fractionBits) double.leastPlace
end Go.Px

namespace Go.Proofs.YtknnooannohflaaDoor.Met
open Go Go.Px Go.Proofs Cmp
set_option maxRecDepth 100000
set_option linter.unusedVariables false

abbrev nR2 (l : List (Nat × Nat)) : List (List SV) := l.map fun c => [.val (.complex .f64 (wW c.1) (wW c.2))]
def s1 (l : List (Nat × Nat)) : Nat := (l.map (·.1)).sum
def s2 (l : List (Nat × Nat)) : Nat := (l.map (·.2)).sum
abbrev nC (l : List (Int × Int)) : List (Nat × Nat) := l.map fun c => (c.1.toNat, c.2.toNat)
def partI (wd sl : Int) (l : List (Int × Int)) : Int :=
 if winP wd sl l then (if s1 (nC l) + s2 (nC l) = 0 then 0 else wquo .i64 (wmul .i64 1000 (s2 (nC l))) (s1 (nC l) + s2 (nC l) : Nat)) else 0

end Go.Proofs.YtknnooannohflaaDoor.Met

namespace Go.Proofs.YtknnooannohflaaDoor.Met
open Go Go.Px Go.Proofs Cmp Go.Proofs.YtknnooannohflaaDoor.St
set_option maxRecDepth 100000
set_option linter.unusedVariables false

abbrev LaD := ByteArray × ByteArray
structure SmD where
 nm : ByteArray
 ls : List LaD
 v : Int
structure FaD where
 nm : ByteArray
 hp : ByteArray
 ty : Int
 ss : List SmD
abbrev laR (l : List LaD) : List (List SV) := l.map fun p => [S p.1, S p.2]
abbrev SmD.row (x : SmD) : List SV := [S x.nm, SL 2 (laR x.ls), I x.v]
abbrev smR (l : List SmD) : List (List SV) := l.map SmD.row
abbrev FaD.row (f : FaD) : List SV := [S f.nm, S f.hp, I f.ty, SL 3 (smR f.ss)]
abbrev faR (l : List FaD) : List (List SV) := l.map FaD.row

abbrev comN : ByteArray := ByteArray.mk (Array.mk [99, 111, 109, 112, 111, 110, 101, 110, 116])
def labs (c : CoD) (more : List LaD) : List LaD := (comN, c.nm) :: more

def ofC (c : CoD) (roles : List Int) : List CoD := roles.flatMap fun r => if c.ro = r then [c] else []
def ofR (cs : List CoD) (roles : List Int) : List CoD := cs.flatMap fun c => ofC c roles

abbrev rolR (l : List Int) : List (List SV) := l.map fun r => [I r]

def gaugeF (n hp : ByteArray) (cs : List CoD) (roles : List Int) (f : CoD → Int) : FaD := ⟨n, hp, 2, (ofR cs roles).map fun c => ⟨n, labs c [], f c⟩⟩

theorem map_take {α β : Type} (l : List α) (f : α → β) {i : Nat} (h : i < l.length) : (l.take (i + 1)).map f = (l.take i).map f ++ [f l[i]] := by
 rw [List.take_add_one, List.getElem?_eq_getElem h, List.map_append]; rfl

def cnt3 (n lb v0 v1 v2 : ByteArray) (c : CoD) : List SmD := [⟨n, labs c [(lb, v0)], c.c0⟩, ⟨n, labs c [(lb, v1)], c.c1⟩, ⟨n, labs c [(lb, v2)], c.c2⟩]
def counterF (n hp : ByteArray) (cs : List CoD) (role : Int) (lb v0 v1 v2 : ByteArray) : FaD := ⟨n, hp, 1, (ofR cs [role]).flatMap (cnt3 n lb v0 v1 v2)⟩

end Go.Proofs.YtknnooannohflaaDoor.Met

namespace Go.Proofs.YtknnooannohflaaDoor.Met
open Go Go.Px Go.Proofs 
set_option maxRecDepth 100000
set_option linter.unusedVariables false

theorem mcf_nf (l : LL) (s : ByteArray) (Q : List SV → Prop) (h : Cl Tryd.prog 192 sP ([SL 2 l, SV.clo 174 ([SV.ref 0 [S s]])]) (fun rs => ∃ x, (rs = [I x]) ∧ (Q [B (ige x 0)]))) : Ct Tryd.prog 173 {} [SL 2 l, .clo 174 [.ref 0 [S s]]] Q :=
 fn_of (f := 173) SgT SvT (fun _ => none) Tryd.f173 Tryd.func173 (by kernel_rfl) (by kernel_rfl) h

theorem Zu9 (k v s : ByteArray) (Q : List SV → Prop) (h : Q [B (seq k s)]) : Ct Tryd.prog 174 {} [.agg [S k, S v], .ref 0 [S s]] Q :=
 fn_of (f := 174) SgT SvT (fun _ => none) Tryd.f174 Tryd.func174 (by kernel_rfl) (by kernel_rfl) h

theorem Zxb (l : LL) (s : ByteArray) (Q : List SV → Prop) (h : ∃ Inv : Int → Int → Prop, ∃ m : Int → Int → Nat, (Inv 0 0) ∧ (∀ x x1, (Inv x x1) → ifB (ilt x1 (rlen l)) ((((0 : Int) ≤ x1) ∧ (x1 < (rlen l))) ∧ (∃ s1 s2, (rget l x1 = [S s1, S s2]) ∧ (Cl Tryd.prog 174 sP ([SV.agg [S s1, S s2], SV.ref 0 [S s]]) (fun rs => ∃ b, (rs = [B b]) ∧ (ifB b (Q [I x1]) (((Option.some [] : Option (LL)) = Option.some []) ∧ ((Inv x (wadd .i64 x1 1)) ∧ (Nat.le (Nat.succ (m x (wadd .i64 x1 1))) (m x x1))))))))) (Q [I ((-1 : Int))]))) : Ct Tryd.prog 192 {} [SL 2 l, .clo 174 [.ref 0 [S s]]] Q :=
 fn_of (f := 192) SgT SvT (fun _ => none) Tryd.f192 Tryd.func192 (by kernel_rfl) (by kernel_rfl) h

end Go.Proofs.YtknnooannohflaaDoor.Met

namespace Go.Proofs.YtknnooannohflaaDoor.Met
open Go Go.Px Go.Proofs Cmp Go.Proofs.YtknnooannohflaaDoor.St
set_option maxRecDepth 100000
set_option linter.unusedVariables false

theorem Zou {α : Type} [DecidableEq α] {l m : List α} {x : Nat} (h : l.length = m.length) (hx : x < l.length) (hp : l.take x = m.take x) (he : l[x] = m[x]'(by omega)) : l.take (x + 1) = m.take (x + 1) := by
 rw [List.take_add_one, List.take_add_one, List.getElem?_eq_getElem hx, List.getElem?_eq_getElem (by omega : x < m.length), hp, he]

deriving instance DecidableEq for SmD
deriving instance DecidableEq for FaD

theorem labB (a b c d : ByteArray) : bnot (band (seq a b) (band (seq c d) true)) = !decide ((a, c) = (b, d)) := by
 rw [seq_d, seq_d]; by_cases h1 : a = b <;> by_cases h2 : c = d <;> simp [h1, h2, bnot, band]

theorem Zqc (x y : List LaD) (hl : x.length ≤ 4000000000000000000) (hxy : x.length = y.length) (Q : List SV → Prop) (hQ : Q [B (decide (x = y))]) :
  ∃ Inv : Bool → Int → Prop, ∃ m : Bool → Int → Nat, (Inv false 0) ∧ (∀ b : Bool, ∀ x1 : Int, (Inv b x1) → ifB (ilt x1 (rlen (laR x))) ((((0 : Int) ≤ x1) ∧ (x1 < (rlen (laR x)))) ∧ (∃ s : ByteArray, ∃ s1 : ByteArray, (rget (laR x) x1 = [S s, S s1]) ∧ ((((0 : Int) ≤ x1) ∧ (x1 < (rlen (laR y)))) ∧ (∃ s2 : ByteArray, ∃ s3 : ByteArray, (rget (laR y) x1 = [S s2, S s3]) ∧ (ifB (bnot (band (seq s s2) (band (seq s1 s3) true))) (Q [B false]) (((Option.some [] : Option (List (List SV))) = Option.some []) ∧ ((Inv b (wadd IntKind.i64 x1 1)) ∧ (Nat.le (Nat.succ (m b (wadd IntKind.i64 x1 1))) (m b x1))))))))) (Q [B true])) := by
 refine ⟨fun _ i => (0 ≤ i ∧ i ≤ x.length) ∧ x.take i.toNat = y.take i.toNat, fun _ i => (x.length - i).toNat, ⟨by omega, by simp⟩, ?_⟩; rintro b i ⟨⟨i0, il⟩, hp⟩; rw [rlen_eq, rlen_eq, List.length_map, List.length_map]; refine Zaa (fun hi => ?_) (fun hi => ?_)
 ·have hi : i < x.length := (by simpa using hi); refine ⟨⟨i0, hi⟩, _, _, Zbk (fun p : LaD => [S p.1, S p.2]) x i i0 hi, ⟨i0, by omega⟩, _, _, Zbk (fun p : LaD => [S p.1, S p.2]) y i i0 (by omega), ?_⟩; rw [labB]; refine Zaa (fun h => ?_) (fun h => ?_)
  ·have h : ¬ (x[i.toNat]'(by omega)) = (y[i.toNat]'(by omega)) := of_decide_eq_false (by simpa only [Bool.not_eq_true'] using h); have hne : x ≠ y := fun e => h (by subst e; rfl)
   simpa [hne] using hQ
  ·have h : (x[i.toNat]'(by omega)) = (y[i.toNat]'(by omega)) := of_decide_eq_true (by simpa only [Bool.not_eq_false'] using h); rw [Za0 (by omega) (by omega)]; refine ⟨rfl, ⟨by omega, ?_⟩, mlt (by dsimp only; omega)⟩; rw [show (i + 1).toNat = i.toNat + 1 by omega]; exact Zou hxy (by omega) hp h
 ·have hi : x.length ≤ i := (by simpa using hi); rw [List.take_of_length_le (by omega), List.take_of_length_le (by omega)] at hp
  simpa [hp] using hQ

theorem Zlg {α : Type} [DecidableEq α] {x y : List α} (h : ¬ ((x.length : Int) = (y.length : Int))) : decide (x = y) = false := by
 have : x ≠ y := fun e => h (by rw [e]); simp [this]

theorem Zh0 (x y : List LaD) (hl : x.length ≤ 4000000000000000000) : Ct Tryd.prog 27 {} [SL 2 (laR x), SL 2 (laR y)] (fun r => r = [B (decide (x = y))]) := by
 refine Zrj _ _ _ (Zaa (fun h => ?_) (fun h => Zqc x y hl ?_ (fun r => r = [B (decide (x = y))]) rfl))
 ·rw [Zlg (by simpa [ine] using h)]
 ·have : (x.length : Int) = y.length := (by simpa [ine] using h); omega
theorem Zv8 (x y : List LaD) (hl : x.length ≤ 4000000000000000000) : Ct Tryd.prog 125 {} [SL 2 (laR x), SL 2 (laR y)] (fun r => r = [B (decide (x = y))]) := by
 refine Zw9 _ _ _ (Zaa (fun h => ?_) (fun h => Zqc x y hl ?_ (fun r => r = [B (decide (x = y))]) rfl))
 ·rw [Zlg (by simpa [ine] using h)]
 ·have : (x.length : Int) = y.length := (by simpa [ine] using h); omega

def SmD.ok (x : SmD) : Prop := x.ls.length ≤ 4000000000000000000
def FaD.ok (f : FaD) : Prop := f.ss.length ≤ 4000000000000000000 ∧ ∀ x ∈ f.ss, x.ok

def hasB (l : List LaD) (s : ByteArray) : Bool := l.any fun p => decide (p.1 = s)


theorem Zxc (p : LaD) (s : ByteArray) : Ct Tryd.prog 174 {} [.agg [S p.1, S p.2], .ref 0 [S s]] (fun r => r = [B (decide (p.1 = s))]) := by
 refine Zu9 _ _ _ _ ?_; rw [seq_d]

theorem idx_fn (l : List LaD) (hl : l.length ≤ 4000000000000000000) (s : ByteArray) : Ct Tryd.prog 192 {} [SL 2 (laR l), .clo 174 [.ref 0 [S s]]] (fun r => ∃ i : Int, r = [I i] ∧ (0 ≤ i ↔ hasB l s = true)) := by
 refine Zxb _ _ _ ⟨fun _ i => (0 ≤ i ∧ i ≤ l.length) ∧ hasB (l.take i.toNat) s = false, fun _ i => (l.length - i).toNat, ⟨by omega, by simp [hasB]⟩, ?_⟩; rintro b i ⟨⟨i0, il⟩, hp⟩; rw [rlen_eq, List.length_map]; refine Zaa (fun hi => ?_) (fun hi => ?_)
 ·have hi : i < l.length := (by simpa using hi); have hi' : i.toNat < l.length := (by omega); refine ⟨⟨i0, hi⟩, _, _, Zbk (fun p : LaD => [S p.1, S p.2]) l i i0 hi, Cl.of (Zxc l[i.toNat] s) ⟨_, rfl, ?_⟩⟩; refine Zaa (fun h => ?_) (fun h => ?_)
  ·refine ⟨i, rfl, ⟨fun _ => ?_, fun _ => i0⟩⟩; exact List.any_eq_true.2 ⟨l[i.toNat], List.getElem_mem hi', h⟩
  ·rw [Za0 (by omega) (by omega)]; refine ⟨rfl, ⟨by omega, ?_⟩, mlt (by dsimp only; omega)⟩; rw [show (i + 1).toNat = i.toNat + 1 by omega, List.take_add_one, List.getElem?_eq_getElem hi']; simp only [hasB, Option.toList_some, List.any_append, List.any_cons, List.any_nil, Bool.or_false, Bool.or_eq_false_iff]; exact ⟨hp, h⟩
 ·have hi : l.length ≤ i := (by simpa using hi); rw [List.take_of_length_le (by omega)] at hp; exact ⟨-1, rfl, ⟨fun h => absurd h (by decide), fun h => by rw [hp] at h; cases h⟩⟩

theorem has_fn (l : List LaD) (hl : l.length ≤ 4000000000000000000) (s : ByteArray) : Ct Tryd.prog 133 {} [SL 2 (laR l), S s] (fun r => r = [B (hasB l s)]) := by
 refine Zxa _ _ _ (Cl.ofQ (mcf_nf _ _ _ (Cl.ofQ (idx_fn l hl s) ?_)) (Q := fun r => r = [B (hasB l s)]) ?_)
 ·rintro r ⟨i, rfl, hi⟩; refine ⟨i, rfl, ?_⟩
  cases h : hasB l s with
  | true => have := hi.2 h; simp [ige, this]
  | false => have : ¬ 0 ≤ i := fun e => by rw [hi.1 e] at h; cases h
             simp [ige, this]
 ·rintro r rfl; exact ⟨_, rfl, rfl⟩

def badC (s : ByteArray) (x : Int) : Bool := bpick (bnot (bpick (bpick (bpick (ige (sbyte s x) 97) (ile (sbyte s x) 122) false) true (bpick (ige (sbyte s x) 65) (ile (sbyte s x) 90) false)) true (ieq (sbyte s x) 95))) (bpick (bnot (bpick (ige (sbyte s x) 48) (ile (sbyte s x) 57) false)) true (ieq x 0)) false
def namP (s : ByteArray) : Prop := (1 ≤ s.size ∧ s.size ≤ 64) ∧ ∀ i : Nat, i < s.size → badC s (i : Int) = false
instance (s : ByteArray) : Decidable (namP s) := inferInstanceAs (Decidable (_ ∧ _))

theorem Zxd (s : ByteArray) : Ct Tryd.prog 48 {} [S s] (fun r => r = [B (decide (namP s))]) := by
 refine Zso _ _ (Zaa (fun h => ?_) (fun h => ?_))
 ·have h : (s.size : Int) < 1 ∨ 64 < (s.size : Int) := (by simpa [bor_t, slen] using h); have : ¬ namP s := fun e => by have := e.1; omega
  simp [this]
 have h : 1 ≤ (s.size : Int) ∧ (s.size : Int) ≤ 64 := (by simpa [bor_f, slen] using h); refine ⟨fun _ i => (0 ≤ i ∧ i ≤ s.size) ∧ ∀ k : Nat, (k : Int) < i → badC s (k : Int) = false, fun _ i => (s.size - i).toNat, ⟨by omega, fun k hk => by omega⟩, ?_⟩; rintro b i ⟨⟨i0, il⟩, hp⟩; refine Zaa (fun hi => ?_) (fun hi => ?_)
 ·have hi : i < s.size := (by simpa [slen] using hi); refine ⟨⟨i0, hi⟩, ?_⟩; show ifB (badC s i) _ _; refine Zaa (fun hb => ?_) (fun hb => ?_)
  ·have : ¬ namP s := fun e => by have := e.2 i.toNat (by omega); rw [Int.toNat_of_nonneg i0, hb] at this; cases this
   simp [this]
  ·rw [Za0 (by omega) (by omega)]; refine ⟨rfl, ⟨by omega, fun k hk => ?_⟩, mlt (by dsimp only; omega)⟩; by_cases e : (k : Int) = i
   ·rw [e]; exact hb
   ·exact hp k (by omega)
 ·have hi : s.size ≤ i := by simpa [slen] using hi
  have : namP s := ⟨by omega, fun k hk => hp k (by omega)⟩
  simp [this]

def labUp (l : List LaD) (n : Nat) : Prop := ∀ k : Nat, k < n → ∀ h : k < l.length, namP l[k].1 ∧ l[k].2.size ≤ 200 ∧ hasB (l.take k) l[k].1 = false
instance (l : List LaD) (n : Nat) : Decidable (labUp l n) := inferInstanceAs (Decidable (∀ k : Nat, k < n → ∀ h : k < l.length, _))
def labP (l : List LaD) : Prop := l.length ≤ 8 ∧ labUp l l.length
instance (l : List LaD) : Decidable (labP l) := inferInstanceAs (Decidable (_ ∧ _))

theorem Zov (l : List LaD) : Ct Tryd.prog 80 {} [SL 2 (laR l)] (fun r => r = [B (decide (labP l))]) := by
 refine Zns _ _ (Zaa (fun h => ?_) (fun h => ?_))
 ·have h : 8 < (l.length : Int) := (by simpa using h); have : ¬ labP l := fun e => by have := e.1; omega
  simp [this]
 have h : (l.length : Int) ≤ 8 := (by simpa using h); refine ⟨fun _ i => (0 ≤ i ∧ i ≤ l.length) ∧ labUp l i.toNat, fun _ i => (l.length - i).toNat, ⟨by omega, fun k hk => by simp at hk⟩, ?_⟩; rintro b i ⟨⟨i0, il⟩, hp⟩; rw [rlen_eq, List.length_map]; refine Zaa (fun hi => ?_) (fun hi => ?_)
 ·have hi : i < l.length := (by simpa using hi); have hi' : i.toNat < l.length := (by omega); have no : ∀ {Q : Prop}, ¬ (namP l[i.toNat].1 ∧ l[i.toNat].2.size ≤ 200 ∧ hasB (l.take i.toNat) l[i.toNat].1 = false) → ([B false] : List SV) = [B (decide (labP l))] := fun hn => by have : ¬ labP l := fun e => hn (e.2 _ hi' hi'); simp [this]
  refine ⟨⟨i0, hi⟩, _, _, Zbk (fun p : LaD => [S p.1, S p.2]) l i i0 hi, Cl.of (Zxd l[i.toNat].1) ⟨_, rfl, ?_⟩⟩; refine Zaa (fun h1 => ?_) (fun h1 => ?_)
  ·refine no (Q := True) fun e => ?_; have h1 : ¬ namP l[i.toNat].1 ∨ 200 < (l[i.toNat].2.size : Int) := by simpa [bor_t, slen, bnot] using h1
   rcases h1 with h1 | h1
   ·exact h1 e.1
   ·have := e.2.1; omega
  ·have h1 : namP l[i.toNat].1 ∧ (l[i.toNat].2.size : Int) ≤ 200 := (by simpa [bor_f, slen, bnot] using h1); refine ⟨⟨by decide, i0, by omega⟩, ?_⟩; have e : rsub (laR l) 0 i = laR (l.take i.toNat) := (by simp [rsub, List.map_take]); rw [e]; refine Cl.of (has_fn (l.take i.toNat) (by rw [List.length_take]; omega) l[i.toNat].1) ⟨_, rfl, ?_⟩; refine Zaa (fun h2 => ?_) (fun h2 => ?_)
   ·exact no (Q := True) fun e => by rw [e.2.2] at h2; cases h2
   ·rw [Za0 (by omega) (by omega)]; refine ⟨rfl, ⟨by omega, fun k hk hkl => ?_⟩, mlt (by dsimp only; omega)⟩; by_cases e : k = i.toNat
    ·subst e; exact ⟨h1.1, by omega, h2⟩
    ·exact hp k (by omega) hkl
 ·have hi : l.length ≤ i := by simpa using hi
  have : labP l := ⟨by omega, fun k hk hkl => hp k (by omega) hkl⟩
  simp [this]

def plainP (f : FaD) : Prop := namP f.nm ∧ f.hp.size ≤ 200 ∧ (f.ty = 1 ∨ f.ty = 2) ∧ (1 ≤ f.ss.length ∧ f.ss.length ≤ 400) ∧ ∀ x ∈ f.ss, labP x.ls ∧ x.nm = f.nm ∧ hasB x.ls (ByteArray.mk (Array.mk [108, 101])) = false
instance (f : FaD) : Decidable (plainP f) := inferInstanceAs (Decidable (_ ∧ _ ∧ _ ∧ _ ∧ _))

def grow (l : List FaD) : Prop := ∀ k : Nat, ∀ h : k + 1 < l.length, sge l[k].nm l[k + 1].nm = false

end Go.Proofs.YtknnooannohflaaDoor.Met

namespace Go.Proofs.YtknnooannohflaaDoor.Met
open Go Go.Px Go.Proofs 
set_option maxRecDepth 100000
set_option linter.unusedVariables false


end Go.Proofs.YtknnooannohflaaDoor.Met

namespace Go.Proofs.YtknnooannohflaaDoor.Met
open Go Go.Px Go.Proofs Cmp Go.Proofs.YtknnooannohflaaDoor.St
set_option maxRecDepth 100000
set_option linter.unusedVariables false

abbrev pre1 (h0 : Int) : Int := 0 + h0
abbrev pre2 (h0 h1 : Int) : Int := 0 + h0 + h1
abbrev pre3 (h0 h1 h2 : Int) : Int := 0 + h0 + h1 + h2
abbrev pre4 (h0 h1 h2 h3 : Int) : Int := 0 + h0 + h1 + h2 + h3
abbrev pre5 (h0 h1 h2 h3 h4 : Int) : Int := 0 + h0 + h1 + h2 + h3 + h4
abbrev pre6 (h0 h1 h2 h3 h4 h5 : Int) : Int := 0 + h0 + h1 + h2 + h3 + h4 + h5
abbrev pre7 (h0 h1 h2 h3 h4 h5 h6 : Int) : Int := 0 + h0 + h1 + h2 + h3 + h4 + h5 + h6
abbrev pre8 (h0 h1 h2 h3 h4 h5 h6 h7 : Int) : Int := 0 + h0 + h1 + h2 + h3 + h4 + h5 + h6 + h7
abbrev pre9 (h0 h1 h2 h3 h4 h5 h6 h7 h8 : Int) : Int := 0 + h0 + h1 + h2 + h3 + h4 + h5 + h6 + h7 + h8
def preI (h0 h1 h2 h3 h4 h5 h6 h7 h8 k : Int) : Int := if k = 0 then 0 else if k = 1 then (pre1 h0) else if k = 2 then (pre2 h0 h1) else if k = 3 then (pre3 h0 h1 h2) else if k = 4 then (pre4 h0 h1 h2 h3) else if k = 5 then (pre5 h0 h1 h2 h3 h4) else if k = 6 then (pre6 h0 h1 h2 h3 h4 h5) else if k = 7 then (pre7 h0 h1 h2 h3 h4 h5 h6) else if k = 8 then (pre8 h0 h1 h2 h3 h4 h5 h6 h7) else (pre9 h0 h1 h2 h3 h4 h5 h6 h7 h8)
abbrev leN : ByteArray := ByteArray.mk (Array.mk [108, 101])
abbrev bo0 : ByteArray := ByteArray.mk (Array.mk [49])
abbrev bo1 : ByteArray := ByteArray.mk (Array.mk [50])
abbrev bo2 : ByteArray := ByteArray.mk (Array.mk [52])
abbrev bo3 : ByteArray := ByteArray.mk (Array.mk [56])
abbrev bo4 : ByteArray := ByteArray.mk (Array.mk [49, 54])
abbrev bo5 : ByteArray := ByteArray.mk (Array.mk [51, 50])
abbrev bo6 : ByteArray := ByteArray.mk (Array.mk [54, 52])
abbrev bo7 : ByteArray := ByteArray.mk (Array.mk [49, 50, 56])
abbrev bo8 : ByteArray := ByteArray.mk (Array.mk [43, 73, 110, 102])
abbrev bucN : ByteArray := ByteArray.mk (Array.mk [95, 98, 117, 99, 107, 101, 116])
abbrev sumN : ByteArray := ByteArray.mk (Array.mk [95, 115, 117, 109])
abbrev couN : ByteArray := ByteArray.mk (Array.mk [95, 99, 111, 117, 110, 116])
def bkt9 (n : ByteArray) (c : CoD) : List SmD := [⟨n ++ bucN, labs c [(leN, bo0)], (pre1 c.h0)⟩, ⟨n ++ bucN, labs c [(leN, bo1)], (pre2 c.h0 c.h1)⟩, ⟨n ++ bucN, labs c [(leN, bo2)], (pre3 c.h0 c.h1 c.h2)⟩, ⟨n ++ bucN, labs c [(leN, bo3)], (pre4 c.h0 c.h1 c.h2 c.h3)⟩, ⟨n ++ bucN, labs c [(leN, bo4)], (pre5 c.h0 c.h1 c.h2 c.h3 c.h4)⟩, ⟨n ++ bucN, labs c [(leN, bo5)], (pre6 c.h0 c.h1 c.h2 c.h3 c.h4 c.h5)⟩, ⟨n ++ bucN, labs c [(leN, bo6)], (pre7 c.h0 c.h1 c.h2 c.h3 c.h4 c.h5 c.h6)⟩, ⟨n ++ bucN, labs c [(leN, bo7)], (pre8 c.h0 c.h1 c.h2 c.h3 c.h4 c.h5 c.h6 c.h7)⟩, ⟨n ++ bucN, labs c [(leN, bo8)], (pre9 c.h0 c.h1 c.h2 c.h3 c.h4 c.h5 c.h6 c.h7 c.h8)⟩]
def tot2 (n : ByteArray) (c : CoD) : List SmD := [⟨n ++ sumN, labs c [], c.hs⟩, ⟨n ++ couN, labs c [], (pre9 c.h0 c.h1 c.h2 c.h3 c.h4 c.h5 c.h6 c.h7 c.h8)⟩]
def hst11 (n : ByteArray) (c : CoD) : List SmD := bkt9 n c ++ tot2 n c
def histF (n hp : ByteArray) (cs : List CoD) (roles : List Int) : FaD := ⟨n, hp, 3, (ofR cs roles).flatMap (hst11 n)⟩

end Go.Proofs.YtknnooannohflaaDoor.Met

/- Printed conditions of functions. -/
import Derived.Test.YtknnooannohflaaDoorMeA
import Derived.Test.YtknnooannohflaaDoorBackG
namespace Go.Proofs.YtknnooannohflaaDoor.Met
open Go Go.Px Go.Proofs 
set_option maxRecDepth 100000
set_option linter.unusedVariables false

abbrev rw6 (n hp : ByteArray) (kd : Int) (roles : List (List SV)) (lb : ByteArray) (vs : List (List SV)) : SV := .agg [S n, S hp, I kd, SL 1 roles, S lb, SL 1 vs]
theorem Zsa (s : ByteArray) (Q : List SV → Prop) (h : ∃ Inv : Bool → Int → Prop, ∃ m : Bool → Int → Nat, (Inv false 0) ∧ (∀ b x, (Inv b x) → ifB (ilt x (slen s)) ((((0 : Int) ≤ x) ∧ (x < (slen s))) ∧ (Cl Tryd.prog 136 sP [U8 (sbyte s x), B (ieq x 0)] (fun rs => ∃ b1, (rs = [B b1]) ∧ (ifB (bnot b1) (Q [B false]) (((Option.some [] : Option (LL)) = Option.some []) ∧ ((Inv b (wadd .i64 x 1)) ∧ (Nat.le (Nat.succ (m b (wadd .i64 x 1))) (m b x)))))))) (Q [B (bpick (igt (slen s) 0) (ile (slen s) 64) false)]))) : Ct Tryd.prog 137 {} [S s] Q :=
 fn_of (f := 137) SgT SvT (fun _ => none) Tryd.f137 Tryd.func137 (by kernel_rfl) (by kernel_rfl) h

theorem Zpv (c : Int) (f : Bool) (Q : List SV → Prop) (h : Q [B (bpick (bpick (bpick (bpick (ige c 97) (ile c 122) false) true (bpick (ige c 65) (ile c 90) false)) true (ieq c 95)) true (bpick (bpick (bnot f) (ige c 48) false) (ile c 57) false))]) : Ct Tryd.prog 136 {} [U8 c, B f] Q :=
 fn_of (f := 136) SgT SvT (fun _ => none) Tryd.f136 Tryd.func136 (by kernel_rfl) (by kernel_rfl) h

theorem Zng (l : LL) (Q : List SV → Prop) (h : ∃ Inv : Bool → Int → Prop, ∃ m : Bool → Int → Nat, (Inv false 0) ∧ (∀ b x, (Inv b x) → ifB (ilt x (rlen l)) ((((0 : Int) ≤ x) ∧ (x < (rlen l))) ∧ (∃ s s1, (rget l x = [S s, S s1]) ∧ (Cl Tryd.prog 137 sP [S s] (fun rs => ∃ b1, (rs = [B b1]) ∧ (ifB (bnot b1) (Q [B false]) ((((0 : Int) ≤ x) ∧ (x < (rlen l))) ∧ (∃ s2 s3, (rget l x = [S s2, S s3]) ∧ (ifB (igt (slen s3) 200) (Q [B false]) (∃ Inv1 : Bool → Int → Prop, ∃ m1 : Bool → Int → Nat, (Inv1 b 0) ∧ (∀ b2 x1, (Inv1 b2 x1) → ifB (ilt x1 x) ((((0 : Int) ≤ x1) ∧ (x1 < (rlen l))) ∧ (∃ s4 s5, (rget l x1 = [S s4, S s5]) ∧ ((((0 : Int) ≤ x) ∧ (x < (rlen l))) ∧ (∃ s6 s7, (rget l x = [S s6, S s7]) ∧ (ifB (seq s4 s6) (Q [B false]) (((Option.some [] : Option (LL)) = Option.some []) ∧ ((Inv1 b2 (wadd .i64 x1 1)) ∧ (Nat.le (Nat.succ (m1 b2 (wadd .i64 x1 1))) (m1 b2 x1))))))))) (((Option.some [] : Option (LL)) = Option.some []) ∧ ((Inv b2 (wadd .i64 x 1)) ∧ (Nat.le (Nat.succ (m b2 (wadd .i64 x 1))) (m b x)))))))))))))) (Q [B (ile (rlen l) 8)]))) : Ct Tryd.prog 88 {} [SL 2 l] Q :=
 fn_of (f := 88) SgT SvT (fun _ => none) Tryd.f88 Tryd.func88 (by kernel_rfl) (by kernel_rfl) h

theorem rle_nf (k : Int) (Q : List SV → Prop) (h : (((0 : Int) ≤ k) ∧ (k < (rlen ([[S (ByteArray.mk (Array.mk [49]))], [S (ByteArray.mk (Array.mk [50]))], [S (ByteArray.mk (Array.mk [52]))], [S (ByteArray.mk (Array.mk [56]))], [S (ByteArray.mk (Array.mk [49, 54]))], [S (ByteArray.mk (Array.mk [51, 50]))], [S (ByteArray.mk (Array.mk [54, 52]))], [S (ByteArray.mk (Array.mk [49, 50, 56]))], [S (ByteArray.mk (Array.mk [43, 73, 110, 102]))]])))) ∧ ((((0 : Int) ≤ k) ∧ (k < (rlen ([[S (ByteArray.mk (Array.mk [49]))], [S (ByteArray.mk (Array.mk [50]))], [S (ByteArray.mk (Array.mk [52]))], [S (ByteArray.mk (Array.mk [56]))], [S (ByteArray.mk (Array.mk [49, 54]))], [S (ByteArray.mk (Array.mk [51, 50]))], [S (ByteArray.mk (Array.mk [54, 52]))], [S (ByteArray.mk (Array.mk [49, 50, 56]))], [S (ByteArray.mk (Array.mk [43, 73, 110, 102]))]])))) ∧ (∃ s, (rget ([[S (ByteArray.mk (Array.mk [49]))], [S (ByteArray.mk (Array.mk [50]))], [S (ByteArray.mk (Array.mk [52]))], [S (ByteArray.mk (Array.mk [56]))], [S (ByteArray.mk (Array.mk [49, 54]))], [S (ByteArray.mk (Array.mk [51, 50]))], [S (ByteArray.mk (Array.mk [54, 52]))], [S (ByteArray.mk (Array.mk [49, 50, 56]))], [S (ByteArray.mk (Array.mk [43, 73, 110, 102]))]]) k = [S s]) ∧ (Q [S s])))) : Ct Tryd.prog 90 {} [I k] Q :=
 fn_of (f := 90) SgT SvT (fun _ => none) Tryd.f90 Tryd.func90 (by kernel_rfl) (by kernel_rfl) h

theorem Zwr (l : LL) (Q : List SV → Prop) (h : ∃ Inv : Int → Int → Prop, ∃ m : Int → Int → Nat, (Inv 0 0) ∧ (∀ x x1, (Inv x x1) → ifB (ilt x1 (rlen l)) ((((0 : Int) ≤ x1) ∧ (x1 < (rlen l))) ∧ (∃ s s1, (rget l x1 = [S s, S s1]) ∧ (ifB (seq s (ByteArray.mk (Array.mk [108, 101]))) (((Option.some [] : Option (LL)) = Option.some []) ∧ ((Inv (wadd .i64 x 1) (wadd .i64 x1 1)) ∧ (Nat.le (Nat.succ (m (wadd .i64 x 1) (wadd .i64 x1 1))) (m x x1)))) (((Option.some [] : Option (LL)) = Option.some []) ∧ ((Inv x (wadd .i64 x1 1)) ∧ (Nat.le (Nat.succ (m x (wadd .i64 x1 1))) (m x x1))))))) (Q [I x]))) : Ct Tryd.prog 89 {} [SL 2 l] Q :=
 fn_of (f := 89) SgT SvT (fun _ => none) Tryd.f89 Tryd.func89 (by kernel_rfl) (by kernel_rfl) h

theorem Zun (n hp : ByteArray) (t : Int) (ss : LL) (xn : ByteArray) (xl : LL) (xv : Int) (Q : List SV → Prop) (h : Cl Tryd.prog 88 sP [SL 2 xl] (fun rs => ∃ b, (rs = [B b]) ∧ (ifB (bpick (bnot b) true (ige (rlen ss) 400)) (Q [B false]) (ifB (ine t 3) (ifB (seq xn n) (Cl Tryd.prog 89 sP [SL 2 xl] (fun rs1 => ∃ x, (rs1 = [I x]) ∧ (Q [B (ieq x 0)]))) (Q [B false])) ((((11 : Int) = 0) → False) ∧ (ifB (ilt (wrem (rlen ss) 11) 9) (((lsum (slen n) (slen (ByteArray.mk (Array.mk [95, 98, 117, 99, 107, 101, 116])))) ≤ 9223372036854775807) ∧ (ifB (bpick (sne xn (scat n (ByteArray.mk (Array.mk [95, 98, 117, 99, 107, 101, 116])))) true (ieq (rlen xl) 0)) (Q [B false]) ((((0 : Int) ≤ (wsub .i64 (rlen xl) 1)) ∧ ((wsub .i64 (rlen xl) 1) < (rlen xl))) ∧ (∃ s s1, (rget xl (wsub .i64 (rlen xl) 1) = [S s, S s1]) ∧ (Cl Tryd.prog 90 sP [I (wrem (rlen ss) 11)] (fun rs1 => ∃ s2, (rs1 = [S s2]) ∧ (ifB (bnot (band (seq s (ByteArray.mk (Array.mk [108, 101]))) (band (seq s1 s2) true))) (Q [B false]) (ifB (ieq (wrem (rlen ss) 11) 0) (Cl Tryd.prog 89 sP [SL 2 xl] (fun rs2 => ∃ x, (rs2 = [I x]) ∧ (Q [B (bpick (ieq x 1) (ige xv 0) false)]))) ((((0 : Int) ≤ (wsub .i64 (rlen ss) 1)) ∧ ((wsub .i64 (rlen ss) 1) < (rlen ss))) ∧ (∃ s3 l x, (rget ss (wsub .i64 (rlen ss) 1) = [S s3, SL 2 l, I x]) ∧ (ifB (ieq (rlen l) (rlen xl)) ((((0 : Int) ≤ 0) ∧ (((0 : Int) ≤ (wsub .i64 (rlen xl) 1)) ∧ ((wsub .i64 (rlen xl) 1) ≤ (rlen xl)))) ∧ ((((0 : Int) ≤ 0) ∧ (((0 : Int) ≤ (wsub .i64 (rlen xl) 1)) ∧ ((wsub .i64 (rlen xl) 1) ≤ (rlen l)))) ∧ (Cl Tryd.prog 27 sP [SL 2 (rsub xl 0 (wsub .i64 (rlen xl) 1)), SL 2 (rsub l 0 (wsub .i64 (rlen xl) 1))] (fun rs2 => ∃ b1, (rs2 = [B b1]) ∧ (Q [B (bpick b1 (ige xv x) false)]))))) (Q [B false])))))))))))) ((((0 : Int) ≤ (wsub .i64 (wsub .i64 (rlen ss) 1) (wsub .i64 (wrem (rlen ss) 11) 9))) ∧ ((wsub .i64 (wsub .i64 (rlen ss) 1) (wsub .i64 (wrem (rlen ss) 11) 9)) < (rlen ss))) ∧ (∃ s l x, (rget ss (wsub .i64 (wsub .i64 (rlen ss) 1) (wsub .i64 (wrem (rlen ss) 11) 9)) = [S s, SL 2 l, I x]) ∧ ((((0 : Int) ≤ 0) ∧ (((0 : Int) ≤ (wsub .i64 (rlen l) 1)) ∧ ((wsub .i64 (rlen l) 1) ≤ (rlen l)))) ∧ (Cl Tryd.prog 27 sP [SL 2 xl, SL 2 (rsub l 0 (wsub .i64 (rlen l) 1))] (fun rs1 => ∃ b1, (rs1 = [B b1]) ∧ (ifB (bnot b1) (Q [B false]) (ifB (ieq (wrem (rlen ss) 11) 9) (((lsum (slen n) (slen (ByteArray.mk (Array.mk [95, 115, 117, 109])))) ≤ 9223372036854775807) ∧ (Q ([B (seq xn (scat n (ByteArray.mk (Array.mk [95, 115, 117, 109]))))]))) (((lsum (slen n) (slen (ByteArray.mk (Array.mk [95, 99, 111, 117, 110, 116])))) ≤ 9223372036854775807) ∧ (Q ([B (bpick (seq xn (scat n (ByteArray.mk (Array.mk [95, 99, 111, 117, 110, 116])))) (ieq xv x) false)])))))))))))))))) : Ct Tryd.prog 35 {} [fa4 n hp t ss, sa3 xn xl xv] Q :=
 fn_of (f := 35) SgT SvT (fun _ => none) Tryd.f35 Tryd.func35 (by kernel_rfl) (by kernel_rfl) h

theorem Zsb (n hp : ByteArray) (t : Int) (ss : LL) (Q : List SV → Prop) (h : ifB (igt (rlen ss) 0) (ifB (ine t 3) (Q [B true]) ((((11 : Int) = 0) → False) ∧ (Q [B (ieq (wrem (rlen ss) 11) 0)]))) (Q [B false])) : Ct Tryd.prog 34 {} [fa4 n hp t ss] Q :=
 fn_of (f := 34) SgT SvT (fun _ => none) Tryd.f34 Tryd.func34 (by kernel_rfl) (by kernel_rfl) h

theorem Zuo (x y : LL) (Q : List SV → Prop) (h : ifB (ine (rlen x) (rlen y)) (Q [B false]) (∃ Inv : Bool → Int → Prop, ∃ m : Bool → Int → Nat, (Inv false 0) ∧ (∀ b x1, (Inv b x1) → ifB (ilt x1 (rlen x)) (∃ Inv1 : ByteArray → ByteArray → Int → (LL) → ByteArray → ByteArray → Int → (LL) → Prop, ∃ m1 : ByteArray → ByteArray → Int → (LL) → ByteArray → ByteArray → Int → (LL) → Nat, ((((0 : Int) ≤ x1) ∧ (x1 < (rlen x))) ∧ (∃ s s1, ∃ x2 l, (rget x x1 = [S s, S s1, I x2, SL 3 l]) ∧ ((((0 : Int) ≤ x1) ∧ (x1 < (rlen y))) ∧ (∃ s2 s3, ∃ x3 l1, (rget y x1 = [S s2, S s3, I x3, SL 3 l1]) ∧ ((((Option.some [] : Option (LL)) = Option.some []) ∧ (Inv1 s s1 x2 l s2 s3 x3 l1)) ∧ (((Option.some [] : Option (LL)) = Option.some []) ∧ (Inv1 s s1 x2 l s2 s3 x3 l1))))))) ∧ (∀ s s1, ∀ x2 l, ∀ s2 s3, ∀ x3 l1, (Inv1 s s1 x2 l s2 s3 x3 l1) → ifB (bpick (bpick (bpick (sne s s2) true (sne s1 s3)) true (ine x2 x3)) true (ine (rlen l) (rlen l1))) (Q [B false]) (∃ Inv2 : Bool → Int → Prop, ∃ m2 : Bool → Int → Nat, (Inv2 b 0) ∧ (∀ b1 x4, (Inv2 b1 x4) → ifB (ilt x4 (rlen l)) (∃ Inv3 : ByteArray → (LL) → Int → ByteArray → (LL) → Int → Prop, ∃ m3 : ByteArray → (LL) → Int → ByteArray → (LL) → Int → Nat, ((((0 : Int) ≤ x4) ∧ (x4 < (rlen l))) ∧ (∃ s4 l2 x5, (rget l x4 = [S s4, SL 2 l2, I x5]) ∧ ((((0 : Int) ≤ x4) ∧ (x4 < (rlen l1))) ∧ (∃ s5 l3 x6, (rget l1 x4 = [S s5, SL 2 l3, I x6]) ∧ (((Sm (some ([[S s, S s1, I x2, SL 3 l], [S s2, S s3, I x3, SL 3 l1]]))) ∧ (Inv3 s4 l2 x5 s5 l3 x6)) ∧ ((Sm (some ([[S s, S s1, I x2, SL 3 l], [S s2, S s3, I x3, SL 3 l1]]))) ∧ (Inv3 s4 l2 x5 s5 l3 x6))))))) ∧ (∀ s4 l2, ∀ x5 s5, ∀ l3 x6, (Inv3 s4 l2 x5 s5 l3 x6) → ifB (bpick (sne s4 s5) true (ine x5 x6)) (Q [B false]) (Cl Tryd.prog 27 sP [SL 2 l2, SL 2 l3] (fun rs => ∃ b2, (rs = [B b2]) ∧ (ifB (bnot b2) (Q [B false]) ((Sm (some ([[S s, S s1, I x2, SL 3 l], [S s2, S s3, I x3, SL 3 l1]]))) ∧ ((Inv2 b1 (wadd .i64 x4 1)) ∧ (Nat.le (Nat.succ (m2 b1 (wadd .i64 x4 1))) (m2 b1 x4))))))))) (((Option.some [] : Option (LL)) = Option.some []) ∧ ((Inv b1 (wadd .i64 x1 1)) ∧ (Nat.le (Nat.succ (m b1 (wadd .i64 x1 1))) (m b x1)))))))) (Q [B true])))) : Ct Tryd.prog 11 {} [SL 4 x, SL 4 y] Q :=
 fn_of (f := 11) SgT SvT (fun k => bif Nat.beq k 1000006 then some { boxes := [(768,[.str,.str,.int .i64,.sl 3]),(896,[.str,.str,.int .i64,.sl 3])], fixed := [], ptrs := [(6,768),(7,896)] } else bif Nat.beq k 1000012 then some { boxes := [(1152,[.str,.sl 2,.int .i64]),(1280,[.str,.sl 2,.int .i64])], fixed := [768, 896], ptrs := [(9,1152),(10,1280)] } else none) Tryd.f11 Tryd.func11 (by kernel_rfl) (by kernel_rfl) h

end Go.Proofs.YtknnooannohflaaDoor.Met

namespace Go.Proofs.YtknnooannohflaaDoor.Met
open Go Go.Px Go.Proofs Cmp Go.Proofs.YtknnooannohflaaDoor.St
set_option maxRecDepth 100000
set_option linter.unusedVariables false

theorem yesB {b : Bool} {x y : Prop} (e : b = true) (h : x) : ifB b x y := by subst e; exact h
theorem notB {b : Bool} {x y : Prop} (e : b = false) (h : y) : ifB b x y := by subst e; exact h

def bndT : List ByteArray := [bo0, bo1, bo2, bo3, bo4, bo5, bo6, bo7, bo8]
def bnd (k : Nat) : ByteArray := bndT.getD k ByteArray.empty
def gat (g : List SmD) (i : Nat) : SmD := g.getD i ⟨ByteArray.empty, [], 0⟩
def prv (g : List SmD) (i : Nat) : Int := if i = 0 then 0 else (gat g (i - 1)).v
def bkP (n : ByteArray) (base : List LaD) (g : List SmD) (i : Nat) : Prop := (gat g i).nm = n ++ bucN ∧ (gat g i).ls = base ++ [(leN, bnd i)] ∧ prv g i ≤ (gat g i).v
instance (n : ByteArray) (base : List LaD) (g : List SmD) (i : Nat) : Decidable (bkP n base g i) := inferInstanceAs (Decidable (_ ∧ _))
def growP (n : ByteArray) (g : List SmD) : Prop := ∀ i : Nat, i < 9 → bkP n (gat g 10).ls g i
instance (n : ByteArray) (g : List SmD) : Decidable (growP n g) := inferInstanceAs (Decidable (∀ i : Nat, i < 9 → _))
def grpP (n : ByteArray) (g : List SmD) : Prop := g.length = 11 ∧ growP n g ∧ hasB (gat g 10).ls leN = false ∧ (gat g 9).nm = n ++ sumN ∧ (gat g 9).ls = (gat g 10).ls ∧ (gat g 10).nm = n ++ couN ∧ (gat g 10).v = (gat g 8).v
instance (n : ByteArray) (g : List SmD) : Decidable (grpP n g) := inferInstanceAs (Decidable (_ ∧ _))

theorem Zgz (g : List SmD) (i : Int) (h0 : 0 ≤ i) (h : i < g.length) : rget (smR g) i = SmD.row (gat g i.toNat) := by
 rw [Zbk SmD.row g i h0 h]; unfold gat; rw [List.getD_eq_getElem?_getD, List.getElem?_eq_getElem (by omega)]; rfl

theorem Zjg {g : List SmD} {i : Nat} (h : i < g.length) : gat g i ∈ g := by
 unfold gat; rw [List.getD_eq_getElem?_getD, List.getElem?_eq_getElem h]; exact List.getElem_mem h

theorem Zk6 {l base : List LaD} {p : LaD} : l = base ++ [p] ↔ 0 < l.length ∧ (∃ h : l.length - 1 < l.length, l[l.length - 1] = p) ∧ l.take (l.length - 1) = base := by
 constructor
 ·rintro rfl; refine ⟨by simp, ⟨by simp, by simp⟩, by simp⟩
 ·rintro ⟨h1, ⟨h2, h3⟩, h4⟩; have := List.take_append_drop (l.length - 1) l; rw [h4, List.drop_eq_getElem_cons h2, List.drop_eq_nil_of_le (by omega), h3] at this; exact this.symm

def grpS (l : List SmD) (k : Nat) : List SmD := (l.drop (11 * k)).take 11
def grpsP (n : ByteArray) (l : List SmD) : Prop := ∀ k : Nat, k < (l.length + 10) / 11 → grpP n (grpS l k)
instance (n : ByteArray) (l : List SmD) : Decidable (grpsP n l) := inferInstanceAs (Decidable (∀ k : Nat, k < (l.length + 10) / 11 → _))


def flatP (n : ByteArray) (l : List SmD) : Prop := ∀ x ∈ l, x.nm = n ∧ hasB x.ls leN = false
instance (n : ByteArray) (l : List SmD) : Decidable (flatP n l) := inferInstanceAs (Decidable (∀ x ∈ l, _ ∧ _))
def labsP (l : List SmD) : Prop := ∀ x ∈ l, labP x.ls
instance (l : List SmD) : Decidable (labsP l) := inferInstanceAs (Decidable (∀ x ∈ l, _))
def headP (f : FaD) : Prop := namP f.nm ∧ f.hp.size ≤ 200 ∧ (1 ≤ f.ty ∧ f.ty ≤ 3) ∧ 1 ≤ f.ss.length ∧ f.ss.length ≤ 400
instance (f : FaD) : Decidable (headP f) := inferInstanceAs (Decidable (_ ∧ _ ∧ (_ ∧ _) ∧ _ ∧ _))
def famP (f : FaD) : Prop := headP f ∧ labsP f.ss ∧ (if f.ty = 3 then grpsP f.nm f.ss else flatP f.nm f.ss)
instance (f : FaD) : Decidable (famP f) := inferInstanceAs (Decidable (_ ∧ _ ∧ (if f.ty = 3 then _ else _)))

def upP (l : List FaD) (n : Nat) : Prop := ∀ k : Nat, k < n → ∀ h : k < l.length, famP l[k] ∧ (0 < k → sge l[k - 1].nm l[k].nm = false)
instance (l : List FaD) (n : Nat) : Decidable (upP l n) := inferInstanceAs (Decidable (∀ k : Nat, k < n → ∀ h : k < l.length, _ ∧ (0 < k → _)))
def allP (l : List FaD) : Prop := l.length ≤ 40 ∧ upP l l.length
instance (l : List FaD) : Decidable (allP l) := inferInstanceAs (Decidable (_ ∧ _))


theorem Zup (s : ByteArray) (x : Int) : bpick (bpick (bpick (bpick (ige (sbyte s x) 97) (ile (sbyte s x) 122) false) true (bpick (ige (sbyte s x) 65) (ile (sbyte s x) 90) false)) true (ieq (sbyte s x) 95)) true (bpick (bpick (bnot (ieq x 0)) (ige (sbyte s x) 48) false) (ile (sbyte s x) 57) false) = !badC s x := by
 unfold badC; generalize bpick (bpick (bpick (ige (sbyte s x) 97) (ile (sbyte s x) 122) false) true (bpick (ige (sbyte s x) 65) (ile (sbyte s x) 90) false)) true (ieq (sbyte s x) 95) = a; generalize ieq x 0 = z; generalize ige (sbyte s x) 48 = p; generalize ile (sbyte s x) 57 = q
 cases a <;> cases z <;> cases p <;> cases q <;> rfl

theorem Zws (s : ByteArray) (hs : s.size ≤ 9000000000000000000) : Ct Tryd.prog 137 {} [S s] (fun r => r = [B (decide (namP s))]) := by
 refine Zsa _ _ ⟨fun _ i => (0 ≤ i ∧ i ≤ s.size) ∧ ∀ k : Nat, (k : Int) < i → badC s (k : Int) = false, fun _ i => (s.size - i).toNat, ⟨by omega, fun k hk => by omega⟩, ?_⟩; rintro b i ⟨⟨i0, il⟩, hp⟩; refine Zaa (fun hi => ?_) (fun hi => ?_)
 ·have hi : i < s.size := (by simpa [slen] using hi); refine ⟨⟨i0, hi⟩, Cl.of (R := [B (!badC s i)]) (Zpv _ _ _ (by rw [Zup])) ⟨_, rfl, Zaa (fun hb => ?_) (fun hb => ?_)⟩⟩
  ·have hb : badC s i = true := (by simpa using hb); have : ¬ namP s := fun e => by have := e.2 i.toNat (by omega); rw [Int.toNat_of_nonneg i0, hb] at this; cases this
   simp [this]
  ·have hb : badC s i = false := (by simpa using hb); rw [Za0 (by omega) (by omega)]; refine ⟨rfl, ⟨by omega, fun k hk => ?_⟩, mlt (by dsimp only; omega)⟩; by_cases e : (k : Int) = i
   ·rw [e]; exact hb
   ·exact hp k (by omega)
 ·have hi : s.size ≤ i := by simpa [slen] using hi
  have : bpick (igt (slen s) 0) (ile (slen s) 64) false = decide (namP s) := by
   have e : namP s ↔ (0 < s.size ∧ s.size ≤ 64) := ⟨fun e => ⟨e.1.1, e.1.2⟩, fun e => ⟨⟨e.1, e.2⟩, fun k hk => hp k (by omega)⟩⟩
   simp only [bpick_eq, igt_eq, ile_eq, slen_eq]; by_cases h1 : 0 < s.size <;> by_cases h2 : s.size ≤ 64 <;> simp [e, h1, h2] <;> omega
  rw [this]

theorem Zsc {l : List LaD} {s : ByteArray} {n : Nat} (h : n < l.length) : hasB (l.take (n + 1)) s = (hasB (l.take n) s || decide (l[n].1 = s)) := by
 unfold hasB; rw [List.take_add_one, List.getElem?_eq_getElem h, List.any_append]; simp

theorem Zwt (l : List LaD) (hl : l.length ≤ 4000000000000000000) (hz : ∀ p ∈ l, p.1.size ≤ 9000000000000000000) : Ct Tryd.prog 88 {} [SL 2 (laR l)] (fun r => r = [B (decide (labP l))]) := by
 refine Zng _ _ ⟨fun _ i => (0 ≤ i ∧ i ≤ l.length) ∧ labUp l i.toNat, fun _ i => (l.length - i).toNat, ⟨by omega, fun k hk => by simp at hk⟩, ?_⟩; rintro b i ⟨⟨i0, il⟩, hp⟩; rw [rlen_eq, List.length_map]; refine Zaa (fun hi => ?_) (fun hi => ?_)
 ·have hi : i < l.length := (by simpa using hi); have hi' : i.toNat < l.length := (by omega); have row := Zbk (fun p : LaD => [S p.1, S p.2]) l i i0 hi; have no : ¬ (namP l[i.toNat].1 ∧ l[i.toNat].2.size ≤ 200 ∧ hasB (l.take i.toNat) l[i.toNat].1 = false) → ([B false] : List SV) = [B (decide (labP l))] := fun hn => by have : ¬ labP l := fun e => hn (e.2 _ hi' hi'); simp [this]
  refine ⟨⟨i0, hi⟩, _, _, row, Cl.of (Zws l[i.toNat].1 (hz _ (List.getElem_mem hi'))) ⟨_, rfl, Zaa (fun h => ?_) (fun h1 => ?_)⟩⟩
  ·have h : ¬ namP l[i.toNat].1 := (by simpa using h); exact no fun e => h e.1
  have h1 : namP l[i.toNat].1 := (by simpa using h1); refine ⟨⟨i0, hi⟩, _, _, row, Zaa (fun h => ?_) (fun h2 => ?_)⟩
  ·have h : 200 < (l[i.toNat].2.size : Int) := (by simpa using h); exact no fun e => by have := e.2.1; omega
  have h2 : (l[i.toNat].2.size : Int) ≤ 200 := (by simpa using h2); refine ⟨fun _ k => (0 ≤ k ∧ k ≤ i) ∧ hasB (l.take k.toNat) l[i.toNat].1 = false, fun _ k => (i - k).toNat, ⟨by omega, rfl⟩, ?_⟩; rintro b2 k ⟨⟨k0, ki⟩, hq⟩; refine Zaa (fun hk => ?_) (fun hk => ?_)
  ·have hk : k < i := (by simpa using hk); have hk' : k.toNat < l.length := (by omega); refine ⟨⟨k0, by omega⟩, _, _, Zbk (fun p : LaD => [S p.1, S p.2]) l k k0 (by omega), ⟨i0, hi⟩, _, _, row, ?_⟩; have hst := Zsc (s := l[i.toNat].1) hk'; rw [seq_d]; refine Zaa (fun h => ?_) (fun h => ?_)
   ·refine no fun e => ?_; have h : l[k.toNat].1 = l[i.toNat].1 := (by simpa using h); have := e.2.2; have hm : hasB (l.take i.toNat) l[i.toNat].1 = true := (by unfold hasB; refine List.any_eq_true.2 ⟨l[k.toNat], ?_, by simp [h]⟩; rw [List.mem_take_iff_getElem]; exact ⟨k.toNat, by omega, rfl⟩); rw [hm] at this; cases this
   ·rw [Za0 (by omega) (by omega)]; refine ⟨rfl, ⟨by omega, ?_⟩, mlt (by dsimp only; omega)⟩; rw [show (k + 1).toNat = k.toNat + 1 by omega, hst, hq, h]; rfl
  ·have hk : i ≤ k := (by simpa using hk); obtain rfl : k = i := by omega
   rw [Za0 (by omega) (by omega)]; refine ⟨rfl, ⟨by omega, fun q hqk hql => ?_⟩, mlt (by dsimp only; omega)⟩; by_cases e : q = k.toNat
   ·subst e; exact ⟨h1, by omega, hq⟩
   ·exact hp q (by omega) hql
 ·have hi : l.length ≤ i := by simpa using hi
  have e : labP l ↔ l.length ≤ 8 := ⟨fun e => e.1, fun e => ⟨e, fun k hk hkl => hp k (by omega) hkl⟩⟩
  have : ile (l.length : Int) 8 = decide (labP l) := by simp only [ile_eq]; by_cases h : l.length ≤ 8 <;> simp [e, h] <;> omega
  rw [this]

def lesN (l : List LaD) : Nat := (l.filter fun p => decide (p.1 = leN)).length
theorem Zwu (l : List LaD) : lesN l ≤ l.length := List.length_filter_le _ _
theorem Zg0 (l : List LaD) : lesN l = 0 ↔ hasB l leN = false := by
 unfold lesN hasB; rw [List.length_eq_zero_iff, List.filter_eq_nil_iff, List.any_eq_false]

theorem Zv4 (l : List LaD) (hl : l.length ≤ 4000000000000000000) : Ct Tryd.prog 89 {} [SL 2 (laR l)] (fun r => r = [I (lesN l)]) := by
 refine Zwr _ _ ⟨fun n i => (0 ≤ i ∧ i ≤ l.length) ∧ n = (lesN (l.take i.toNat) : Nat), fun _ i => (l.length - i).toNat, ⟨by omega, rfl⟩, ?_⟩; rintro n i ⟨⟨i0, il⟩, rfl⟩; rw [rlen_eq, List.length_map]; refine Zaa (fun hi => ?_) (fun hi => ?_)
 ·have hi : i < l.length := (by simpa using hi); have hi' : i.toNat < l.length := (by omega); have hb := Zwu (l.take i.toNat); rw [List.length_take] at hb; have hst : lesN (l.take (i.toNat + 1)) = lesN (l.take i.toNat) + (if l[i.toNat].1 = leN then 1 else 0) := by unfold lesN; rw [List.take_add_one, List.getElem?_eq_getElem hi', List.filter_append, List.length_append]; congr 1; by_cases h : l[i.toNat].1 = leN <;> simp [h]
  refine ⟨⟨i0, hi⟩, _, _, Zbk (fun p : LaD => [S p.1, S p.2]) l i i0 hi, ?_⟩; rw [seq_d, Za0 (a := i) (by omega) (by omega)]; refine Zaa (fun h => ?_) (fun h => ?_)
  ·have h : l[i.toNat].1 = leN := (by simpa using h); rw [Za0 (by omega) (by omega)]; refine ⟨rfl, ⟨by omega, ?_⟩, mlt (by dsimp only; omega)⟩; rw [show (i + 1).toNat = i.toNat + 1 by omega, hst, if_pos h]; rfl
  ·have h : ¬ l[i.toNat].1 = leN := (by simpa using h); refine ⟨rfl, ⟨by omega, ?_⟩, mlt (by dsimp only; omega)⟩; rw [show (i + 1).toNat = i.toNat + 1 by omega, hst, if_neg h]; rfl
 ·have hi : l.length ≤ i := (by simpa using hi); rw [List.take_of_length_le (by omega)]

theorem le_fn (k : Nat) (hk : k < 9) : Ct Tryd.prog 90 {} [I k] (fun r => r = [S (bnd k)]) := by
 refine rle_nf _ _ ⟨?_, ?_, bnd k, ?_, rfl⟩
 ·show (0 : Int) ≤ k ∧ (k : Int) < ((9 : Nat) : Int); omega
 ·show (0 : Int) ≤ k ∧ (k : Int) < ((9 : Nat) : Int); omega
 ·match k, hk with
  | 0, _ => rfl
  | 1, _ => rfl
  | 2, _ => rfl
  | 3, _ => rfl
  | 4, _ => rfl
  | 5, _ => rfl
  | 6, _ => rfl
  | 7, _ => rfl
  | 8, _ => rfl

theorem Zis (f : FaD) : Ct Tryd.prog 34 {} [.agg f.row] (fun r => r = [B (decide (0 < f.ss.length ∧ (f.ty = 3 → f.ss.length % 11 = 0)))]) := by
 refine Zsb _ _ _ _ _ (Zaa (fun h => ?_) (fun h => ?_))
 ·have h : 0 < f.ss.length := (by simpa using h); refine Zaa (fun h3 => ?_) (fun h3 => ?_)
  ·have h3 : ¬ f.ty = 3 := (by simpa using h3); simp [h3, h]
  ·have h3 : f.ty = 3 := (by simpa using h3); refine ⟨by decide, ?_⟩; have e : wrem (rlen (smR f.ss)) 11 = ((f.ss.length % 11 : Nat) : Int) := (by show Int.tmod ((smR f.ss).length : Int) 11 = _; rw [List.length_map, Int.tmod_eq_emod_of_nonneg (by omega)]; rfl); rw [e]; simp [h3, h]; omega
 ·have h : ¬ 0 < f.ss.length := (by simpa using h); simp [h]


def fitB (n : ByteArray) (l : List SmD) (x : SmD) (k : Nat) : Prop :=
 x.nm = n ++ bucN ∧ (∃ base, x.ls = base ++ [(leN, bnd k)]) ∧ (if k = 0 then lesN x.ls = 1 ∧ 0 ≤ x.v else
  (gat l (l.length - 1)).ls.length = x.ls.length ∧ x.ls.take (x.ls.length - 1) = (gat l (l.length - 1)).ls.take (x.ls.length - 1) ∧ (gat l (l.length - 1)).v ≤ x.v)
def fitT (n : ByteArray) (y x : SmD) (k : Nat) : Prop :=
 x.ls = y.ls.take (y.ls.length - 1) ∧ (if k = 9 then x.nm = n ++ sumN else x.nm = n ++ couN ∧ x.v = y.v)
def fitG (n : ByteArray) (l : List SmD) (x : SmD) : Prop :=
 if l.length % 11 < 9 then fitB n l x (l.length % 11) else fitT n (gat l (l.length - 1 - (l.length % 11 - 9))) x (l.length % 11)
def fitP (f : FaD) (x : SmD) : Prop := labP x.ls ∧ f.ss.length < 400 ∧ (if f.ty = 3 then fitG f.nm f.ss x else x.nm = f.nm ∧ hasB x.ls leN = false)

def seesP (f : FaD) : Prop := f.ty = 3 → 9 ≤ f.ss.length % 11 → 0 < (gat f.ss (f.ss.length - 1 - (f.ss.length % 11 - 9))).ls.length

theorem Zuq {l : List LaD} (h : labP l) : l.length ≤ 8 := h.1

theorem Zwv (f : FaD) (x : SmD) (hn : f.nm.size ≤ 1000) (hl : f.ss.length ≤ 4000000000000000000) (hx : x.ls.length ≤ 4000000000000000000) (hz : ∀ p ∈ x.ls, p.1.size ≤ 9000000000000000000) (hyl : ∀ y ∈ f.ss, y.ls.length ≤ 4000000000000000000) (hs : seesP f) :
  Ct Tryd.prog 35 {} [.agg f.row, .agg x.row] (fun r => ∃ b : Bool, r = [B b] ∧ (b = true ↔ fitP f x)) := by
 have no : ¬ fitP f x → ∃ b : Bool, ([B false] : List SV) = [B b] ∧ (b = true ↔ fitP f x) := fun h => ⟨false, rfl, by simp [h]⟩
 refine Zun _ _ _ _ _ _ _ _ (Cl.of (Zwt x.ls hx hz) ⟨_, rfl, ?_⟩); rw [rlen_eq, rlen_eq, List.length_map, List.length_map]; refine Zaa (fun h => ?_) (fun h => ?_)
 ·have h : ¬ labP x.ls ∨ 400 ≤ (f.ss.length : Int) := (by simpa [bor_t, bnot] using h); refine no fun e => ?_
  rcases h with h | h
  ·exact h e.1
  ·have := e.2.1; omega
 have h : labP x.ls ∧ (f.ss.length : Int) < 400 := (by simpa [bor_f, bnot] using h); obtain ⟨hlab, h400⟩ := h; have h8 := hlab.1; refine Zaa (fun h3 => ?_) (fun h3 => ?_)
 ·have h3 : ¬ f.ty = 3 := (by simpa using h3); have iff : fitP f x ↔ x.nm = f.nm ∧ hasB x.ls leN = false := (by unfold fitP; rw [if_neg h3]; exact ⟨fun e => e.2.2, fun e => ⟨hlab, by omega, e⟩⟩); rw [seq_d]; refine Zaa (fun h => ?_) (fun h => ?_)
  ·have h : x.nm = f.nm := (by simpa using h); refine Cl.of (Zv4 x.ls hx) ⟨_, rfl, _, rfl, ?_⟩; rw [iff, ieq_eq, decide_eq_true_iff, ← Zg0]; exact ⟨fun e => ⟨h, by omega⟩, fun e => by have := e.2; omega⟩
  ·have h : ¬ x.nm = f.nm := (by simpa using h); exact no fun e => h (iff.1 e).1
 have h3 : f.ty = 3 := (by simpa using h3); have iff : fitP f x ↔ fitG f.nm f.ss x := (by unfold fitP; rw [if_pos h3]; exact ⟨fun e => e.2.2, fun e => ⟨hlab, by omega, e⟩⟩); have em : wrem ((f.ss.length : Nat) : Int) 11 = ((f.ss.length % 11 : Nat) : Int) := (by show Int.tmod ((f.ss.length : Nat) : Int) 11 = _; rw [Int.tmod_eq_emod_of_nonneg (by omega)]; rfl); rw [em]
 obtain ⟨k, hk⟩ : ∃ k, k = f.ss.length % 11 := ⟨_, rfl⟩
 have hk11 : k < 11 := (by omega); rw [← hk]; refine ⟨by decide, Zaa (fun h9 => ?_) (fun h9 => ?_)⟩
 ·have h9 : k < 9 := (by have : (k : Int) < 9 := (by simpa using h9); omega); have iff2 : fitP f x ↔ fitB f.nm f.ss x k := (by rw [iff]; unfold fitG; rw [← hk, if_pos h9]); refine ⟨by show (f.nm.size : Int) + ((7 : Nat) : Int) ≤ 9223372036854775807; omega, Zaa (fun h => ?_) (fun h => ?_)⟩
  ·rw [sne_d] at h; refine no fun e => ?_; rw [iff2] at e; obtain ⟨e1, ⟨base, e2⟩, _⟩ := e
   rcases bor_t.1 h with h | h
   ·exact (by simpa using h : ¬ x.nm = scat f.nm bucN) e1
   ·have h : (x.ls.length : Int) = 0 := (by simpa using h); rw [e2] at h; simp at h; omega
  rw [sne_d] at h; obtain ⟨h1, h2⟩ := bor_f.1 h
  have hnm : x.nm = f.nm ++ bucN := (by simpa using h1 : x.nm = scat f.nm bucN)
  have hpos : 0 < x.ls.length := (by have : ¬ (x.ls.length : Int) = 0 := (by simpa using h2); omega); have hlt : x.ls.length - 1 < x.ls.length := (by omega); have ew : wsub .i64 ((x.ls.length : Nat) : Int) 1 = ((x.ls.length - 1 : Nat) : Int) := (by rw [Zcn (by omega) (by omega)]; omega); rw [ew]; have row := Zbk (fun p : LaD => [S p.1, S p.2]) x.ls ((x.ls.length - 1 : Nat) : Int) (by omega) (by omega); simp only [Int.toNat_natCast] at row; refine ⟨by omega, _, _, row, Cl.of (le_fn k h9) ⟨_, rfl, ?_⟩⟩; rw [labB]; refine Zaa (fun h => ?_) (fun h => ?_)
  ·refine no fun e => ?_; obtain ⟨_, ⟨base, e2⟩, _⟩ := iff2.1 e; obtain ⟨_, ⟨_, e3⟩, _⟩ := Zk6.1 e2; rw [e3] at h; simp at h
  have hla : x.ls[x.ls.length - 1] = (leN, bnd k) := by simpa [Prod.ext_iff] using h
  have hbase : ∃ base, x.ls = base ++ [(leN, bnd k)] := ⟨_, Zk6.2 ⟨hpos, ⟨hlt, hla⟩, rfl⟩⟩
  refine Zaa (fun h0 => ?_) (fun h0 => ?_)
  ·have h0 : k = 0 := (by have : (k : Int) = 0 := (by simpa using h0); omega); refine Cl.of (Zv4 x.ls hx) ⟨_, rfl, _, rfl, ?_⟩; rw [iff2]; unfold fitB; rw [if_pos h0]; constructor
   ·intro h; have h : (lesN x.ls : Int) = 1 ∧ 0 ≤ x.v := by by_cases h5 : (lesN x.ls : Int) = 1 <;> by_cases h6 : 0 ≤ x.v <;> simp_all [bpick]
    exact ⟨hnm, hbase, by omega, h.2⟩
   ·rintro ⟨_, _, h5, h6⟩; simp [h5, h6]
  ·have h0 : ¬ k = 0 := (by have : ¬ (k : Int) = 0 := (by simpa using h0); omega); have hfl : 0 < f.ss.length := (by omega); have ew2 : wsub .i64 ((f.ss.length : Nat) : Int) 1 = ((f.ss.length - 1 : Nat) : Int) := (by rw [Zcn (by omega) (by omega)]; omega); rw [ew2]; have rowy := Zgz f.ss ((f.ss.length - 1 : Nat) : Int) (by omega) (by omega); simp only [Int.toNat_natCast] at rowy
   obtain ⟨y, hy⟩ : ∃ y, y = gat f.ss (f.ss.length - 1) := ⟨_, rfl⟩
   rw [← hy] at rowy; have iff3 : fitP f x ↔ y.ls.length = x.ls.length ∧ x.ls.take (x.ls.length - 1) = y.ls.take (x.ls.length - 1) ∧ y.v ≤ x.v := (by rw [iff2]; unfold fitB; rw [if_neg h0, ← hy]; exact ⟨fun e => e.2.2, fun e => ⟨hnm, hbase, e⟩⟩); refine ⟨by omega, _, _, _, rowy, ?_⟩; rw [rlen_eq, List.length_map]; refine Zaa (fun h => ?_) (fun h => ?_)
   ·have h : y.ls.length = x.ls.length := (by have : (y.ls.length : Int) = x.ls.length := (by simpa using h); omega); refine ⟨by omega, by omega, ?_⟩; have e1 : rsub (laR x.ls) 0 ((x.ls.length - 1 : Nat) : Int) = laR (x.ls.take (x.ls.length - 1)) := (by simp [rsub, List.map_take]); have e2 : rsub (laR y.ls) 0 ((x.ls.length - 1 : Nat) : Int) = laR (y.ls.take (x.ls.length - 1)) := (by simp [rsub, List.map_take]); rw [e1, e2]; refine Cl.of (Zh0 _ _ (by rw [List.length_take]; omega)) ⟨_, rfl, _, rfl, ?_⟩; rw [iff3]; by_cases h5 : x.ls.take (x.ls.length - 1) = y.ls.take (x.ls.length - 1) <;> by_cases h6 : y.v ≤ x.v <;> simp [h, h5, h6]
   ·have h : ¬ y.ls.length = x.ls.length := (by have : ¬ (y.ls.length : Int) = x.ls.length := (by simpa using h); omega); exact no fun e => h (iff3.1 e).1
 ·have h9 : 9 ≤ k := (by have : ¬ (k : Int) < 9 := (by simpa using h9); omega); have hfl : 9 ≤ f.ss.length := (by omega); have ew : wsub .i64 (wsub .i64 ((f.ss.length : Nat) : Int) 1) (wsub .i64 (k : Int) 9) = ((f.ss.length - 1 - (k - 9) : Nat) : Int) := (by rw [Zcn (a := ((f.ss.length : Nat) : Int)) (by omega) (by omega), Zcn (a := (k : Int)) (by omega) (by omega), Zcn (by omega) (by omega)]; omega); rw [ew]; have rowy := Zgz f.ss ((f.ss.length - 1 - (k - 9) : Nat) : Int) (by omega) (by omega); simp only [Int.toNat_natCast] at rowy; have hy0 := hs h3 (by omega); rw [← hk] at hy0
  obtain ⟨y, hy⟩ : ∃ y, y = gat f.ss (f.ss.length - 1 - (k - 9)) := ⟨_, rfl⟩
  rw [← hy] at rowy hy0; have iff2 : fitP f x ↔ fitT f.nm y x k := (by rw [iff]; unfold fitG; rw [← hk, if_neg (by omega), ← hy]); have hyy : y.ls.length ≤ 4000000000000000000 := hyl y (by rw [hy]; exact Zjg (by omega)); have ew2 : wsub .i64 ((y.ls.length : Nat) : Int) 1 = ((y.ls.length - 1 : Nat) : Int) := (by rw [Zcn (by omega) (by omega)]; omega); refine ⟨by omega, _, _, _, rowy, ?_⟩; rw [rlen_eq, List.length_map, ew2]; refine ⟨by omega, ?_⟩; have e2 : rsub (laR y.ls) 0 ((y.ls.length - 1 : Nat) : Int) = laR (y.ls.take (y.ls.length - 1)) := (by simp [rsub, List.map_take]); rw [e2]; refine Cl.of (Zh0 _ _ hx) ⟨_, rfl, Zaa (fun h => ?_) (fun h => ?_)⟩
  ·have h : ¬ x.ls = y.ls.take (y.ls.length - 1) := (by simpa using h); exact no fun e => h (iff2.1 e).1
  have hls : x.ls = y.ls.take (y.ls.length - 1) := (by simpa using h); refine Zaa (fun h => ?_) (fun h => ?_)
  ·have h : k = 9 := (by have : (k : Int) = 9 := (by simpa using h); omega); refine ⟨by show (f.nm.size : Int) + ((4 : Nat) : Int) ≤ 9223372036854775807; omega, _, rfl, ?_⟩; rw [iff2]; unfold fitT; rw [if_pos h, seq_d, decide_eq_true_iff]; exact ⟨fun e => ⟨hls, e⟩, fun e => e.2⟩
  ·have h : ¬ k = 9 := (by have : ¬ (k : Int) = 9 := (by simpa using h); omega); refine ⟨by show (f.nm.size : Int) + ((6 : Nat) : Int) ≤ 9223372036854775807; omega, _, rfl, ?_⟩; rw [iff2]; unfold fitT; rw [if_neg h, seq_d]; constructor
   ·intro e; by_cases h5 : x.nm = scat f.nm couN
    ·have h5d : decide (x.nm = scat f.nm (ByteArray.mk (Array.mk [95, 99, 111, 117, 110, 116]))) = true := decide_eq_true h5; rw [h5d] at e; exact ⟨hls, h5, by simpa [bpick] using e⟩
    ·have h5d : decide (x.nm = scat f.nm (ByteArray.mk (Array.mk [95, 99, 111, 117, 110, 116]))) = false := decide_eq_false h5; rw [h5d] at e; simp [bpick] at e
   ·rintro ⟨_, h5, h6⟩; have h5d : decide (x.nm = scat f.nm (ByteArray.mk (Array.mk [95, 99, 111, 117, 110, 116]))) = true := decide_eq_true h5; rw [h5d]; simp [bpick, h6]

def upto (f : FaD) (j : Nat) : FaD := { f with ss := f.ss.take j }
def Zf9 (f : FaD) (j : Nat) : Prop := ∀ i : Nat, i < j → fitP (upto f i) (gat f.ss i)

theorem Zit {l : List SmD} {i j : Nat} (h : i < j) : gat (l.take j) i = gat l i := by
 unfold gat; rw [List.getD_eq_getElem?_getD, List.getD_eq_getElem?_getD, List.getElem?_take, if_pos h]

def rhead (f : FaD) : Prop := namP f.nm ∧ f.hp.size ≤ 200 ∧ (1 ≤ f.ty ∧ f.ty ≤ 3) ∧ (0 < f.ss.length ∧ (f.ty = 3 → f.ss.length % 11 = 0))

def szL (l : List LaD) : Prop := l.length ≤ 4000000000000000000 ∧ ∀ p ∈ l, p.1.size ≤ 9000000000000000000
def szF (f : FaD) : Prop := f.nm.size ≤ 9000000000000000000 ∧ f.ss.length ≤ 4000000000000000000 ∧ ∀ x ∈ f.ss, szL x.ls

theorem Zur {f : FaD} {j : Nat} (hj : j < f.ss.length) (h : fitP (upto f j) (gat f.ss j)) : j < 400 := by
 have := h.2.1; have e : (upto f j).ss.length = j := (by show (f.ss.take j).length = j; rw [List.length_take]; omega); omega


theorem Zob {l : List SmD} {q r : Nat} (h : r < 11) : gat (grpS l q) r = gat l (11 * q + r) := by
 unfold grpS; rw [Zit h]; unfold gat; rw [List.getD_eq_getElem?_getD, List.getD_eq_getElem?_getD, List.getElem?_drop]

theorem Zjh (l : List LaD) (v : ByteArray) : lesN (l ++ [(leN, v)]) = lesN l + 1 := by
 unfold lesN; rw [List.filter_append, List.length_append]; simp

theorem Zpw {n : ByteArray} {l : List SmD} {q : Nat} (hq : 11 * q + 11 ≤ l.length) : grpP n (grpS l q) ↔ ∀ r : Nat, r < 11 → fitG n (l.take (11 * q + r)) (gat l (11 * q + r)) := by
 have hlen : (grpS l q).length = 11 := (by unfold grpS; rw [List.length_take, List.length_drop]; omega); have tl : ∀ r, r < 11 → (l.take (11 * q + r)).length = 11 * q + r := fun r hr => by rw [List.length_take]; omega
 have fb : ∀ r, r < 9 → (fitG n (l.take (11 * q + r)) (gat l (11 * q + r)) ↔ fitB n (l.take (11 * q + r)) (gat l (11 * q + r)) r) := fun r hr => by unfold fitG; rw [tl r (by omega), show (11 * q + r) % 11 = r by omega, if_pos hr]
 have ft : ∀ r, 9 ≤ r → r < 11 → (fitG n (l.take (11 * q + r)) (gat l (11 * q + r)) ↔ fitT n (gat l (11 * q + 8)) (gat l (11 * q + r)) r) := fun r h9 hr => by unfold fitG; rw [tl r hr, show (11 * q + r) % 11 = r by omega, if_neg (by omega), Zit (by omega), show 11 * q + r - 1 - (r - 9) = 11 * q + 8 by omega]
 have pv : ∀ r, r ≠ 0 → r < 9 → gat (l.take (11 * q + r)) ((l.take (11 * q + r)).length - 1) = gat l (11 * q + (r - 1)) := fun r h0 hr => by rw [tl r (by omega), Zit (by omega), show 11 * q + r - 1 = 11 * q + (r - 1) by omega]
 constructor
 ·rintro ⟨_, hg, hh, h9, h9l, h10, h10v⟩ r hr; have G : ∀ i, i < 11 → gat (grpS l q) i = gat l (11 * q + i) := fun i hi => Zob hi; rw [G 10 (by decide)] at hh h9l h10 h10v; rw [G 9 (by decide)] at h9 h9l; rw [G 8 (by decide)] at h10v
  have hb : ∀ i, i < 9 → (gat l (11 * q + i)).nm = n ++ bucN ∧ (gat l (11 * q + i)).ls = (gat l (11 * q + 10)).ls ++ [(leN, bnd i)] ∧ (if i = 0 then 0 else (gat l (11 * q + (i - 1))).v) ≤ (gat l (11 * q + i)).v := fun i hi => by
   have := hg i hi; unfold bkP prv at this; rw [G i (by omega), G 10 (by decide)] at this; by_cases h0 : i = 0
   ·subst h0; exact this
   ·rw [if_neg h0, G (i - 1) (by omega)] at this; rw [if_neg h0]; exact this
  by_cases h9' : r < 9
  ·rw [fb r h9']; obtain ⟨b1, b2, b3⟩ := hb r h9'; refine ⟨b1, ⟨_, b2⟩, ?_⟩; by_cases h0 : r = 0
   ·rw [if_pos h0]; rw [if_pos h0] at b3; refine ⟨?_, b3⟩; rw [b2, Zjh, (Zg0 _).2 hh]
   ·rw [if_neg h0, pv r h0 h9']; rw [if_neg h0] at b3; obtain ⟨_, c2, _⟩ := hb (r - 1) (by omega); refine ⟨by rw [b2, c2]; simp, ?_, b3⟩; rw [b2, c2]; simp
  ·rw [ft r (by omega) hr]; obtain ⟨_, c2, _⟩ := hb 8 (by decide); have e8 : (gat l (11 * q + 8)).ls.take ((gat l (11 * q + 8)).ls.length - 1) = (gat l (11 * q + 10)).ls := by rw [c2]; simp
   unfold fitT; rw [e8]; by_cases h9 : r = 9
   ·subst h9; exact ⟨h9l, by rw [if_pos rfl]; assumption⟩
   ·obtain rfl : r = 10 := by omega
    exact ⟨rfl, by rw [if_neg (by decide)]; exact ⟨h10, h10v⟩⟩
 ·intro h; have hB : ∀ i, i < 9 → fitB n (l.take (11 * q + i)) (gat l (11 * q + i)) i := fun i hi => (fb i hi).1 (h i (by omega)); have hT : ∀ i, 9 ≤ i → i < 11 → fitT n (gat l (11 * q + 8)) (gat l (11 * q + i)) i := fun i h9 hi => (ft i h9 hi).1 (h i hi)
  -- the labels of all buckets begin alike
  obtain ⟨base, hbase⟩ := (hB 0 (by decide)).2.1
  have hall : ∀ i, i < 9 → (gat l (11 * q + i)).ls = base ++ [(leN, bnd i)] := by
   intro i
   induction i with
   | zero => intro _; exact hbase
   | succ i ih =>
    intro hi; have ihh := ih (by omega); obtain ⟨_, ⟨b', hb'⟩, h3⟩ := hB (i + 1) hi; rw [if_neg (by omega), pv (i + 1) (by omega) hi, show i + 1 - 1 = i by omega] at h3; obtain ⟨h4, h5, _⟩ := h3; rw [ihh, hb'] at h5 h4; have hlb : b'.length = base.length := by simp at h4; omega
    have e1 : (b' ++ [(leN, bnd (i + 1))]).length - 1 = b'.length := (by simp); rw [e1] at h5; have : b' = base := (by rw [List.take_left] at h5; rw [hlb, List.take_left] at h5; exact h5); rw [hb', this]
  have hT9 := hT 9 (by decide) (by decide); have hT10 := hT 10 (by decide) (by decide); unfold fitT at hT9 hT10; rw [hall 8 (by decide)] at hT9 hT10; have e8 : (base ++ [(leN, bnd 8)]).take ((base ++ [(leN, bnd 8)]).length - 1) = base := (by simp); rw [e8] at hT9 hT10; rw [if_pos rfl] at hT9; rw [if_neg (by decide)] at hT10; have G : ∀ i, i < 11 → gat (grpS l q) i = gat l (11 * q + i) := fun i hi => Zob hi; refine ⟨hlen, fun i hi => ?_, ?_, ?_, ?_, ?_, ?_⟩
  ·unfold bkP prv; rw [G i (by omega), G 10 (by decide), hT10.1]; refine ⟨(hB i hi).1, hall i hi, ?_⟩; have h3 := (hB i hi).2.2; by_cases h0 : i = 0
   ·rw [if_pos h0] at h3 ⊢; exact h3.2
   ·rw [if_neg h0, pv i h0 hi] at h3; rw [if_neg h0, G (i - 1) (by omega)]; exact h3.2.2
  ·rw [G 10 (by decide), hT10.1, ← Zg0]; have h3 := (hB 0 (by decide)).2.2; rw [if_pos rfl] at h3; have := h3.1; rw [hall 0 (by decide), Zjh] at this; omega
  ·rw [G 9 (by decide)]; exact hT9.2
  ·rw [G 9 (by decide), G 10 (by decide), hT9.1, hT10.1]
  ·rw [G 10 (by decide)]; exact hT10.2.1
  ·rw [G 10 (by decide), G 8 (by decide)]; exact hT10.2.2

theorem Zji {n : ByteArray} {l : List SmD} : grpsP n l ↔ l.length % 11 = 0 ∧ ∀ i : Nat, i < l.length → fitG n (l.take i) (gat l i) := by
 constructor
 ·intro h; have hm : l.length % 11 = 0 := (by refine Classical.byContradiction fun hne => ?_; have := (h (l.length / 11) (by omega)).1; unfold grpS at this; rw [List.length_take, List.length_drop] at this; omega); refine ⟨hm, fun i hi => ?_⟩; have := (Zpw (q := i / 11) (by omega)).1 (h (i / 11) (by omega)) (i % 11) (by omega); rwa [show 11 * (i / 11) + i % 11 = i by omega] at this
 ·rintro ⟨hm, h⟩ q hq; exact (Zpw (by omega)).2 fun r hr => h _ (by omega)

theorem Zl7 {l : List SmD} {i : Nat} (h : i < l.length) : gat l i = l[i] := by
 unfold gat; rw [List.getD_eq_getElem?_getD, List.getElem?_eq_getElem h]; rfl

theorem Zoc (f : FaD) : famP f ↔ rhead f ∧ Zf9 f f.ss.length := by
 have e : ∀ i, i < f.ss.length → (fitP (upto f i) (gat f.ss i) ↔ labP (gat f.ss i).ls ∧ i < 400 ∧ (if f.ty = 3 then fitG f.nm (f.ss.take i) (gat f.ss i) else (gat f.ss i).nm = f.nm ∧ hasB (gat f.ss i).ls leN = false)) := fun i hi => by
  unfold fitP; have : (upto f i).ss.length = i := by show (f.ss.take i).length = i; rw [List.length_take]; omega
  rw [this]; rfl
 constructor
 ·rintro ⟨⟨h1, h2, h3, h4, h5⟩, hl, hg⟩; refine ⟨⟨h1, h2, h3, by omega, fun ht => ?_⟩, fun i hi => ?_⟩
  ·rw [if_pos ht] at hg; exact (Zji.1 hg).1
  ·rw [e i hi]; refine ⟨hl _ (Zjg hi), by omega, ?_⟩; by_cases ht : f.ty = 3
   ·rw [if_pos ht] at hg ⊢; exact (Zji.1 hg).2 i hi
   ·rw [if_neg ht] at hg ⊢; exact hg _ (Zjg hi)
 ·rintro ⟨⟨h1, h2, h3, h4, h5⟩, hf⟩; have hf' := fun i hi => (e i hi).1 (hf i hi); have h400 := (hf' (f.ss.length - 1) (by omega)).2.1; refine ⟨⟨h1, h2, h3, by omega, by omega⟩, fun x hx => ?_, ?_⟩
  ·obtain ⟨i, hi, rfl⟩ := List.mem_iff_getElem.1 hx; have := (hf' i hi).1; rwa [Zl7 hi] at this
  ·by_cases ht : f.ty = 3
   ·rw [if_pos ht]; refine Zji.2 ⟨h5 ht, fun i hi => ?_⟩; have := (hf' i hi).2.2; rwa [if_pos ht] at this
   ·rw [if_neg ht]; intro x hx; obtain ⟨i, hi, rfl⟩ := List.mem_iff_getElem.1 hx; have := (hf' i hi).2.2; rw [if_neg ht, Zl7 hi] at this; exact this


theorem Zpx (x y : List FaD) (hl : x.length ≤ 4000000000000000000) (hx : ∀ s ∈ x, s.ok) : Ct Tryd.prog 11 {} [SL 4 (faR x), SL 4 (faR y)] (fun r => r = [B (decide (x = y))]) := by
 have no : ¬ x = y → ([B false] : List SV) = [B (decide (x = y))] := fun h => by simp [h]
 refine Zuo _ _ _ (Zaa (fun h => ?_) (fun h => ?_))
 ·refine no fun e => ?_; have h : ¬ (x.length : Int) = y.length := (by simpa [ine] using h); exact h (by rw [e])
 have hxy : x.length = y.length := (by have : (x.length : Int) = y.length := (by simpa [ine] using h); omega); refine ⟨fun _ i => (0 ≤ i ∧ i ≤ x.length) ∧ x.take i.toNat = y.take i.toNat, fun _ i => (x.length - i).toNat, ⟨by omega, by simp⟩, ?_⟩; rintro b i ⟨⟨i0, il⟩, hp⟩; rw [rlen_eq, rlen_eq, List.length_map, List.length_map]; refine Zaa (fun hi => ?_) (fun hi => ?_)
 ·have hi : i < x.length := (by simpa using hi); have hi' : i.toNat < x.length := (by omega); have hiy : i.toNat < y.length := (by omega); have no1 : ¬ x[i.toNat] = y[i.toNat] → ([B false] : List SV) = [B (decide (x = y))] := fun h => no fun e => h (by subst e; rfl)
  obtain ⟨p, hpd⟩ : ∃ p, p = x[i.toNat] := ⟨_, rfl⟩
  obtain ⟨q, hqd⟩ : ∃ q, q = y[i.toNat] := ⟨_, rfl⟩
  have rx := Zbk FaD.row x i i0 hi; have ry := Zbk FaD.row y i i0 (by omega); rw [← hpd] at rx no1; rw [← hqd] at ry no1; have hpo : p.ok := (by rw [hpd]; exact hx _ (List.getElem_mem hi')); refine ⟨fun s s1 x2 l s2 s3 x3 l1 => s = p.nm ∧ s1 = p.hp ∧ x2 = p.ty ∧ l = smR p.ss ∧ s2 = q.nm ∧ s3 = q.hp ∧ x3 = q.ty ∧ l1 = smR q.ss, fun _ _ _ _ _ _ _ _ => 0, ?_, ?_⟩
  ·exact ⟨⟨i0, hi⟩, _, _, _, _, rx, ⟨i0, by omega⟩, _, _, _, _, ry, ⟨rfl, rfl, rfl, rfl, rfl, rfl, rfl, rfl, rfl⟩, ⟨rfl, rfl, rfl, rfl, rfl, rfl, rfl, rfl, rfl⟩⟩
  rintro _ _ _ _ _ _ _ _ ⟨rfl, rfl, rfl, rfl, rfl, rfl, rfl, rfl⟩; rw [rlen_eq, rlen_eq, List.length_map, List.length_map, sne_d, sne_d]; refine Zaa (fun h => ?_) (fun h => ?_)
  ·refine no1 fun e => ?_; subst e; simp [bpick, ine] at h
  have h : p.nm = q.nm ∧ p.hp = q.hp ∧ p.ty = q.ty ∧ (p.ss.length : Int) = q.ss.length := (by obtain ⟨h, h4⟩ := bor_f.1 h; obtain ⟨h, h3⟩ := bor_f.1 h; obtain ⟨h1, h2⟩ := bor_f.1 h; exact ⟨by simpa using h1, by simpa using h2, by simpa using h3, by simpa using h4⟩); obtain ⟨h1, h2, h3, h4⟩ := h; have hpl := hpo.1; have eqs : p.ss = q.ss → p = q := fun e => by cases p; cases q; simp_all
  refine ⟨fun _ k => (0 ≤ k ∧ k ≤ p.ss.length) ∧ p.ss.take k.toNat = q.ss.take k.toNat, fun _ k => (p.ss.length - k).toNat, ⟨by omega, by simp⟩, ?_⟩; rintro b1 k ⟨⟨k0, kl⟩, hq⟩; refine Zaa (fun hk => ?_) (fun hk => ?_)
  ·have hk : k < p.ss.length := (by simpa using hk); have hk' : k.toNat < p.ss.length := (by omega); have hky : k.toNat < q.ss.length := by omega
   obtain ⟨u, hud⟩ : ∃ u, u = p.ss[k.toNat] := ⟨_, rfl⟩
   obtain ⟨v, hvd⟩ : ∃ v, v = q.ss[k.toNat] := ⟨_, rfl⟩
   have no2 : ¬ u = v → ([B false] : List SV) = [B (decide (x = y))] := fun h => no1 fun e => h (by subst e; rw [hud, hvd]); have ru := Zbk SmD.row p.ss k k0 hk; have rv := Zbk SmD.row q.ss k k0 (by omega); rw [← hud] at ru; rw [← hvd] at rv; have huo : u.ok := (by rw [hud]; exact hpo.2 _ (List.getElem_mem hk')); refine ⟨fun s l x2 s2 l1 x3 => s = u.nm ∧ l = laR u.ls ∧ x2 = u.v ∧ s2 = v.nm ∧ l1 = laR v.ls ∧ x3 = v.v, fun _ _ _ _ _ _ => 0, ?_, ?_⟩
   ·exact ⟨⟨k0, hk⟩, _, _, _, ru, ⟨k0, by omega⟩, _, _, _, rv, ⟨rfl, rfl, rfl, rfl, rfl, rfl, rfl⟩, ⟨rfl, rfl, rfl, rfl, rfl, rfl, rfl⟩⟩
   rintro _ _ _ _ _ _ ⟨rfl, rfl, rfl, rfl, rfl, rfl⟩; rw [sne_d]; refine Zaa (fun h => ?_) (fun h => ?_)
   ·refine no2 fun e => ?_; subst e; simp [bpick, ine] at h
   have h : u.nm = v.nm ∧ u.v = v.v := (by obtain ⟨h1, h2⟩ := bor_f.1 h; exact ⟨by simpa using h1, by simpa using h2⟩); refine Cl.of (Zh0 u.ls v.ls huo) ⟨_, rfl, Zaa (fun h5 => ?_) (fun h5 => ?_)⟩
   ·have h5 : ¬ u.ls = v.ls := (by simpa using h5); exact no2 fun e => h5 (by rw [e])
   ·have h5 : u.ls = v.ls := (by simpa using h5); have huv : u = v := (by cases u; cases v; simp_all); rw [Za0 (by omega) (by omega)]; refine ⟨rfl, ⟨by omega, ?_⟩, mlt (by dsimp only; omega)⟩; rw [show (k + 1).toNat = k.toNat + 1 by omega]; exact Zou (by omega) hk' hq (by rw [← hud, ← hvd]; exact huv)
  ·have hk : p.ss.length ≤ k := (by simpa using hk); rw [List.take_of_length_le (by omega), List.take_of_length_le (by omega)] at hq; rw [Za0 (by omega) (by omega)]; refine ⟨rfl, ⟨by omega, ?_⟩, mlt (by dsimp only; omega)⟩; rw [show (i + 1).toNat = i.toNat + 1 by omega]; exact Zou hxy hi' hp (by rw [← hpd, ← hqd]; exact eqs hq)
 ·have hi : x.length ≤ i := (by simpa using hi); rw [List.take_of_length_le (by omega), List.take_of_length_le (by omega)] at hp; simp [hp]

def shortS (d : StD) : Prop := d.cs.length ≤ 20 ∧ ∀ c ∈ d.cs, c.nm.size ≤ 100 ∧ c.cl.length ≤ 40

end Go.Proofs.YtknnooannohflaaDoor.Met

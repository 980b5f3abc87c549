/- Printed conditions of functions. -/
import Derived.Test.YtknnooannohflaaGreatDoorMeA
import Derived.Test.YtknnooannohflaaGreatDoorBackG
namespace Go.Proofs.YtknnooannohflaaGreatDoor.Met
open Go Go.Px Go.Proofs 
set_option maxRecDepth 100000
set_option linter.unusedVariables false

abbrev rw6 (n hp : ByteArray) (kd : Int) (roles : List (List SV)) (lb : ByteArray) (vs : List (List SV)) : SV := .agg [S n, S hp, I kd, SL 1 roles, S lb, SL 1 vs]
theorem mgrp_nf (n hp : ByteArray) (t : Int) (ss : LL) (Q : List SV → Prop) (h : Cl Tryz.prog 94 sP [SL 3 ss] (fun rs => ∃ f, ∃ rs1 : List SV, (rs = [SV.clo f rs1]) ∧ ((f = 146) ∧ (∃ l, (rs1 = [SV.ref 0 [SL 3 l]]) ∧ (∃ Inv : Int → Bool → Prop, ∃ R : Bool → Prop, (Inv 0 false) ∧ ((∀ x, ((0 : Int) ≤ x) → (x < (grpN l)) → ∀ b, (Inv x b) → ifB (ine (rlen (grpAt l x)) 11) ((Sm (some ([[S n, S hp, I t, SL 3 ss]]))) ∧ (R false)) (Cl Tryz.prog 95 sP [S n, SL 3 (grpAt l x)] (fun rs2 => ∃ b1, (rs2 = [B b1]) ∧ (ifB (bnot b1) ((Sm (some ([[S n, S hp, I t, SL 3 ss]]))) ∧ (R false)) ((((0 : Int) ≤ 10) ∧ (10 < (rlen (grpAt l x)))) ∧ (∃ s l1 x1, (rget (grpAt l x) 10 = [S s, SL 2 l1, I x1]) ∧ (Cl Tryz.prog 53 sP ([SL 2 l1, S (ByteArray.mk (Array.mk [108, 101]))]) (fun rs3 => ∃ b2, (rs3 = [B b2]) ∧ (ifB b2 ((Sm (some ([[S n, S hp, I t, SL 3 ss]]))) ∧ (R false)) (∃ Inv1 : ByteArray → (LL) → Int → ByteArray → (LL) → Int → Prop, ∃ m : ByteArray → (LL) → Int → ByteArray → (LL) → Int → Nat, ((((0 : Int) ≤ 9) ∧ (9 < (rlen (grpAt l x)))) ∧ (∃ s1 l2 x2, (rget (grpAt l x) 9 = [S s1, SL 2 l2, I x2]) ∧ ((((0 : Int) ≤ 10) ∧ (10 < (rlen (grpAt l x)))) ∧ (∃ s2 l3 x3, (rget (grpAt l x) 10 = [S s2, SL 2 l3, I x3]) ∧ (((Sm (some ([[S n, S hp, I t, SL 3 ss], [B b]]))) ∧ (Inv1 s1 l2 x2 s2 l3 x3)) ∧ ((Sm (some ([[S n, S hp, I t, SL 3 ss], [B b]]))) ∧ (Inv1 s1 l2 x2 s2 l3 x3))))))) ∧ (∀ s1 l2, ∀ x2 s2, ∀ l3 x3, (Inv1 s1 l2 x2 s2 l3 x3) → ((lsum (slen n) (slen (ByteArray.mk (Array.mk [95, 115, 117, 109])))) ≤ 9223372036854775807) ∧ (ifB (sne s1 (scat n (ByteArray.mk (Array.mk [95, 115, 117, 109])))) ((Sm (some ([[S n, S hp, I t, SL 3 ss]]))) ∧ (R false)) (Cl Tryz.prog 82 sP [SL 2 l2, SL 2 l1] (fun rs4 => ∃ b3, (rs4 = [B b3]) ∧ (ifB (bnot b3) ((Sm (some ([[S n, S hp, I t, SL 3 ss]]))) ∧ (R false)) (((lsum (slen n) (slen (ByteArray.mk (Array.mk [95, 99, 111, 117, 110, 116])))) ≤ 9223372036854775807) ∧ (ifB (sne s2 (scat n (ByteArray.mk (Array.mk [95, 99, 111, 117, 110, 116])))) ((Sm (some ([[S n, S hp, I t, SL 3 ss]]))) ∧ (R false)) ((((0 : Int) ≤ 8) ∧ (8 < (rlen (grpAt l x)))) ∧ (∃ s3 l4 x4, (rget (grpAt l x) 8 = [S s3, SL 2 l4, I x4]) ∧ (ifB (ine x3 x4) ((Sm (some ([[S n, S hp, I t, SL 3 ss]]))) ∧ (R false)) ((Sm (some ([[S n, S hp, I t, SL 3 ss]]))) ∧ (Inv (kup x) b)))))))))))))))))))))) ∧ ((∀ b, (Inv (grpN l) b) → Q [B true]) ∧ (∀ b, (R b) → Q [B b])))))))) : Ct Tryz.prog 55 {} [fa4 n hp t ss] Q :=
 fnG_of (f := 55) SgT SvT (fun k => bif Nat.beq k 5000010 then some { boxes := [(256,[.bool])], fixed := [128] } else bif Nat.beq k 1000008 then some { boxes := [(640,[.str,.sl 2,.int .i64]),(768,[.str,.sl 2,.int .i64])], fixed := [128, 256], ptrs := [(5,640),(6,768)] } else none) hItG Tryz.f55 Tryz.func55 (by kernel_rfl) (by kernel_rfl) h

theorem mgroups_nf (ss : LL) (Q : List SV → Prop) (h : Q ([SV.clo 146 ([SV.ref 0 [SL 3 ss]])])) : Ct Tryz.prog 94 {} [SL 3 ss] Q :=
 fn_of (f := 94) SgT SvT (fun _ => none) Tryz.f94 Tryz.func94 (by kernel_rfl) (by kernel_rfl) h

theorem mgrow_nf (n : ByteArray) (ss : LL) (Q : List SV → Prop) (h : (((0 : Int) ≤ 10) ∧ (10 < (rlen ss))) ∧ (∃ s l x, (rget ss 10 = [S s, SL 2 l, I x]) ∧ ((((0 : Int) ≤ 0) ∧ (((0 : Int) ≤ 9) ∧ ((9 : Int) ≤ (rlen ss)))) ∧ (∃ Inv : Bool → Int → Int → Prop, ∃ m : Bool → Int → Int → Nat, (Inv false 0 0) ∧ (∀ b x1 x2, (Inv b x1 x2) → ifB (ilt x2 (rlen (rsub ss 0 9))) ((((0 : Int) ≤ x2) ∧ (x2 < (rlen (rsub ss 0 9)))) ∧ (∃ s1 l1 x3, (rget (rsub ss 0 9) x2 = [S s1, SL 2 l1, I x3]) ∧ (((lsum (slen n) (slen (ByteArray.mk (Array.mk [95, 98, 117, 99, 107, 101, 116])))) ≤ 9223372036854775807) ∧ (ifB (bpick (bpick (sne s1 (scat n (ByteArray.mk (Array.mk [95, 98, 117, 99, 107, 101, 116])))) true (ilt (wsub .i64 (rlen l1) 1) 0)) true (ilt x3 x1)) (Q [B false]) ((((0 : Int) ≤ (wsub .i64 (rlen l1) 1)) ∧ ((wsub .i64 (rlen l1) 1) < (rlen l1))) ∧ (∃ s2 s3, (rget l1 (wsub .i64 (rlen l1) 1) = [S s2, S s3]) ∧ ((((0 : Int) ≤ x2) ∧ (x2 < ((9 : Int)))) ∧ (((x2 = (0 : Int)) → ifB (bnot (band (seq s2 (ByteArray.mk (Array.mk [108, 101]))) (band (seq s3 (ByteArray.mk (Array.mk [49]))) true))) (Q [B false]) ((((0 : Int) ≤ 0) ∧ (((0 : Int) ≤ (wsub .i64 (rlen l1) 1)) ∧ ((wsub .i64 (rlen l1) 1) ≤ (rlen l1)))) ∧ (Cl Tryz.prog 82 sP [SL 2 (rsub l1 0 (wsub .i64 (rlen l1) 1)), SL 2 l] (fun rs => ∃ b1, (rs = [B b1]) ∧ (ifB (bnot b1) (Q [B false]) (((Option.some [] : Option (LL)) = Option.some []) ∧ ((Inv b x3 (wadd .i64 x2 1)) ∧ (Nat.le (Nat.succ (m b x3 (wadd .i64 x2 1))) (m b x1 x2))))))))) ∧ (((x2 = (1 : Int)) → ifB (bnot (band (seq s2 (ByteArray.mk (Array.mk [108, 101]))) (band (seq s3 (ByteArray.mk (Array.mk [50]))) true))) (Q [B false]) ((((0 : Int) ≤ 0) ∧ (((0 : Int) ≤ (wsub .i64 (rlen l1) 1)) ∧ ((wsub .i64 (rlen l1) 1) ≤ (rlen l1)))) ∧ (Cl Tryz.prog 82 sP [SL 2 (rsub l1 0 (wsub .i64 (rlen l1) 1)), SL 2 l] (fun rs => ∃ b1, (rs = [B b1]) ∧ (ifB (bnot b1) (Q [B false]) (((Option.some [] : Option (LL)) = Option.some []) ∧ ((Inv b x3 (wadd .i64 x2 1)) ∧ (Nat.le (Nat.succ (m b x3 (wadd .i64 x2 1))) (m b x1 x2))))))))) ∧ (((x2 = (2 : Int)) → ifB (bnot (band (seq s2 (ByteArray.mk (Array.mk [108, 101]))) (band (seq s3 (ByteArray.mk (Array.mk [52]))) true))) (Q [B false]) ((((0 : Int) ≤ 0) ∧ (((0 : Int) ≤ (wsub .i64 (rlen l1) 1)) ∧ ((wsub .i64 (rlen l1) 1) ≤ (rlen l1)))) ∧ (Cl Tryz.prog 82 sP [SL 2 (rsub l1 0 (wsub .i64 (rlen l1) 1)), SL 2 l] (fun rs => ∃ b1, (rs = [B b1]) ∧ (ifB (bnot b1) (Q [B false]) (((Option.some [] : Option (LL)) = Option.some []) ∧ ((Inv b x3 (wadd .i64 x2 1)) ∧ (Nat.le (Nat.succ (m b x3 (wadd .i64 x2 1))) (m b x1 x2))))))))) ∧ (((x2 = (3 : Int)) → ifB (bnot (band (seq s2 (ByteArray.mk (Array.mk [108, 101]))) (band (seq s3 (ByteArray.mk (Array.mk [56]))) true))) (Q [B false]) ((((0 : Int) ≤ 0) ∧ (((0 : Int) ≤ (wsub .i64 (rlen l1) 1)) ∧ ((wsub .i64 (rlen l1) 1) ≤ (rlen l1)))) ∧ (Cl Tryz.prog 82 sP [SL 2 (rsub l1 0 (wsub .i64 (rlen l1) 1)), SL 2 l] (fun rs => ∃ b1, (rs = [B b1]) ∧ (ifB (bnot b1) (Q [B false]) (((Option.some [] : Option (LL)) = Option.some []) ∧ ((Inv b x3 (wadd .i64 x2 1)) ∧ (Nat.le (Nat.succ (m b x3 (wadd .i64 x2 1))) (m b x1 x2))))))))) ∧ (((x2 = (4 : Int)) → ifB (bnot (band (seq s2 (ByteArray.mk (Array.mk [108, 101]))) (band (seq s3 (ByteArray.mk (Array.mk [49, 54]))) true))) (Q [B false]) ((((0 : Int) ≤ 0) ∧ (((0 : Int) ≤ (wsub .i64 (rlen l1) 1)) ∧ ((wsub .i64 (rlen l1) 1) ≤ (rlen l1)))) ∧ (Cl Tryz.prog 82 sP [SL 2 (rsub l1 0 (wsub .i64 (rlen l1) 1)), SL 2 l] (fun rs => ∃ b1, (rs = [B b1]) ∧ (ifB (bnot b1) (Q [B false]) (((Option.some [] : Option (LL)) = Option.some []) ∧ ((Inv b x3 (wadd .i64 x2 1)) ∧ (Nat.le (Nat.succ (m b x3 (wadd .i64 x2 1))) (m b x1 x2))))))))) ∧ (((x2 = (5 : Int)) → ifB (bnot (band (seq s2 (ByteArray.mk (Array.mk [108, 101]))) (band (seq s3 (ByteArray.mk (Array.mk [51, 50]))) true))) (Q [B false]) ((((0 : Int) ≤ 0) ∧ (((0 : Int) ≤ (wsub .i64 (rlen l1) 1)) ∧ ((wsub .i64 (rlen l1) 1) ≤ (rlen l1)))) ∧ (Cl Tryz.prog 82 sP [SL 2 (rsub l1 0 (wsub .i64 (rlen l1) 1)), SL 2 l] (fun rs => ∃ b1, (rs = [B b1]) ∧ (ifB (bnot b1) (Q [B false]) (((Option.some [] : Option (LL)) = Option.some []) ∧ ((Inv b x3 (wadd .i64 x2 1)) ∧ (Nat.le (Nat.succ (m b x3 (wadd .i64 x2 1))) (m b x1 x2))))))))) ∧ (((x2 = (6 : Int)) → ifB (bnot (band (seq s2 (ByteArray.mk (Array.mk [108, 101]))) (band (seq s3 (ByteArray.mk (Array.mk [54, 52]))) true))) (Q [B false]) ((((0 : Int) ≤ 0) ∧ (((0 : Int) ≤ (wsub .i64 (rlen l1) 1)) ∧ ((wsub .i64 (rlen l1) 1) ≤ (rlen l1)))) ∧ (Cl Tryz.prog 82 sP [SL 2 (rsub l1 0 (wsub .i64 (rlen l1) 1)), SL 2 l] (fun rs => ∃ b1, (rs = [B b1]) ∧ (ifB (bnot b1) (Q [B false]) (((Option.some [] : Option (LL)) = Option.some []) ∧ ((Inv b x3 (wadd .i64 x2 1)) ∧ (Nat.le (Nat.succ (m b x3 (wadd .i64 x2 1))) (m b x1 x2))))))))) ∧ (((x2 = (7 : Int)) → ifB (bnot (band (seq s2 (ByteArray.mk (Array.mk [108, 101]))) (band (seq s3 (ByteArray.mk (Array.mk [49, 50, 56]))) true))) (Q [B false]) ((((0 : Int) ≤ 0) ∧ (((0 : Int) ≤ (wsub .i64 (rlen l1) 1)) ∧ ((wsub .i64 (rlen l1) 1) ≤ (rlen l1)))) ∧ (Cl Tryz.prog 82 sP [SL 2 (rsub l1 0 (wsub .i64 (rlen l1) 1)), SL 2 l] (fun rs => ∃ b1, (rs = [B b1]) ∧ (ifB (bnot b1) (Q [B false]) (((Option.some [] : Option (LL)) = Option.some []) ∧ ((Inv b x3 (wadd .i64 x2 1)) ∧ (Nat.le (Nat.succ (m b x3 (wadd .i64 x2 1))) (m b x1 x2))))))))) ∧ (((x2 = (8 : Int)) → ifB (bnot (band (seq s2 (ByteArray.mk (Array.mk [108, 101]))) (band (seq s3 (ByteArray.mk (Array.mk [43, 73, 110, 102]))) true))) (Q [B false]) ((((0 : Int) ≤ 0) ∧ (((0 : Int) ≤ (wsub .i64 (rlen l1) 1)) ∧ ((wsub .i64 (rlen l1) 1) ≤ (rlen l1)))) ∧ (Cl Tryz.prog 82 sP [SL 2 (rsub l1 0 (wsub .i64 (rlen l1) 1)), SL 2 l] (fun rs => ∃ b1, (rs = [B b1]) ∧ (ifB (bnot b1) (Q [B false]) (((Option.some [] : Option (LL)) = Option.some []) ∧ ((Inv b x3 (wadd .i64 x2 1)) ∧ (Nat.le (Nat.succ (m b x3 (wadd .i64 x2 1))) (m b x1 x2))))))))) ∧ True)))))))))))))))) (Q [B true])))))) : Ct Tryz.prog 95 {} [S n, SL 3 ss] Q :=
 fn_of (f := 95) SgT SvT (fun _ => none) Tryz.f95 Tryz.func95 (by kernel_rfl) (by kernel_rfl) h

theorem rshort_nf (l : LL) (Q : List SV → Prop) (h : ∃ Inv : Int → Int → Prop, ∃ m : Int → Int → Nat, (Inv 0 0) ∧ (∀ x x1, (Inv x x1) → ifB (ilt x1 (rlen l)) ((((0 : Int) ≤ x1) ∧ (x1 < (rlen l))) ∧ (∃ s s1, ∃ x2 l1, (rget l x1 = [S s, S s1, I x2, SL 3 l1]) ∧ ((((0 : Int) ≤ x1) ∧ (x1 < (rlen l))) ∧ (∃ s2 s3, ∃ x3 l2, (rget l x1 = [S s2, S s3, I x3, SL 3 l2]) ∧ ((((0 : Int) ≤ x1) ∧ (x1 < (rlen l))) ∧ (∃ s4 s5, ∃ x4 l3, (rget l x1 = [S s4, S s5, I x4, SL 3 l3]) ∧ (∃ Inv1 : Int → Int → Prop, ∃ m1 : Int → Int → Nat, (Inv1 (wadd .i64 (wadd .i64 (wadd .i64 x (slen s)) (slen s3)) (wmul .i64 50 (rlen l3))) 0) ∧ (∀ x5 x6, (Inv1 x5 x6) → (((0 : Int) ≤ x1) ∧ (x1 < (rlen l))) ∧ (∃ s6 s7, ∃ x7 l4, (rget l x1 = [S s6, S s7, I x7, SL 3 l4]) ∧ (ifB (ilt x6 (rlen l4)) ((((0 : Int) ≤ x1) ∧ (x1 < (rlen l))) ∧ (∃ s8 s9, ∃ x8 l5, (rget l x1 = [S s8, S s9, I x8, SL 3 l5]) ∧ ((((0 : Int) ≤ x6) ∧ (x6 < (rlen l5))) ∧ (∃ s10 l6 x9, (rget l5 x6 = [S s10, SL 2 l6, I x9]) ∧ (∃ Inv2 : Int → Int → Prop, ∃ m2 : Int → Int → Nat, (Inv2 (wadd .i64 x5 (slen s10)) 0) ∧ (∀ x10 x11, (Inv2 x10 x11) → ifB (ilt x11 (rlen l6)) ((((0 : Int) ≤ x11) ∧ (x11 < (rlen l6))) ∧ (∃ s11 s12, (rget l6 x11 = [S s11, S s12]) ∧ ((((0 : Int) ≤ x11) ∧ (x11 < (rlen l6))) ∧ (∃ s13 s14, (rget l6 x11 = [S s13, S s14]) ∧ ((Sm (some ([[S s10, SL 2 l6, I x9]]))) ∧ ((Inv2 (wadd .i64 (wadd .i64 (wadd .i64 x10 (slen s11)) (slen s14)) 10) (wadd .i64 x11 1)) ∧ (Nat.le (Nat.succ (m2 (wadd .i64 (wadd .i64 (wadd .i64 x10 (slen s11)) (slen s14)) 10) (wadd .i64 x11 1))) (m2 x10 x11)))))))) (((Option.some [] : Option (LL)) = Option.some []) ∧ ((Inv1 x10 (wadd .i64 x6 1)) ∧ (Nat.le (Nat.succ (m1 x10 (wadd .i64 x6 1))) (m1 x5 x6)))))))))) (((Option.some [] : Option (LL)) = Option.some []) ∧ ((Inv x5 (wadd .i64 x1 1)) ∧ (Nat.le (Nat.succ (m x5 (wadd .i64 x1 1))) (m x x1)))))))))))))) (Q [B (bpick (ile (rlen l) 60) (ile x 60000) false)]))) : Ct Tryz.prog 10 {} [SL 4 l] Q :=
 fn_of (f := 10) SgT SvT (fun _ => none) Tryz.f10 Tryz.func10 (by kernel_rfl) (by kernel_rfl) h

end Go.Proofs.YtknnooannohflaaGreatDoor.Met

namespace Go.Proofs.YtknnooannohflaaGreatDoor.Met
open Go Go.Px Go.Proofs Cmp Go.Proofs.YtknnooannohflaaGreatDoor.St
set_option maxRecDepth 100000
set_option linter.unusedVariables false

def bndT : List ByteArray := [bo0, bo1, bo2, bo3, bo4, bo5, bo6, bo7, bo8]
def bnd (k : Nat) : ByteArray := bndT.getD k ByteArray.empty
def gat (g : List SmD) (i : Nat) : SmD := g.getD i ⟨ByteArray.empty, [], 0⟩
def prv (g : List SmD) (i : Nat) : Int := if i = 0 then 0 else (gat g (i - 1)).v
def bkP (n : ByteArray) (base : List LaD) (g : List SmD) (i : Nat) : Prop := (gat g i).nm = n ++ bucN ∧ (gat g i).ls = base ++ [(leN, bnd i)] ∧ prv g i ≤ (gat g i).v
instance (n : ByteArray) (base : List LaD) (g : List SmD) (i : Nat) : Decidable (bkP n base g i) := inferInstanceAs (Decidable (_ ∧ _))
def growP (n : ByteArray) (g : List SmD) : Prop := ∀ i : Nat, i < 9 → bkP n (gat g 10).ls g i
instance (n : ByteArray) (g : List SmD) : Decidable (growP n g) := inferInstanceAs (Decidable (∀ i : Nat, i < 9 → _))
def grpP (n : ByteArray) (g : List SmD) : Prop := g.length = 11 ∧ growP n g ∧ hasB (gat g 10).ls leN = false ∧ (gat g 9).nm = n ++ sumN ∧ (gat g 9).ls = (gat g 10).ls ∧ (gat g 10).nm = n ++ couN ∧ (gat g 10).v = (gat g 8).v
instance (n : ByteArray) (g : List SmD) : Decidable (grpP n g) := inferInstanceAs (Decidable (_ ∧ _))

theorem rget_gat (g : List SmD) (i : Int) (h0 : 0 ≤ i) (h : i < g.length) : rget (smR g) i = SmD.row (gat g i.toNat) := by
 rw [rget_mapI SmD.row g i h0 h]
 unfold gat
 rw [List.getD_eq_getElem?_getD, List.getElem?_eq_getElem (by omega)]
 rfl

theorem gat_mem {g : List SmD} {i : Nat} (h : i < g.length) : gat g i ∈ g := by
 unfold gat
 rw [List.getD_eq_getElem?_getD, List.getElem?_eq_getElem h]
 exact List.getElem_mem h

theorem last_split {l base : List LaD} {p : LaD} : l = base ++ [p] ↔ 0 < l.length ∧ (∃ h : l.length - 1 < l.length, l[l.length - 1] = p) ∧ l.take (l.length - 1) = base := by
 constructor
 ·rintro rfl
  refine ⟨by simp, ⟨by simp, by simp⟩, by simp⟩
 ·rintro ⟨h1, ⟨h2, h3⟩, h4⟩
  have := List.take_append_drop (l.length - 1) l
  rw [h4, List.drop_eq_getElem_cons h2, List.drop_eq_nil_of_le (by omega), h3] at this
  exact this.symm

theorem growing_fn (n : ByteArray) (g : List SmD) (hg : g.length = 11) (hn : n.size ≤ 1000) (hl : ∀ x ∈ g, x.ls.length ≤ 1000) : Ct Tryz.prog 95 {} [S n, SL 3 (smR g)] (fun r => r = [B (decide (growP n g))]) := by
 have hlen : rlen (smR g) = 11 := by rw [rlen_eq, List.length_map, hg]; rfl
 have hs9 : rsub (smR g) 0 9 = smR (g.take 9) := by simp [rsub, List.map_take]
 have hl9 : rlen (smR (g.take 9)) = 9 := by rw [rlen_eq, List.length_map, List.length_take, hg]; rfl
 refine mgrow_nf _ _ _ ⟨⟨by decide, by rw [hlen]; decide⟩, _, _, _, rget_gat g 10 (by decide) (by rw [hg]; decide), ⟨by decide, by decide, by rw [hlen]; decide⟩, ?_⟩
 rw [hs9, hl9]
 refine ⟨fun _ x1 x2 => (0 ≤ x2 ∧ x2 ≤ 9) ∧ x1 = prv g x2.toNat ∧ ∀ k < x2.toNat, bkP n (gat g 10).ls g k, fun _ _ x2 => (9 - x2).toNat, ⟨by omega, rfl, fun k hk => absurd hk (by simp)⟩, ?_⟩
 rintro b x1 i ⟨⟨i0, i9⟩, rfl, hp⟩
 refine ifB_intro (fun hi => ?_) (fun hi => ?_)
 ·have hi : i < 9 := by simpa using hi
  have hi' : i.toNat < g.length := by omega
  have hgt : gat (g.take 9) i.toNat = gat g i.toNat := by
   unfold gat
   rw [List.getD_eq_getElem?_getD, List.getD_eq_getElem?_getD, List.getElem?_take, if_pos (by omega)]
  have row := rget_gat (g.take 9) i i0 (by rw [List.length_take, hg]; omega)
  rw [hgt] at row
  have hx := hl _ (gat_mem hi')
  have no : ¬ bkP n (gat g 10).ls g i.toNat → ([B false] : List SV) = [B (decide (growP n g))] := fun h => by
   have : ¬ growP n g := fun e => h (e _ (by omega))
   simp [this]
  refine ⟨⟨i0, hi⟩, _, _, _, row, by show (n.size : Int) + ((7 : Nat) : Int) ≤ 9223372036854775807; omega, ?_⟩
  rw [rlen_eq, List.length_map, wsub_i64 (by omega) (by omega)]
  refine ifB_intro (fun h => ?_) (fun h => ?_)
  ·refine no fun e => ?_
   rw [sne_d] at h
   have h : ¬ (gat g i.toNat).nm = n ++ bucN ∨ ((gat g i.toNat).ls.length : Int) - 1 < 0 ∨ (gat g i.toNat).v < prv g i.toNat := by
    have := bor_t.1 h
    rcases this with h | h
    ·rcases bor_t.1 h with h | h
     ·exact .inl (by simpa using h : ¬ (gat g i.toNat).nm = scat n bucN)
     ·exact .inr (.inl (by simpa using h))
    ·exact .inr (.inr (by simpa using h))
   rcases h with h | h | h
   ·exact h e.1
   ·have := (last_split.1 e.2.1).1; omega
   ·have := e.2.2; omega
  ·rw [sne_d] at h
   have h : (gat g i.toNat).nm = n ++ bucN ∧ 0 ≤ ((gat g i.toNat).ls.length : Int) - 1 ∧ prv g i.toNat ≤ (gat g i.toNat).v := by
    obtain ⟨h1, h2⟩ := bor_f.1 h
    obtain ⟨h3, h4⟩ := bor_f.1 h1
    exact ⟨(by simpa using h3 : (gat g i.toNat).nm = scat n bucN), by simpa using h4, by simpa using h2⟩
   obtain ⟨h1, h2, h3⟩ := h
   have hpos : 0 < (gat g i.toNat).ls.length := by omega
   have hlt : (gat g i.toNat).ls.length - 1 < (gat g i.toNat).ls.length := by omega
   have etn : (((gat g i.toNat).ls.length : Int) - 1).toNat = (gat g i.toNat).ls.length - 1 := by omega
   refine ⟨⟨h2, by omega⟩, ((gat g i.toNat).ls[(gat g i.toNat).ls.length - 1]).1, ((gat g i.toNat).ls[(gat g i.toNat).ls.length - 1]).2, ?_, ⟨i0, hi⟩, ?_⟩
   ·have := rget_mapI (fun p : LaD => [S p.1, S p.2]) (gat g i.toNat).ls _ h2 (by omega)
    simp only [etn] at this
    exact this
   have key : ∀ k : Nat, k < 9 → i = (k : Int) → ifB (bnot (band (seq ((gat g i.toNat).ls[(gat g i.toNat).ls.length - 1]).1 leN) (band (seq ((gat g i.toNat).ls[(gat g i.toNat).ls.length - 1]).2 (bnd k)) true))) ([B false] = [B (decide (growP n g))])
     (((0 : Int) ≤ 0 ∧ (0 : Int) ≤ ((gat g i.toNat).ls.length : Int) - 1 ∧ ((gat g i.toNat).ls.length : Int) - 1 ≤ ((gat g i.toNat).ls.length : Int)) ∧
      Cl Tryz.prog 82 sP [SL 2 (rsub (laR (gat g i.toNat).ls) 0 (((gat g i.toNat).ls.length : Int) - 1)), SL 2 (laR (gat g 10).ls)] fun rs => ∃ b1, rs = [B b1] ∧ ifB (bnot b1) ([B false] = [B (decide (growP n g))])
       (((Option.some [] : Option (List (List SV))) = Option.some []) ∧ (((0 ≤ wadd .i64 i 1 ∧ wadd .i64 i 1 ≤ 9) ∧ (gat g i.toNat).v = prv g (wadd .i64 i 1).toNat ∧ ∀ k < (wadd .i64 i 1).toNat, bkP n (gat g 10).ls g k) ∧ Nat.le (Nat.succ (9 - wadd .i64 i 1).toNat) (9 - i).toNat))) := by
    intro k hk9 ek
    have eki : k = i.toNat := by omega
    rw [labB]
    refine ifB_intro (fun h => ?_) (fun h => ?_)
    ·refine no fun e => ?_
     obtain ⟨_, ⟨_, e2⟩, _⟩ := last_split.1 e.2.1
     have h : ¬ ((gat g i.toNat).ls[(gat g i.toNat).ls.length - 1]) = (leN, bnd k) := fun e => by rw [e] at h; simp at h
     exact h (by rw [e2, eki])
    ·have h : ((gat g i.toNat).ls[(gat g i.toNat).ls.length - 1]) = (leN, bnd k) := by simpa [Prod.ext_iff] using h
     refine ⟨⟨by decide, h2, by omega⟩, ?_⟩
     have e1 : rsub (laR (gat g i.toNat).ls) 0 (((gat g i.toNat).ls.length : Int) - 1) = laR ((gat g i.toNat).ls.take ((gat g i.toNat).ls.length - 1)) := by
      simp [rsub, List.map_take]
     rw [e1]
     refine Cl.of (eql_fn _ _ (by rw [List.length_take]; omega)) ⟨_, rfl, ifB_intro (fun h4 => ?_) (fun h4 => ?_)⟩
     ·refine no fun e => ?_
      have h4 : ¬ (gat g i.toNat).ls.take ((gat g i.toNat).ls.length - 1) = (gat g 10).ls := by simpa using h4
      exact h4 (last_split.1 e.2.1).2.2
     ·have h4 : (gat g i.toNat).ls.take ((gat g i.toNat).ls.length - 1) = (gat g 10).ls := by simpa using h4
      rw [wadd_i64 (by omega) (by omega)]
      have e3 : (i + 1).toNat = i.toNat + 1 := by omega
      refine ⟨rfl, ⟨by omega, ?_, ?_⟩, mlt (by omega)⟩
      ·rw [e3]; simp [prv]
      ·intro q hq
       rw [e3] at hq
       by_cases eq : q = i.toNat
       ·subst eq
        exact ⟨h1, last_split.2 ⟨hpos, ⟨hlt, by rw [h, eki]⟩, h4⟩, h3⟩
       ·exact hp q (by omega)
   exact ⟨fun e => key 0 (by decide) e, fun e => key 1 (by decide) e, fun e => key 2 (by decide) e, fun e => key 3 (by decide) e, fun e => key 4 (by decide) e, fun e => key 5 (by decide) e, fun e => key 6 (by decide) e, fun e => key 7 (by decide) e, fun e => key 8 (by decide) e, trivial⟩
 ·have hi : 9 ≤ i := by simpa using hi
  have : growP n g := fun k hk => hp k (by omega)
  simp [this]

def grpS (l : List SmD) (k : Nat) : List SmD := (l.drop (11 * k)).take 11
theorem grpAt_smR (l : List SmD) (k : Int) : grpAt (smR l) k = smR (grpS l k.toNat) := by
 simp only [grpAt, grpS, smR, List.map_take, List.map_drop]
def grpsP (n : ByteArray) (l : List SmD) : Prop := ∀ k : Nat, k < (l.length + 10) / 11 → grpP n (grpS l k)
instance (n : ByteArray) (l : List SmD) : Decidable (grpsP n l) := inferInstanceAs (Decidable (∀ k : Nat, k < (l.length + 10) / 11 → _))

theorem grouped_fn (f : FaD) (hn : f.nm.size ≤ 1000) (hl : ∀ x ∈ f.ss, x.ls.length ≤ 1000) : Ct Tryz.prog 55 {} [.agg f.row] (fun r => r = [B (decide (grpsP f.nm f.ss))]) := by
 refine mgrp_nf _ _ _ _ _ (Cl.of (R := [SV.clo 146 [SV.ref 0 [SL 3 (smR f.ss)]]]) (mgroups_nf _ _ rfl) ⟨_, _, rfl, rfl, smR f.ss, rfl, ?_⟩)
 have hN : grpN (smR f.ss) = (((f.ss.length + 10) / 11 : Nat) : Int) := by
  show (((smR f.ss).length : Int) + 10) / 11 = _
  rw [List.length_map]; omega
 refine ⟨fun x b => b = false ∧ (∀ k : Nat, (k : Int) < x → grpP f.nm (grpS f.ss k)), fun b => b = false ∧ ¬ grpsP f.nm f.ss, ⟨rfl, fun k hk => by omega⟩, ?_, ?_, ?_⟩
 ·rintro x x0 hx b ⟨rfl, hp⟩
  rw [hN] at hx
  rw [grpAt_smR]
  obtain ⟨g, hgd⟩ : ∃ g, g = grpS f.ss x.toNat := ⟨_, rfl⟩
  rw [← hgd]
  have hm : ∀ y ∈ g, y ∈ f.ss := fun y hy => by
   rw [hgd] at hy
   exact List.mem_of_mem_drop (List.mem_of_mem_take hy)
  have no : ¬ grpP f.nm g → (false = false ∧ ¬ grpsP f.nm f.ss) := fun h => ⟨rfl, fun e => h (by rw [hgd]; exact e _ (by omega))⟩
  refine ifB_intro (fun h => ?_) (fun h => ?_)
  ·have h : ¬ (g.length : Int) = 11 := by simpa using h
   exact ⟨rfl, no fun e => by have := e.1; omega⟩
  have h11 : g.length = 11 := by
   have h : (g.length : Int) = 11 := by simpa using h
   omega
  have hlen : rlen (smR g) = 11 := by rw [rlen_eq, List.length_map, h11]; rfl
  have hlg : ∀ y ∈ g, y.ls.length ≤ 1000 := fun y hy => hl y (hm y hy)
  refine Cl.of (growing_fn f.nm g h11 hn hlg) ⟨_, rfl, ifB_intro (fun h => ?_) (fun h => ?_)⟩
  ·have h : ¬ growP f.nm g := by simpa using h
   exact ⟨rfl, no fun e => h e.2.1⟩
  have hgr : growP f.nm g := by simpa using h
  refine ⟨⟨by decide, by rw [hlen]; decide⟩, _, _, _, rget_gat g 10 (by decide) (by rw [h11]; decide), ?_⟩
  refine Cl.of (has_fn (gat g 10).ls (by have := hlg _ (gat_mem (g := g) (i := 10) (by omega)); omega) leN) ⟨_, rfl, ifB_intro (fun h => ?_) (fun hh => ?_)⟩
  ·exact ⟨rfl, no fun e => by rw [e.2.2.1] at h; cases h⟩
  refine ⟨fun s l x2 s2 l3 x3 => s = (gat g 9).nm ∧ l = laR (gat g 9).ls ∧ x2 = (gat g 9).v ∧ s2 = (gat g 10).nm ∧ l3 = laR (gat g 10).ls ∧ x3 = (gat g 10).v, fun _ _ _ _ _ _ => 0, ?_, ?_⟩
  ·exact ⟨⟨by decide, by rw [hlen]; decide⟩, _, _, _, rget_gat g 9 (by decide) (by rw [h11]; decide), ⟨by decide, by rw [hlen]; decide⟩, _, _, _, rget_gat g 10 (by decide) (by rw [h11]; decide), ⟨rfl, rfl, rfl, rfl, rfl, rfl, rfl⟩, ⟨rfl, rfl, rfl, rfl, rfl, rfl, rfl⟩⟩
  rintro s l x2 s2 l3 x3 ⟨rfl, rfl, rfl, rfl, rfl, rfl⟩
  refine ⟨by show (f.nm.size : Int) + ((4 : Nat) : Int) ≤ 9223372036854775807; omega, ifB_intro (fun h => ?_) (fun h => ?_)⟩
  ·rw [sne_d] at h
   have h : ¬ (gat g 9).nm = f.nm ++ sumN := (by simpa using h : ¬ (gat g 9).nm = scat f.nm sumN)
   exact ⟨rfl, no fun e => h e.2.2.2.1⟩
  rw [sne_d] at h
  have h9 : (gat g 9).nm = f.nm ++ sumN := (by simpa using h : (gat g 9).nm = scat f.nm sumN)
  refine Cl.of (eql_fn _ _ (by have := hlg _ (gat_mem (g := g) (i := 9) (by omega)); omega)) ⟨_, rfl, ifB_intro (fun h => ?_) (fun h => ?_)⟩
  ·have h : ¬ (gat g 9).ls = (gat g 10).ls := by simpa using h
   exact ⟨rfl, no fun e => h e.2.2.2.2.1⟩
  have hls : (gat g 9).ls = (gat g 10).ls := by simpa using h
  refine ⟨by show (f.nm.size : Int) + ((6 : Nat) : Int) ≤ 9223372036854775807; omega, ifB_intro (fun h => ?_) (fun h => ?_)⟩
  ·rw [sne_d] at h
   have h : ¬ (gat g 10).nm = f.nm ++ couN := (by simpa using h : ¬ (gat g 10).nm = scat f.nm couN)
   exact ⟨rfl, no fun e => h e.2.2.2.2.2.1⟩
  rw [sne_d] at h
  have h10 : (gat g 10).nm = f.nm ++ couN := (by simpa using h : (gat g 10).nm = scat f.nm couN)
  refine ⟨⟨by decide, by rw [hlen]; decide⟩, _, _, _, rget_gat g 8 (by decide) (by rw [h11]; decide), ifB_intro (fun h => ?_) (fun h => ?_)⟩
  ·have h : ¬ (gat g 10).v = (gat g 8).v := by simpa using h
   exact ⟨rfl, no fun e => h e.2.2.2.2.2.2⟩
  have hv : (gat g 10).v = (gat g 8).v := by simpa using h
  refine ⟨rfl, rfl, fun k hk => ?_⟩
  have hk : (k : Int) < x + 1 := hk
  by_cases e : k = x.toNat
  ·rw [e, ← hgd]
   exact ⟨h11, hgr, hh, h9, hls, h10, hv⟩
  ·exact hp k (by omega)
 ·rintro b ⟨rfl, hp⟩
  have : grpsP f.nm f.ss := fun k hk => hp k (by rw [hN]; omega)
  simp [this]
 ·rintro b ⟨rfl, hp⟩
  simp [hp]


def flatP (n : ByteArray) (l : List SmD) : Prop := ∀ x ∈ l, x.nm = n ∧ hasB x.ls leN = false
instance (n : ByteArray) (l : List SmD) : Decidable (flatP n l) := inferInstanceAs (Decidable (∀ x ∈ l, _ ∧ _))
def labsP (l : List SmD) : Prop := ∀ x ∈ l, labP x.ls
instance (l : List SmD) : Decidable (labsP l) := inferInstanceAs (Decidable (∀ x ∈ l, _))
def headP (f : FaD) : Prop := namP f.nm ∧ f.hp.size ≤ 200 ∧ (1 ≤ f.ty ∧ f.ty ≤ 3) ∧ 1 ≤ f.ss.length ∧ f.ss.length ≤ 400
instance (f : FaD) : Decidable (headP f) := inferInstanceAs (Decidable (_ ∧ _ ∧ (_ ∧ _) ∧ _ ∧ _))
def famP (f : FaD) : Prop := headP f ∧ labsP f.ss ∧ (if f.ty = 3 then grpsP f.nm f.ss else flatP f.nm f.ss)
instance (f : FaD) : Decidable (famP f) := inferInstanceAs (Decidable (_ ∧ _ ∧ (if f.ty = 3 then _ else _)))

theorem right_full (f : FaD) (hl : f.ss.length ≤ 4000000000000000000) : Ct Tryz.prog 29 {} [.agg f.row] (fun r => r = [B (decide (famP f))]) := by
 have no : ¬ famP f → ([B false] : List SV) = [B (decide (famP f))] := fun h => by simp [h]
 refine mright_nf _ _ _ _ _ (Cl.of (mnam_fn f.nm) ⟨_, rfl, ?_⟩)
 refine ifB_intro (fun h => ?_) (fun h1 => ?_)
 ·have h : ¬ namP f.nm ∨ 200 < (f.hp.size : Int) := by simpa [bor_t, slen, bnot] using h
  refine no fun e => ?_
  rcases h with h | h
  ·exact h e.1.1
  ·have := e.1.2.1; omega
 have h1 : namP f.nm ∧ (f.hp.size : Int) ≤ 200 := by simpa [bor_f, slen, bnot] using h1
 refine ifB_intro (fun h => ?_) (fun h2 => ?_)
 ·have h : f.ty < 1 ∨ 3 < f.ty := by simpa [bor_t] using h
  exact no fun e => by have := e.1.2.2.1; omega
 have h2 : 1 ≤ f.ty ∧ f.ty ≤ 3 := by simpa [bor_f] using h2
 refine ifB_intro (fun h => ?_) (fun h3 => ?_)
 ·have h : (f.ss.length : Int) < 1 ∨ 400 < (f.ss.length : Int) := by simpa [bor_t] using h
  exact no fun e => by have := e.1.2.2.2; omega
 have h3 : 1 ≤ (f.ss.length : Int) ∧ (f.ss.length : Int) ≤ 400 := by simpa [bor_f] using h3
 have hh : headP f := ⟨h1.1, by omega, h2, by omega, by omega⟩
 refine ⟨fun _ i => (0 ≤ i ∧ i ≤ f.ss.length) ∧ labsP (f.ss.take i.toNat), fun _ i => (f.ss.length - i).toNat, ⟨by omega, fun x hx => by simp at hx⟩, ?_⟩
 rintro b i ⟨⟨i0, il⟩, hp⟩
 rw [rlen_eq, List.length_map]
 refine ifB_intro (fun hi => ?_) (fun hi => ?_)
 ·have hi : i < f.ss.length := by simpa using hi
  have hi' : i.toNat < f.ss.length := by omega
  refine ⟨⟨i0, hi⟩, _, _, _, rget_mapI SmD.row f.ss i i0 hi, Cl.of (labelled_fn f.ss[i.toNat].ls) ⟨_, rfl, ifB_intro (fun h => ?_) (fun h => ?_)⟩⟩
  ·have h : ¬ labP f.ss[i.toNat].ls := by simpa using h
   exact no fun e => h (e.2.1 _ (List.getElem_mem hi'))
  ·have h : labP f.ss[i.toNat].ls := by simpa using h
   rw [wadd_i64 (by omega) (by omega)]
   refine ⟨rfl, ⟨by omega, fun x hx => ?_⟩, mlt (by dsimp only; omega)⟩
   rw [show (i + 1).toNat = i.toNat + 1 by omega, List.take_add_one, List.getElem?_eq_getElem hi'] at hx
   rcases List.mem_append.1 hx with hx | hx
   ·exact hp x hx
   ·simp at hx; subst hx; exact h
 have hi : f.ss.length ≤ i := by simpa using hi
 rw [List.take_of_length_le (by omega)] at hp
 have hls : ∀ x ∈ f.ss, x.ls.length ≤ 1000 := fun x hx => Nat.le_trans (hp x hx).1 (by decide)
 refine ifB_intro (fun ht => ?_) (fun ht => ?_)
 ·have ht : f.ty = 3 := by simpa using ht
  refine Cl.of (grouped_fn f (Nat.le_trans h1.1.1.2 (by decide)) hls) ⟨_, rfl, ?_⟩
  have : famP f ↔ grpsP f.nm f.ss := by
   unfold famP
   rw [if_pos ht]
   exact ⟨fun e => e.2.2, fun e => ⟨hh, hp, e⟩⟩
  simp [this]
 have ht : ¬ f.ty = 3 := by simpa using ht
 have hfam : famP f ↔ flatP f.nm f.ss := by
  unfold famP
  rw [if_neg ht]
  exact ⟨fun e => e.2.2, fun e => ⟨hh, hp, e⟩⟩
 refine ⟨fun _ i => (0 ≤ i ∧ i ≤ f.ss.length) ∧ flatP f.nm (f.ss.take i.toNat), fun _ i => (f.ss.length - i).toNat, ⟨by omega, fun x hx => by simp at hx⟩, ?_⟩
 rintro b i ⟨⟨i0, il⟩, hq⟩
 refine ifB_intro (fun hi => ?_) (fun hi => ?_)
 ·have hi : i < f.ss.length := by simpa using hi
  have hi' : i.toNat < f.ss.length := by omega
  have hm := List.getElem_mem hi'
  refine ⟨⟨i0, hi⟩, _, _, _, rget_mapI SmD.row f.ss i i0 hi, ifB_intro (fun h => ?_) (fun h => ?_)⟩
  ·rw [sne_d] at h
   have h : ¬ f.ss[i.toNat].nm = f.nm := by simpa using h
   exact no fun e => h ((hfam.1 e) _ hm).1
  rw [sne_d] at h
  have hn : f.ss[i.toNat].nm = f.nm := by simpa using h
  refine Cl.of (has_fn f.ss[i.toNat].ls (by have := hls _ hm; omega) _) ⟨_, rfl, ifB_intro (fun h => ?_) (fun h => ?_)⟩
  ·exact no fun e => by rw [((hfam.1 e) _ hm).2] at h; cases h
  ·rw [wadd_i64 (by omega) (by omega)]
   refine ⟨rfl, ⟨by omega, fun x hx => ?_⟩, mlt (by dsimp only; omega)⟩
   rw [show (i + 1).toNat = i.toNat + 1 by omega, List.take_add_one, List.getElem?_eq_getElem hi'] at hx
   rcases List.mem_append.1 hx with hx | hx
   ·exact hq x hx
   ·simp at hx; subst hx; exact ⟨hn, h⟩
 ·have hi : f.ss.length ≤ i := by simpa using hi
  rw [List.take_of_length_le (by omega)] at hq
  have := hfam.2 hq
  simp [this]

def upP (l : List FaD) (n : Nat) : Prop := ∀ k : Nat, k < n → ∀ h : k < l.length, famP l[k] ∧ (0 < k → sge l[k - 1].nm l[k].nm = false)
instance (l : List FaD) (n : Nat) : Decidable (upP l n) := inferInstanceAs (Decidable (∀ k : Nat, k < n → ∀ h : k < l.length, _ ∧ (0 < k → _)))
def allP (l : List FaD) : Prop := l.length ≤ 40 ∧ upP l l.length
instance (l : List FaD) : Decidable (allP l) := inferInstanceAs (Decidable (_ ∧ _))

theorem all_full (l : List FaD) (hs : ∀ f ∈ l, f.ss.length ≤ 4000000000000000000) : Ct Tryz.prog 20 {} [SL 4 (faR l)] (fun r => r = [B (decide (allP l))]) := by
 have no : ¬ allP l → ([B false] : List SV) = [B (decide (allP l))] := fun h => by simp [h]
 refine mall_nf _ _ (ifB_intro (fun h => ?_) (fun h => ?_))
 ·have h : 40 < (l.length : Int) := by simpa using h
  exact no fun e => by have := e.1; omega
 have h40 : (l.length : Int) ≤ 40 := by simpa using h
 refine ⟨fun _ i => (0 ≤ i ∧ i ≤ l.length) ∧ upP l i.toNat, fun _ i => (l.length - i).toNat, ⟨by omega, fun k hk => absurd hk (by simp)⟩, ?_⟩
 rintro b i ⟨⟨i0, il⟩, hp⟩
 rw [rlen_eq, List.length_map]
 refine ifB_intro (fun hi => ?_) (fun hi => ?_)
 ·have hi : i < l.length := by simpa using hi
  have hi' : i.toNat < l.length := by omega
  refine ⟨⟨i0, hi⟩, _, _, _, _, rget_mapI FaD.row l i i0 hi, Cl.of (right_full l[i.toNat] (hs _ (List.getElem_mem hi'))) ⟨_, rfl, ifB_intro (fun h => ?_) (fun h => ?_)⟩⟩
  ·have h : ¬ famP l[i.toNat] := by simpa using h
   exact no fun e => h (e.2 _ hi' hi').1
  have hf : famP l[i.toNat] := by simpa using h
  have nx : (0 < i.toNat → sge l[i.toNat - 1].nm l[i.toNat].nm = false) → upP l (i + 1).toNat := by
   intro hg k hk hkl
   by_cases e : k = i.toNat
   ·subst e; exact ⟨hf, hg⟩
   ·exact hp k (by omega) hkl
  refine ifB_intro (fun h => ?_) (fun h => ?_)
  ·have h : 0 < i := by simpa using h
   have e1 : wsub .i64 i 1 = i - 1 := wsub_i64 (by omega) (by omega)
   rw [e1, wadd_i64 (by omega) (by omega)]
   have e2 : (i - 1).toNat = i.toNat - 1 := by omega
   have hr := rget_mapI FaD.row l (i - 1) (by omega) (by omega)
   simp only [e2] at hr
   refine ⟨by omega, _, _, _, _, hr, ifB_intro (fun hs => ?_) (fun hs => ⟨rfl, ⟨by omega, nx fun _ => hs⟩, mlt (by dsimp only; omega)⟩)⟩
   exact no fun e => by
    have := (e.2 i.toNat hi' hi').2 (by omega)
    rw [this] at hs; cases hs
  ·have h : i = 0 := by
    have : ¬ 0 < i := by simpa using h
    omega
   rw [wadd_i64 (by omega) (by omega)]
   exact ⟨rfl, ⟨by omega, nx fun h0 => by omega⟩, mlt (by dsimp only; omega)⟩
 ·have hi : l.length ≤ i := by simpa using hi
  have : allP l := ⟨by omega, fun k hk hkl => hp k (by omega) hkl⟩
  simp [this]


def lesN (l : List LaD) : Nat := (l.filter fun p => decide (p.1 = leN)).length
theorem lesN_zero (l : List LaD) : lesN l = 0 ↔ hasB l leN = false := by
 unfold lesN hasB
 rw [List.length_eq_zero_iff, List.filter_eq_nil_iff, List.any_eq_false]


def fitB (n : ByteArray) (l : List SmD) (x : SmD) (k : Nat) : Prop :=
 x.nm = n ++ bucN ∧ (∃ base, x.ls = base ++ [(leN, bnd k)]) ∧ (if k = 0 then lesN x.ls = 1 ∧ 0 ≤ x.v else
  (gat l (l.length - 1)).ls.length = x.ls.length ∧ x.ls.take (x.ls.length - 1) = (gat l (l.length - 1)).ls.take (x.ls.length - 1) ∧ (gat l (l.length - 1)).v ≤ x.v)
def fitT (n : ByteArray) (y x : SmD) (k : Nat) : Prop :=
 x.ls = y.ls.take (y.ls.length - 1) ∧ (if k = 9 then x.nm = n ++ sumN else x.nm = n ++ couN ∧ x.v = y.v)
def fitG (n : ByteArray) (l : List SmD) (x : SmD) : Prop :=
 if l.length % 11 < 9 then fitB n l x (l.length % 11) else fitT n (gat l (l.length - 1 - (l.length % 11 - 9))) x (l.length % 11)
def fitP (f : FaD) (x : SmD) : Prop := labP x.ls ∧ f.ss.length < 400 ∧ (if f.ty = 3 then fitG f.nm f.ss x else x.nm = f.nm ∧ hasB x.ls leN = false)

def seesP (f : FaD) : Prop := f.ty = 3 → 9 ≤ f.ss.length % 11 → 0 < (gat f.ss (f.ss.length - 1 - (f.ss.length % 11 - 9))).ls.length

def upto (f : FaD) (j : Nat) : FaD := { f with ss := f.ss.take j }
def fitsUp (f : FaD) (j : Nat) : Prop := ∀ i : Nat, i < j → fitP (upto f i) (gat f.ss i)

theorem gat_take {l : List SmD} {i j : Nat} (h : i < j) : gat (l.take j) i = gat l i := by
 unfold gat
 rw [List.getD_eq_getElem?_getD, List.getD_eq_getElem?_getD, List.getElem?_take, if_pos h]

def rhead (f : FaD) : Prop := namP f.nm ∧ f.hp.size ≤ 200 ∧ (1 ≤ f.ty ∧ f.ty ≤ 3) ∧ (0 < f.ss.length ∧ (f.ty = 3 → f.ss.length % 11 = 0))

def szL (l : List LaD) : Prop := l.length ≤ 4000000000000000000 ∧ ∀ p ∈ l, p.1.size ≤ 9000000000000000000
def szF (f : FaD) : Prop := f.nm.size ≤ 9000000000000000000 ∧ f.ss.length ≤ 4000000000000000000 ∧ ∀ x ∈ f.ss, szL x.ls

theorem fitP_len {f : FaD} {j : Nat} (hj : j < f.ss.length) (h : fitP (upto f j) (gat f.ss j)) : j < 400 := by
 have := h.2.1
 have e : (upto f j).ss.length = j := by show (f.ss.take j).length = j; rw [List.length_take]; omega
 omega


theorem gat_grp {l : List SmD} {q r : Nat} (h : r < 11) : gat (grpS l q) r = gat l (11 * q + r) := by
 unfold grpS
 rw [gat_take h]
 unfold gat
 rw [List.getD_eq_getElem?_getD, List.getD_eq_getElem?_getD, List.getElem?_drop]

theorem lesN_snoc (l : List LaD) (v : ByteArray) : lesN (l ++ [(leN, v)]) = lesN l + 1 := by
 unfold lesN
 rw [List.filter_append, List.length_append]
 simp

theorem grp_fits {n : ByteArray} {l : List SmD} {q : Nat} (hq : 11 * q + 11 ≤ l.length) : grpP n (grpS l q) ↔ ∀ r : Nat, r < 11 → fitG n (l.take (11 * q + r)) (gat l (11 * q + r)) := by
 have hlen : (grpS l q).length = 11 := by
  unfold grpS; rw [List.length_take, List.length_drop]; omega
 have tl : ∀ r, r < 11 → (l.take (11 * q + r)).length = 11 * q + r := fun r hr => by rw [List.length_take]; omega
 have fb : ∀ r, r < 9 → (fitG n (l.take (11 * q + r)) (gat l (11 * q + r)) ↔ fitB n (l.take (11 * q + r)) (gat l (11 * q + r)) r) := fun r hr => by
  unfold fitG
  rw [tl r (by omega), show (11 * q + r) % 11 = r by omega, if_pos hr]
 have ft : ∀ r, 9 ≤ r → r < 11 → (fitG n (l.take (11 * q + r)) (gat l (11 * q + r)) ↔ fitT n (gat l (11 * q + 8)) (gat l (11 * q + r)) r) := fun r h9 hr => by
  unfold fitG
  rw [tl r hr, show (11 * q + r) % 11 = r by omega, if_neg (by omega), gat_take (by omega), show 11 * q + r - 1 - (r - 9) = 11 * q + 8 by omega]
 have pv : ∀ r, r ≠ 0 → r < 9 → gat (l.take (11 * q + r)) ((l.take (11 * q + r)).length - 1) = gat l (11 * q + (r - 1)) := fun r h0 hr => by
  rw [tl r (by omega), gat_take (by omega), show 11 * q + r - 1 = 11 * q + (r - 1) by omega]
 constructor
 ·rintro ⟨_, hg, hh, h9, h9l, h10, h10v⟩ r hr
  have G : ∀ i, i < 11 → gat (grpS l q) i = gat l (11 * q + i) := fun i hi => gat_grp hi
  rw [G 10 (by decide)] at hh h9l h10 h10v
  rw [G 9 (by decide)] at h9 h9l
  rw [G 8 (by decide)] at h10v
  have hb : ∀ i, i < 9 → (gat l (11 * q + i)).nm = n ++ bucN ∧ (gat l (11 * q + i)).ls = (gat l (11 * q + 10)).ls ++ [(leN, bnd i)] ∧ (if i = 0 then 0 else (gat l (11 * q + (i - 1))).v) ≤ (gat l (11 * q + i)).v := fun i hi => by
   have := hg i hi
   unfold bkP prv at this
   rw [G i (by omega), G 10 (by decide)] at this
   by_cases h0 : i = 0
   ·subst h0; exact this
   ·rw [if_neg h0, G (i - 1) (by omega)] at this
    rw [if_neg h0]; exact this
  by_cases h9' : r < 9
  ·rw [fb r h9']
   obtain ⟨b1, b2, b3⟩ := hb r h9'
   refine ⟨b1, ⟨_, b2⟩, ?_⟩
   by_cases h0 : r = 0
   ·rw [if_pos h0]
    rw [if_pos h0] at b3
    refine ⟨?_, b3⟩
    rw [b2, lesN_snoc, (lesN_zero _).2 hh]
   ·rw [if_neg h0, pv r h0 h9']
    rw [if_neg h0] at b3
    obtain ⟨_, c2, _⟩ := hb (r - 1) (by omega)
    refine ⟨by rw [b2, c2]; simp, ?_, b3⟩
    rw [b2, c2]
    simp
  ·rw [ft r (by omega) hr]
   obtain ⟨_, c2, _⟩ := hb 8 (by decide)
   have e8 : (gat l (11 * q + 8)).ls.take ((gat l (11 * q + 8)).ls.length - 1) = (gat l (11 * q + 10)).ls := by rw [c2]; simp
   unfold fitT
   rw [e8]
   by_cases h9 : r = 9
   ·subst h9; exact ⟨h9l, by rw [if_pos rfl]; assumption⟩
   ·obtain rfl : r = 10 := by omega
    exact ⟨rfl, by rw [if_neg (by decide)]; exact ⟨h10, h10v⟩⟩
 ·intro h
  have hB : ∀ i, i < 9 → fitB n (l.take (11 * q + i)) (gat l (11 * q + i)) i := fun i hi => (fb i hi).1 (h i (by omega))
  have hT : ∀ i, 9 ≤ i → i < 11 → fitT n (gat l (11 * q + 8)) (gat l (11 * q + i)) i := fun i h9 hi => (ft i h9 hi).1 (h i hi)
  -- the labels of all buckets begin alike
  obtain ⟨base, hbase⟩ := (hB 0 (by decide)).2.1
  have hall : ∀ i, i < 9 → (gat l (11 * q + i)).ls = base ++ [(leN, bnd i)] := by
   intro i
   induction i with
   | zero => intro _; exact hbase
   | succ i ih =>
    intro hi
    have ihh := ih (by omega)
    obtain ⟨_, ⟨b', hb'⟩, h3⟩ := hB (i + 1) hi
    rw [if_neg (by omega), pv (i + 1) (by omega) hi, show i + 1 - 1 = i by omega] at h3
    obtain ⟨h4, h5, _⟩ := h3
    rw [ihh, hb'] at h5 h4
    have hlb : b'.length = base.length := by simp at h4; omega
    have e1 : (b' ++ [(leN, bnd (i + 1))]).length - 1 = b'.length := by simp
    rw [e1] at h5
    have : b' = base := by
     rw [List.take_left] at h5
     rw [hlb, List.take_left] at h5
     exact h5
    rw [hb', this]
  have hT9 := hT 9 (by decide) (by decide)
  have hT10 := hT 10 (by decide) (by decide)
  unfold fitT at hT9 hT10
  rw [hall 8 (by decide)] at hT9 hT10
  have e8 : (base ++ [(leN, bnd 8)]).take ((base ++ [(leN, bnd 8)]).length - 1) = base := by simp
  rw [e8] at hT9 hT10
  rw [if_pos rfl] at hT9
  rw [if_neg (by decide)] at hT10
  have G : ∀ i, i < 11 → gat (grpS l q) i = gat l (11 * q + i) := fun i hi => gat_grp hi
  refine ⟨hlen, fun i hi => ?_, ?_, ?_, ?_, ?_, ?_⟩
  ·unfold bkP prv
   rw [G i (by omega), G 10 (by decide), hT10.1]
   refine ⟨(hB i hi).1, hall i hi, ?_⟩
   have h3 := (hB i hi).2.2
   by_cases h0 : i = 0
   ·rw [if_pos h0] at h3 ⊢; exact h3.2
   ·rw [if_neg h0, pv i h0 hi] at h3
    rw [if_neg h0, G (i - 1) (by omega)]
    exact h3.2.2
  ·rw [G 10 (by decide), hT10.1, ← lesN_zero]
   have h3 := (hB 0 (by decide)).2.2
   rw [if_pos rfl] at h3
   have := h3.1
   rw [hall 0 (by decide), lesN_snoc] at this
   omega
  ·rw [G 9 (by decide)]; exact hT9.2
  ·rw [G 9 (by decide), G 10 (by decide), hT9.1, hT10.1]
  ·rw [G 10 (by decide)]; exact hT10.2.1
  ·rw [G 10 (by decide), G 8 (by decide)]; exact hT10.2.2

theorem grps_fits {n : ByteArray} {l : List SmD} : grpsP n l ↔ l.length % 11 = 0 ∧ ∀ i : Nat, i < l.length → fitG n (l.take i) (gat l i) := by
 constructor
 ·intro h
  have hm : l.length % 11 = 0 := by
   refine Classical.byContradiction fun hne => ?_
   have := (h (l.length / 11) (by omega)).1
   unfold grpS at this
   rw [List.length_take, List.length_drop] at this
   omega
  refine ⟨hm, fun i hi => ?_⟩
  have := (grp_fits (q := i / 11) (by omega)).1 (h (i / 11) (by omega)) (i % 11) (by omega)
  rwa [show 11 * (i / 11) + i % 11 = i by omega] at this
 ·rintro ⟨hm, h⟩ q hq
  exact (grp_fits (by omega)).2 fun r hr => h _ (by omega)

theorem gat_get {l : List SmD} {i : Nat} (h : i < l.length) : gat l i = l[i] := by
 unfold gat
 rw [List.getD_eq_getElem?_getD, List.getElem?_eq_getElem h]
 rfl

theorem fam_iff (f : FaD) : famP f ↔ rhead f ∧ fitsUp f f.ss.length := by
 have e : ∀ i, i < f.ss.length → (fitP (upto f i) (gat f.ss i) ↔ labP (gat f.ss i).ls ∧ i < 400 ∧ (if f.ty = 3 then fitG f.nm (f.ss.take i) (gat f.ss i) else (gat f.ss i).nm = f.nm ∧ hasB (gat f.ss i).ls leN = false)) := fun i hi => by
  unfold fitP
  have : (upto f i).ss.length = i := by show (f.ss.take i).length = i; rw [List.length_take]; omega
  rw [this]
  rfl
 constructor
 ·rintro ⟨⟨h1, h2, h3, h4, h5⟩, hl, hg⟩
  refine ⟨⟨h1, h2, h3, by omega, fun ht => ?_⟩, fun i hi => ?_⟩
  ·rw [if_pos ht] at hg; exact (grps_fits.1 hg).1
  ·rw [e i hi]
   refine ⟨hl _ (gat_mem hi), by omega, ?_⟩
   by_cases ht : f.ty = 3
   ·rw [if_pos ht] at hg ⊢
    exact (grps_fits.1 hg).2 i hi
   ·rw [if_neg ht] at hg ⊢
    exact hg _ (gat_mem hi)
 ·rintro ⟨⟨h1, h2, h3, h4, h5⟩, hf⟩
  have hf' := fun i hi => (e i hi).1 (hf i hi)
  have h400 := (hf' (f.ss.length - 1) (by omega)).2.1
  refine ⟨⟨h1, h2, h3, by omega, by omega⟩, fun x hx => ?_, ?_⟩
  ·obtain ⟨i, hi, rfl⟩ := List.mem_iff_getElem.1 hx
   have := (hf' i hi).1
   rwa [gat_get hi] at this
  ·by_cases ht : f.ty = 3
   ·rw [if_pos ht]
    refine grps_fits.2 ⟨h5 ht, fun i hi => ?_⟩
    have := (hf' i hi).2.2
    rwa [if_pos ht] at this
   ·rw [if_neg ht]
    intro x hx
    obtain ⟨i, hi, rfl⟩ := List.mem_iff_getElem.1 hx
    have := (hf' i hi).2.2
    rw [if_neg ht, gat_get hi] at this
    exact this


theorem rshort_fn (l : List FaD) (hl : l.length ≤ 4000000000000000000) (hs : ∀ f ∈ l, szF f) : Ct Tryz.prog 10 {} [SL 4 (faR l)] (fun r => ∃ b : Bool, r = [B b]) := by
 refine rshort_nf _ _ ⟨fun _ i => 0 ≤ i ∧ i ≤ l.length, fun _ i => (l.length - i).toNat, by omega, ?_⟩
 rintro n i ⟨i0, il⟩
 rw [rlen_eq, List.length_map]
 refine ifB_intro (fun hi => ?_) (fun hi => ⟨_, rfl⟩)
 have hi : i < l.length := by simpa using hi
 have hi' : i.toNat < l.length := by omega
 have row := rget_mapI FaD.row l i i0 hi
 obtain ⟨p, hpd⟩ : ∃ p, p = l[i.toNat] := ⟨_, rfl⟩
 have hz := hs _ (List.getElem_mem hi')
 rw [← hpd] at row hz
 have hpl := hz.2.1
 refine ⟨⟨i0, hi⟩, _, _, _, _, row, ⟨i0, hi⟩, _, _, _, _, row, ⟨i0, hi⟩, _, _, _, _, row, fun _ k => 0 ≤ k ∧ k ≤ p.ss.length, fun _ k => (p.ss.length - k).toNat, by omega, ?_⟩
 rintro n1 k ⟨k0, kl⟩
 refine ⟨⟨i0, hi⟩, _, _, _, _, row, ?_⟩
 rw [rlen_eq, List.length_map]
 refine ifB_intro (fun hk => ?_) (fun hk => ?_)
 ·have hk : k < p.ss.length := by simpa using hk
  have hk' : k.toNat < p.ss.length := by omega
  have rowk := rget_mapI SmD.row p.ss k k0 hk
  obtain ⟨u, hud⟩ : ∃ u, u = p.ss[k.toNat] := ⟨_, rfl⟩
  have hul := (hz.2.2 _ (List.getElem_mem hk')).1
  rw [← hud] at rowk hul
  refine ⟨⟨i0, hi⟩, _, _, _, _, row, ⟨k0, by rw [rlen_eq, List.length_map]; exact hk⟩, _, _, _, rowk, fun _ j => 0 ≤ j ∧ j ≤ u.ls.length, fun _ j => (u.ls.length - j).toNat, by omega, ?_⟩
  rintro n2 j ⟨j0, jl⟩
  rw [rlen_eq, List.length_map]
  refine ifB_intro (fun hj => ?_) (fun hj => ?_)
  ·have hj : j < u.ls.length := by simpa using hj
   have rowj := rget_mapI (fun p : LaD => [S p.1, S p.2]) u.ls j j0 hj
   rw [wadd_i64 (a := j) (by omega) (by omega)]
   exact ⟨⟨j0, hj⟩, _, _, rowj, ⟨j0, hj⟩, _, _, rowj, rfl, by omega, mlt (by dsimp only; omega)⟩
  ·rw [wadd_i64 (a := k) (by omega) (by omega)]
   exact ⟨rfl, by omega, mlt (by dsimp only; omega)⟩
 ·rw [wadd_i64 (a := i) (by omega) (by omega)]
  exact ⟨rfl, by omega, mlt (by dsimp only; omega)⟩

def shortS (d : StD) : Prop := d.cs.length ≤ 20 ∧ ∀ c ∈ d.cs, c.nm.size ≤ 100 ∧ c.cl.length ≤ 40

end Go.Proofs.YtknnooannohflaaGreatDoor.Met

/- Printed conditions of functions: layer 28's reference. -/
import Derived.Test.YtknnooannohflaaDoorMzA
import Derived.Test.YtknnooannohflaaDoorPrB1
import Derived.Test.YtknnooannohflaaDoorPrE1
namespace Go.Proofs.YtknnooannohflaaDoor.Met
open Go Go.Px Go.Proofs 
set_option maxRecDepth 100000
set_option linter.unusedVariables false

abbrev pa3 (a : Int) (t : ByteArray) (b : Bool) : SV := .agg [I a, S t, B b]
theorem Zvf (s : ByteArray) (a : Int) (Q : List SV → Prop) (h : ∃ Inv : Int → Prop, ∃ m : Int → Nat, (Inv a) ∧ (∀ x, (Inv x) → ifB (ilt x (slen s)) ((((0 : Int) ≤ x) ∧ (x < (slen s))) ∧ (Cl Tryd.prog 136 sP [U8 (sbyte s x), B (ieq x a)] (fun rs => ∃ b, (rs = [B b]) ∧ (ifB b ((Sm (some ([[I ((0 : Int)), S (ByteArray.mk (Array.mk [])), B false]]))) ∧ ((Inv (wadd .i64 x 1)) ∧ (Nat.le (Nat.succ (m (wadd .i64 x 1))) (m x)))) ((((0 : Int) ≤ a) ∧ ((a ≤ x) ∧ (x ≤ (slen s)))) ∧ (Q ([SV.agg [I x, S (ssub s a x), B (ieq x a)]]))))))) ((((0 : Int) ≤ a) ∧ ((a ≤ x) ∧ (x ≤ (slen s)))) ∧ (Q ([SV.agg [I x, S (ssub s a x), B (ieq x a)]]))))) : Ct Tryd.prog 83 {} [S s, I a] Q :=
 fn_of (f := 83) SgT SvT (fun k => bif Nat.beq k 7 then some { slots := [(5,false,[.int .i64])], fixed := [512] } else none) Tryd.f83 Tryd.func83 (by kernel_rfl) (by kernel_rfl) h

theorem Zsy (s : ByteArray) (a : Int) (w : ByteArray) (Q : List SV → Prop) (h : ∃ Inv : Int → Prop, ∃ m : Int → Nat, (Inv 0) ∧ (∀ x, (Inv x) → ifB (ilt x (slen w)) (ifB (ige (wadd .i64 a x) (slen s)) (Q ([SV.agg ([I (wadd .i64 a x), S (ByteArray.mk (Array.mk [])), B true])])) ((((0 : Int) ≤ (wadd .i64 a x)) ∧ ((wadd .i64 a x) < (slen s))) ∧ ((((0 : Int) ≤ x) ∧ (x < (slen w))) ∧ (ifB (ine (sbyte s (wadd .i64 a x)) (sbyte w x)) (Q ([SV.agg ([I (wadd .i64 a x), S (ByteArray.mk (Array.mk [])), B true])])) ((Sm (some ([[I ((0 : Int)), S (ByteArray.mk (Array.mk [])), B false]]))) ∧ ((Inv (wadd .i64 x 1)) ∧ (Nat.le (Nat.succ (m (wadd .i64 x 1))) (m x)))))))) (Q ([SV.agg ([I (wadd .i64 a (slen w)), S (ByteArray.mk (Array.mk [])), B false])])))) : Ct Tryd.prog 85 {} [S s, I a, S w] Q :=
 fn_of (f := 85) SgT SvT (fun k => bif Nat.beq k 8 then some { slots := [(7,false,[.int .i64])], fixed := [768] } else none) Tryd.f85 Tryd.func85 (by kernel_rfl) (by kernel_rfl) h

theorem Zvg (s : ByteArray) (a : Int) (v : Bool) (Q : List SV → Prop) (h : ∃ Inv : Int → (LL) → Prop, ∃ m : Int → (LL) → Nat, (Inv a []) ∧ (∀ x l, (Inv x l) → ifB (ilt x (slen s)) ((((0 : Int) ≤ x) ∧ (x < (slen s))) ∧ (ifB (bpick v (ieq (sbyte s x) 34) false) ((Zc8 l) ∧ (Q ([SV.agg [I (wadd .i64 x 1), S (bstr l), B false]]))) (ifB (ieq (sbyte s x) 92) (ifB (ige (wadd .i64 x 1) (slen s)) (Q ([SV.agg ([I (wadd .i64 x 1), S (ByteArray.mk (Array.mk [])), B true])])) ((((0 : Int) ≤ (wadd .i64 x 1)) ∧ ((wadd .i64 x 1) < (slen s))) ∧ (ifB (ine (sbyte s (wadd .i64 x 1)) 92) ((((0 : Int) ≤ (wadd .i64 x 1)) ∧ ((wadd .i64 x 1) < (slen s))) ∧ (ifB (ine (sbyte s (wadd .i64 x 1)) 110) (ifB (bnot v) (Q ([SV.agg ([I (wadd .i64 x 1), S (ByteArray.mk (Array.mk [])), B true])])) ((((0 : Int) ≤ (wadd .i64 x 1)) ∧ ((wadd .i64 x 1) < (slen s))) ∧ (ifB (ine (sbyte s (wadd .i64 x 1)) 34) (Q ([SV.agg ([I (wadd .i64 x 1), S (ByteArray.mk (Array.mk [])), B true])])) ((((0 : Int) ≤ (wadd .i64 x 1)) ∧ ((wadd .i64 x 1) < (slen s))) ∧ (ifB (ieq (sbyte s (wadd .i64 x 1)) 110) (((lsum (rlen l) (rlen ([[U8 10]]))) ≤ ((2147483648 : Int))) ∧ ((Sm (some ([[I ((0 : Int)), S (ByteArray.mk (Array.mk [])), B false]]))) ∧ ((Inv (wadd .i64 (wadd .i64 x 1) 1) (rapp l ([[U8 10]]))) ∧ (Nat.le (Nat.succ (m (wadd .i64 (wadd .i64 x 1) 1) (rapp l ([[U8 10]])))) (m x l))))) (((lsum (rlen l) (rlen ([[U8 (sbyte s (wadd .i64 x 1))]]))) ≤ ((2147483648 : Int))) ∧ ((Sm (some ([[I ((0 : Int)), S (ByteArray.mk (Array.mk [])), B false]]))) ∧ ((Inv (wadd .i64 (wadd .i64 x 1) 1) (rapp l ([[U8 (sbyte s (wadd .i64 x 1))]]))) ∧ (Nat.le (Nat.succ (m (wadd .i64 (wadd .i64 x 1) 1) (rapp l ([[U8 (sbyte s (wadd .i64 x 1))]])))) (m x l)))))))))) ((((0 : Int) ≤ (wadd .i64 x 1)) ∧ ((wadd .i64 x 1) < (slen s))) ∧ (ifB (ieq (sbyte s (wadd .i64 x 1)) 110) (((lsum (rlen l) (rlen ([[U8 10]]))) ≤ ((2147483648 : Int))) ∧ ((Sm (some ([[I ((0 : Int)), S (ByteArray.mk (Array.mk [])), B false]]))) ∧ ((Inv (wadd .i64 (wadd .i64 x 1) 1) (rapp l ([[U8 10]]))) ∧ (Nat.le (Nat.succ (m (wadd .i64 (wadd .i64 x 1) 1) (rapp l ([[U8 10]])))) (m x l))))) (((lsum (rlen l) (rlen ([[U8 (sbyte s (wadd .i64 x 1))]]))) ≤ ((2147483648 : Int))) ∧ ((Sm (some ([[I ((0 : Int)), S (ByteArray.mk (Array.mk [])), B false]]))) ∧ ((Inv (wadd .i64 (wadd .i64 x 1) 1) (rapp l ([[U8 (sbyte s (wadd .i64 x 1))]]))) ∧ (Nat.le (Nat.succ (m (wadd .i64 (wadd .i64 x 1) 1) (rapp l ([[U8 (sbyte s (wadd .i64 x 1))]])))) (m x l))))))))) ((((0 : Int) ≤ (wadd .i64 x 1)) ∧ ((wadd .i64 x 1) < (slen s))) ∧ (ifB (ieq (sbyte s (wadd .i64 x 1)) 110) (((lsum (rlen l) (rlen ([[U8 10]]))) ≤ ((2147483648 : Int))) ∧ ((Sm (some ([[I ((0 : Int)), S (ByteArray.mk (Array.mk [])), B false]]))) ∧ ((Inv (wadd .i64 (wadd .i64 x 1) 1) (rapp l ([[U8 10]]))) ∧ (Nat.le (Nat.succ (m (wadd .i64 (wadd .i64 x 1) 1) (rapp l ([[U8 10]])))) (m x l))))) (((lsum (rlen l) (rlen ([[U8 (sbyte s (wadd .i64 x 1))]]))) ≤ ((2147483648 : Int))) ∧ ((Sm (some ([[I ((0 : Int)), S (ByteArray.mk (Array.mk [])), B false]]))) ∧ ((Inv (wadd .i64 (wadd .i64 x 1) 1) (rapp l ([[U8 (sbyte s (wadd .i64 x 1))]]))) ∧ (Nat.le (Nat.succ (m (wadd .i64 (wadd .i64 x 1) 1) (rapp l ([[U8 (sbyte s (wadd .i64 x 1))]])))) (m x l)))))))))) (((lsum (rlen l) (rlen ([[U8 (sbyte s x)]]))) ≤ ((2147483648 : Int))) ∧ ((Sm (some ([[I ((0 : Int)), S (ByteArray.mk (Array.mk [])), B false]]))) ∧ ((Inv (wadd .i64 x 1) (rapp l ([[U8 (sbyte s x)]]))) ∧ (Nat.le (Nat.succ (m (wadd .i64 x 1) (rapp l ([[U8 (sbyte s x)]])))) (m x l)))))))) ((Zc8 l) ∧ (Q ([SV.agg [I x, S (bstr l), B v]]))))) : Ct Tryd.prog 86 {} [S s, I a, B v] Q :=
 fn_of (f := 86) SgT SvT (fun k => bif Nat.beq k 10 then some { slots := [(1,false,[.int .i64]),(7,false,[.own 1])], fixed := [768] } else none) Tryd.f86 Tryd.func86 (by kernel_rfl) (by kernel_rfl) h

theorem Zrp (s : ByteArray) (a : Int) (Q : List SV → Prop) (h : ifB (ilt a (slen s)) ((((0 : Int) ≤ a) ∧ (a < (slen s))) ∧ (ifB (ieq (sbyte s a) 45) (∃ Inv : Int → Int → Prop, ∃ m : Int → Int → Nat, (Inv (wadd .i64 a 1) 0) ∧ (∀ x x1, (Inv x x1) → ifB (ilt x (slen s)) ((((0 : Int) ≤ x) ∧ (x < (slen s))) ∧ (ifB (ige (sbyte s x) 48) ((((0 : Int) ≤ x) ∧ (x < (slen s))) ∧ (ifB (ile (sbyte s x) 57) ((((0 : Int) ≤ x) ∧ (x < (slen s))) ∧ (ifB (ieq (sbyte s a) 45) (ifB (bpick (ieq x (wadd .i64 a 1)) (ieq (wcv .u64 (wsub .u8 (sbyte s x) 48)) 0) false) (Q ([I 0, SV.agg ([I x, S (ByteArray.mk (Array.mk [])), B true])])) (ifB (bpick (igt x (wadd .i64 a 1)) (ieq x1 0) false) (Q ([I 0, SV.agg ([I x, S (ByteArray.mk (Array.mk [])), B true])])) ((((10 : Int) = 0) → False) ∧ (ifB (igt x1 (wquo .u64 (wsub .u64 9223372036854775808 (wcv .u64 (wsub .u8 (sbyte s x) 48))) 10)) (Q ([I 0, SV.agg ([I x, S (ByteArray.mk (Array.mk [])), B true])])) ((Sm (some ([[I ((0 : Int)), S (ByteArray.mk (Array.mk [])), B false]]))) ∧ ((Inv (wadd .i64 x 1) (wadd .u64 (wmul .u64 10 x1) (wcv .u64 (wsub .u8 (sbyte s x) 48)))) ∧ (Nat.le (Nat.succ (m (wadd .i64 x 1) (wadd .u64 (wmul .u64 10 x1) (wcv .u64 (wsub .u8 (sbyte s x) 48))))) (m x x1)))))))) (ifB (bpick (igt x (wadd .i64 a 1)) (ieq x1 0) false) (Q ([I 0, SV.agg ([I x, S (ByteArray.mk (Array.mk [])), B true])])) ((((10 : Int) = 0) → False) ∧ (ifB (igt x1 (wquo .u64 (wsub .u64 9223372036854775807 (wcv .u64 (wsub .u8 (sbyte s x) 48))) 10)) (Q ([I 0, SV.agg ([I x, S (ByteArray.mk (Array.mk [])), B true])])) ((Sm (some ([[I ((0 : Int)), S (ByteArray.mk (Array.mk [])), B false]]))) ∧ ((Inv (wadd .i64 x 1) (wadd .u64 (wmul .u64 10 x1) (wcv .u64 (wsub .u8 (sbyte s x) 48)))) ∧ (Nat.le (Nat.succ (m (wadd .i64 x 1) (wadd .u64 (wmul .u64 10 x1) (wcv .u64 (wsub .u8 (sbyte s x) 48))))) (m x x1))))))))) (ifB (ieq (sbyte s a) 45) (Q ([I (wcv .i64 (wneg .u64 x1)), SV.agg ([I x, S (ByteArray.mk (Array.mk [])), B (ieq x (wadd .i64 a 1))])])) (Q ([I (wcv .i64 x1), SV.agg ([I x, S (ByteArray.mk (Array.mk [])), B (ieq x (wadd .i64 a 1))])]))))) (ifB (ieq (sbyte s a) 45) (Q ([I (wcv .i64 (wneg .u64 x1)), SV.agg ([I x, S (ByteArray.mk (Array.mk [])), B (ieq x (wadd .i64 a 1))])])) (Q ([I (wcv .i64 x1), SV.agg ([I x, S (ByteArray.mk (Array.mk [])), B (ieq x (wadd .i64 a 1))])]))))) (ifB (ieq (sbyte s a) 45) (Q ([I (wcv .i64 (wneg .u64 x1)), SV.agg ([I x, S (ByteArray.mk (Array.mk [])), B (ieq x (wadd .i64 a 1))])])) (Q ([I (wcv .i64 x1), SV.agg ([I x, S (ByteArray.mk (Array.mk [])), B (ieq x (wadd .i64 a 1))])]))))) (∃ Inv : Int → Int → Prop, ∃ m : Int → Int → Nat, (Inv a 0) ∧ (∀ x x1, (Inv x x1) → ifB (ilt x (slen s)) ((((0 : Int) ≤ x) ∧ (x < (slen s))) ∧ (ifB (ige (sbyte s x) 48) ((((0 : Int) ≤ x) ∧ (x < (slen s))) ∧ (ifB (ile (sbyte s x) 57) ((((0 : Int) ≤ x) ∧ (x < (slen s))) ∧ (ifB (ieq (sbyte s a) 45) (ifB (bpick (ieq x a) (ieq (wcv .u64 (wsub .u8 (sbyte s x) 48)) 0) false) (Q ([I 0, SV.agg ([I x, S (ByteArray.mk (Array.mk [])), B true])])) (ifB (bpick (igt x a) (ieq x1 0) false) (Q ([I 0, SV.agg ([I x, S (ByteArray.mk (Array.mk [])), B true])])) ((((10 : Int) = 0) → False) ∧ (ifB (igt x1 (wquo .u64 (wsub .u64 9223372036854775808 (wcv .u64 (wsub .u8 (sbyte s x) 48))) 10)) (Q ([I 0, SV.agg ([I x, S (ByteArray.mk (Array.mk [])), B true])])) ((Sm (some ([[I ((0 : Int)), S (ByteArray.mk (Array.mk [])), B false]]))) ∧ ((Inv (wadd .i64 x 1) (wadd .u64 (wmul .u64 10 x1) (wcv .u64 (wsub .u8 (sbyte s x) 48)))) ∧ (Nat.le (Nat.succ (m (wadd .i64 x 1) (wadd .u64 (wmul .u64 10 x1) (wcv .u64 (wsub .u8 (sbyte s x) 48))))) (m x x1)))))))) (ifB (bpick (igt x a) (ieq x1 0) false) (Q ([I 0, SV.agg ([I x, S (ByteArray.mk (Array.mk [])), B true])])) ((((10 : Int) = 0) → False) ∧ (ifB (igt x1 (wquo .u64 (wsub .u64 9223372036854775807 (wcv .u64 (wsub .u8 (sbyte s x) 48))) 10)) (Q ([I 0, SV.agg ([I x, S (ByteArray.mk (Array.mk [])), B true])])) ((Sm (some ([[I ((0 : Int)), S (ByteArray.mk (Array.mk [])), B false]]))) ∧ ((Inv (wadd .i64 x 1) (wadd .u64 (wmul .u64 10 x1) (wcv .u64 (wsub .u8 (sbyte s x) 48)))) ∧ (Nat.le (Nat.succ (m (wadd .i64 x 1) (wadd .u64 (wmul .u64 10 x1) (wcv .u64 (wsub .u8 (sbyte s x) 48))))) (m x x1))))))))) (ifB (ieq (sbyte s a) 45) (Q ([I (wcv .i64 (wneg .u64 x1)), SV.agg ([I x, S (ByteArray.mk (Array.mk [])), B (ieq x a)])])) (Q ([I (wcv .i64 x1), SV.agg ([I x, S (ByteArray.mk (Array.mk [])), B (ieq x a)])]))))) (ifB (ieq (sbyte s a) 45) (Q ([I (wcv .i64 (wneg .u64 x1)), SV.agg ([I x, S (ByteArray.mk (Array.mk [])), B (ieq x a)])])) (Q ([I (wcv .i64 x1), SV.agg ([I x, S (ByteArray.mk (Array.mk [])), B (ieq x a)])]))))) (ifB (ieq (sbyte s a) 45) (Q ([I (wcv .i64 (wneg .u64 x1)), SV.agg ([I x, S (ByteArray.mk (Array.mk [])), B (ieq x a)])])) (Q ([I (wcv .i64 x1), SV.agg ([I x, S (ByteArray.mk (Array.mk [])), B (ieq x a)])]))))))) (∃ Inv : Int → Int → Prop, ∃ m : Int → Int → Nat, (Inv a 0) ∧ (∀ x x1, (Inv x x1) → ifB (ilt x (slen s)) ((((0 : Int) ≤ x) ∧ (x < (slen s))) ∧ (ifB (ige (sbyte s x) 48) ((((0 : Int) ≤ x) ∧ (x < (slen s))) ∧ (ifB (ile (sbyte s x) 57) ((((0 : Int) ≤ x) ∧ (x < (slen s))) ∧ (ifB (bpick (igt x a) (ieq x1 0) false) (Q ([I 0, SV.agg ([I x, S (ByteArray.mk (Array.mk [])), B true])])) ((((10 : Int) = 0) → False) ∧ (ifB (igt x1 (wquo .u64 (wsub .u64 9223372036854775807 (wcv .u64 (wsub .u8 (sbyte s x) 48))) 10)) (Q ([I 0, SV.agg ([I x, S (ByteArray.mk (Array.mk [])), B true])])) ((Sm (some ([[I ((0 : Int)), S (ByteArray.mk (Array.mk [])), B false]]))) ∧ ((Inv (wadd .i64 x 1) (wadd .u64 (wmul .u64 10 x1) (wcv .u64 (wsub .u8 (sbyte s x) 48)))) ∧ (Nat.le (Nat.succ (m (wadd .i64 x 1) (wadd .u64 (wmul .u64 10 x1) (wcv .u64 (wsub .u8 (sbyte s x) 48))))) (m x x1)))))))) (Q ([I (wcv .i64 x1), SV.agg ([I x, S (ByteArray.mk (Array.mk [])), B (ieq x a)])])))) (Q ([I (wcv .i64 x1), SV.agg ([I x, S (ByteArray.mk (Array.mk [])), B (ieq x a)])])))) (Q ([I (wcv .i64 x1), SV.agg ([I x, S (ByteArray.mk (Array.mk [])), B (ieq x a)])]))))) : Ct Tryd.prog 87 {} [S s, I a] Q :=
 fn_of (f := 87) SgT SvT (fun k => bif Nat.beq k 25 then some { slots := [(1,false,[.int .i64]),(8,false,[.int .u64])], fixed := [640] } else none) Tryd.f87 Tryd.func87 (by kernel_rfl) (by kernel_rfl) h

theorem Zrq (a : Int) (t : ByteArray) (b : Bool) (Q : List SV → Prop) (h : Q ([SV.agg ([I ((0 : Int)), S (ByteArray.mk (Array.mk [])), S (ByteArray.mk (Array.mk [])), S (ByteArray.mk (Array.mk [])), SL 2 [], I ((0 : Int)), I (wadd .i64 a 1)])])) : Ct Tryd.prog 84 {} [pa3 a t b] Q :=
 fn_of (f := 84) SgT SvT (fun _ => none) Tryd.f84 Tryd.func84 (by kernel_rfl) (by kernel_rfl) h

end Go.Proofs.YtknnooannohflaaDoor.Met

namespace Go.Proofs.YtknnooannohflaaDoor.Met
open Go Go.Px Go.Proofs Cmp Go.Proofs.YtknnooannohflaaDoor.St Prs Trm
set_option maxRecDepth 100000
set_option linter.unusedVariables false

abbrev eT : ByteArray := ByteArray.mk (Array.mk [])
def ptN : Except Nat (Tx × Nat) → List SV
 | .ok (n, b) => [pa3 (b : Int) (bA n) false]
 | .error b => [pa3 (b : Int) eT true]
def ptU : Except Nat (Unit × Nat) → List SV
 | .ok (_, b) => [pa3 (b : Int) eT false]
 | .error b => [pa3 (b : Int) eT true]
theorem Zbr {s : ByteArray} {b : Nat} (h : b < s.size) : sbyte s (b : Int) = ((s[b]'h).toNat : Int) := by
 have h' : b < s.data.size := h; simp [sbyte, Array.getElem?_eq_getElem h']; rfl

theorem sign_x (s : ByteArray) (b : Nat) (h : b < s.size) (f : Bool) : Ct Tryd.prog 136 {} [U8 (sbyte s (b : Int)), B f] (fun r => r = [B (letB (s[b]'h) || (!f && digB (s[b]'h)))]) := by
 refine Zpv _ _ _ ?_; rw [Zbr h]; generalize s[b]'h = c; congr 2; unfold letB digB
 cases f <;> (rw [Bool.eq_iff_iff]; simp; try omega)

theorem Zhm (s : ByteArray) (a : Nat) (ha : a ≤ s.size) (hs : s.size ≤ 9000000000000000000) : Ct Tryd.prog 83 {} [S s, I (a : Int)] (fun r => r = ptN (pName s.data.toList a)) := by
 refine Zvf _ _ _ ⟨fun x => ∃ b : Nat, x = (b : Int) ∧ a ≤ b ∧ b ≤ s.size ∧ (∀ i, a ≤ i → i < b → ∃ c, s.data.toList[i]? = some c ∧ nmcB c = true) ∧ (a < b → ∃ c, s.data.toList[a]? = some c ∧ letB c = true), fun x => (s.size - x).toNat, ⟨a, rfl, Nat.le_refl _, ha, fun i h1 h2 => absurd h2 (by omega), fun h => absurd h (by omega)⟩, ?_⟩; rintro x ⟨b, rfl, hab, hb, hall, hfst⟩
 have fin : (∀ c, s.data.toList[b]? = some c → nmcB c = false ∨ (b = a ∧ letB c = false)) → (((0 : Int) ≤ (a : Int)) ∧ (((a : Int) ≤ (b : Int)) ∧ ((b : Int) ≤ (slen s)))) ∧ ([SV.agg [I (b : Int), S (ssub s (a : Int) (b : Int)), B (ieq (b : Int) (a : Int))]] = ptN (pName s.data.toList a)) := by
  intro hend; refine ⟨⟨by omega, by omega, by rw [slen_eq]; omega⟩, ?_⟩; by_cases e : a = b
  ·subst e
   have hr : pName s.data.toList a = .error a := by
    unfold pName
    cases h : s.data.toList[a]? with
    | none => rfl
    | some c =>
     have : letB c = false := by
      rcases hend c h with h1 | ⟨_, h1⟩
      ·cases q : letB c with
       | false => rfl
       | true => unfold nmcB at h1; rw [q] at h1; cases h1
      ·exact h1
     simp [this]
   rw [hr]; have h1 : ssub s (a : Int) (a : Int) = eT := (by apply ByteArray.ext; show (s.extract a a).data = _; rw [ByteArray.data_extract]; simp; omega); simp [ptN, h1]
  ·obtain ⟨c, hc, hl⟩ := hfst (by omega); have hr : pName s.data.toList a = .ok (nmAt s.data.toList a, a + (nmAt s.data.toList a).length) := by unfold pName; rw [hc]; simp [hl]
   have hend2 : ∀ c, s.data.toList[b]? = some c → nmcB c = false := fun c h => by
    rcases hend c h with h | ⟨h, _⟩
    ·exact h
    ·exact absurd h.symm e
   have hnm : bA (nmAt s.data.toList a) = ssub s (a : Int) (b : Int) := (by rw [Zh4 hab hall hend2]; apply Zjr.2; show _ = (s.extract a b).data.toList; rw [Zbh, ByteArray.data_extract, Array.toList_extract]); have hnl : a + (nmAt s.data.toList a).length = b := (by rw [Zh4 hab hall hend2, List.length_take, List.length_drop, Array.length_toList]; have : s.data.size = s.size := rfl; omega); rw [hr, hnl]; have : ¬ ((b : Int) = (a : Int)) := (by omega); simp [ptN, hnm, this]
 refine Zaa (fun hi => ?_) (fun hi => ?_)
 ·have hi : b < s.size := (by simpa [slen] using hi); refine ⟨⟨by omega, by rw [slen_eq]; omega⟩, Cl.of (sign_x s b hi _) ⟨_, rfl, Zaa (fun hg => ?_) (fun hg => ?_)⟩⟩
  ·rw [Za0 (by omega) (by omega)]; have hc : s.data.toList[b]? = some (s[b]'hi) := Zav hi; refine ⟨rfl, ⟨b + 1, by omega, by omega, by omega, fun i h1 h2 => ?_, fun _ => ?_⟩, mlt (by dsimp only; omega)⟩
   ·by_cases e : i = b
    ·subst e; refine ⟨_, hc, ?_⟩; unfold nmcB
     cases h1 : letB (s[i]'hi) <;> simp_all
    ·exact hall i h1 (by omega)
   ·by_cases e : a = b
    ·subst e; refine ⟨_, hc, ?_⟩
     cases h1 : letB (s[a]'hi) <;> simp_all
    ·exact hfst (by omega)
  ·refine fin fun c hc => ?_; rw [Zav hi] at hc
   cases hc
   by_cases e : a = b
   ·subst e
    right
    refine ⟨rfl, ?_⟩
    cases h1 : letB (s[a]'hi) <;> simp_all
   ·left
    have : ¬ ((b : Int) = (a : Int)) := (by omega); unfold nmcB
    simpa [this] using hg
 ·have hi : ¬ b < s.size := (by simpa [slen] using hi); exact fin fun c hc => by rw [Zbf hi] at hc; cases hc

theorem Zch (s : ByteArray) (a : Nat) (w : ByteArray) (ha : a ≤ s.size) (hs : s.size ≤ 4000000000000000000) (hw : w.size ≤ 4000000000000000000) : Ct Tryd.prog 85 {} [S s, I (a : Int), S w] (fun r => r = ptU (pNeed s.data.toList w.data.toList a)) := by
 refine Zsy _ _ _ _ ⟨fun x => ∃ k : Nat, x = (k : Int) ∧ k ≤ w.size ∧ pNeed s.data.toList w.data.toList a = pNeed s.data.toList (w.data.toList.drop k) (a + k), fun x => (w.size - x).toNat, ⟨0, rfl, by omega, rfl⟩, ?_⟩; rintro x ⟨k, rfl, hk, hp⟩; rw [hp]; have e1 : wadd .i64 (a : Int) (k : Int) = ((a + k : Nat) : Int) := by rw [Za0 (by omega) (by omega)]; omega
 refine Zaa (fun hi => ?_) (fun hi => ?_)
 ·have hi : k < w.size := (by simpa [slen] using hi); rw [e1, Zs6 hi]; refine Zaa (fun hg => ?_) (fun hg => ?_)
  ·have hg : ¬ a + k < s.size := (by simp only [ige_eq, slen_eq, decide_eq_true_eq] at hg; omega); rw [pNeed, Zbf hg]; simp [ptU]
  ·have hg : a + k < s.size := (by simp only [ige_eq, slen_eq, decide_eq_false_iff_not] at hg; omega); refine ⟨⟨by omega, by rw [slen_eq]; omega⟩, ⟨by omega, by rw [slen_eq]; omega⟩, ?_⟩; rw [Zbr hg, Zbr hi]; have hc := Zav hg; generalize s[a + k]'hg = c at *; generalize w[k]'hi = d at *; rw [pNeed, hc]; refine Zaa (fun hn => ?_) (fun hn => ?_)
   ·have hn : ¬ c = d := fun e => by subst e; simp at hn
    rw [if_neg (by simpa using hn)]; rfl
   ·have hn : c = d := (by simp only [ine_eq, Bool.not_eq_false', decide_eq_true_eq] at hn; exact UInt8.toNat_inj.1 (by omega)); rw [if_pos (by rw [hn])]; rw [Za0 (by omega) (by omega)]; exact ⟨rfl, ⟨k + 1, by omega, by omega, by rw [Nat.add_assoc]⟩, mlt (by dsimp only; omega)⟩
 ·have hi : ¬ k < w.size := (by simpa [slen] using hi); have hk2 : k = w.size := (by omega); have : w.data.toList.drop k = [] := (by rw [List.drop_eq_nil_iff, Array.length_toList]; show w.size ≤ k; omega); rw [this, pNeed]; have e2 : wadd .i64 (a : Int) (slen w) = ((a + k : Nat) : Int) := (by rw [slen_eq, Za0 (by omega) (by omega)]; omega); rw [e2]; rfl


def ptE (v : Bool) (t : Tx) : Except Nat (Tx × Nat) → List SV
 | .ok (r, b) => if v = true then (match t[b]? with | some _ => [pa3 ((b : Int) + 1) (bA r) false] | none => [pa3 (b : Int) (bA r) true]) else [pa3 (b : Int) (bA r) false]
 | .error b => [pa3 (b : Int) eT true]

theorem Zmq (s : ByteArray) (a : Nat) (v : Bool) (ha : a ≤ s.size) (hs : s.size ≤ 2000000000) : Ct Tryd.prog 86 {} [S s, I (a : Int), B v] (fun r => r = ptE v s.data.toList (pEsc v s.data.toList a)) := by
 refine Zvg _ _ _ _ ⟨fun x l => ∃ (b : Nat) (p : Tx), x = (b : Int) ∧ l = uR p ∧ p.length ≤ b ∧ b ≤ s.size ∧ pEsc v s.data.toList a = eApp p (pEsc v s.data.toList b), fun x _ => (s.size - x).toNat, ⟨a, [], rfl, rfl, Nat.zero_le _, ha, (Zpy _).symm⟩, ?_⟩; rintro x l ⟨b, p, rfl, rfl, hp, hb, he⟩; rw [he]
 have push : ∀ (y : UInt8) (n : Int) (d : Nat), n = (y.toNat : Int) → b + d ≤ s.size → 1 ≤ d → pEsc v s.data.toList b = eApp [y] (pEsc v s.data.toList (b + d)) → ∀ x' : Int, x' = ((b + d : Nat) : Int) →
   ((lsum (rlen (uR p)) (rlen ([[U8 n]]))) ≤ ((2147483648 : Int))) ∧ ((Option.some ([[I ((0 : Int)), S (ByteArray.mk (Array.mk [])), B false]]) = Option.some ([[I ((0 : Int)), S (ByteArray.mk (Array.mk [])), B false]])) ∧ ((∃ (b' : Nat) (p' : Tx), x' = (b' : Int) ∧ rapp (uR p) [[U8 n]] = uR p' ∧ p'.length ≤ b' ∧ b' ≤ s.size ∧ eApp p (pEsc v s.data.toList b) = eApp p' (pEsc v s.data.toList b')) ∧ (Nat.le (Nat.succ ((s.size - x').toNat)) ((s.size - (b : Int)).toNat)))) := by
  rintro y n d rfl hd hd1 e x' rfl; refine ⟨?_, rfl, ⟨b + d, p ++ [y], rfl, ?_, ?_, hd, ?_⟩, mlt (by omega)⟩
  ·simp only [lsum_eq, rlen_eq, uR_len, List.length_cons, List.length_nil]; omega
  ·simp [rapp]
  ·simp only [List.length_append, List.length_cons, List.length_nil]; omega
  ·rw [e, Zmb]
 have add1 : b < s.size → wadd .i64 (b : Int) 1 = ((b + 1 : Nat) : Int) := fun h => by rw [Za0 (by omega) (by omega)]; omega
 have add2 : b + 1 < s.size → wadd .i64 ((b + 1 : Nat) : Int) 1 = ((b + 2 : Nat) : Int) := fun h => by rw [Za0 (by omega) (by omega)]; omega
 refine Zaa (fun hi => ?_) (fun hi => ?_)
 ·have hi : b < s.size := (by simpa [slen] using hi); have hc := Zav hi; rw [add1 hi, Zbr hi]; generalize s[b]'hi = c at *; refine ⟨⟨by omega, by rw [slen_eq]; omega⟩, Zaa (fun hq => ?_) (fun hq => ?_)⟩
  ·have hq : v = true ∧ c = 34 := by
    cases v with
    | false => simp at hq
    | true => exact ⟨rfl, UInt8.toNat_inj.1 (by simp at hq; show c.toNat = 34; omega)⟩
   obtain ⟨rfl, rfl⟩ := hq; refine ⟨Zm4 p, ?_⟩; rw [Zk7 hc, Zvx]; simp [ptE, eApp, hc]
  ·have hq : ¬ (v = true ∧ c = 34) := (by rintro ⟨rfl, rfl⟩; simp at hq); refine Zaa (fun h92 => ?_) (fun h92 => ?_)
   ·have h92 : c = 92 := UInt8.toNat_inj.1 (by simp at h92; show c.toNat = 92; omega); subst h92; have hsg := Znh (v := v) hc; rw [Zma] at hsg; refine Zaa (fun hg => ?_) (fun hg => ?_)
    ·have hg : ¬ b + 1 < s.size := (by simp only [ige_eq, slen_eq, decide_eq_true_eq] at hg; omega); rw [Zbf hg] at hsg; rw [hsg]; rfl
    ·have hg : b + 1 < s.size := (by simp only [ige_eq, slen_eq, decide_eq_false_iff_not] at hg; omega); rw [Zav hg] at hsg; simp only at hsg; rw [add2 hg, Zbr hg]; generalize s[b + 1]'hg = d at *
     have in1 : (((0 : Int) ≤ ((b + 1 : Nat) : Int)) ∧ (((b + 1 : Nat) : Int) < (slen s))) := ⟨by omega, by rw [slen_eq]; omega⟩
     have inj : ∀ k : UInt8, (d.toNat : Int) = (k.toNat : Int) → d = k := fun k h => UInt8.toNat_inj.1 (by omega); refine ⟨in1, Zaa (fun g92 => ?_) (fun g92 => ?_)⟩
     ·have g92 : ¬ d = 92 := fun e => by subst e; simp at g92
      refine ⟨in1, Zaa (fun g110 => ?_) (fun g110 => ?_)⟩
      ·have g110 : ¬ d = 110 := fun e => by subst e; simp at g110
       refine Zaa (fun hv => ?_) (fun hv => ?_)
       ·have hv : v = false := (by simpa using hv); subst hv; have e : sgnB false d = none := (by unfold sgnB; rw [if_neg g92, if_neg g110]; simp); rw [e] at hsg; rw [hsg]; rfl
       ·have hv : v = true := (by simpa using hv); subst hv; refine ⟨in1, Zaa (fun g34 => ?_) (fun g34 => ?_)⟩
        ·have g34 : ¬ d = 34 := fun e => by subst e; simp at g34
         have e : sgnB true d = none := (by unfold sgnB; rw [if_neg g92, if_neg g110, if_neg g34]); rw [e] at hsg; rw [hsg]; rfl
        ·have g34 : d = 34 := inj 34 (by simpa using g34); subst g34; refine ⟨in1, Zaa (fun h => ?_) (fun h => ?_)⟩
         ·simp at h
         ·exact push 34 _ 2 rfl (by omega) (by omega) hsg _ rfl
      ·have g110 : d = 110 := inj 110 (by simpa using g110); subst g110; refine ⟨in1, Zaa (fun h => ?_) (fun h => ?_)⟩
       ·exact push 10 _ 2 rfl (by omega) (by omega) hsg _ rfl
       ·simp at h
     ·have g92 : d = 92 := inj 92 (by simpa using g92); subst g92; refine ⟨in1, Zaa (fun h => ?_) (fun h => ?_)⟩
      ·simp at h
      ·exact push 92 _ 2 rfl (by omega) (by omega) hsg _ rfl
   ·have h92 : ¬ c = 92 := fun e => by subst e; simp at h92
    exact push c _ 1 rfl (by omega) (by omega) (Zk8 hc hq h92) _ rfl
 ·have hi : ¬ b < s.size := (by simpa [slen] using hi); have hn := Zbf hi; refine ⟨Zm4 p, ?_⟩; rw [Zpz hn, Zvx]
  cases v <;> simp [ptE, eApp, hn]


def ptX (t : Tx) (r : Except Nat (Int × Nat)) (out : List SV) : Prop := ∃ (v : Int) (p : Nat) (bad : Bool), out = [I v, pa3 (p : Int) eT bad] ∧
 match r with
 | .ok (x, b) => p = b ∧ (bad = false → v = x) ∧ (t[b]? = none → bad = false)
 | .error b => p = b ∧ bad = true

theorem wcv_u {n : Int} (h0 : 0 ≤ n) (h : n ≤ 255) : wcv .u64 n = n := by
 simp [wcv, IntKind.wrap, IntKind.bits, IntKind.signed]; omega
theorem Zsz {n : Int} (h0 : 48 ≤ n) (h : n ≤ 255) : wsub .u8 n 48 = n - 48 := by
 simp [wsub, IntKind.wrap, IntKind.bits, IntKind.signed]; omega
theorem Zvh {a b : Int} (h0 : b ≤ a) (hb : 0 ≤ b) (h : a ≤ 18446744073709551615) : wsub .u64 a b = a - b := by
 simp [wsub, IntKind.wrap, IntKind.bits, IntKind.signed]; omega
theorem Zvi {a b : Int} (h0 : 0 ≤ a + b) (h : a + b ≤ 18446744073709551615) : wadd .u64 a b = a + b := by
 simp [wadd, IntKind.wrap, IntKind.bits, IntKind.signed]; omega
theorem Zvj {a b : Int} (h0 : 0 ≤ a * b) (h : a * b ≤ 18446744073709551615) : wmul .u64 a b = a * b := by
 simp [wmul, IntKind.wrap, IntKind.bits, IntKind.signed]; omega
theorem Zvk {a : Int} (h0 : 0 ≤ a) (h : a ≤ 18446744073709551615) : wquo .u64 a 10 = a / 10 := by
 unfold wquo; rw [Int.tdiv_eq_ediv_of_nonneg h0]; simp [IntKind.wrap, IntKind.bits, IntKind.signed]; omega

abbrev sgR (g : Nat → Int) : Except Nat (Nat × Nat) → Except Nat (Int × Nat)
 | .ok (n, b) => .ok (g n, b)
 | .error b => .error b
theorem Zo4 (T : Tx) (r : Except Nat (Nat × Nat)) (g : Nat → Int) (b : Nat) (h : r = .error b ∨ ∃ n, r = .ok (n, b) ∧ ∃ c, T[b]? = some c) : ptX T (sgR g r) [I 0, pa3 (b : Int) eT true] := by
 rcases h with rfl | ⟨n, rfl, c, hc⟩
 ·exact ⟨0, b, true, rfl, rfl, rfl⟩
 ·exact ⟨0, b, true, rfl, rfl, (fun h => by cases h), (fun h => by rw [hc] at h; cases h)⟩
theorem Zxn (T : Tx) (r : Except Nat (Nat × Nat)) (g : Nat → Int) (b n : Nat) (bad : Bool) (v : Int) (h : (bad = true ∧ r = .error b) ∨ (bad = false ∧ r = .ok (n, b) ∧ v = g n)) : ptX T (sgR g r) [I v, pa3 (b : Int) eT bad] := by
 rcases h with ⟨rfl, rfl⟩ | ⟨rfl, rfl, rfl⟩
 ·exact ⟨v, b, true, rfl, rfl, rfl⟩
 ·exact ⟨_, b, false, rfl, rfl, fun _ => rfl, fun _ => rfl⟩

def numI (s : ByteArray) (most : Nat) (below : Bool) (f : Nat) (x x1 : Int) : Prop := ∃ b n : Nat, x = (b : Int) ∧ x1 = (n : Int) ∧ f ≤ b ∧ b ≤ s.size ∧ n ≤ most ∧ (b = f → n = 0) ∧ (f < b → pAbs most below s.data.toList f = pDigs most (s.data.toList.drop b) n b)
theorem Zs0 {s : ByteArray} {most : Nat} {below : Bool} {f b n : Nat} (hfb : f ≤ b) (hI : f < b → pAbs most below s.data.toList f = pDigs most (s.data.toList.drop b) n b) (he : ∀ c, s.data.toList[b]? = some c → digB c = false) (g : Nat → Int) (v : Int) (hv : v = g n) :
  ptX s.data.toList (sgR g (pAbs most below s.data.toList f)) [I v, pa3 (b : Int) eT (ieq (b : Int) (f : Int))] := by
 refine Zxn _ _ g b n _ v ?_; by_cases e : f = b
 ·subst e; refine .inl ⟨by simp, ?_⟩
  cases h : s.data.toList[f]? with
  | none => exact Zjl h
  | some c => exact Ziu h (.inl (he c h))
 ·refine .inr ⟨by simp; omega, ?_, hv⟩; rw [hI (by omega)]
  cases h : s.data.toList[b]? with
  | none => exact Zhw h
  | some c => exact Zhx h (by rw [he c h]; simp)

theorem Zs1 {s : ByteArray} {most : Nat} {below : Bool} {f b n : Nat} (hm : 9 ≤ most ∧ most ≤ 9223372036854775808) (hs : s.size ≤ 2000000000) (hb : b < s.size) (hd : digB (s[b]'hb) = true) (hfb : f ≤ b) (hn : n ≤ most) (h0 : b = f → n = 0)
  (hI : f < b → pAbs most below s.data.toList f = pDigs most (s.data.toList.drop b) n b) (hz : ¬ (b = f ∧ below = true ∧ s[b]'hb = 48)) (g : Nat → Int) (Z : Prop) (hZ : ptX s.data.toList (sgR g (pAbs most below s.data.toList f)) [I 0, pa3 (b : Int) eT true] → Z)
  (K : Int → Int → Prop) (hK : ∀ x x1 : Int, x = ((b + 1 : Nat) : Int) → numI s most below f x x1 → K x x1) (M : Int) (hM : M = (most : Int)) :
  ifB (bpick (igt (b : Int) (f : Int)) (ieq (n : Int) 0) false) Z ((((10 : Int) = 0) → False) ∧ (ifB (igt (n : Int) (wquo IntKind.u64 (wsub IntKind.u64 M (wcv IntKind.u64 (wsub IntKind.u8 (sbyte s (b : Int)) 48))) 10)) Z (K (wadd IntKind.i64 (b : Int) 1) (wadd IntKind.u64 (wmul IntKind.u64 10 (n : Int)) (wcv IntKind.u64 (wsub IntKind.u8 (sbyte s (b : Int)) 48)))))) := by
 subst hM; have hc := Zav hb; rw [Zbr hb]; generalize s[b]'hb = c at *; have hd2 : 48 ≤ c.toNat ∧ c.toNat ≤ 57 := by simpa [digB] using hd
 obtain ⟨d, ed⟩ : ∃ d : Nat, d = c.toNat - 48 := ⟨_, rfl⟩
 have e1 : wcv IntKind.u64 (wsub IntKind.u8 (c.toNat : Int) 48) = (d : Int) := (by rw [Zsz (by omega) (by omega), wcv_u (by omega) (by omega)]; omega); rw [e1, Zvh (by omega) (by omega) (by omega), Zvk (by omega) (by omega)]; refine Zaa (fun h => ?_) (fun h => ⟨by decide, Zaa (fun h2 => ?_) (fun h2 => ?_)⟩)
 ·have h : f < b ∧ n = 0 := (by simp at h; omega); refine hZ (Zo4 _ _ g b (.inr ⟨0, ?_, c, hc⟩)); rw [hI h.1, h.2, Zem]
 ·have h : ¬ (f < b ∧ n = 0) := (by simp at h; omega); have h2 : (most - d) / 10 < n := by simp only [igt_eq, decide_eq_true_eq] at h2; omega
  have hfb2 : f < b := by
   rcases Nat.lt_or_ge f b with q | q
   ·exact q
   ·have := h0 (by omega); omega
  refine hZ (Zo4 _ _ g b (.inl ?_)); rw [hI hfb2]; exact Zjk hc ⟨by omega, hd⟩ (by rw [← ed]; exact h2)
 ·have h : ¬ (f < b ∧ n = 0) := (by simp at h; omega); have h2 : ¬ (most - d) / 10 < n := (by simp only [igt_eq, decide_eq_false_iff_not] at h2; omega); have e2 : wadd IntKind.u64 (wmul IntKind.u64 10 (n : Int)) (d : Int) = ((n * 10 + d : Nat) : Int) := (by rw [Zvj (by omega) (by omega), Zvi (by omega) (by omega)]; omega); rw [e2, Za0 (by omega) (by omega)]; refine hK _ _ (by omega) ⟨b + 1, n * 10 + d, by omega, rfl, by omega, by omega, by omega, fun e => by omega, fun _ => ?_⟩; by_cases e : b = f
  ·subst e; have := h0 rfl; subst this; rw [Zoe hc (fun q => q.elim (fun q => by rw [hd] at q; cases q) fun q => hz ⟨rfl, q.1, q.2⟩), Nat.zero_mul, Nat.zero_add, ← ed]
  ·rw [hI (by omega), Zhy hc ⟨by omega, hd⟩ (by rw [← ed]; exact h2), ← ed]

abbrev numK (s : ByteArray) (most : Nat) (below : Bool) (f b : Nat) : Int → Int → Prop := fun x x1 => ((Option.some ([[I ((0 : Int)), S (ByteArray.mk (Array.mk [])), B false]]) = Option.some ([[I ((0 : Int)), S (ByteArray.mk (Array.mk [])), B false]]))) ∧ (numI s most below f x x1 ∧ (Nat.le (Nat.succ ((s.size - x).toNat)) ((s.size - (b : Int)).toNat)))
theorem dig_of {s : ByteArray} {b : Nat} (hb : b < s.size) (h1 : ige (sbyte s (b : Int)) 48 = true) (h2 : ile (sbyte s (b : Int)) 57 = true) : digB (s[b]'hb) = true := by
 rw [Zbr hb] at h1 h2; simp only [ige_eq, ile_eq, decide_eq_true_eq] at h1 h2; simp only [digB, Bool.and_eq_true, decide_eq_true_eq]; omega
theorem Zqg {s : ByteArray} {b : Nat} (hb : b < s.size) (h : ige (sbyte s (b : Int)) 48 = false ∨ ile (sbyte s (b : Int)) 57 = false) : ∀ c, s.data.toList[b]? = some c → digB c = false := by
 intro c hc; rw [Zav hb] at hc
 cases hc
 rw [Zbr hb] at h; simp only [ige_eq, ile_eq, decide_eq_false_iff_not] at h
 cases q : digB (s[b]'hb) with
 | false => rfl
 | true => simp only [digB, Bool.and_eq_true, decide_eq_true_eq] at q; omega
theorem neg_v {n : Nat} (h : n ≤ 9223372036854775808) : wcv .i64 (wneg .u64 (n : Int)) = -(n : Int) := by
 by_cases h0 : n = 0
 ·subst h0; decide
 ·simp [wcv, wneg, IntKind.wrap, IntKind.bits, IntKind.signed]; omega
theorem pos_v {n : Nat} (h : n ≤ 9223372036854775807) : wcv .i64 (n : Int) = (n : Int) := by
 simp [wcv, IntKind.wrap, IntKind.bits, IntKind.signed]; omega

theorem Zf5 (s : ByteArray) (a : Nat) (ha : a ≤ s.size) (hs : s.size ≤ 2000000000) : Ct Tryd.prog 87 {} [S s, I (a : Int)] (fun r => ptX s.data.toList (pNum s.data.toList a) r) := by
 have inb : ∀ b : Nat, b < s.size → (((0 : Int) ≤ (b : Int)) ∧ ((b : Int) < (slen s))) := fun b h => ⟨by omega, by rw [slen_eq]; omega⟩
 refine Zrp _ _ _ (Zaa (fun hi => ?_) (fun hi => ?_))
 ·have hi : a < s.size := (by simpa [slen] using hi); have hc := Zav hi; refine ⟨inb a hi, Zaa (fun h45 => ?_) (fun h45 => ?_)⟩
  ·rw [h45]; have hx : s[a]'hi = 45 := (by rw [Zbr hi] at h45; exact UInt8.toNat_inj.1 (by simp at h45; show (s[a]'hi).toNat = 45; omega)); have hpn : pNum s.data.toList a = sgR (fun n => -(n : Int)) (pAbs 9223372036854775808 true s.data.toList (a + 1)) := (by unfold pNum; rw [hc, hx]; simp only [if_true]; rfl); have e1 : wadd .i64 (a : Int) 1 = ((a + 1 : Nat) : Int) := (by rw [Za0 (by omega) (by omega)]; omega); rw [e1]; refine ⟨numI s 9223372036854775808 true (a + 1), fun x _ => (s.size - x).toNat, ⟨a + 1, 0, rfl, rfl, Nat.le_refl _, by omega, by omega, fun _ => rfl, fun h => absurd h (by omega)⟩, ?_⟩; rintro x x1 ⟨b, n, rfl, rfl, hfb, hb, hn, h0, hI⟩; have fin : (∀ c, s.data.toList[b]? = some c → digB c = false) → ∀ Z : Prop, ifB true (ptX s.data.toList (pNum s.data.toList a) [I (wcv .i64 (wneg .u64 (n : Int))), pa3 (b : Int) eT (ieq (b : Int) ((a + 1 : Nat) : Int))]) Z := fun he Z => yesB rfl (by rw [hpn]; exact Zs0 hfb hI he _ _ (neg_v hn))
   refine Zaa (fun hi2 => ?_) (fun hi2 => fin (fun c hc => by
    have hi2 : ¬ b < s.size := by simpa [slen] using hi2
    rw [Zbf hi2] at hc; cases hc) _)
   have hi2 : b < s.size := (by simpa [slen] using hi2); refine ⟨inb b hi2, Zaa (fun h48 => ?_) (fun h48 => fin (Zqg hi2 (.inl h48)) _)⟩; refine ⟨inb b hi2, Zaa (fun h57 => ?_) (fun h57 => fin (Zqg hi2 (.inr h57)) _)⟩; have hd := dig_of hi2 h48 h57; refine ⟨inb b hi2, yesB rfl (Zaa (fun hz => ?_) (fun hz => ?_))⟩
   ·have hz : b = a + 1 ∧ s[b]'hi2 = 48 := (by rw [Zbr hi2] at hz; have hd2 : 48 ≤ (s[b]'hi2).toNat ∧ (s[b]'hi2).toNat ≤ 57 := (by simpa [digB] using hd); rw [Zsz (by omega) (by omega), wcv_u (by omega) (by omega)] at hz; refine ⟨by simp at hz; omega, UInt8.toNat_inj.1 (by simp at hz; show (s[b]'hi2).toNat = 48; omega)⟩); show ptX _ _ _; rw [hpn]; refine Zo4 _ _ _ b (.inl ?_); obtain ⟨rfl, hz⟩ := hz; exact Ziu (Zav hi2) (.inr ⟨rfl, hz⟩)
   ·exact Zs1 ⟨by omega, by omega⟩ hs hi2 hd hfb hn h0 hI (by
     rintro ⟨rfl, _, q⟩; rw [Zbr hi2, q] at hz
     revert hz
     simp [wcv, wsub, IntKind.wrap, IntKind.bits, IntKind.signed]) (fun n => -(n : Int)) _ (fun h => by rw [hpn]; exact h)
     (numK s 9223372036854775808 true (a + 1) b) (fun x x1 e h => ⟨rfl, h, mlt (by omega)⟩) _ rfl
  ·rw [h45]
   have hx : ¬ s[a]'hi = 45 := fun e => by
    rw [Zbr hi, e] at h45
    revert h45; decide
   have hpn : pNum s.data.toList a = sgR (fun n => (n : Int)) (pAbs 9223372036854775807 false s.data.toList a) := (by unfold pNum; rw [hc]; simp only [if_neg hx]; rfl); refine ⟨numI s 9223372036854775807 false a, fun x _ => (s.size - x).toNat, ⟨a, 0, rfl, rfl, Nat.le_refl _, by omega, by omega, fun _ => rfl, fun h => absurd h (by omega)⟩, ?_⟩; rintro x x1 ⟨b, n, rfl, rfl, hfb, hb, hn, h0, hI⟩; have fin : (∀ c, s.data.toList[b]? = some c → digB c = false) → ∀ Z : Prop, ifB false Z (ptX s.data.toList (pNum s.data.toList a) [I (wcv .i64 (n : Int)), pa3 (b : Int) eT (ieq (b : Int) (a : Int))]) := fun he Z => notB rfl (by rw [hpn]; exact Zs0 hfb hI he _ _ (pos_v hn))
   refine Zaa (fun hi2 => ?_) (fun hi2 => fin (fun c hc => by
    have hi2 : ¬ b < s.size := by simpa [slen] using hi2
    rw [Zbf hi2] at hc; cases hc) _)
   have hi2 : b < s.size := (by simpa [slen] using hi2); refine ⟨inb b hi2, Zaa (fun h48 => ?_) (fun h48 => fin (Zqg hi2 (.inl h48)) _)⟩; refine ⟨inb b hi2, Zaa (fun h57 => ?_) (fun h57 => fin (Zqg hi2 (.inr h57)) _)⟩; have hd := dig_of hi2 h48 h57; refine ⟨inb b hi2, notB rfl ?_⟩
   exact Zs1 ⟨by omega, by omega⟩ hs hi2 hd hfb hn h0 hI (by
     rintro ⟨_, q, _⟩
     cases q) (fun n => (n : Int)) _ (fun h => by rw [hpn]; exact h)
     (numK s 9223372036854775807 false a b) (fun x x1 e h => ⟨rfl, h, mlt (by omega)⟩) _ rfl
 ·have hi : ¬ a < s.size := (by simpa [slen] using hi); have hn := Zbf hi; have hpn : pNum s.data.toList a = .error a := (by unfold pNum; rw [hn]); refine ⟨fun x x1 => x = (a : Int) ∧ x1 = 0, fun _ _ => 0, ⟨rfl, rfl⟩, ?_⟩; rintro x x1 ⟨rfl, rfl⟩; refine Zaa (fun h => ?_) (fun h => ?_)
  ·exact absurd (show a < s.size by simpa [slen] using h) hi
  ·show ptX _ _ _; rw [hpn]; exact ⟨wcv .i64 0, a, true, by simp, rfl, rfl⟩

end Go.Proofs.YtknnooannohflaaDoor.Met

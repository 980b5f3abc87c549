/- Printed conditions of functions. -/
import Derived.Test.YtknnooannohflaaGreatDoorMezN
import Derived.Test.YtknnooannohflaaGreatDoorExX
import Derived.Test.YtknnooannohflaaGreatDoorDkA
import Derived.Test.YtknnooannohflaaGreatDoorRpP1
import Derived.Test.YtknnooannohflaaGreatDoorMzD
import Derived.Test.YtknnooannohflaaGreatDoorEvA
import Derived.Test.YtknnooannohflaaGreatDoorPxMm
namespace Go.Proofs.YtknnooannohflaaGreatDoor.Met
open Go Go.Px Go.Proofs 
set_option maxRecDepth 100000
set_option linter.unusedVariables false

theorem xhlp_nf (s : ByteArray) (Q : List SV → Prop) (h : ∃ Inv : ByteArray → Int → Prop, ∃ m : ByteArray → Int → Nat, (Inv (ByteArray.mk (Array.mk [])) 0) ∧ (∀ s1 : ByteArray, ∀ x : Int, (Inv s1 x) → ifB (ilt x (slen s)) ((((0 : Int) ≤ x) ∧ (x < (slen s))) ∧ (ifB (ieq (sbyte s x) 92) ((isBytes ([[U8 92], [U8 92]])) ∧ (((lsum (slen s1) (slen (bstr ([[U8 92], [U8 92]])))) ≤ 9223372036854775807) ∧ (((Option.some [] : Option (List (List SV))) = Option.some []) ∧ ((Inv (scat s1 (bstr ([[U8 92], [U8 92]]))) (wadd IntKind.i64 x 1)) ∧ (Nat.le (Nat.succ (m (scat s1 (bstr ([[U8 92], [U8 92]]))) (wadd IntKind.i64 x 1))) (m s1 x)))))) (ifB (ieq (sbyte s x) 10) ((isBytes ([[U8 92], [U8 110]])) ∧ (((lsum (slen s1) (slen (bstr ([[U8 92], [U8 110]])))) ≤ 9223372036854775807) ∧ (((Option.some [] : Option (List (List SV))) = Option.some []) ∧ ((Inv (scat s1 (bstr ([[U8 92], [U8 110]]))) (wadd IntKind.i64 x 1)) ∧ (Nat.le (Nat.succ (m (scat s1 (bstr ([[U8 92], [U8 110]]))) (wadd IntKind.i64 x 1))) (m s1 x)))))) ((((0 : Int) ≤ x) ∧ ((x ≤ (wadd IntKind.i64 x 1)) ∧ ((wadd IntKind.i64 x 1) ≤ (slen s)))) ∧ (((lsum (slen s1) (slen (ssub s x (wadd IntKind.i64 x 1)))) ≤ 9223372036854775807) ∧ (((Option.some [] : Option (List (List SV))) = Option.some []) ∧ ((Inv (scat s1 (ssub s x (wadd IntKind.i64 x 1))) (wadd IntKind.i64 x 1)) ∧ (Nat.le (Nat.succ (m (scat s1 (ssub s x (wadd IntKind.i64 x 1))) (wadd IntKind.i64 x 1))) (m s1 x))))))))) (Q [S s1]))) : Ct Tryz.prog 12 {} [S s] Q :=
  fn_of (f := 12) SgT SvT (fun _ => none) Tryz.f12 Tryz.func12 (by kernel_rfl) (by kernel_rfl) h

theorem xval_nf (s : ByteArray) (Q : List SV → Prop) (h : ∃ Inv : ByteArray → Int → Prop, ∃ m : ByteArray → Int → Nat, (Inv (ByteArray.mk (Array.mk [])) 0) ∧ (∀ s1 : ByteArray, ∀ x : Int, (Inv s1 x) → ifB (ilt x (slen s)) ((((0 : Int) ≤ x) ∧ (x < (slen s))) ∧ (ifB (ieq (sbyte s x) 34) ((isBytes ([[U8 92], [U8 34]])) ∧ (((lsum (slen s1) (slen (bstr ([[U8 92], [U8 34]])))) ≤ 9223372036854775807) ∧ (((Option.some [] : Option (List (List SV))) = Option.some []) ∧ ((Inv (scat s1 (bstr ([[U8 92], [U8 34]]))) (wadd IntKind.i64 x 1)) ∧ (Nat.le (Nat.succ (m (scat s1 (bstr ([[U8 92], [U8 34]]))) (wadd IntKind.i64 x 1))) (m s1 x)))))) ((((0 : Int) ≤ x) ∧ ((x ≤ (wadd IntKind.i64 x 1)) ∧ ((wadd IntKind.i64 x 1) ≤ (slen s)))) ∧ (Cl Tryz.prog 12 sP [S (ssub s x (wadd IntKind.i64 x 1))] (fun (rs : List SV) => ∃ s2 : ByteArray, (rs = [S s2]) ∧ (((lsum (slen s1) (slen s2)) ≤ 9223372036854775807) ∧ (((Option.some [] : Option (List (List SV))) = Option.some []) ∧ ((Inv (scat s1 s2) (wadd IntKind.i64 x 1)) ∧ (Nat.le (Nat.succ (m (scat s1 s2) (wadd IntKind.i64 x 1))) (m s1 x)))))))))) (Q [S s1]))) : Ct Tryz.prog 14 {} [S s] Q :=
  fn_of (f := 14) SgT SvT (fun _ => none) Tryz.f14 Tryz.func14 (by kernel_rfl) (by kernel_rfl) h

theorem xnum_nf (n : Int) (Q : List SV → Prop) (h : ∃ Inv : ByteArray → Int → Prop, ∃ m : ByteArray → Int → Nat, (Inv (ByteArray.mk (Array.mk [])) n) ∧ (∀ s : ByteArray, ∀ x : Int, (Inv s x) → (((10 : Int) = 0) → False) ∧ (ifB (ilt (wrem x 10) 0) ((isBytes ([[U8 (wadd IntKind.u8 48 (wcv IntKind.u8 (wneg IntKind.i64 (wrem x 10))))]])) ∧ (((lsum (slen (bstr ([[U8 (wadd IntKind.u8 48 (wcv IntKind.u8 (wneg IntKind.i64 (wrem x 10))))]]))) (slen s)) ≤ 9223372036854775807) ∧ ((((10 : Int) = 0) → False) ∧ (ifB (ieq (wquo IntKind.i64 x 10) 0) (ifB (ilt n 0) (((lsum (slen (ByteArray.mk (Array.mk [45]))) (slen (scat (bstr ([[U8 (wadd IntKind.u8 48 (wcv IntKind.u8 (wneg IntKind.i64 (wrem x 10))))]])) s))) ≤ 9223372036854775807) ∧ (Q ([S (scat (ByteArray.mk (Array.mk [45])) (scat (bstr ([[U8 (wadd IntKind.u8 48 (wcv IntKind.u8 (wneg IntKind.i64 (wrem x 10))))]])) s))]))) (Q ([S (scat (bstr ([[U8 (wadd IntKind.u8 48 (wcv IntKind.u8 (wneg IntKind.i64 (wrem x 10))))]])) s)]))) (((Option.some [] : Option (List (List SV))) = Option.some []) ∧ ((Inv (scat (bstr ([[U8 (wadd IntKind.u8 48 (wcv IntKind.u8 (wneg IntKind.i64 (wrem x 10))))]])) s) (wquo IntKind.i64 x 10)) ∧ (Nat.le (Nat.succ (m (scat (bstr ([[U8 (wadd IntKind.u8 48 (wcv IntKind.u8 (wneg IntKind.i64 (wrem x 10))))]])) s) (wquo IntKind.i64 x 10))) (m s x)))))))) ((isBytes ([[U8 (wadd IntKind.u8 48 (wcv IntKind.u8 (wrem x 10)))]])) ∧ (((lsum (slen (bstr ([[U8 (wadd IntKind.u8 48 (wcv IntKind.u8 (wrem x 10)))]]))) (slen s)) ≤ 9223372036854775807) ∧ ((((10 : Int) = 0) → False) ∧ (ifB (ieq (wquo IntKind.i64 x 10) 0) (ifB (ilt n 0) (((lsum (slen (ByteArray.mk (Array.mk [45]))) (slen (scat (bstr ([[U8 (wadd IntKind.u8 48 (wcv IntKind.u8 (wrem x 10)))]])) s))) ≤ 9223372036854775807) ∧ (Q ([S (scat (ByteArray.mk (Array.mk [45])) (scat (bstr ([[U8 (wadd IntKind.u8 48 (wcv IntKind.u8 (wrem x 10)))]])) s))]))) (Q ([S (scat (bstr ([[U8 (wadd IntKind.u8 48 (wcv IntKind.u8 (wrem x 10)))]])) s)]))) (((Option.some [] : Option (List (List SV))) = Option.some []) ∧ ((Inv (scat (bstr ([[U8 (wadd IntKind.u8 48 (wcv IntKind.u8 (wrem x 10)))]])) s) (wquo IntKind.i64 x 10)) ∧ (Nat.le (Nat.succ (m (scat (bstr ([[U8 (wadd IntKind.u8 48 (wcv IntKind.u8 (wrem x 10)))]])) s) (wquo IntKind.i64 x 10))) (m s x))))))))))) : Ct Tryz.prog 44 {} [I n] Q :=
  fn_of (f := 44) SgT SvT (fun _ => none) Tryz.f44 Tryz.func44 (by kernel_rfl) (by kernel_rfl) h

theorem xline_nf (n : ByteArray) (ls : List (List SV)) (v : Int) (Q : List SV → Prop) (h : ∃ Inv : ByteArray → Int → Prop, ∃ m : ByteArray → Int → Nat, (Inv n 0) ∧ (∀ s : ByteArray, ∀ x : Int, (Inv s x) → ifB (ilt x (rlen ls)) (ifB (ieq x 0) (((lsum (slen s) (slen (ByteArray.mk (Array.mk [123])))) ≤ 9223372036854775807) ∧ ((((0 : Int) ≤ x) ∧ (x < (rlen ls))) ∧ (∃ s1 : ByteArray, ∃ s2 : ByteArray, (rget ls x = [S s1, S s2]) ∧ (((lsum (slen (scat s (ByteArray.mk (Array.mk [123])))) (slen s1)) ≤ 9223372036854775807) ∧ (((lsum (slen (scat (scat s (ByteArray.mk (Array.mk [123]))) s1)) (slen (ByteArray.mk (Array.mk [61])))) ≤ 9223372036854775807) ∧ ((((0 : Int) ≤ x) ∧ (x < (rlen ls))) ∧ (∃ s3 : ByteArray, ∃ s4 : ByteArray, (rget ls x = [S s3, S s4]) ∧ (((isBytes ([[U8 34]])) ∧ (((lsum (slen (scat (scat (scat s (ByteArray.mk (Array.mk [123]))) s1) (ByteArray.mk (Array.mk [61])))) (slen (bstr ([[U8 34]])))) ≤ 9223372036854775807) ∧ ((Cl Tryz.prog 14 sP [S s4] (fun (rs : List SV) => ∃ s5 : ByteArray, (rs = [S s5]) ∧ (((lsum (slen (scat (scat (scat (scat s (ByteArray.mk (Array.mk [123]))) s1) (ByteArray.mk (Array.mk [61]))) (bstr ([[U8 34]])))) (slen s5)) ≤ 9223372036854775807) ∧ ((isBytes ([[U8 34]])) ∧ (((lsum (slen (scat (scat (scat (scat (scat s (ByteArray.mk (Array.mk [123]))) s1) (ByteArray.mk (Array.mk [61]))) (bstr ([[U8 34]]))) s5)) (slen (bstr ([[U8 34]])))) ≤ 9223372036854775807) ∧ ((Option.some ([[S n, SL 2 ls, I v]]) = Option.some ([[S n, SL 2 ls, I v]])) ∧ ((Inv (scat (scat (scat (scat (scat (scat s (ByteArray.mk (Array.mk [123]))) s1) (ByteArray.mk (Array.mk [61]))) (bstr ([[U8 34]]))) s5) (bstr ([[U8 34]]))) (wadd IntKind.i64 x 1)) ∧ (Nat.le (Nat.succ (m (scat (scat (scat (scat (scat (scat s (ByteArray.mk (Array.mk [123]))) s1) (ByteArray.mk (Array.mk [61]))) (bstr ([[U8 34]]))) s5) (bstr ([[U8 34]]))) (wadd IntKind.i64 x 1))) (m s x))))))))) ∧ ((isBytes ([[U8 34]])) ∧ (Cl Tryz.prog 14 sP [S s4] (fun (rs : List SV) => ∃ s5 : ByteArray, (rs = [S s5]) ∧ (((lsum (slen (scat (scat (scat (scat s (ByteArray.mk (Array.mk [123]))) s1) (ByteArray.mk (Array.mk [61]))) (bstr ([[U8 34]])))) (slen s5)) ≤ 9223372036854775807) ∧ (((lsum (slen (scat (scat (scat (scat (scat s (ByteArray.mk (Array.mk [123]))) s1) (ByteArray.mk (Array.mk [61]))) (bstr ([[U8 34]]))) s5)) (slen (bstr ([[U8 34]])))) ≤ 9223372036854775807) ∧ ((Option.some ([[S n, SL 2 ls, I v]]) = Option.some ([[S n, SL 2 ls, I v]])) ∧ ((Inv (scat (scat (scat (scat (scat (scat s (ByteArray.mk (Array.mk [123]))) s1) (ByteArray.mk (Array.mk [61]))) (bstr ([[U8 34]]))) s5) (bstr ([[U8 34]]))) (wadd IntKind.i64 x 1)) ∧ (Nat.le (Nat.succ (m (scat (scat (scat (scat (scat (scat s (ByteArray.mk (Array.mk [123]))) s1) (ByteArray.mk (Array.mk [61]))) (bstr ([[U8 34]]))) s5) (bstr ([[U8 34]]))) (wadd IntKind.i64 x 1))) (m s x)))))))))))) ∧ ((Cl Tryz.prog 14 sP [S s4] (fun (rs : List SV) => ∃ s5 : ByteArray, (rs = [S s5]) ∧ (((isBytes ([[U8 34]])) ∧ (((lsum (slen (scat (scat (scat s (ByteArray.mk (Array.mk [123]))) s1) (ByteArray.mk (Array.mk [61])))) (slen (bstr ([[U8 34]])))) ≤ 9223372036854775807) ∧ (((lsum (slen (scat (scat (scat (scat s (ByteArray.mk (Array.mk [123]))) s1) (ByteArray.mk (Array.mk [61]))) (bstr ([[U8 34]])))) (slen s5)) ≤ 9223372036854775807) ∧ ((isBytes ([[U8 34]])) ∧ (((lsum (slen (scat (scat (scat (scat (scat s (ByteArray.mk (Array.mk [123]))) s1) (ByteArray.mk (Array.mk [61]))) (bstr ([[U8 34]]))) s5)) (slen (bstr ([[U8 34]])))) ≤ 9223372036854775807) ∧ ((Option.some ([[S n, SL 2 ls, I v]]) = Option.some ([[S n, SL 2 ls, I v]])) ∧ ((Inv (scat (scat (scat (scat (scat (scat s (ByteArray.mk (Array.mk [123]))) s1) (ByteArray.mk (Array.mk [61]))) (bstr ([[U8 34]]))) s5) (bstr ([[U8 34]]))) (wadd IntKind.i64 x 1)) ∧ (Nat.le (Nat.succ (m (scat (scat (scat (scat (scat (scat s (ByteArray.mk (Array.mk [123]))) s1) (ByteArray.mk (Array.mk [61]))) (bstr ([[U8 34]]))) s5) (bstr ([[U8 34]]))) (wadd IntKind.i64 x 1))) (m s x))))))))) ∧ ((isBytes ([[U8 34]])) ∧ ((isBytes ([[U8 34]])) ∧ (((lsum (slen (scat (scat (scat s (ByteArray.mk (Array.mk [123]))) s1) (ByteArray.mk (Array.mk [61])))) (slen (bstr ([[U8 34]])))) ≤ 9223372036854775807) ∧ (((lsum (slen (scat (scat (scat (scat s (ByteArray.mk (Array.mk [123]))) s1) (ByteArray.mk (Array.mk [61]))) (bstr ([[U8 34]])))) (slen s5)) ≤ 9223372036854775807) ∧ (((lsum (slen (scat (scat (scat (scat (scat s (ByteArray.mk (Array.mk [123]))) s1) (ByteArray.mk (Array.mk [61]))) (bstr ([[U8 34]]))) s5)) (slen (bstr ([[U8 34]])))) ≤ 9223372036854775807) ∧ ((Option.some ([[S n, SL 2 ls, I v]]) = Option.some ([[S n, SL 2 ls, I v]])) ∧ ((Inv (scat (scat (scat (scat (scat (scat s (ByteArray.mk (Array.mk [123]))) s1) (ByteArray.mk (Array.mk [61]))) (bstr ([[U8 34]]))) s5) (bstr ([[U8 34]]))) (wadd IntKind.i64 x 1)) ∧ (Nat.le (Nat.succ (m (scat (scat (scat (scat (scat (scat s (ByteArray.mk (Array.mk [123]))) s1) (ByteArray.mk (Array.mk [61]))) (bstr ([[U8 34]]))) s5) (bstr ([[U8 34]]))) (wadd IntKind.i64 x 1))) (m s x)))))))))))) ∧ ((isBytes ([[U8 34]])) ∧ (((isBytes ([[U8 34]])) ∧ (((lsum (slen (scat (scat (scat s (ByteArray.mk (Array.mk [123]))) s1) (ByteArray.mk (Array.mk [61])))) (slen (bstr ([[U8 34]])))) ≤ 9223372036854775807) ∧ (Cl Tryz.prog 14 sP [S s4] (fun (rs : List SV) => ∃ s5 : ByteArray, (rs = [S s5]) ∧ (((lsum (slen (scat (scat (scat (scat s (ByteArray.mk (Array.mk [123]))) s1) (ByteArray.mk (Array.mk [61]))) (bstr ([[U8 34]])))) (slen s5)) ≤ 9223372036854775807) ∧ (((lsum (slen (scat (scat (scat (scat (scat s (ByteArray.mk (Array.mk [123]))) s1) (ByteArray.mk (Array.mk [61]))) (bstr ([[U8 34]]))) s5)) (slen (bstr ([[U8 34]])))) ≤ 9223372036854775807) ∧ ((Option.some ([[S n, SL 2 ls, I v]]) = Option.some ([[S n, SL 2 ls, I v]])) ∧ ((Inv (scat (scat (scat (scat (scat (scat s (ByteArray.mk (Array.mk [123]))) s1) (ByteArray.mk (Array.mk [61]))) (bstr ([[U8 34]]))) s5) (bstr ([[U8 34]]))) (wadd IntKind.i64 x 1)) ∧ (Nat.le (Nat.succ (m (scat (scat (scat (scat (scat (scat s (ByteArray.mk (Array.mk [123]))) s1) (ByteArray.mk (Array.mk [61]))) (bstr ([[U8 34]]))) s5) (bstr ([[U8 34]]))) (wadd IntKind.i64 x 1))) (m s x)))))))))) ∧ (Cl Tryz.prog 14 sP [S s4] (fun (rs : List SV) => ∃ s5 : ByteArray, (rs = [S s5]) ∧ ((isBytes ([[U8 34]])) ∧ (((lsum (slen (scat (scat (scat s (ByteArray.mk (Array.mk [123]))) s1) (ByteArray.mk (Array.mk [61])))) (slen (bstr ([[U8 34]])))) ≤ 9223372036854775807) ∧ (((lsum (slen (scat (scat (scat (scat s (ByteArray.mk (Array.mk [123]))) s1) (ByteArray.mk (Array.mk [61]))) (bstr ([[U8 34]])))) (slen s5)) ≤ 9223372036854775807) ∧ (((lsum (slen (scat (scat (scat (scat (scat s (ByteArray.mk (Array.mk [123]))) s1) (ByteArray.mk (Array.mk [61]))) (bstr ([[U8 34]]))) s5)) (slen (bstr ([[U8 34]])))) ≤ 9223372036854775807) ∧ ((Option.some ([[S n, SL 2 ls, I v]]) = Option.some ([[S n, SL 2 ls, I v]])) ∧ ((Inv (scat (scat (scat (scat (scat (scat s (ByteArray.mk (Array.mk [123]))) s1) (ByteArray.mk (Array.mk [61]))) (bstr ([[U8 34]]))) s5) (bstr ([[U8 34]]))) (wadd IntKind.i64 x 1)) ∧ (Nat.le (Nat.succ (m (scat (scat (scat (scat (scat (scat s (ByteArray.mk (Array.mk [123]))) s1) (ByteArray.mk (Array.mk [61]))) (bstr ([[U8 34]]))) s5) (bstr ([[U8 34]]))) (wadd IntKind.i64 x 1))) (m s x))))))))))))))))))))) (((lsum (slen s) (slen (ByteArray.mk (Array.mk [44])))) ≤ 9223372036854775807) ∧ ((((0 : Int) ≤ x) ∧ (x < (rlen ls))) ∧ (∃ s1 : ByteArray, ∃ s2 : ByteArray, (rget ls x = [S s1, S s2]) ∧ (((lsum (slen (scat s (ByteArray.mk (Array.mk [44])))) (slen s1)) ≤ 9223372036854775807) ∧ (((lsum (slen (scat (scat s (ByteArray.mk (Array.mk [44]))) s1)) (slen (ByteArray.mk (Array.mk [61])))) ≤ 9223372036854775807) ∧ ((((0 : Int) ≤ x) ∧ (x < (rlen ls))) ∧ (∃ s3 : ByteArray, ∃ s4 : ByteArray, (rget ls x = [S s3, S s4]) ∧ (((isBytes ([[U8 34]])) ∧ (((lsum (slen (scat (scat (scat s (ByteArray.mk (Array.mk [44]))) s1) (ByteArray.mk (Array.mk [61])))) (slen (bstr ([[U8 34]])))) ≤ 9223372036854775807) ∧ ((Cl Tryz.prog 14 sP [S s4] (fun (rs : List SV) => ∃ s5 : ByteArray, (rs = [S s5]) ∧ (((lsum (slen (scat (scat (scat (scat s (ByteArray.mk (Array.mk [44]))) s1) (ByteArray.mk (Array.mk [61]))) (bstr ([[U8 34]])))) (slen s5)) ≤ 9223372036854775807) ∧ ((isBytes ([[U8 34]])) ∧ (((lsum (slen (scat (scat (scat (scat (scat s (ByteArray.mk (Array.mk [44]))) s1) (ByteArray.mk (Array.mk [61]))) (bstr ([[U8 34]]))) s5)) (slen (bstr ([[U8 34]])))) ≤ 9223372036854775807) ∧ ((Option.some ([[S n, SL 2 ls, I v]]) = Option.some ([[S n, SL 2 ls, I v]])) ∧ ((Inv (scat (scat (scat (scat (scat (scat s (ByteArray.mk (Array.mk [44]))) s1) (ByteArray.mk (Array.mk [61]))) (bstr ([[U8 34]]))) s5) (bstr ([[U8 34]]))) (wadd IntKind.i64 x 1)) ∧ (Nat.le (Nat.succ (m (scat (scat (scat (scat (scat (scat s (ByteArray.mk (Array.mk [44]))) s1) (ByteArray.mk (Array.mk [61]))) (bstr ([[U8 34]]))) s5) (bstr ([[U8 34]]))) (wadd IntKind.i64 x 1))) (m s x))))))))) ∧ ((isBytes ([[U8 34]])) ∧ (Cl Tryz.prog 14 sP [S s4] (fun (rs : List SV) => ∃ s5 : ByteArray, (rs = [S s5]) ∧ (((lsum (slen (scat (scat (scat (scat s (ByteArray.mk (Array.mk [44]))) s1) (ByteArray.mk (Array.mk [61]))) (bstr ([[U8 34]])))) (slen s5)) ≤ 9223372036854775807) ∧ (((lsum (slen (scat (scat (scat (scat (scat s (ByteArray.mk (Array.mk [44]))) s1) (ByteArray.mk (Array.mk [61]))) (bstr ([[U8 34]]))) s5)) (slen (bstr ([[U8 34]])))) ≤ 9223372036854775807) ∧ ((Option.some ([[S n, SL 2 ls, I v]]) = Option.some ([[S n, SL 2 ls, I v]])) ∧ ((Inv (scat (scat (scat (scat (scat (scat s (ByteArray.mk (Array.mk [44]))) s1) (ByteArray.mk (Array.mk [61]))) (bstr ([[U8 34]]))) s5) (bstr ([[U8 34]]))) (wadd IntKind.i64 x 1)) ∧ (Nat.le (Nat.succ (m (scat (scat (scat (scat (scat (scat s (ByteArray.mk (Array.mk [44]))) s1) (ByteArray.mk (Array.mk [61]))) (bstr ([[U8 34]]))) s5) (bstr ([[U8 34]]))) (wadd IntKind.i64 x 1))) (m s x)))))))))))) ∧ ((Cl Tryz.prog 14 sP [S s4] (fun (rs : List SV) => ∃ s5 : ByteArray, (rs = [S s5]) ∧ (((isBytes ([[U8 34]])) ∧ (((lsum (slen (scat (scat (scat s (ByteArray.mk (Array.mk [44]))) s1) (ByteArray.mk (Array.mk [61])))) (slen (bstr ([[U8 34]])))) ≤ 9223372036854775807) ∧ (((lsum (slen (scat (scat (scat (scat s (ByteArray.mk (Array.mk [44]))) s1) (ByteArray.mk (Array.mk [61]))) (bstr ([[U8 34]])))) (slen s5)) ≤ 9223372036854775807) ∧ ((isBytes ([[U8 34]])) ∧ (((lsum (slen (scat (scat (scat (scat (scat s (ByteArray.mk (Array.mk [44]))) s1) (ByteArray.mk (Array.mk [61]))) (bstr ([[U8 34]]))) s5)) (slen (bstr ([[U8 34]])))) ≤ 9223372036854775807) ∧ ((Option.some ([[S n, SL 2 ls, I v]]) = Option.some ([[S n, SL 2 ls, I v]])) ∧ ((Inv (scat (scat (scat (scat (scat (scat s (ByteArray.mk (Array.mk [44]))) s1) (ByteArray.mk (Array.mk [61]))) (bstr ([[U8 34]]))) s5) (bstr ([[U8 34]]))) (wadd IntKind.i64 x 1)) ∧ (Nat.le (Nat.succ (m (scat (scat (scat (scat (scat (scat s (ByteArray.mk (Array.mk [44]))) s1) (ByteArray.mk (Array.mk [61]))) (bstr ([[U8 34]]))) s5) (bstr ([[U8 34]]))) (wadd IntKind.i64 x 1))) (m s x))))))))) ∧ ((isBytes ([[U8 34]])) ∧ ((isBytes ([[U8 34]])) ∧ (((lsum (slen (scat (scat (scat s (ByteArray.mk (Array.mk [44]))) s1) (ByteArray.mk (Array.mk [61])))) (slen (bstr ([[U8 34]])))) ≤ 9223372036854775807) ∧ (((lsum (slen (scat (scat (scat (scat s (ByteArray.mk (Array.mk [44]))) s1) (ByteArray.mk (Array.mk [61]))) (bstr ([[U8 34]])))) (slen s5)) ≤ 9223372036854775807) ∧ (((lsum (slen (scat (scat (scat (scat (scat s (ByteArray.mk (Array.mk [44]))) s1) (ByteArray.mk (Array.mk [61]))) (bstr ([[U8 34]]))) s5)) (slen (bstr ([[U8 34]])))) ≤ 9223372036854775807) ∧ ((Option.some ([[S n, SL 2 ls, I v]]) = Option.some ([[S n, SL 2 ls, I v]])) ∧ ((Inv (scat (scat (scat (scat (scat (scat s (ByteArray.mk (Array.mk [44]))) s1) (ByteArray.mk (Array.mk [61]))) (bstr ([[U8 34]]))) s5) (bstr ([[U8 34]]))) (wadd IntKind.i64 x 1)) ∧ (Nat.le (Nat.succ (m (scat (scat (scat (scat (scat (scat s (ByteArray.mk (Array.mk [44]))) s1) (ByteArray.mk (Array.mk [61]))) (bstr ([[U8 34]]))) s5) (bstr ([[U8 34]]))) (wadd IntKind.i64 x 1))) (m s x)))))))))))) ∧ ((isBytes ([[U8 34]])) ∧ (((isBytes ([[U8 34]])) ∧ (((lsum (slen (scat (scat (scat s (ByteArray.mk (Array.mk [44]))) s1) (ByteArray.mk (Array.mk [61])))) (slen (bstr ([[U8 34]])))) ≤ 9223372036854775807) ∧ (Cl Tryz.prog 14 sP [S s4] (fun (rs : List SV) => ∃ s5 : ByteArray, (rs = [S s5]) ∧ (((lsum (slen (scat (scat (scat (scat s (ByteArray.mk (Array.mk [44]))) s1) (ByteArray.mk (Array.mk [61]))) (bstr ([[U8 34]])))) (slen s5)) ≤ 9223372036854775807) ∧ (((lsum (slen (scat (scat (scat (scat (scat s (ByteArray.mk (Array.mk [44]))) s1) (ByteArray.mk (Array.mk [61]))) (bstr ([[U8 34]]))) s5)) (slen (bstr ([[U8 34]])))) ≤ 9223372036854775807) ∧ ((Option.some ([[S n, SL 2 ls, I v]]) = Option.some ([[S n, SL 2 ls, I v]])) ∧ ((Inv (scat (scat (scat (scat (scat (scat s (ByteArray.mk (Array.mk [44]))) s1) (ByteArray.mk (Array.mk [61]))) (bstr ([[U8 34]]))) s5) (bstr ([[U8 34]]))) (wadd IntKind.i64 x 1)) ∧ (Nat.le (Nat.succ (m (scat (scat (scat (scat (scat (scat s (ByteArray.mk (Array.mk [44]))) s1) (ByteArray.mk (Array.mk [61]))) (bstr ([[U8 34]]))) s5) (bstr ([[U8 34]]))) (wadd IntKind.i64 x 1))) (m s x)))))))))) ∧ (Cl Tryz.prog 14 sP [S s4] (fun (rs : List SV) => ∃ s5 : ByteArray, (rs = [S s5]) ∧ ((isBytes ([[U8 34]])) ∧ (((lsum (slen (scat (scat (scat s (ByteArray.mk (Array.mk [44]))) s1) (ByteArray.mk (Array.mk [61])))) (slen (bstr ([[U8 34]])))) ≤ 9223372036854775807) ∧ (((lsum (slen (scat (scat (scat (scat s (ByteArray.mk (Array.mk [44]))) s1) (ByteArray.mk (Array.mk [61]))) (bstr ([[U8 34]])))) (slen s5)) ≤ 9223372036854775807) ∧ (((lsum (slen (scat (scat (scat (scat (scat s (ByteArray.mk (Array.mk [44]))) s1) (ByteArray.mk (Array.mk [61]))) (bstr ([[U8 34]]))) s5)) (slen (bstr ([[U8 34]])))) ≤ 9223372036854775807) ∧ ((Option.some ([[S n, SL 2 ls, I v]]) = Option.some ([[S n, SL 2 ls, I v]])) ∧ ((Inv (scat (scat (scat (scat (scat (scat s (ByteArray.mk (Array.mk [44]))) s1) (ByteArray.mk (Array.mk [61]))) (bstr ([[U8 34]]))) s5) (bstr ([[U8 34]]))) (wadd IntKind.i64 x 1)) ∧ (Nat.le (Nat.succ (m (scat (scat (scat (scat (scat (scat s (ByteArray.mk (Array.mk [44]))) s1) (ByteArray.mk (Array.mk [61]))) (bstr ([[U8 34]]))) s5) (bstr ([[U8 34]]))) (wadd IntKind.i64 x 1))) (m s x)))))))))))))))))))))) (ifB (igt (rlen ls) 0) (((lsum (slen s) (slen (ByteArray.mk (Array.mk [125])))) ≤ 9223372036854775807) ∧ (((lsum (slen (scat s (ByteArray.mk (Array.mk [125])))) (slen (ByteArray.mk (Array.mk [32])))) ≤ 9223372036854775807) ∧ (Cl Tryz.prog 44 sP [I v] (fun (rs : List SV) => ∃ s1 : ByteArray, (rs = [S s1]) ∧ (((lsum (slen (scat (scat s (ByteArray.mk (Array.mk [125]))) (ByteArray.mk (Array.mk [32])))) (slen s1)) ≤ 9223372036854775807) ∧ (Q ([S (scat (scat (scat s (ByteArray.mk (Array.mk [125]))) (ByteArray.mk (Array.mk [32]))) s1)]))))))) (((lsum (slen s) (slen (ByteArray.mk (Array.mk [32])))) ≤ 9223372036854775807) ∧ (Cl Tryz.prog 44 sP [I v] (fun (rs : List SV) => ∃ s1 : ByteArray, (rs = [S s1]) ∧ (((lsum (slen (scat s (ByteArray.mk (Array.mk [32])))) (slen s1)) ≤ 9223372036854775807) ∧ (Q ([S (scat (scat s (ByteArray.mk (Array.mk [32]))) s1)]))))))))) : Ct Tryz.prog 16 {} [sa3 n ls v] Q :=
  fn_of (f := 16) SgT SvT (fun _ => none) Tryz.f16 Tryz.func16 (by kernel_rfl) (by kernel_rfl) h

theorem xwrite_nf (l : List (List SV)) (Q : List SV → Prop) (h : ∃ Inv : (List (List SV)) → Int → Prop, ∃ m : (List (List SV)) → Int → Nat, (Inv [] 0) ∧ (∀ l1 : List (List SV), ∀ x : Int, (Inv l1 x) → ifB (ilt x (rlen l)) ((((0 : Int) ≤ x) ∧ (x < (rlen l))) ∧ (∃ s : ByteArray, ∃ s1 : ByteArray, ∃ x1 : Int, ∃ l2 : List (List SV), (rget l x = [S s, S s1, I x1, SL 3 l2]) ∧ ((((0 : Int) ≤ x1) ∧ (x1 < (rlen ([[S (ByteArray.mk (Array.mk []))], [S (ByteArray.mk (Array.mk [99, 111, 117, 110, 116, 101, 114]))], [S (ByteArray.mk (Array.mk [103, 97, 117, 103, 101]))], [S (ByteArray.mk (Array.mk [104, 105, 115, 116, 111, 103, 114, 97, 109]))]])))) ∧ ((((0 : Int) ≤ x1) ∧ (x1 < (rlen ([[S (ByteArray.mk (Array.mk []))], [S (ByteArray.mk (Array.mk [99, 111, 117, 110, 116, 101, 114]))], [S (ByteArray.mk (Array.mk [103, 97, 117, 103, 101]))], [S (ByteArray.mk (Array.mk [104, 105, 115, 116, 111, 103, 114, 97, 109]))]])))) ∧ (∃ s2 : ByteArray, (rget ([[S (ByteArray.mk (Array.mk []))], [S (ByteArray.mk (Array.mk [99, 111, 117, 110, 116, 101, 114]))], [S (ByteArray.mk (Array.mk [103, 97, 117, 103, 101]))], [S (ByteArray.mk (Array.mk [104, 105, 115, 116, 111, 103, 114, 97, 109]))]]) x1 = [S s2]) ∧ ((((0 : Int) ≤ x) ∧ (x < (rlen l))) ∧ (∃ s3 : ByteArray, ∃ s4 : ByteArray, ∃ x2 : Int, ∃ l3 : List (List SV), (rget l x = [S s3, S s4, I x2, SL 3 l3]) ∧ (((lsum (slen (ByteArray.mk (Array.mk [35, 32, 72, 69, 76, 80, 32]))) (slen s3)) ≤ 9223372036854775807) ∧ (((lsum (slen (scat (ByteArray.mk (Array.mk [35, 32, 72, 69, 76, 80, 32])) s3)) (slen (ByteArray.mk (Array.mk [32])))) ≤ 9223372036854775807) ∧ ((((0 : Int) ≤ x) ∧ (x < (rlen l))) ∧ (∃ s5 : ByteArray, ∃ s6 : ByteArray, ∃ x3 : Int, ∃ l4 : List (List SV), (rget l x = [S s5, S s6, I x3, SL 3 l4]) ∧ (Cl Tryz.prog 12 sP [S s6] (fun (rs : List SV) => ∃ s7 : ByteArray, (rs = [S s7]) ∧ (((lsum (slen (scat (scat (ByteArray.mk (Array.mk [35, 32, 72, 69, 76, 80, 32])) s3) (ByteArray.mk (Array.mk [32])))) (slen s7)) ≤ 9223372036854775807) ∧ (((lsum (slen (scat (scat (scat (ByteArray.mk (Array.mk [35, 32, 72, 69, 76, 80, 32])) s3) (ByteArray.mk (Array.mk [32]))) s7)) (slen (ByteArray.mk (Array.mk [10])))) ≤ 9223372036854775807) ∧ (((lsum (rlen l1) (rlen (sbytes (scat (scat (scat (scat (ByteArray.mk (Array.mk [35, 32, 72, 69, 76, 80, 32])) s3) (ByteArray.mk (Array.mk [32]))) s7) (ByteArray.mk (Array.mk [10])))))) ≤ ((2147483648 : Int))) ∧ ((((0 : Int) ≤ x) ∧ (x < (rlen l))) ∧ (∃ s8 : ByteArray, ∃ s9 : ByteArray, ∃ x4 : Int, ∃ l5 : List (List SV), (rget l x = [S s8, S s9, I x4, SL 3 l5]) ∧ (((lsum (slen (ByteArray.mk (Array.mk [35, 32, 84, 89, 80, 69, 32]))) (slen s8)) ≤ 9223372036854775807) ∧ (((lsum (slen (scat (ByteArray.mk (Array.mk [35, 32, 84, 89, 80, 69, 32])) s8)) (slen (ByteArray.mk (Array.mk [32])))) ≤ 9223372036854775807) ∧ (((lsum (slen (scat (scat (ByteArray.mk (Array.mk [35, 32, 84, 89, 80, 69, 32])) s8) (ByteArray.mk (Array.mk [32])))) (slen s2)) ≤ 9223372036854775807) ∧ (((lsum (slen (scat (scat (scat (ByteArray.mk (Array.mk [35, 32, 84, 89, 80, 69, 32])) s8) (ByteArray.mk (Array.mk [32]))) s2)) (slen (ByteArray.mk (Array.mk [10])))) ≤ 9223372036854775807) ∧ (((lsum (rlen (rapp l1 (sbytes (scat (scat (scat (scat (ByteArray.mk (Array.mk [35, 32, 72, 69, 76, 80, 32])) s3) (ByteArray.mk (Array.mk [32]))) s7) (ByteArray.mk (Array.mk [10])))))) (rlen (sbytes (scat (scat (scat (scat (ByteArray.mk (Array.mk [35, 32, 84, 89, 80, 69, 32])) s8) (ByteArray.mk (Array.mk [32]))) s2) (ByteArray.mk (Array.mk [10])))))) ≤ ((2147483648 : Int))) ∧ (∃ Inv1 : (List (List SV)) → Int → Prop, ∃ m1 : (List (List SV)) → Int → Nat, (Inv1 (rapp (rapp l1 (sbytes (scat (scat (scat (scat (ByteArray.mk (Array.mk [35, 32, 72, 69, 76, 80, 32])) s3) (ByteArray.mk (Array.mk [32]))) s7) (ByteArray.mk (Array.mk [10]))))) (sbytes (scat (scat (scat (scat (ByteArray.mk (Array.mk [35, 32, 84, 89, 80, 69, 32])) s8) (ByteArray.mk (Array.mk [32]))) s2) (ByteArray.mk (Array.mk [10]))))) 0) ∧ (∀ l6 : List (List SV), ∀ x5 : Int, (Inv1 l6 x5) → (((0 : Int) ≤ x) ∧ (x < (rlen l))) ∧ (∃ s10 : ByteArray, ∃ s11 : ByteArray, ∃ x6 : Int, ∃ l7 : List (List SV), (rget l x = [S s10, S s11, I x6, SL 3 l7]) ∧ (ifB (ilt x5 (rlen l7)) ((((0 : Int) ≤ x) ∧ (x < (rlen l))) ∧ (∃ s12 : ByteArray, ∃ s13 : ByteArray, ∃ x7 : Int, ∃ l8 : List (List SV), (rget l x = [S s12, S s13, I x7, SL 3 l8]) ∧ ((((0 : Int) ≤ x5) ∧ (x5 < (rlen l8))) ∧ (∃ s14 : ByteArray, ∃ l9 : List (List SV), ∃ x8 : Int, (rget l8 x5 = [S s14, SL 2 l9, I x8]) ∧ (Cl Tryz.prog 16 sP ([SV.agg [S s14, SL 2 l9, I x8]]) (fun (rs1 : List SV) => ∃ s15 : ByteArray, (rs1 = [S s15]) ∧ (((lsum (slen s15) (slen (ByteArray.mk (Array.mk [10])))) ≤ 9223372036854775807) ∧ (((lsum (rlen l6) (rlen (sbytes (scat s15 (ByteArray.mk (Array.mk [10])))))) ≤ ((2147483648 : Int))) ∧ ((Option.some ([[SV.gd 0 true (SL 1 ([[S (ByteArray.mk (Array.mk []))], [S (ByteArray.mk (Array.mk [99, 111, 117, 110, 116, 101, 114]))], [S (ByteArray.mk (Array.mk [103, 97, 117, 103, 101]))], [S (ByteArray.mk (Array.mk [104, 105, 115, 116, 111, 103, 114, 97, 109]))]]))]]) = Option.some ([[SV.gd 0 true (SL 1 ([[S (ByteArray.mk (Array.mk []))], [S (ByteArray.mk (Array.mk [99, 111, 117, 110, 116, 101, 114]))], [S (ByteArray.mk (Array.mk [103, 97, 117, 103, 101]))], [S (ByteArray.mk (Array.mk [104, 105, 115, 116, 111, 103, 114, 97, 109]))]]))]])) ∧ ((Inv1 (rapp l6 (sbytes (scat s15 (ByteArray.mk (Array.mk [10]))))) (wadd IntKind.i64 x5 1)) ∧ (Nat.le (Nat.succ (m1 (rapp l6 (sbytes (scat s15 (ByteArray.mk (Array.mk [10]))))) (wadd IntKind.i64 x5 1))) (m1 l6 x5)))))))))))) (((Option.some [] : Option (List (List SV))) = Option.some []) ∧ ((Inv l6 (wadd IntKind.i64 x 1)) ∧ (Nat.le (Nat.succ (m l6 (wadd IntKind.i64 x 1))) (m l1 x))))))))))))))))))))))))))))))) ((isBytes l1) ∧ (Q [S (bstr l1)])))) : Ct Tryz.prog 19 {} [SL 4 l] Q :=
  fn_of (f := 19) SgT SvT (fun _ => none) Tryz.f19 Tryz.func19 (by kernel_rfl) (by kernel_rfl) h

theorem xawake_nf  (Q : List SV → Prop) (h : Cl Tryz.prog 17 sP ([SV.slice 4 ([[S (ByteArray.mk (Array.mk [120])), S (ByteArray.mk (Array.mk [97, 92, 98])), I 2, SV.slice 3 ([[S (ByteArray.mk (Array.mk [120])), SL 2 ([[S (ByteArray.mk (Array.mk [98])), S (ByteArray.mk (Array.mk [113, 34, 10]))]]), I ((-5 : Int))]]) 0]]) 0]) (fun (rs : List SV) => ∃ s : ByteArray, ∃ x : Int, (rs = [S s, I x]) ∧ (Q ([B (bpick (ieq x 0) (seq s (ByteArray.mk (Array.mk [35, 32, 72, 69, 76, 80, 32, 120, 32, 97, 92, 92, 98, 10, 35, 32, 84, 89, 80, 69, 32, 120, 32, 103, 97, 117, 103, 101, 10, 120, 123, 98, 61, 34, 113, 92, 34, 92, 110, 34, 125, 32, 45, 53, 10]))) false)])))) : Ct Tryz.prog 9 {} ([] : List SV) Q :=
  fn_of (f := 9) SgT SvT (fun _ => none) Tryz.f9 Tryz.func9 (by kernel_rfl) (by kernel_rfl) h

theorem xlaw3_nf (l : List (List SV)) (s : ByteArray) (Q : List SV → Prop) (h : Cl Tryz.prog 9 sP [] (fun (rs : List SV) => ∃ b : Bool, (rs = [B b]) ∧ (ifB (bnot b) (Q [B false]) (Cl Tryz.prog 10 sP [SL 4 l] (fun (rs1 : List SV) => ∃ b1 : Bool, (rs1 = [B b1]) ∧ (ifB (bpick (bnot b1) true (igt (slen s) 3000)) (Q [B true]) (Cl Tryz.prog 11 sP [S s] (fun (rs2 : List SV) => ∃ s1 : ByteArray, (rs2 = [S s1]) ∧ (Cl Tryz.prog 12 sP [S s] (fun (rs3 : List SV) => ∃ s2 : ByteArray, (rs3 = [S s2]) ∧ (ifB (sne s1 s2) (Q [B false]) (Cl Tryz.prog 13 sP [S s] (fun (rs4 : List SV) => ∃ s3 : ByteArray, (rs4 = [S s3]) ∧ (Cl Tryz.prog 14 sP [S s] (fun (rs5 : List SV) => ∃ s4 : ByteArray, (rs5 = [S s4]) ∧ (ifB (sne s3 s4) (Q [B false]) (∃ Inv : Bool → Int → Prop, ∃ m : Bool → Int → Nat, (Inv false 0) ∧ (∀ b2 : Bool, ∀ x : Int, (Inv b2 x) → ifB (ilt x (rlen l)) (∃ Inv1 : Bool → Int → Prop, ∃ m1 : Bool → Int → Nat, (Inv1 b2 0) ∧ (∀ b3 : Bool, ∀ x1 : Int, (Inv1 b3 x1) → (((0 : Int) ≤ x) ∧ (x < (rlen l))) ∧ (∃ s5 : ByteArray, ∃ s6 : ByteArray, ∃ x2 : Int, ∃ l1 : List (List SV), (rget l x = [S s5, S s6, I x2, SL 3 l1]) ∧ (ifB (ilt x1 (rlen l1)) ((((0 : Int) ≤ x) ∧ (x < (rlen l))) ∧ (∃ s7 : ByteArray, ∃ s8 : ByteArray, ∃ x3 : Int, ∃ l2 : List (List SV), (rget l x = [S s7, S s8, I x3, SL 3 l2]) ∧ ((((0 : Int) ≤ x1) ∧ (x1 < (rlen l2))) ∧ (∃ s9 : ByteArray, ∃ l3 : List (List SV), ∃ x4 : Int, (rget l2 x1 = [S s9, SL 2 l3, I x4]) ∧ ((((0 : Int) ≤ x) ∧ (x < (rlen l))) ∧ (∃ s10 : ByteArray, ∃ s11 : ByteArray, ∃ x5 : Int, ∃ l4 : List (List SV), (rget l x = [S s10, S s11, I x5, SL 3 l4]) ∧ ((((0 : Int) ≤ x1) ∧ (x1 < (rlen l4))) ∧ (∃ s12 : ByteArray, ∃ l5 : List (List SV), ∃ x6 : Int, (rget l4 x1 = [S s12, SL 2 l5, I x6]) ∧ (Cl Tryz.prog 15 sP ([SV.agg [S s9, SL 2 l3, I x4]]) (fun (rs6 : List SV) => ∃ s13 : ByteArray, (rs6 = [S s13]) ∧ (Cl Tryz.prog 16 sP ([SV.agg [S s12, SL 2 l5, I x6]]) (fun (rs7 : List SV) => ∃ s14 : ByteArray, (rs7 = [S s14]) ∧ (ifB (sne s13 s14) (Q [B false]) (((Option.some [] : Option (List (List SV))) = Option.some []) ∧ ((Inv1 b3 (wadd IntKind.i64 x1 1)) ∧ (Nat.le (Nat.succ (m1 b3 (wadd IntKind.i64 x1 1))) (m1 b3 x1))))))))))))))))) (((Option.some [] : Option (List (List SV))) = Option.some []) ∧ ((Inv b3 (wadd IntKind.i64 x 1)) ∧ (Nat.le (Nat.succ (m b3 (wadd IntKind.i64 x 1))) (m b2 x)))))))) (Cl Tryz.prog 17 sP [SL 4 l] (fun (rs6 : List SV) => ∃ s5 : ByteArray, ∃ x1 : Int, (rs6 = [S s5, I x1]) ∧ (Cl Tryz.prog 18 sP [SL 4 l] (fun (rs7 : List SV) => ∃ b3 : Bool, (rs7 = [B b3]) ∧ (ifB (bnot b3) (Q ([B (bpick (ieq x1 1) (seq s5 (ByteArray.mk (Array.mk []))) false)])) (ifB (ieq x1 0) (Cl Tryz.prog 19 sP [SL 4 l] (fun (rs8 : List SV) => ∃ s6 : ByteArray, (rs8 = [S s6]) ∧ (Q [B (seq s5 s6)]))) (Q [B false]))))))))))))))))))))))))) : Ct Tryz.prog 3 {} [SL 4 l, S s] Q :=
  fn_of (f := 3) SgT SvT (fun _ => none) Tryz.f3 Tryz.func3 (by kernel_rfl) (by kernel_rfl) h

end Go.Proofs.YtknnooannohflaaGreatDoor.Met

namespace Go.Proofs.YtknnooannohflaaGreatDoor.Exp
open Go Go.Px Go.Proofs Go.Proofs.YtknnooannohflaaGreatDoor.Trm Go.Proofs.YtknnooannohflaaGreatDoor.Met
set_option maxRecDepth 100000
set_option linter.unusedVariables false

theorem scat_l (a b : ByteArray) : (scat a b).data.toList = a.data.toList ++ b.data.toList := by
  unfold scat
  rw [ByteArray.data_append, Array.toList_append]
theorem scat_bA (a b : Tx) : scat (bA a) (bA b) = bA (a ++ b) := by
  apply bA_ext.2
  rw [scat_l]
theorem slen_bA (l : Tx) : slen (bA l) = l.length := by
  show (((bA l).size : Nat) : Int) = _
  simp [ByteArray.size]
theorem slen_l (s : ByteArray) : slen s = (s.data.toList.length : Int) := by rw [tl_size]; rfl
theorem slen_scat (a b : ByteArray) : slen (scat a b) = slen a + slen b := by
  rw [slen_l, slen_l, slen_l, scat_l, List.length_append]; omega
theorem lsum_e (a b : Int) : lsum a b = a + b := rfl
theorem bstr_1 (c : UInt8) : bstr [[U8 (c.toNat : Int)]] = bA [c] := bstr_u [c]
theorem isBytes_1 (c : UInt8) : isBytes [[U8 (c.toNat : Int)]] := isBytes_u [c]
theorem bstr_2 (c d : UInt8) : bstr [[U8 (c.toNat : Int)], [U8 (d.toNat : Int)]] = bA [c, d] := bstr_u [c, d]
theorem isBytes_2 (c d : UInt8) : isBytes [[U8 (c.toNat : Int)], [U8 (d.toNat : Int)]] := isBytes_u [c, d]
theorem ssub_1 (s : ByteArray) (i : Nat) (h : i < s.size) : ssub s (i : Int) ((i + 1 : Nat) : Int) = bA [s.data.toList[i]'(by rw [← ba_size]; exact h)] := by
  apply bA_ext.2
  unfold ssub
  rw [ByteArray.data_extract, Array.toList_extract]
  have : i < s.data.toList.length := by rw [← ba_size]; exact h
  simp only [Int.toNat_natCast, List.extract_eq_take_drop, Nat.add_sub_cancel_left]
  rw [List.drop_eq_getElem_cons this]
  rfl

theorem ieq_c (c d : UInt8) (h : ieq (c.toNat : Int) (d.toNat : Int) = true) : c = d := UInt8.toNat_inj.1 (by have : (c.toNat : Int) = (d.toNat : Int) := by simpa using h
                                                                                                              omega)
theorem esc_take {f : UInt8 → Tx} (l : Tx) (i : Nat) (h : i < l.length) : (l.take (i + 1)).flatMap f = (l.take i).flatMap f ++ f l[i] := by
  rw [List.take_add_one, List.getElem?_eq_getElem h, List.flatMap_append]; simp

theorem rhlp_fn (s : ByteArray) (hs : s.size ≤ 1000000000) : Ct Tryz.prog 12 {} [S s] (fun r => r = [S (bA (hlpT s.data.toList))]) := by
  have b92 : isBytes [[U8 92], [U8 92]] := isBytes_2 92 92
  have b110 : isBytes [[U8 92], [U8 110]] := isBytes_2 92 110
  have e92 : bstr [[U8 92], [U8 92]] = bA [92, 92] := bstr_2 92 92
  have e110 : bstr [[U8 92], [U8 110]] = bA [92, 110] := bstr_2 92 110
  have hsz : s.data.toList.length = s.size := tl_size s
  refine xhlp_nf _ _ ⟨fun s1 x => ∃ i : Nat, x = i ∧ i ≤ s.size ∧ s1 = bA (hlpT (s.data.toList.take i)), fun _ x => s.size - x.toNat, ⟨0, rfl, Nat.zero_le _, rfl⟩, ?_⟩
  rintro _ _ ⟨i, rfl, hi, rfl⟩
  rw [slen_l, hsz, e92, e110]
  refine ifB_intro (fun hlt => ?_) (fun hlt => ?_)
  · have hlt : i < s.size := by simpa using hlt
    have hlt' : i < s.data.toList.length := by omega
    have hln := hlpT_len (s.data.toList.take i)
    rw [List.length_take] at hln
    have hnx : hlpT (s.data.toList.take (i + 1)) = hlpT (s.data.toList.take i) ++ eH s.data.toList[i] := esc_take _ i hlt'
    rw [sbyte_u s i hlt, waddN i (by omega), ssub_1 s i hlt]
    generalize s.data.toList[i] = c at *
    have ms : Nat.le (Nat.succ (s.size - ((i + 1 : Nat) : Int).toNat)) (s.size - ((i : Nat) : Int).toNat) := mlt (by omega)
    refine ⟨⟨by omega, by omega⟩, ifB_intro (fun hc => ?_) (fun hc => ifB_intro (fun hd => ?_) (fun hd => ?_))⟩
    · have hc : c = 92 := ieq_c c 92 hc
      subst hc
      refine ⟨b92, ?_, rfl, ⟨i + 1, rfl, by omega, ?_⟩, ms⟩
      · rw [lsum_e, slen_bA, slen_bA]; simp; omega
      · rw [hnx, scat_bA]; rfl
    · have hd : c = 10 := ieq_c c 10 hd
      subst hd
      refine ⟨b110, ?_, rfl, ⟨i + 1, rfl, by omega, ?_⟩, ms⟩
      · rw [lsum_e, slen_bA, slen_bA]; simp; omega
      · rw [hnx, scat_bA]; rfl
    · have hc : ¬ c = 92 := fun e => by subst e; revert hc; simp
      have hd : ¬ c = 10 := fun e => by subst e; revert hd; simp
      have he : eH c = [c] := by unfold eH; rw [if_neg hd, if_neg hc]
      refine ⟨⟨by omega, by omega, by omega⟩, ?_, rfl, ⟨i + 1, rfl, by omega, ?_⟩, ms⟩
      · rw [lsum_e, slen_bA, slen_bA]; simp; omega
      · rw [hnx, scat_bA, he]
  · have hlt : ¬ i < s.size := by simpa using hlt
    have : i = s.data.toList.length := by omega
    rw [this, List.take_length]

theorem hlp_one (c : UInt8) (h : c ≠ 34) : hlpT [c] = eV c := by
  simp only [hlpT, List.flatMap_cons, List.flatMap_nil, List.append_nil]
  unfold eH eV
  rw [if_neg h]
theorem rval_fn (s : ByteArray) (hs : s.size ≤ 1000000000) : Ct Tryz.prog 14 {} [S s] (fun r => r = [S (bA (valT s.data.toList))]) := by
  have b92 : isBytes [[U8 92], [U8 34]] := isBytes_2 92 34
  have e92 : bstr [[U8 92], [U8 34]] = bA [92, 34] := bstr_2 92 34
  have hsz : s.data.toList.length = s.size := tl_size s
  refine xval_nf _ _ ⟨fun s1 x => ∃ i : Nat, x = i ∧ i ≤ s.size ∧ s1 = bA (valT (s.data.toList.take i)), fun _ x => s.size - x.toNat, ⟨0, rfl, Nat.zero_le _, rfl⟩, ?_⟩
  rintro _ _ ⟨i, rfl, hi, rfl⟩
  rw [slen_l, hsz, e92]
  refine ifB_intro (fun hlt => ?_) (fun hlt => ?_)
  · have hlt : i < s.size := by simpa using hlt
    have hlt' : i < s.data.toList.length := by omega
    have hln := valT_len (s.data.toList.take i)
    rw [List.length_take] at hln
    have hnx : valT (s.data.toList.take (i + 1)) = valT (s.data.toList.take i) ++ eV s.data.toList[i] := esc_take _ i hlt'
    rw [sbyte_u s i hlt, waddN i (by omega), ssub_1 s i hlt]
    generalize s.data.toList[i] = c at *
    have ms : Nat.le (Nat.succ (s.size - ((i + 1 : Nat) : Int).toNat)) (s.size - ((i : Nat) : Int).toNat) := mlt (by omega)
    refine ⟨⟨by omega, by omega⟩, ifB_intro (fun hc => ?_) (fun hc => ?_)⟩
    · have hc : c = 34 := ieq_c c 34 hc
      subst hc
      refine ⟨b92, ?_, rfl, ⟨i + 1, rfl, by omega, ?_⟩, ms⟩
      · rw [lsum_e, slen_bA, slen_bA]; simp; omega
      · rw [hnx, scat_bA]; rfl
    · have hc : c ≠ 34 := fun e => by subst e; revert hc; simp
      have hv := eV_len c
      refine ⟨⟨by omega, by omega, by omega⟩, Cl.of (rhlp_fn (bA [c]) (show 1 ≤ 1000000000 by decide)) ⟨_, rfl, ?_, rfl, ⟨i + 1, rfl, by omega, ?_⟩, ms⟩⟩
      · have e : hlpT (bA [c]).data.toList = eV c := hlp_one c hc
        rw [e, lsum_e, slen_bA, slen_bA]; omega
      · have e : hlpT (bA [c]).data.toList = eV c := hlp_one c hc
        rw [e, hnx, scat_bA]
  · have hlt : ¬ i < s.size := by simpa using hlt
    have : i = s.data.toList.length := by omega
    rw [this, List.take_length]

theorem wadd8 {a b : Int} (h0 : 0 ≤ a + b) (h1 : a + b < 256) : wadd .u8 a b = a + b := by
  have : wadd .u8 a b = (a + b) % 256 := by simp [wadd, IntKind.wrap, IntKind.bits, IntKind.signed]
  omega
theorem wcv8_id {a : Int} (h0 : 0 ≤ a) (h1 : a < 256) : wcv .u8 a = a := by
  have : wcv .u8 a = a % 256 := by simp [wcv, IntKind.wrap, IntKind.bits, IntKind.signed]
  omega
theorem wrem10 (u : Nat) : wrem (u : Int) 10 = ((u % 10 : Nat) : Int) := by
  show (u : Int).tmod 10 = _
  rw [Int.tmod_eq_emod_of_nonneg (by omega)]; omega
theorem wrem10n (u : Nat) : wrem (-(u : Int)) 10 = -((u % 10 : Nat) : Int) := by
  show (-(u : Int)).tmod 10 = _
  rw [Int.neg_tmod, Int.tmod_eq_emod_of_nonneg (by omega)]; omega
theorem wquo10 (u : Nat) (h : u ≤ 9223372036854775808) : wquo .i64 (u : Int) 10 = ((u / 10 : Nat) : Int) := by
  show IntKind.i64.wrap ((u : Int).tdiv 10) = _
  rw [Int.tdiv_eq_ediv_of_nonneg (by omega), wrap_i64 (by omega) (by omega)]; omega
theorem wquo10n (u : Nat) (h : u ≤ 9223372036854775808) : wquo .i64 (-(u : Int)) 10 = -((u / 10 : Nat) : Int) := by
  show IntKind.i64.wrap ((-(u : Int)).tdiv 10) = _
  rw [Int.neg_tdiv, Int.tdiv_eq_ediv_of_nonneg (by omega), wrap_i64 (by omega) (by omega)]; omega
theorem wneg_s {x : Int} (h : -100 ≤ x ∧ x ≤ 0) : wneg .i64 x = -x := by
  show IntKind.i64.wrap (0 - x) = _
  rw [wrap_i64 (by omega) (by omega)]; omega

theorem rnum_fn {n : Int} (hn : i64 n) : Ct Tryz.prog 44 {} [I n] (fun r => r = [S (bA (Lib.itoa n))]) := by
  obtain ⟨N, hN⟩ : ∃ N : Nat, n.natAbs = N := ⟨_, rfl⟩
  have hNb : N ≤ 9223372036854775808 := by have := hn.1; have := hn.2; omega
  have hlen : (Lib.decDigits N).length ≤ 21 := by
    have := Lib.itoa_length_le n hn.1 hn.2
    by_cases h : 0 ≤ n
    · rw [show n = (N : Int) by omega, Lib.itoa_nonneg] at this; exact this
    · rw [show n = -(N : Int) by omega, Lib.itoa_neg N (by omega), List.length_cons] at this; omega
  refine xnum_nf _ _ ⟨fun s x => ∃ (u : Nat) (l : Tx), x = (if n < 0 then -(u : Int) else u) ∧ u ≤ N ∧ s = bA l ∧ Lib.decDigits N = Lib.decDigits u ++ l, fun _ x => x.natAbs, ⟨N, [], ?_, Nat.le_refl _, rfl, by simp⟩, ?_⟩
  · split <;> omega
  rintro _ x ⟨u, l, hx, hu, rfl, hd⟩
  have hll : l.length ≤ 21 := by
    have := congrArg List.length hd
    rw [List.length_append] at this; omega
  have hxa : x.natAbs = u := by rw [hx]; split <;> omega
  have hrm : wrem x 10 = (if n < 0 then -((u % 10 : Nat) : Int) else ((u % 10 : Nat) : Int)) := by
    rw [hx]; split
    · exact wrem10n u
    · exact wrem10 u
  have hqu : wquo .i64 x 10 = (if n < 0 then -((u / 10 : Nat) : Int) else ((u / 10 : Nat) : Int)) := by
    rw [hx]; split
    · exact wquo10n u (by omega)
    · exact wquo10 u (by omega)
  have dg : wadd .u8 48 (wcv .u8 ((u % 10 : Nat) : Int)) = ((UInt8.ofNat (48 + u % 10)).toNat : Int) := by
    rw [wcv8_id (by omega) (by omega), wadd8 (by omega) (by omega), digN _ (by omega)]; omega
  have hq0 : ieq (wquo .i64 x 10) 0 = decide (u / 10 = 0) := by
    rw [hqu]; split <;> simp <;> omega
  have core : ∀ d : Int, d = ((UInt8.ofNat (48 + u % 10)).toNat : Int) → (isBytes [[U8 d]]) ∧ (lsum (slen (bstr [[U8 d]])) (slen (bA l)) ≤ 9223372036854775807) ∧ (((10 : Int) = 0) → False) ∧
      (ifB (ieq (wquo .i64 x 10) 0) (ifB (ilt n 0) ((lsum (slen (ByteArray.mk (Array.mk [45]))) (slen (scat (bstr [[U8 d]]) (bA l))) ≤ 9223372036854775807) ∧ [S (scat (ByteArray.mk (Array.mk [45])) (scat (bstr [[U8 d]]) (bA l)))] = [S (bA (Lib.itoa n))])
        ([S (scat (bstr [[U8 d]]) (bA l))] = [S (bA (Lib.itoa n))]))
        (((Option.some [] : Option (List (List SV))) = Option.some []) ∧ (∃ (u1 : Nat) (l1 : Tx), wquo .i64 x 10 = (if n < 0 then -(u1 : Int) else u1) ∧ u1 ≤ N ∧ scat (bstr [[U8 d]]) (bA l) = bA l1 ∧ Lib.decDigits N = Lib.decDigits u1 ++ l1) ∧ Nat.le (Nat.succ (wquo .i64 x 10).natAbs) x.natAbs)) := by
    rintro d rfl
    rw [bstr_1, scat_bA, hq0]
    refine ⟨isBytes_1 _, by rw [lsum_e, slen_bA, slen_bA]; simp; omega, by omega, ifB_intro (fun h => ?_) (fun h => ⟨rfl, ⟨u / 10, _, hqu, by omega, rfl, ?_⟩, ?_⟩)⟩
    · have h : u / 10 = 0 := by simpa using h
      have e : Lib.decDigits N = [UInt8.ofNat (48 + u % 10)] ++ l := by
        rw [hd, Lib.decDigits, dif_pos (by omega), Nat.mod_eq_of_lt (by omega)]
      refine ifB_intro (fun hs => ?_) (fun hs => ?_)
      · have hs : n < 0 := by simpa using hs
        have e2 : (ByteArray.mk (Array.mk [45])) = bA [45] := rfl
        rw [e2, scat_bA, lsum_e, slen_bA, slen_bA]
        refine ⟨by simp; omega, ?_⟩
        rw [show n = -(N : Int) by omega, Lib.itoa_neg N (by omega), e]
        rfl
      · have hs : ¬ n < 0 := by simpa using hs
        rw [show n = (N : Int) by omega, Lib.itoa_nonneg, e]
    · have h : ¬ u / 10 = 0 := by simpa using h
      rw [hd, Lib.decDigits, dif_neg (by omega)]
      simp
    · have h : ¬ u / 10 = 0 := by simpa using h
      refine stepL ?_
      rw [hxa, hqu]
      split <;> omega
  refine ⟨by omega, ifB_intro (fun h => ?_) (fun h => ?_)⟩
  · refine core _ ?_
    have h : wrem x 10 < 0 := by simpa using h
    rw [← dg]
    congr 2
    rw [hrm] at h ⊢
    split at h
    · rename_i e; rw [if_pos e, wneg_s ⟨by omega, by omega⟩]; omega
    · omega
  · refine core _ ?_
    have h : ¬ wrem x 10 < 0 := by simpa using h
    rw [← dg]
    congr 2
    rw [hrm] at h ⊢
    split at h
    · rename_i e; rw [if_pos e]; omega
    · rename_i e; rw [if_neg e]
end Go.Proofs.YtknnooannohflaaGreatDoor.Exp

namespace Go.Proofs.YtknnooannohflaaGreatDoor.Exp
open Go Go.Px Go.Proofs Go.RowKit Go.Proofs.YtknnooannohflaaGreatDoor.Trm Go.Proofs.YtknnooannohflaaGreatDoor.Met
set_option maxRecDepth 100000
set_option linter.unusedVariables false

theorem linT_parts (x : SmD) : (linT x).length = x.nm.size + (labT x.ls).length + (if x.ls = [] then 0 else 1) + 1 + (Lib.itoa x.v).length := by
  unfold linT
  simp only [List.length_append, List.length_cons, tl_size]
  split <;> simp <;> omega

theorem rline_fn (x : SmD) (hv : ∀ q ∈ x.ls, q.2.size ≤ 1000000000) (hlen : (linT x).length ≤ 1000000000) (hi : i64 x.v) : Ct Tryz.prog 16 {} [.agg (SmD.row x)] (fun r => r = [S (bA (linT x))]) := by
  obtain ⟨nm, ls, v⟩ := x
  have hpt := linT_parts ⟨nm, ls, v⟩
  simp only at hpt hv hi
  rw [hpt] at hlen
  have hnl := labT_many ls
  have b34 : isBytes [[U8 34]] := isBytes_1 34
  have e34 : bstr [[U8 34]] = bA [34] := bstr_1 34
  refine xline_nf _ _ _ _ ⟨fun s i => ∃ k : Nat, i = k ∧ k ≤ ls.length ∧ s.data.toList = nm.data.toList ++ labT (ls.take k), fun _ i => ls.length - i.toNat, ⟨0, rfl, Nat.zero_le _, by simp [labT]⟩, ?_⟩
  rintro s _ ⟨k, rfl, hk, hs⟩
  rw [rlen_eq (laR ls), List.length_map, e34]
  have hsl : slen s = nm.size + (labT (ls.take k)).length := by rw [slen_l, hs, List.length_append, tl_size]; omega
  refine ifB_intro (fun hlt => ?_) (fun hlt => ?_)
  · have hlt : k < ls.length := by simpa using hlt
    have row := rget_map (fun p : LaD => [S p.1, S p.2]) ls k hlt
    have hnx := labT_next ls hlt
    have hll := labT_take ls (k + 1)
    have hvs := hv _ (List.getElem_mem hlt)
    have hw := waddN k (by omega)
    have hm : Nat.le (Nat.succ (ls.length - (wadd .i64 (k : Int) 1).toNat)) (ls.length - ((k : Int)).toNat) := by
      rw [hw]; exact mlt (by omega)
    generalize ls[k]'hlt = l at *
    have hll2 : (labT (ls.take k)).length + 1 + (labC l).length ≤ (labT ls).length := by
      rw [hnx, List.length_append] at hll
      split at hll <;> simp only [List.length_cons] at hll <;> omega
    have hlc : (labC l).length = l.1.size + 2 + (valT l.2.data.toList).length + 1 := by
      unfold labC; simp only [List.length_append, List.length_cons, List.length_nil, tl_size]; omega
    have hl1 : slen l.1 = l.1.size := rfl
    refine ifB_intro (fun hk0 => ?_) (fun hk0 => ?_)
    · have hk0 : k = 0 := by simpa using hk0
      have hInv : (fun (s : ByteArray) (i : Int) => ∃ k : Nat, i = k ∧ k ≤ ls.length ∧ s.data.toList = nm.data.toList ++ labT (ls.take k)) (scat (scat (scat (scat (scat (scat s (ByteArray.mk (Array.mk [123]))) l.1) (ByteArray.mk (Array.mk [61]))) (bA [34])) (bA (valT l.2.data.toList))) (bA [34])) (wadd .i64 (k : Int) 1) := by
        refine ⟨k + 1, hw, by omega, ?_⟩
        rw [hnx, if_pos hk0]
        simp [scat_l, hs, labC]
      repeat' (first
        | exact b34
        | exact hInv
        | exact hm
        | omega
        | (simp only [lsum_e, slen_scat, slen_bA, hsl, hl1, List.length_cons, List.length_nil]; omega)
        | refine Cl.of (rval_fn l.2 hvs) ⟨_, rfl, ?_⟩
        | refine ⟨_, _, row, ?_⟩
        | apply And.intro
        | rfl)
    · have hk0 : ¬ k = 0 := by simpa using hk0
      have hInv : (fun (s : ByteArray) (i : Int) => ∃ k : Nat, i = k ∧ k ≤ ls.length ∧ s.data.toList = nm.data.toList ++ labT (ls.take k)) (scat (scat (scat (scat (scat (scat s (ByteArray.mk (Array.mk [44]))) l.1) (ByteArray.mk (Array.mk [61]))) (bA [34])) (bA (valT l.2.data.toList))) (bA [34])) (wadd .i64 (k : Int) 1) := by
        refine ⟨k + 1, hw, by omega, ?_⟩
        rw [hnx, if_neg hk0]
        simp [scat_l, hs, labC]
      repeat' (first
        | exact b34
        | exact hInv
        | exact hm
        | omega
        | (simp only [lsum_e, slen_scat, slen_bA, hsl, hl1, List.length_cons, List.length_nil]; omega)
        | refine Cl.of (rval_fn l.2 hvs) ⟨_, rfl, ?_⟩
        | refine ⟨_, _, row, ?_⟩
        | apply And.intro
        | rfl)
  · have hke : k = ls.length := by have : ¬ k < ls.length := by simpa using hlt
                                   omega
    rw [hke, List.take_length] at hs hsl
    refine ifB_intro (fun hp => ?_) (fun hp => ?_)
    · have hp : 0 < ls.length := by simpa using hp
      have hne : ls ≠ [] := List.length_pos_iff.1 hp
      rw [if_neg hne] at hlen
      refine ⟨?_, ?_, Cl.of (rnum_fn hi) ⟨_, rfl, ?_, ?_⟩⟩
      · simp only [lsum_e, slen_bA, hsl, List.length_cons, List.length_nil]; omega
      · simp only [lsum_e, slen_scat, slen_bA, hsl, List.length_cons, List.length_nil]; omega
      · simp only [lsum_e, slen_scat, slen_bA, hsl, List.length_cons, List.length_nil]; omega
      · congr 2
        congr 1
        apply bA_ext.2
        simp [scat_l, hs, linT, hne]
    · have hp : ls = [] := by have : ¬ 0 < ls.length := by simpa using hp
                              exact List.length_eq_zero_iff.1 (by omega)
      refine ⟨?_, Cl.of (rnum_fn hi) ⟨_, rfl, ?_, ?_⟩⟩
      · simp only [lsum_e, slen_bA, hsl, List.length_cons, List.length_nil]; omega
      · simp only [lsum_e, slen_scat, slen_bA, hsl, List.length_cons, List.length_nil]; omega
      · congr 2
        congr 1
        apply bA_ext.2
        simp [scat_l, hs, linT, hp]

theorem line_fn (x : SmD) (hv : ∀ q ∈ x.ls, q.2.size ≤ 5000000) (hlen : (linT x).length ≤ 1000000000) (hi : i64 x.v) : Ct Tryz.prog 15 {} [.agg (SmD.row x)] (fun r => r = [S (bA (linT x))]) := by
  refine ct_of_callsR Tryz.func15 (by kernel_rfl) (by kernel_rfl) _ _ (fun h ρ w vs hsub hgl hrep => ?_)
  obtain ⟨v0, hvs⟩ : ∃ v0, vs.toList = [v0] := by
    have := hrep.1
    match h : vs.toList, this with
    | [a], _ => exact ⟨a, rfl⟩
  obtain rfl := arr_of hvs
  have r0 : Rep h ρ v0 (.agg (SmD.row x)) := hrep.2 0 v0 _ rfl rfl
  obtain ⟨vs, rfl, hl, hc⟩ : ∃ vs : Array Value, v0 = .agg vs ∧ vs.size = 3 ∧ ∀ (i : Nat) v c, vs[i]? = some v → (SmD.row x)[i]? = some c → Rep h ρ v c := by
    cases r0 with
    | pure _ _ r =>
      cases r with
      | agg vs _ hl hc => exact ⟨vs, rfl, hl, fun i v c h1 h2 => .pure _ _ (hc i v c h1 h2)⟩
    | agg vs _ hl hc => exact ⟨vs, rfl, hl, hc⟩
  obtain ⟨v0, v1, v2, rfl⟩ : ∃ v0 v1 v2, vs = #[v0, v1, v2] := by
    obtain ⟨l⟩ := vs
    match l, hl with
    | [a, b, c], _ => exact ⟨a, b, c, rfl⟩
  have e0 : v0 = .string x.nm := (hc 0 v0 _ rfl rfl).val_inv
  have e2 : v2 = .int .i64 x.v := (hc 2 v2 _ rfl rfl).val_inv
  have p1 : PRep h v1 (SL 2 (laR x.ls)) := by
    cases hc 1 v1 _ rfl rfl with
    | pure _ _ r => exact r
  obtain ⟨p, cap, rfl, hL⟩ := lab_of hsub p1
  subst e0; subst e2
  refine (line_walk x p cap w hL hv hlen hi.1 hi.2 (tab_is hsub hgl)).mono ?_
  rintro e w' ⟨rfl, hb⟩
  refine ⟨[.string (bA (linT x))], [S (bA (linT x))], rfl, rfl, fun i a b ha hb => ?_, rfl, hb⟩
  match i, ha, hb with
  | 0, ha, hb => cases ha; cases hb; exact .val _
  | i + 1, ha, hb => simp at ha

theorem rlen_uR (l : Tx) : rlen (uR l) = (l.length : Int) := by rw [rlen_eq, uR_len]
theorem rapp_uR (a : Tx) (s : ByteArray) : rapp (uR a) (sbytes s) = uR (a ++ s.data.toList) := by
  rw [sbytes_u]; exact rapp_map _ _ _
theorem rlen_sb (s : ByteArray) : rlen (sbytes s) = slen s := by rw [sbytes_u, rlen_uR, slen_l]
theorem word_get (k : Int) (h : 1 ≤ k ∧ k ≤ 3) : rget [[S (ByteArray.mk (Array.mk []))], [S (ByteArray.mk (Array.mk [99, 111, 117, 110, 116, 101, 114]))], [S (ByteArray.mk (Array.mk [103, 97, 117, 103, 101]))], [S (ByteArray.mk (Array.mk [104, 105, 115, 116, 111, 103, 114, 97, 109]))]] k = [S (bA (wrdT k))] := by
  have : k = 1 ∨ k = 2 ∨ k = 3 := by omega
  rcases this with rfl | rfl | rfl <;> rfl

theorem rwrite_fn (l : List FaD) (hall : allP l) (hrg : ∀ f ∈ l, rgF f) : Ct Tryz.prog 19 {} [SL 4 (faR l)] (fun r => r = [S (bA (txtT l))]) := by
  have hbound := txt_len hall hrg
  have hl40 := hall.1
  refine xwrite_nf _ _ ⟨fun l1 x => ∃ k : Nat, x = k ∧ k ≤ l.length ∧ l1 = uR (txtT (l.take k)), fun _ x => l.length - x.toNat, ⟨0, rfl, Nat.zero_le _, rfl⟩, ?_⟩
  rintro _ _ ⟨k, rfl, hk, rfl⟩
  rw [rlen_eq (faR l), List.length_map]
  refine ifB_intro (fun hlt => ?_) (fun hlt => ?_)
  · have hlt : k < l.length := by simpa using hlt
    have row := rget_map FaD.row l k hlt
    have hkk : l[k]? = some (l[k]'hlt) := List.getElem?_eq_getElem hlt
    have hfP : famP (l[k]'hlt) := (hall.2 k hlt hlt).1
    have hfR := hrg _ (List.getElem_mem hlt)
    have hnx : txtT (l.take (k + 1)) = txtT (l.take k) ++ famT (l[k]'hlt) := by
      rw [List.take_add_one, hkk, txtT, List.flatMap_append]; simp [txtT]
    have hlL := txtT_take l (k + 1)
    have hw := waddN k (by omega)
    generalize l[k]'hlt = f at *
    obtain ⟨fn, fh, fk, fs⟩ := f
    have hT : (txtT (l.take k)).length + (hdH ⟨fn, fh, fk, fs⟩).length + (hdT ⟨fn, fh, fk, fs⟩).length + (samT fs).length ≤ 100000000 := by
      have e := congrArg List.length hnx
      rw [List.length_append] at e
      simp only [famT, List.length_append] at e
      omega
    have hty : 1 ≤ fk ∧ fk ≤ 3 := hfP.1.2.2.1
    have hlH : (hdH ⟨fn, fh, fk, fs⟩).length = 7 + fn.size + 1 + (hlpT fh.data.toList).length + 1 := by
      simp only [hdH, List.length_append, List.length_cons, List.length_nil, tl_size]; omega
    have hlT : (hdT ⟨fn, fh, fk, fs⟩).length = 7 + fn.size + 1 + (wrdT fk).length + 1 := by
      simp only [hdT, List.length_append, List.length_cons, List.length_nil, tl_size]; omega
    have hsn : slen fn = fn.size := rfl
    have hh : fh.size ≤ 1000000000 := by have := hfP.1.2.1; simp only at this; omega
    have e1 : (scat (scat (scat (scat (ByteArray.mk (Array.mk [35, 32, 72, 69, 76, 80, 32])) fn) (ByteArray.mk (Array.mk [32]))) (bA (hlpT fh.data.toList))) (ByteArray.mk (Array.mk [10]))).data.toList = hdH ⟨fn, fh, fk, fs⟩ := by
      simp [scat_l, hdH]
    have e2 : (scat (scat (scat (scat (ByteArray.mk (Array.mk [35, 32, 84, 89, 80, 69, 32])) fn) (ByteArray.mk (Array.mk [32]))) (bA (wrdT fk))) (ByteArray.mk (Array.mk [10]))).data.toList = hdT ⟨fn, fh, fk, fs⟩ := by
      simp [scat_l, hdT]
    have hin : (0 : Int) ≤ k ∧ (k : Int) < l.length := by omega
    refine ⟨hin, fn, fh, fk, smR fs, row, ⟨by omega, by show fk < 4; omega⟩, ⟨by omega, by show fk < 4; omega⟩, _, word_get fk hty, hin, fn, fh, fk, smR fs, row, ?_, ?_, hin, fn, fh, fk, smR fs, row, Cl.of (rhlp_fn fh hh) ⟨_, rfl, ?_, ?_, ?_, hin, fn, fh, fk, smR fs, row, ?_, ?_, ?_, ?_, ?_, ?_⟩⟩
    · simp only [lsum_e, slen_bA, hsn, List.length_cons, List.length_nil]; omega
    · simp only [lsum_e, slen_scat, slen_bA, hsn, List.length_cons, List.length_nil]; omega
    · simp only [lsum_e, slen_scat, slen_bA, hsn, List.length_cons, List.length_nil]; omega
    · simp only [lsum_e, slen_scat, slen_bA, hsn, List.length_cons, List.length_nil]; omega
    · rw [rlen_sb, slen_l, e1, rlen_uR, lsum_e]; omega
    · simp only [lsum_e, slen_bA, hsn, List.length_cons, List.length_nil]; omega
    · simp only [lsum_e, slen_scat, slen_bA, hsn, List.length_cons, List.length_nil]; omega
    · simp only [lsum_e, slen_scat, slen_bA, hsn, List.length_cons, List.length_nil]; omega
    · simp only [lsum_e, slen_scat, slen_bA, hsn, List.length_cons, List.length_nil]; omega
    · rw [rapp_uR, e1, rlen_uR, rlen_sb, slen_l, e2, lsum_e, List.length_append]; omega
    rw [rapp_uR, e1, rapp_uR, e2]
    have hss : fs.length ≤ 400 := hfP.1.2.2.2.2
    refine ⟨fun l6 x => ∃ j : Nat, x = j ∧ j ≤ fs.length ∧ l6 = uR (txtT (l.take k) ++ hdH ⟨fn, fh, fk, fs⟩ ++ hdT ⟨fn, fh, fk, fs⟩ ++ samT (fs.take j)), fun _ x => fs.length - x.toNat, ⟨0, rfl, Nat.zero_le _, by simp [samT]⟩, ?_⟩
    rintro _ _ ⟨j, rfl, hj, rfl⟩
    refine ⟨hin, fn, fh, fk, smR fs, row, ?_⟩
    rw [rlen_eq (smR fs), List.length_map]
    refine ifB_intro (fun hjt => ?_) (fun hjt => ?_)
    · have hjt : j < fs.length := by simpa using hjt
      have rowS := rget_map SmD.row fs j hjt
      have hxm : fs[j]'hjt ∈ fs := List.getElem_mem hjt
      have hlin := fam_lin hfP hfR _ hxm
      have hvv := hfR _ hxm
      have hlab : ∀ q ∈ (fs[j]'hjt).ls, q.2.size ≤ 1000000000 := fun q hq => by
        obtain ⟨m, hm, rfl⟩ := List.mem_iff_getElem.1 hq
        have := ((hfP.2.1 _ hxm).2 m hm hm).2.1
        omega
      have hnx2 : samT (fs.take (j + 1)) = samT (fs.take j) ++ (linT (fs[j]'hjt) ++ [10]) := by
        rw [List.take_add_one, List.getElem?_eq_getElem hjt, samT, List.flatMap_append]; simp [samT]
      have hlS : (samT (fs.take (j + 1))).length ≤ (samT fs).length := samT_take _ _
      have hwj := waddN j (by omega)
      generalize fs[j]'hjt = x at *
      obtain ⟨xn, xl, xv⟩ := x
      have e3 : (scat (bA (linT ⟨xn, xl, xv⟩)) (ByteArray.mk (Array.mk [10]))).data.toList = linT ⟨xn, xl, xv⟩ ++ [10] := by simp [scat_l]
      have hlS2 := hlS
      rw [hnx2, List.length_append] at hlS2
      refine ⟨hin, fn, fh, fk, smR fs, row, ⟨by omega, by rw [rlen_eq, List.length_map]; omega⟩, xn, laR xl, xv, rowS, Cl.of (rline_fn ⟨xn, xl, xv⟩ hlab (by omega) hvv) ⟨_, rfl, ?_, ?_, rfl, ⟨j + 1, hwj, by omega, ?_⟩, ?_⟩⟩
      · simp only [lsum_e, slen_bA, List.length_cons, List.length_nil]; omega
      · rw [rlen_uR, rlen_sb, slen_l, e3, lsum_e]
        simp only [List.length_append, List.length_cons, List.length_nil] at hlS2 ⊢
        omega
      · rw [rapp_uR, e3, hnx2]; simp only [List.append_assoc]
      · rw [hwj]; exact mlt (by dsimp only; omega)
    · have hje : j = fs.length := by have : ¬ j < fs.length := by simpa using hjt
                                     omega
      refine ⟨rfl, ⟨k + 1, hw, by omega, ?_⟩, ?_⟩
      · rw [hje, List.take_length, hnx]
        simp [famT]
      · rw [hw]; exact mlt (by dsimp only; omega)
  · have hke : k = l.length := by have : ¬ k < l.length := by simpa using hlt
                                  omega
    rw [hke, List.take_length]
    exact ⟨isBytes_u _, by rw [bstr_u]⟩

def awF : FaD := ⟨⟨#[120]⟩, ⟨#[97, 92, 98]⟩, 2, [⟨⟨#[120]⟩, [(⟨#[98]⟩, ⟨#[113, 34, 10]⟩)], -5⟩]⟩
theorem ifB_no {b : Bool} {x y : Prop} (e : b = false) (h : y) : ifB b x y := by subst e; exact h
theorem ifB_yes {b : Bool} {x y : Prop} (e : b = true) (h : x) : ifB b x y := by subst e; exact h
theorem aw_all : allP [awF] := by decide +kernel
theorem aw_txt : txtT [awF] = [35, 32, 72, 69, 76, 80, 32, 120, 32, 97, 92, 92, 98, 10, 35, 32, 84, 89, 80, 69, 32, 120, 32, 103, 97, 117, 103, 101, 10, 120, 123, 98, 61, 34, 113, 92, 34, 92, 110, 34, 125, 32, 45, 53, 10] := by decide +kernel
theorem awake_fn : Ct Tryz.prog 9 {} [] (fun r => r = [B true]) := by
  refine xawake_nf _ (Cl.of (write_fn [awF] (fun f hf => ?_) (fun f hf => ?_)) ⟨_, _, rfl, ?_⟩)
  · rcases List.mem_singleton.1 hf with rfl; decide
  · rcases List.mem_singleton.1 hf with rfl
    intro x hx
    rcases List.mem_singleton.1 hx with rfl
    exact ⟨by decide, by decide⟩
  · unfold wrT wrE
    rw [if_pos aw_all, if_pos aw_all, aw_txt]
    have e : ∀ s : ByteArray, [B (bpick (ieq 0 0) (seq s s) false)] = [B true] := fun s => by rw [seq_d]; simp
    exact e _



theorem blkR_mem {r : List SV} : ∀ {rows : List (List SV)}, r ∈ rows → 1 + blkL r ≤ blkR rows
  | a :: rows, h => by
    rw [blkR]
    rcases List.mem_cons.1 h with rfl | h
    · omega
    · have := blkR_mem h; omega
theorem lab_blk : ∀ ls : List LaD, (labT ls).length ≤ 4 * blkR (laR ls) := by
  intro ls
  rw [labT_len]
  induction ls with
  | nil => simp [blkR]
  | cons p ls ih =>
    have h := labC_len (p := p) (Nat.le_refl _) (Nat.le_refl _)
    simp only [List.map_cons, List.sum_cons, laR, blkR, blkL, blk] at ih ⊢
    omega
theorem lin_blk {x : SmD} (hi : i64 x.v) : (linT x).length ≤ 4 * blkL (SmD.row x) + 23 := by
  have h1 := lab_blk x.ls
  have h2 := linT_len hi (Nat.le_refl _) (Nat.le_refl _)
  simp only [blkL, blk]
  omega
theorem val_blk {x : SmD} {q : LaD} (hq : q ∈ x.ls) : q.2.size ≤ blkL (SmD.row x) := by
  have h1 : 1 + blkL [S q.1, S q.2] ≤ blkR (laR x.ls) := blkR_mem (List.mem_map_of_mem (f := fun p : LaD => [S p.1, S p.2]) hq)
  simp only [blkL, blk] at h1 ⊢
  omega
theorem sam_blk {f : FaD} {x : SmD} (hx : x ∈ f.ss) : blkL (SmD.row x) ≤ blkL (FaD.row f) := by
  have h1 : 1 + blkL (SmD.row x) ≤ blkR (smR f.ss) := blkR_mem (List.mem_map_of_mem (f := SmD.row) hx)
  simp only [blkL, blk] at h1 ⊢
  omega
theorem fam_blk {l : List FaD} {f : FaD} (hf : f ∈ l) : blkL (FaD.row f) ≤ blkR (faR l) := by
  have h1 : 1 + blkL (FaD.row f) ≤ blkR (faR l) := blkR_mem (List.mem_map_of_mem (f := FaD.row) hf)
  omega

theorem law3_fn (l : List FaD) (s : ByteArray) (hb : blkL [SL 4 (faR l), S s] ≤ 1048576) (hl : l.length ≤ 4000000000000000000) (hls : ∀ f ∈ l, szF f) (hlr : ∀ f ∈ l, rgF f) : Ct Tryz.prog 3 {} [SL 4 (faR l), S s] (fun r => r = [B true]) := by
  have hbl : blkR (faR l) ≤ 1048576 := by simp only [blkL, blk] at hb; omega
  refine xlaw3_nf _ _ _ (Cl.of awake_fn ⟨_, rfl, ifB_no rfl (Cl.ofQ (rshort_fn l hl hls) ?_)⟩)
  rintro _ ⟨b1, rfl⟩
  refine ⟨_, rfl, ifB_intro (fun _ => rfl) (fun hc => ?_)⟩
  have hs : s.size ≤ 3000 := by
    have h := (bor_f.1 hc).2
    have h1 : ¬ (3000 : Int) < slen s := by simpa using h
    have e1 : slen s = s.size := rfl
    omega
  refine Cl.of (Rp.help_fn s (by omega)) ⟨_, rfl, Cl.of (rhlp_fn s (by omega)) ⟨_, rfl, ifB_no (by rw [sne_d]; simp) (Cl.of (Rp.value_fn s (by omega)) ⟨_, rfl, Cl.of (rval_fn s (by omega)) ⟨_, rfl, ifB_no (by rw [sne_d]; simp) ?_⟩⟩)⟩⟩
  refine ⟨fun _ x => ∃ i : Nat, x = i ∧ i ≤ l.length, fun _ x => l.length - x.toNat, ⟨0, rfl, Nat.zero_le _⟩, ?_⟩
  rintro _ _ ⟨i, rfl, hi⟩
  rw [rlen_eq (faR l), List.length_map]
  refine ifB_intro (fun hlt => ?_) (fun hlt => ?_)
  · have hlt : i < l.length := by simpa using hlt
    have row := rget_map FaD.row l i hlt
    have hfm := List.getElem_mem hlt
    have hfb := fam_blk hfm
    have hfR := hlr _ hfm
    have hfs := (hls _ hfm).2.1
    have hwi := waddN i (by omega)
    have hin : (0 : Int) ≤ i ∧ (i : Int) < l.length := by omega
    generalize l[i]'hlt = f at *
    obtain ⟨fn, fh, fk, fs⟩ := f
    simp only at hfs
    refine ⟨fun _ x => ∃ j : Nat, x = j ∧ j ≤ fs.length, fun _ x => fs.length - x.toNat, ⟨0, rfl, Nat.zero_le _⟩, ?_⟩
    rintro _ _ ⟨j, rfl, hj⟩
    refine ⟨hin, fn, fh, fk, smR fs, row, ?_⟩
    rw [rlen_eq (smR fs), List.length_map]
    refine ifB_intro (fun hjt => ?_) (fun hjt => ?_)
    · have hjt : j < fs.length := by simpa using hjt
      have rowS := rget_map SmD.row fs j hjt
      have hxm : fs[j]'hjt ∈ fs := List.getElem_mem hjt
      have hxb : blkL (SmD.row (fs[j]'hjt)) ≤ 1048576 := Nat.le_trans (sam_blk (f := ⟨fn, fh, fk, fs⟩) hxm) (by omega)
      have hvv := hfR _ hxm
      have hwj := waddN j (by omega)
      have hjn : (0 : Int) ≤ j ∧ (j : Int) < rlen (smR fs) := by rw [rlen_eq, List.length_map]; omega
      generalize fs[j]'hjt = x at *
      have hlin := lin_blk hvv
      have hval : ∀ q ∈ x.ls, q.2.size ≤ 1048576 := fun q hq => Nat.le_trans (val_blk hq) hxb
      obtain ⟨xn, xl, xv⟩ := x
      refine ⟨hin, fn, fh, fk, smR fs, row, hjn, xn, laR xl, xv, rowS, hin, fn, fh, fk, smR fs, row, hjn, xn, laR xl, xv, rowS, Cl.of (line_fn ⟨xn, xl, xv⟩ (fun q hq => Nat.le_trans (hval q hq) (by decide)) (by omega) hvv) ⟨_, rfl, Cl.of (rline_fn ⟨xn, xl, xv⟩ (fun q hq => Nat.le_trans (hval q hq) (by decide)) (by omega) hvv) ⟨_, rfl, ifB_no (by rw [sne_d]; simp) ⟨rfl, ⟨j + 1, hwj, by omega⟩, ?_⟩⟩⟩⟩
      rw [hwj]; exact mlt (by dsimp only; omega)
    · refine ⟨rfl, ⟨i + 1, hwi, by omega⟩, ?_⟩
      rw [hwi]; exact mlt (by dsimp only; omega)
  · refine Cl.of (write_fn l (fun f hf => (hls f hf).2.1) hlr) ⟨_, _, rfl, Cl.of (rall_full l hl hls) ⟨_, rfl, ifB_intro (fun hA => ?_) (fun hA => ?_)⟩⟩
    · have hA : ¬ allP l := by simpa using hA
      unfold wrT wrE
      rw [if_neg hA, if_neg hA, seq_d]
      rfl
    · have hA : allP l := by simpa using hA
      unfold wrT wrE
      rw [if_pos hA, if_pos hA]
      refine ifB_yes rfl (Cl.of (rwrite_fn l hA hlr) ⟨_, rfl, ?_⟩)
      rw [seq_d]; simp
end Go.Proofs.YtknnooannohflaaGreatDoor.Exp

namespace Go.Proofs.YtknnooannohflaaGreatDoor.Exp
open Go Go.Px Go.Proofs Go.Proofs.YtknnooannohflaaGreatDoor.Met Go.ChangeShapes Go.WideShapes Go.ChangeAt Go.RowKit
set_option maxRecDepth 100000
set_option linter.unusedVariables false
theorem own : ownKnob Tryz.prog.godebug = none := by kernel_rfl
theorem laidOut : laidOutB Tryz.prog = true := by kernel_rfl
theorem uB : Tryz.prog.underlying 4 = some .bool := by kernel_rfl

theorem w9 (n : Nat) (ss : List SV) : TypW Tryz.prog (n + 1) 9 ss = ∃ s : ByteArray, ss = [.val (.string s)] ∧ s.size ≤ reachBytes := by kernel_rfl
theorem w2 (n : Nat) (ss : List SV) : TypW Tryz.prog (n + 1) 2 ss = ∃ x : Int, ss = [.val (.int .i64 x)] ∧ (Lit.int .i64 x).wf = true := by kernel_rfl
theorem w3 (n : Nat) (ss : List SV) : TypW Tryz.prog (n + 1) 3 ss = ∃ x : Int, ss = [.val (.int .i64 x)] ∧ (Lit.int .i64 x).wf = true := by kernel_rfl
theorem w68 (n : Nat) (ss : List SV) : TypW Tryz.prog (n + 1) 68 ss = splits (fun f s => TypW Tryz.prog n f s) [9, 9] ss := by kernel_rfl
theorem w30 (n : Nat) (ss : List SV) : TypW Tryz.prog (n + 1) 30 ss = ∃ rows, ss = [.slice (Tryz.prog.cellsOf 68) rows 0] ∧ rows.length ≤ bndL Tryz.prog 68 ∧ ∀ r ∈ rows, TypW Tryz.prog n 68 r := by kernel_rfl
theorem w32 (n : Nat) (ss : List SV) : TypW Tryz.prog (n + 1) 32 ss = splits (fun f s => TypW Tryz.prog n f s) [9, 30, 2] ss := by kernel_rfl
theorem w26 (n : Nat) (ss : List SV) : TypW Tryz.prog (n + 1) 26 ss = ∃ rows, ss = [.slice (Tryz.prog.cellsOf 32) rows 0] ∧ rows.length ≤ bndL Tryz.prog 32 ∧ ∀ r ∈ rows, TypW Tryz.prog n 32 r := by kernel_rfl
theorem w28 (n : Nat) (ss : List SV) : TypW Tryz.prog (n + 1) 28 ss = splits (fun f s => TypW Tryz.prog n f s) [9, 9, 3, 26] ss := by kernel_rfl
theorem w22 (n : Nat) (ss : List SV) : TypW Tryz.prog (n + 1) 22 ss = ∃ rows, ss = [.slice (Tryz.prog.cellsOf 28) rows 0] ∧ rows.length ≤ bndL Tryz.prog 28 ∧ ∀ r ∈ rows, TypW Tryz.prog n 28 r := by kernel_rfl
theorem b68 : bndL Tryz.prog 68 = reachBytes := by kernel_rfl
theorem b32 : bndL Tryz.prog 32 = reachBytes := by kernel_rfl
theorem b28 : bndL Tryz.prog 28 = reachBytes := by kernel_rfl
theorem c68 : Tryz.prog.cellsOf 68 = 2 := by kernel_rfl
theorem c32 : Tryz.prog.cellsOf 32 = 3 := by kernel_rfl
theorem c28 : Tryz.prog.cellsOf 28 = 4 := by kernel_rfl
theorem reach4 : reachBytes ≤ 4000000000000000000 := by decide

theorem rows_good {α : Type} {f : α → List SV} {p : α → Prop} : ∀ (rows : List (List SV)), (∀ r ∈ rows, ∃ a, r = f a ∧ p a) → ∃ l : List α, rows = l.map f ∧ ∀ a ∈ l, p a
  | [], _ => ⟨[], rfl, by simp⟩
  | r :: rows, h => by
    obtain ⟨a, rfl, ha⟩ := h r (by simp)
    obtain ⟨l, rfl, hl⟩ := rows_good rows (fun r hr => h r (by simp [hr]))
    exact ⟨a :: l, rfl, fun b hb => by rcases List.mem_cons.1 hb with rfl | hb; exact ha; exact hl b hb⟩

theorem i64_of {x : Int} (h : (Lit.int .i64 x).wf = true) : i64 x := by
  have h1 : IntKind.i64.min = -9223372036854775808 := by decide
  simp [Lit.wf] at h
  rw [h1] at h
  unfold i64; omega

theorem typ_la {n : Nat} {ss : List SV} (h : TypW Tryz.prog (n + 2) 68 ss) : ∃ p : LaD, ss = [S p.1, S p.2] ∧ p.1.size ≤ 9000000000000000000 := by
  rw [w68] at h
  simp only [splits, w9] at h
  obtain ⟨_, _, rfl, ⟨a, rfl, ha⟩, _, _, rfl, ⟨b, rfl, hb⟩, rfl⟩ := h
  exact ⟨(a, b), rfl, Nat.le_trans ha (by decide)⟩

theorem typ_las {n : Nat} {ss : List SV} (h : TypW Tryz.prog (n + 3) 30 ss) : ∃ l : List LaD, ss = [SL 2 (laR l)] ∧ szL l := by
  rw [w30] at h
  obtain ⟨rows, rfl, hl, hr⟩ := h
  obtain ⟨l, rfl, hp⟩ := rows_good (f := fun p : LaD => [S p.1, S p.2]) (p := fun p => p.1.size ≤ 9000000000000000000) rows (fun r hm => typ_la (hr r hm))
  rw [b68, List.length_map] at hl
  exact ⟨l, by rw [c68], Nat.le_trans hl reach4, hp⟩

theorem typ_sm {n : Nat} {ss : List SV} (h : TypW Tryz.prog (n + 4) 32 ss) : ∃ x : SmD, ss = SmD.row x ∧ szL x.ls ∧ i64 x.v := by
  rw [w32] at h
  simp only [splits, w9, w2] at h
  obtain ⟨_, _, rfl, ⟨a, rfl, ha⟩, _, _, rfl, h1, _, _, rfl, ⟨v, rfl, hv⟩, rfl⟩ := h
  obtain ⟨l, rfl, hl⟩ := typ_las h1
  exact ⟨⟨a, l, v⟩, rfl, hl, i64_of hv⟩

theorem typ_fa {n : Nat} {ss : List SV} (h : TypW Tryz.prog (n + 6) 28 ss) : ∃ f : FaD, ss = FaD.row f ∧ szF f ∧ rgF f := by
  rw [w28] at h
  simp only [splits, w9, w3] at h
  obtain ⟨_, _, rfl, ⟨a, rfl, ha⟩, _, _, rfl, ⟨b, rfl, hb⟩, _, _, rfl, ⟨t, rfl, _⟩, _, _, rfl, h1, rfl⟩ := h
  rw [w26] at h1
  obtain ⟨rows, rfl, hl, hr⟩ := h1
  obtain ⟨l, rfl, hp⟩ := rows_good (f := SmD.row) (p := fun x => szL x.ls ∧ i64 x.v) rows (fun r hm => typ_sm (hr r hm))
  rw [b32, List.length_map] at hl
  exact ⟨⟨a, b, t, l⟩, by rw [c32]; rfl, ⟨Nat.le_trans ha (by decide), Nat.le_trans hl reach4, fun x hx => (hp x hx).1⟩, fun x hx => (hp x hx).2⟩

theorem typ_fas {s : SV} (ht : TypVW Tryz.prog 9 22 s) : ∃ l : List FaD, s = SL 4 (faR l) ∧ l.length ≤ 4000000000000000000 ∧ (∀ f ∈ l, szF f) ∧ ∀ f ∈ l, rgF f := by
  obtain ⟨ss, h1, _, h3⟩ := ht
  have h3 := h3 (by kernel_rfl)
  subst h3
  rw [w22] at h1
  obtain ⟨rows, e, hl, hr⟩ := h1
  obtain ⟨l, rfl, hp⟩ := rows_good (f := FaD.row) (p := fun f => szF f ∧ rgF f) rows (fun r hm => typ_fa (hr r hm))
  rw [b28, List.length_map] at hl
  rw [c28] at e
  exact ⟨l, by simpa using e, Nat.le_trans hl reach4, fun f hf => (hp f hf).1, fun f hf => (hp f hf).2⟩

theorem typ_strW {s : SV} (ht : TypVW Tryz.prog 9 9 s) : ∃ b : ByteArray, s = S b ∧ b.size ≤ 140737488351232 := by
  obtain ⟨ss, h1, _, h3⟩ := ht
  have h3 := h3 (by kernel_rfl)
  subst h3
  rw [w9] at h1
  obtain ⟨b, e, hb⟩ := h1
  exact ⟨b, by simpa using e, Nat.le_trans hb (by decide)⟩
end Go.Proofs.YtknnooannohflaaGreatDoor.Exp

/- Imports for layer 17. -/
import Derived.Test.YtbocfphenkidnaaGreatDoorSgrA
import Derived.Test.YtbocfphenkidnaaGreatDoorRoA
import Derived.Test.YtbocfphenkidnaaGreatDoorDkA

namespace Go.Proofs.YtbocfphenkidnaaGreatDoor.Snp
open Go Go.Px Go.Proofs 
set_option maxRecDepth 100000
set_option linter.unusedVariables false

abbrev dk4 (rows : List (List SV)) (room steps : Int) (down : Bool) : SV := .agg [SL 3 rows, I room, I steps, B down]
abbrev st3 (rows : List (List SV)) (s a : Int) : SV := .agg [SL 21 rows, I s, I a]
abbrev U32 (n : Int) : SV := SV.int .u32 n
abbrev U16 (n : Int) : SV := SV.int .u16 n
def SgT : FuncId → Sig := (fun f => bif Nat.beq f 71 then ⟨[], [.own]⟩ else bif Nat.beq f 74 then ⟨[], [.own]⟩ else bif Nat.beq f 137 then ⟨[], [.own]⟩ else bif Nat.beq f 142 then ⟨[], [.own]⟩ else {})
def SvT : TypeId → Sig := (fun f => {})

theorem nname_nf (n : Int) (Q : List SV → Prop) (h : ifB (bpick (ilt n 0) true (igt n 4294967296)) (Q ([S (ByteArray.mk (Array.mk []))])) (Cl Tryz.prog 59 sP [I n, I 10] (fun rs => ∃ s, (rs = [S s]) ∧ (Cl Tryz.prog 60 sP ([S (ByteArray.mk (Array.mk [48])), I (wsub .i64 10 (slen s))]) (fun rs1 => ∃ s1, (rs1 = [S s1]) ∧ (((lsum (slen (ByteArray.mk (Array.mk [115, 110, 97, 112, 46]))) (slen s1)) ≤ 9223372036854775807) ∧ (((lsum (slen (scat (ByteArray.mk (Array.mk [115, 110, 97, 112, 46])) s1)) (slen s)) ≤ 9223372036854775807) ∧ (Q ([S (scat (scat (ByteArray.mk (Array.mk [115, 110, 97, 112, 46])) s1) s)]))))))))) : Ct Tryz.prog 31 {} [I n] Q :=
 fn_of (f := 31) SgT SvT (fun _ => none) Tryz.f31 Tryz.func31 (by kernel_rfl) (by kernel_rfl) h

theorem nnum_nf (s : ByteArray) (Q : List SV → Prop) (h : Cl Tryz.prog 69 sP ([S s, S (ByteArray.mk (Array.mk [115, 110, 97, 112, 46]))]) (fun rs => ∃ s1 b, (rs = [S s1, B b]) ∧ (ifB (bpick (bnot b) true (ine (slen s1) 10)) (Q [I 0, B false]) (∃ Inv : Int → Bool → Int → Int → Prop, ∃ m : Int → Bool → Int → Int → Nat, (Inv 0 false 0 0) ∧ (∀ x b1, ∀ x1 x2, (Inv x b1 x1 x2) → ifB (ilt x2 (slen s1)) ((((0 : Int) ≤ x2) ∧ (x2 < (slen s1))) ∧ (ifB (ilt (sbyte s1 x2) 48) (Q [I 0, B false]) ((((0 : Int) ≤ x2) ∧ (x2 < (slen s1))) ∧ (ifB (igt (sbyte s1 x2) 57) (Q [I 0, B false]) ((((0 : Int) ≤ x2) ∧ (x2 < (slen s1))) ∧ (((Option.some [] : Option (LL)) = Option.some []) ∧ ((Inv x b1 (wadd .i64 (wmul .i64 x1 10) (wcv .i64 (wsub .u8 (sbyte s1 x2) 48))) (wadd .i64 x2 1)) ∧ (Nat.le (Nat.succ (m x b1 (wadd .i64 (wmul .i64 x1 10) (wcv .i64 (wsub .u8 (sbyte s1 x2) 48))) (wadd .i64 x2 1))) (m x b1 x1 x2))))))))) (ifB (igt x1 4294967296) (Q [I 0, B false]) (Q [I x1, B true]))))))) : Ct Tryz.prog 29 {} [S s] Q :=
 fn_of (f := 29) SgT SvT (fun _ => none) Tryz.f29 Tryz.func29 (by kernel_rfl) (by kernel_rfl) h

theorem nenc_nf (cs : LL) (s a : Int) (Q : List SV → Prop) (h : Cl Tryz.prog 70 sP ([SV.agg [SL 21 cs, I s, I a]]) (fun rs => ∃ l x, (rs = [SL 1 l, I x]) ∧ (ifB (ine x 0) (Q ([SL 1 [], I 1])) (Cl Tryz.prog 72 sP [] (fun rs1 => ∃ rs2, (rs1 = [SV.arr .u32 256 rs2]) ∧ ((0 < (rlen ([[U8 102], [U8 98], [U8 115], [U8 49]]))) ∧ (((lsum (rlen ([[U8 102], [U8 98], [U8 115], [U8 49]])) (rlen l)) ≤ ((2147483648 : Int))) ∧ (Cl Tryz.prog 71 sO ([SV.arr .u32 256 rs2, SL 1 (rapp ([[U8 102], [U8 98], [U8 115], [U8 49]]) l)]) (fun rs3 => ∃ l1, (rs3 = [SL 1 l1]) ∧ (Q [SL 1 l1, I 0])))))))))) : Ct Tryz.prog 32 {} [st3 cs s a] Q :=
 fn_of (f := 32) SgT SvT (fun _ => none) Tryz.f32 Tryz.func32 (by kernel_rfl) (by kernel_rfl) h

theorem ndec_nf (rows : LL) (Q : List SV → Prop) (h : Cl Tryz.prog 72 sP [] (fun rs => ∃ rs1, (rs = [SV.arr .u32 256 rs1]) ∧ (Cl Tryz.prog 76 sP [SV.arr .u32 256 rs1, SL 1 rows] (fun rs2 => ∃ l x, (rs2 = [SL 1 l, I x]) ∧ (ifB (ine x 0) (Q ([SV.agg ([SL 21 [], I ((0 : Int)), I ((0 : Int))]), I x])) ((0 < (rlen ([[U8 102], [U8 98], [U8 115], [U8 49]]))) ∧ (Cl Tryz.prog 77 sP ([SL 1 l, SL 1 ([[U8 102], [U8 98], [U8 115], [U8 49]])]) (fun rs3 => ∃ l1 b, (rs3 = [SL 1 l1, B b]) ∧ (ifB (bnot b) (Q ([SV.agg ([SL 21 [], I ((0 : Int)), I ((0 : Int))]), I 11])) (Cl Tryz.prog 78 sP [SL 1 l1] (fun rs4 => ∃ l2 x1, ∃ x2 x3, (rs4 = [SV.agg [SL 21 l2, I x1, I x2], I x3]) ∧ (ifB (ine x3 0) (Q ([SV.agg ([SL 21 [], I ((0 : Int)), I ((0 : Int))]), I 11])) (Q ([SV.agg [SL 21 l2, I x1, I x2], I 0])))))))))))))) : Ct Tryz.prog 35 {} [SL 1 rows] Q :=
 fn_of (f := 35) SgT SvT (fun _ => none) Tryz.f35 Tryz.func35 (by kernel_rfl) (by kernel_rfl) h

theorem nsave_nf (rows : LL) (room steps : Int) (down : Bool) (cs : LL) (s a : Int) (Q : List SV → Prop) (h : Cl Tryz.prog 82 sP ([SV.agg [SL 3 rows, I room, I steps, B down]]) (fun rs => ∃ b, (rs = [B b]) ∧ (ifB (bnot b) (Q ([SV.agg [SL 3 rows, I room, I steps, B down], I 1])) (Cl Tryz.prog 43 sP ([SV.agg [SL 21 cs, I s, I a]]) (fun rs1 => ∃ b1, (rs1 = [B b1]) ∧ (ifB (bnot b1) (Q ([SV.agg [SL 3 rows, I room, I steps, B down], I 1])) (ifB down (Q ([SV.agg [SL 3 rows, I room, I steps, B down], I 16])) (Cl Tryz.prog 32 sP ([SV.agg [SL 21 cs, I s, I a]]) (fun rs2 => ∃ l x, (rs2 = [SL 1 l, I x]) ∧ (ifB (ine x 0) (Q ([SV.agg [SL 3 rows, I room, I steps, B down], I x])) (Cl Tryz.prog 83 sP ([SV.agg [SL 3 rows, I room, I steps, B down]]) (fun rs3 => ∃ x1, (rs3 = [I x1]) ∧ (Cl Tryz.prog 46 sP ([SV.agg [SL 3 rows, I room, I steps, B down], S (ByteArray.mk (Array.mk [116, 109, 112]))]) (fun rs4 => ∃ l1 x2, (rs4 = [SL 1 l1, I x2]) ∧ (ifB (ieq x2 0) (ifB (bpick (igt (wadd .i64 (wsub .i64 x1 (rlen l1)) (rlen l)) room) true (igt (wadd .i64 (wsub .i64 (rlen rows) 1) 1) 64)) (Q ([SV.agg [SL 3 rows, I room, I steps, B down], I 13])) (ifB (ieq x2 0) (Cl Tryz.prog 84 sP ([SV.agg [SL 3 rows, I room, I steps, B down], S (ByteArray.mk (Array.mk [116, 109, 112]))]) (fun rs5 => ∃ l2 x3, ∃ x4 b2 x5, (rs5 = [SV.agg [SL 3 l2, I x3, I x4, B b2], I x5]) ∧ (ifB (ine x5 0) (Q ([SV.agg [SL 3 l2, I x3, I x4, B b2], I x5])) (Cl Tryz.prog 85 sP ([SV.agg [SL 3 l2, I x3, I x4, B b2], S (ByteArray.mk (Array.mk [116, 109, 112]))]) (fun rs6 => ∃ l3 x6, ∃ x7 b3 x8, (rs6 = [SV.agg [SL 3 l3, I x6, I x7, B b3], I x8]) ∧ (ifB (ine x8 0) (Q ([SV.agg [SL 3 l3, I x6, I x7, B b3], I x8])) (Cl Tryz.prog 86 sP ([SV.agg [SL 3 l3, I x6, I x7, B b3], S (ByteArray.mk (Array.mk [116, 109, 112])), SL 1 l]) (fun rs7 => ∃ l4 x9, ∃ x10 b4 x11, (rs7 = [SV.agg [SL 3 l4, I x9, I x10, B b4], I x11]) ∧ (ifB (ine x11 0) (Q ([SV.agg [SL 3 l4, I x9, I x10, B b4], I x11])) (Cl Tryz.prog 87 sP ([SV.agg [SL 3 l4, I x9, I x10, B b4], S (ByteArray.mk (Array.mk [116, 109, 112]))]) (fun rs8 => ∃ l5 x12, ∃ x13 b5 x14, (rs8 = [SV.agg [SL 3 l5, I x12, I x13, B b5], I x14]) ∧ (ifB (ine x14 0) (Q ([SV.agg [SL 3 l5, I x12, I x13, B b5], I x14])) (Cl Tryz.prog 31 sP [I s] (fun rs9 => ∃ s1, (rs9 = [S s1]) ∧ (Cl Tryz.prog 88 sP ([SV.agg [SL 3 l5, I x12, I x13, B b5], S (ByteArray.mk (Array.mk [116, 109, 112])), S s1]) (fun rs10 => ∃ l6 x15, ∃ x16 b6 x17, (rs10 = [SV.agg [SL 3 l6, I x15, I x16, B b6], I x17]) ∧ (Q ([SV.agg [SL 3 l6, I x15, I x16, B b6], I x17])))))))))))))))))) (Cl Tryz.prog 85 sP ([SV.agg [SL 3 rows, I room, I steps, B down], S (ByteArray.mk (Array.mk [116, 109, 112]))]) (fun rs5 => ∃ l2 x3, ∃ x4 b2 x5, (rs5 = [SV.agg [SL 3 l2, I x3, I x4, B b2], I x5]) ∧ (ifB (ine x5 0) (Q ([SV.agg [SL 3 l2, I x3, I x4, B b2], I x5])) (Cl Tryz.prog 86 sP ([SV.agg [SL 3 l2, I x3, I x4, B b2], S (ByteArray.mk (Array.mk [116, 109, 112])), SL 1 l]) (fun rs6 => ∃ l3 x6, ∃ x7 b3 x8, (rs6 = [SV.agg [SL 3 l3, I x6, I x7, B b3], I x8]) ∧ (ifB (ine x8 0) (Q ([SV.agg [SL 3 l3, I x6, I x7, B b3], I x8])) (Cl Tryz.prog 87 sP ([SV.agg [SL 3 l3, I x6, I x7, B b3], S (ByteArray.mk (Array.mk [116, 109, 112]))]) (fun rs7 => ∃ l4 x9, ∃ x10 b4 x11, (rs7 = [SV.agg [SL 3 l4, I x9, I x10, B b4], I x11]) ∧ (ifB (ine x11 0) (Q ([SV.agg [SL 3 l4, I x9, I x10, B b4], I x11])) (Cl Tryz.prog 31 sP [I s] (fun rs8 => ∃ s1, (rs8 = [S s1]) ∧ (Cl Tryz.prog 88 sP ([SV.agg [SL 3 l4, I x9, I x10, B b4], S (ByteArray.mk (Array.mk [116, 109, 112])), S s1]) (fun rs9 => ∃ l5 x12, ∃ x13 b5 x14, (rs9 = [SV.agg [SL 3 l5, I x12, I x13, B b5], I x14]) ∧ (Q ([SV.agg [SL 3 l5, I x12, I x13, B b5], I x14]))))))))))))))))) (ifB (bpick (igt (wadd .i64 x1 (rlen l)) room) true (igt (wadd .i64 (rlen rows) 1) 64)) (Q ([SV.agg [SL 3 rows, I room, I steps, B down], I 13])) (ifB (ieq x2 0) (Cl Tryz.prog 84 sP ([SV.agg [SL 3 rows, I room, I steps, B down], S (ByteArray.mk (Array.mk [116, 109, 112]))]) (fun rs5 => ∃ l2 x3, ∃ x4 b2 x5, (rs5 = [SV.agg [SL 3 l2, I x3, I x4, B b2], I x5]) ∧ (ifB (ine x5 0) (Q ([SV.agg [SL 3 l2, I x3, I x4, B b2], I x5])) (Cl Tryz.prog 85 sP ([SV.agg [SL 3 l2, I x3, I x4, B b2], S (ByteArray.mk (Array.mk [116, 109, 112]))]) (fun rs6 => ∃ l3 x6, ∃ x7 b3 x8, (rs6 = [SV.agg [SL 3 l3, I x6, I x7, B b3], I x8]) ∧ (ifB (ine x8 0) (Q ([SV.agg [SL 3 l3, I x6, I x7, B b3], I x8])) (Cl Tryz.prog 86 sP ([SV.agg [SL 3 l3, I x6, I x7, B b3], S (ByteArray.mk (Array.mk [116, 109, 112])), SL 1 l]) (fun rs7 => ∃ l4 x9, ∃ x10 b4 x11, (rs7 = [SV.agg [SL 3 l4, I x9, I x10, B b4], I x11]) ∧ (ifB (ine x11 0) (Q ([SV.agg [SL 3 l4, I x9, I x10, B b4], I x11])) (Cl Tryz.prog 87 sP ([SV.agg [SL 3 l4, I x9, I x10, B b4], S (ByteArray.mk (Array.mk [116, 109, 112]))]) (fun rs8 => ∃ l5 x12, ∃ x13 b5 x14, (rs8 = [SV.agg [SL 3 l5, I x12, I x13, B b5], I x14]) ∧ (ifB (ine x14 0) (Q ([SV.agg [SL 3 l5, I x12, I x13, B b5], I x14])) (Cl Tryz.prog 31 sP [I s] (fun rs9 => ∃ s1, (rs9 = [S s1]) ∧ (Cl Tryz.prog 88 sP ([SV.agg [SL 3 l5, I x12, I x13, B b5], S (ByteArray.mk (Array.mk [116, 109, 112])), S s1]) (fun rs10 => ∃ l6 x15, ∃ x16 b6 x17, (rs10 = [SV.agg [SL 3 l6, I x15, I x16, B b6], I x17]) ∧ (Q ([SV.agg [SL 3 l6, I x15, I x16, B b6], I x17])))))))))))))))))) (Cl Tryz.prog 85 sP ([SV.agg [SL 3 rows, I room, I steps, B down], S (ByteArray.mk (Array.mk [116, 109, 112]))]) (fun rs5 => ∃ l2 x3, ∃ x4 b2 x5, (rs5 = [SV.agg [SL 3 l2, I x3, I x4, B b2], I x5]) ∧ (ifB (ine x5 0) (Q ([SV.agg [SL 3 l2, I x3, I x4, B b2], I x5])) (Cl Tryz.prog 86 sP ([SV.agg [SL 3 l2, I x3, I x4, B b2], S (ByteArray.mk (Array.mk [116, 109, 112])), SL 1 l]) (fun rs6 => ∃ l3 x6, ∃ x7 b3 x8, (rs6 = [SV.agg [SL 3 l3, I x6, I x7, B b3], I x8]) ∧ (ifB (ine x8 0) (Q ([SV.agg [SL 3 l3, I x6, I x7, B b3], I x8])) (Cl Tryz.prog 87 sP ([SV.agg [SL 3 l3, I x6, I x7, B b3], S (ByteArray.mk (Array.mk [116, 109, 112]))]) (fun rs7 => ∃ l4 x9, ∃ x10 b4 x11, (rs7 = [SV.agg [SL 3 l4, I x9, I x10, B b4], I x11]) ∧ (ifB (ine x11 0) (Q ([SV.agg [SL 3 l4, I x9, I x10, B b4], I x11])) (Cl Tryz.prog 31 sP [I s] (fun rs8 => ∃ s1, (rs8 = [S s1]) ∧ (Cl Tryz.prog 88 sP ([SV.agg [SL 3 l4, I x9, I x10, B b4], S (ByteArray.mk (Array.mk [116, 109, 112])), S s1]) (fun rs9 => ∃ l5 x12, ∃ x13 b5 x14, (rs9 = [SV.agg [SL 3 l5, I x12, I x13, B b5], I x14]) ∧ (Q ([SV.agg [SL 3 l5, I x12, I x13, B b5], I x14])))))))))))))))))))))))))))))))) : Ct Tryz.prog 38 {} [dk4 rows room steps down, st3 cs s a] Q :=
 fn_of (f := 38) SgT SvT (fun _ => none) Tryz.f38 Tryz.func38 (by kernel_rfl) (by kernel_rfl) h

theorem nnew_nf (rows : LL) (room steps : Int) (down : Bool) (Q : List SV → Prop) (h : Cl Tryz.prog 82 sP ([SV.agg [SL 3 rows, I room, I steps, B down]]) (fun rs => ∃ b, (rs = [B b]) ∧ (ifB (bnot b) (Q ([SV.agg ([SL 21 [], I ((0 : Int)), I ((0 : Int))]), I 1])) (ifB down (Q ([SV.agg ([SL 21 [], I ((0 : Int)), I ((0 : Int))]), I 16])) (Cl Tryz.prog 97 sP ([SV.agg [SL 3 rows, I room, I steps, B down]]) (fun rs1 => ∃ l, (rs1 = [SL 1 l]) ∧ (∃ Inv : Int → (LL) → Int → Int → Prop, ∃ m : Int → (LL) → Int → Int → Nat, (Inv 0 [] ((-1 : Int)) ((0 : Int))) ∧ (∀ x l1, ∀ x1 x2, (Inv x l1 x1 x2) → ifB (ilt x (rlen l)) ((((0 : Int) ≤ x) ∧ (x < (rlen l))) ∧ (∃ s, (rget l x = [S s]) ∧ (Cl Tryz.prog 29 sP [S s] (fun rs2 => ∃ x3 b1, (rs2 = [I x3, B b1]) ∧ (ifB (bpick (bnot b1) true (ile x3 x1)) ((Sm (some ([[SL 3 rows, I room, I steps, B down], [SV.slice 21 [] 1, I ((0 : Int)), I ((0 : Int))]]))) ∧ ((Inv (wadd .i64 x 1) l1 x1 x2) ∧ (Nat.le (Nat.succ (m (wadd .i64 x 1) l1 x1 x2)) (m x l1 x1 x2)))) (Cl Tryz.prog 46 sP ([SV.agg [SL 3 rows, I room, I steps, B down], S s]) (fun rs3 => ∃ l2 x4, (rs3 = [SL 1 l2, I x4]) ∧ (ifB (ine x4 0) ((Sm (some ([[SL 3 rows, I room, I steps, B down], [SV.slice 21 [] 1, I ((0 : Int)), I ((0 : Int))]]))) ∧ ((Inv (wadd .i64 x 1) l1 x1 x2) ∧ (Nat.le (Nat.succ (m (wadd .i64 x 1) l1 x1 x2)) (m x l1 x1 x2)))) (Cl Tryz.prog 35 sP [SL 1 l2] (fun rs4 => ∃ l3 x5, ∃ x6 x7, (rs4 = [SV.agg [SL 21 l3, I x5, I x6], I x7]) ∧ (ifB (bpick (ieq x7 0) (ieq x5 x3) false) ((Sm (some ([[SL 3 rows, I room, I steps, B down], [SV.slice 21 [] 1, I ((0 : Int)), I ((0 : Int))]]))) ∧ ((Inv (wadd .i64 x 1) l3 x5 x6) ∧ (Nat.le (Nat.succ (m (wadd .i64 x 1) l3 x5 x6)) (m x l1 x1 x2)))) ((Sm (some ([[SL 3 rows, I room, I steps, B down], [SV.slice 21 [] 1, I ((0 : Int)), I ((0 : Int))]]))) ∧ ((Inv (wadd .i64 x 1) l1 x1 x2) ∧ (Nat.le (Nat.succ (m (wadd .i64 x 1) l1 x1 x2)) (m x l1 x1 x2))))))))))))))) (ifB (ilt x1 0) (Q ([SV.agg ([SL 21 [], I ((0 : Int)), I ((0 : Int))]), I 14])) (Q ([SV.agg [SL 21 l1, I x1, I x2], I 0]))))))))))) : Ct Tryz.prog 41 {} [dk4 rows room steps down] Q :=
 fn_of (f := 41) SgT SvT (fun k => bif Nat.beq k 24 then some { slots := [(23,false,[.int .i64])], boxes := [(512,[.sl 21,.int .i64,.int .i64])], fixed := [128, 256] } else none) Tryz.f41 Tryz.func41 (by kernel_rfl) (by kernel_rfl) h

theorem rnname_nf (n : Int) (Q : List SV → Prop) (h : ∃ Inv : ByteArray → Int → Int → Prop, ∃ m : ByteArray → Int → Int → Nat, (Inv (ByteArray.mk (Array.mk [])) n 0) ∧ (∀ s x x1, (Inv s x x1) → ifB (ilt x1 10) ((((10 : Int) = 0) → False) ∧ ((isBytes ([[U8 (wadd .u8 48 (wcv .u8 (wrem x 10)))]])) ∧ (((lsum (slen (bstr ([[U8 (wadd .u8 48 (wcv .u8 (wrem x 10)))]]))) (slen s)) ≤ 9223372036854775807) ∧ ((((10 : Int) = 0) → False) ∧ (((Option.some [] : Option (LL)) = Option.some []) ∧ ((Inv (scat (bstr ([[U8 (wadd .u8 48 (wcv .u8 (wrem x 10)))]])) s) (wquo .i64 x 10) (wadd .i64 x1 1)) ∧ (Nat.le (Nat.succ (m (scat (bstr ([[U8 (wadd .u8 48 (wcv .u8 (wrem x 10)))]])) s) (wquo .i64 x 10) (wadd .i64 x1 1))) (m s x x1)))))))) (((lsum (slen (ByteArray.mk (Array.mk [115, 110, 97, 112, 46]))) (slen s)) ≤ 9223372036854775807) ∧ (Q ([S (scat (ByteArray.mk (Array.mk [115, 110, 97, 112, 46])) s)]))))) : Ct Tryz.prog 28 {} [I n] Q :=
 fn_of (f := 28) SgT SvT (fun _ => none) Tryz.f28 Tryz.func28 (by kernel_rfl) (by kernel_rfl) h

theorem rnnum_nf (s : ByteArray) (Q : List SV → Prop) (h : ifB (ine (slen s) 15) (Q [I 0, B false]) ((((0 : Int) ≤ 0) ∧ (((0 : Int) ≤ 5) ∧ ((5 : Int) ≤ (slen s)))) ∧ (ifB (sne (ssub s 0 5) (ByteArray.mk (Array.mk [115, 110, 97, 112, 46]))) (Q [I 0, B false]) (∃ Inv : Int → Bool → Int → Int → Prop, ∃ m : Int → Bool → Int → Int → Nat, (Inv 0 false 0 5) ∧ (∀ x b, ∀ x1 x2, (Inv x b x1 x2) → ifB (ilt x2 15) ((((0 : Int) ≤ x2) ∧ (x2 < (slen s))) ∧ (ifB (ilt (sbyte s x2) 48) (Q [I 0, B false]) ((((0 : Int) ≤ x2) ∧ (x2 < (slen s))) ∧ (ifB (igt (sbyte s x2) 57) (Q [I 0, B false]) ((((0 : Int) ≤ x2) ∧ (x2 < (slen s))) ∧ (((Option.some [] : Option (LL)) = Option.some []) ∧ ((Inv x b (wadd .i64 (wmul .i64 10 x1) (wcv .i64 (wsub .u8 (sbyte s x2) 48))) (wadd .i64 x2 1)) ∧ (Nat.le (Nat.succ (m x b (wadd .i64 (wmul .i64 10 x1) (wcv .i64 (wsub .u8 (sbyte s x2) 48))) (wadd .i64 x2 1))) (m x b x1 x2))))))))) (ifB (igt x1 4294967296) (Q [I 0, B false]) (Q [I x1, B true]))))))) : Ct Tryz.prog 30 {} [S s] Q :=
 fn_of (f := 30) SgT SvT (fun _ => none) Tryz.f30 Tryz.func30 (by kernel_rfl) (by kernel_rfl) h

theorem rnenc_nf (cs : LL) (s a : Int) (Q : List SV → Prop) (h : Cl Tryz.prog 75 sP ([SV.agg [SL 21 cs, I s, I a]]) (fun rs => ∃ l, (rs = [SL 1 l]) ∧ (((lsum (rlen ([[U8 102], [U8 98], [U8 115], [U8 49]])) (rlen l)) ≤ ((2147483648 : Int))) ∧ (Cl Tryz.prog 74 sO ([SL 1 (rapp ([[U8 102], [U8 98], [U8 115], [U8 49]]) l)]) (fun rs1 => ∃ l1, (rs1 = [SL 1 l1]) ∧ (Q [SL 1 l1])))))) : Ct Tryz.prog 34 {} [st3 cs s a] Q :=
 fn_of (f := 34) SgT SvT (fun _ => none) Tryz.f34 Tryz.func34 (by kernel_rfl) (by kernel_rfl) h

theorem rndec_nf (rows : LL) (Q : List SV → Prop) (h : ifB (ilt (rlen rows) 4) (Q ([SV.agg ([SL 21 [], I ((0 : Int)), I ((0 : Int))]), I 10])) (Cl Tryz.prog 79 sP [SL 1 rows] (fun rs => ∃ b, (rs = [B b]) ∧ (ifB (bnot b) (Q ([SV.agg ([SL 21 [], I ((0 : Int)), I ((0 : Int))]), I 12])) (ifB (ilt (rlen rows) 8) (Q ([SV.agg ([SL 21 [], I ((0 : Int)), I ((0 : Int))]), I 11])) ((((0 : Int) ≤ 0) ∧ (0 < (rlen rows))) ∧ (∃ x, (rget rows 0 = [U8 x]) ∧ (ifB (ine x 102) (Q ([SV.agg ([SL 21 [], I ((0 : Int)), I ((0 : Int))]), I 11])) ((((0 : Int) ≤ 1) ∧ (1 < (rlen rows))) ∧ (∃ x1, (rget rows 1 = [U8 x1]) ∧ (ifB (ine x1 98) (Q ([SV.agg ([SL 21 [], I ((0 : Int)), I ((0 : Int))]), I 11])) ((((0 : Int) ≤ 2) ∧ (2 < (rlen rows))) ∧ (∃ x2, (rget rows 2 = [U8 x2]) ∧ (ifB (ine x2 115) (Q ([SV.agg ([SL 21 [], I ((0 : Int)), I ((0 : Int))]), I 11])) ((((0 : Int) ≤ 3) ∧ (3 < (rlen rows))) ∧ (∃ x3, (rget rows 3 = [U8 x3]) ∧ (ifB (ine x3 49) (Q ([SV.agg ([SL 21 [], I ((0 : Int)), I ((0 : Int))]), I 11])) ((((0 : Int) ≤ 4) ∧ (((4 : Int) ≤ (wsub .i64 (rlen rows) 4)) ∧ ((wsub .i64 (rlen rows) 4) ≤ (rlen rows)))) ∧ (Cl Tryz.prog 80 sP [SL 1 (rsub rows 4 (wsub .i64 (rlen rows) 4))] (fun rs1 => ∃ l x4, ∃ x5 b1, (rs1 = [SV.agg [SL 21 l, I x4, I x5], B b1]) ∧ (ifB (bnot b1) (Q ([SV.agg ([SL 21 [], I ((0 : Int)), I ((0 : Int))]), I 11])) (Q ([SV.agg [SL 21 l, I x4, I x5], I 0]))))))))))))))))))))))) : Ct Tryz.prog 36 {} [SL 1 rows] Q :=
 fn_of (f := 36) SgT SvT (fun _ => none) Tryz.f36 Tryz.func36 (by kernel_rfl) (by kernel_rfl) h

theorem rnsave_nf (rows : LL) (room steps : Int) (down : Bool) (cs : LL) (s a : Int) (Q : List SV → Prop) (h : Cl Tryz.prog 89 sP ([SV.agg [SL 3 rows, I room, I steps, B down]]) (fun rs => ∃ b, (rs = [B b]) ∧ (ifB (bnot b) (Q ([SV.agg [SL 3 rows, I room, I steps, B down], I 1])) (Cl Tryz.prog 33 sP ([SV.agg [SL 21 cs, I s, I a]]) (fun rs1 => ∃ b1, (rs1 = [B b1]) ∧ (ifB (bnot b1) (Q ([SV.agg [SL 3 rows, I room, I steps, B down], I 1])) (ifB down (Q ([SV.agg [SL 3 rows, I room, I steps, B down], I 16])) (Cl Tryz.prog 34 sP ([SV.agg [SL 21 cs, I s, I a]]) (fun rs2 => ∃ l, (rs2 = [SL 1 l]) ∧ (Cl Tryz.prog 90 sP ([SV.agg [SL 3 rows, I room, I steps, B down], S (ByteArray.mk (Array.mk [116, 109, 112]))]) (fun rs3 => ∃ x, (rs3 = [I x]) ∧ (Cl Tryz.prog 67 sP ([SV.agg [SL 3 rows, I room, I steps, B down]]) (fun rs4 => ∃ x1, (rs4 = [I x1]) ∧ (∃ Inv : Int → Int → Prop, ∃ m : Int → Int → Nat, (ifB (ige x 0) ((((0 : Int) ≤ x) ∧ (x < (rlen rows))) ∧ (∃ s1 l1 l2, (rget rows x = [S s1, SL 1 l1, SL 1 l2]) ∧ (Cl Tryz.prog 91 sP ([SV.agg [S s1, SL 1 l1, SL 1 l2]]) (fun rs5 => ∃ l3, (rs5 = [SL 1 l3]) ∧ ((Sm (some ([[SL 3 rows, I room, I steps, B down], [SL 21 cs, I s, I a], [SV.slice 3 [] 1, I ((0 : Int)), I ((0 : Int)), B false]]))) ∧ (Inv (wsub .i64 (wadd .i64 x1 (rlen l)) (rlen l3)) (rlen rows))))))) ((Sm (some ([[SL 3 rows, I room, I steps, B down], [SL 21 cs, I s, I a], [SV.slice 3 [] 1, I ((0 : Int)), I ((0 : Int)), B false]]))) ∧ (Inv (wadd .i64 x1 (rlen l)) (wadd .i64 (rlen rows) 1)))) ∧ (∀ x2 x3, (Inv x2 x3) → ifB (bpick (igt x2 room) true (igt x3 64)) (Q ([SV.agg [SL 3 rows, I room, I steps, B down], I 13])) (∃ Inv1 : Int → (LL) → Int → Int → Bool → Prop, ∃ m1 : Int → (LL) → Int → Int → Bool → Nat, (ifB (ige x 0) (Cl Tryz.prog 92 sP ([SV.agg [SL 3 rows, I room, I steps, B down], S (ByteArray.mk (Array.mk [116, 109, 112]))]) (fun rs5 => ∃ l1 x4, ∃ x5 b2 x6, (rs5 = [SV.agg [SL 3 l1, I x4, I x5, B b2], I x6]) ∧ ((Sm (some ([[SL 21 cs, I s, I a], [SV.slice 3 [] 1, I ((0 : Int)), I ((0 : Int)), B false]]))) ∧ (Inv1 x6 l1 x4 x5 b2)))) ((Sm (some ([[SL 21 cs, I s, I a], [SV.slice 3 [] 1, I ((0 : Int)), I ((0 : Int)), B false]]))) ∧ (Inv1 0 rows room steps down))) ∧ (∀ x4 l1, ∀ x5 x6 b2, (Inv1 x4 l1 x5 x6 b2) → ∃ Inv2 : Int → (LL) → Int → Int → Bool → Prop, ∃ m2 : Int → (LL) → Int → Int → Bool → Nat, (ifB (ieq x4 0) (Cl Tryz.prog 93 sP ([SV.agg [SL 3 l1, I x5, I x6, B b2], S (ByteArray.mk (Array.mk [116, 109, 112]))]) (fun rs5 => ∃ l2 x7, ∃ x8 b3 x9, (rs5 = [SV.agg [SL 3 l2, I x7, I x8, B b3], I x9]) ∧ ((Sm (some ([[SL 21 cs, I s, I a], [SV.slice 3 [] 1, I ((0 : Int)), I ((0 : Int)), B false]]))) ∧ (Inv2 x9 l2 x7 x8 b3)))) ((Sm (some ([[SL 21 cs, I s, I a], [SV.slice 3 [] 1, I ((0 : Int)), I ((0 : Int)), B false]]))) ∧ (Inv2 x4 l1 x5 x6 b2))) ∧ (∀ x7 l2, ∀ x8 x9 b3, (Inv2 x7 l2 x8 x9 b3) → ∃ Inv3 : Int → (LL) → Int → Int → Bool → Prop, ∃ m3 : Int → (LL) → Int → Int → Bool → Nat, (ifB (ieq x7 0) (Cl Tryz.prog 94 sP ([SV.agg [SL 3 l2, I x8, I x9, B b3], S (ByteArray.mk (Array.mk [116, 109, 112])), SL 1 l]) (fun rs5 => ∃ l3 x10, ∃ x11 b4 x12, (rs5 = [SV.agg [SL 3 l3, I x10, I x11, B b4], I x12]) ∧ ((Sm (some ([[SL 21 cs, I s, I a], [SV.slice 3 [] 1, I ((0 : Int)), I ((0 : Int)), B false]]))) ∧ (Inv3 x12 l3 x10 x11 b4)))) ((Sm (some ([[SL 21 cs, I s, I a], [SV.slice 3 [] 1, I ((0 : Int)), I ((0 : Int)), B false]]))) ∧ (Inv3 x7 l2 x8 x9 b3))) ∧ (∀ x10 l3, ∀ x11 x12 b4, (Inv3 x10 l3 x11 x12 b4) → ∃ Inv4 : Int → (LL) → Int → Int → Bool → Prop, ∃ m4 : Int → (LL) → Int → Int → Bool → Nat, (ifB (ieq x10 0) (Cl Tryz.prog 95 sP ([SV.agg [SL 3 l3, I x11, I x12, B b4], S (ByteArray.mk (Array.mk [116, 109, 112]))]) (fun rs5 => ∃ l4 x13, ∃ x14 b5 x15, (rs5 = [SV.agg [SL 3 l4, I x13, I x14, B b5], I x15]) ∧ ((Sm (some ([[SL 21 cs, I s, I a], [SV.slice 3 [] 1, I ((0 : Int)), I ((0 : Int)), B false]]))) ∧ (Inv4 x15 l4 x13 x14 b5)))) ((Sm (some ([[SL 21 cs, I s, I a], [SV.slice 3 [] 1, I ((0 : Int)), I ((0 : Int)), B false]]))) ∧ (Inv4 x10 l3 x11 x12 b4))) ∧ (∀ x13 l4, ∀ x14 x15 b5, (Inv4 x13 l4 x14 x15 b5) → ∃ Inv5 : Int → (LL) → Int → Int → Bool → Prop, ∃ m5 : Int → (LL) → Int → Int → Bool → Nat, (ifB (ieq x13 0) (Cl Tryz.prog 28 sP [I s] (fun rs5 => ∃ s1, (rs5 = [S s1]) ∧ (Cl Tryz.prog 96 sP ([SV.agg [SL 3 l4, I x14, I x15, B b5], S (ByteArray.mk (Array.mk [116, 109, 112])), S s1]) (fun rs6 => ∃ l5 x16, ∃ x17 b6 x18, (rs6 = [SV.agg [SL 3 l5, I x16, I x17, B b6], I x18]) ∧ ((Sm (some ([[SL 21 cs, I s, I a], [SV.slice 3 [] 1, I ((0 : Int)), I ((0 : Int)), B false]]))) ∧ (Inv5 x18 l5 x16 x17 b6)))))) ((Sm (some ([[SL 21 cs, I s, I a], [SV.slice 3 [] 1, I ((0 : Int)), I ((0 : Int)), B false]]))) ∧ (Inv5 x13 l4 x14 x15 b5))) ∧ (∀ x16 l5, ∀ x17 x18 b6, (Inv5 x16 l5 x17 x18 b6) → Q ([SV.agg [SL 3 l5, I x17, I x18, B b6], I x16])))))))))))))))))))))) : Ct Tryz.prog 39 {} [dk4 rows room steps down, st3 cs s a] Q :=
 fn_of (f := 39) SgT SvT (fun k => bif Nat.beq k 4000036 then some { slots := [(8,false,[.int .i64]),(9,false,[.int .i64])], fixed := [256, 384, 512] } else bif Nat.beq k 4000058 then some { slots := [(10,false,[.int .i64])], boxes := [(256,[.sl 3,.int .i64,.int .i64,.bool])], fixed := [384, 512] } else bif Nat.beq k 4000065 then some { slots := [(10,false,[.int .i64])], boxes := [(256,[.sl 3,.int .i64,.int .i64,.bool])], fixed := [384, 512] } else bif Nat.beq k 4000072 then some { slots := [(10,false,[.int .i64])], boxes := [(256,[.sl 3,.int .i64,.int .i64,.bool])], fixed := [384, 512] } else bif Nat.beq k 4000080 then some { slots := [(10,false,[.int .i64])], boxes := [(256,[.sl 3,.int .i64,.int .i64,.bool])], fixed := [384, 512] } else bif Nat.beq k 4000087 then some { slots := [(10,false,[.int .i64])], boxes := [(256,[.sl 3,.int .i64,.int .i64,.bool])], fixed := [384, 512] } else none) Tryz.f39 Tryz.func39 (by kernel_rfl) (by kernel_rfl) h

theorem rnnew_nf (rows : LL) (room steps : Int) (down : Bool) (Q : List SV → Prop) (h : Cl Tryz.prog 89 sP ([SV.agg [SL 3 rows, I room, I steps, B down]]) (fun rs => ∃ b, (rs = [B b]) ∧ (ifB (bnot b) (Q ([SV.agg ([SL 21 [], I ((0 : Int)), I ((0 : Int))]), I 1])) (ifB down (Q ([SV.agg ([SL 21 [], I ((0 : Int)), I ((0 : Int))]), I 16])) (∃ Inv : Int → Int → (LL) → Int → Int → Prop, ∃ m : Int → Int → (LL) → Int → Int → Nat, (Inv 0 14 [] ((0 : Int)) ((0 : Int))) ∧ (∀ x x1, ∀ l x2 x3, (Inv x x1 l x2 x3) → ifB (ilt x (rlen rows)) ((((0 : Int) ≤ x) ∧ (x < (rlen rows))) ∧ (∃ s l1 l2, (rget rows x = [S s, SL 1 l1, SL 1 l2]) ∧ (Cl Tryz.prog 30 sP [S s] (fun rs1 => ∃ x4 b1, (rs1 = [I x4, B b1]) ∧ ((((0 : Int) ≤ x) ∧ (x < (rlen rows))) ∧ (∃ s1 l3 l4, (rget rows x = [S s1, SL 1 l3, SL 1 l4]) ∧ (Cl Tryz.prog 91 sP ([SV.agg [S s1, SL 1 l3, SL 1 l4]]) (fun rs2 => ∃ l5, (rs2 = [SL 1 l5]) ∧ (Cl Tryz.prog 36 sP [SL 1 l5] (fun rs3 => ∃ l6 x5, ∃ x6 x7, (rs3 = [SV.agg [SL 21 l6, I x5, I x6], I x7]) ∧ (ifB (bpick (bpick (bpick b1 (ieq x7 0) false) (ieq x5 x4) false) (bpick (ine x1 0) true (igt x4 x2)) false) ((Sm (some ([[SL 3 rows, I room, I steps, B down], [SV.slice 21 [] 1, I ((0 : Int)), I ((0 : Int))]]))) ∧ ((Inv (wadd .i64 x 1) 0 l6 x5 x6) ∧ (Nat.le (Nat.succ (m (wadd .i64 x 1) 0 l6 x5 x6)) (m x x1 l x2 x3)))) ((Sm (some ([[SL 3 rows, I room, I steps, B down], [SV.slice 21 [] 1, I ((0 : Int)), I ((0 : Int))]]))) ∧ ((Inv (wadd .i64 x 1) x1 l x2 x3) ∧ (Nat.le (Nat.succ (m (wadd .i64 x 1) x1 l x2 x3)) (m x x1 l x2 x3))))))))))))))) (Q ([SV.agg [SL 21 l, I x2, I x3], I x1])))))))) : Ct Tryz.prog 42 {} [dk4 rows room steps down] Q :=
 fn_of (f := 42) SgT SvT (fun k => bif Nat.beq k 19 then some { slots := [(6,false,[.int .i64]),(5,false,[.int .i64])], boxes := [(512,[.sl 21,.int .i64,.int .i64])], fixed := [128, 256] } else none) Tryz.f42 Tryz.func42 (by kernel_rfl) (by kernel_rfl) h

theorem scutp_nf (s t : ByteArray) (Q : List SV → Prop) (h : Cl Tryz.prog 133 sP [S s, S t] (fun rs => ∃ s1 b, (rs = [S s1, B b]) ∧ (Q [S s1, B b]))) : Ct Tryz.prog 69 {} [S s, S t] Q :=
 fn_of (f := 69) SgT SvT (fun _ => none) Tryz.f69 Tryz.func69 (by kernel_rfl) (by kernel_rfl) h

theorem scutp2_nf (s t : ByteArray) (Q : List SV → Prop) (h : Cl Tryz.prog 194 sP [S s, S t] (fun rs => ∃ b, (rs = [B b]) ∧ (ifB (bnot b) (Q [S s, B false]) ((((0 : Int) ≤ (slen t)) ∧ (((slen t) ≤ (slen s)) ∧ ((slen s) ≤ (slen s)))) ∧ (Q [S (ssub s (slen t) (slen s)), B true]))))) : Ct Tryz.prog 133 {} [S s, S t] Q :=
 fn_of (f := 133) SgT SvT (fun _ => none) Tryz.f133 Tryz.func133 (by kernel_rfl) (by kernel_rfl) h

end Go.Proofs.YtbocfphenkidnaaGreatDoor.Snp

namespace Go.Proofs.YtbocfphenkidnaaGreatDoor.Snp
open Go Go.Px Go.Proofs Cod Seg Sgr Go.Proofs.YtbocfphenkidnaaGreatDoor.St Row
set_option maxRecDepth 100000
set_option linter.unusedVariables false

abbrev pre : List UInt8 := [115, 110, 97, 112, 46]
def snNm (q : Int) : ByteArray := ⟨(pre ++ dgs 10 q.toNat).toArray⟩
def inQ (q : Int) : Prop := 0 ≤ q ∧ q ≤ 4294967296
instance (q : Int) : Decidable (inQ q) := inferInstanceAs (Decidable (_ ∧ _))

def isD (c : UInt8) : Prop := 48 ≤ c.toNat ∧ c.toNat ≤ 57
def vD (l : List UInt8) : Nat := l.foldl (fun n c => 10 * n + (c.toNat - 48)) 0
theorem vD_snoc (l : List UInt8) (c : UInt8) : vD (l ++ [c]) = 10 * vD l + (c.toNat - 48) := by simp [vD]
theorem dgs_isD : ∀ (k n : Nat), ∀ c ∈ dgs k n, isD c
 | 0, _, c, h => by cases h
 | k + 1, n, c, h => by
  rw [dgs, List.mem_append] at h
  rcases h with h | h
  ·exact dgs_isD k _ c h
  ·simp at h
   subst h
   unfold isD
   rw [show (48 : UInt8) + UInt8.ofNat (n % 10) = UInt8.ofNat (48 + n % 10) by simp] 
   have : (UInt8.ofNat (48 + n % 10)).toNat = 48 + n % 10 := by simp [UInt8.toNat_ofNat']; omega
   omega
theorem vD_dgs : ∀ (k n : Nat), n < 10 ^ k → vD (dgs k n) = n
 | 0, n, h => by simp at h; subst h; rfl
 | k + 1, n, h => by
  have e : (UInt8.ofNat (48 + n % 10)).toNat = 48 + n % 10 := by simp [UInt8.toNat_ofNat']; omega
  rw [dgs, vD_snoc, vD_dgs k (n / 10) (by rw [Nat.pow_succ] at h; omega), e]
  omega
theorem dgs_vDr : ∀ (r : List UInt8), (∀ c ∈ r, isD c) → dgs r.length (vD r.reverse) = r.reverse ∧ vD r.reverse < 10 ^ r.length
 | [], _ => ⟨rfl, by decide⟩
 | c :: r, h => by
  obtain ⟨h1, h2⟩ := dgs_vDr r fun x hx => h x (by simp [hx])
  have hc := h c (by simp)
  unfold isD at hc
  rw [List.reverse_cons, vD_snoc, List.length_cons]
  constructor
  ·rw [dgs, show (10 * vD r.reverse + (c.toNat - 48)) / 10 = vD r.reverse by omega, h1, show (10 * vD r.reverse + (c.toNat - 48)) % 10 = c.toNat - 48 by omega, show 48 + (c.toNat - 48) = c.toNat by omega, UInt8.ofNat_toNat]
  ·rw [Nat.pow_succ]; omega
theorem dgs_vD (l : List UInt8) (h : ∀ c ∈ l, isD c) : dgs l.length (vD l) = l ∧ vD l < 10 ^ l.length := by
 have := dgs_vDr l.reverse fun c hc => h c (by simpa using hc)
 simpa using this
theorem snNm_inj {a b : Int} (ha : inQ a) (hb : inQ b) (h : snNm a = snNm b) : a = b := by
 have h1 : (pre ++ dgs 10 a.toNat) = pre ++ dgs 10 b.toNat := by
  have := congrArg (fun s : ByteArray => s.data.toList) h
  simpa [snNm] using this
 have h2 := congrArg vD (List.append_cancel_left h1)
 unfold inQ at ha hb
 rw [vD_dgs 10 _ (by omega), vD_dgs 10 _ (by omega)] at h2
 omega

theorem nname_fn (n : Int) : Ct Tryz.prog 31 {} [I n] (fun r => r = [S (if inQ n then snNm n else ByteArray.mk #[])]) := by
 refine nname_nf _ _ (ifB_intro (fun h => ?_) (fun h => ?_))
 ·simp only [bor_t, ilt, igt, decide_eq_true_eq] at h
  have : ¬ inQ n := by unfold inQ; omega
  rw [if_neg this]
 ·simp only [bor_f, ilt, igt, decide_eq_false_iff_not] at h
  have hq : inQ n := by unfold inQ; omega
  rw [if_pos hq]
  have hi : Lib.itoa n = Lib.decDigits n.toNat := by unfold Lib.itoa; rw [if_neg (by omega)]
  have hl : (Lib.decDigits n.toNat).length ≤ 10 := decDigits_le (by omega) (by omega)
  refine Cl.of (fmt10_fn n (by omega) (by omega)) ⟨_, rfl, ?_⟩
  rw [hi, slen_l]
  have w : wsub IntKind.i64 10 ((Lib.decDigits n.toNat).length : Int) = ((10 - (Lib.decDigits n.toNat).length : Nat) : Int) := by
   rw [wsub_i64 (by omega) (by omega)]; omega
  rw [w]
  refine Cl.of (repeat_fn ⟨[48].toArray⟩ _ (by omega) (by simp [ByteArray.size]; omega)) ⟨_, rfl, ?_⟩
  have e0 : (ByteArray.mk (Array.mk [115, 110, 97, 112, 46])) = ⟨pre.toArray⟩ := rfl
  have e1 : (ByteArray.mk [48].toArray).data.toList = [48] := rfl
  rw [e1, repeat0, e0, scat_l, scat_l, slen_l, slen_l, slen_l]
  refine ⟨by simp [lsum]; omega, by simp [lsum]; omega, ?_⟩
  rw [List.append_assoc, dgs_dec 10 n.toNat (by omega) (by omega)]
  rfl

theorem rnname_fn (n : Int) (hn : inQ n) : Ct Tryz.prog 28 {} [I n] (fun r => r = [S (snNm n)]) := by
 unfold inQ at hn
 refine rnname_nf _ _ ⟨fun s x x1 => 0 ≤ x1 ∧ x1 ≤ 10 ∧ x = ((n.toNat / 10 ^ x1.toNat : Nat) : Int) ∧ s = ⟨(dgs x1.toNat n.toNat).toArray⟩, fun _ _ x1 => (10 - x1).toNat, ⟨by omega, by omega, by simp; omega, rfl⟩, ?_⟩
 rintro _ _ x1 ⟨i0, i1, rfl, rfl⟩
 refine ifB_intro (fun h => ?_) (fun h => ?_)
 ·simp at h
  have w : wadd IntKind.i64 x1 1 = x1 + 1 := wadd_i64 (by omega) (by omega)
  have hle : n.toNat / 10 ^ x1.toNat ≤ n.toNat := Nat.div_le_self _ _
  have e2 : wrem ((n.toNat / 10 ^ x1.toNat : Nat) : Int) 10 = ((n.toNat / 10 ^ x1.toNat % 10 : Nat) : Int) := by
   generalize n.toNat / 10 ^ x1.toNat = z
   unfold wrem
   rw [Int.tmod_eq_emod_of_nonneg (by omega)]; omega
  have e1 : wquo .i64 ((n.toNat / 10 ^ x1.toNat : Nat) : Int) 10 = ((n.toNat / 10 ^ (x1 + 1).toNat : Nat) : Int) := by
   rw [show (x1 + 1).toNat = x1.toNat + 1 by omega, Nat.pow_succ, ← Nat.div_div_eq_div_mul]
   generalize n.toNat / 10 ^ x1.toNat = z at *
   unfold wquo
   rw [Int.tdiv_eq_ediv_of_nonneg (by omega), show (z : Int) / 10 = ((z / 10 : Nat) : Int) by omega]
   exact wrap_i64 (by omega) (by omega)
  obtain ⟨g1, g2⟩ := digit_row (n.toNat / 10 ^ x1.toNat % 10) (by omega)
  rw [e2, e1, w, g1, scat_l, slen_l, slen_l, dgs_len]
  refine ⟨by omega, g2, by simp [lsum]; omega, by omega, rfl, ⟨by omega, by omega, rfl, ?_⟩, mlt (by dsimp only; omega)⟩
  rw [show (x1 + 1).toNat = x1.toNat + 1 by omega, dgs_cons]; rfl
 ·simp at h
  have e8 : x1.toNat = 10 := by omega
  have e0 : (ByteArray.mk (Array.mk [115, 110, 97, 112, 46])) = ⟨pre.toArray⟩ := rfl
  rw [e8, e0, scat_l, slen_l, slen_l, dgs_len]
  exact ⟨by simp [lsum], rfl⟩

def NumR (s : ByteArray) (n : Int) (b : Bool) : Prop := (∃ q, inQ q ∧ s = snNm q ∧ n = q ∧ b = true) ∨ ((∀ q, inQ q → s ≠ snNm q) ∧ n = 0 ∧ b = false)
theorem NumR.eq {s : ByteArray} {n m : Int} {b c : Bool} (h : NumR s n b) (k : NumR s m c) : n = m ∧ b = c := by
 rcases h with ⟨q, h1, h2, rfl, rfl⟩ | ⟨h1, rfl, rfl⟩ <;> rcases k with ⟨p, k1, k2, rfl, rfl⟩ | ⟨k1, rfl, rfl⟩
 ·exact ⟨snNm_inj h1 k1 (h2.symm.trans k2), rfl⟩
 ·exact absurd h2 (k1 _ h1)
 ·exact absurd k2 (h1 _ k1)
 ·exact ⟨rfl, rfl⟩
theorem NumR.no {s : ByteArray} (h : ∀ q, inQ q → s ≠ snNm q) : NumR s 0 false := .inr ⟨h, rfl, rfl⟩

theorem snNm_list (q : Int) : (snNm q).data.toList = pre ++ dgs 10 q.toNat := by simp [snNm]
theorem numR_bad {s : ByteArray} {i : Nat} (hi : i + 5 < s.data.toList.length) (h : ¬ isD (s.data.toList[i + 5])) : ∀ q, inQ q → s ≠ snNm q := by
 rintro q hq rfl
 apply h
 have hl := snNm_list q
 have hlen : (snNm q).data.toList.length = 15 := by rw [hl]; simp [dgs_len]
 have : (snNm q).data.toList[i + 5] = (dgs 10 q.toNat)[i]'(by rw [dgs_len]; omega) := by
  simp only [hl]
  rw [List.getElem_append_right (by simp)]
  simp
 rw [this]
 exact dgs_isD _ _ _ (List.getElem_mem _)
structure Dig (s : ByteArray) (i : Nat) (n : Int) : Prop where
 len : s.data.toList.length = 15
 pre : s.data.toList.take 5 = pre
 ds : ∀ j (h : j < i) (h2 : i ≤ 10), isD (s.data.toList[j + 5]'(by omega))
 val : n = (vD ((s.data.toList.drop 5).take i) : Nat)
theorem Dig.step {s : ByteArray} {i : Nat} {n : Int} (h : Dig s i n) (hi : i < 10) (hd : isD (s.data.toList[i + 5]'(by have := h.len; omega))) : Dig s (i + 1) (10 * n + ((s.data.toList[i + 5]'(by have := h.len; omega)).toNat - 48)) := by
 have hl := h.len
 refine ⟨h.len, h.pre, fun j hj h2 => ?_, ?_⟩
 ·by_cases e : j = i
  ·subst e; exact hd
  ·exact h.ds j (by omega) (by omega)
 ·have hlt : i < (s.data.toList.drop 5).length := by simp at hl ⊢; omega
  rw [List.take_succ_eq_append_getElem hlt, vD_snoc]
  have hv := h.val
  unfold isD at hd
  have e : (s.data.toList.drop 5)[i] = s.data.toList[i + 5]'(by omega) := by
   rw [List.getElem_drop]; congr 1; omega
  rw [e]
  omega
theorem vD_lt (l : List UInt8) (h : ∀ c ∈ l, isD c) : vD l < 10 ^ l.length := (dgs_vD l h).2
theorem Dig.lt {s : ByteArray} {i : Nat} {n : Int} (h : Dig s i n) (hi : i ≤ 10) : 0 ≤ n ∧ n < 10000000000 := by
 have hl := h.len
 have hm : ∀ c ∈ (s.data.toList.drop 5).take i, isD c := by
  intro c hc
  obtain ⟨j, hj, e⟩ := List.getElem_of_mem hc
  have hj' : j < i := by simp at hj; omega
  have := h.ds j hj' hi
  rw [List.getElem_take, List.getElem_drop] at e
  rw [← e]
  have e2 : s.data.toList[5 + j]'(by simp at hj; omega) = s.data.toList[j + 5]'(by omega) := by congr 1; omega
  rw [e2]; exact this
 have h1 := vD_lt _ hm
 have h2 : ((s.data.toList.drop 5).take i).length ≤ 10 := by simp; omega
 have h3 : 10 ^ ((s.data.toList.drop 5).take i).length ≤ 10 ^ 10 := Nat.pow_le_pow_right (by omega) h2
 have := h.val
 have h4 : (10 : Nat) ^ 10 = 10000000000 := by decide
 omega
theorem Dig.done {s : ByteArray} {n : Int} (h : Dig s 10 n) : s = snNm n := by
 have hl := h.len
 have hm : ∀ c ∈ s.data.toList.drop 5, isD c := by
  intro c hc
  obtain ⟨j, hj, e⟩ := List.getElem_of_mem hc
  have hj' : j < 10 := by simp at hj hl; omega
  have := h.ds j hj' (by omega)
  rw [List.getElem_drop] at e
  rw [← e]
  have e2 : s.data.toList[5 + j]'(by omega) = s.data.toList[j + 5]'(by omega) := by congr 1; omega
  rw [e2]; exact this
 obtain ⟨h1, h2⟩ := dgs_vD _ hm
 have hv := h.val
 have htk : (s.data.toList.drop 5).take 10 = s.data.toList.drop 5 := List.take_of_length_le (by simp at hl ⊢; omega)
 rw [htk] at hv
 have hdl : (s.data.toList.drop 5).length = 10 := by simp at hl ⊢; omega
 rw [hdl] at h1
 have e : s.data.toList = Snp.pre ++ dgs 10 n.toNat := by
  rw [hv, Int.toNat_natCast, h1, ← h.pre, List.take_append_drop]
 exact (toList_iff _ _).1 (by rw [ByteArray.toList_eq, ByteArray.toList_eq, snNm_list, e])

theorem ssub_bl (s : ByteArray) (l h : Int) : (ssub s l h).data.toList = (s.data.toList.take h.toNat).drop l.toNat := by
 unfold ssub
 rw [ByteArray.data_extract, Array.toList_extract]
 simp [List.extract_eq_take_drop, List.drop_take]
theorem slen_bl (s : ByteArray) : slen s = s.data.toList.length := by
 show ((s.size : Nat) : Int) = _
 rw [ba_size]
theorem seq_bl (a b : ByteArray) : seq a b = decide (a.data.toList = b.data.toList) := by
 rw [seq_d]
 apply decide_eq_decide.2
 rw [← toList_iff, ByteArray.toList_eq, ByteArray.toList_eq]
theorem sbyte_bl (s : ByteArray) (i : Int) (h0 : 0 ≤ i) (h : i < s.data.toList.length) : sbyte s i = ((s.data.toList[i.toNat]'(by omega)).toNat : Int) := by
 have := sbyte_u s i.toNat (by rw [ba_size]; omega)
 rw [show ((i.toNat : Nat) : Int) = i by omega] at this
 exact this

theorem scut_fn (s : ByteArray) : Ct Tryz.prog 69 {} [S s, S (ByteArray.mk (Array.mk [115, 110, 97, 112, 46]))] (fun r => r = if s.data.toList.take 5 = pre then [S (ssub s 5 (slen s)), B true] else [S s, B false]) := by
 have e5 : slen (ByteArray.mk (Array.mk [115, 110, 97, 112, 46])) = 5 := by decide
 have hl := slen_bl s
 refine scutp_nf _ _ _ (Cl.ofQ (scutp2_nf s (ByteArray.mk (Array.mk [115, 110, 97, 112, 46])) (fun r => r = if s.data.toList.take 5 = pre then [S (ssub s 5 (slen s)), B true] else [S s, B false]) ?_) ?_)
 ·rw [e5]
  have hp : Ct Tryz.prog 194 {} [S s, S (ByteArray.mk (Array.mk [115, 110, 97, 112, 46]))] (fun r => r = [B (decide (s.data.toList.take 5 = pre))]) := by
   refine hasp2_nf _ _ _ ?_
   rw [e5]
   refine ifB_intro (fun h => ⟨⟨by omega, by omega, by simp only [ige_eq, decide_eq_true_eq] at h; omega⟩, ?_⟩) (fun h => ?_)
   ·rw [seq_bl, ssub_bl]
    congr 3
   ·have : ¬ s.data.toList.take 5 = pre := fun e => by
     have := congrArg List.length e
     simp only [ige_eq, decide_eq_false_iff_not] at h
     simp only [List.length_take, show pre.length = 5 from rfl] at this
     omega
    rw [decide_eq_false this]
  refine Cl.of hp ⟨_, rfl, ifB_intro (fun h => ?_) (fun h => ⟨⟨by omega, ?_, by omega⟩, ?_⟩)⟩
  ·simp at h; rw [if_neg h]
  ·simp only [bnot, Bool.not_eq_false', decide_eq_true_eq] at h
   have := congrArg List.length h
   simp only [List.length_take, show pre.length = 5 from rfl] at this
   omega
  ·simp at h; rw [if_pos h]
 ·rintro r rfl
  split
  ·exact ⟨_, _, rfl, rfl⟩
  ·exact ⟨_, _, rfl, rfl⟩

theorem no_pre {s : ByteArray} (h : ¬ s.data.toList.take 5 = pre) : ∀ q, inQ q → s ≠ snNm q := by
 rintro q _ rfl
 exact h (by rw [snNm_list]; rfl)
theorem no_len {s : ByteArray} (h : ¬ s.data.toList.length = 15) : ∀ q, inQ q → s ≠ snNm q := by
 rintro q _ rfl
 exact h (by rw [snNm_list]; simp [dgs_len])

theorem Dig.zero {s : ByteArray} (h1 : s.data.toList.length = 15) (h2 : s.data.toList.take 5 = Snp.pre) : Dig s 0 0 := ⟨h1, h2, fun j h => by omega, rfl⟩
theorem Dig.num {s : ByteArray} {n : Int} (h : Dig s 10 n) : if 4294967296 < n then NumR s 0 false else NumR s n true := by
 have hlt := h.lt (by omega)
 have hs := h.done
 split
 ·rename_i h1
  refine .inr ⟨fun q hq e => ?_, rfl, rfl⟩
  have hv := h.val
  have h2 : (s.data.toList.drop 5).take 10 = dgs 10 q.toNat := by
   rw [e, snNm_list]
   show (dgs 10 q.toNat).take 10 = _
   exact List.take_of_length_le (by rw [dgs_len]; omega)
  unfold inQ at hq
  rw [h2, vD_dgs 10 _ (by omega)] at hv
  omega
 ·exact .inl ⟨n, ⟨by omega, by omega⟩, hs, rfl, rfl⟩

theorem digit_val {c : UInt8} (h : isD c) : wcv IntKind.i64 (wsub IntKind.u8 (c.toNat : Int) 48) = c.toNat - 48 := by
 unfold isD at h
 have : wsub IntKind.u8 (c.toNat : Int) 48 = c.toNat - 48 := by
  simp [wsub, IntKind.wrap, IntKind.signed, IntKind.bits]; omega
 rw [this]
 exact wrap_i64 (by omega) (by omega)

theorem nnum_fn (s : ByteArray) : Ct Tryz.prog 29 {} [S s] (fun r => ∃ n b, r = [I n, B b] ∧ NumR s n b) := by
 have no : (∀ q, inQ q → s ≠ snNm q) → ∃ n b, ([I 0, B false] : List SV) = [I n, B b] ∧ NumR s n b := fun h => ⟨_, _, rfl, .no h⟩
 have hl := slen_bl s
 refine nnum_nf _ _ (Cl.of (scut_fn s) ?_)
 by_cases hp : s.data.toList.take 5 = pre
 rotate_left
 ·rw [if_neg hp]
  exact ⟨_, _, rfl, ifB_intro (fun _ => no (no_pre hp)) (fun h => by simp at h)⟩
 rw [if_pos hp]
 refine ⟨_, _, rfl, ?_⟩
 have hdl : (ssub s 5 (slen s)).data.toList = s.data.toList.drop 5 := by
  rw [ssub_bl, hl, Int.toNat_natCast, List.take_length]; rfl
 have hsl : slen (ssub s 5 (slen s)) = (s.data.toList.drop 5).length := by rw [slen_bl, hdl]
 have h5 : 5 ≤ s.data.toList.length := by
  have := congrArg List.length hp
  simp at this ⊢
  omega
 rw [hsl]
 refine ifB_intro (fun h => no (no_len fun e => ?_)) (fun h => ?_)
 ·simp at h e; omega
 have h15 : s.data.toList.length = 15 := by simp at h ⊢; omega
 have hd10 : ((s.data.toList.drop 5).length : Int) = 10 := by simp at h15 ⊢; omega
 rw [hd10]
 have hby : ∀ i : Int, 0 ≤ i → i < 10 → ∃ hi : i.toNat + 5 < s.data.toList.length, sbyte (ssub s 5 (slen s)) i = ((s.data.toList[i.toNat + 5]).toNat : Int) := by
  intro i h0 h1
  refine ⟨by omega, ?_⟩
  rw [sbyte_bl _ _ h0 (by rw [hdl]; omega)]
  congr 2
  simp only [hdl, List.getElem_drop]
  congr 1
  omega
 refine ⟨fun _ _ x1 x2 => 0 ≤ x2 ∧ x2 ≤ 10 ∧ Dig s x2.toNat x1, fun _ _ _ x2 => (10 - x2).toNat, ⟨by omega, by omega, .zero h15 hp⟩, ?_⟩
 rintro _ _ x1 x2 ⟨i0, i1, dg⟩
 refine ifB_intro (fun h => ?_) (fun h => ?_)
 ·simp at h
  obtain ⟨hi, e⟩ := hby x2 i0 h
  rw [e]
  refine ⟨⟨i0, h⟩, ifB_intro (fun h1 => no (numR_bad hi fun hd => ?_)) (fun h1 => ⟨⟨i0, h⟩, ifB_intro (fun h2 => no (numR_bad hi fun hd => ?_)) (fun h2 => ?_)⟩)⟩
  ·unfold isD at hd; simp only [ilt, decide_eq_true_eq] at h1; omega
  ·unfold isD at hd; simp only [igt, decide_eq_true_eq] at h2; omega
  ·have hd : isD (s.data.toList[x2.toNat + 5]) := by
    unfold isD
    simp only [ilt, igt, decide_eq_false_iff_not] at h1 h2
    omega
   have hlt := dg.lt (by omega)
   have hst := dg.step (by omega) hd
   rw [digit_val hd]
   unfold isD at hd
   have w1 : wmul IntKind.i64 x1 10 = x1 * 10 := wrap_i64 (by omega) (by omega)
   have w2 : wadd IntKind.i64 x2 1 = x2 + 1 := wadd_i64 (by omega) (by omega)
   rw [w1, w2, wadd_i64 (by omega) (by omega)]
   refine ⟨⟨i0, h⟩, rfl, ⟨by omega, by omega, ?_⟩, mlt (by dsimp only; omega)⟩
   rw [show (x2 + 1).toNat = x2.toNat + 1 by omega, Int.mul_comm]
   exact hst
 ·simp at h
  have e : x2.toNat = 10 := by omega
  rw [e] at dg
  have := dg.num
  refine ifB_intro (fun h => ?_) (fun h => ?_)
  ·simp at h; rw [if_pos h] at this; exact ⟨_, _, rfl, this⟩
  ·simp at h; rw [if_neg (by omega)] at this; exact ⟨_, _, rfl, this⟩

theorem rnnum_fn (s : ByteArray) : Ct Tryz.prog 30 {} [S s] (fun r => ∃ n b, r = [I n, B b] ∧ NumR s n b) := by
 have no : (∀ q, inQ q → s ≠ snNm q) → ∃ n b, ([I 0, B false] : List SV) = [I n, B b] ∧ NumR s n b := fun h => ⟨_, _, rfl, .no h⟩
 have hl := slen_bl s
 refine rnnum_nf _ _ ?_
 rw [hl]
 refine ifB_intro (fun h => no (no_len fun e => ?_)) (fun h => ?_)
 ·simp at h e; omega
 have h15 : s.data.toList.length = 15 := by simp at h ⊢; omega
 refine ⟨⟨by omega, by omega, by omega⟩, ifB_intro (fun h => no (no_pre fun e => ?_)) (fun h => ?_)⟩
 ·have : seq (ssub s 0 5) (ByteArray.mk (Array.mk [115, 110, 97, 112, 46])) = true := by
   rw [seq_bl, ssub_bl]; simpa using e
  unfold seq at this
  unfold sne at h
  rw [this] at h; cases h
 have hp : s.data.toList.take 5 = pre := by
  have : seq (ssub s 0 5) (ByteArray.mk (Array.mk [115, 110, 97, 112, 46])) = true := by
   unfold sne at h
   unfold seq
   simpa using h
  rw [seq_bl, ssub_bl] at this
  simpa using this
 have hby : ∀ i : Int, 5 ≤ i → i < 15 → ∃ hi : (i.toNat - 5) + 5 < s.data.toList.length, sbyte s i = ((s.data.toList[(i.toNat - 5) + 5]).toNat : Int) := by
  intro i h0 h1
  refine ⟨by omega, ?_⟩
  rw [sbyte_bl _ _ (by omega) (by omega)]
  congr 2
  congr 1
  omega
 refine ⟨fun _ _ x1 x2 => 5 ≤ x2 ∧ x2 ≤ 15 ∧ Dig s (x2.toNat - 5) x1, fun _ _ _ x2 => (15 - x2).toNat, ⟨by omega, by omega, .zero h15 hp⟩, ?_⟩
 rintro _ _ x1 x2 ⟨i0, i1, dg⟩
 refine ifB_intro (fun h => ?_) (fun h => ?_)
 ·simp at h
  obtain ⟨hi, e⟩ := hby x2 i0 h
  rw [e]
  refine ⟨⟨by omega, by omega⟩, ifB_intro (fun h1 => no (numR_bad hi fun hd => ?_)) (fun h1 => ⟨⟨by omega, by omega⟩, ifB_intro (fun h2 => no (numR_bad hi fun hd => ?_)) (fun h2 => ?_)⟩)⟩
  ·unfold isD at hd; simp only [ilt, decide_eq_true_eq] at h1; omega
  ·unfold isD at hd; simp only [igt, decide_eq_true_eq] at h2; omega
  ·have hd : isD (s.data.toList[(x2.toNat - 5) + 5]) := by
    unfold isD
    simp only [ilt, igt, decide_eq_false_iff_not] at h1 h2
    omega
   have hlt := dg.lt (by omega)
   have hst := dg.step (by omega) hd
   rw [digit_val hd]
   unfold isD at hd
   have w1 : wmul IntKind.i64 10 x1 = 10 * x1 := wrap_i64 (by omega) (by omega)
   have w2 : wadd IntKind.i64 x2 1 = x2 + 1 := wadd_i64 (by omega) (by omega)
   rw [w1, w2, wadd_i64 (by omega) (by omega)]
   refine ⟨⟨by omega, by omega⟩, rfl, ⟨by omega, by omega, ?_⟩, mlt (by dsimp only; omega)⟩
   rw [show (x2 + 1).toNat - 5 = (x2.toNat - 5) + 1 by omega]
   exact hst
 ·simp at h
  have e : x2.toNat - 5 = 10 := by omega
  rw [e] at dg
  have := dg.num
  refine ifB_intro (fun h => ?_) (fun h => ?_)
  ·simp at h; rw [if_pos h] at this; exact ⟨_, _, rfl, this⟩
  ·simp at h; rw [if_neg (by omega)] at this; exact ⟨_, _, rfl, this⟩

abbrev mg : List Int := [102, 98, 115, 49]
def snB (d : StD) : List Int := sealB (mg ++ encS d)
theorem byts_mg : Byts mg := fun x hx => by simp at hx; omega
theorem snB_byts (d : StD) : Byts (snB d) := sealB_byts (byts_mg.app (byts_encS d))
theorem snB_len {d : StD} (h : d.P) : (snB d).length ≤ 8008 ∧ 8 ≤ (snB d).length := by
 have := encS_len h
 simp only [snB, sealB_len, List.length_append, List.length_cons, List.length_nil]
 omega
theorem sealB_inj {a b : List Int} (h : sealB a = sealB b) : a = b := by
 have hl := congrArg List.length h
 rw [sealB_len, sealB_len] at hl
 unfold sealB at h
 exact (List.append_inj h (by omega)).1
theorem snB_inj {d e : StD} (hd : d.P) (he : e.P) (h : snB d = snB e) : d = e :=
 encS_inj hd he (List.append_cancel_left (sealB_inj h))

theorem nenc_fn (d : StD) : Ct Tryz.prog 32 {} [d.sv] (fun r => r = if d.P then [SL 1 (bR (snB d)), I 0] else [SL 1 [], I 1]) := by
 refine nenc_nf _ _ _ _ (Cl.of (renc_fn d) ⟨_, _, rfl, ?_⟩)
 unfold encI
 by_cases h : d.P
 ·rw [if_pos h, if_pos h]
  have hl := encS_len h
  refine ifB_intro (fun h => by simp at h) (fun _ => Cl.of ctable_fn ⟨_, rfl, by simp [rlen], by simp [lsum, rlen]; omega, ?_⟩)
  have e : rapp [[U8 102], [U8 98], [U8 115], [U8 49]] (bR (encS d)) = bR (mg ++ encS d) := rfl
  rw [e]
  exact Cl.of (cseal_fn _ (by simp; omega)) ⟨_, rfl, rfl⟩
 ·rw [if_neg h, if_neg h]
  exact ifB_intro (fun _ => rfl) (fun h => by simp at h)

theorem rnenc_fn (d : StD) (h : d.P) : Ct Tryz.prog 34 {} [d.sv] (fun r => r = [SL 1 (bR (snB d))]) := by
 have hl := encS_len h
 refine rnenc_nf _ _ _ _ (Cl.of (rrenc_fn d h) ⟨_, rfl, by simp [lsum, rlen]; omega, ?_⟩)
 have e : rapp [[U8 102], [U8 98], [U8 115], [U8 49]] (bR (encS d)) = bR (mg ++ encS d) := rfl
 rw [e]
 exact Cl.of (rseal_fn _ (byts_mg.app (byts_encS d)) (by simp; omega)) ⟨_, rfl, rfl⟩

def decE (l : List Int) : Int := if l.length < 4 then 10 else if sealB (l.take (l.length - 4)) = l then 11 else 12
def SnD (l : List Int) (d : StD) (e : Int) : Prop := (d.P ∧ snB d = l ∧ e = 0) ∨ ((∀ d0 : StD, d0.P → snB d0 ≠ l) ∧ d = st0 ∧ e = decE l)
theorem SnD.eq {l : List Int} {d t : StD} {e f : Int} (h : SnD l d e) (k : SnD l t f) : d = t ∧ e = f := by
 rcases h with ⟨h1, h2, rfl⟩ | ⟨h1, rfl, rfl⟩ <;> rcases k with ⟨k1, k2, rfl⟩ | ⟨k1, rfl, rfl⟩
 ·exact ⟨snB_inj h1 k1 (h2.trans k2.symm), rfl⟩
 ·exact absurd h2 (k1 _ h1)
 ·exact absurd k2 (h1 _ k1)
 ·exact ⟨rfl, rfl⟩
theorem decE_pos (l : List Int) : decE l ≠ 0 := by
 unfold decE
 split
 ·omega
 ·split <;> omega

theorem ndec_fn (l : List Int) (hl : l.length ≤ 100000) (hb : Byts l) : Ct Tryz.prog 35 {} [SL 1 (bR l)] (fun r => ∃ d e, r = [StD.sv d, I e] ∧ SnD l d e) := by
 have no : ∀ e, (∀ d0 : StD, d0.P → snB d0 ≠ l) → e = decE l → ∃ d e', ([.agg [SL 21 [], I 0, I 0], I e] : List SV) = [StD.sv d, I e'] ∧ SnD l d e' := fun e h h2 => ⟨st0, e, rfl, .inr ⟨h, rfl, h2⟩⟩
 refine ndec_nf _ _ (Cl.of ctable_fn ⟨_, rfl, Cl.of (copen_fn l hb (by omega)) ⟨_, _, rfl, ?_⟩⟩)
 unfold openE
 by_cases h4 : l.length < 4
 ·rw [if_pos h4]
  refine ifB_intro (fun _ => no 10 (fun d0 h e => ?_) (by unfold decE; rw [if_pos h4])) (fun h => by simp at h)
  have := snB_len h
  rw [e] at this
  omega
 rw [if_neg h4]
 by_cases hs : sealB (l.take (l.length - 4)) = l
 rotate_left
 ·rw [if_neg hs]
  refine ifB_intro (fun _ => no 12 (fun d0 h e => hs ?_) (by unfold decE; rw [if_neg h4, if_neg hs])) (fun h => by simp at h)
  have hln : (mg ++ encS d0).length = l.length - 4 := by rw [← e, snB, sealB_len]; omega
  have : l.take (l.length - 4) = mg ++ encS d0 := by
   rw [← hln, ← e, snB, sealB, List.take_left]
  rw [this]; exact e
 rw [if_pos hs]
 have hbt : Byts (l.take (l.length - 4)) := hb.sub fun x hx => List.mem_of_mem_take hx
 have h11 : decE l = 11 := by unfold decE; rw [if_neg h4, if_pos hs]
 refine ifB_intro (fun h => by simp at h) (fun _ => ⟨by simp [rlen], Cl.ofQ (bcutp_fn (l.take (l.length - 4)) mg hbt byts_mg) ?_⟩)
 rintro r (⟨t, ht, rfl⟩ | ⟨hno, rfl⟩)
 ·have hbt' : Byts t := hbt.sub fun x hx => by rw [ht]; exact List.mem_append.2 (.inr hx)
  have htl : t.length ≤ 100000 := by have := congrArg List.length ht; simp at this; omega
  refine ⟨_, _, rfl, ifB_intro (fun h => by simp at h) (fun _ => Cl.ofQ (rdec_fn t htl hbt') ?_)⟩
  rintro r ⟨d, e, rfl, ⟨h1, h2, rfl⟩ | ⟨h1, rfl, rfl⟩⟩
  ·refine ⟨_, _, _, _, rfl, ifB_intro (fun h => by simp at h) (fun _ => ⟨d, 0, rfl, .inl ⟨h1, ?_, rfl⟩⟩)⟩
   rw [snB, h2, ← ht, hs]
  ·refine ⟨_, _, _, _, rfl, ifB_intro (fun _ => no 11 (fun d0 h e => h1 d0 h ?_) h11.symm) (fun h => by simp at h)⟩
   rw [← hs, ht] at e
   exact List.append_cancel_left (sealB_inj e)
 ·refine ⟨_, _, rfl, ifB_intro (fun _ => no 11 (fun d0 h e => hno (encS d0) ?_) h11.symm) (fun h => by simp at h)⟩
  rw [← hs] at e
  exact (sealB_inj e).symm

theorem rndec_fn (l : List Int) (hl : l.length ≤ 100000) (hb : Byts l) : Ct Tryz.prog 36 {} [SL 1 (bR l)] (fun r => ∃ d e, r = [StD.sv d, I e] ∧ SnD l d e) := by
 have no : ∀ e, (∀ d0 : StD, d0.P → snB d0 ≠ l) → e = decE l → ∃ d e', ([.agg [SL 21 [], I 0, I 0], I e] : List SV) = [StD.sv d, I e'] ∧ SnD l d e' := fun e h h2 => ⟨st0, e, rfl, .inr ⟨h, rfl, h2⟩⟩
 have hrl : rlen (bR l) = l.length := by simp [rlen]
 refine rndec_nf _ _ ?_
 rw [hrl]
 refine ifB_intro (fun h4 => ?_) (fun h4 => ?_)
 ·simp at h4
  refine no 10 (fun d0 h e => ?_) (by unfold decE; rw [if_pos (by omega)])
  have := snB_len h
  rw [e] at this
  omega
 simp at h4
 refine Cl.of (ropens_fn l hb (by omega)) ⟨_, rfl, ?_⟩
 by_cases hs : sealB (l.take (l.length - 4)) = l
 rotate_left
 ·refine ifB_intro (fun _ => no 12 (fun d0 h e => hs ?_) (by unfold decE; rw [if_neg (by omega), if_neg hs])) (fun h => by simp [hs] at h)
  have hln : (mg ++ encS d0).length = l.length - 4 := by rw [← e, snB, sealB_len]; omega
  have : l.take (l.length - 4) = mg ++ encS d0 := by
   rw [← hln, ← e, snB, sealB, List.take_left]
  rw [this]; exact e
 have h11 : decE l = 11 := by unfold decE; rw [if_neg (by omega), if_pos hs]
 refine ifB_intro (fun h => by simp [hs] at h; omega) (fun _ => ifB_intro (fun h8 => ?_) (fun h8 => ?_))
 ·simp at h8
  refine no 11 (fun d0 h e => ?_) h11.symm
  have := snB_len h
  rw [e] at this
  omega
 simp at h8
 have start : ∀ (i : Nat) (v : Int), i < 4 → mg.getD i 0 = v → byAt l i ≠ v → ∀ d0 : StD, d0.P → snB d0 ≠ l := by
  intro i v hi hv hne d0 h e
  apply hne
  rw [← e, ← hv]
  unfold byAt snB sealB
  rw [Int.toNat_natCast, List.append_assoc, List.getD_eq_getElem?_getD, List.getD_eq_getElem?_getD, List.getElem?_append_left (by simpa using hi)]
 refine ⟨⟨by omega, by omega⟩, _, rget_bR (by omega) (by omega), ifB_intro (fun h => no 11 (start 0 102 (by omega) rfl (by simpa using h)) h11.symm) (fun g0 => ?_)⟩
 refine ⟨⟨by omega, by omega⟩, _, rget_bR (by omega) (by omega), ifB_intro (fun h => no 11 (start 1 98 (by omega) rfl (by simpa using h)) h11.symm) (fun g1 => ?_)⟩
 refine ⟨⟨by omega, by omega⟩, _, rget_bR (by omega) (by omega), ifB_intro (fun h => no 11 (start 2 115 (by omega) rfl (by simpa using h)) h11.symm) (fun g2 => ?_)⟩
 refine ⟨⟨by omega, by omega⟩, _, rget_bR (by omega) (by omega), ifB_intro (fun h => no 11 (start 3 49 (by omega) rfl (by simpa using h)) h11.symm) (fun g3 => ?_)⟩
 have w : wsub IntKind.i64 (l.length : Int) 4 = ((l.length - 4 : Nat) : Int) := by rw [wsub_i64 (by omega) (by omega)]; omega
 have hsub : rsub (bR l) 4 (wsub IntKind.i64 (l.length : Int) 4) = bR ((l.take (l.length - 4)).drop 4) := by
  rw [w, rsub_bR, Int.toNat_natCast]; rfl
 rw [hsub, w]
 have ht : l.take (l.length - 4) = mg ++ (l.take (l.length - 4)).drop 4 := by
  match l, h8, g0, g1, g2, g3 with
  | a :: b :: c :: d :: t, h8, g0, g1, g2, g3 =>
   simp [byAt] at g0 g1 g2 g3
   have : (a :: b :: c :: d :: t).length - 4 = t.length := by simp
   rw [this]
   have ht : 4 ≤ t.length := by simp at h8; omega
   match t, ht with
   | e :: f :: g :: h :: t, _ => simp [g0, g1, g2, g3, mg]
  | [], h8, _, _, _, _ => simp at h8
  | [_], h8, _, _, _, _ => simp at h8
  | [_, _], h8, _, _, _, _ => simp at h8
  | [_, _, _], h8, _, _, _, _ => simp at h8
 generalize (l.take (l.length - 4)).drop 4 = t at ht ⊢
 have hbt : Byts (l.take (l.length - 4)) := hb.sub fun x hx => List.mem_of_mem_take hx
 have hbt' : Byts t := hbt.sub fun x hx => by rw [ht]; exact List.mem_append.2 (.inr hx)
 have htl : t.length ≤ 100000 := by have := congrArg List.length ht; simp at this; omega
 refine ⟨⟨by omega, by omega, by omega⟩, Cl.ofQ (rrdec_fn t htl hbt') ?_⟩
 rintro r ⟨d, b, rfl, ⟨h1, h2, rfl⟩ | ⟨h1, rfl, rfl⟩⟩
 ·refine ⟨_, _, _, _, rfl, ifB_intro (fun h => by simp at h) (fun _ => ⟨d, 0, rfl, .inl ⟨h1, ?_, rfl⟩⟩)⟩
  rw [snB, h2, ← ht, hs]
 ·refine ⟨_, _, _, _, rfl, ifB_intro (fun _ => no 11 (fun d0 h e => h1 d0 h ?_) h11.symm) (fun h => by simp at h)⟩
  rw [← hs, ht] at e
  exact List.append_cancel_left (sealB_inj e)

/- Bytes as the disk has them. -/
abbrev iU (l : List UInt8) : List Int := l.map fun b => (b.toNat : Int)
def snU (d : StD) : List UInt8 := (snB d).map fun n => UInt8.ofNat n.toNat
theorem uR_bR (l : List UInt8) : uR l = bR (iU l) := by simp [iU]
theorem iU_byts (l : List UInt8) : Byts (iU l) := by
 intro x hx
 obtain ⟨b, _, rfl⟩ := List.mem_map.1 hx
 have := b.toNat_lt
 omega
theorem iU_inj {a b : List UInt8} (h : iU a = iU b) : a = b := uR_inj.1 (by rw [uR_bR, uR_bR, h])
theorem iU_of {l : List Int} (h : Byts l) : iU (l.map fun n => UInt8.ofNat n.toNat) = l := by
 simp only [iU, List.map_map]
 conv => rhs; rw [← List.map_id l]
 apply List.map_congr_left
 intro x hx
 have := h x hx
 simp [UInt8.toNat_ofNat']
 omega
theorem snU_i (d : StD) : iU (snU d) = snB d := iU_of (snB_byts d)
theorem snU_row (d : StD) : bR (snB d) = uR (snU d) := by rw [uR_bR, snU_i]
theorem snU_len (d : StD) : (snU d).length = (snB d).length := by simp [snU]
theorem snU_iff {d : StD} {l : List UInt8} : snB d = iU l ↔ snU d = l := by
 rw [← snU_i]
 exact ⟨iU_inj, fun h => by rw [h]⟩
end Go.Proofs.YtbocfphenkidnaaGreatDoor.Snp

namespace Go.Proofs.YtbocfphenkidnaaGreatDoor.Snp
open Go Go.Px Go.Proofs Cod Seg Sgr Go.Proofs.YtbocfphenkidnaaGreatDoor.St Row Dsk
set_option maxRecDepth 100000
set_option linter.unusedVariables false

abbrev tmpB : ByteArray := ByteArray.mk (Array.mk [116, 109, 112])
def chn (p : DiD × Int) (f : DiD → DiD × Int) : DiD × Int := if p.2 = 0 then f p.1 else p
def oldN (d : DiD) : Nat := match d.get tmpB with | some f => f.len | none => 0
def newF (d : DiD) : Nat := match d.get tmpB with | some _ => 0 | none => 1
def mkT (d : DiD) (x : List UInt8) (q : Int) : DiD × Int := chn (chn (chn (opCreate d tmpB) fun d => opAppend d tmpB x) fun d => opSync d tmpB) fun d => opRename d tmpB (snNm q)
def rmT (d : DiD) : DiD × Int := match d.get tmpB with | some _ => opRemove d tmpB | none => (d, 0)
def saveD (d : DiD) (s : StD) : DiD × Int :=
 if ¬ (d.P ∧ s.P) then (d, 1) else if d.dn = true then (d, 16)
 else if d.rm + oldN d < usedL d.fs + (snU s).length ∨ 64 < d.fs.length + newF d then (d, 13)
 else chn (rmT d) fun d => mkT d (snU s) s.q

def Good (d : DiD) : Prop := d.st ≤ 9223372036854775807
theorem Good.ok {d : DiD} (h : Good d) (hp : d.P) : d.ok := DiD.P.ok hp h

theorem mkT_fn (d : DiD) (hp : d.P) (hg : Good d) (x : List UInt8) (hx : x.length ≤ 9223372036854775807) (sq : Int) (hq : inQ sq) (Q : List SV → Prop) (hQ : Q [(mkT d x sq).1.sv, I (mkT d x sq).2]) :
  (Cl Tryz.prog 85 sP ([SV.agg [SL 3 (fR d.fs), I d.rm, I d.st, B d.dn], S (ByteArray.mk (Array.mk [116, 109, 112]))]) (fun (rs5 : List SV) => ∃ l2 : List (List SV), ∃ x3 : Int, ∃ x4 : Int, ∃ b2 : Bool, ∃ x5 : Int, (rs5 = [SV.agg [SL 3 l2, I x3, I x4, B b2], I x5]) ∧ (ifB (ine x5 0) (Q ([SV.agg [SL 3 l2, I x3, I x4, B b2], I x5])) (Cl Tryz.prog 86 sP ([SV.agg [SL 3 l2, I x3, I x4, B b2], S (ByteArray.mk (Array.mk [116, 109, 112])), SL 1 (uR x)]) (fun (rs6 : List SV) => ∃ l3 : List (List SV), ∃ x6 : Int, ∃ x7 : Int, ∃ b3 : Bool, ∃ x8 : Int, (rs6 = [SV.agg [SL 3 l3, I x6, I x7, B b3], I x8]) ∧ (ifB (ine x8 0) (Q ([SV.agg [SL 3 l3, I x6, I x7, B b3], I x8])) (Cl Tryz.prog 87 sP ([SV.agg [SL 3 l3, I x6, I x7, B b3], S (ByteArray.mk (Array.mk [116, 109, 112]))]) (fun (rs7 : List SV) => ∃ l4 : List (List SV), ∃ x9 : Int, ∃ x10 : Int, ∃ b4 : Bool, ∃ x11 : Int, (rs7 = [SV.agg [SL 3 l4, I x9, I x10, B b4], I x11]) ∧ (ifB (ine x11 0) (Q ([SV.agg [SL 3 l4, I x9, I x10, B b4], I x11])) (Cl Tryz.prog 31 sP [I sq] (fun (rs8 : List SV) => ∃ s1 : ByteArray, (rs8 = [S s1]) ∧ (Cl Tryz.prog 88 sP ([SV.agg [SL 3 l4, I x9, I x10, B b4], S (ByteArray.mk (Array.mk [116, 109, 112])), S s1]) (fun (rs9 : List SV) => ∃ l5 : List (List SV), ∃ x12 : Int, ∃ x13 : Int, ∃ b5 : Bool, ∃ x14 : Int, (rs9 = [SV.agg [SL 3 l5, I x12, I x13, B b5], I x14]) ∧ (Q ([SV.agg [SL 3 l5, I x12, I x13, B b5], I x14]))))))))))))))) := by
 refine Cl.of (dcreate_fn d (hg.ok hp) tmpB) ⟨_, _, _, _, _, rfl, ?_⟩
 have p1 := opCreate_P (s := tmpB) hp
 have g1 : Good (opCreate d tmpB).1 := Int.le_trans opCreate_st hg
 unfold mkT at hQ
 generalize opCreate d tmpB = r1 at *
 refine ifB_intro (fun h => ?_) (fun h => ?_)
 ·simp at h
  simp only [chn, if_neg h] at hQ
  exact hQ
 simp at h
 have c1 : chn r1 (fun d => opAppend d tmpB x) = opAppend r1.1 tmpB x := by unfold chn; rw [if_pos h]
 rw [c1] at hQ
 refine Cl.of (dappend_fn r1.1 (g1.ok p1) tmpB x hx) ⟨_, _, _, _, _, rfl, ?_⟩
 have p2 := opAppend_P (s := tmpB) (x := x) p1
 have g2 : Good (opAppend r1.1 tmpB x).1 := Int.le_trans opAppend_st g1
 generalize opAppend r1.1 tmpB x = r2 at *
 refine ifB_intro (fun h => ?_) (fun h => ?_)
 ·simp at h
  simp only [chn, if_neg h] at hQ
  exact hQ
 simp at h
 have c2 : chn r2 (fun d => opSync d tmpB) = opSync r2.1 tmpB := by unfold chn; rw [if_pos h]
 rw [c2] at hQ
 refine Cl.of (dsync_fn r2.1 (g2.ok p2) tmpB) ⟨_, _, _, _, _, rfl, ?_⟩
 have p3 := opSync_P (s := tmpB) p2
 have g3 : Good (opSync r2.1 tmpB).1 := Int.le_trans opSync_st g2
 generalize opSync r2.1 tmpB = r3 at *
 refine ifB_intro (fun h => ?_) (fun h => ?_)
 ·simp at h
  simp only [chn, if_neg h] at hQ
  exact hQ
 simp at h
 have c3 : chn r3 (fun d => opRename d tmpB (snNm sq)) = opRename r3.1 tmpB (snNm sq) := by unfold chn; rw [if_pos h]
 rw [c3] at hQ
 refine Cl.of (nname_fn sq) ⟨_, rfl, ?_⟩
 rw [if_pos hq]
 exact Cl.of (drename_fn r3.1 (g3.ok p3) tmpB (snNm sq)) ⟨_, _, _, _, _, rfl, hQ⟩

theorem fnB_tmp : fnB tmpB = true := by decide +kernel
theorem er_tmp {d : DiD} (h : d.P) (hd : d.dn = false) : d.er tmpB tmpB = 0 := er_zero.2 ⟨h, hd, fnB_tmp, fnB_tmp⟩
theorem usedL_get {d : DiD} {s : ByteArray} {f : FiD} (h : d.get s = some f) : f.len ≤ usedL d.fs := by
 unfold DiD.get at h
 exact usedL_mem (List.mem_of_find?_eq_some h)
theorem fs_pos {d : DiD} {s : ByteArray} {f : FiD} (h : d.get s = some f) : 0 < d.fs.length := by
 unfold DiD.get at h
 exact List.length_pos_of_mem (List.mem_of_find?_eq_some h)
theorem stP_q {s : StD} (h : s.P) : inQ s.q := ⟨h.1.2.1, h.1.2.2.1⟩

theorem nsave_fn (d : DiD) (hd : d.ok) (s : StD) : Ct Tryz.prog 38 {} [d.sv, s.sv] (fun r => r = [(saveD d s).1.sv, I (saveD d s).2]) := by
 refine nsave_nf _ _ _ _ _ _ _ _ (Cl.of (dright_fn d hd) ⟨_, rfl, ifB_intro (fun h => ?_) (fun h => ?_)⟩)
 ·simp at h; simp [saveD, h]
 simp at h
 have hg : Good d := hd.2.2
 refine Cl.of (sright_fn s) ⟨_, rfl, ifB_intro (fun hs => ?_) (fun hs => ?_)⟩
 ·simp at hs; simp [saveD, hs]
 simp at hs
 refine ifB_intro (fun hdn => by simp [saveD, h, hs, hdn]) (fun hdn => Cl.of (nenc_fn s) ?_)
 rw [if_pos hs]
 have hsl := snB_len hs
 have hul := snU_len s
 have hP := h.2.1
 have hP1 := h.1
 refine ⟨_, _, rfl, ifB_intro (fun h => by simp at h) (fun _ => Cl.of (dused_fn d hd) ⟨_, rfl, Cl.of (dread_fn d hd tmpB) ⟨_, _, rfl, ?_⟩⟩)⟩
 have er := er_tmp h hdn
 have hfl : rlen (fR d.fs) = d.fs.length := by simp [rlen]
 have hbl : rlen (bR (snB s)) = (snU s).length := by rw [hul]; simp [rlen]
 have sv : saveD d s = if d.rm + oldN d < usedL d.fs + (snU s).length ∨ 64 < d.fs.length + newF d then (d, 13) else chn (rmT d) fun d => mkT d (snU s) s.q := by
  unfold saveD
  rw [if_neg (by simp [h, hs]), if_neg (by simp [hdn])]
 rw [hfl, hbl, snU_row]
 cases hget : d.get tmpB with
 | some f =>
  have hrd : opRead d tmpB = (f.su ++ f.lo, 0) := by unfold opRead; rw [er, hget]; rfl
  have hold : oldN d = f.len := by unfold oldN; rw [hget]
  have hnew : newF d = 0 := by unfold newF; rw [hget]
  have hrm : rmT d = opRemove d tmpB := by unfold rmT; rw [hget]
  have hle := usedL_get hget
  have hpos := fs_pos hget
  have hll : rlen (uR (f.su ++ f.lo)) = f.len := by simp [rlen, FiD.len]
  rw [hrd]
  refine ifB_intro (fun _ => ?_) (fun h => by simp at h)
  rw [hll, wsub_i64 (by omega) (by omega), wadd_i64 (by omega) (by omega), wsub_i64 (by omega) (by omega), wadd_i64 (by omega) (by omega)]
  rw [hold, hnew] at sv
  refine ifB_intro (fun hc => ?_) (fun hc => ?_)
  ·simp only [bor_t, igt, decide_eq_true_eq] at hc
   rw [if_pos (by omega)] at sv
   rw [sv]
  ·simp only [bor_f, igt, decide_eq_false_iff_not] at hc
   rw [if_neg (by omega), hrm] at sv
   refine ifB_intro (fun _ => ?_) (fun h => by simp at h)
   refine Cl.of (dremove_fn d hd tmpB) ⟨_, _, _, _, _, rfl, ?_⟩
   have p1 := opRemove_P (s := tmpB) h
   have g1 : Good (opRemove d tmpB).1 := Int.le_trans opRemove_st hg
   generalize opRemove d tmpB = r1 at *
   refine ifB_intro (fun hz => ?_) (fun hz => ?_)
   ·simp at hz
    have : saveD d s = r1 := by rw [sv]; unfold chn; rw [if_neg hz]
    rw [this]
   ·simp at hz
    have : saveD d s = mkT r1.1 (snU s) s.q := by rw [sv]; unfold chn; rw [if_pos hz]
    exact mkT_fn r1.1 p1 g1 (snU s) (by omega) s.q (stP_q hs) (fun r => r = [(saveD d s).1.sv, I (saveD d s).2]) (by rw [this])
 | none =>
  have hrd : opRead d tmpB = ([], 14) := by unfold opRead; rw [er, hget]; rfl
  have hold : oldN d = 0 := by unfold oldN; rw [hget]
  have hnew : newF d = 1 := by unfold newF; rw [hget]
  have hrm : rmT d = (d, 0) := by unfold rmT; rw [hget]
  rw [hrd]
  refine ifB_intro (fun h => by simp at h) (fun _ => ?_)
  rw [wadd_i64 (by omega) (by omega), wadd_i64 (by omega) (by omega)]
  rw [hold, hnew] at sv
  refine ifB_intro (fun hc => ?_) (fun hc => ?_)
  ·simp only [bor_t, igt, decide_eq_true_eq] at hc
   rw [if_pos (by omega)] at sv
   rw [sv]
  ·simp only [bor_f, igt, decide_eq_false_iff_not] at hc
   rw [if_neg (by omega), hrm] at sv
   refine ifB_intro (fun h => by simp at h) (fun _ => ?_)
   have : saveD d s = mkT d (snU s) s.q := by rw [sv]; rfl
   exact mkT_fn d h hg (snU s) (by omega) s.q (stP_q hs) (fun r => r = [(saveD d s).1.sv, I (saveD d s).2]) (by rw [this])

abbrev isP (p : DiD × Int) (e : Int) (l : List (List SV)) (a b : Int) (c : Bool) : Prop := e = p.2 ∧ l = fR p.1.fs ∧ a = p.1.rm ∧ b = p.1.st ∧ c = p.1.dn

theorem rnsave_fn (d : DiD) (hd : d.ok) (s : StD) : Ct Tryz.prog 39 {} [d.sv, s.sv] (fun r => r = [(saveD d s).1.sv, I (saveD d s).2]) := by
 refine rnsave_nf _ _ _ _ _ _ _ _ (Cl.of (qright_fn d hd) ⟨_, rfl, ifB_intro (fun h => ?_) (fun h => ?_)⟩)
 ·simp at h; simp [saveD, h]
 simp at h
 have hg : Good d := hd.2.2
 refine Cl.of (srright_fn s) ⟨_, rfl, ifB_intro (fun hs => ?_) (fun hs => ?_)⟩
 ·simp at hs; simp [saveD, hs]
 simp at hs
 refine ifB_intro (fun hdn => by simp [saveD, h, hs, hdn]) (fun hdn => Cl.of (rnenc_fn s hs) ⟨_, rfl, ?_⟩)
 have hsl := snB_len hs
 have hul := snU_len s
 have hP := h.2.1
 have hP1 := h.1
 have hq := stP_q hs
 refine Cl.of (qat_fn d (by omega) tmpB) ⟨_, rfl, Cl.of (qused_fn d hd) ⟨_, rfl, ?_⟩⟩
 have hfl : rlen (fR d.fs) = d.fs.length := by simp [rlen]
 have hbl : rlen (bR (snB s)) = (snU s).length := by rw [hul]; simp [rlen]
 have sv : saveD d s = if d.rm + oldN d < usedL d.fs + (snU s).length ∨ 64 < d.fs.length + newF d then (d, 13) else chn (rmT d) fun d => mkT d (snU s) s.q := by
  unfold saveD
  rw [if_neg (by simp [h, hs]), if_neg (by simp [hdn])]
 rw [hfl, hbl, snU_row]
 have hat : (fAt FiD.nm d.fs tmpB = -1 ∧ d.get tmpB = none) ∨ ∃ (i : Nat) (hi : i < d.fs.length), fAt FiD.nm d.fs tmpB = i ∧ d.get tmpB = some d.fs[i] := by
  rcases d.get_cases tmpB with ⟨e1, e2, e3⟩ | ⟨i, hi, e2, e1, e3⟩
  ·exact .inl ⟨e2, e1⟩
  ·exact .inr ⟨i, hi, e2, e1⟩
 -- what follows the look at the room
 have tail : ∀ (x x2 x3 : Int), (x2 = usedL d.fs + (snU s).length - oldN d) → x3 = d.fs.length + newF d → (0 ≤ x ↔ (d.get tmpB).isSome = true) →
   ifB (bpick (igt x2 d.rm) true (igt x3 64)) ([d.sv, I 13] = [(saveD d s).1.sv, I (saveD d s).2]) (∃ Inv1 : Int → (List (List SV)) → Int → Int → Bool → Prop, ∃ m1 : Int → (List (List SV)) → Int → Int → Bool → Nat, (ifB (ige x 0) (Cl Tryz.prog 92 sP ([SV.agg [SL 3 (fR d.fs), I d.rm, I d.st, B d.dn], S (ByteArray.mk (Array.mk [116, 109, 112]))]) (fun (rs5 : List SV) => ∃ l1 : List (List SV), ∃ x4 : Int, ∃ x5 : Int, ∃ b2 : Bool, ∃ x6 : Int, (rs5 = [SV.agg [SL 3 l1, I x4, I x5, B b2], I x6]) ∧ ((Option.some ([[SL 21 (coR s.cs), I s.q, I s.t], [SV.slice 3 [] 1, I ((0 : Int)), I ((0 : Int)), B false]]) = Option.some ([[SL 21 (coR s.cs), I s.q, I s.t], [SV.slice 3 [] 1, I ((0 : Int)), I ((0 : Int)), B false]])) ∧ (Inv1 x6 l1 x4 x5 b2)))) ((Option.some ([[SL 21 (coR s.cs), I s.q, I s.t], [SV.slice 3 [] 1, I ((0 : Int)), I ((0 : Int)), B false]]) = Option.some ([[SL 21 (coR s.cs), I s.q, I s.t], [SV.slice 3 [] 1, I ((0 : Int)), I ((0 : Int)), B false]])) ∧ (Inv1 0 (fR d.fs) d.rm d.st d.dn))) ∧ (∀ x4 : Int, ∀ l1 : List (List SV), ∀ x5 : Int, ∀ x6 : Int, ∀ b2 : Bool, (Inv1 x4 l1 x5 x6 b2) → ∃ Inv2 : Int → (List (List SV)) → Int → Int → Bool → Prop, ∃ m2 : Int → (List (List SV)) → Int → Int → Bool → Nat, (ifB (ieq x4 0) (Cl Tryz.prog 93 sP ([SV.agg [SL 3 l1, I x5, I x6, B b2], S (ByteArray.mk (Array.mk [116, 109, 112]))]) (fun (rs5 : List SV) => ∃ l2 : List (List SV), ∃ x7 : Int, ∃ x8 : Int, ∃ b3 : Bool, ∃ x9 : Int, (rs5 = [SV.agg [SL 3 l2, I x7, I x8, B b3], I x9]) ∧ ((Option.some ([[SL 21 (coR s.cs), I s.q, I s.t], [SV.slice 3 [] 1, I ((0 : Int)), I ((0 : Int)), B false]]) = Option.some ([[SL 21 (coR s.cs), I s.q, I s.t], [SV.slice 3 [] 1, I ((0 : Int)), I ((0 : Int)), B false]])) ∧ (Inv2 x9 l2 x7 x8 b3)))) ((Option.some ([[SL 21 (coR s.cs), I s.q, I s.t], [SV.slice 3 [] 1, I ((0 : Int)), I ((0 : Int)), B false]]) = Option.some ([[SL 21 (coR s.cs), I s.q, I s.t], [SV.slice 3 [] 1, I ((0 : Int)), I ((0 : Int)), B false]])) ∧ (Inv2 x4 l1 x5 x6 b2))) ∧ (∀ x7 : Int, ∀ l2 : List (List SV), ∀ x8 : Int, ∀ x9 : Int, ∀ b3 : Bool, (Inv2 x7 l2 x8 x9 b3) → ∃ Inv3 : Int → (List (List SV)) → Int → Int → Bool → Prop, ∃ m3 : Int → (List (List SV)) → Int → Int → Bool → Nat, (ifB (ieq x7 0) (Cl Tryz.prog 94 sP ([SV.agg [SL 3 l2, I x8, I x9, B b3], S (ByteArray.mk (Array.mk [116, 109, 112])), SL 1 (uR (snU s))]) (fun (rs5 : List SV) => ∃ l3 : List (List SV), ∃ x10 : Int, ∃ x11 : Int, ∃ b4 : Bool, ∃ x12 : Int, (rs5 = [SV.agg [SL 3 l3, I x10, I x11, B b4], I x12]) ∧ ((Option.some ([[SL 21 (coR s.cs), I s.q, I s.t], [SV.slice 3 [] 1, I ((0 : Int)), I ((0 : Int)), B false]]) = Option.some ([[SL 21 (coR s.cs), I s.q, I s.t], [SV.slice 3 [] 1, I ((0 : Int)), I ((0 : Int)), B false]])) ∧ (Inv3 x12 l3 x10 x11 b4)))) ((Option.some ([[SL 21 (coR s.cs), I s.q, I s.t], [SV.slice 3 [] 1, I ((0 : Int)), I ((0 : Int)), B false]]) = Option.some ([[SL 21 (coR s.cs), I s.q, I s.t], [SV.slice 3 [] 1, I ((0 : Int)), I ((0 : Int)), B false]])) ∧ (Inv3 x7 l2 x8 x9 b3))) ∧ (∀ x10 : Int, ∀ l3 : List (List SV), ∀ x11 : Int, ∀ x12 : Int, ∀ b4 : Bool, (Inv3 x10 l3 x11 x12 b4) → ∃ Inv4 : Int → (List (List SV)) → Int → Int → Bool → Prop, ∃ m4 : Int → (List (List SV)) → Int → Int → Bool → Nat, (ifB (ieq x10 0) (Cl Tryz.prog 95 sP ([SV.agg [SL 3 l3, I x11, I x12, B b4], S (ByteArray.mk (Array.mk [116, 109, 112]))]) (fun (rs5 : List SV) => ∃ l4 : List (List SV), ∃ x13 : Int, ∃ x14 : Int, ∃ b5 : Bool, ∃ x15 : Int, (rs5 = [SV.agg [SL 3 l4, I x13, I x14, B b5], I x15]) ∧ ((Option.some ([[SL 21 (coR s.cs), I s.q, I s.t], [SV.slice 3 [] 1, I ((0 : Int)), I ((0 : Int)), B false]]) = Option.some ([[SL 21 (coR s.cs), I s.q, I s.t], [SV.slice 3 [] 1, I ((0 : Int)), I ((0 : Int)), B false]])) ∧ (Inv4 x15 l4 x13 x14 b5)))) ((Option.some ([[SL 21 (coR s.cs), I s.q, I s.t], [SV.slice 3 [] 1, I ((0 : Int)), I ((0 : Int)), B false]]) = Option.some ([[SL 21 (coR s.cs), I s.q, I s.t], [SV.slice 3 [] 1, I ((0 : Int)), I ((0 : Int)), B false]])) ∧ (Inv4 x10 l3 x11 x12 b4))) ∧ (∀ x13 : Int, ∀ l4 : List (List SV), ∀ x14 : Int, ∀ x15 : Int, ∀ b5 : Bool, (Inv4 x13 l4 x14 x15 b5) → ∃ Inv5 : Int → (List (List SV)) → Int → Int → Bool → Prop, ∃ m5 : Int → (List (List SV)) → Int → Int → Bool → Nat, (ifB (ieq x13 0) (Cl Tryz.prog 28 sP [I s.q] (fun (rs5 : List SV) => ∃ s1 : ByteArray, (rs5 = [S s1]) ∧ (Cl Tryz.prog 96 sP ([SV.agg [SL 3 l4, I x14, I x15, B b5], S (ByteArray.mk (Array.mk [116, 109, 112])), S s1]) (fun (rs6 : List SV) => ∃ l5 : List (List SV), ∃ x16 : Int, ∃ x17 : Int, ∃ b6 : Bool, ∃ x18 : Int, (rs6 = [SV.agg [SL 3 l5, I x16, I x17, B b6], I x18]) ∧ ((Option.some ([[SL 21 (coR s.cs), I s.q, I s.t], [SV.slice 3 [] 1, I ((0 : Int)), I ((0 : Int)), B false]]) = Option.some ([[SL 21 (coR s.cs), I s.q, I s.t], [SV.slice 3 [] 1, I ((0 : Int)), I ((0 : Int)), B false]])) ∧ (Inv5 x18 l5 x16 x17 b6)))))) ((Option.some ([[SL 21 (coR s.cs), I s.q, I s.t], [SV.slice 3 [] 1, I ((0 : Int)), I ((0 : Int)), B false]]) = Option.some ([[SL 21 (coR s.cs), I s.q, I s.t], [SV.slice 3 [] 1, I ((0 : Int)), I ((0 : Int)), B false]])) ∧ (Inv5 x13 l4 x14 x15 b5))) ∧ (∀ x16 : Int, ∀ l5 : List (List SV), ∀ x17 : Int, ∀ x18 : Int, ∀ b6 : Bool, (Inv5 x16 l5 x17 x18 b6) → [SV.agg [SL 3 l5, I x17, I x18, B b6], I x16] = [(saveD d s).1.sv, I (saveD d s).2])))))) := by
  intro x x2 x3 h2 h3 hx0
  refine ifB_intro (fun hc => ?_) (fun hc => ?_)
  ·simp only [bor_t, igt, decide_eq_true_eq] at hc
   rw [if_pos (by omega)] at sv
   rw [sv]
  simp only [bor_f, igt, decide_eq_false_iff_not] at hc
  rw [if_neg (by omega)] at sv
  have pm : (rmT d).1.P ∧ Good (rmT d).1 := by
   unfold rmT
   split
   ·exact ⟨opRemove_P h, Int.le_trans opRemove_st hg⟩
   ·exact ⟨h, hg⟩
  refine ⟨isP (rmT d), fun _ _ _ _ _ => 0, ifB_intro (fun hx => ?_) (fun hx => ?_), ?_⟩
  ·have : (d.get tmpB).isSome = true := hx0.1 (by simpa using hx)
   obtain ⟨f, hf⟩ := Option.isSome_iff_exists.1 this
   have hrm : rmT d = opRemove d tmpB := by unfold rmT; rw [hf]
   rw [hrm]
   exact Cl.of (qremove_fn d hd tmpB) ⟨_, _, _, _, _, rfl, rfl, rfl, rfl, rfl, rfl, rfl⟩
  ·have hn : d.get tmpB = none := by
    cases hf : d.get tmpB with
    | none => rfl
    | some f => have := hx0.2 (by rw [hf]; rfl); simp at hx; omega
   have hrm : rmT d = (d, 0) := by unfold rmT; rw [hn]
   rw [hrm]
   exact ⟨rfl, rfl, rfl, rfl, rfl, rfl⟩
  rintro _ _ _ _ _ ⟨rfl, rfl, rfl, rfl, rfl⟩
  obtain ⟨p0, g0⟩ := pm
  generalize rmT d = r0 at *
  have pg1 : (chn r0 fun d => opCreate d tmpB).1.P ∧ Good (chn r0 fun d => opCreate d tmpB).1 := by
   unfold chn; split
   ·exact ⟨opCreate_P p0, Int.le_trans opCreate_st g0⟩
   ·exact ⟨p0, g0⟩
  refine ⟨isP (chn r0 fun d => opCreate d tmpB), fun _ _ _ _ _ => 0, ifB_intro (fun hz => ?_) (fun hz => ?_), ?_⟩
  ·simp at hz
   have : (chn r0 fun d => opCreate d tmpB) = opCreate r0.1 tmpB := by unfold chn; rw [if_pos hz]
   rw [this]
   exact Cl.of (qcreate_fn r0.1 (g0.ok p0) tmpB) ⟨_, _, _, _, _, rfl, rfl, rfl, rfl, rfl, rfl, rfl⟩
  ·simp at hz
   have : (chn r0 fun d => opCreate d tmpB) = r0 := by unfold chn; rw [if_neg hz]
   rw [this]
   exact ⟨rfl, rfl, rfl, rfl, rfl, rfl⟩
  rintro _ _ _ _ _ ⟨rfl, rfl, rfl, rfl, rfl⟩
  obtain ⟨p1, g1⟩ := pg1
  have pg2 : (chn (chn r0 fun d => opCreate d tmpB) fun d => opAppend d tmpB (snU s)).1.P ∧ Good (chn (chn r0 fun d => opCreate d tmpB) fun d => opAppend d tmpB (snU s)).1 := by
   generalize (chn r0 fun d => opCreate d tmpB) = r1 at *
   unfold chn; split
   ·exact ⟨opAppend_P p1, Int.le_trans opAppend_st g1⟩
   ·exact ⟨p1, g1⟩
  refine ⟨isP (chn (chn r0 fun d => opCreate d tmpB) fun d => opAppend d tmpB (snU s)), fun _ _ _ _ _ => 0, ?_, ?_⟩
  ·generalize (chn r0 fun d => opCreate d tmpB) = r1 at *
   refine ifB_intro (fun hz => ?_) (fun hz => ?_)
   ·simp at hz
    have : (chn r1 fun d => opAppend d tmpB (snU s)) = opAppend r1.1 tmpB (snU s) := by unfold chn; rw [if_pos hz]
    rw [this]
    exact Cl.of (qappend_fn r1.1 (g1.ok p1) tmpB (snU s) (by omega)) ⟨_, _, _, _, _, rfl, rfl, rfl, rfl, rfl, rfl, rfl⟩
   ·simp at hz
    have : (chn r1 fun d => opAppend d tmpB (snU s)) = r1 := by unfold chn; rw [if_neg hz]
    rw [this]
    exact ⟨rfl, rfl, rfl, rfl, rfl, rfl⟩
  rintro _ _ _ _ _ ⟨rfl, rfl, rfl, rfl, rfl⟩
  obtain ⟨p2, g2⟩ := pg2
  have hmk : saveD d s = chn (chn (chn (chn r0 fun d => opCreate d tmpB) fun d => opAppend d tmpB (snU s)) fun d => opSync d tmpB) fun d => opRename d tmpB (snNm s.q) := by
   rw [sv]
   unfold mkT
   by_cases hz : r0.2 = 0
   ·have e0 : ∀ f, chn r0 f = f r0.1 := fun f => by unfold chn; rw [if_pos hz]
    rw [e0, e0]
   ·have e0 : ∀ f, chn r0 f = r0 := fun f => by unfold chn; rw [if_neg hz]
    rw [e0, e0, e0, e0, e0]
  generalize (chn (chn r0 fun d => opCreate d tmpB) fun d => opAppend d tmpB (snU s)) = r2 at *
  have pg3 : (chn r2 fun d => opSync d tmpB).1.P ∧ Good (chn r2 fun d => opSync d tmpB).1 := by
   unfold chn; split
   ·exact ⟨opSync_P p2, Int.le_trans opSync_st g2⟩
   ·exact ⟨p2, g2⟩
  refine ⟨isP (chn r2 fun d => opSync d tmpB), fun _ _ _ _ _ => 0, ifB_intro (fun hz => ?_) (fun hz => ?_), ?_⟩
  ·simp at hz
   have : (chn r2 fun d => opSync d tmpB) = opSync r2.1 tmpB := by unfold chn; rw [if_pos hz]
   rw [this]
   exact Cl.of (qsync_fn r2.1 (g2.ok p2) tmpB) ⟨_, _, _, _, _, rfl, rfl, rfl, rfl, rfl, rfl, rfl⟩
  ·simp at hz
   have : (chn r2 fun d => opSync d tmpB) = r2 := by unfold chn; rw [if_neg hz]
   rw [this]
   exact ⟨rfl, rfl, rfl, rfl, rfl, rfl⟩
  rintro _ _ _ _ _ ⟨rfl, rfl, rfl, rfl, rfl⟩
  obtain ⟨p3, g3⟩ := pg3
  generalize (chn r2 fun d => opSync d tmpB) = r3 at *
  refine ⟨isP (chn r3 fun d => opRename d tmpB (snNm s.q)), fun _ _ _ _ _ => 0, ifB_intro (fun hz => ?_) (fun hz => ?_), ?_⟩
  ·simp at hz
   have : (chn r3 fun d => opRename d tmpB (snNm s.q)) = opRename r3.1 tmpB (snNm s.q) := by unfold chn; rw [if_pos hz]
   rw [this]
   exact Cl.of (rnname_fn s.q hq) ⟨_, rfl, Cl.of (qrename_fn r3.1 (g3.ok p3) tmpB (snNm s.q)) ⟨_, _, _, _, _, rfl, rfl, rfl, rfl, rfl, rfl, rfl⟩⟩
  ·simp at hz
   have : (chn r3 fun d => opRename d tmpB (snNm s.q)) = r3 := by unfold chn; rw [if_neg hz]
   rw [this]
   exact ⟨rfl, rfl, rfl, rfl, rfl, rfl⟩
  rintro _ _ _ _ _ ⟨rfl, rfl, rfl, rfl, rfl⟩
  rw [hmk]
 rcases hat with ⟨e1, e2⟩ | ⟨i, hi, e1, e2⟩
 ·have hold : oldN d = 0 := by unfold oldN; rw [e2]
  have hnew : newF d = 1 := by unfold newF; rw [e2]
  rw [e1]
  refine ⟨fun x2 x3 => x2 = usedL d.fs + (snU s).length - oldN d ∧ x3 = d.fs.length + newF d, fun _ _ => 0, ifB_intro (fun h => by simp at h) (fun _ => ⟨rfl, ?_⟩), ?_⟩
  ·rw [hold, hnew, wadd_i64 (by omega) (by omega), wadd_i64 (by omega) (by omega)]
   exact ⟨by omega, by omega⟩
  ·rintro x2 x3 ⟨h2, h3⟩
   exact tail (-1) x2 x3 h2 h3 (by rw [e2]; simp)
 ·have hold : oldN d = d.fs[i].len := by unfold oldN; rw [e2]
  have hnew : newF d = 0 := by unfold newF; rw [e2]
  have hle := usedL_get e2
  rw [e1]
  refine ⟨fun x2 x3 => x2 = usedL d.fs + (snU s).length - oldN d ∧ x3 = d.fs.length + newF d, fun _ _ => 0, ifB_intro (fun _ => ?_) (fun h => by simp at h), ?_⟩
  ·refine ⟨⟨by omega, by omega⟩, _, _, _, rget_map _ _ _ hi, Cl.of (qall_fn _ _ _ (by unfold FiD.len at hle; omega)) ⟨_, rfl, rfl, ?_⟩⟩
   have hll : rlen (uR (d.fs[i].su ++ d.fs[i].lo)) = d.fs[i].len := by simp [rlen, FiD.len]
   rw [hll, hold, hnew, wadd_i64 (by omega) (by omega), wsub_i64 (by omega) (by omega)]
   exact ⟨by omega, by omega⟩
  ·rintro x2 x3 ⟨h2, h3⟩
   exact tail (i : Int) x2 x3 h2 h3 (by rw [e2]; simp)

def isF (f : FiD) (t : StD) : Prop := t.P ∧ f.nm = snNm t.q ∧ f.su ++ f.lo = snU t
def Cand (l : List FiD) (t : StD) : Prop := ∃ f ∈ l, isF f t
def Best (l : List FiD) (o : Option StD) : Prop := match o with | none => ∀ t, ¬ Cand l t | some s => Cand l s ∧ ∀ t, Cand l t → t.q ≤ s.q
def NewR (d : DiD) (s : StD) (e : Int) : Prop :=
 (¬ d.P ∧ s = st0 ∧ e = 1) ∨ (d.P ∧ d.dn = true ∧ s = st0 ∧ e = 16) ∨ (d.P ∧ d.dn = false ∧ ((e = 0 ∧ Best d.fs (some s)) ∨ (e = 14 ∧ s = st0 ∧ Best d.fs none)))

theorem cand_uniq {l : List FiD} (hs : srt FiD.nm l) {a b : StD} (ha : Cand l a) (hb : Cand l b) (e : a.q = b.q) : a = b := by
 obtain ⟨f, hf, p1, n1, b1⟩ := ha
 obtain ⟨g, hg, p2, n2, b2⟩ := hb
 have : f = g := srt_mem hs hf hg (by rw [n1, n2, e])
 subst this
 exact snB_inj p1 p2 (by rw [← snU_i, ← snU_i, ← b1, ← b2])
theorem best_uniq {l : List FiD} (hs : srt FiD.nm l) {a b : StD} (ha : Best l (some a)) (hb : Best l (some b)) : a = b :=
 cand_uniq hs ha.1 hb.1 (Int.le_antisymm (hb.2 a ha.1) (ha.2 b hb.1))
theorem NewR.eq {d : DiD} {s t : StD} {e f : Int} (h : NewR d s e) (k : NewR d t f) : s = t ∧ e = f := by
 rcases h with ⟨h1, rfl, rfl⟩ | ⟨h1, h2, rfl, rfl⟩ | ⟨h1, h2, h3⟩ <;> rcases k with ⟨k1, rfl, rfl⟩ | ⟨k1, k2, rfl, rfl⟩ | ⟨k1, k2, k3⟩
 ·exact ⟨rfl, rfl⟩
 ·exact absurd k1 h1
 ·exact absurd k1 h1
 ·exact absurd h1 k1
 ·exact ⟨rfl, rfl⟩
 ·rw [h2] at k2; cases k2
 ·exact absurd h1 k1
 ·rw [h2] at k2; cases k2
 ·rcases h3 with ⟨rfl, h3⟩ | ⟨rfl, rfl, h3⟩ <;> rcases k3 with ⟨rfl, k3⟩ | ⟨rfl, rfl, k3⟩
  ·exact ⟨best_uniq h1.2.2.2 h3 k3, rfl⟩
  ·exact absurd h3.1 (k3 _)
  ·exact absurd k3.1 (h3 _)
  ·exact ⟨rfl, rfl⟩

theorem cand_snoc {l : List FiD} {f : FiD} {t : StD} : Cand (l ++ [f]) t ↔ Cand l t ∨ isF f t := by
 unfold Cand
 constructor
 ·rintro ⟨g, hg, h⟩
  rcases List.mem_append.1 hg with hg | hg
  ·exact .inl ⟨g, hg, h⟩
  ·simp at hg; subst hg; exact .inr h
 ·rintro (⟨g, hg, h⟩ | h)
  ·exact ⟨g, by simp [hg], h⟩
  ·exact ⟨f, by simp, h⟩
theorem best_skip {l : List FiD} {f : FiD} {o : Option StD} (h : Best l o) (hf : ∀ t, isF f t → ∃ s, o = some s ∧ t.q ≤ s.q) : Best (l ++ [f]) o := by
 cases o with
 | none =>
  intro t ht
  rcases cand_snoc.1 ht with ht | ht
  ·exact h t ht
  ·obtain ⟨s, e, _⟩ := hf t ht; cases e
 | some s =>
  refine ⟨cand_snoc.2 (.inl h.1), fun t ht => ?_⟩
  rcases cand_snoc.1 ht with ht | ht
  ·exact h.2 t ht
  ·obtain ⟨s', e, hq⟩ := hf t ht; cases e; exact hq
theorem best_take {l : List FiD} {f : FiD} {o : Option StD} {s : StD} (h : Best l o) (hf : isF f s) (hq : ∀ t, o = some t → t.q < s.q) : Best (l ++ [f]) (some s) := by
 refine ⟨cand_snoc.2 (.inr hf), fun t ht => ?_⟩
 rcases cand_snoc.1 ht with ht | ht
 ·cases o with
  | none => exact absurd ht (h t)
  | some u => have := h.2 t ht; have := hq u rfl; omega
 ·have e : t = s := snB_inj ht.1 hf.1 (by rw [← snU_i, ← snU_i, ← ht.2.2, ← hf.2.2])
  rw [e]; exact Int.le_refl _

def Hold (o : Option StD) (l : List (List SV)) (q t : Int) : Prop := match o with
 | none => q = -1
 | some s => l = coR s.cs ∧ q = s.q ∧ t = s.t ∧ s.P

theorem file_len {d : DiD} (h : d.P) {i : Nat} (hi : i < d.fs.length) : (d.fs[i].su ++ d.fs[i].lo).length ≤ 65536 := by
 have h1 := h.1; have h2 := h.2.1
 have := usedL_mem (List.getElem_mem hi)
 unfold FiD.len at this
 rw [List.length_append]
 omega
theorem get_at {d : DiD} (h : d.P) {i : Nat} (hi : i < d.fs.length) : d.get d.fs[i].nm = some d.fs[i] := (get_iff h.2.2.2).2 ⟨List.getElem_mem hi, rfl⟩

theorem isF_of {f : FiD} {s : StD} {n e : Int} (hs : SnD (iU (f.su ++ f.lo)) s e) (he : e = 0) (hn : NumR f.nm n true) (hq : s.q = n) : isF f s := by
 subst he
 rcases hs with ⟨h1, h2, _⟩ | ⟨_, _, h⟩
 ·refine ⟨h1, ?_, (snU_iff.1 h2).symm⟩
  rcases hn with ⟨q, _, e, rfl, _⟩ | ⟨_, _, e⟩
  ·rw [hq]; exact e
  ·cases e
 ·exact absurd h.symm (decE_pos _)
theorem isF_num {f : FiD} {t : StD} {n : Int} {b : Bool} (h : isF f t) (hn : NumR f.nm n b) : b = true ∧ n = t.q := by
 have hq := stP_q h.1
 rcases hn with ⟨q, h1, e, rfl, rfl⟩ | ⟨h1, _, _⟩
 ·exact ⟨rfl, snNm_inj h1 hq (e.symm.trans h.2.1)⟩
 ·exact absurd h.2.1 (h1 _ hq)
theorem isF_dec {f : FiD} {t s : StD} {e : Int} (h : isF f t) (hs : SnD (iU (f.su ++ f.lo)) s e) : e = 0 ∧ s = t := by
 have hb : snB t = iU (f.su ++ f.lo) := snU_iff.2 h.2.2.symm
 rcases hs with ⟨h1, h2, h3⟩ | ⟨h1, _, _⟩
 ·exact ⟨h3, snB_inj h1 h.1 (h2.trans hb.symm)⟩
 ·exact absurd hb (h1 t h.1)

theorem nnew_fn (d : DiD) (hd : d.ok) : Ct Tryz.prog 41 {} [d.sv] (fun r => ∃ s e, r = [StD.sv s, I e] ∧ NewR d s e) := by
 refine nnew_nf _ _ _ _ _ (Cl.of (dright_fn d hd) ⟨_, rfl, ifB_intro (fun h => ?_) (fun h => ?_)⟩)
 ·simp at h; exact ⟨st0, 1, rfl, .inl ⟨h, rfl, rfl⟩⟩
 simp at h
 refine ifB_intro (fun hdn => ⟨st0, 16, rfl, .inr (.inl ⟨h, hdn, rfl, rfl⟩)⟩) (fun hdn => ?_)
 have hlen := h.1.1
 refine Cl.of (dlist_fn d (by omega)) ⟨_, rfl, ?_⟩
 have hrl : rlen (nR (d.fs.map FiD.nm)) = d.fs.length := by simp [rlen]
 rw [hrl]
 refine ⟨fun x l1 x1 x2 => 0 ≤ x ∧ x ≤ d.fs.length ∧ ∃ o, Best (d.fs.take x.toNat) o ∧ Hold o l1 x1 x2, fun x _ _ _ => (d.fs.length - x).toNat, ⟨by omega, by omega, none, (by rintro t ⟨f, hf, _⟩; simp at hf), rfl⟩, ?_⟩
 rintro x l1 x1 x2 ⟨x0, hx, o, hb, hh⟩
 have hq1 : -1 ≤ x1 := by
  cases o with
  | none => have : x1 = -1 := hh; omega
  | some s => obtain ⟨_, e, _, p⟩ := hh; have := (stP_q p).1; omega
 have w : x < d.fs.length → wadd IntKind.i64 x 1 = x + 1 := fun _ => wadd_i64 (by omega) (by omega)
 refine ifB_intro (fun hl => ?_) (fun hl => ?_)
 ·simp at hl
  have hlt : x.toNat < d.fs.length := by omega
  have htk : d.fs.take (x + 1).toNat = d.fs.take x.toNat ++ [d.fs[x.toNat]] := by
   rw [show (x + 1).toNat = x.toNat + 1 by omega, List.take_succ_eq_append_getElem hlt]
  have skip : (∀ t, isF d.fs[x.toNat] t → ∃ s, o = some s ∧ t.q ≤ s.q) → 0 ≤ x + 1 ∧ x + 1 ≤ d.fs.length ∧ ∃ o, Best (d.fs.take (x + 1).toNat) o ∧ Hold o l1 x1 x2 := fun hf =>
   ⟨by omega, by omega, o, by rw [htk]; exact best_skip hb hf, hh⟩
  have hm : Nat.le (Nat.succ (d.fs.length - (x + 1)).toNat) (d.fs.length - x).toNat := mlt (by omega)
  rw [w hl]
  refine ⟨⟨x0, hl⟩, d.fs[x.toNat].nm, by simp [rget, hlt], Cl.ofQ (nnum_fn _) ?_⟩
  rintro r ⟨n, b, rfl, hn⟩
  refine ⟨_, _, rfl, ifB_intro (fun h1 => ⟨rfl, skip fun t ht => ?_, hm⟩) (fun h1 => ?_)⟩
  ·obtain ⟨hb1, hn1⟩ := isF_num ht hn
   subst hb1
   have h1' : n ≤ x1 := by simpa using h1
   cases o with
   | none => have : x1 = -1 := hh; have := (stP_q ht.1).1; omega
   | some s => obtain ⟨_, e, _, _⟩ := hh; exact ⟨s, rfl, by omega⟩
  ·rw [bor_f] at h1
   have hbt : b = true := by simpa using h1.1
   subst hbt
   have h1' : x1 < n := by have := h1.2; simp at this; omega
   have er : d.er d.fs[x.toNat].nm d.fs[x.toNat].nm = 0 := er_zero.2 ⟨h, hdn, h.2.2.1 _ (List.getElem_mem hlt), h.2.2.1 _ (List.getElem_mem hlt)⟩
   have hrd : opRead d d.fs[x.toNat].nm = (d.fs[x.toNat].su ++ d.fs[x.toNat].lo, 0) := by unfold opRead; rw [er, get_at h hlt]; rfl
   refine Cl.of (dread_fn d hd _) ⟨_, _, rfl, ?_⟩
   rw [hrd]
   refine ifB_intro (fun h => by simp at h) (fun _ => ?_)
   have hfl := file_len h hlt
   have hdec := ndec_fn (iU (d.fs[x.toNat].su ++ d.fs[x.toNat].lo)) (by simp at hfl ⊢; omega) (iU_byts _)
   rw [← uR_bR] at hdec
   refine Cl.ofQ hdec ?_
   rintro r ⟨s, e, rfl, hs⟩
   refine ⟨_, _, _, _, rfl, ifB_intro (fun h2 => ⟨rfl, ⟨by omega, by omega, some s, ?_, rfl, rfl, rfl, ?_⟩, hm⟩) (fun h2 => ⟨rfl, skip fun t ht => ?_, hm⟩)⟩
   ·have h2' : e = 0 ∧ s.q = n := by
     by_cases e0 : e = 0
     ·exact ⟨e0, by simpa [e0] using h2⟩
     ·simp [e0] at h2
    rw [htk]
    refine best_take hb (isF_of hs h2'.1 hn h2'.2) fun t et => ?_
    subst et
    obtain ⟨_, e1, _, _⟩ := hh
    omega
   ·have h2' : e = 0 := by
     by_cases e0 : e = 0
     ·exact e0
     ·simp [e0] at h2
    rcases hs with ⟨p, _, _⟩ | ⟨_, _, p⟩
    ·exact p
    ·exact absurd (p.symm.trans h2') (decE_pos _)
   ·exfalso
    obtain ⟨g1, g2⟩ := isF_dec ht hs
    obtain ⟨_, g3⟩ := isF_num ht hn
    subst g1 g2 g3
    simp at h2
 ·simp at hl
  have htk : d.fs.take x.toNat = d.fs := List.take_of_length_le (by omega)
  rw [htk] at hb
  cases o with
  | none =>
   have : x1 = -1 := hh
   subst this
   exact ifB_intro (fun _ => ⟨st0, 14, rfl, .inr (.inr ⟨h, hdn, .inr ⟨rfl, rfl, hb⟩⟩)⟩) (fun h => by simp at h)
  | some s =>
   obtain ⟨rfl, rfl, rfl, p⟩ := hh
   have := (stP_q p).1
   exact ifB_intro (fun h => by simp at h; omega) (fun _ => ⟨s, 0, rfl, .inr (.inr ⟨h, hdn, .inl ⟨rfl, hb⟩⟩)⟩)

def Hold2 (o : Option StD) (e : Int) (l : List (List SV)) (q t : Int) : Prop := match o with
 | none => e = 14 ∧ l = [] ∧ q = 0 ∧ t = 0
 | some s => e = 0 ∧ l = coR s.cs ∧ q = s.q ∧ t = s.t

theorem rnnew_fn (d : DiD) (hd : d.ok) : Ct Tryz.prog 42 {} [d.sv] (fun r => ∃ s e, r = [StD.sv s, I e] ∧ NewR d s e) := by
 refine rnnew_nf _ _ _ _ _ (Cl.of (qright_fn d hd) ⟨_, rfl, ifB_intro (fun h => ?_) (fun h => ?_)⟩)
 ·simp at h; exact ⟨st0, 1, rfl, .inl ⟨h, rfl, rfl⟩⟩
 simp at h
 refine ifB_intro (fun hdn => ⟨st0, 16, rfl, .inr (.inl ⟨h, hdn, rfl, rfl⟩)⟩) (fun hdn => ?_)
 have hlen := h.1.1
 have hrl : rlen (fR d.fs) = d.fs.length := by simp [rlen]
 rw [hrl]
 refine ⟨fun x x1 l q t => 0 ≤ x ∧ x ≤ d.fs.length ∧ ∃ o, Best (d.fs.take x.toNat) o ∧ Hold2 o x1 l q t, fun x _ _ _ _ => (d.fs.length - x).toNat, ⟨by omega, by omega, none, (by rintro t ⟨f, hf, _⟩; simp at hf), rfl, rfl, rfl, rfl⟩, ?_⟩
 rintro x x1 l q t ⟨x0, hx, o, hb, hh⟩
 refine ifB_intro (fun hl => ?_) (fun hl => ?_)
 ·simp at hl
  have hlt : x.toNat < d.fs.length := by omega
  have w : wadd IntKind.i64 x 1 = x + 1 := wadd_i64 (by omega) (by omega)
  have htk : d.fs.take (x + 1).toNat = d.fs.take x.toNat ++ [d.fs[x.toNat]] := by
   rw [show (x + 1).toNat = x.toNat + 1 by omega, List.take_succ_eq_append_getElem hlt]
  have hm : Nat.le (Nat.succ (d.fs.length - (x + 1)).toNat) (d.fs.length - x).toNat := mlt (by omega)
  have hg : rget (fR d.fs) x = [S d.fs[x.toNat].nm, SL 1 (uR d.fs[x.toNat].su), SL 1 (uR d.fs[x.toNat].lo)] := by simp [rget, hlt]
  rw [w]
  have hfl := file_len h hlt
  refine ⟨⟨x0, hl⟩, _, _, _, hg, Cl.ofQ (rnnum_fn _) ?_⟩
  rintro r ⟨n, b, rfl, hn⟩
  refine ⟨_, _, rfl, ⟨x0, hl⟩, _, _, _, hg, Cl.of (qall_fn _ _ _ (by rw [List.length_append] at hfl; omega)) ⟨_, rfl, ?_⟩⟩
  have hdec := rndec_fn (iU (d.fs[x.toNat].su ++ d.fs[x.toNat].lo)) (by simp at hfl ⊢; omega) (iU_byts _)
  rw [← uR_bR] at hdec
  refine Cl.ofQ hdec ?_
  rintro r ⟨s, e, rfl, hs⟩
  refine ⟨_, _, _, _, rfl, ifB_intro (fun h2 => ⟨rfl, ⟨by omega, by omega, some s, ?_, rfl, rfl, rfl, rfl⟩, hm⟩) (fun h2 => ⟨rfl, ⟨by omega, by omega, o, ?_, hh⟩, hm⟩)⟩
  ·cases b
   ·simp at h2
   by_cases e0 : e = 0
   rotate_left
   ·simp [e0] at h2
   by_cases e1 : s.q = n
   rotate_left
   ·simp [e0, e1] at h2
   rw [htk]
   refine best_take hb (isF_of hs e0 hn e1) fun t et => ?_
   subst et
   obtain ⟨e2, _, e3, _⟩ := hh
   simp [e0, e1, e2] at h2
   omega
  ·rw [htk]
   refine best_skip hb fun t ht => ?_
   obtain ⟨g1, g2⟩ := isF_dec ht hs
   obtain ⟨g4, g3⟩ := isF_num ht hn
   subst g1 g2 g3 g4
   cases o with
   | none => obtain ⟨e2, _, _, _⟩ := hh; simp [e2] at h2
   | some u =>
    obtain ⟨e2, _, e3, _⟩ := hh
    simp [e2] at h2
    exact ⟨u, rfl, by omega⟩
 ·simp at hl
  have htk : d.fs.take x.toNat = d.fs := List.take_of_length_le (by omega)
  rw [htk] at hb
  cases o with
  | none =>
   obtain ⟨rfl, rfl, rfl, rfl⟩ := hh
   exact ⟨st0, 14, rfl, .inr (.inr ⟨h, hdn, .inr ⟨rfl, rfl, hb⟩⟩)⟩
  | some s =>
   obtain ⟨rfl, rfl, rfl, rfl⟩ := hh
   exact ⟨s, 0, rfl, .inr (.inr ⟨h, hdn, .inl ⟨rfl, hb⟩⟩)⟩

theorem perf_cases (e : DiD) (fs : List FiD) : (e.st = 0 ∧ e.perf fs = ({ e with dn := true }, 16)) ∨ (e.st ≠ 0 ∧ e.perf fs = ({ e.tick with fs := fs }, 0)) := by
 unfold DiD.perf
 by_cases h : e.st = 0
 ·exact .inl ⟨h, by rw [if_pos h]⟩
 ·exact .inr ⟨h, by rw [if_neg h]⟩
theorem tick_one {e : DiD} (h : e.st = -1) : e.tick.st = -1 := by unfold DiD.tick; simp [h]

theorem snNm_ne (q : Int) : snNm q ≠ tmpB := by
 intro e
 have := congrArg (fun s : ByteArray => s.data.toList.length) e
 simp only [snNm_list] at this
 simp [dgs_len] at this
theorem fchr_dig {c : UInt8} (h : isD c) : fchr c = true := by
 unfold isD at h
 unfold fchr
 rw [decide_eq_true_eq]
 omega
theorem snNm_fn (q : Int) : fnB (snNm q) = true := by
 unfold fnB
 have hs : (snNm q).size = 15 := by rw [ba_size, snNm_list]; simp [dgs_len]
 rw [hs, snNm_list]
 simp only [Bool.and_eq_true, decide_eq_true_eq, List.all_append]
 refine ⟨by omega, by decide +kernel, ?_⟩
 rw [List.all_eq_true]
 exact fun c hc => fchr_dig (dgs_isD _ _ c hc)

def Eqv (a b : List FiD) : Prop := ∀ f : FiD, f.nm ≠ tmpB → (f ∈ a ↔ f ∈ b)
theorem Eqv.refl (a : List FiD) : Eqv a a := fun _ _ => Iff.rfl
theorem Eqv.trans {a b c : List FiD} (h : Eqv a b) (k : Eqv b c) : Eqv a c := fun f hf => (h f hf).trans (k f hf)
theorem Eqv.symm {a b : List FiD} (h : Eqv a b) : Eqv b a := fun f hf => (h f hf).symm
theorem eqv_wout (l : List FiD) : Eqv (wout FiD.nm l tmpB) l := fun f hf => by rw [mem_wout]; exact ⟨fun h => h.1, fun h => ⟨h, hf⟩⟩
theorem eqv_withB (l : List FiD) (a b : List UInt8) : Eqv (withB FiD.nm (wout FiD.nm l tmpB) ⟨tmpB, a, b⟩) l := fun f hf => by
 rw [mem_withB, mem_wout]
 constructor
 ·rintro (rfl | ⟨⟨h, _⟩, _⟩)
  ·exact absurd rfl hf
  ·exact h
 ·exact fun h => .inr ⟨⟨h, hf⟩, hf⟩
theorem isF_ne {f : FiD} {t : StD} (h : isF f t) : f.nm ≠ tmpB := by rw [h.2.1]; exact snNm_ne _
theorem wout_twice (l : List FiD) (s : ByteArray) : wout FiD.nm (wout FiD.nm l s) s = wout FiD.nm l s := wout_none fun f hf => (mem_wout.1 hf).2
theorem used_split {d : DiD} (h : d.P) : usedL (wout FiD.nm d.fs tmpB) + oldN d = usedL d.fs ∧ (wout FiD.nm d.fs tmpB).length + 1 = d.fs.length + newF d := by
 unfold oldN newF
 rcases d.get_cases tmpB with ⟨e1, e2, e3⟩ | ⟨i, hi, e2, e1, e3⟩
 ·rw [e1, wout_none e3]; exact ⟨rfl, rfl⟩
 ·rw [e1]
  have := usedL_wout h.2.2.2 hi
  rw [e3] at this
  have hl := wout_erase h.2.2.2 hi
  rw [e3] at hl
  have hel : (wout FiD.nm d.fs tmpB).length = d.fs.length - 1 := by rw [hl, List.length_eraseIdx]; simp [hi]
  refine ⟨this, ?_⟩
  show _ + 1 = d.fs.length + 0
  omega
theorem used_withB (l : List FiD) (f : FiD) : usedL (withB FiD.nm l f) = usedL (wout FiD.nm l f.nm) + f.len := usedL_insB
theorem get_tmp {d : DiD} (h : d.P) {l : List FiD} {a b : List UInt8} (hs : srt FiD.nm l) (e : d.fs = withB FiD.nm l ⟨tmpB, a, b⟩) : d.get tmpB = some ⟨tmpB, a, b⟩ := get_withB (f := ⟨tmpB, a, b⟩) hs e

theorem er_ok {d : DiD} (h : d.P) (hd : d.dn = false) {a b : ByteArray} (ha : fnB a = true) (hb : fnB b = true) : d.er a b = 0 := er_zero.2 ⟨h, hd, ha, hb⟩

def newFile (s : StD) : FiD := ⟨snNm s.q, snU s, []⟩
inductive SaveR (d : DiD) (s : StD) : DiD × Int → Prop
 | full (h : d.rm + oldN d < usedL d.fs + (snU s).length ∨ 64 < d.fs.length + newF d) : SaveR d s (d, 13)
 | down (x : DiD) (hp : x.P) (hst : d.st ≠ -1) (he : Eqv x.fs d.fs) (hg : Good d → Good x) : SaveR d s (x, 16)
 | ok (x : DiD) (hp : x.P) (hd : x.dn = false) (hst : d.st = -1 → x.st = -1) (hrm : x.rm = d.rm) (hf : x.fs = withB FiD.nm (wout FiD.nm d.fs tmpB) (newFile s)) (hg : Good d → Good x) : SaveR d s (x, 0)

theorem save_cases {d : DiD} (hp : d.P) (hd : d.dn = false) {s : StD} (hs : s.P) : SaveR d s (saveD d s) := by
 have sv : saveD d s = if d.rm + oldN d < usedL d.fs + (snU s).length ∨ 64 < d.fs.length + newF d then (d, 13) else chn (rmT d) fun d => mkT d (snU s) s.q := by
  unfold saveD
  rw [if_neg (by simp [hp, hs]), if_neg (by simp [hd])]
 by_cases hc : d.rm + oldN d < usedL d.fs + (snU s).length ∨ 64 < d.fs.length + newF d
 ·rw [sv, if_pos hc]; exact .full hc
 rw [if_neg hc] at sv
 rw [sv]
 obtain ⟨hu, hn⟩ := used_split hp
 have hsrt : srt FiD.nm (wout FiD.nm d.fs tmpB) := srt_wout hp.2.2.2
 have hst0 := hp.1.2.2.2
 generalize hW : wout FiD.nm d.fs tmpB = W at *
 have eW : Eqv W d.fs := by rw [← hW]; exact eqv_wout _
 have eB : ∀ a b, Eqv (withB FiD.nm W ⟨tmpB, a, b⟩) d.fs := fun a b => by rw [← hW]; exact eqv_withB _ a b
 have hWW : wout FiD.nm W tmpB = W := by rw [← hW]; exact wout_twice _ _
 have bb : ∀ a b a' b', withB FiD.nm (withB FiD.nm W ⟨tmpB, a, b⟩) ⟨tmpB, a', b'⟩ = withB FiD.nm W ⟨tmpB, a', b'⟩ := fun a b a' b' => withB_withB rfl
 have wb : ∀ a b, wout FiD.nm (withB FiD.nm W ⟨tmpB, a, b⟩) tmpB = W := fun a b => by rw [wout_withB W ⟨tmpB, a, b⟩]; exact hWW
 -- the first step
 have first : (∃ x, rmT d = (x, 16) ∧ x.P ∧ d.st ≠ -1 ∧ Eqv x.fs d.fs ∧ (Good d → Good x)) ∨ ∃ x, rmT d = (x, 0) ∧ x.P ∧ x.dn = false ∧ (d.st = -1 → x.st = -1) ∧ x.rm = d.rm ∧ x.fs = W ∧ (Good d → Good x) := by
  unfold rmT
  cases hg : d.get tmpB with
  | none =>
   refine .inr ⟨d, rfl, hp, hd, fun h => h, rfl, ?_, fun h => h⟩
   rw [← hW]
   exact (wout_none (get_none hg)).symm
  | some f =>
   have hP := opRemove_P (s := tmpB) hp
   have hG : Good d → Good (opRemove d tmpB).1 := fun h => Int.le_trans opRemove_st h
   have e : opRemove d tmpB = d.perf W := by
    unfold opRemove
    rw [er_ok hp hd fnB_tmp fnB_tmp, hg, hW]; rfl
   rw [e] at hP hG
   dsimp only
   rw [e]
   rcases perf_cases d W with ⟨h0, e0⟩ | ⟨h0, e0⟩ <;> rw [e0] at hP hG ⊢
   ·exact .inl ⟨_, rfl, hP, by omega, Eqv.refl _, hG⟩
   ·exact .inr ⟨_, rfl, hP, hd, fun h => tick_one h, rfl, rfl, hG⟩
 rcases first with ⟨x, e, h1, h2, h3, h4⟩ | ⟨d1, e, p1, n1, t1, r1, f1, g1⟩
 ·have : chn (rmT d) (fun d => mkT d (snU s) s.q) = (x, 16) := by rw [e]; rfl
  rw [this]
  exact .down x h1 h2 h3 h4
 have : chn (rmT d) (fun d => mkT d (snU s) s.q) = mkT d1 (snU s) s.q := by rw [e]; rfl
 rw [this]
 unfold mkT
 -- the file is made
 have hP := opCreate_P (s := tmpB) p1
 have hG : Good d → Good (opCreate d1 tmpB).1 := fun h => Int.le_trans opCreate_st (g1 h)
 have hget : d1.get tmpB = none := by
  cases hg : d1.get tmpB with
  | none => rfl
  | some f =>
   exfalso
   obtain ⟨m1, m2⟩ := (get_iff p1.2.2.2).1 hg
   rw [f1, ← hW] at m1
   exact (mem_wout.1 m1).2 m2
 have e : opCreate d1 tmpB = d1.perf (withB FiD.nm W ⟨tmpB, [], []⟩) := by
  unfold opCreate
  rw [er_ok p1 n1 fnB_tmp fnB_tmp, hget, f1]
  simp only [ne_eq, not_true_eq_false, if_false]
  rw [if_neg (by omega)]
 rw [e] at hP hG ⊢
 rcases perf_cases d1 (withB FiD.nm W ⟨tmpB, [], []⟩) with ⟨h0, e0⟩ | ⟨h0, e0⟩ <;> rw [e0] at hP hG ⊢
 ·exact .down _ hP (fun h => by have := t1 h; omega) (by rw [show ({ d1 with dn := true } : DiD).fs = W from f1]; exact eW) hG
 have t2 : d.st = -1 → ({ d1.tick with fs := withB FiD.nm W ⟨tmpB, [], []⟩ } : DiD).st = -1 := fun h => tick_one (t1 h)
 have n2 : ({ d1.tick with fs := withB FiD.nm W ⟨tmpB, [], []⟩ } : DiD).dn = false := n1
 have r2 : ({ d1.tick with fs := withB FiD.nm W ⟨tmpB, [], []⟩ } : DiD).rm = d.rm := r1
 have f2 : ({ d1.tick with fs := withB FiD.nm W ⟨tmpB, [], []⟩ } : DiD).fs = withB FiD.nm W ⟨tmpB, [], []⟩ := rfl
 have p2 := hP
 have g2 := hG
 dsimp only at p2 g2
 generalize ({ d1.tick with fs := withB FiD.nm W ⟨tmpB, [], []⟩ } : DiD) = d2 at *
 have c1 : chn (d2, 0) (fun d => opAppend d tmpB (snU s)) = opAppend d2 tmpB (snU s) := rfl
 rw [c1]
 -- its bytes
 have hP := opAppend_P (s := tmpB) (x := snU s) p2
 have hG : Good d → Good (opAppend d2 tmpB (snU s)).1 := fun h => Int.le_trans opAppend_st (g2 h)
 have hu2 : usedL d2.fs = usedL W := by rw [f2, used_withB, hWW]; simp [FiD.len]
 have e : opAppend d2 tmpB (snU s) = if d2.st = 0 then ({ d2 with dn := true, fs := withB FiD.nm W ⟨tmpB, [], snU s⟩ }, 16) else ({ d2.tick with fs := withB FiD.nm W ⟨tmpB, [], snU s⟩ }, 0) := by
  unfold opAppend
  rw [er_ok p2 n2 fnB_tmp fnB_tmp, get_tmp p2 hsrt f2]
  simp only [ne_eq, not_true_eq_false, if_false]
  rw [if_neg (by omega), f2, bb]
  rfl
 rw [e] at hP hG ⊢
 by_cases h0 : d2.st = 0
 ·simp only [if_pos h0] at hP hG ⊢
  exact .down _ hP (fun h => by have := t2 h; omega) (eB _ _) hG
 simp only [if_neg h0] at hP hG ⊢
 have t3 : d.st = -1 → ({ d2.tick with fs := withB FiD.nm W ⟨tmpB, [], snU s⟩ } : DiD).st = -1 := fun h => tick_one (t2 h)
 have n3 : ({ d2.tick with fs := withB FiD.nm W ⟨tmpB, [], snU s⟩ } : DiD).dn = false := n2
 have r3 : ({ d2.tick with fs := withB FiD.nm W ⟨tmpB, [], snU s⟩ } : DiD).rm = d.rm := r2
 have f3 : ({ d2.tick with fs := withB FiD.nm W ⟨tmpB, [], snU s⟩ } : DiD).fs = withB FiD.nm W ⟨tmpB, [], snU s⟩ := rfl
 have p3 := hP
 have g3 := hG
 generalize ({ d2.tick with fs := withB FiD.nm W ⟨tmpB, [], snU s⟩ } : DiD) = d3 at *
 have c1 : chn (d3, 0) (fun d => opSync d tmpB) = opSync d3 tmpB := rfl
 rw [c1]
 -- synced
 have hP := opSync_P (s := tmpB) p3
 have hG : Good d → Good (opSync d3 tmpB).1 := fun h => Int.le_trans opSync_st (g3 h)
 have e : opSync d3 tmpB = d3.perf (withB FiD.nm W ⟨tmpB, snU s, []⟩) := by
  unfold opSync
  rw [er_ok p3 n3 fnB_tmp fnB_tmp, get_tmp p3 hsrt f3]
  simp only [ne_eq, not_true_eq_false, if_false]
  rw [f3, bb]
  rfl
 rw [e] at hP hG ⊢
 rcases perf_cases d3 (withB FiD.nm W ⟨tmpB, snU s, []⟩) with ⟨h0, e0⟩ | ⟨h0, e0⟩ <;> rw [e0] at hP hG ⊢
 ·exact .down _ hP (fun h => by have := t3 h; omega) (by rw [show ({ d3 with dn := true } : DiD).fs = _ from f3]; exact eB _ _) hG
 have t4 : d.st = -1 → ({ d3.tick with fs := withB FiD.nm W ⟨tmpB, snU s, []⟩ } : DiD).st = -1 := fun h => tick_one (t3 h)
 have n4 : ({ d3.tick with fs := withB FiD.nm W ⟨tmpB, snU s, []⟩ } : DiD).dn = false := n3
 have r4 : ({ d3.tick with fs := withB FiD.nm W ⟨tmpB, snU s, []⟩ } : DiD).rm = d.rm := r3
 have f4 : ({ d3.tick with fs := withB FiD.nm W ⟨tmpB, snU s, []⟩ } : DiD).fs = withB FiD.nm W ⟨tmpB, snU s, []⟩ := rfl
 have p4 := hP
 have g4 := hG
 dsimp only at p4 g4
 generalize ({ d3.tick with fs := withB FiD.nm W ⟨tmpB, snU s, []⟩ } : DiD) = d4 at *
 have c1 : chn (d4, 0) (fun d => opRename d tmpB (snNm s.q)) = opRename d4 tmpB (snNm s.q) := rfl
 rw [c1]
 -- renamed
 have hP := opRename_P (a := tmpB) (b := snNm s.q) p4
 have hG : Good d → Good (opRename d4 tmpB (snNm s.q)).1 := fun h => Int.le_trans opRename_st (g4 h)
 have e : opRename d4 tmpB (snNm s.q) = d4.perf (withB FiD.nm W (newFile s)) := by
  unfold opRename
  rw [er_ok p4 n4 fnB_tmp (snNm_fn _), get_tmp p4 hsrt f4]
  simp only [ne_eq, not_true_eq_false, if_false]
  rw [f4, wb]
  rfl
 rw [e] at hP hG ⊢
 rcases perf_cases d4 (withB FiD.nm W (newFile s)) with ⟨h0, e0⟩ | ⟨h0, e0⟩ <;> rw [e0] at hP hG ⊢
 ·exact .down _ hP (fun h => by have := t4 h; omega) (by rw [show ({ d4 with dn := true } : DiD).fs = _ from f4]; exact eB _ _) hG
 ·exact .ok _ hP n4 (fun h => tick_one (t4 h)) r4 (by rw [hW]) hG

theorem cand_new {l : List FiD} {s t : StD} (hs : s.P) : Cand (withB FiD.nm (wout FiD.nm l tmpB) (newFile s)) t ↔ t = s ∨ (Cand l t ∧ t.q ≠ s.q) := by
 constructor
 ·rintro ⟨f, hf, k⟩
  rcases mem_withB.1 hf with rfl | ⟨h1, h2⟩
  ·refine .inl (snB_inj k.1 hs ?_)
   have : snU s = snU t := by have := k.2.2; simpa [newFile] using this
   rw [← snU_i, ← snU_i, this]
  ·refine .inr ⟨⟨f, (mem_wout.1 h1).1, k⟩, fun e => h2 ?_⟩
   rw [k.2.1, e]; rfl
 ·rintro (rfl | ⟨⟨f, hf, k⟩, hq⟩)
  ·exact ⟨newFile t, mem_withB.2 (.inl rfl), hs, rfl, by simp [newFile]⟩
  ·refine ⟨f, mem_withB.2 (.inr ⟨mem_wout.2 ⟨hf, isF_ne k⟩, fun e => hq ?_⟩), k⟩
   rw [k.2.1] at e
   exact snNm_inj (stP_q k.1) (stP_q hs) e
theorem best_later {l : List FiD} {s w : StD} (hs : s.P) (h : Best l (some w)) (hq : s.q < w.q) : Best (withB FiD.nm (wout FiD.nm l tmpB) (newFile s)) (some w) := by
 refine ⟨(cand_new hs).2 (.inr ⟨h.1, by omega⟩), fun t ht => ?_⟩
 rcases (cand_new hs).1 ht with rfl | ⟨ht, _⟩
 ·omega
 ·exact h.2 t ht
theorem best_new {l : List FiD} {s : StD} {o : Option StD} (hs : s.P) (h : Best l o) (hq : ∀ w, o = some w → w.q ≤ s.q) : Best (withB FiD.nm (wout FiD.nm l tmpB) (newFile s)) (some s) := by
 refine ⟨(cand_new hs).2 (.inl rfl), fun t ht => ?_⟩
 rcases (cand_new hs).1 ht with rfl | ⟨ht, _⟩
 ·exact Int.le_refl _
 ·cases o with
  | none => exact absurd ht (h t)
  | some w => have := h.2 t ht; have := hq w rfl; omega

end Go.Proofs.YtbocfphenkidnaaGreatDoor.Snp

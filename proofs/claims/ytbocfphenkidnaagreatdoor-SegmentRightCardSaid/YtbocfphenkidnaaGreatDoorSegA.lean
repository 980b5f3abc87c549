/- Layers 4, 8, 9: the printed conditions of crc's, frame's and segment's functions. -/
import Derived.Test.YtbocfphenkidnaaGreatDoorCodB
namespace Go.Proofs.YtbocfphenkidnaaGreatDoor.Seg
open Go Go.Px Go.Proofs Go.Proofs.YtbocfphenkidnaaGreatDoor.Cod
set_option maxRecDepth 100000
set_option linter.unusedVariables false

abbrev U32 (n : Int) : SV := .int .u32 n
abbrev cx3 (s a : Int) (ns : List (List SV)) : SV := .agg [I s, I a, SL 1 ns]
abbrev sc11 (num bs ba : Int) (bn ev : List (List SV)) (as_ aa : Int) (an : List (List SV)) (st sz : Int) (sealed : Bool) : SV := .agg [I num, I bs, I ba, SL 1 bn, SL 7 ev, I as_, I aa, SL 1 an, I st, I sz, B sealed]
abbrev sOP : Sig := ⟨[], [.own, .pure]⟩
abbrev sL : Sig := ⟨[.lend [false,false,false,false,true,false,false,false,false,false,false]], []⟩
def SgT : FuncId → Sig := (fun f => bif Nat.beq f 12 then sOP else bif Nat.beq f 62 then sL else bif Nat.beq f 63 then sL else bif Nat.beq f 52 then sOP else bif Nat.beq f 53 then ⟨[], [.own]⟩ else bif Nat.beq f 127 then sL else bif Nat.beq f 128 then sL else bif Nat.beq f 71 then ⟨[], [.own]⟩ else bif Nat.beq f 110 then ⟨[], [.own]⟩ else bif Nat.beq f 115 then ⟨[], [.own]⟩ else bif Nat.beq f 181 then ⟨[], [.own]⟩ else bif Nat.beq f 137 then ⟨[], [.own]⟩ else bif Nat.beq f 185 then ⟨[], [.own]⟩ else {})
def SvT : TypeId → Sig := fun _ => {}
theorem cstep_nf (n : Int) (Q : List SV → Prop) (h : ((0 : Int) ≤ 1) ∧ ((((2 : Int) = 0) → False) ∧ (ifB (ieq (wrem n 2) 1) (Q [SV.int .u32 (wxor IntKind.u32 (wshr IntKind.u32 n 1) 3988292384)]) (Q [SV.int .u32 (wshr IntKind.u32 n 1)])))) : Ct Tryz.prog 138 {} [U32 n] Q :=
  fn_of (f := 138) SgT SvT (fun _ => none) Tryz.f138 Tryz.func138 (by kernel_rfl) (by kernel_rfl) h

theorem ctable_nf  (Q : List SV → Prop) (h : ∃ Inv : Int → (List Int) → Prop, ∃ m : Int → (List Int) → Nat, (Inv 0 (azero 256)) ∧ (∀ x : Int, ∀ rs : List Int, (Inv x rs) → ifB (ilt x 256) (∃ Inv1 : Int → Int → Prop, ∃ m1 : Int → Int → Nat, (Inv1 (wcv IntKind.u32 x) 0) ∧ (∀ x1 : Int, ∀ x2 : Int, (Inv1 x1 x2) → ifB (ilt x2 8) (Cl Tryz.prog 138 sP [SV.int .u32 x1] (fun (rs1 : List SV) => ∃ x3 : Int, (rs1 = [SV.int .u32 x3]) ∧ ((Option.some ([[SV.gd 0 true (SV.arr IntKind.u32 256 (azero 256))], [SV.gd 0 true (SV.arr IntKind.u32 256 rs)]]) = Option.some ([[SV.gd 0 true (SV.arr IntKind.u32 256 (azero 256))], [SV.gd 0 true (SV.arr IntKind.u32 256 rs)]])) ∧ ((Inv1 x3 (wadd IntKind.i64 x2 1)) ∧ (Nat.le (Nat.succ (m1 x3 (wadd IntKind.i64 x2 1))) (m1 x1 x2)))))) ((((0 : Int) ≤ x) ∧ (x < ((256 : Int)))) ∧ ((((0 : Int) ≤ x) ∧ (x < ((256 : Int)))) ∧ ((Option.some ([[SV.gd 0 true (SV.arr IntKind.u32 256 (azero 256))]]) = Option.some ([[SV.gd 0 true (SV.arr IntKind.u32 256 (azero 256))]])) ∧ ((Inv (wadd IntKind.i64 x 1) (aset rs x x1)) ∧ (Nat.le (Nat.succ (m (wadd IntKind.i64 x 1) (aset rs x x1))) (m x rs)))))))) (Q [SV.arr IntKind.u32 256 rs]))) : Ct Tryz.prog 72 {} ([] : List SV) Q :=
  fn_of (f := 72) SgT SvT (fun k => bif Nat.beq k 5 then some { slots := [(4,false,[.int .i64])], owns := [(128,.arr .u32 256)], fixed := [0] } else bif Nat.beq k 10 then some { slots := [(3,false,[.int .u32]),(9,false,[.int .i64])], fixed := [0, 128] } else none) Tryz.f72 Tryz.func72 (by kernel_rfl) (by kernel_rfl) h

theorem csum_nf (ns : List Int) (n : Int) (rows : List (List SV)) (Q : List SV → Prop) (h : ∃ Inv : Int → Int → Prop, ∃ m : Int → Int → Nat, (Inv n 0) ∧ (∀ x : Int, ∀ x1 : Int, (Inv x x1) → ifB (ilt x1 (rlen rows)) ((((0 : Int) ≤ x1) ∧ (x1 < (rlen rows))) ∧ (∃ x2 : Int, (rget rows x1 = [U8 x2]) ∧ ((((0 : Int) ≤ (wxor IntKind.u8 (wcv IntKind.u8 (wnot IntKind.u32 x)) x2)) ∧ ((wxor IntKind.u8 (wcv IntKind.u8 (wnot IntKind.u32 x)) x2) < ((256 : Int)))) ∧ ((((0 : Int) ≤ (wxor IntKind.u8 (wcv IntKind.u8 (wnot IntKind.u32 x)) x2)) ∧ ((wxor IntKind.u8 (wcv IntKind.u8 (wnot IntKind.u32 x)) x2) < ((256 : Int)))) ∧ (((0 : Int) ≤ 8) ∧ ((Option.some ([[SV.gd 0 true (SV.arr IntKind.u32 256 ns)]]) = Option.some ([[SV.gd 0 true (SV.arr IntKind.u32 256 ns)]])) ∧ ((Inv (wnot IntKind.u32 (wxor IntKind.u32 (aget ns (wxor IntKind.u8 (wcv IntKind.u8 (wnot IntKind.u32 x)) x2)) (wshr IntKind.u32 (wnot IntKind.u32 x) 8))) (wadd IntKind.i64 x1 1)) ∧ (Nat.le (Nat.succ (m (wnot IntKind.u32 (wxor IntKind.u32 (aget ns (wxor IntKind.u8 (wcv IntKind.u8 (wnot IntKind.u32 x)) x2)) (wshr IntKind.u32 (wnot IntKind.u32 x) 8))) (wadd IntKind.i64 x1 1))) (m x x1))))))))) (Q [SV.int .u32 x]))) : Ct Tryz.prog 136 {} [.arr .u32 256 ns, U32 n, SL 1 rows] Q :=
  fn_of (f := 136) SgT SvT (fun k => bif Nat.beq k 13 then some { slots := [(1,false,[.int .u32]),(12,false,[.int .i64])], fixed := [384] } else none) Tryz.f136 Tryz.func136 (by kernel_rfl) (by kernel_rfl) h

theorem cseal_nf (ns : List Int) (rows : List (List SV)) (Q : List SV → Prop) (h : Cl Tryz.prog 136 sP [SV.arr IntKind.u32 256 ns, SV.int .u32 0, SL 1 rows] (fun (rs : List SV) => ∃ x : Int, (rs = [SV.int .u32 x]) ∧ (Cl Tryz.prog 137 sO [SL 1 rows] (fun (rs1 : List SV) => ∃ l : List (List SV), (rs1 = [SL 1 l]) ∧ (∃ Inv : (List (List SV)) → Int → Prop, ∃ m : (List (List SV)) → Int → Nat, (Inv l 0) ∧ (∀ l1 : List (List SV), ∀ x1 : Int, (Inv l1 x1) → ifB (ilt x1 4) (((0 : Int) ≤ (wmul IntKind.i64 8 x1)) ∧ (((lsum (rlen l1) (rlen ([[U8 (wcv IntKind.u8 (wshr IntKind.u32 x (wmul IntKind.i64 8 x1)))]]))) ≤ ((2147483648 : Int))) ∧ ((Option.some ([[SV.gd 0 true (SV.arr IntKind.u32 256 ns)]]) = Option.some ([[SV.gd 0 true (SV.arr IntKind.u32 256 ns)]])) ∧ ((Inv (rapp l1 ([[U8 (wcv IntKind.u8 (wshr IntKind.u32 x (wmul IntKind.i64 8 x1)))]])) (wadd IntKind.i64 x1 1)) ∧ (Nat.le (Nat.succ (m (rapp l1 ([[U8 (wcv IntKind.u8 (wshr IntKind.u32 x (wmul IntKind.i64 8 x1)))]])) (wadd IntKind.i64 x1 1))) (m l1 x1)))))) (Q [SL 1 l1]))))))) : Ct Tryz.prog 71 ⟨[], [.own]⟩ [.arr .u32 256 ns, SL 1 rows] Q :=
  fn_of (f := 71) SgT SvT (fun k => bif Nat.beq k 14 then some { slots := [(6,false,[.own 1]),(13,false,[.int .i64])], fixed := [256] } else none) Tryz.f71 Tryz.func71 (by kernel_rfl) (by kernel_rfl) h

theorem copen_nf (ns : List Int) (rows : List (List SV)) (Q : List SV → Prop) (h : ifB (ilt (wsub IntKind.i64 (rlen rows) 4) 0) (Q ([SL 1 [], I 10])) ((((0 : Int) ≤ 0) ∧ (((0 : Int) ≤ (wsub IntKind.i64 (rlen rows) 4)) ∧ ((wsub IntKind.i64 (rlen rows) 4) ≤ (rlen rows)))) ∧ (Cl Tryz.prog 71 sO [SV.arr IntKind.u32 256 ns, SL 1 (rsub rows 0 (wsub IntKind.i64 (rlen rows) 4))] (fun (rs : List SV) => ∃ l : List (List SV), (rs = [SL 1 l]) ∧ (Cl Tryz.prog 129 sP [SL 1 l, SL 1 rows] (fun (rs1 : List SV) => ∃ b : Bool, (rs1 = [B b]) ∧ (ifB (bnot b) (Q ([SL 1 [], I 12])) ((((0 : Int) ≤ 0) ∧ (((0 : Int) ≤ (wsub IntKind.i64 (rlen rows) 4)) ∧ ((wsub IntKind.i64 (rlen rows) 4 = wsub IntKind.i64 (rlen rows) 4) ∧ ((wsub IntKind.i64 (rlen rows) 4) ≤ (rlen rows))))) ∧ (Q [SL 1 (rsub rows 0 (wsub IntKind.i64 (rlen rows) 4)), I 0]))))))))) : Ct Tryz.prog 76 {} [.arr .u32 256 ns, SL 1 rows] Q :=
  fn_of (f := 76) SgT SvT (fun _ => none) Tryz.f76 Tryz.func76 (by kernel_rfl) (by kernel_rfl) h

theorem kindly_nf (k : Int) (Q : List SV → Prop) (h : Q [B (bpick (ige k 1) (ile k 3) false)]) : Ct Tryz.prog 109 {} [I k] Q :=
  fn_of (f := 109) SgT SvT (fun _ => none) Tryz.f109 Tryz.func109 (by kernel_rfl) (by kernel_rfl) h

theorem fput_nf (k : Int) (rows : List (List SV)) (Q : List SV → Prop) (h : Cl Tryz.prog 109 sP [I k] (fun (rs : List SV) => ∃ b : Bool, (rs = [B b]) ∧ (ifB (bnot b) (Q ([SL 1 [], I 2])) (ifB (igt (rlen rows) 200) (Q ([SL 1 [], I 9])) (((0 : Int) ≤ 8) ∧ (Cl Tryz.prog 72 sP [] (fun (rs1 : List SV) => ∃ rs2 : List Int, (rs1 = [SV.arr IntKind.u32 256 rs2]) ∧ (((lsum (rlen ([[U8 (wcv IntKind.u8 (wshr IntKind.i64 (rlen rows) 8))], [U8 (wcv IntKind.u8 (rlen rows))], [U8 (wcv IntKind.u8 k)]])) (rlen rows)) ≤ ((2147483648 : Int))) ∧ (Cl Tryz.prog 71 sO ([SV.arr IntKind.u32 256 rs2, SV.slice 1 (rapp ([[U8 (wcv IntKind.u8 (wshr IntKind.i64 (rlen rows) 8))], [U8 (wcv IntKind.u8 (rlen rows))], [U8 (wcv IntKind.u8 k)]]) rows) 0]) (fun (rs3 : List SV) => ∃ l : List (List SV), (rs3 = [SL 1 l]) ∧ (Q [SL 1 l, I 0]))))))))))) : Ct Tryz.prog 52 ⟨[], [.own, .pure]⟩ [I k, SL 1 rows] Q :=
  fn_of (f := 52) SgT SvT (fun _ => none) Tryz.f52 Tryz.func52 (by kernel_rfl) (by kernel_rfl) h

theorem fnext_nf (rows : List (List SV)) (at_ : Int) (Q : List SV → Prop) (h : ifB (bpick (ilt at_ 0) true (igt at_ (rlen rows))) (Q ([I 3, I 0, SL 1 [], I 0])) ((((0 : Int) ≤ at_) ∧ ((at_ ≤ (rlen rows)) ∧ ((rlen rows) ≤ (rlen rows)))) ∧ (ifB (ieq (rlen (rsub rows at_ (rlen rows))) 0) (Q ([I 1, I 0, SL 1 [], I 0])) (ifB (ilt (rlen (rsub rows at_ (rlen rows))) 7) (Q ([I 2, I 0, SL 1 [], I 0])) ((((0 : Int) ≤ 0) ∧ (0 < (rlen (rsub rows at_ (rlen rows))))) ∧ (∃ x : Int, (rget (rsub rows at_ (rlen rows)) 0 = [U8 x]) ∧ (((0 : Int) ≤ 8) ∧ ((((0 : Int) ≤ 1) ∧ (1 < (rlen (rsub rows at_ (rlen rows))))) ∧ (∃ x1 : Int, (rget (rsub rows at_ (rlen rows)) 1 = [U8 x1]) ∧ (ifB (igt (wor IntKind.i64 (wshl IntKind.i64 (wcv IntKind.i64 x) 8) (wcv IntKind.i64 x1)) 200) (Q ([I 3, I 0, SL 1 [], I 0])) (ifB (ilt (rlen (rsub rows at_ (rlen rows))) (wadd IntKind.i64 (wor IntKind.i64 (wshl IntKind.i64 (wcv IntKind.i64 x) 8) (wcv IntKind.i64 x1)) 7)) (Q ([I 2, I 0, SL 1 [], I 0])) ((((0 : Int) ≤ 2) ∧ (2 < (rlen (rsub rows at_ (rlen rows))))) ∧ (∃ x2 : Int, (rget (rsub rows at_ (rlen rows)) 2 = [U8 x2]) ∧ (Cl Tryz.prog 109 sP [I (wcv IntKind.i64 x2)] (fun (rs : List SV) => ∃ b : Bool, (rs = [B b]) ∧ (ifB (bnot b) (Q ([I 3, I 0, SL 1 [], I 0])) ((((0 : Int) ≤ 0) ∧ (((0 : Int) ≤ (wadd IntKind.i64 (wor IntKind.i64 (wshl IntKind.i64 (wcv IntKind.i64 x) 8) (wcv IntKind.i64 x1)) 7)) ∧ ((wadd IntKind.i64 (wor IntKind.i64 (wshl IntKind.i64 (wcv IntKind.i64 x) 8) (wcv IntKind.i64 x1)) 7) ≤ (rlen (rsub rows at_ (rlen rows)))))) ∧ (Cl Tryz.prog 72 sP [] (fun (rs1 : List SV) => ∃ rs2 : List Int, (rs1 = [SV.arr IntKind.u32 256 rs2]) ∧ (Cl Tryz.prog 76 sP [SV.arr IntKind.u32 256 rs2, SV.slice 1 (rsub (rsub rows at_ (rlen rows)) 0 (wadd IntKind.i64 (wor IntKind.i64 (wshl IntKind.i64 (wcv IntKind.i64 x) 8) (wcv IntKind.i64 x1)) 7)) 0] (fun (rs3 : List SV) => ∃ l : List (List SV), ∃ x3 : Int, (rs3 = [SL 1 l, I x3]) ∧ (ifB (ine x3 0) (Q ([I 3, I 0, SL 1 [], I 0])) ((((0 : Int) ≤ 3) ∧ (((3 : Int) ≤ (rlen l)) ∧ ((rlen l) ≤ (rlen l)))) ∧ (Q [I 0, I (wcv IntKind.i64 x2), SL 1 (rsub l 3 (rlen l)), I (wadd IntKind.i64 (wor IntKind.i64 (wshl IntKind.i64 (wcv IntKind.i64 x) 8) (wcv IntKind.i64 x1)) 7)])))))))))))))))))))))))) : Ct Tryz.prog 61 {} [SL 1 rows, I at_] Q :=
  fn_of (f := 61) SgT SvT (fun _ => none) Tryz.f61 Tryz.func61 (by kernel_rfl) (by kernel_rfl) h

theorem snumb_nf (n : Int) (Q : List SV → Prop) (h : Q [B (bpick (ige n 1) (ile n 99999999) false)]) : Ct Tryz.prog 50 {} [I n] Q :=
  fn_of (f := 50) SgT SvT (fun _ => none) Tryz.f50 Tryz.func50 (by kernel_rfl) (by kernel_rfl) h

theorem sput_nf (rows : List (List SV)) (n : Int) (cs ca : Int) (ns : List (List SV)) (Q : List SV → Prop) (h : Cl Tryz.prog 110 sO [SL 1 rows, U64 (wcv IntKind.u64 n)] (fun (rs : List SV) => ∃ l : List (List SV), (rs = [SL 1 l]) ∧ (Cl Tryz.prog 110 sO [SL 1 l, U64 (wcv IntKind.u64 cs)] (fun (rs1 : List SV) => ∃ l1 : List (List SV), (rs1 = [SL 1 l1]) ∧ (Cl Tryz.prog 110 sO [SL 1 l1, U64 (wcv IntKind.u64 ca)] (fun (rs2 : List SV) => ∃ l2 : List (List SV), (rs2 = [SL 1 l2]) ∧ (Q [SL 1 l2]))))))) : Ct Tryz.prog 53 ⟨[], [.own]⟩ [SL 1 rows, I n, cx3 cs ca ns] Q :=
  fn_of (f := 53) SgT SvT (fun _ => none) Tryz.f53 Tryz.func53 (by kernel_rfl) (by kernel_rfl) h

theorem shead_nf (num : Int) (cs ca : Int) (ns : List (List SV)) (Q : List SV → Prop) (h : Cl Tryz.prog 50 sP [I num] (fun (rs : List SV) => ∃ b : Bool, (rs = [B b]) ∧ (ifB (bnot b) (Q ([SL 1 [], I 1])) (Cl Tryz.prog 51 sP ([SV.agg [I cs, I ca, SL 1 ns]]) (fun (rs1 : List SV) => ∃ b1 : Bool, (rs1 = [B b1]) ∧ (ifB (bpick (bnot b1) true (igt (rlen ns) 0)) (Q ([SL 1 [], I 1])) ((0 < (rlen ([[U8 102], [U8 98], [U8 120], [U8 49]]))) ∧ (Cl Tryz.prog 53 sO ([SL 1 ([[U8 102], [U8 98], [U8 120], [U8 49]]), I num, SV.agg [I cs, I ca, SL 1 ns]]) (fun (rs2 : List SV) => ∃ l : List (List SV), (rs2 = [SL 1 l]) ∧ (Cl Tryz.prog 52 (Sig.mk [] [Md.own, Md.pure]) [I 1, SL 1 l] (fun (rs3 : List SV) => ∃ l1 : List (List SV), ∃ x : Int, (rs3 = [SL 1 l1, I x]) ∧ (Q [SL 1 l1, I x])))))))))))) : Ct Tryz.prog 12 ⟨[], [.own, .pure]⟩ [I num, cx3 cs ca ns] Q :=
  fn_of (f := 12) SgT SvT (fun _ => none) Tryz.f12 Tryz.func12 (by kernel_rfl) (by kernel_rfl) h

theorem sadd_nf (cs ca : Int) (ns : List (List SV)) (s a k : Int) (c : ByteArray) (x y z : Int) (Q : List SV → Prop) (h : Cl Tryz.prog 56 sP ([SV.agg [I cs, I ca, SL 1 ns], SV.agg [I s, I a, I k, S c, I x, I y, I z]]) (fun (rs : List SV) => ∃ l : List (List SV), ∃ x1 : Int, ∃ x2 : Int, ∃ l1 : List (List SV), ∃ x3 : Int, (rs = [SL 1 l, SV.agg [I x1, I x2, SL 1 l1], I x3]) ∧ (ifB (ine x3 0) (Q ([SL 1 [], SV.agg [I cs, I ca, SL 1 ns], I x3])) (Cl Tryz.prog 52 (Sig.mk [] [Md.own, Md.pure]) [I 2, SL 1 l] (fun (rs1 : List SV) => ∃ l2 : List (List SV), ∃ x4 : Int, (rs1 = [SL 1 l2, I x4]) ∧ (ifB (ine x4 0) (Q ([SL 1 [], SV.agg [I cs, I ca, SL 1 ns], I x4])) (Q ([SL 1 l2, SV.agg [I x1, I x2, SL 1 l1], I 0])))))))) : Ct Tryz.prog 16 {} [cx3 cs ca ns, ev7 s a k c x y z] Q :=
  fn_of (f := 16) SgT SvT (fun _ => none) Tryz.f16 Tryz.func16 (by kernel_rfl) (by kernel_rfl) h

theorem sseal_nf (many : Int) (cs ca : Int) (ns : List (List SV)) (Q : List SV → Prop) (h : ifB (ilt many 0) (Q ([SL 1 [], I 1])) (Cl Tryz.prog 51 sP ([SV.agg [I cs, I ca, SL 1 ns]]) (fun (rs : List SV) => ∃ b : Bool, (rs = [B b]) ∧ (ifB (bnot b) (Q ([SL 1 [], I 1])) (Cl Tryz.prog 53 sO ([SL 1 [], I many, SV.agg [I cs, I ca, SL 1 ns]]) (fun (rs1 : List SV) => ∃ l : List (List SV), (rs1 = [SL 1 l]) ∧ (Cl Tryz.prog 52 (Sig.mk [] [Md.own, Md.pure]) [I 3, SL 1 l] (fun (rs2 : List SV) => ∃ l1 : List (List SV), ∃ x : Int, (rs2 = [SL 1 l1, I x]) ∧ (Q [SL 1 l1, I x]))))))))) : Ct Tryz.prog 14 {} [I many, cx3 cs ca ns] Q :=
  fn_of (f := 14) SgT SvT (fun _ => none) Tryz.f14 Tryz.func14 (by kernel_rfl) (by kernel_rfl) h

theorem bhasp_nf (rows rows2 : List (List SV)) (Q : List SV → Prop) (h : ifB (ige (rlen rows) (rlen rows2)) ((((0 : Int) ≤ 0) ∧ (((0 : Int) ≤ (rlen rows2)) ∧ ((rlen rows2) ≤ (rlen rows)))) ∧ (Cl Tryz.prog 129 sP [SL 1 (rsub rows 0 (rlen rows2)), SL 1 rows2] (fun (rs : List SV) => ∃ b : Bool, (rs = [B b]) ∧ (Q [B b])))) (Q [B false])) : Ct Tryz.prog 145 {} [SL 1 rows, SL 1 rows2] Q :=
  fn_of (f := 145) SgT SvT (fun _ => none) Tryz.f145 Tryz.func145 (by kernel_rfl) (by kernel_rfl) h

theorem bcutp_nf (rows rows2 : List (List SV)) (Q : List SV → Prop) (h : Cl Tryz.prog 145 sP [SL 1 rows, SL 1 rows2] (fun (rs : List SV) => ∃ b : Bool, (rs = [B b]) ∧ (ifB (bnot b) (Q [SL 1 rows, B false]) ((((0 : Int) ≤ (rlen rows2)) ∧ (((rlen rows2) ≤ (rlen rows)) ∧ ((rlen rows) ≤ (rlen rows)))) ∧ (Q [SL 1 (rsub rows (rlen rows2) (rlen rows)), B true]))))) : Ct Tryz.prog 77 {} [SL 1 rows, SL 1 rows2] Q :=
  fn_of (f := 77) SgT SvT (fun _ => none) Tryz.f77 Tryz.func77 (by kernel_rfl) (by kernel_rfl) h

theorem fmti_nf (n b : Int) (Q : List SV → Prop) (h : Cl Tryz.prog 120 sP [I n, I b] (fun (rs : List SV) => ∃ s : ByteArray, (rs = [S s]) ∧ (Q [S s]))) : Ct Tryz.prog 59 {} [I n, I b] Q :=
  fn_of (f := 59) SgT SvT (fun _ => none) Tryz.f59 Tryz.func59 (by kernel_rfl) (by kernel_rfl) h

theorem fmti2_nf (n b : Int) (Q : List SV → Prop) (h : ifB (ieq b 10) (ifB (bpick (ile 0 n) (ilt n 100) false) (Cl Tryz.prog 188 sP [I n] (fun (rs : List SV) => ∃ s : ByteArray, (rs = [S s]) ∧ (Q [S s]))) (ifB (ilt n 0) (Cl Tryz.prog 189 sP [U64 (wneg IntKind.u64 (wcv IntKind.u64 n))] (fun (rs : List SV) => ∃ x : Int, (rs = [I x]) ∧ ((((0 : Int) ≤ 1) ∧ (((1 : Int) ≤ (wadd IntKind.i64 1 x)) ∧ (((wadd IntKind.i64 1 x) ≤ ((24 : Int))) ∧ (1 < ((24 : Int)))))) ∧ False))) (Cl Tryz.prog 189 sP [U64 (wcv IntKind.u64 n)] (fun (rs : List SV) => ∃ x : Int, (rs = [I x]) ∧ ((((0 : Int) ≤ 1) ∧ (((1 : Int) ≤ (wadd IntKind.i64 1 x)) ∧ (((wadd IntKind.i64 1 x) ≤ ((24 : Int))) ∧ (1 < ((24 : Int)))))) ∧ False))))) (Cl Tryz.prog 191 sP ([SL 1 [], U64 (wcv IntKind.u64 n), I b, B (ilt n 0), B false]) (fun (rs : List SV) => ∃ l : List (List SV), ∃ s : ByteArray, (rs = [SL 1 l, S s]) ∧ (Q [S s])))) : Ct Tryz.prog 120 {} [I n, I b] Q :=
  fn_of (f := 120) SgT SvT (fun _ => none) Tryz.f120 Tryz.func120 (by kernel_rfl) (by kernel_rfl) h

theorem small_nf (n : Int) (Q : List SV → Prop) (h : ifB (ilt n 10) ((((0 : Int) ≤ n) ∧ ((n ≤ (wadd IntKind.i64 n 1)) ∧ ((wadd IntKind.i64 n 1) ≤ (slen (ByteArray.mk (Array.mk [48, 49, 50, 51, 52, 53, 54, 55, 56, 57, 97, 98, 99, 100, 101, 102, 103, 104, 105, 106, 107, 108, 109, 110, 111, 112, 113, 114, 115, 116, 117, 118, 119, 120, 121, 122])))))) ∧ (Q ([S (ssub (ByteArray.mk (Array.mk [48, 49, 50, 51, 52, 53, 54, 55, 56, 57, 97, 98, 99, 100, 101, 102, 103, 104, 105, 106, 107, 108, 109, 110, 111, 112, 113, 114, 115, 116, 117, 118, 119, 120, 121, 122])) n (wadd IntKind.i64 n 1))]))) ((((0 : Int) ≤ (wmul IntKind.i64 n 2)) ∧ (((wmul IntKind.i64 n 2) ≤ (wadd IntKind.i64 (wmul IntKind.i64 n 2) 2)) ∧ ((wadd IntKind.i64 (wmul IntKind.i64 n 2) 2) ≤ (slen (ByteArray.mk (Array.mk [48, 48, 48, 49, 48, 50, 48, 51, 48, 52, 48, 53, 48, 54, 48, 55, 48, 56, 48, 57, 49, 48, 49, 49, 49, 50, 49, 51, 49, 52, 49, 53, 49, 54, 49, 55, 49, 56, 49, 57, 50, 48, 50, 49, 50, 50, 50, 51, 50, 52, 50, 53, 50, 54, 50, 55, 50, 56, 50, 57, 51, 48, 51, 49, 51, 50, 51, 51, 51, 52, 51, 53, 51, 54, 51, 55, 51, 56, 51, 57, 52, 48, 52, 49, 52, 50, 52, 51, 52, 52, 52, 53, 52, 54, 52, 55, 52, 56, 52, 57, 53, 48, 53, 49, 53, 50, 53, 51, 53, 52, 53, 53, 53, 54, 53, 55, 53, 56, 53, 57, 54, 48, 54, 49, 54, 50, 54, 51, 54, 52, 54, 53, 54, 54, 54, 55, 54, 56, 54, 57, 55, 48, 55, 49, 55, 50, 55, 51, 55, 52, 55, 53, 55, 54, 55, 55, 55, 56, 55, 57, 56, 48, 56, 49, 56, 50, 56, 51, 56, 52, 56, 53, 56, 54, 56, 55, 56, 56, 56, 57, 57, 48, 57, 49, 57, 50, 57, 51, 57, 52, 57, 53, 57, 54, 57, 55, 57, 56, 57, 57])))))) ∧ (Q ([S (ssub (ByteArray.mk (Array.mk [48, 48, 48, 49, 48, 50, 48, 51, 48, 52, 48, 53, 48, 54, 48, 55, 48, 56, 48, 57, 49, 48, 49, 49, 49, 50, 49, 51, 49, 52, 49, 53, 49, 54, 49, 55, 49, 56, 49, 57, 50, 48, 50, 49, 50, 50, 50, 51, 50, 52, 50, 53, 50, 54, 50, 55, 50, 56, 50, 57, 51, 48, 51, 49, 51, 50, 51, 51, 51, 52, 51, 53, 51, 54, 51, 55, 51, 56, 51, 57, 52, 48, 52, 49, 52, 50, 52, 51, 52, 52, 52, 53, 52, 54, 52, 55, 52, 56, 52, 57, 53, 48, 53, 49, 53, 50, 53, 51, 53, 52, 53, 53, 53, 54, 53, 55, 53, 56, 53, 57, 54, 48, 54, 49, 54, 50, 54, 51, 54, 52, 54, 53, 54, 54, 54, 55, 54, 56, 54, 57, 55, 48, 55, 49, 55, 50, 55, 51, 55, 52, 55, 53, 55, 54, 55, 55, 55, 56, 55, 57, 56, 48, 56, 49, 56, 50, 56, 51, 56, 52, 56, 53, 56, 54, 56, 55, 56, 56, 56, 57, 57, 48, 57, 49, 57, 50, 57, 51, 57, 52, 57, 53, 57, 54, 57, 55, 57, 56, 57, 57])) (wmul IntKind.i64 n 2) (wadd IntKind.i64 (wmul IntKind.i64 n 2) 2))])))) : Ct Tryz.prog 188 {} [I n] Q :=
  fn_of (f := 188) SgT SvT (fun _ => none) Tryz.f188 Tryz.func188 (by kernel_rfl) (by kernel_rfl) h

theorem srepeat_nf  (Q : List SV → Prop) (h : ifB (ieq 7 0) (Q ([S (ByteArray.mk (Array.mk []))])) (ifB (ieq 7 1) (Q ([S (ByteArray.mk (Array.mk [48]))])) (ifB (ilt 7 0) False (Cl Tryz.prog 121 sP ([U64 (wcv IntKind.u64 (slen (ByteArray.mk (Array.mk [48])))), U64 (wcv IntKind.u64 7)]) (fun (rs : List SV) => ∃ x : Int, ∃ x1 : Int, (rs = [U64 x, U64 x1]) ∧ (ifB (bpick (igt x 0) true (igt x1 9223372036854775807)) False (ifB (ieq (slen (ByteArray.mk (Array.mk [48]))) 0) (Q ([S (ByteArray.mk (Array.mk []))])) ((((0 : Int) ≤ 0) ∧ (0 < (slen (ByteArray.mk (Array.mk [48]))))) ∧ (∃ Inv : Bool → Prop, ∃ m : Bool → Nat, (ifB (ieq (sbyte (ByteArray.mk (Array.mk [48])) 0) 32) (((Option.some [] : Option (List (List SV))) = Option.some []) ∧ (Inv (ieq (sbyte (ByteArray.mk (Array.mk [48])) 0) 32))) (∃ Inv1 : Bool → Prop, ∃ m1 : Bool → Nat, (ifB (ieq (sbyte (ByteArray.mk (Array.mk [48])) 0) 45) (((Option.some [] : Option (List (List SV))) = Option.some []) ∧ (Inv1 (ieq (sbyte (ByteArray.mk (Array.mk [48])) 0) 45))) (∃ Inv2 : Bool → Prop, ∃ m2 : Bool → Nat, (ifB (ieq (sbyte (ByteArray.mk (Array.mk [48])) 0) 48) (((Option.some [] : Option (List (List SV))) = Option.some []) ∧ (Inv2 (ieq (sbyte (ByteArray.mk (Array.mk [48])) 0) 48))) (∃ Inv3 : Bool → Prop, ∃ m3 : Bool → Nat, (ifB (ieq (sbyte (ByteArray.mk (Array.mk [48])) 0) 61) (((Option.some [] : Option (List (List SV))) = Option.some []) ∧ (Inv3 (ieq (sbyte (ByteArray.mk (Array.mk [48])) 0) 61))) (((Option.some [] : Option (List (List SV))) = Option.some []) ∧ (Inv3 (ieq (sbyte (ByteArray.mk (Array.mk [48])) 0) 9)))) ∧ (∀ b : Bool, (Inv3 b) → ((Option.some [] : Option (List (List SV))) = Option.some []) ∧ (Inv2 b)))) ∧ (∀ b : Bool, (Inv2 b) → ((Option.some [] : Option (List (List SV))) = Option.some []) ∧ (Inv1 b)))) ∧ (∀ b : Bool, (Inv1 b) → ((Option.some [] : Option (List (List SV))) = Option.some []) ∧ (Inv b)))) ∧ (∀ b : Bool, (Inv b) → ∃ Inv1 : Bool → Prop, ∃ m1 : Bool → Nat, (ifB b (ifB (ile (wcv IntKind.i64 x1) 128) (Cl Tryz.prog 122 sP ([S (ByteArray.mk (Array.mk [32, 32, 32, 32, 32, 32, 32, 32, 32, 32, 32, 32, 32, 32, 32, 32, 32, 32, 32, 32, 32, 32, 32, 32, 32, 32, 32, 32, 32, 32, 32, 32, 32, 32, 32, 32, 32, 32, 32, 32, 32, 32, 32, 32, 32, 32, 32, 32, 32, 32, 32, 32, 32, 32, 32, 32, 32, 32, 32, 32, 32, 32, 32, 32, 32, 32, 32, 32, 32, 32, 32, 32, 32, 32, 32, 32, 32, 32, 32, 32, 32, 32, 32, 32, 32, 32, 32, 32, 32, 32, 32, 32, 32, 32, 32, 32, 32, 32, 32, 32, 32, 32, 32, 32, 32, 32, 32, 32, 32, 32, 32, 32, 32, 32, 32, 32, 32, 32, 32, 32, 32, 32, 32, 32, 32, 32, 32, 32])), S (ByteArray.mk (Array.mk [48]))]) (fun (rs1 : List SV) => ∃ b1 : Bool, (rs1 = [B b1]) ∧ (ifB b1 ((((0 : Int) ≤ 0) ∧ (((0 : Int) ≤ (wcv IntKind.i64 x1)) ∧ ((wcv IntKind.i64 x1) ≤ (slen (ByteArray.mk (Array.mk [32, 32, 32, 32, 32, 32, 32, 32, 32, 32, 32, 32, 32, 32, 32, 32, 32, 32, 32, 32, 32, 32, 32, 32, 32, 32, 32, 32, 32, 32, 32, 32, 32, 32, 32, 32, 32, 32, 32, 32, 32, 32, 32, 32, 32, 32, 32, 32, 32, 32, 32, 32, 32, 32, 32, 32, 32, 32, 32, 32, 32, 32, 32, 32, 32, 32, 32, 32, 32, 32, 32, 32, 32, 32, 32, 32, 32, 32, 32, 32, 32, 32, 32, 32, 32, 32, 32, 32, 32, 32, 32, 32, 32, 32, 32, 32, 32, 32, 32, 32, 32, 32, 32, 32, 32, 32, 32, 32, 32, 32, 32, 32, 32, 32, 32, 32, 32, 32, 32, 32, 32, 32, 32, 32, 32, 32, 32, 32])))))) ∧ (Q ([S (ssub (ByteArray.mk (Array.mk [32, 32, 32, 32, 32, 32, 32, 32, 32, 32, 32, 32, 32, 32, 32, 32, 32, 32, 32, 32, 32, 32, 32, 32, 32, 32, 32, 32, 32, 32, 32, 32, 32, 32, 32, 32, 32, 32, 32, 32, 32, 32, 32, 32, 32, 32, 32, 32, 32, 32, 32, 32, 32, 32, 32, 32, 32, 32, 32, 32, 32, 32, 32, 32, 32, 32, 32, 32, 32, 32, 32, 32, 32, 32, 32, 32, 32, 32, 32, 32, 32, 32, 32, 32, 32, 32, 32, 32, 32, 32, 32, 32, 32, 32, 32, 32, 32, 32, 32, 32, 32, 32, 32, 32, 32, 32, 32, 32, 32, 32, 32, 32, 32, 32, 32, 32, 32, 32, 32, 32, 32, 32, 32, 32, 32, 32, 32, 32])) 0 (wcv IntKind.i64 x1))]))) (ifB (ile (wcv IntKind.i64 x1) 128) (Cl Tryz.prog 122 sP ([S (ByteArray.mk (Array.mk [45, 45, 45, 45, 45, 45, 45, 45, 45, 45, 45, 45, 45, 45, 45, 45, 45, 45, 45, 45, 45, 45, 45, 45, 45, 45, 45, 45, 45, 45, 45, 45, 45, 45, 45, 45, 45, 45, 45, 45, 45, 45, 45, 45, 45, 45, 45, 45, 45, 45, 45, 45, 45, 45, 45, 45, 45, 45, 45, 45, 45, 45, 45, 45, 45, 45, 45, 45, 45, 45, 45, 45, 45, 45, 45, 45, 45, 45, 45, 45, 45, 45, 45, 45, 45, 45, 45, 45, 45, 45, 45, 45, 45, 45, 45, 45, 45, 45, 45, 45, 45, 45, 45, 45, 45, 45, 45, 45, 45, 45, 45, 45, 45, 45, 45, 45, 45, 45, 45, 45, 45, 45, 45, 45, 45, 45, 45, 45])), S (ByteArray.mk (Array.mk [48]))]) (fun (rs2 : List SV) => ∃ b2 : Bool, (rs2 = [B b2]) ∧ (ifB b2 ((((0 : Int) ≤ 0) ∧ (((0 : Int) ≤ (wcv IntKind.i64 x1)) ∧ ((wcv IntKind.i64 x1) ≤ (slen (ByteArray.mk (Array.mk [45, 45, 45, 45, 45, 45, 45, 45, 45, 45, 45, 45, 45, 45, 45, 45, 45, 45, 45, 45, 45, 45, 45, 45, 45, 45, 45, 45, 45, 45, 45, 45, 45, 45, 45, 45, 45, 45, 45, 45, 45, 45, 45, 45, 45, 45, 45, 45, 45, 45, 45, 45, 45, 45, 45, 45, 45, 45, 45, 45, 45, 45, 45, 45, 45, 45, 45, 45, 45, 45, 45, 45, 45, 45, 45, 45, 45, 45, 45, 45, 45, 45, 45, 45, 45, 45, 45, 45, 45, 45, 45, 45, 45, 45, 45, 45, 45, 45, 45, 45, 45, 45, 45, 45, 45, 45, 45, 45, 45, 45, 45, 45, 45, 45, 45, 45, 45, 45, 45, 45, 45, 45, 45, 45, 45, 45, 45, 45])))))) ∧ (Q ([S (ssub (ByteArray.mk (Array.mk [45, 45, 45, 45, 45, 45, 45, 45, 45, 45, 45, 45, 45, 45, 45, 45, 45, 45, 45, 45, 45, 45, 45, 45, 45, 45, 45, 45, 45, 45, 45, 45, 45, 45, 45, 45, 45, 45, 45, 45, 45, 45, 45, 45, 45, 45, 45, 45, 45, 45, 45, 45, 45, 45, 45, 45, 45, 45, 45, 45, 45, 45, 45, 45, 45, 45, 45, 45, 45, 45, 45, 45, 45, 45, 45, 45, 45, 45, 45, 45, 45, 45, 45, 45, 45, 45, 45, 45, 45, 45, 45, 45, 45, 45, 45, 45, 45, 45, 45, 45, 45, 45, 45, 45, 45, 45, 45, 45, 45, 45, 45, 45, 45, 45, 45, 45, 45, 45, 45, 45, 45, 45, 45, 45, 45, 45, 45, 45])) 0 (wcv IntKind.i64 x1))]))) (ifB (ile (wcv IntKind.i64 x1) 64) (Cl Tryz.prog 122 sP ([S (ByteArray.mk (Array.mk [48, 48, 48, 48, 48, 48, 48, 48, 48, 48, 48, 48, 48, 48, 48, 48, 48, 48, 48, 48, 48, 48, 48, 48, 48, 48, 48, 48, 48, 48, 48, 48, 48, 48, 48, 48, 48, 48, 48, 48, 48, 48, 48, 48, 48, 48, 48, 48, 48, 48, 48, 48, 48, 48, 48, 48, 48, 48, 48, 48, 48, 48, 48, 48])), S (ByteArray.mk (Array.mk [48]))]) (fun (rs3 : List SV) => ∃ b3 : Bool, (rs3 = [B b3]) ∧ (ifB b3 ((((0 : Int) ≤ 0) ∧ (((0 : Int) ≤ (wcv IntKind.i64 x1)) ∧ ((wcv IntKind.i64 x1) ≤ (slen (ByteArray.mk (Array.mk [48, 48, 48, 48, 48, 48, 48, 48, 48, 48, 48, 48, 48, 48, 48, 48, 48, 48, 48, 48, 48, 48, 48, 48, 48, 48, 48, 48, 48, 48, 48, 48, 48, 48, 48, 48, 48, 48, 48, 48, 48, 48, 48, 48, 48, 48, 48, 48, 48, 48, 48, 48, 48, 48, 48, 48, 48, 48, 48, 48, 48, 48, 48, 48])))))) ∧ (Q ([S (ssub (ByteArray.mk (Array.mk [48, 48, 48, 48, 48, 48, 48, 48, 48, 48, 48, 48, 48, 48, 48, 48, 48, 48, 48, 48, 48, 48, 48, 48, 48, 48, 48, 48, 48, 48, 48, 48, 48, 48, 48, 48, 48, 48, 48, 48, 48, 48, 48, 48, 48, 48, 48, 48, 48, 48, 48, 48, 48, 48, 48, 48, 48, 48, 48, 48, 48, 48, 48, 48])) 0 (wcv IntKind.i64 x1))]))) (ifB (ile (wcv IntKind.i64 x1) 128) (Cl Tryz.prog 122 sP ([S (ByteArray.mk (Array.mk [61, 61, 61, 61, 61, 61, 61, 61, 61, 61, 61, 61, 61, 61, 61, 61, 61, 61, 61, 61, 61, 61, 61, 61, 61, 61, 61, 61, 61, 61, 61, 61, 61, 61, 61, 61, 61, 61, 61, 61, 61, 61, 61, 61, 61, 61, 61, 61, 61, 61, 61, 61, 61, 61, 61, 61, 61, 61, 61, 61, 61, 61, 61, 61, 61, 61, 61, 61, 61, 61, 61, 61, 61, 61, 61, 61, 61, 61, 61, 61, 61, 61, 61, 61, 61, 61, 61, 61, 61, 61, 61, 61, 61, 61, 61, 61, 61, 61, 61, 61, 61, 61, 61, 61, 61, 61, 61, 61, 61, 61, 61, 61, 61, 61, 61, 61, 61, 61, 61, 61, 61, 61, 61, 61, 61, 61, 61, 61])), S (ByteArray.mk (Array.mk [48]))]) (fun (rs4 : List SV) => ∃ b4 : Bool, (rs4 = [B b4]) ∧ (ifB b4 ((((0 : Int) ≤ 0) ∧ (((0 : Int) ≤ (wcv IntKind.i64 x1)) ∧ ((wcv IntKind.i64 x1) ≤ (slen (ByteArray.mk (Array.mk [61, 61, 61, 61, 61, 61, 61, 61, 61, 61, 61, 61, 61, 61, 61, 61, 61, 61, 61, 61, 61, 61, 61, 61, 61, 61, 61, 61, 61, 61, 61, 61, 61, 61, 61, 61, 61, 61, 61, 61, 61, 61, 61, 61, 61, 61, 61, 61, 61, 61, 61, 61, 61, 61, 61, 61, 61, 61, 61, 61, 61, 61, 61, 61, 61, 61, 61, 61, 61, 61, 61, 61, 61, 61, 61, 61, 61, 61, 61, 61, 61, 61, 61, 61, 61, 61, 61, 61, 61, 61, 61, 61, 61, 61, 61, 61, 61, 61, 61, 61, 61, 61, 61, 61, 61, 61, 61, 61, 61, 61, 61, 61, 61, 61, 61, 61, 61, 61, 61, 61, 61, 61, 61, 61, 61, 61, 61, 61])))))) ∧ (Q ([S (ssub (ByteArray.mk (Array.mk [61, 61, 61, 61, 61, 61, 61, 61, 61, 61, 61, 61, 61, 61, 61, 61, 61, 61, 61, 61, 61, 61, 61, 61, 61, 61, 61, 61, 61, 61, 61, 61, 61, 61, 61, 61, 61, 61, 61, 61, 61, 61, 61, 61, 61, 61, 61, 61, 61, 61, 61, 61, 61, 61, 61, 61, 61, 61, 61, 61, 61, 61, 61, 61, 61, 61, 61, 61, 61, 61, 61, 61, 61, 61, 61, 61, 61, 61, 61, 61, 61, 61, 61, 61, 61, 61, 61, 61, 61, 61, 61, 61, 61, 61, 61, 61, 61, 61, 61, 61, 61, 61, 61, 61, 61, 61, 61, 61, 61, 61, 61, 61, 61, 61, 61, 61, 61, 61, 61, 61, 61, 61, 61, 61, 61, 61, 61, 61])) 0 (wcv IntKind.i64 x1))]))) (ifB (ile (wcv IntKind.i64 x1) 64) (Cl Tryz.prog 122 sP ([S (ByteArray.mk (Array.mk [9, 9, 9, 9, 9, 9, 9, 9, 9, 9, 9, 9, 9, 9, 9, 9, 9, 9, 9, 9, 9, 9, 9, 9, 9, 9, 9, 9, 9, 9, 9, 9, 9, 9, 9, 9, 9, 9, 9, 9, 9, 9, 9, 9, 9, 9, 9, 9, 9, 9, 9, 9, 9, 9, 9, 9, 9, 9, 9, 9, 9, 9, 9, 9])), S (ByteArray.mk (Array.mk [48]))]) (fun (rs5 : List SV) => ∃ b5 : Bool, (rs5 = [B b5]) ∧ (ifB b5 ((((0 : Int) ≤ 0) ∧ (((0 : Int) ≤ (wcv IntKind.i64 x1)) ∧ ((wcv IntKind.i64 x1) ≤ (slen (ByteArray.mk (Array.mk [9, 9, 9, 9, 9, 9, 9, 9, 9, 9, 9, 9, 9, 9, 9, 9, 9, 9, 9, 9, 9, 9, 9, 9, 9, 9, 9, 9, 9, 9, 9, 9, 9, 9, 9, 9, 9, 9, 9, 9, 9, 9, 9, 9, 9, 9, 9, 9, 9, 9, 9, 9, 9, 9, 9, 9, 9, 9, 9, 9, 9, 9, 9, 9])))))) ∧ (Q ([S (ssub (ByteArray.mk (Array.mk [9, 9, 9, 9, 9, 9, 9, 9, 9, 9, 9, 9, 9, 9, 9, 9, 9, 9, 9, 9, 9, 9, 9, 9, 9, 9, 9, 9, 9, 9, 9, 9, 9, 9, 9, 9, 9, 9, 9, 9, 9, 9, 9, 9, 9, 9, 9, 9, 9, 9, 9, 9, 9, 9, 9, 9, 9, 9, 9, 9, 9, 9, 9, 9])) 0 (wcv IntKind.i64 x1))]))) False))) False)))) (ifB (ile (wcv IntKind.i64 x1) 64) (Cl Tryz.prog 122 sP ([S (ByteArray.mk (Array.mk [9, 9, 9, 9, 9, 9, 9, 9, 9, 9, 9, 9, 9, 9, 9, 9, 9, 9, 9, 9, 9, 9, 9, 9, 9, 9, 9, 9, 9, 9, 9, 9, 9, 9, 9, 9, 9, 9, 9, 9, 9, 9, 9, 9, 9, 9, 9, 9, 9, 9, 9, 9, 9, 9, 9, 9, 9, 9, 9, 9, 9, 9, 9, 9])), S (ByteArray.mk (Array.mk [48]))]) (fun (rs4 : List SV) => ∃ b4 : Bool, (rs4 = [B b4]) ∧ (ifB b4 ((((0 : Int) ≤ 0) ∧ (((0 : Int) ≤ (wcv IntKind.i64 x1)) ∧ ((wcv IntKind.i64 x1) ≤ (slen (ByteArray.mk (Array.mk [9, 9, 9, 9, 9, 9, 9, 9, 9, 9, 9, 9, 9, 9, 9, 9, 9, 9, 9, 9, 9, 9, 9, 9, 9, 9, 9, 9, 9, 9, 9, 9, 9, 9, 9, 9, 9, 9, 9, 9, 9, 9, 9, 9, 9, 9, 9, 9, 9, 9, 9, 9, 9, 9, 9, 9, 9, 9, 9, 9, 9, 9, 9, 9])))))) ∧ (Q ([S (ssub (ByteArray.mk (Array.mk [9, 9, 9, 9, 9, 9, 9, 9, 9, 9, 9, 9, 9, 9, 9, 9, 9, 9, 9, 9, 9, 9, 9, 9, 9, 9, 9, 9, 9, 9, 9, 9, 9, 9, 9, 9, 9, 9, 9, 9, 9, 9, 9, 9, 9, 9, 9, 9, 9, 9, 9, 9, 9, 9, 9, 9, 9, 9, 9, 9, 9, 9, 9, 9])) 0 (wcv IntKind.i64 x1))]))) False))) False))))) (ifB (ile (wcv IntKind.i64 x1) 128) (Cl Tryz.prog 122 sP ([S (ByteArray.mk (Array.mk [61, 61, 61, 61, 61, 61, 61, 61, 61, 61, 61, 61, 61, 61, 61, 61, 61, 61, 61, 61, 61, 61, 61, 61, 61, 61, 61, 61, 61, 61, 61, 61, 61, 61, 61, 61, 61, 61, 61, 61, 61, 61, 61, 61, 61, 61, 61, 61, 61, 61, 61, 61, 61, 61, 61, 61, 61, 61, 61, 61, 61, 61, 61, 61, 61, 61, 61, 61, 61, 61, 61, 61, 61, 61, 61, 61, 61, 61, 61, 61, 61, 61, 61, 61, 61, 61, 61, 61, 61, 61, 61, 61, 61, 61, 61, 61, 61, 61, 61, 61, 61, 61, 61, 61, 61, 61, 61, 61, 61, 61, 61, 61, 61, 61, 61, 61, 61, 61, 61, 61, 61, 61, 61, 61, 61, 61, 61, 61])), S (ByteArray.mk (Array.mk [48]))]) (fun (rs3 : List SV) => ∃ b3 : Bool, (rs3 = [B b3]) ∧ (ifB b3 ((((0 : Int) ≤ 0) ∧ (((0 : Int) ≤ (wcv IntKind.i64 x1)) ∧ ((wcv IntKind.i64 x1) ≤ (slen (ByteArray.mk (Array.mk [61, 61, 61, 61, 61, 61, 61, 61, 61, 61, 61, 61, 61, 61, 61, 61, 61, 61, 61, 61, 61, 61, 61, 61, 61, 61, 61, 61, 61, 61, 61, 61, 61, 61, 61, 61, 61, 61, 61, 61, 61, 61, 61, 61, 61, 61, 61, 61, 61, 61, 61, 61, 61, 61, 61, 61, 61, 61, 61, 61, 61, 61, 61, 61, 61, 61, 61, 61, 61, 61, 61, 61, 61, 61, 61, 61, 61, 61, 61, 61, 61, 61, 61, 61, 61, 61, 61, 61, 61, 61, 61, 61, 61, 61, 61, 61, 61, 61, 61, 61, 61, 61, 61, 61, 61, 61, 61, 61, 61, 61, 61, 61, 61, 61, 61, 61, 61, 61, 61, 61, 61, 61, 61, 61, 61, 61, 61, 61])))))) ∧ (Q ([S (ssub (ByteArray.mk (Array.mk [61, 61, 61, 61, 61, 61, 61, 61, 61, 61, 61, 61, 61, 61, 61, 61, 61, 61, 61, 61, 61, 61, 61, 61, 61, 61, 61, 61, 61, 61, 61, 61, 61, 61, 61, 61, 61, 61, 61, 61, 61, 61, 61, 61, 61, 61, 61, 61, 61, 61, 61, 61, 61, 61, 61, 61, 61, 61, 61, 61, 61, 61, 61, 61, 61, 61, 61, 61, 61, 61, 61, 61, 61, 61, 61, 61, 61, 61, 61, 61, 61, 61, 61, 61, 61, 61, 61, 61, 61, 61, 61, 61, 61, 61, 61, 61, 61, 61, 61, 61, 61, 61, 61, 61, 61, 61, 61, 61, 61, 61, 61, 61, 61, 61, 61, 61, 61, 61, 61, 61, 61, 61, 61, 61, 61, 61, 61, 61])) 0 (wcv IntKind.i64 x1))]))) (ifB (ile (wcv IntKind.i64 x1) 64) (Cl Tryz.prog 122 sP ([S (ByteArray.mk (Array.mk [9, 9, 9, 9, 9, 9, 9, 9, 9, 9, 9, 9, 9, 9, 9, 9, 9, 9, 9, 9, 9, 9, 9, 9, 9, 9, 9, 9, 9, 9, 9, 9, 9, 9, 9, 9, 9, 9, 9, 9, 9, 9, 9, 9, 9, 9, 9, 9, 9, 9, 9, 9, 9, 9, 9, 9, 9, 9, 9, 9, 9, 9, 9, 9])), S (ByteArray.mk (Array.mk [48]))]) (fun (rs4 : List SV) => ∃ b4 : Bool, (rs4 = [B b4]) ∧ (ifB b4 ((((0 : Int) ≤ 0) ∧ (((0 : Int) ≤ (wcv IntKind.i64 x1)) ∧ ((wcv IntKind.i64 x1) ≤ (slen (ByteArray.mk (Array.mk [9, 9, 9, 9, 9, 9, 9, 9, 9, 9, 9, 9, 9, 9, 9, 9, 9, 9, 9, 9, 9, 9, 9, 9, 9, 9, 9, 9, 9, 9, 9, 9, 9, 9, 9, 9, 9, 9, 9, 9, 9, 9, 9, 9, 9, 9, 9, 9, 9, 9, 9, 9, 9, 9, 9, 9, 9, 9, 9, 9, 9, 9, 9, 9])))))) ∧ (Q ([S (ssub (ByteArray.mk (Array.mk [9, 9, 9, 9, 9, 9, 9, 9, 9, 9, 9, 9, 9, 9, 9, 9, 9, 9, 9, 9, 9, 9, 9, 9, 9, 9, 9, 9, 9, 9, 9, 9, 9, 9, 9, 9, 9, 9, 9, 9, 9, 9, 9, 9, 9, 9, 9, 9, 9, 9, 9, 9, 9, 9, 9, 9, 9, 9, 9, 9, 9, 9, 9, 9])) 0 (wcv IntKind.i64 x1))]))) False))) False)))) (ifB (ile (wcv IntKind.i64 x1) 64) (Cl Tryz.prog 122 sP ([S (ByteArray.mk (Array.mk [9, 9, 9, 9, 9, 9, 9, 9, 9, 9, 9, 9, 9, 9, 9, 9, 9, 9, 9, 9, 9, 9, 9, 9, 9, 9, 9, 9, 9, 9, 9, 9, 9, 9, 9, 9, 9, 9, 9, 9, 9, 9, 9, 9, 9, 9, 9, 9, 9, 9, 9, 9, 9, 9, 9, 9, 9, 9, 9, 9, 9, 9, 9, 9])), S (ByteArray.mk (Array.mk [48]))]) (fun (rs3 : List SV) => ∃ b3 : Bool, (rs3 = [B b3]) ∧ (ifB b3 ((((0 : Int) ≤ 0) ∧ (((0 : Int) ≤ (wcv IntKind.i64 x1)) ∧ ((wcv IntKind.i64 x1) ≤ (slen (ByteArray.mk (Array.mk [9, 9, 9, 9, 9, 9, 9, 9, 9, 9, 9, 9, 9, 9, 9, 9, 9, 9, 9, 9, 9, 9, 9, 9, 9, 9, 9, 9, 9, 9, 9, 9, 9, 9, 9, 9, 9, 9, 9, 9, 9, 9, 9, 9, 9, 9, 9, 9, 9, 9, 9, 9, 9, 9, 9, 9, 9, 9, 9, 9, 9, 9, 9, 9])))))) ∧ (Q ([S (ssub (ByteArray.mk (Array.mk [9, 9, 9, 9, 9, 9, 9, 9, 9, 9, 9, 9, 9, 9, 9, 9, 9, 9, 9, 9, 9, 9, 9, 9, 9, 9, 9, 9, 9, 9, 9, 9, 9, 9, 9, 9, 9, 9, 9, 9, 9, 9, 9, 9, 9, 9, 9, 9, 9, 9, 9, 9, 9, 9, 9, 9, 9, 9, 9, 9, 9, 9, 9, 9])) 0 (wcv IntKind.i64 x1))]))) False))) False)))))) (ifB (ile (wcv IntKind.i64 x1) 64) (Cl Tryz.prog 122 sP ([S (ByteArray.mk (Array.mk [48, 48, 48, 48, 48, 48, 48, 48, 48, 48, 48, 48, 48, 48, 48, 48, 48, 48, 48, 48, 48, 48, 48, 48, 48, 48, 48, 48, 48, 48, 48, 48, 48, 48, 48, 48, 48, 48, 48, 48, 48, 48, 48, 48, 48, 48, 48, 48, 48, 48, 48, 48, 48, 48, 48, 48, 48, 48, 48, 48, 48, 48, 48, 48])), S (ByteArray.mk (Array.mk [48]))]) (fun (rs2 : List SV) => ∃ b2 : Bool, (rs2 = [B b2]) ∧ (ifB b2 ((((0 : Int) ≤ 0) ∧ (((0 : Int) ≤ (wcv IntKind.i64 x1)) ∧ ((wcv IntKind.i64 x1) ≤ (slen (ByteArray.mk (Array.mk [48, 48, 48, 48, 48, 48, 48, 48, 48, 48, 48, 48, 48, 48, 48, 48, 48, 48, 48, 48, 48, 48, 48, 48, 48, 48, 48, 48, 48, 48, 48, 48, 48, 48, 48, 48, 48, 48, 48, 48, 48, 48, 48, 48, 48, 48, 48, 48, 48, 48, 48, 48, 48, 48, 48, 48, 48, 48, 48, 48, 48, 48, 48, 48])))))) ∧ (Q ([S (ssub (ByteArray.mk (Array.mk [48, 48, 48, 48, 48, 48, 48, 48, 48, 48, 48, 48, 48, 48, 48, 48, 48, 48, 48, 48, 48, 48, 48, 48, 48, 48, 48, 48, 48, 48, 48, 48, 48, 48, 48, 48, 48, 48, 48, 48, 48, 48, 48, 48, 48, 48, 48, 48, 48, 48, 48, 48, 48, 48, 48, 48, 48, 48, 48, 48, 48, 48, 48, 48])) 0 (wcv IntKind.i64 x1))]))) (ifB (ile (wcv IntKind.i64 x1) 128) (Cl Tryz.prog 122 sP ([S (ByteArray.mk (Array.mk [61, 61, 61, 61, 61, 61, 61, 61, 61, 61, 61, 61, 61, 61, 61, 61, 61, 61, 61, 61, 61, 61, 61, 61, 61, 61, 61, 61, 61, 61, 61, 61, 61, 61, 61, 61, 61, 61, 61, 61, 61, 61, 61, 61, 61, 61, 61, 61, 61, 61, 61, 61, 61, 61, 61, 61, 61, 61, 61, 61, 61, 61, 61, 61, 61, 61, 61, 61, 61, 61, 61, 61, 61, 61, 61, 61, 61, 61, 61, 61, 61, 61, 61, 61, 61, 61, 61, 61, 61, 61, 61, 61, 61, 61, 61, 61, 61, 61, 61, 61, 61, 61, 61, 61, 61, 61, 61, 61, 61, 61, 61, 61, 61, 61, 61, 61, 61, 61, 61, 61, 61, 61, 61, 61, 61, 61, 61, 61])), S (ByteArray.mk (Array.mk [48]))]) (fun (rs3 : List SV) => ∃ b3 : Bool, (rs3 = [B b3]) ∧ (ifB b3 ((((0 : Int) ≤ 0) ∧ (((0 : Int) ≤ (wcv IntKind.i64 x1)) ∧ ((wcv IntKind.i64 x1) ≤ (slen (ByteArray.mk (Array.mk [61, 61, 61, 61, 61, 61, 61, 61, 61, 61, 61, 61, 61, 61, 61, 61, 61, 61, 61, 61, 61, 61, 61, 61, 61, 61, 61, 61, 61, 61, 61, 61, 61, 61, 61, 61, 61, 61, 61, 61, 61, 61, 61, 61, 61, 61, 61, 61, 61, 61, 61, 61, 61, 61, 61, 61, 61, 61, 61, 61, 61, 61, 61, 61, 61, 61, 61, 61, 61, 61, 61, 61, 61, 61, 61, 61, 61, 61, 61, 61, 61, 61, 61, 61, 61, 61, 61, 61, 61, 61, 61, 61, 61, 61, 61, 61, 61, 61, 61, 61, 61, 61, 61, 61, 61, 61, 61, 61, 61, 61, 61, 61, 61, 61, 61, 61, 61, 61, 61, 61, 61, 61, 61, 61, 61, 61, 61, 61])))))) ∧ (Q ([S (ssub (ByteArray.mk (Array.mk [61, 61, 61, 61, 61, 61, 61, 61, 61, 61, 61, 61, 61, 61, 61, 61, 61, 61, 61, 61, 61, 61, 61, 61, 61, 61, 61, 61, 61, 61, 61, 61, 61, 61, 61, 61, 61, 61, 61, 61, 61, 61, 61, 61, 61, 61, 61, 61, 61, 61, 61, 61, 61, 61, 61, 61, 61, 61, 61, 61, 61, 61, 61, 61, 61, 61, 61, 61, 61, 61, 61, 61, 61, 61, 61, 61, 61, 61, 61, 61, 61, 61, 61, 61, 61, 61, 61, 61, 61, 61, 61, 61, 61, 61, 61, 61, 61, 61, 61, 61, 61, 61, 61, 61, 61, 61, 61, 61, 61, 61, 61, 61, 61, 61, 61, 61, 61, 61, 61, 61, 61, 61, 61, 61, 61, 61, 61, 61])) 0 (wcv IntKind.i64 x1))]))) (ifB (ile (wcv IntKind.i64 x1) 64) (Cl Tryz.prog 122 sP ([S (ByteArray.mk (Array.mk [9, 9, 9, 9, 9, 9, 9, 9, 9, 9, 9, 9, 9, 9, 9, 9, 9, 9, 9, 9, 9, 9, 9, 9, 9, 9, 9, 9, 9, 9, 9, 9, 9, 9, 9, 9, 9, 9, 9, 9, 9, 9, 9, 9, 9, 9, 9, 9, 9, 9, 9, 9, 9, 9, 9, 9, 9, 9, 9, 9, 9, 9, 9, 9])), S (ByteArray.mk (Array.mk [48]))]) (fun (rs4 : List SV) => ∃ b4 : Bool, (rs4 = [B b4]) ∧ (ifB b4 ((((0 : Int) ≤ 0) ∧ (((0 : Int) ≤ (wcv IntKind.i64 x1)) ∧ ((wcv IntKind.i64 x1) ≤ (slen (ByteArray.mk (Array.mk [9, 9, 9, 9, 9, 9, 9, 9, 9, 9, 9, 9, 9, 9, 9, 9, 9, 9, 9, 9, 9, 9, 9, 9, 9, 9, 9, 9, 9, 9, 9, 9, 9, 9, 9, 9, 9, 9, 9, 9, 9, 9, 9, 9, 9, 9, 9, 9, 9, 9, 9, 9, 9, 9, 9, 9, 9, 9, 9, 9, 9, 9, 9, 9])))))) ∧ (Q ([S (ssub (ByteArray.mk (Array.mk [9, 9, 9, 9, 9, 9, 9, 9, 9, 9, 9, 9, 9, 9, 9, 9, 9, 9, 9, 9, 9, 9, 9, 9, 9, 9, 9, 9, 9, 9, 9, 9, 9, 9, 9, 9, 9, 9, 9, 9, 9, 9, 9, 9, 9, 9, 9, 9, 9, 9, 9, 9, 9, 9, 9, 9, 9, 9, 9, 9, 9, 9, 9, 9])) 0 (wcv IntKind.i64 x1))]))) False))) False)))) (ifB (ile (wcv IntKind.i64 x1) 64) (Cl Tryz.prog 122 sP ([S (ByteArray.mk (Array.mk [9, 9, 9, 9, 9, 9, 9, 9, 9, 9, 9, 9, 9, 9, 9, 9, 9, 9, 9, 9, 9, 9, 9, 9, 9, 9, 9, 9, 9, 9, 9, 9, 9, 9, 9, 9, 9, 9, 9, 9, 9, 9, 9, 9, 9, 9, 9, 9, 9, 9, 9, 9, 9, 9, 9, 9, 9, 9, 9, 9, 9, 9, 9, 9])), S (ByteArray.mk (Array.mk [48]))]) (fun (rs3 : List SV) => ∃ b3 : Bool, (rs3 = [B b3]) ∧ (ifB b3 ((((0 : Int) ≤ 0) ∧ (((0 : Int) ≤ (wcv IntKind.i64 x1)) ∧ ((wcv IntKind.i64 x1) ≤ (slen (ByteArray.mk (Array.mk [9, 9, 9, 9, 9, 9, 9, 9, 9, 9, 9, 9, 9, 9, 9, 9, 9, 9, 9, 9, 9, 9, 9, 9, 9, 9, 9, 9, 9, 9, 9, 9, 9, 9, 9, 9, 9, 9, 9, 9, 9, 9, 9, 9, 9, 9, 9, 9, 9, 9, 9, 9, 9, 9, 9, 9, 9, 9, 9, 9, 9, 9, 9, 9])))))) ∧ (Q ([S (ssub (ByteArray.mk (Array.mk [9, 9, 9, 9, 9, 9, 9, 9, 9, 9, 9, 9, 9, 9, 9, 9, 9, 9, 9, 9, 9, 9, 9, 9, 9, 9, 9, 9, 9, 9, 9, 9, 9, 9, 9, 9, 9, 9, 9, 9, 9, 9, 9, 9, 9, 9, 9, 9, 9, 9, 9, 9, 9, 9, 9, 9, 9, 9, 9, 9, 9, 9, 9, 9])) 0 (wcv IntKind.i64 x1))]))) False))) False))))) (ifB (ile (wcv IntKind.i64 x1) 128) (Cl Tryz.prog 122 sP ([S (ByteArray.mk (Array.mk [61, 61, 61, 61, 61, 61, 61, 61, 61, 61, 61, 61, 61, 61, 61, 61, 61, 61, 61, 61, 61, 61, 61, 61, 61, 61, 61, 61, 61, 61, 61, 61, 61, 61, 61, 61, 61, 61, 61, 61, 61, 61, 61, 61, 61, 61, 61, 61, 61, 61, 61, 61, 61, 61, 61, 61, 61, 61, 61, 61, 61, 61, 61, 61, 61, 61, 61, 61, 61, 61, 61, 61, 61, 61, 61, 61, 61, 61, 61, 61, 61, 61, 61, 61, 61, 61, 61, 61, 61, 61, 61, 61, 61, 61, 61, 61, 61, 61, 61, 61, 61, 61, 61, 61, 61, 61, 61, 61, 61, 61, 61, 61, 61, 61, 61, 61, 61, 61, 61, 61, 61, 61, 61, 61, 61, 61, 61, 61])), S (ByteArray.mk (Array.mk [48]))]) (fun (rs2 : List SV) => ∃ b2 : Bool, (rs2 = [B b2]) ∧ (ifB b2 ((((0 : Int) ≤ 0) ∧ (((0 : Int) ≤ (wcv IntKind.i64 x1)) ∧ ((wcv IntKind.i64 x1) ≤ (slen (ByteArray.mk (Array.mk [61, 61, 61, 61, 61, 61, 61, 61, 61, 61, 61, 61, 61, 61, 61, 61, 61, 61, 61, 61, 61, 61, 61, 61, 61, 61, 61, 61, 61, 61, 61, 61, 61, 61, 61, 61, 61, 61, 61, 61, 61, 61, 61, 61, 61, 61, 61, 61, 61, 61, 61, 61, 61, 61, 61, 61, 61, 61, 61, 61, 61, 61, 61, 61, 61, 61, 61, 61, 61, 61, 61, 61, 61, 61, 61, 61, 61, 61, 61, 61, 61, 61, 61, 61, 61, 61, 61, 61, 61, 61, 61, 61, 61, 61, 61, 61, 61, 61, 61, 61, 61, 61, 61, 61, 61, 61, 61, 61, 61, 61, 61, 61, 61, 61, 61, 61, 61, 61, 61, 61, 61, 61, 61, 61, 61, 61, 61, 61])))))) ∧ (Q ([S (ssub (ByteArray.mk (Array.mk [61, 61, 61, 61, 61, 61, 61, 61, 61, 61, 61, 61, 61, 61, 61, 61, 61, 61, 61, 61, 61, 61, 61, 61, 61, 61, 61, 61, 61, 61, 61, 61, 61, 61, 61, 61, 61, 61, 61, 61, 61, 61, 61, 61, 61, 61, 61, 61, 61, 61, 61, 61, 61, 61, 61, 61, 61, 61, 61, 61, 61, 61, 61, 61, 61, 61, 61, 61, 61, 61, 61, 61, 61, 61, 61, 61, 61, 61, 61, 61, 61, 61, 61, 61, 61, 61, 61, 61, 61, 61, 61, 61, 61, 61, 61, 61, 61, 61, 61, 61, 61, 61, 61, 61, 61, 61, 61, 61, 61, 61, 61, 61, 61, 61, 61, 61, 61, 61, 61, 61, 61, 61, 61, 61, 61, 61, 61, 61])) 0 (wcv IntKind.i64 x1))]))) (ifB (ile (wcv IntKind.i64 x1) 64) (Cl Tryz.prog 122 sP ([S (ByteArray.mk (Array.mk [9, 9, 9, 9, 9, 9, 9, 9, 9, 9, 9, 9, 9, 9, 9, 9, 9, 9, 9, 9, 9, 9, 9, 9, 9, 9, 9, 9, 9, 9, 9, 9, 9, 9, 9, 9, 9, 9, 9, 9, 9, 9, 9, 9, 9, 9, 9, 9, 9, 9, 9, 9, 9, 9, 9, 9, 9, 9, 9, 9, 9, 9, 9, 9])), S (ByteArray.mk (Array.mk [48]))]) (fun (rs3 : List SV) => ∃ b3 : Bool, (rs3 = [B b3]) ∧ (ifB b3 ((((0 : Int) ≤ 0) ∧ (((0 : Int) ≤ (wcv IntKind.i64 x1)) ∧ ((wcv IntKind.i64 x1) ≤ (slen (ByteArray.mk (Array.mk [9, 9, 9, 9, 9, 9, 9, 9, 9, 9, 9, 9, 9, 9, 9, 9, 9, 9, 9, 9, 9, 9, 9, 9, 9, 9, 9, 9, 9, 9, 9, 9, 9, 9, 9, 9, 9, 9, 9, 9, 9, 9, 9, 9, 9, 9, 9, 9, 9, 9, 9, 9, 9, 9, 9, 9, 9, 9, 9, 9, 9, 9, 9, 9])))))) ∧ (Q ([S (ssub (ByteArray.mk (Array.mk [9, 9, 9, 9, 9, 9, 9, 9, 9, 9, 9, 9, 9, 9, 9, 9, 9, 9, 9, 9, 9, 9, 9, 9, 9, 9, 9, 9, 9, 9, 9, 9, 9, 9, 9, 9, 9, 9, 9, 9, 9, 9, 9, 9, 9, 9, 9, 9, 9, 9, 9, 9, 9, 9, 9, 9, 9, 9, 9, 9, 9, 9, 9, 9])) 0 (wcv IntKind.i64 x1))]))) False))) False)))) (ifB (ile (wcv IntKind.i64 x1) 64) (Cl Tryz.prog 122 sP ([S (ByteArray.mk (Array.mk [9, 9, 9, 9, 9, 9, 9, 9, 9, 9, 9, 9, 9, 9, 9, 9, 9, 9, 9, 9, 9, 9, 9, 9, 9, 9, 9, 9, 9, 9, 9, 9, 9, 9, 9, 9, 9, 9, 9, 9, 9, 9, 9, 9, 9, 9, 9, 9, 9, 9, 9, 9, 9, 9, 9, 9, 9, 9, 9, 9, 9, 9, 9, 9])), S (ByteArray.mk (Array.mk [48]))]) (fun (rs2 : List SV) => ∃ b2 : Bool, (rs2 = [B b2]) ∧ (ifB b2 ((((0 : Int) ≤ 0) ∧ (((0 : Int) ≤ (wcv IntKind.i64 x1)) ∧ ((wcv IntKind.i64 x1) ≤ (slen (ByteArray.mk (Array.mk [9, 9, 9, 9, 9, 9, 9, 9, 9, 9, 9, 9, 9, 9, 9, 9, 9, 9, 9, 9, 9, 9, 9, 9, 9, 9, 9, 9, 9, 9, 9, 9, 9, 9, 9, 9, 9, 9, 9, 9, 9, 9, 9, 9, 9, 9, 9, 9, 9, 9, 9, 9, 9, 9, 9, 9, 9, 9, 9, 9, 9, 9, 9, 9])))))) ∧ (Q ([S (ssub (ByteArray.mk (Array.mk [9, 9, 9, 9, 9, 9, 9, 9, 9, 9, 9, 9, 9, 9, 9, 9, 9, 9, 9, 9, 9, 9, 9, 9, 9, 9, 9, 9, 9, 9, 9, 9, 9, 9, 9, 9, 9, 9, 9, 9, 9, 9, 9, 9, 9, 9, 9, 9, 9, 9, 9, 9, 9, 9, 9, 9, 9, 9, 9, 9, 9, 9, 9, 9])) 0 (wcv IntKind.i64 x1))]))) False))) False))))))) (ifB (ile (wcv IntKind.i64 x1) 128) (Cl Tryz.prog 122 sP ([S (ByteArray.mk (Array.mk [45, 45, 45, 45, 45, 45, 45, 45, 45, 45, 45, 45, 45, 45, 45, 45, 45, 45, 45, 45, 45, 45, 45, 45, 45, 45, 45, 45, 45, 45, 45, 45, 45, 45, 45, 45, 45, 45, 45, 45, 45, 45, 45, 45, 45, 45, 45, 45, 45, 45, 45, 45, 45, 45, 45, 45, 45, 45, 45, 45, 45, 45, 45, 45, 45, 45, 45, 45, 45, 45, 45, 45, 45, 45, 45, 45, 45, 45, 45, 45, 45, 45, 45, 45, 45, 45, 45, 45, 45, 45, 45, 45, 45, 45, 45, 45, 45, 45, 45, 45, 45, 45, 45, 45, 45, 45, 45, 45, 45, 45, 45, 45, 45, 45, 45, 45, 45, 45, 45, 45, 45, 45, 45, 45, 45, 45, 45, 45])), S (ByteArray.mk (Array.mk [48]))]) (fun (rs1 : List SV) => ∃ b1 : Bool, (rs1 = [B b1]) ∧ (ifB b1 ((((0 : Int) ≤ 0) ∧ (((0 : Int) ≤ (wcv IntKind.i64 x1)) ∧ ((wcv IntKind.i64 x1) ≤ (slen (ByteArray.mk (Array.mk [45, 45, 45, 45, 45, 45, 45, 45, 45, 45, 45, 45, 45, 45, 45, 45, 45, 45, 45, 45, 45, 45, 45, 45, 45, 45, 45, 45, 45, 45, 45, 45, 45, 45, 45, 45, 45, 45, 45, 45, 45, 45, 45, 45, 45, 45, 45, 45, 45, 45, 45, 45, 45, 45, 45, 45, 45, 45, 45, 45, 45, 45, 45, 45, 45, 45, 45, 45, 45, 45, 45, 45, 45, 45, 45, 45, 45, 45, 45, 45, 45, 45, 45, 45, 45, 45, 45, 45, 45, 45, 45, 45, 45, 45, 45, 45, 45, 45, 45, 45, 45, 45, 45, 45, 45, 45, 45, 45, 45, 45, 45, 45, 45, 45, 45, 45, 45, 45, 45, 45, 45, 45, 45, 45, 45, 45, 45, 45])))))) ∧ (Q ([S (ssub (ByteArray.mk (Array.mk [45, 45, 45, 45, 45, 45, 45, 45, 45, 45, 45, 45, 45, 45, 45, 45, 45, 45, 45, 45, 45, 45, 45, 45, 45, 45, 45, 45, 45, 45, 45, 45, 45, 45, 45, 45, 45, 45, 45, 45, 45, 45, 45, 45, 45, 45, 45, 45, 45, 45, 45, 45, 45, 45, 45, 45, 45, 45, 45, 45, 45, 45, 45, 45, 45, 45, 45, 45, 45, 45, 45, 45, 45, 45, 45, 45, 45, 45, 45, 45, 45, 45, 45, 45, 45, 45, 45, 45, 45, 45, 45, 45, 45, 45, 45, 45, 45, 45, 45, 45, 45, 45, 45, 45, 45, 45, 45, 45, 45, 45, 45, 45, 45, 45, 45, 45, 45, 45, 45, 45, 45, 45, 45, 45, 45, 45, 45, 45])) 0 (wcv IntKind.i64 x1))]))) (ifB (ile (wcv IntKind.i64 x1) 64) (Cl Tryz.prog 122 sP ([S (ByteArray.mk (Array.mk [48, 48, 48, 48, 48, 48, 48, 48, 48, 48, 48, 48, 48, 48, 48, 48, 48, 48, 48, 48, 48, 48, 48, 48, 48, 48, 48, 48, 48, 48, 48, 48, 48, 48, 48, 48, 48, 48, 48, 48, 48, 48, 48, 48, 48, 48, 48, 48, 48, 48, 48, 48, 48, 48, 48, 48, 48, 48, 48, 48, 48, 48, 48, 48])), S (ByteArray.mk (Array.mk [48]))]) (fun (rs2 : List SV) => ∃ b2 : Bool, (rs2 = [B b2]) ∧ (ifB b2 ((((0 : Int) ≤ 0) ∧ (((0 : Int) ≤ (wcv IntKind.i64 x1)) ∧ ((wcv IntKind.i64 x1) ≤ (slen (ByteArray.mk (Array.mk [48, 48, 48, 48, 48, 48, 48, 48, 48, 48, 48, 48, 48, 48, 48, 48, 48, 48, 48, 48, 48, 48, 48, 48, 48, 48, 48, 48, 48, 48, 48, 48, 48, 48, 48, 48, 48, 48, 48, 48, 48, 48, 48, 48, 48, 48, 48, 48, 48, 48, 48, 48, 48, 48, 48, 48, 48, 48, 48, 48, 48, 48, 48, 48])))))) ∧ (Q ([S (ssub (ByteArray.mk (Array.mk [48, 48, 48, 48, 48, 48, 48, 48, 48, 48, 48, 48, 48, 48, 48, 48, 48, 48, 48, 48, 48, 48, 48, 48, 48, 48, 48, 48, 48, 48, 48, 48, 48, 48, 48, 48, 48, 48, 48, 48, 48, 48, 48, 48, 48, 48, 48, 48, 48, 48, 48, 48, 48, 48, 48, 48, 48, 48, 48, 48, 48, 48, 48, 48])) 0 (wcv IntKind.i64 x1))]))) (ifB (ile (wcv IntKind.i64 x1) 128) (Cl Tryz.prog 122 sP ([S (ByteArray.mk (Array.mk [61, 61, 61, 61, 61, 61, 61, 61, 61, 61, 61, 61, 61, 61, 61, 61, 61, 61, 61, 61, 61, 61, 61, 61, 61, 61, 61, 61, 61, 61, 61, 61, 61, 61, 61, 61, 61, 61, 61, 61, 61, 61, 61, 61, 61, 61, 61, 61, 61, 61, 61, 61, 61, 61, 61, 61, 61, 61, 61, 61, 61, 61, 61, 61, 61, 61, 61, 61, 61, 61, 61, 61, 61, 61, 61, 61, 61, 61, 61, 61, 61, 61, 61, 61, 61, 61, 61, 61, 61, 61, 61, 61, 61, 61, 61, 61, 61, 61, 61, 61, 61, 61, 61, 61, 61, 61, 61, 61, 61, 61, 61, 61, 61, 61, 61, 61, 61, 61, 61, 61, 61, 61, 61, 61, 61, 61, 61, 61])), S (ByteArray.mk (Array.mk [48]))]) (fun (rs3 : List SV) => ∃ b3 : Bool, (rs3 = [B b3]) ∧ (ifB b3 ((((0 : Int) ≤ 0) ∧ (((0 : Int) ≤ (wcv IntKind.i64 x1)) ∧ ((wcv IntKind.i64 x1) ≤ (slen (ByteArray.mk (Array.mk [61, 61, 61, 61, 61, 61, 61, 61, 61, 61, 61, 61, 61, 61, 61, 61, 61, 61, 61, 61, 61, 61, 61, 61, 61, 61, 61, 61, 61, 61, 61, 61, 61, 61, 61, 61, 61, 61, 61, 61, 61, 61, 61, 61, 61, 61, 61, 61, 61, 61, 61, 61, 61, 61, 61, 61, 61, 61, 61, 61, 61, 61, 61, 61, 61, 61, 61, 61, 61, 61, 61, 61, 61, 61, 61, 61, 61, 61, 61, 61, 61, 61, 61, 61, 61, 61, 61, 61, 61, 61, 61, 61, 61, 61, 61, 61, 61, 61, 61, 61, 61, 61, 61, 61, 61, 61, 61, 61, 61, 61, 61, 61, 61, 61, 61, 61, 61, 61, 61, 61, 61, 61, 61, 61, 61, 61, 61, 61])))))) ∧ (Q ([S (ssub (ByteArray.mk (Array.mk [61, 61, 61, 61, 61, 61, 61, 61, 61, 61, 61, 61, 61, 61, 61, 61, 61, 61, 61, 61, 61, 61, 61, 61, 61, 61, 61, 61, 61, 61, 61, 61, 61, 61, 61, 61, 61, 61, 61, 61, 61, 61, 61, 61, 61, 61, 61, 61, 61, 61, 61, 61, 61, 61, 61, 61, 61, 61, 61, 61, 61, 61, 61, 61, 61, 61, 61, 61, 61, 61, 61, 61, 61, 61, 61, 61, 61, 61, 61, 61, 61, 61, 61, 61, 61, 61, 61, 61, 61, 61, 61, 61, 61, 61, 61, 61, 61, 61, 61, 61, 61, 61, 61, 61, 61, 61, 61, 61, 61, 61, 61, 61, 61, 61, 61, 61, 61, 61, 61, 61, 61, 61, 61, 61, 61, 61, 61, 61])) 0 (wcv IntKind.i64 x1))]))) (ifB (ile (wcv IntKind.i64 x1) 64) (Cl Tryz.prog 122 sP ([S (ByteArray.mk (Array.mk [9, 9, 9, 9, 9, 9, 9, 9, 9, 9, 9, 9, 9, 9, 9, 9, 9, 9, 9, 9, 9, 9, 9, 9, 9, 9, 9, 9, 9, 9, 9, 9, 9, 9, 9, 9, 9, 9, 9, 9, 9, 9, 9, 9, 9, 9, 9, 9, 9, 9, 9, 9, 9, 9, 9, 9, 9, 9, 9, 9, 9, 9, 9, 9])), S (ByteArray.mk (Array.mk [48]))]) (fun (rs4 : List SV) => ∃ b4 : Bool, (rs4 = [B b4]) ∧ (ifB b4 ((((0 : Int) ≤ 0) ∧ (((0 : Int) ≤ (wcv IntKind.i64 x1)) ∧ ((wcv IntKind.i64 x1) ≤ (slen (ByteArray.mk (Array.mk [9, 9, 9, 9, 9, 9, 9, 9, 9, 9, 9, 9, 9, 9, 9, 9, 9, 9, 9, 9, 9, 9, 9, 9, 9, 9, 9, 9, 9, 9, 9, 9, 9, 9, 9, 9, 9, 9, 9, 9, 9, 9, 9, 9, 9, 9, 9, 9, 9, 9, 9, 9, 9, 9, 9, 9, 9, 9, 9, 9, 9, 9, 9, 9])))))) ∧ (Q ([S (ssub (ByteArray.mk (Array.mk [9, 9, 9, 9, 9, 9, 9, 9, 9, 9, 9, 9, 9, 9, 9, 9, 9, 9, 9, 9, 9, 9, 9, 9, 9, 9, 9, 9, 9, 9, 9, 9, 9, 9, 9, 9, 9, 9, 9, 9, 9, 9, 9, 9, 9, 9, 9, 9, 9, 9, 9, 9, 9, 9, 9, 9, 9, 9, 9, 9, 9, 9, 9, 9])) 0 (wcv IntKind.i64 x1))]))) False))) False)))) (ifB (ile (wcv IntKind.i64 x1) 64) (Cl Tryz.prog 122 sP ([S (ByteArray.mk (Array.mk [9, 9, 9, 9, 9, 9, 9, 9, 9, 9, 9, 9, 9, 9, 9, 9, 9, 9, 9, 9, 9, 9, 9, 9, 9, 9, 9, 9, 9, 9, 9, 9, 9, 9, 9, 9, 9, 9, 9, 9, 9, 9, 9, 9, 9, 9, 9, 9, 9, 9, 9, 9, 9, 9, 9, 9, 9, 9, 9, 9, 9, 9, 9, 9])), S (ByteArray.mk (Array.mk [48]))]) (fun (rs3 : List SV) => ∃ b3 : Bool, (rs3 = [B b3]) ∧ (ifB b3 ((((0 : Int) ≤ 0) ∧ (((0 : Int) ≤ (wcv IntKind.i64 x1)) ∧ ((wcv IntKind.i64 x1) ≤ (slen (ByteArray.mk (Array.mk [9, 9, 9, 9, 9, 9, 9, 9, 9, 9, 9, 9, 9, 9, 9, 9, 9, 9, 9, 9, 9, 9, 9, 9, 9, 9, 9, 9, 9, 9, 9, 9, 9, 9, 9, 9, 9, 9, 9, 9, 9, 9, 9, 9, 9, 9, 9, 9, 9, 9, 9, 9, 9, 9, 9, 9, 9, 9, 9, 9, 9, 9, 9, 9])))))) ∧ (Q ([S (ssub (ByteArray.mk (Array.mk [9, 9, 9, 9, 9, 9, 9, 9, 9, 9, 9, 9, 9, 9, 9, 9, 9, 9, 9, 9, 9, 9, 9, 9, 9, 9, 9, 9, 9, 9, 9, 9, 9, 9, 9, 9, 9, 9, 9, 9, 9, 9, 9, 9, 9, 9, 9, 9, 9, 9, 9, 9, 9, 9, 9, 9, 9, 9, 9, 9, 9, 9, 9, 9])) 0 (wcv IntKind.i64 x1))]))) False))) False))))) (ifB (ile (wcv IntKind.i64 x1) 128) (Cl Tryz.prog 122 sP ([S (ByteArray.mk (Array.mk [61, 61, 61, 61, 61, 61, 61, 61, 61, 61, 61, 61, 61, 61, 61, 61, 61, 61, 61, 61, 61, 61, 61, 61, 61, 61, 61, 61, 61, 61, 61, 61, 61, 61, 61, 61, 61, 61, 61, 61, 61, 61, 61, 61, 61, 61, 61, 61, 61, 61, 61, 61, 61, 61, 61, 61, 61, 61, 61, 61, 61, 61, 61, 61, 61, 61, 61, 61, 61, 61, 61, 61, 61, 61, 61, 61, 61, 61, 61, 61, 61, 61, 61, 61, 61, 61, 61, 61, 61, 61, 61, 61, 61, 61, 61, 61, 61, 61, 61, 61, 61, 61, 61, 61, 61, 61, 61, 61, 61, 61, 61, 61, 61, 61, 61, 61, 61, 61, 61, 61, 61, 61, 61, 61, 61, 61, 61, 61])), S (ByteArray.mk (Array.mk [48]))]) (fun (rs2 : List SV) => ∃ b2 : Bool, (rs2 = [B b2]) ∧ (ifB b2 ((((0 : Int) ≤ 0) ∧ (((0 : Int) ≤ (wcv IntKind.i64 x1)) ∧ ((wcv IntKind.i64 x1) ≤ (slen (ByteArray.mk (Array.mk [61, 61, 61, 61, 61, 61, 61, 61, 61, 61, 61, 61, 61, 61, 61, 61, 61, 61, 61, 61, 61, 61, 61, 61, 61, 61, 61, 61, 61, 61, 61, 61, 61, 61, 61, 61, 61, 61, 61, 61, 61, 61, 61, 61, 61, 61, 61, 61, 61, 61, 61, 61, 61, 61, 61, 61, 61, 61, 61, 61, 61, 61, 61, 61, 61, 61, 61, 61, 61, 61, 61, 61, 61, 61, 61, 61, 61, 61, 61, 61, 61, 61, 61, 61, 61, 61, 61, 61, 61, 61, 61, 61, 61, 61, 61, 61, 61, 61, 61, 61, 61, 61, 61, 61, 61, 61, 61, 61, 61, 61, 61, 61, 61, 61, 61, 61, 61, 61, 61, 61, 61, 61, 61, 61, 61, 61, 61, 61])))))) ∧ (Q ([S (ssub (ByteArray.mk (Array.mk [61, 61, 61, 61, 61, 61, 61, 61, 61, 61, 61, 61, 61, 61, 61, 61, 61, 61, 61, 61, 61, 61, 61, 61, 61, 61, 61, 61, 61, 61, 61, 61, 61, 61, 61, 61, 61, 61, 61, 61, 61, 61, 61, 61, 61, 61, 61, 61, 61, 61, 61, 61, 61, 61, 61, 61, 61, 61, 61, 61, 61, 61, 61, 61, 61, 61, 61, 61, 61, 61, 61, 61, 61, 61, 61, 61, 61, 61, 61, 61, 61, 61, 61, 61, 61, 61, 61, 61, 61, 61, 61, 61, 61, 61, 61, 61, 61, 61, 61, 61, 61, 61, 61, 61, 61, 61, 61, 61, 61, 61, 61, 61, 61, 61, 61, 61, 61, 61, 61, 61, 61, 61, 61, 61, 61, 61, 61, 61])) 0 (wcv IntKind.i64 x1))]))) (ifB (ile (wcv IntKind.i64 x1) 64) (Cl Tryz.prog 122 sP ([S (ByteArray.mk (Array.mk [9, 9, 9, 9, 9, 9, 9, 9, 9, 9, 9, 9, 9, 9, 9, 9, 9, 9, 9, 9, 9, 9, 9, 9, 9, 9, 9, 9, 9, 9, 9, 9, 9, 9, 9, 9, 9, 9, 9, 9, 9, 9, 9, 9, 9, 9, 9, 9, 9, 9, 9, 9, 9, 9, 9, 9, 9, 9, 9, 9, 9, 9, 9, 9])), S (ByteArray.mk (Array.mk [48]))]) (fun (rs3 : List SV) => ∃ b3 : Bool, (rs3 = [B b3]) ∧ (ifB b3 ((((0 : Int) ≤ 0) ∧ (((0 : Int) ≤ (wcv IntKind.i64 x1)) ∧ ((wcv IntKind.i64 x1) ≤ (slen (ByteArray.mk (Array.mk [9, 9, 9, 9, 9, 9, 9, 9, 9, 9, 9, 9, 9, 9, 9, 9, 9, 9, 9, 9, 9, 9, 9, 9, 9, 9, 9, 9, 9, 9, 9, 9, 9, 9, 9, 9, 9, 9, 9, 9, 9, 9, 9, 9, 9, 9, 9, 9, 9, 9, 9, 9, 9, 9, 9, 9, 9, 9, 9, 9, 9, 9, 9, 9])))))) ∧ (Q ([S (ssub (ByteArray.mk (Array.mk [9, 9, 9, 9, 9, 9, 9, 9, 9, 9, 9, 9, 9, 9, 9, 9, 9, 9, 9, 9, 9, 9, 9, 9, 9, 9, 9, 9, 9, 9, 9, 9, 9, 9, 9, 9, 9, 9, 9, 9, 9, 9, 9, 9, 9, 9, 9, 9, 9, 9, 9, 9, 9, 9, 9, 9, 9, 9, 9, 9, 9, 9, 9, 9])) 0 (wcv IntKind.i64 x1))]))) False))) False)))) (ifB (ile (wcv IntKind.i64 x1) 64) (Cl Tryz.prog 122 sP ([S (ByteArray.mk (Array.mk [9, 9, 9, 9, 9, 9, 9, 9, 9, 9, 9, 9, 9, 9, 9, 9, 9, 9, 9, 9, 9, 9, 9, 9, 9, 9, 9, 9, 9, 9, 9, 9, 9, 9, 9, 9, 9, 9, 9, 9, 9, 9, 9, 9, 9, 9, 9, 9, 9, 9, 9, 9, 9, 9, 9, 9, 9, 9, 9, 9, 9, 9, 9, 9])), S (ByteArray.mk (Array.mk [48]))]) (fun (rs2 : List SV) => ∃ b2 : Bool, (rs2 = [B b2]) ∧ (ifB b2 ((((0 : Int) ≤ 0) ∧ (((0 : Int) ≤ (wcv IntKind.i64 x1)) ∧ ((wcv IntKind.i64 x1) ≤ (slen (ByteArray.mk (Array.mk [9, 9, 9, 9, 9, 9, 9, 9, 9, 9, 9, 9, 9, 9, 9, 9, 9, 9, 9, 9, 9, 9, 9, 9, 9, 9, 9, 9, 9, 9, 9, 9, 9, 9, 9, 9, 9, 9, 9, 9, 9, 9, 9, 9, 9, 9, 9, 9, 9, 9, 9, 9, 9, 9, 9, 9, 9, 9, 9, 9, 9, 9, 9, 9])))))) ∧ (Q ([S (ssub (ByteArray.mk (Array.mk [9, 9, 9, 9, 9, 9, 9, 9, 9, 9, 9, 9, 9, 9, 9, 9, 9, 9, 9, 9, 9, 9, 9, 9, 9, 9, 9, 9, 9, 9, 9, 9, 9, 9, 9, 9, 9, 9, 9, 9, 9, 9, 9, 9, 9, 9, 9, 9, 9, 9, 9, 9, 9, 9, 9, 9, 9, 9, 9, 9, 9, 9, 9, 9])) 0 (wcv IntKind.i64 x1))]))) False))) False)))))) (ifB (ile (wcv IntKind.i64 x1) 64) (Cl Tryz.prog 122 sP ([S (ByteArray.mk (Array.mk [48, 48, 48, 48, 48, 48, 48, 48, 48, 48, 48, 48, 48, 48, 48, 48, 48, 48, 48, 48, 48, 48, 48, 48, 48, 48, 48, 48, 48, 48, 48, 48, 48, 48, 48, 48, 48, 48, 48, 48, 48, 48, 48, 48, 48, 48, 48, 48, 48, 48, 48, 48, 48, 48, 48, 48, 48, 48, 48, 48, 48, 48, 48, 48])), S (ByteArray.mk (Array.mk [48]))]) (fun (rs1 : List SV) => ∃ b1 : Bool, (rs1 = [B b1]) ∧ (ifB b1 ((((0 : Int) ≤ 0) ∧ (((0 : Int) ≤ (wcv IntKind.i64 x1)) ∧ ((wcv IntKind.i64 x1) ≤ (slen (ByteArray.mk (Array.mk [48, 48, 48, 48, 48, 48, 48, 48, 48, 48, 48, 48, 48, 48, 48, 48, 48, 48, 48, 48, 48, 48, 48, 48, 48, 48, 48, 48, 48, 48, 48, 48, 48, 48, 48, 48, 48, 48, 48, 48, 48, 48, 48, 48, 48, 48, 48, 48, 48, 48, 48, 48, 48, 48, 48, 48, 48, 48, 48, 48, 48, 48, 48, 48])))))) ∧ (Q ([S (ssub (ByteArray.mk (Array.mk [48, 48, 48, 48, 48, 48, 48, 48, 48, 48, 48, 48, 48, 48, 48, 48, 48, 48, 48, 48, 48, 48, 48, 48, 48, 48, 48, 48, 48, 48, 48, 48, 48, 48, 48, 48, 48, 48, 48, 48, 48, 48, 48, 48, 48, 48, 48, 48, 48, 48, 48, 48, 48, 48, 48, 48, 48, 48, 48, 48, 48, 48, 48, 48])) 0 (wcv IntKind.i64 x1))]))) (ifB (ile (wcv IntKind.i64 x1) 128) (Cl Tryz.prog 122 sP ([S (ByteArray.mk (Array.mk [61, 61, 61, 61, 61, 61, 61, 61, 61, 61, 61, 61, 61, 61, 61, 61, 61, 61, 61, 61, 61, 61, 61, 61, 61, 61, 61, 61, 61, 61, 61, 61, 61, 61, 61, 61, 61, 61, 61, 61, 61, 61, 61, 61, 61, 61, 61, 61, 61, 61, 61, 61, 61, 61, 61, 61, 61, 61, 61, 61, 61, 61, 61, 61, 61, 61, 61, 61, 61, 61, 61, 61, 61, 61, 61, 61, 61, 61, 61, 61, 61, 61, 61, 61, 61, 61, 61, 61, 61, 61, 61, 61, 61, 61, 61, 61, 61, 61, 61, 61, 61, 61, 61, 61, 61, 61, 61, 61, 61, 61, 61, 61, 61, 61, 61, 61, 61, 61, 61, 61, 61, 61, 61, 61, 61, 61, 61, 61])), S (ByteArray.mk (Array.mk [48]))]) (fun (rs2 : List SV) => ∃ b2 : Bool, (rs2 = [B b2]) ∧ (ifB b2 ((((0 : Int) ≤ 0) ∧ (((0 : Int) ≤ (wcv IntKind.i64 x1)) ∧ ((wcv IntKind.i64 x1) ≤ (slen (ByteArray.mk (Array.mk [61, 61, 61, 61, 61, 61, 61, 61, 61, 61, 61, 61, 61, 61, 61, 61, 61, 61, 61, 61, 61, 61, 61, 61, 61, 61, 61, 61, 61, 61, 61, 61, 61, 61, 61, 61, 61, 61, 61, 61, 61, 61, 61, 61, 61, 61, 61, 61, 61, 61, 61, 61, 61, 61, 61, 61, 61, 61, 61, 61, 61, 61, 61, 61, 61, 61, 61, 61, 61, 61, 61, 61, 61, 61, 61, 61, 61, 61, 61, 61, 61, 61, 61, 61, 61, 61, 61, 61, 61, 61, 61, 61, 61, 61, 61, 61, 61, 61, 61, 61, 61, 61, 61, 61, 61, 61, 61, 61, 61, 61, 61, 61, 61, 61, 61, 61, 61, 61, 61, 61, 61, 61, 61, 61, 61, 61, 61, 61])))))) ∧ (Q ([S (ssub (ByteArray.mk (Array.mk [61, 61, 61, 61, 61, 61, 61, 61, 61, 61, 61, 61, 61, 61, 61, 61, 61, 61, 61, 61, 61, 61, 61, 61, 61, 61, 61, 61, 61, 61, 61, 61, 61, 61, 61, 61, 61, 61, 61, 61, 61, 61, 61, 61, 61, 61, 61, 61, 61, 61, 61, 61, 61, 61, 61, 61, 61, 61, 61, 61, 61, 61, 61, 61, 61, 61, 61, 61, 61, 61, 61, 61, 61, 61, 61, 61, 61, 61, 61, 61, 61, 61, 61, 61, 61, 61, 61, 61, 61, 61, 61, 61, 61, 61, 61, 61, 61, 61, 61, 61, 61, 61, 61, 61, 61, 61, 61, 61, 61, 61, 61, 61, 61, 61, 61, 61, 61, 61, 61, 61, 61, 61, 61, 61, 61, 61, 61, 61])) 0 (wcv IntKind.i64 x1))]))) (ifB (ile (wcv IntKind.i64 x1) 64) (Cl Tryz.prog 122 sP ([S (ByteArray.mk (Array.mk [9, 9, 9, 9, 9, 9, 9, 9, 9, 9, 9, 9, 9, 9, 9, 9, 9, 9, 9, 9, 9, 9, 9, 9, 9, 9, 9, 9, 9, 9, 9, 9, 9, 9, 9, 9, 9, 9, 9, 9, 9, 9, 9, 9, 9, 9, 9, 9, 9, 9, 9, 9, 9, 9, 9, 9, 9, 9, 9, 9, 9, 9, 9, 9])), S (ByteArray.mk (Array.mk [48]))]) (fun (rs3 : List SV) => ∃ b3 : Bool, (rs3 = [B b3]) ∧ (ifB b3 ((((0 : Int) ≤ 0) ∧ (((0 : Int) ≤ (wcv IntKind.i64 x1)) ∧ ((wcv IntKind.i64 x1) ≤ (slen (ByteArray.mk (Array.mk [9, 9, 9, 9, 9, 9, 9, 9, 9, 9, 9, 9, 9, 9, 9, 9, 9, 9, 9, 9, 9, 9, 9, 9, 9, 9, 9, 9, 9, 9, 9, 9, 9, 9, 9, 9, 9, 9, 9, 9, 9, 9, 9, 9, 9, 9, 9, 9, 9, 9, 9, 9, 9, 9, 9, 9, 9, 9, 9, 9, 9, 9, 9, 9])))))) ∧ (Q ([S (ssub (ByteArray.mk (Array.mk [9, 9, 9, 9, 9, 9, 9, 9, 9, 9, 9, 9, 9, 9, 9, 9, 9, 9, 9, 9, 9, 9, 9, 9, 9, 9, 9, 9, 9, 9, 9, 9, 9, 9, 9, 9, 9, 9, 9, 9, 9, 9, 9, 9, 9, 9, 9, 9, 9, 9, 9, 9, 9, 9, 9, 9, 9, 9, 9, 9, 9, 9, 9, 9])) 0 (wcv IntKind.i64 x1))]))) False))) False)))) (ifB (ile (wcv IntKind.i64 x1) 64) (Cl Tryz.prog 122 sP ([S (ByteArray.mk (Array.mk [9, 9, 9, 9, 9, 9, 9, 9, 9, 9, 9, 9, 9, 9, 9, 9, 9, 9, 9, 9, 9, 9, 9, 9, 9, 9, 9, 9, 9, 9, 9, 9, 9, 9, 9, 9, 9, 9, 9, 9, 9, 9, 9, 9, 9, 9, 9, 9, 9, 9, 9, 9, 9, 9, 9, 9, 9, 9, 9, 9, 9, 9, 9, 9])), S (ByteArray.mk (Array.mk [48]))]) (fun (rs2 : List SV) => ∃ b2 : Bool, (rs2 = [B b2]) ∧ (ifB b2 ((((0 : Int) ≤ 0) ∧ (((0 : Int) ≤ (wcv IntKind.i64 x1)) ∧ ((wcv IntKind.i64 x1) ≤ (slen (ByteArray.mk (Array.mk [9, 9, 9, 9, 9, 9, 9, 9, 9, 9, 9, 9, 9, 9, 9, 9, 9, 9, 9, 9, 9, 9, 9, 9, 9, 9, 9, 9, 9, 9, 9, 9, 9, 9, 9, 9, 9, 9, 9, 9, 9, 9, 9, 9, 9, 9, 9, 9, 9, 9, 9, 9, 9, 9, 9, 9, 9, 9, 9, 9, 9, 9, 9, 9])))))) ∧ (Q ([S (ssub (ByteArray.mk (Array.mk [9, 9, 9, 9, 9, 9, 9, 9, 9, 9, 9, 9, 9, 9, 9, 9, 9, 9, 9, 9, 9, 9, 9, 9, 9, 9, 9, 9, 9, 9, 9, 9, 9, 9, 9, 9, 9, 9, 9, 9, 9, 9, 9, 9, 9, 9, 9, 9, 9, 9, 9, 9, 9, 9, 9, 9, 9, 9, 9, 9, 9, 9, 9, 9])) 0 (wcv IntKind.i64 x1))]))) False))) False))))) (ifB (ile (wcv IntKind.i64 x1) 128) (Cl Tryz.prog 122 sP ([S (ByteArray.mk (Array.mk [61, 61, 61, 61, 61, 61, 61, 61, 61, 61, 61, 61, 61, 61, 61, 61, 61, 61, 61, 61, 61, 61, 61, 61, 61, 61, 61, 61, 61, 61, 61, 61, 61, 61, 61, 61, 61, 61, 61, 61, 61, 61, 61, 61, 61, 61, 61, 61, 61, 61, 61, 61, 61, 61, 61, 61, 61, 61, 61, 61, 61, 61, 61, 61, 61, 61, 61, 61, 61, 61, 61, 61, 61, 61, 61, 61, 61, 61, 61, 61, 61, 61, 61, 61, 61, 61, 61, 61, 61, 61, 61, 61, 61, 61, 61, 61, 61, 61, 61, 61, 61, 61, 61, 61, 61, 61, 61, 61, 61, 61, 61, 61, 61, 61, 61, 61, 61, 61, 61, 61, 61, 61, 61, 61, 61, 61, 61, 61])), S (ByteArray.mk (Array.mk [48]))]) (fun (rs1 : List SV) => ∃ b1 : Bool, (rs1 = [B b1]) ∧ (ifB b1 ((((0 : Int) ≤ 0) ∧ (((0 : Int) ≤ (wcv IntKind.i64 x1)) ∧ ((wcv IntKind.i64 x1) ≤ (slen (ByteArray.mk (Array.mk [61, 61, 61, 61, 61, 61, 61, 61, 61, 61, 61, 61, 61, 61, 61, 61, 61, 61, 61, 61, 61, 61, 61, 61, 61, 61, 61, 61, 61, 61, 61, 61, 61, 61, 61, 61, 61, 61, 61, 61, 61, 61, 61, 61, 61, 61, 61, 61, 61, 61, 61, 61, 61, 61, 61, 61, 61, 61, 61, 61, 61, 61, 61, 61, 61, 61, 61, 61, 61, 61, 61, 61, 61, 61, 61, 61, 61, 61, 61, 61, 61, 61, 61, 61, 61, 61, 61, 61, 61, 61, 61, 61, 61, 61, 61, 61, 61, 61, 61, 61, 61, 61, 61, 61, 61, 61, 61, 61, 61, 61, 61, 61, 61, 61, 61, 61, 61, 61, 61, 61, 61, 61, 61, 61, 61, 61, 61, 61])))))) ∧ (Q ([S (ssub (ByteArray.mk (Array.mk [61, 61, 61, 61, 61, 61, 61, 61, 61, 61, 61, 61, 61, 61, 61, 61, 61, 61, 61, 61, 61, 61, 61, 61, 61, 61, 61, 61, 61, 61, 61, 61, 61, 61, 61, 61, 61, 61, 61, 61, 61, 61, 61, 61, 61, 61, 61, 61, 61, 61, 61, 61, 61, 61, 61, 61, 61, 61, 61, 61, 61, 61, 61, 61, 61, 61, 61, 61, 61, 61, 61, 61, 61, 61, 61, 61, 61, 61, 61, 61, 61, 61, 61, 61, 61, 61, 61, 61, 61, 61, 61, 61, 61, 61, 61, 61, 61, 61, 61, 61, 61, 61, 61, 61, 61, 61, 61, 61, 61, 61, 61, 61, 61, 61, 61, 61, 61, 61, 61, 61, 61, 61, 61, 61, 61, 61, 61, 61])) 0 (wcv IntKind.i64 x1))]))) (ifB (ile (wcv IntKind.i64 x1) 64) (Cl Tryz.prog 122 sP ([S (ByteArray.mk (Array.mk [9, 9, 9, 9, 9, 9, 9, 9, 9, 9, 9, 9, 9, 9, 9, 9, 9, 9, 9, 9, 9, 9, 9, 9, 9, 9, 9, 9, 9, 9, 9, 9, 9, 9, 9, 9, 9, 9, 9, 9, 9, 9, 9, 9, 9, 9, 9, 9, 9, 9, 9, 9, 9, 9, 9, 9, 9, 9, 9, 9, 9, 9, 9, 9])), S (ByteArray.mk (Array.mk [48]))]) (fun (rs2 : List SV) => ∃ b2 : Bool, (rs2 = [B b2]) ∧ (ifB b2 ((((0 : Int) ≤ 0) ∧ (((0 : Int) ≤ (wcv IntKind.i64 x1)) ∧ ((wcv IntKind.i64 x1) ≤ (slen (ByteArray.mk (Array.mk [9, 9, 9, 9, 9, 9, 9, 9, 9, 9, 9, 9, 9, 9, 9, 9, 9, 9, 9, 9, 9, 9, 9, 9, 9, 9, 9, 9, 9, 9, 9, 9, 9, 9, 9, 9, 9, 9, 9, 9, 9, 9, 9, 9, 9, 9, 9, 9, 9, 9, 9, 9, 9, 9, 9, 9, 9, 9, 9, 9, 9, 9, 9, 9])))))) ∧ (Q ([S (ssub (ByteArray.mk (Array.mk [9, 9, 9, 9, 9, 9, 9, 9, 9, 9, 9, 9, 9, 9, 9, 9, 9, 9, 9, 9, 9, 9, 9, 9, 9, 9, 9, 9, 9, 9, 9, 9, 9, 9, 9, 9, 9, 9, 9, 9, 9, 9, 9, 9, 9, 9, 9, 9, 9, 9, 9, 9, 9, 9, 9, 9, 9, 9, 9, 9, 9, 9, 9, 9])) 0 (wcv IntKind.i64 x1))]))) False))) False)))) (ifB (ile (wcv IntKind.i64 x1) 64) (Cl Tryz.prog 122 sP ([S (ByteArray.mk (Array.mk [9, 9, 9, 9, 9, 9, 9, 9, 9, 9, 9, 9, 9, 9, 9, 9, 9, 9, 9, 9, 9, 9, 9, 9, 9, 9, 9, 9, 9, 9, 9, 9, 9, 9, 9, 9, 9, 9, 9, 9, 9, 9, 9, 9, 9, 9, 9, 9, 9, 9, 9, 9, 9, 9, 9, 9, 9, 9, 9, 9, 9, 9, 9, 9])), S (ByteArray.mk (Array.mk [48]))]) (fun (rs1 : List SV) => ∃ b1 : Bool, (rs1 = [B b1]) ∧ (ifB b1 ((((0 : Int) ≤ 0) ∧ (((0 : Int) ≤ (wcv IntKind.i64 x1)) ∧ ((wcv IntKind.i64 x1) ≤ (slen (ByteArray.mk (Array.mk [9, 9, 9, 9, 9, 9, 9, 9, 9, 9, 9, 9, 9, 9, 9, 9, 9, 9, 9, 9, 9, 9, 9, 9, 9, 9, 9, 9, 9, 9, 9, 9, 9, 9, 9, 9, 9, 9, 9, 9, 9, 9, 9, 9, 9, 9, 9, 9, 9, 9, 9, 9, 9, 9, 9, 9, 9, 9, 9, 9, 9, 9, 9, 9])))))) ∧ (Q ([S (ssub (ByteArray.mk (Array.mk [9, 9, 9, 9, 9, 9, 9, 9, 9, 9, 9, 9, 9, 9, 9, 9, 9, 9, 9, 9, 9, 9, 9, 9, 9, 9, 9, 9, 9, 9, 9, 9, 9, 9, 9, 9, 9, 9, 9, 9, 9, 9, 9, 9, 9, 9, 9, 9, 9, 9, 9, 9, 9, 9, 9, 9, 9, 9, 9, 9, 9, 9, 9, 9])) 0 (wcv IntKind.i64 x1))]))) False))) False))))) False) ∧ (∀ b1 : Bool, (Inv1 b1) → ifB (igt (wcv IntKind.i64 x1) 8192) (((slen (ByteArray.mk (Array.mk [48])) = 0) → False) ∧ (ifB (ieq (wmul IntKind.i64 (wquo IntKind.i64 8192 (slen (ByteArray.mk (Array.mk [48])))) (slen (ByteArray.mk (Array.mk [48])))) 0) False False)) False))))))))))) : Ct Tryz.prog 60 {} ([S (ByteArray.mk (Array.mk [48])), I 7] : List SV) Q :=
  fn_of (f := 60) SgT SvT (fun k => bif Nat.beq k 4000043 then some { slots := [(43,false,[.bool])], fixed := [] } else none) Tryz.f60 Tryz.func60 (by kernel_rfl) (by kernel_rfl) h

theorem hasp_nf (s t : ByteArray) (Q : List SV → Prop) (h : Cl Tryz.prog 194 sP [S s, S t] (fun (rs : List SV) => ∃ b : Bool, (rs = [B b]) ∧ (Q [B b]))) : Ct Tryz.prog 122 {} [S s, S t] Q :=
  fn_of (f := 122) SgT SvT (fun _ => none) Tryz.f122 Tryz.func122 (by kernel_rfl) (by kernel_rfl) h

theorem hasp2_nf (s t : ByteArray) (Q : List SV → Prop) (h : ifB (ige (slen s) (slen t)) ((((0 : Int) ≤ 0) ∧ (((0 : Int) ≤ (slen t)) ∧ ((slen t) ≤ (slen s)))) ∧ (Q [B (seq (ssub s 0 (slen t)) t)])) (Q [B false])) : Ct Tryz.prog 194 {} [S s, S t] Q :=
  fn_of (f := 194) SgT SvT (fun _ => none) Tryz.f194 Tryz.func194 (by kernel_rfl) (by kernel_rfl) h

theorem mul_nf (x y : Int) (Q : List SV → Prop) (h : Cl Tryz.prog 193 sP [U64 x, U64 y] (fun (rs : List SV) => ∃ x1 : Int, ∃ x2 : Int, (rs = [U64 x1, U64 x2]) ∧ (Q [U64 x1, U64 x2]))) : Ct Tryz.prog 121 {} [U64 x, U64 y] Q :=
  fn_of (f := 121) SgT SvT (fun _ => none) Tryz.f121 Tryz.func121 (by kernel_rfl) (by kernel_rfl) h

theorem mul64_nf (x y : Int) (Q : List SV → Prop) (h : ((0 : Int) ≤ 32) ∧ (((0 : Int) ≤ 32) ∧ (((0 : Int) ≤ 32) ∧ (((0 : Int) ≤ 32) ∧ (((0 : Int) ≤ 32) ∧ (Q [U64 (wadd IntKind.u64 (wadd IntKind.u64 (wmul IntKind.u64 (wshr IntKind.u64 x 32) (wshr IntKind.u64 y 32)) (wshr IntKind.u64 (wadd IntKind.u64 (wmul IntKind.u64 (wshr IntKind.u64 x 32) (wand IntKind.u64 y 4294967295)) (wshr IntKind.u64 (wmul IntKind.u64 (wand IntKind.u64 x 4294967295) (wand IntKind.u64 y 4294967295)) 32)) 32)) (wshr IntKind.u64 (wadd IntKind.u64 (wand IntKind.u64 (wadd IntKind.u64 (wmul IntKind.u64 (wshr IntKind.u64 x 32) (wand IntKind.u64 y 4294967295)) (wshr IntKind.u64 (wmul IntKind.u64 (wand IntKind.u64 x 4294967295) (wand IntKind.u64 y 4294967295)) 32)) 4294967295) (wmul IntKind.u64 (wand IntKind.u64 x 4294967295) (wshr IntKind.u64 y 32))) 32)), U64 (wmul IntKind.u64 x y)])))))) : Ct Tryz.prog 193 {} [U64 x, U64 y] Q :=
  fn_of (f := 193) SgT SvT (fun _ => none) Tryz.f193 Tryz.func193 (by kernel_rfl) (by kernel_rfl) h

theorem sname_nf (n : Int) (Q : List SV → Prop) (h : Cl Tryz.prog 50 sP [I n] (fun (rs : List SV) => ∃ b : Bool, (rs = [B b]) ∧ (ifB (bnot b) (Q ([S (ByteArray.mk (Array.mk []))])) (Cl Tryz.prog 59 sP [I n, I 10] (fun (rs1 : List SV) => ∃ s : ByteArray, (rs1 = [S s]) ∧ (Cl Tryz.prog 60 sP ([S (ByteArray.mk (Array.mk [48])), I (wsub IntKind.i64 8 (slen s))]) (fun (rs2 : List SV) => ∃ s1 : ByteArray, (rs2 = [S s1]) ∧ (((lsum (slen (ByteArray.mk (Array.mk [115, 101, 103, 46]))) (slen s1)) ≤ 9223372036854775807) ∧ (((lsum (slen (scat (ByteArray.mk (Array.mk [115, 101, 103, 46])) s1)) (slen s)) ≤ 9223372036854775807) ∧ (Q ([S (scat (scat (ByteArray.mk (Array.mk [115, 101, 103, 46])) s1) s)]))))))))))) : Ct Tryz.prog 21 {} [I n] Q :=
  fn_of (f := 21) SgT SvT (fun _ => none) Tryz.f21 Tryz.func21 (by kernel_rfl) (by kernel_rfl) h

end Go.Proofs.YtbocfphenkidnaaGreatDoor.Seg

namespace Go.Proofs.YtbocfphenkidnaaGreatDoor.Seg
open Go Go.Px Go.Proofs Go.Proofs.YtbocfphenkidnaaGreatDoor.Cod
set_option maxRecDepth 100000
set_option linter.unusedVariables false

def stepI (n : Int) : Int := if wrem n 2 = 1 then wxor .u32 (wshr .u32 n 1) 3988292384 else wshr .u32 n 1
def itr : Nat → Int → Int
  | 0, n => n
  | k + 1, n => stepI (itr k n)
def tbl : List Int := (List.range 256).map fun (k : Nat) => itr 8 (wcv .u32 (k : Int))
def idx (n b : Int) : Int := wxor .u8 (wcv .u8 (wnot .u32 n)) b
def stp (n b : Int) : Int := wnot .u32 (wxor .u32 (aget tbl (idx n b)) (wshr .u32 (wnot .u32 n) 8))
def sumL (l : List Int) (n : Int) : Int := l.foldl stp n
def s4 (n : Int) : List Int := [wcv .u8 (wshr .u32 n 0), wcv .u8 (wshr .u32 n 8), wcv .u8 (wshr .u32 n 16), wcv .u8 (wshr .u32 n 24)]
def sealB (l : List Int) : List Int := l ++ s4 (sumL l 0)

theorem tbl_len : tbl.length = 256 := by simp [tbl]
theorem wrap_u8 (a : Int) : 0 ≤ IntKind.u8.wrap a ∧ IntKind.u8.wrap a < 256 := by
  simp [IntKind.wrap, IntKind.signed, IntKind.bits]; omega
theorem idx_range (n b : Int) : 0 ≤ idx n b ∧ idx n b < 256 := wrap_u8 _
theorem s4_byts (n : Int) : Byts (s4 n) := by
  intro x hx
  simp only [s4, List.mem_cons, List.not_mem_nil, or_false] at hx
  rcases hx with rfl | rfl | rfl | rfl
  all_goals (have := wrap_u8 (wshr .u32 n 0); have := wrap_u8 (wshr .u32 n 8); have := wrap_u8 (wshr .u32 n 16); have := wrap_u8 (wshr .u32 n 24); unfold wcv; omega)
theorem s4_len (n : Int) : (s4 n).length = 4 := rfl
theorem sealB_byts {l : List Int} (h : Byts l) : Byts (sealB l) := h.app (s4_byts _)
theorem sealB_len (l : List Int) : (sealB l).length = l.length + 4 := by simp [sealB, s4_len]

theorem cstep_fn (n : Int) : Ct Tryz.prog 138 {} [U32 n] (fun r => r = [U32 (stepI n)]) := by
  refine cstep_nf _ _ ⟨by omega, fun h => by omega, ifB_intro (fun h => ?_) (fun h => ?_)⟩
  · simp at h; simp [stepI, h]
  · simp at h; simp [stepI, h]

theorem ctable_fn : Ct Tryz.prog 72 {} [] (fun r => r = [.arr .u32 256 tbl]) := by
  refine ctable_nf _ ⟨fun x rs => 0 ≤ x ∧ x ≤ 256 ∧ rs.length = 256 ∧ rs.take x.toNat = tbl.take x.toNat, fun x _ => (256 - x).toNat, ⟨by omega, by omega, by simp [azero], by simp⟩, ?_⟩
  rintro x rs ⟨x0, x1, hl, ht⟩
  refine ifB_intro (fun h => ?_) (fun h => ?_)
  · simp at h
    have w : wadd IntKind.i64 x 1 = x + 1 := wadd_i64 (by omega) (by omega)
    refine ⟨fun y j => 0 ≤ j ∧ j ≤ 8 ∧ y = itr j.toNat (wcv .u32 x), fun _ j => (8 - j).toNat, ⟨by omega, by omega, rfl⟩, ?_⟩
    rintro y j ⟨j0, j1, rfl⟩
    refine ifB_intro (fun hj => ?_) (fun hj => ?_)
    · simp at hj
      have w2 : wadd IntKind.i64 j 1 = j + 1 := wadd_i64 (by omega) (by omega)
      rw [w2]
      refine Cl.of (cstep_fn _) ⟨_, rfl, rfl, ⟨by omega, by omega, ?_⟩, ?_⟩
      · rw [show (j + 1).toNat = j.toNat + 1 by omega]; rfl
      · show Nat.succ (8 - (j + 1)).toNat ≤ (8 - j).toNat; omega
    · simp at hj
      have hj8 : j.toNat = 8 := by omega
      rw [w, hj8]
      refine ⟨⟨x0, h⟩, ⟨x0, h⟩, rfl, ⟨by omega, by omega, by simp [aset, hl], ?_⟩, ?_⟩
      · have hlt : x.toNat < rs.length := by omega
        have hlt2 : x.toNat < tbl.length := by rw [tbl_len]; omega
        rw [show (x + 1).toNat = x.toNat + 1 by omega, List.take_succ_eq_append_getElem hlt2, ← ht, List.take_succ_eq_append_getElem (by simp [aset]; omega)]
        have e1 : (aset rs x (itr 8 (wcv IntKind.u32 x))).take x.toNat = rs.take x.toNat := by
          unfold aset; rw [List.take_set_of_le (Nat.le_refl _)]
        have e2 : (aset rs x (itr 8 (wcv IntKind.u32 x)))[x.toNat]'(by simp [aset]; omega) = tbl[x.toNat] := by
          simp [aset, tbl]
          rw [show (max x 0 : Int) = x by omega]
        rw [e1, e2]
      · show Nat.succ (256 - (x + 1)).toNat ≤ (256 - x).toNat; omega
  · simp at h
    have hx : x.toNat = 256 := by omega
    rw [hx, List.take_of_length_le (by omega), List.take_of_length_le (by rw [tbl_len]; omega)] at ht
    rw [ht]

theorem csum_fn (l : List Int) (n : Int) (hl : l.length ≤ 1000000) : Ct Tryz.prog 136 {} [.arr .u32 256 tbl, U32 n, SL 1 (bR l)] (fun r => r = [U32 (sumL l n)]) := by
  refine csum_nf _ _ _ _ ⟨fun y x => 0 ≤ x ∧ x ≤ l.length ∧ y = sumL (l.take x.toNat) n, fun _ x => (l.length - x).toNat, ⟨by omega, by omega, rfl⟩, ?_⟩
  rintro y x ⟨x0, x1, rfl⟩
  refine ifB_intro (fun h => ?_) (fun h => ?_)
  · simp at h
    have hlt : x.toNat < l.length := by omega
    have w : wadd IntKind.i64 x 1 = x + 1 := wadd_i64 (by omega) (by omega)
    rw [w]
    have hi := idx_range (sumL (l.take x.toNat) n) (byAt l x)
    refine ⟨⟨x0, by simpa using h⟩, _, rget_bR x0 h, ⟨hi.1, hi.2⟩, ⟨hi.1, hi.2⟩, by omega, rfl, ⟨by omega, by omega, ?_⟩, ?_⟩
    · rw [show (x + 1).toNat = x.toNat + 1 by omega, List.take_succ_eq_append_getElem hlt]
      simp only [sumL, List.foldl_append, List.foldl_cons, List.foldl_nil]
      have : byAt l x = l[x.toNat] := by simp [byAt, hlt]
      rw [← this]; rfl
    · show Nat.succ (l.length - (x + 1)).toNat ≤ (l.length - x).toNat; omega
  · simp at h
    rw [List.take_of_length_le (by omega)]

theorem cseal_fn (l : List Int) (hl : l.length ≤ 1000000) : Ct Tryz.prog 71 ⟨[], [.own]⟩ [.arr .u32 256 tbl, SL 1 (bR l)] (fun r => r = [SL 1 (bR (sealB l))]) := by
  refine cseal_nf _ _ _ (Cl.of (csum_fn l 0 hl) ⟨_, rfl, Cl.of (clone_bR (bR l) (by simp; omega)) ⟨_, rfl, ?_⟩⟩)
  refine ⟨fun l' x => 0 ≤ x ∧ x ≤ 4 ∧ l' = bR (l ++ (s4 (sumL l 0)).take x.toNat), fun _ x => (4 - x).toNat, ⟨by omega, by omega, by simp⟩, ?_⟩
  rintro _ x ⟨x0, x1, rfl⟩
  refine ifB_intro (fun h => ?_) (fun h => ?_)
  · simp at h
    have w : wadd IntKind.i64 x 1 = x + 1 := wadd_i64 (by omega) (by omega)
    have w2 : wmul IntKind.i64 8 x = 8 * x := wrap_i64 (by omega) (by omega)
    rw [w, w2]
    refine ⟨by omega, by simp [lsum, rlen]; omega, rfl, ⟨by omega, by omega, ?_⟩, ?_⟩
    · have hx : x = 0 ∨ x = 1 ∨ x = 2 ∨ x = 3 := by omega
      rcases hx with rfl | rfl | rfl | rfl <;> simp [rapp, s4]
    · show Nat.succ (4 - (x + 1)).toNat ≤ (4 - x).toNat; omega
  · simp at h
    rw [List.take_of_length_le (by rw [s4_len]; omega)]; rfl

def openE (l : List Int) : List Int × Int := if l.length < 4 then ([], 10) else if sealB (l.take (l.length - 4)) = l then (l.take (l.length - 4), 0) else ([], 12)

theorem copen_fn (l : List Int) (hb : Byts l) (hl : l.length ≤ 1000000) : Ct Tryz.prog 76 {} [.arr .u32 256 tbl, SL 1 (bR l)] (fun r => r = [SL 1 (bR (openE l).1), I (openE l).2]) := by
  have hrl : rlen (bR l) = l.length := by simp [rlen]
  refine copen_nf _ _ _ ?_
  rw [hrl]
  have w : wsub IntKind.i64 (l.length : Int) 4 = l.length - 4 := wsub_i64 (by omega) (by omega)
  rw [w]
  refine ifB_intro (fun h => ?_) (fun h => ?_)
  · simp at h
    simp [openE, show l.length < 4 by omega]
  · simp at h
    have ht : ((l.length : Int) - 4).toNat = l.length - 4 := by omega
    refine ⟨⟨by omega, by omega, by omega⟩, ?_⟩
    rw [rsub_bR, ht]
    simp only [Int.toNat_zero, List.drop_zero]
    refine Cl.of (cseal_fn _ (by simp; omega)) ⟨_, rfl, Cl.of (bequal_fn _ _ (sealB_byts (hb.sub fun x hx => List.mem_of_mem_take hx)) hb) ⟨_, rfl, ifB_intro (fun h2 => ?_) (fun h2 => ?_)⟩⟩
    · simp at h2
      simp [openE, show ¬ l.length < 4 by omega, h2]
    · simp at h2
      refine ⟨⟨by omega, by omega, trivial, by omega⟩, ?_⟩
      simp [openE, show ¬ l.length < 4 by omega, h2]

/-- A frame. -/
def fr (k : Int) (p : List Int) : List Int := sealB (0 :: (p.length : Int) :: k :: p)
def putF (k : Int) (p : List Int) : List Int × Int := if ¬ (1 ≤ k ∧ k ≤ 3) then ([], 2) else if 200 < p.length then ([], 9) else (fr k p, 0)

theorem fr_len (k : Int) (p : List Int) : (fr k p).length = p.length + 7 := by simp [fr, sealB_len]

theorem kindly_fn (k : Int) : Ct Tryz.prog 109 {} [I k] (fun r => r = [B (decide (1 ≤ k ∧ k ≤ 3))]) := by
  refine kindly_nf _ _ ?_
  have : bpick (ige k 1) (ile k 3) false = decide (1 ≤ k ∧ k ≤ 3) := by
    rw [Bool.eq_iff_iff, decide_eq_true_eq]; simp
  rw [this]

theorem wcv8 {a : Int} (h0 : 0 ≤ a) (h1 : a < 256) : wcv .u8 a = a := by rw [wcvU8 a h0]; omega

theorem fput_fn (k : Int) (l : List Int) (hb : Byts l) (hl : l.length ≤ 1000000) : Ct Tryz.prog 52 ⟨[], [.own, .pure]⟩ [I k, SL 1 (bR l)] (fun r => r = [SL 1 (bR (putF k l).1), I (putF k l).2]) := by
  have hrl : rlen (bR l) = l.length := by simp [rlen]
  refine fput_nf _ _ _ (Cl.of (kindly_fn k) ⟨_, rfl, ?_⟩)
  rw [hrl]
  refine ifB_intro (fun h => ?_) (fun h => ifB_intro (fun h2 => ?_) (fun h2 => ?_))
  · simp at h
    have : ¬ (1 ≤ k ∧ k ≤ 3) := by omega
    simp [putF, this]
  · simp at h h2
    simp [putF, h, show 200 < l.length by omega]
  · simp at h h2
    have e1 : wcv IntKind.u8 (wshr IntKind.i64 (l.length : Int) 8) = 0 := by
      have : wshr IntKind.i64 (l.length : Int) 8 = 0 := by
        unfold wshr
        have : (2 : Int) ^ (min (8 : Int).toNat IntKind.i64.bits) = 256 := by decide
        rw [this]
        show (l.length : Int).fdiv 256 = 0
        rw [Int.fdiv_eq_ediv_of_nonneg _ (by omega)]
        omega
      rw [this]; rfl
    have e2 : wcv IntKind.u8 (l.length : Int) = l.length := wcv8 (by omega) (by omega)
    have e3 : wcv IntKind.u8 k = k := wcv8 (by omega) (by omega)
    rw [e1, e2, e3]
    refine ⟨by omega, Cl.of ctable_fn ⟨_, rfl, by simp [lsum, rlen]; omega, ?_⟩⟩
    have e4 : rapp [[U8 0], [U8 (l.length : Int)], [U8 k]] (bR l) = bR (0 :: (l.length : Int) :: k :: l) := rfl
    rw [e4]
    refine Cl.of (cseal_fn _ (by simp; omega)) ⟨_, rfl, ?_⟩
    simp [putF, h, show ¬ 200 < l.length by omega, fr]

end Go.Proofs.YtbocfphenkidnaaGreatDoor.Seg

namespace Go.Proofs.YtbocfphenkidnaaGreatDoor.Seg
open Go Go.Px Go.Proofs Go.Proofs.YtbocfphenkidnaaGreatDoor.Cod
set_option maxRecDepth 100000
set_option linter.unusedVariables false

theorem wor8 {x y : Int} (hx : 0 ≤ x ∧ x ≤ 255) (hy : 0 ≤ y ∧ y ≤ 255) : wor .i64 (wshl .i64 (wcv .i64 x) 8) (wcv .i64 y) = 256 * x + y := by
  have e1 : wshl .i64 x 8 = x * 256 := by
    unfold wshl
    have : (2 : Int) ^ (min (8 : Int).toNat IntKind.i64.bits) = 256 := by decide
    rw [this]
    exact wrap_i64 (by omega) (by omega)
  rw [wcvI64 (by omega) (by omega), wcvI64 (by omega) (by omega), e1]
  obtain ⟨m, rfl⟩ : ∃ m : Nat, x = m := ⟨x.toNat, by omega⟩
  obtain ⟨n, rfl⟩ : ∃ n : Nat, y = n := ⟨y.toNat, by omega⟩
  unfold wor
  have b1 : (BitVec.ofInt IntKind.i64.bits ((m : Int) * 256)).toNat = m * 256 := by
    have : ((m : Int) * 256) = ((m * 256 : Nat) : Int) := by omega
    rw [this, BitVec.ofInt_natCast, BitVec.toNat_ofNat]
    exact Nat.mod_eq_of_lt (by show m * 256 < 18446744073709551616; omega)
  have b2 : (BitVec.ofInt IntKind.i64.bits (n : Int)).toNat = n := by
    rw [BitVec.ofInt_natCast, BitVec.toNat_ofNat]
    exact Nat.mod_eq_of_lt (by show n < 18446744073709551616; omega)
  rw [BitVec.toNat_or, b1, b2]
  have : m * 256 ||| n = m * 256 + n := by
    have := Nat.shiftLeft_add_eq_or_of_lt (show n < 2 ^ 8 by omega) m
    rw [Nat.shiftLeft_eq] at this
    exact this.symm
  rw [this]
  have : ((m * 256 + n : Nat) : Int) = 256 * (m : Int) + n := by omega
  rw [this]
  exact wrap_i64 (by omega) (by omega)

/-- What stands at a place. -/
def nextR (r : List Int) : Int × Int × List Int × Int :=
  if r = [] then (1, 0, [], 0) else if r.length < 7 then (2, 0, [], 0)
  else if 200 < 256 * byAt r 0 + byAt r 1 then (3, 0, [], 0)
  else if (r.length : Int) < 256 * byAt r 0 + byAt r 1 + 7 then (2, 0, [], 0)
  else if ¬ (1 ≤ byAt r 2 ∧ byAt r 2 ≤ 3) then (3, 0, [], 0)
  else if sealB (r.take ((256 * byAt r 0 + byAt r 1).toNat + 3)) = r.take ((256 * byAt r 0 + byAt r 1).toNat + 7) then
    (0, byAt r 2, (r.take ((256 * byAt r 0 + byAt r 1).toNat + 3)).drop 3, 256 * byAt r 0 + byAt r 1 + 7) else (3, 0, [], 0)
def nextF (l : List Int) (a : Int) : Int × Int × List Int × Int := if a < 0 ∨ (l.length : Int) < a then (3, 0, [], 0) else nextR (l.drop a.toNat)

theorem byAt_range {r : List Int} (hb : Byts r) {i : Int} (h0 : 0 ≤ i) (h1 : i < r.length) : 0 ≤ byAt r i ∧ byAt r i ≤ 255 := by
  have : i.toNat < r.length := by omega
  have h2 : byAt r i = r[i.toNat] := by simp [byAt, this]
  rw [h2]; exact hb _ (List.getElem_mem _)

abbrev nxS (p : Int × Int × List Int × Int) : List SV := [I p.1, I p.2.1, SL 1 (bR p.2.2.1), I p.2.2.2]

theorem fnext_fn (l : List Int) (a : Int) (hb : Byts l) (hl : l.length ≤ 1000000) : Ct Tryz.prog 61 {} [SL 1 (bR l), I a] (fun r => r = nxS (nextF l a)) := by
  have hrl : rlen (bR l) = l.length := by simp [rlen]
  refine fnext_nf _ _ _ ?_
  rw [hrl]
  refine ifB_intro (fun h => ?_) (fun h => ?_)
  · simp at h
    simp [nextF, h]
  simp at h
  have hn : ¬ (a < 0 ∨ (l.length : Int) < a) := by omega
  have hdr : rsub (bR l) a (l.length : Int) = bR (l.drop a.toNat) := by rw [rsub_bR]; simp
  have hbr : Byts (l.drop a.toNat) := hb.sub fun x hx => List.mem_of_mem_drop hx
  have hlr : (l.drop a.toNat).length ≤ 1000000 := by simp; omega
  refine ⟨⟨h.1, h.2, by omega⟩, ?_⟩
  rw [hdr, show nextF l a = nextR (l.drop a.toNat) by unfold nextF; rw [if_neg hn]]
  generalize l.drop a.toNat = r at *
  have hrr : rlen (bR r) = r.length := by simp [rlen]
  rw [hrr]
  refine ifB_intro (fun h2 => ?_) (fun h2 => ifB_intro (fun h3 => ?_) (fun h3 => ?_))
  · simp at h2
    simp [nextR, h2]
  · simp at h2 h3
    simp [nextR, h2, show r.length < 7 by omega]
  simp at h2 h3
  have h7 : ¬ r.length < 7 := by omega
  have r0 := byAt_range hbr (i := 0) (by omega) (by omega)
  have r1 := byAt_range hbr (i := 1) (by omega) (by omega)
  have r2 := byAt_range hbr (i := 2) (by omega) (by omega)
  refine ⟨⟨by omega, by omega⟩, _, rget_bR (by omega) (by omega), by omega, ⟨by omega, by omega⟩, _, rget_bR (by omega) (by omega), ?_⟩
  rw [wor8 r0 r1]
  have hstart : nextR r = if 200 < 256 * byAt r 0 + byAt r 1 then (3, 0, [], 0)
      else if (r.length : Int) < 256 * byAt r 0 + byAt r 1 + 7 then (2, 0, [], 0)
      else if ¬ (1 ≤ byAt r 2 ∧ byAt r 2 ≤ 3) then (3, 0, [], 0)
      else if sealB (r.take ((256 * byAt r 0 + byAt r 1).toNat + 3)) = r.take ((256 * byAt r 0 + byAt r 1).toNat + 7) then
        (0, byAt r 2, (r.take ((256 * byAt r 0 + byAt r 1).toNat + 3)).drop 3, 256 * byAt r 0 + byAt r 1 + 7) else (3, 0, [], 0) := by
    conv => lhs; unfold nextR
    rw [if_neg h2, if_neg h7]
  have hn0 : 0 ≤ 256 * byAt r 0 + byAt r 1 := by omega
  rw [hstart]
  generalize 256 * byAt r 0 + byAt r 1 = n at *
  refine ifB_intro (fun h4 => ?_) (fun h4 => ?_)
  · simp at h4
    simp [h4]
  simp at h4
  have w : wadd IntKind.i64 n 7 = n + 7 := wadd_i64 (by omega) (by omega)
  rw [w]
  refine ifB_intro (fun h5 => ?_) (fun h5 => ?_)
  · simp at h5
    simp [h5, show ¬ 200 < n by omega]
  simp at h5
  have hk : wcv IntKind.i64 (byAt r 2) = byAt r 2 := wcvI64 (by omega) (by omega)
  refine ⟨⟨by omega, by omega⟩, _, rget_bR (by omega) (by omega), ?_⟩
  rw [hk]
  refine Cl.of (kindly_fn _) ⟨_, rfl, ifB_intro (fun h6 => ?_) (fun h6 => ?_)⟩
  · simp at h6
    have : ¬ (1 ≤ byAt r 2 ∧ byAt r 2 ≤ 3) := by omega
    rw [if_neg (by omega), if_neg (by omega), if_pos this]
    rfl
  simp at h6
  have hst2 : (if 200 < n then ((3, 0, [], 0) : Int × Int × List Int × Int)
      else if (r.length : Int) < n + 7 then (2, 0, [], 0)
      else if ¬ (1 ≤ byAt r 2 ∧ byAt r 2 ≤ 3) then (3, 0, [], 0)
      else if sealB (r.take (n.toNat + 3)) = r.take (n.toNat + 7) then
        (0, byAt r 2, (r.take (n.toNat + 3)).drop 3, n + 7) else (3, 0, [], 0)) = if sealB (r.take (n.toNat + 3)) = r.take (n.toNat + 7) then
        (0, byAt r 2, (r.take (n.toNat + 3)).drop 3, n + 7) else (3, 0, [], 0) := by
    rw [if_neg (by omega), if_neg (by omega), if_neg (by simp; exact h6)]
  rw [hst2]
  have hn7 : (n + 7).toNat = n.toNat + 7 := by omega
  have hrs : rsub (bR r) 0 (n + 7) = bR (r.take (n.toNat + 7)) := by rw [rsub_bR, hn7]; simp
  have hlt : (r.take (n.toNat + 7)).length = n.toNat + 7 := by simp; omega
  refine ⟨⟨by omega, by omega, by omega⟩, Cl.of ctable_fn ⟨_, rfl, ?_⟩⟩
  rw [hrs]
  refine Cl.of (copen_fn _ (hbr.sub fun x hx => List.mem_of_mem_take hx) (by omega)) ⟨_, _, rfl, ?_⟩
  have htt : (r.take (n.toNat + 7)).take ((r.take (n.toNat + 7)).length - 4) = r.take (n.toNat + 3) := by
    rw [hlt, List.take_take]; congr 1; omega
  have ho : openE (r.take (n.toNat + 7)) = if sealB (r.take (n.toNat + 3)) = r.take (n.toNat + 7) then (r.take (n.toNat + 3), 0) else ([], 12) := by
    unfold openE
    rw [if_neg (by omega), htt]
  rw [ho]
  by_cases he : sealB (r.take (n.toNat + 3)) = r.take (n.toNat + 7)
  · rw [if_pos he, if_pos he]
    have hl3 : (r.take (n.toNat + 3)).length = n.toNat + 3 := by simp; omega
    have hrl3 : rlen (bR (r.take (n.toNat + 3))) = ((n.toNat + 3 : Nat) : Int) := by simp [rlen]; omega
    refine ifB_intro (fun h => by simp at h) (fun _ => ?_)
    rw [hrl3]
    refine ⟨⟨by omega, by omega, by omega⟩, ?_⟩
    rw [rsub_bR]
    have : ((r.take (n.toNat + 3)).take ((n.toNat + 3 : Nat) : Int).toNat).drop (3 : Int).toNat = (r.take (n.toNat + 3)).drop 3 := by
      rw [Int.toNat_natCast, List.take_of_length_le (by omega)]; rfl
    rw [this]
  · rw [if_neg he, if_neg he]
    exact ifB_intro (fun _ => rfl) (fun h => by simp at h)

theorem numb_fn (n : Int) : Ct Tryz.prog 50 {} [I n] (fun r => r = [B (decide (1 ≤ n ∧ n ≤ 99999999))]) := by
  refine snumb_nf _ _ ?_
  have : bpick (ige n 1) (ile n 99999999) false = decide (1 ≤ n ∧ n ≤ 99999999) := by
    rw [Bool.eq_iff_iff, decide_eq_true_eq]; simp
  rw [this]

theorem sput_fn (l : List Int) (n s a : Int) (ns : List (List SV)) (hn : 0 ≤ n ∧ n ≤ 9223372036854775807) (hs : 0 ≤ s ∧ s ≤ 9223372036854775807) (ha : 0 ≤ a ∧ a ≤ 9223372036854775807) (hl : l.length ≤ 90000) :
    Ct Tryz.prog 53 ⟨[], [.own]⟩ [SL 1 (bR l), I n, Seg.cx3 s a ns] (fun r => r = [SL 1 (bR (l ++ (leb n.toNat ++ (leb s.toNat ++ leb a.toNat))))]) := by
  refine sput_nf _ _ _ _ _ _ ?_
  have h1 : (leb n.toNat).length ≤ 10 := leb_small (by omega)
  have h2 : (leb s.toNat).length ≤ 10 := leb_small (by omega)
  rw [wcvU64 hn.1 (by omega), wcvU64 hs.1 (by omega), wcvU64 ha.1 (by omega)]
  refine Cl.of (putUint_fn l n hn.1 (by omega) (by omega)) ⟨_, rfl, Cl.of (putUint_fn _ s hs.1 (by omega) (by simp; omega)) ⟨_, rfl, Cl.of (putUint_fn _ a ha.1 (by omega) (by simp; omega)) ⟨_, rfl, ?_⟩⟩⟩
  simp

/-- The payload of a head. -/
def hdP (n s a : Int) : List Int := [102, 98, 120, 49] ++ (leb n.toNat ++ (leb s.toNat ++ leb a.toNat))
def slP (n s a : Int) : List Int := leb n.toNat ++ (leb s.toNat ++ leb a.toNat)
def ctxOK (s a : Int) : Prop := 0 ≤ s ∧ s ≤ 4294967296 ∧ 0 ≤ a ∧ a ≤ 1099511627776
instance (s a : Int) : Decidable (ctxOK s a) := inferInstanceAs (Decidable (_ ∧ _))
def headE (n s a : Int) (l : List ByteArray) : List Int × Int := if ¬ (1 ≤ n ∧ n ≤ 99999999) then ([], 1) else if ¬ (ctxOK s a ∧ l = []) then ([], 1) else (fr 1 (hdP n s a), 0)

theorem hdP_len {n s a : Int} (hn : n ≤ 99999999) (hs : s ≤ 4294967296) (ha : a ≤ 1099511627776) : (hdP n s a).length ≤ 34 := by
  have h1 : (leb n.toNat).length ≤ 10 := leb_small (by omega)
  have h2 : (leb s.toNat).length ≤ 10 := leb_small (by omega)
  have h3 : (leb a.toNat).length ≤ 10 := leb_small (by omega)
  simp [hdP]; omega

theorem byts_hdP (n s a : Int) : Byts (hdP n s a) := Byts.app (fun x hx => by simp at hx; omega) ((byts_leb _).app ((byts_leb _).app (byts_leb _)))

theorem shead_fn (n s a : Int) (l : List ByteArray) (hl : l.length ≤ 9223372036854775807) : Ct Tryz.prog 12 ⟨[], [.own, .pure]⟩ [I n, Seg.cx3 s a (nR l)] (fun r => r = [SL 1 (bR (headE n s a l).1), I (headE n s a l).2]) := by
  refine shead_nf _ _ _ _ _ (Cl.of (numb_fn n) ⟨_, rfl, ifB_intro (fun h => ?_) (fun h => ?_)⟩)
  · simp at h
    have : ¬ (1 ≤ n ∧ n ≤ 99999999) := by omega
    simp only [headE, if_pos this]; rfl
  simp at h
  refine Cl.of (cright_fn s a l) ⟨_, rfl, ifB_intro (fun h2 => ?_) (fun h2 => ?_)⟩
  · have hneg : ¬ (ctxOK s a ∧ l = []) := by
      rintro ⟨h3, rfl⟩
      have : ctxB s a [] = true := ctxB_iff.2 ⟨h3, by rfl⟩
      simp [this, rlen] at h2
    rw [headE, if_neg (by simp; exact h), if_pos hneg]; rfl
  · simp [rlen] at h2
    have h3 := (ctxB_iff.1 h2.1).1
    have hl0 : l = [] := h2.2
    subst hl0
    rw [headE, if_neg (by simp; exact h), if_neg (by simp; exact h3)]
    refine ⟨by decide, Cl.of (sput_fn [102, 98, 120, 49] n s a _ (by omega) (by omega) (by omega) (by decide)) ⟨_, rfl, ?_⟩⟩
    have hlen := hdP_len (n := n) (s := s) (a := a) (by omega) (by omega) (by omega)
    refine Cl.of (fput_fn 1 (hdP n s a) (byts_hdP _ _ _) (by omega)) ⟨_, _, rfl, ?_⟩
    simp [putF, show ¬ 200 < (hdP n s a).length by omega]

end Go.Proofs.YtbocfphenkidnaaGreatDoor.Seg

namespace Go.Proofs.YtbocfphenkidnaaGreatDoor.Seg
open Go Go.Px Go.Proofs Go.Proofs.YtbocfphenkidnaaGreatDoor.Cod
set_option maxRecDepth 100000
set_option linter.unusedVariables false

theorem smake_nf (num : Int) (cs ca : Int) (ns : List (List SV)) (rows : List (List SV)) (sealed : Bool) (Q : List SV → Prop) (h : Cl Tryz.prog 12 (Sig.mk [] [Md.own, Md.pure]) ([I num, SV.agg [I cs, I ca, SL 1 ns]]) (fun (rs : List SV) => ∃ l : List (List SV), ∃ x : Int, (rs = [SL 1 l, I x]) ∧ (ifB (ine x 0) (Q ([SL 1 [], I x])) (∃ Inv : (List (List SV)) → Int → Int → Int → (List (List SV)) → Prop, ∃ m : (List (List SV)) → Int → Int → Int → (List (List SV)) → Nat, (Inv l 0 cs ca ns) ∧ (∀ l1 : List (List SV), ∀ x1 : Int, ∀ x2 : Int, ∀ x3 : Int, ∀ l2 : List (List SV), (Inv l1 x1 x2 x3 l2) → ifB (ilt x1 (rlen rows)) ((((0 : Int) ≤ x1) ∧ (x1 < (rlen rows))) ∧ (∃ x4 : Int, ∃ x5 : Int, ∃ x6 : Int, ∃ s : ByteArray, ∃ x7 : Int, ∃ x8 : Int, ∃ x9 : Int, (rget rows x1 = [I x4, I x5, I x6, S s, I x7, I x8, I x9]) ∧ (Cl Tryz.prog 16 sP ([SV.agg [I x2, I x3, SL 1 l2], SV.agg [I x4, I x5, I x6, S s, I x7, I x8, I x9]]) (fun (rs1 : List SV) => ∃ l3 : List (List SV), ∃ x10 : Int, ∃ x11 : Int, ∃ l4 : List (List SV), ∃ x12 : Int, (rs1 = [SL 1 l3, SV.agg [I x10, I x11, SL 1 l4], I x12]) ∧ (ifB (ine x12 0) (Q ([SL 1 [], I x12])) (((lsum (rlen l1) (rlen l3)) ≤ ((2147483648 : Int))) ∧ ((Option.some ([[I cs, I ca, SL 1 ns]]) = Option.some ([[I cs, I ca, SL 1 ns]])) ∧ ((Inv (rapp l1 l3) (wadd IntKind.i64 x1 1) x10 x11 l4) ∧ (Nat.le (Nat.succ (m (rapp l1 l3) (wadd IntKind.i64 x1 1) x10 x11 l4)) (m l1 x1 x2 x3 l2)))))))))) (ifB sealed (Cl Tryz.prog 14 sP ([I (rlen rows), SV.agg [I x2, I x3, SL 1 l2]]) (fun (rs1 : List SV) => ∃ l3 : List (List SV), ∃ x4 : Int, (rs1 = [SL 1 l3, I x4]) ∧ (ifB (ine x4 0) (Q ([SL 1 [], I x4])) (((lsum (rlen l1) (rlen l3)) ≤ ((2147483648 : Int))) ∧ (Q [SL 1 (rapp l1 l3), I 0]))))) (Q [SL 1 l1, I 0]))))))) : Ct Tryz.prog 19 {} [I num, cx3 cs ca ns, SL 7 rows, B sealed] Q :=
  fn_of (f := 19) SgT SvT (fun k => bif Nat.beq k 33 then some { slots := [(10,false,[.own 1]),(32,false,[.int .i64])], boxes := [(1536,[.int .i64,.int .i64,.sl 1])], fixed := [640] } else none) Tryz.f19 Tryz.func19 (by kernel_rfl) (by kernel_rfl) h

theorem shead1_nf (num bs ba : Int) (bn ev : List (List SV)) (as_ aa : Int) (an : List (List SV)) (st sz : Int) (sealed : Bool) (rows : List (List SV)) (Q : List SV → Prop) (h : (0 < (rlen ([[U8 102], [U8 98], [U8 120], [U8 49]]))) ∧ (Cl Tryz.prog 77 sP ([SL 1 rows, SL 1 ([[U8 102], [U8 98], [U8 120], [U8 49]])]) (fun (rs : List SV) => ∃ l : List (List SV), ∃ b : Bool, (rs = [SL 1 l, B b]) ∧ (ifB (bnot b) (Q ([B false, SV.agg [I num, I bs, I ba, SL 1 bn, SL 7 ev, I as_, I aa, SL 1 an, I st, I sz, B sealed]])) (Cl Tryz.prog 146 sP [SL 1 l] (fun (rs1 : List SV) => ∃ l1 : List (List SV), ∃ x : Int, ∃ x1 : Int, (rs1 = [SV.agg [SL 1 l1, I x, I x1]]) ∧ (Cl Tryz.prog 197 sP ([SV.agg [SL 1 l1, I x, I x1]]) (fun (rs2 : List SV) => ∃ l2 : List (List SV), ∃ x2 : Int, ∃ x3 : Int, ∃ x4 : Int, (rs2 = [SV.agg [SL 1 l2, I x2, I x3], U64 x4]) ∧ (Cl Tryz.prog 197 sP ([SV.agg [SL 1 l2, I x2, I x3]]) (fun (rs3 : List SV) => ∃ l3 : List (List SV), ∃ x5 : Int, ∃ x6 : Int, ∃ x7 : Int, (rs3 = [SV.agg [SL 1 l3, I x5, I x6], U64 x7]) ∧ (Cl Tryz.prog 197 sP ([SV.agg [SL 1 l3, I x5, I x6]]) (fun (rs4 : List SV) => ∃ l4 : List (List SV), ∃ x8 : Int, ∃ x9 : Int, ∃ x10 : Int, (rs4 = [SV.agg [SL 1 l4, I x8, I x9], U64 x10]) ∧ (ifB (ine x9 0) (Q ([B false, SV.agg [I num, I bs, I ba, SL 1 bn, SL 7 ev, I as_, I aa, SL 1 an, I st, I sz, B sealed]])) (Cl Tryz.prog 149 sP ([SV.agg [SL 1 l4, I x8, I x9]]) (fun (rs5 : List SV) => ∃ x11 : Int, (rs5 = [I x11]) ∧ (ifB (igt x11 0) (Q ([B false, SV.agg [I num, I bs, I ba, SL 1 bn, SL 7 ev, I as_, I aa, SL 1 an, I st, I sz, B sealed]])) (Cl Tryz.prog 50 sP [I (wcv IntKind.i64 x4)] (fun (rs6 : List SV) => ∃ b1 : Bool, (rs6 = [B b1]) ∧ (ifB (bnot b1) (Q ([B false, SV.agg [I num, I bs, I ba, SL 1 bn, SL 7 ev, I as_, I aa, SL 1 an, I st, I sz, B sealed]])) (Cl Tryz.prog 51 sP ([SV.agg ([I (wcv IntKind.i64 x7), I (wcv IntKind.i64 x10), SL 1 []])]) (fun (rs7 : List SV) => ∃ b2 : Bool, (rs7 = [B b2]) ∧ (ifB (bnot b2) (Q ([B false, SV.agg [I num, I bs, I ba, SL 1 bn, SL 7 ev, I as_, I aa, SL 1 an, I st, I sz, B sealed]])) (∃ Inv : Int → Int → Int → (List (List SV)) → (List (List SV)) → Int → Int → (List (List SV)) → Int → Int → Bool → Prop, ∃ m : Int → Int → Int → (List (List SV)) → (List (List SV)) → Int → Int → (List (List SV)) → Int → Int → Bool → Nat, ((Option.some ([[SL 1 l4, I x8, I x9], [I (wcv IntKind.i64 x7), I (wcv IntKind.i64 x10), SV.slice 1 [] 1]]) = Option.some ([[SL 1 l4, I x8, I x9], [I (wcv IntKind.i64 x7), I (wcv IntKind.i64 x10), SV.slice 1 [] 1]])) ∧ (Inv (wcv IntKind.i64 x4) (wcv IntKind.i64 x7) (wcv IntKind.i64 x10) [] ev (wcv IntKind.i64 x7) (wcv IntKind.i64 x10) [] st sz sealed)) ∧ (∀ x12 : Int, ∀ x13 : Int, ∀ x14 : Int, ∀ l5 : List (List SV), ∀ l6 : List (List SV), ∀ x15 : Int, ∀ x16 : Int, ∀ l7 : List (List SV), ∀ x17 : Int, ∀ x18 : Int, ∀ b3 : Bool, (Inv x12 x13 x14 l5 l6 x15 x16 l7 x17 x18 b3) → Q ([B true, SV.agg [I x12, I x13, I x14, SL 1 l5, SL 7 l6, I x15, I x16, SL 1 l7, I x17, I x18, B b3]]))))))))))))))))))))))))) : Ct Tryz.prog 127 ⟨[.lend [false,false,false,false,true,false,false,false,false,false,false]], []⟩ [sc11 num bs ba bn ev as_ aa an st sz sealed, SL 1 rows] Q :=
  fn_of (f := 127) SgT SvT (fun k => bif Nat.beq k 1000010 then some { boxes := [(1048576,[.int .i64,.int .i64,.int .i64,.sl 1,.own 7,.int .i64,.int .i64,.sl 1,.int .i64,.int .i64,.bool])], fixed := [896, 1408] } else none) Tryz.f127 Tryz.func127 (by kernel_rfl) (by kernel_rfl) h

theorem srec_nf (num bs ba : Int) (bn ev : List (List SV)) (as_ aa : Int) (an : List (List SV)) (st sz : Int) (sealed : Bool) (rows : List (List SV)) (Q : List SV → Prop) (h : Cl Tryz.prog 198 sP ([SV.agg [I as_, I aa, SL 1 an], SL 1 rows]) (fun (rs : List SV) => ∃ x : Int, ∃ x1 : Int, ∃ x2 : Int, ∃ s : ByteArray, ∃ x3 : Int, ∃ x4 : Int, ∃ x5 : Int, ∃ x6 : Int, ∃ x7 : Int, ∃ l : List (List SV), ∃ x8 : Int, (rs = [SV.agg [I x, I x1, I x2, S s, I x3, I x4, I x5], SV.agg [I x6, I x7, SL 1 l], I x8]) ∧ (ifB (ine x8 0) (Q ([B false, SV.agg [I num, I bs, I ba, SL 1 bn, SL 7 ev, I as_, I aa, SL 1 an, I st, I sz, B sealed]])) (((lsum (rlen ev) (rlen ([[I x, I x1, I x2, S s, I x3, I x4, I x5]]))) ≤ ((2147483648 : Int))) ∧ (Q ([B true, SV.agg ([I num, I bs, I ba, SL 1 bn, SL 7 (rapp ev ([[I x, I x1, I x2, S s, I x3, I x4, I x5]])), I x6, I x7, SL 1 l, I st, I sz, B sealed])])))))) : Ct Tryz.prog 128 ⟨[.lend [false,false,false,false,true,false,false,false,false,false,false]], []⟩ [sc11 num bs ba bn ev as_ aa an st sz sealed, SL 1 rows] Q :=
  fn_of (f := 128) SgT SvT (fun _ => none) Tryz.f128 Tryz.func128 (by kernel_rfl) (by kernel_rfl) h

theorem stake_nf (num bs ba : Int) (bn ev : List (List SV)) (as_ aa : Int) (an : List (List SV)) (st sz : Int) (sealed : Bool) (kind : Int) (rows : List (List SV)) (Q : List SV → Prop) (h : ifB sealed (Q ([B false, SV.agg [I num, I bs, I ba, SL 1 bn, SL 7 ev, I as_, I aa, SL 1 an, I st, I sz, B sealed]])) (ifB (ieq num 0) (ifB (ieq kind 1) (Cl Tryz.prog 127 (Sig.mk ([Md.lend [false, false, false, false, true, false, false, false, false, false, false]]) []) ([SV.agg [I num, I bs, I ba, SL 1 bn, SL 7 ev, I as_, I aa, SL 1 an, I st, I sz, B sealed], SL 1 rows]) (fun (rs : List SV) => ∃ b : Bool, ∃ x : Int, ∃ x1 : Int, ∃ x2 : Int, ∃ l : List (List SV), ∃ l1 : List (List SV), ∃ x3 : Int, ∃ x4 : Int, ∃ l2 : List (List SV), ∃ x5 : Int, ∃ x6 : Int, ∃ b1 : Bool, (rs = [B b, SV.agg [I x, I x1, I x2, SL 1 l, SL 7 l1, I x3, I x4, SL 1 l2, I x5, I x6, B b1]]) ∧ (Q ([B b, SV.agg [I x, I x1, I x2, SL 1 l, SL 7 l1, I x3, I x4, SL 1 l2, I x5, I x6, B b1]])))) (Q ([B false, SV.agg [I num, I bs, I ba, SL 1 bn, SL 7 ev, I as_, I aa, SL 1 an, I st, I sz, B sealed]]))) (ifB (ieq kind 2) (Cl Tryz.prog 128 (Sig.mk ([Md.lend [false, false, false, false, true, false, false, false, false, false, false]]) []) ([SV.agg [I num, I bs, I ba, SL 1 bn, SL 7 ev, I as_, I aa, SL 1 an, I st, I sz, B sealed], SL 1 rows]) (fun (rs : List SV) => ∃ b : Bool, ∃ x : Int, ∃ x1 : Int, ∃ x2 : Int, ∃ l : List (List SV), ∃ l1 : List (List SV), ∃ x3 : Int, ∃ x4 : Int, ∃ l2 : List (List SV), ∃ x5 : Int, ∃ x6 : Int, ∃ b1 : Bool, (rs = [B b, SV.agg [I x, I x1, I x2, SL 1 l, SL 7 l1, I x3, I x4, SL 1 l2, I x5, I x6, B b1]]) ∧ (Q ([B b, SV.agg [I x, I x1, I x2, SL 1 l, SL 7 l1, I x3, I x4, SL 1 l2, I x5, I x6, B b1]])))) (ifB (ieq kind 3) (∃ Inv : Int → Int → Int → (List (List SV)) → (List (List SV)) → Int → Int → (List (List SV)) → Int → Int → Bool → Prop, ∃ m : Int → Int → Int → (List (List SV)) → (List (List SV)) → Int → Int → (List (List SV)) → Int → Int → Bool → Nat, (Cl Tryz.prog 53 sO ([SL 1 [], I (rlen ev), SV.agg [I as_, I aa, SL 1 an]]) (fun (rs : List SV) => ∃ l : List (List SV), (rs = [SL 1 l]) ∧ (Cl Tryz.prog 129 sP [SL 1 rows, SL 1 l] (fun (rs1 : List SV) => ∃ b : Bool, (rs1 = [B b]) ∧ (((Option.some [] : Option (List (List SV))) = Option.some []) ∧ (Inv num bs ba bn ev as_ aa an st sz b)))))) ∧ (∀ x : Int, ∀ x1 : Int, ∀ x2 : Int, ∀ l : List (List SV), ∀ l1 : List (List SV), ∀ x3 : Int, ∀ x4 : Int, ∀ l2 : List (List SV), ∀ x5 : Int, ∀ x6 : Int, ∀ b : Bool, (Inv x x1 x2 l l1 x3 x4 l2 x5 x6 b) → Q ([B b, SV.agg [I x, I x1, I x2, SL 1 l, SL 7 l1, I x3, I x4, SL 1 l2, I x5, I x6, B b]]))) (Q ([B false, SV.agg [I num, I bs, I ba, SL 1 bn, SL 7 ev, I as_, I aa, SL 1 an, I st, I sz, B sealed]])))))) : Ct Tryz.prog 62 ⟨[.lend [false,false,false,false,true,false,false,false,false,false,false]], []⟩ [sc11 num bs ba bn ev as_ aa an st sz sealed, I kind, SL 1 rows] Q :=
  fn_of (f := 62) SgT SvT (fun k => bif Nat.beq k 1000008 then some { boxes := [(1048576,[.int .i64,.int .i64,.int .i64,.sl 1,.own 7,.int .i64,.int .i64,.sl 1,.int .i64,.int .i64,.bool])], fixed := [] } else none) Tryz.f62 Tryz.func62 (by kernel_rfl) (by kernel_rfl) h

theorem sends_nf (num bs ba : Int) (bn ev : List (List SV)) (as_ aa : Int) (an : List (List SV)) (st sz : Int) (sealed : Bool) (what : Int) (Q : List SV → Prop) (h : ifB (bpick (ieq what 1) sealed false) (Q ([I 4, SV.agg [I num, I bs, I ba, SL 1 bn, SL 7 ev, I as_, I aa, SL 1 an, I st, I sz, B sealed]])) (ifB (ieq what 1) (Q ([I 1, SV.agg [I num, I bs, I ba, SL 1 bn, SL 7 ev, I as_, I aa, SL 1 an, I st, I sz, B sealed]])) (ifB (bpick (ieq what 2) (bnot sealed) false) (Q ([I 2, SV.agg [I num, I bs, I ba, SL 1 bn, SL 7 ev, I as_, I aa, SL 1 an, I st, I sz, B sealed]])) (Q ([I 3, SV.agg [I num, I bs, I ba, SL 1 bn, SL 7 ev, I as_, I aa, SL 1 an, I st, I sz, B sealed]]))))) : Ct Tryz.prog 63 ⟨[.lend [false,false,false,false,true,false,false,false,false,false,false]], []⟩ [sc11 num bs ba bn ev as_ aa an st sz sealed, I what] Q :=
  fn_of (f := 63) SgT SvT (fun _ => none) Tryz.f63 Tryz.func63 (by kernel_rfl) (by kernel_rfl) h

theorem sread_nf (rows : List (List SV)) (Q : List SV → Prop) (h : ∃ Inv : Int → Int → Int → (List (List SV)) → (List (List SV)) → Int → Int → (List (List SV)) → Int → Int → Bool → Prop, ∃ m : Int → Int → Int → (List (List SV)) → (List (List SV)) → Int → Int → (List (List SV)) → Int → Int → Bool → Nat, (Inv ((0 : Int)) ((0 : Int)) ((0 : Int)) [] [] ((0 : Int)) ((0 : Int)) [] ((0 : Int)) ((0 : Int)) false) ∧ (∀ x : Int, ∀ x1 : Int, ∀ x2 : Int, ∀ l : List (List SV), ∀ l1 : List (List SV), ∀ x3 : Int, ∀ x4 : Int, ∀ l2 : List (List SV), ∀ x5 : Int, ∀ x6 : Int, ∀ b : Bool, (Inv x x1 x2 l l1 x3 x4 l2 x5 x6 b) → Cl Tryz.prog 61 sP [SL 1 rows, I x6] (fun (rs : List SV) => ∃ x7 : Int, ∃ x8 : Int, ∃ l3 : List (List SV), ∃ x9 : Int, (rs = [I x7, I x8, SL 1 l3, I x9]) ∧ (ifB (ine x7 0) (Cl Tryz.prog 63 (Sig.mk ([Md.lend [false, false, false, false, true, false, false, false, false, false, false]]) []) ([SV.agg [I x, I x1, I x2, SL 1 l, SL 7 l1, I x3, I x4, SL 1 l2, I x5, I x6, B b], I x7]) (fun (rs1 : List SV) => ∃ x10 : Int, ∃ x11 : Int, ∃ x12 : Int, ∃ x13 : Int, ∃ l4 : List (List SV), ∃ l5 : List (List SV), ∃ x14 : Int, ∃ x15 : Int, ∃ l6 : List (List SV), ∃ x16 : Int, ∃ x17 : Int, ∃ b1 : Bool, (rs1 = [I x10, SV.agg [I x11, I x12, I x13, SL 1 l4, SL 7 l5, I x14, I x15, SL 1 l6, I x16, I x17, B b1]]) ∧ (Q ([SV.agg [I x11, I x12, I x13, SL 1 l4, SL 7 l5, I x14, I x15, SL 1 l6, I x10, I x17]])))) (Cl Tryz.prog 62 (Sig.mk ([Md.lend [false, false, false, false, true, false, false, false, false, false, false]]) []) ([SV.agg [I x, I x1, I x2, SL 1 l, SL 7 l1, I x3, I x4, SL 1 l2, I x5, I x6, B b], I x8, SL 1 l3]) (fun (rs1 : List SV) => ∃ b1 : Bool, ∃ x10 : Int, ∃ x11 : Int, ∃ x12 : Int, ∃ l4 : List (List SV), ∃ l5 : List (List SV), ∃ x13 : Int, ∃ x14 : Int, ∃ l6 : List (List SV), ∃ x15 : Int, ∃ x16 : Int, ∃ b2 : Bool, (rs1 = [B b1, SV.agg [I x10, I x11, I x12, SL 1 l4, SL 7 l5, I x13, I x14, SL 1 l6, I x15, I x16, B b2]]) ∧ (ifB (bnot b1) (Cl Tryz.prog 63 (Sig.mk ([Md.lend [false, false, false, false, true, false, false, false, false, false, false]]) []) ([SV.agg [I x10, I x11, I x12, SL 1 l4, SL 7 l5, I x13, I x14, SL 1 l6, I x15, I x16, B b2], I x7]) (fun (rs2 : List SV) => ∃ x17 : Int, ∃ x18 : Int, ∃ x19 : Int, ∃ x20 : Int, ∃ l7 : List (List SV), ∃ l8 : List (List SV), ∃ x21 : Int, ∃ x22 : Int, ∃ l9 : List (List SV), ∃ x23 : Int, ∃ x24 : Int, ∃ b3 : Bool, (rs2 = [I x17, SV.agg [I x18, I x19, I x20, SL 1 l7, SL 7 l8, I x21, I x22, SL 1 l9, I x23, I x24, B b3]]) ∧ (Q ([SV.agg [I x18, I x19, I x20, SL 1 l7, SL 7 l8, I x21, I x22, SL 1 l9, I x17, I x24]])))) ((Option.some ([[I ((0 : Int)), I ((0 : Int)), I ((0 : Int)), SV.slice 1 [] 1, SV.slice 7 [] 1, I ((0 : Int)), I ((0 : Int)), SV.slice 1 [] 1, I ((0 : Int)), I ((0 : Int))]]) = Option.some ([[I ((0 : Int)), I ((0 : Int)), I ((0 : Int)), SV.slice 1 [] 1, SV.slice 7 [] 1, I ((0 : Int)), I ((0 : Int)), SV.slice 1 [] 1, I ((0 : Int)), I ((0 : Int))]])) ∧ ((Inv x10 x11 x12 l4 l5 x13 x14 l6 x15 (wadd IntKind.i64 x16 x9) b2) ∧ (Nat.le (Nat.succ (m x10 x11 x12 l4 l5 x13 x14 l6 x15 (wadd IntKind.i64 x16 x9) b2)) (m x x1 x2 l l1 x3 x4 l2 x5 x6 b))))))))))) : Ct Tryz.prog 23 {} [SL 1 rows] Q :=
  fn_of (f := 23) SgT SvT (fun k => bif Nat.beq k 9 then some { boxes := [(384,[.int .i64,.int .i64,.int .i64,.sl 1,.own 7,.int .i64,.int .i64,.sl 1,.int .i64,.int .i64,.bool])], fixed := [256] } else none) Tryz.f23 Tryz.func23 (by kernel_rfl) (by kernel_rfl) h

theorem few_nf (cs ca : Int) (ns : List (List SV)) (rows : List (List SV)) (Q : List SV → Prop) (h : ∃ Inv : Bool → Int → Prop, ∃ m : Bool → Int → Nat, (Inv false 0) ∧ (∀ b : Bool, ∀ x : Int, (Inv b x) → ifB (ilt x (rlen rows)) ((((0 : Int) ≤ x) ∧ (x < (rlen rows))) ∧ (∃ x1 : Int, ∃ x2 : Int, ∃ x3 : Int, ∃ s : ByteArray, ∃ x4 : Int, ∃ x5 : Int, ∃ x6 : Int, (rget rows x = [I x1, I x2, I x3, S s, I x4, I x5, I x6]) ∧ (ifB (igt (slen s) 100) (Q [B false]) ((Option.some ([[I cs, I ca, SL 1 ns]]) = Option.some ([[I cs, I ca, SL 1 ns]])) ∧ ((Inv b (wadd IntKind.i64 x 1)) ∧ (Nat.le (Nat.succ (m b (wadd IntKind.i64 x 1))) (m b x))))))) (Cl Tryz.prog 48 sP [SL 1 ns] (fun (rs : List SV) => ∃ b1 : Bool, (rs = [B b1]) ∧ (Q [B (bpick b1 (ile (rlen rows) 60) false)]))))) : Ct Tryz.prog 8 {} [cx3 cs ca ns, SL 7 rows] Q :=
  fn_of (f := 8) SgT SvT (fun _ => none) Tryz.f8 Tryz.func8 (by kernel_rfl) (by kernel_rfl) h

end Go.Proofs.YtbocfphenkidnaaGreatDoor.Seg

namespace Go.Proofs.YtbocfphenkidnaaGreatDoor.Seg
open Go Go.Px Go.Proofs Go.Proofs.YtbocfphenkidnaaGreatDoor.Cod
set_option maxRecDepth 100000
set_option linter.unusedVariables false

abbrev evR (l : List EvD) : List (List SV) := l.map fun e => [I e.s, I e.a, I e.k, S e.c, I e.x, I e.y, I e.z]

structure Sc where
  num : Int
  bs : Int
  ba : Int
  ev : List EvD
  s : Int
  a : Int
  m : List ByteArray
  sl : Bool

abbrev Sc.sv (d : Sc) (st sz : Int) : SV := sc11 d.num d.bs d.ba [] (evR d.ev) d.s d.a (nR d.m) st sz d.sl

theorem bcutp_fn (l m : List Int) (hl : Byts l) (hm : Byts m) : Ct Tryz.prog 77 {} [SL 1 (bR l), SL 1 (bR m)] (fun r => (∃ t, l = m ++ t ∧ r = [SL 1 (bR t), B true]) ∨ ((∀ t, l ≠ m ++ t) ∧ r = [SL 1 (bR l), B false])) := by
  have hrl : rlen (bR l) = l.length := by simp [rlen]
  have hrm : rlen (bR m) = m.length := by simp [rlen]
  have hp : Ct Tryz.prog 145 {} [SL 1 (bR l), SL 1 (bR m)] (fun r => r = [B (decide (m.length ≤ l.length ∧ l.take m.length = m))]) := by
    refine bhasp_nf _ _ _ ?_
    rw [hrl, hrm]
    refine ifB_intro (fun h => ?_) (fun h => ?_)
    · simp at h
      refine ⟨⟨by omega, by omega, by omega⟩, ?_⟩
      rw [rsub_bR]
      refine Cl.of (bequal_fn _ _ (hl.sub fun x hx => List.mem_of_mem_take (List.mem_of_mem_drop hx)) hm) ⟨_, rfl, ?_⟩
      simp [h]
    · simp at h
      simp [show ¬ m.length ≤ l.length by omega]
  refine bcutp_nf _ _ _ (Cl.of hp ⟨_, rfl, ifB_intro (fun h => ?_) (fun h => ?_)⟩)
  · refine .inr ⟨fun t e => ?_, rfl⟩
    subst e
    simp at h
  · simp at h
    rw [hrl, hrm]
    refine ⟨⟨by omega, by omega, by omega⟩, .inl ⟨l.drop m.length, ?_, ?_⟩⟩
    · conv => lhs; rw [← List.take_append_drop m.length l, h.2]
    · rw [rsub_bR]; simp

def headOK (n s a : Int) : Prop := (1 ≤ n ∧ n ≤ 99999999) ∧ ctxOK s a

theorem ctx_nil {s a : Int} : ctxB s a [] = true ↔ ctxOK s a := by
  rw [ctxB_iff]
  exact ⟨fun h => h.1, fun h => ⟨h, by rfl⟩⟩

/-- What a head's payload comes to. -/
theorem shead1_fn (d : Sc) (st sz : Int) (p : List Int) (hb : Byts p) (hl : p.length ≤ 100000) : Ct Tryz.prog 127 sL [d.sv st sz, SL 1 (bR p)] (fun r =>
    (∃ n s a, headOK n s a ∧ p = hdP n s a ∧ r = [B true, Sc.sv { d with num := n, bs := s, ba := a, s := s, a := a, m := [] } st sz]) ∨
    ((∀ n s a, headOK n s a → p ≠ hdP n s a) ∧ r = [B false, d.sv st sz])) := by
  have no : (∀ n s a, headOK n s a → p ≠ hdP n s a) → (∃ n s a, headOK n s a ∧ p = hdP n s a ∧ ([B false, d.sv st sz] : List SV) = [B true, Sc.sv { d with num := n, bs := s, ba := a, s := s, a := a, m := [] } st sz]) ∨
    ((∀ n s a, headOK n s a → p ≠ hdP n s a) ∧ ([B false, d.sv st sz] : List SV) = [B false, d.sv st sz]) := fun h => .inr ⟨h, rfl⟩
  refine shead1_nf _ _ _ _ _ _ _ _ _ _ _ _ _ ⟨by decide, Cl.ofQ (bcutp_fn p [102, 98, 120, 49] hb (fun x hx => by simp at hx; omega)) ?_⟩
  rintro r (⟨q, rfl, rfl⟩ | ⟨hno, rfl⟩)
  rotate_left
  · refine ⟨_, _, rfl, ifB_intro (fun _ => no fun n s a _ e => hno _ e) (fun h => by simp at h)⟩
  refine ⟨_, _, rfl, ifB_intro (fun h => by simp at h) (fun _ => ?_)⟩
  have hbq : Byts q := hb.sub fun x hx => List.mem_append.2 (.inr hx)
  have hlq : q.length ≤ 100000 := by simp at hl; omega
  refine Cl.of (start_fn q) ⟨_, _, _, rfl, Cl.ofQ (uintS_fn q 0 0 hlq hbq) ?_⟩
  rintro r ⟨a1, er1, n, rfl, o1, s1⟩
  refine ⟨_, _, _, _, rfl, Cl.ofQ (uintS_fn q a1 er1 hlq hbq) ?_⟩
  rintro r ⟨a2, er2, s, rfl, o2, s2⟩
  refine ⟨_, _, _, _, rfl, Cl.ofQ (uintS_fn q a2 er2 hlq hbq) ?_⟩
  rintro r ⟨a3, er3, a, rfl, o3, s3⟩
  -- what any head comes to
  have all : ∀ n' s' a', headOK n' s' a' → ([102, 98, 120, 49] ++ q : List Int) = hdP n' s' a' → er3 = 0 ∧ a3 = q.length ∧ n = n' ∧ s = s' ∧ a = a' := by
    rintro n' s' a' ⟨h1, h2⟩ he
    unfold ctxOK at h2
    have he := List.append_cancel_left he
    obtain ⟨g1, g2, g3⟩ := o1.good rfl (by omega) n'.toNat (leb s'.toNat ++ leb a'.toNat) (by simpa using he) (by omega)
    have hd1 := drop_more (l := q) (a := 0) (by omega) (by simpa using he)
    rw [← g1] at hd1
    have hp1 := leb_pos n'.toNat
    obtain ⟨k1, k2, k3⟩ := o2.good g2 (by omega) s'.toNat (leb a'.toNat) hd1 (by omega)
    have hd2 := drop_more (l := q) (a := a1) (by omega) hd1
    rw [← k1] at hd2
    obtain ⟨j1, j2, j3⟩ := o3.good k2 (by omega) a'.toNat [] (by rw [hd2, List.append_nil]) (by omega)
    have hlen := congrArg List.length he
    simp at hlen
    exact ⟨j2, by omega, by omega, by omega, by omega⟩
  have n0 := o1.n0
  have s0 := o2.n0
  have a0 := o3.n0
  refine ⟨_, _, _, _, rfl, ifB_intro (fun h => ?_) (fun h => ?_)⟩
  · simp at h
    exact no fun n' s' a' h1 h2 => h (all n' s' a' h1 h2).1
  simp at h
  obtain ⟨u1, u2, r3, u3, u4⟩ := s3 h
  obtain ⟨v1, v2, r2, v3, v4⟩ := s2 u1
  obtain ⟨w1, w2, r1, w3, w4⟩ := s1 v1
  have hrg : rgtC q a3 er3 = true := by
    have h1 := congrArg List.length u3
    have h0 := leb_pos a.toNat
    simp at h1
    simp only [rgtC, decide_eq_true_eq]; omega
  refine Cl.of (left_fn q a3 er3 hlq) ⟨_, rfl, ?_⟩
  rw [if_pos hrg]
  refine ifB_intro (fun h2 => ?_) (fun h2 => ?_)
  · simp at h2
    exact no fun n' s' a' h3 h4 => by have := (all n' s' a' h3 h4).2.1; omega
  simp at h2
  -- the whole is read
  have hq : q = leb n.toNat ++ (leb s.toNat ++ leb a.toNat) := by
    have e1 := drop_more (l := q) (a := 0) (by omega) w3
    rw [← w4] at e1
    have e2 := drop_more (l := q) (a := a1) v2 v3
    rw [← v4] at e2
    have e3 := drop_more (l := q) (a := a2) u2 u3
    rw [← u4] at e3
    simp only [rgtC, decide_eq_true_eq] at hrg
    have hr3 : r3 = [] := by rw [← e3]; exact List.drop_eq_nil_of_le (by omega)
    rw [u3, hr3] at e2
    rw [v3, ← e2] at e1
    have w3' : q = leb n.toNat ++ r1 := by simpa using w3
    rw [w3', ← e1]; simp
  have hn63 : ∀ x : Int, 0 ≤ x → x ≤ 18446744073709551615 → (x ≤ 9223372036854775807 → wcv .i64 x = x) ∧ (9223372036854775807 < x → wcv .i64 x < 0) := by
    intro x h0 h1
    refine ⟨fun h => wcvI64 (by omega) h, fun h => ?_⟩
    unfold wcv
    simp only [IntKind.wrap, IntKind.signed, IntKind.bits]
    simp
    omega
  obtain ⟨n1a, n1b⟩ := hn63 n n0 o1.n1
  obtain ⟨s1a, s1b⟩ := hn63 s s0 o2.n1
  obtain ⟨a1a, a1b⟩ := hn63 a a0 o3.n1
  refine Cl.of (numb_fn _) ⟨_, rfl, ifB_intro (fun h3 => ?_) (fun h3 => ?_)⟩
  · simp at h3
    refine no fun n' s' a' h4 h5 => ?_
    obtain ⟨_, _, e1, _, _⟩ := all n' s' a' h4 h5
    have h6 := h4.1
    rw [n1a (by omega)] at h3
    omega
  simp at h3
  have hn : n ≤ 9223372036854775807 := by
    rcases Int.lt_or_le 9223372036854775807 n with h | h
    · have := n1b h; omega
    · exact h
  rw [n1a hn] at h3 ⊢
  refine Cl.of (cright_fn (wcv .i64 s) (wcv .i64 a) []) ⟨_, rfl, ifB_intro (fun h4 => ?_) (fun h4 => ?_)⟩
  · simp at h4
    refine no fun n' s' a' h5 h6 => ?_
    obtain ⟨_, _, _, e2, e3⟩ := all n' s' a' h5 h6
    have h7 := h5.2
    unfold ctxOK at h7
    rw [s1a (by omega), a1a (by omega), e2, e3, ctx_nil.2 h5.2] at h4
    cases h4
  simp at h4
  have h5 := ctx_nil.1 h4
  unfold ctxOK at h5
  have hs : s ≤ 9223372036854775807 := by
    rcases Int.lt_or_le 9223372036854775807 s with h | h
    · have := s1b h; omega
    · exact h
  have ha : a ≤ 9223372036854775807 := by
    rcases Int.lt_or_le 9223372036854775807 a with h | h
    · have := a1b h; omega
    · exact h
  rw [s1a hs, a1a ha] at h5 ⊢
  refine ⟨fun x1 x2 x3 l5 l6 x4 x5 l7 x6 x7 b => [B true, SV.agg [I x1, I x2, I x3, SL 1 l5, SL 7 l6, I x4, I x5, SL 1 l7, I x6, I x7, B b]] = [B true, Sc.sv { d with num := n, bs := s, ba := a, s := s, a := a, m := [] } st sz],
    fun _ _ _ _ _ _ _ _ _ _ _ => 0, ?_, ?_⟩
  · exact ⟨rfl, rfl⟩
  · rintro x1 x2 x3 l5 l6 x4 x5 l7 x6 x7 b h6
    exact .inl ⟨n, s, a, ⟨h3, h5⟩, by rw [hq]; rfl, h6⟩

theorem ev_row (l : List EvD) (e : EvD) : rapp (evR l) [[I e.s, I e.a, I e.k, S e.c, I e.x, I e.y, I e.z]] = evR (l ++ [e]) := by simp [rapp]

/-- What a record's payload comes to. -/
theorem srec_fn (d : Sc) (st sz : Int) (p : List Int) (hb : Byts p) (hl : p.length ≤ 100000) (he : d.ev.length ≤ 1000000) : Ct Tryz.prog 128 sL [d.sv st sz, SL 1 (bR p)] (fun r =>
    (∃ e, EncOK d.s d.a d.m e ∧ encL d.s d.a d.m e = p ∧ r = [B true, Sc.sv { d with ev := d.ev ++ [e], s := e.s, a := e.a, m := bhdN d.m e.c } st sz]) ∨
    ((∀ e, EncOK d.s d.a d.m e → encL d.s d.a d.m e ≠ p) ∧ r = [B false, d.sv st sz])) := by
  refine srec_nf _ _ _ _ _ _ _ _ _ _ _ _ _ (Cl.ofQ (decode_fn d.s d.a d.m p hl hb) ?_)
  rintro r (⟨h1, rfl⟩ | ⟨h1, ⟨e, h2, h3, rfl⟩ | ⟨h2, rfl⟩⟩)
  · refine ⟨_, _, _, _, _, _, _, _, _, _, _, rfl, ifB_intro (fun _ => .inr ⟨fun e he => ?_, rfl⟩) (fun h => by simp at h)⟩
    rw [he.ctx] at h1; cases h1
  · refine ⟨_, _, _, _, _, _, _, _, _, _, _, rfl, ifB_intro (fun h => by simp at h) (fun _ => ⟨by simp [lsum, rlen]; omega, .inl ⟨e, h2, h3, ?_⟩⟩)⟩
    rw [ev_row]
  · exact ⟨_, _, _, _, _, _, _, _, _, _, _, rfl, ifB_intro (fun _ => .inr ⟨h2, rfl⟩) (fun h => by simp at h)⟩

/-- A frame is taken, or not. -/
inductive TakeO (d : Sc) (k : Int) (p : List Int) : Bool → Sc → Prop
  | head (n s a : Int) (hs : d.sl = false) (hn : d.num = 0) (hk : k = 1) (ok : headOK n s a) (hp : p = hdP n s a) : TakeO d k p true { d with num := n, bs := s, ba := a, s := s, a := a, m := [] }
  | record (e : EvD) (hs : d.sl = false) (hn : d.num ≠ 0) (hk : k = 2) (ok : EncOK d.s d.a d.m e) (hp : encL d.s d.a d.m e = p) : TakeO d k p true { d with ev := d.ev ++ [e], s := e.s, a := e.a, m := bhdN d.m e.c }
  | last (hs : d.sl = false) (hn : d.num ≠ 0) (hk : k = 3) (hp : p = slP d.ev.length d.s d.a) : TakeO d k p true { d with sl := true }
  | no (h1 : d.sl = false → d.num = 0 → k = 1 → ∀ n s a, headOK n s a → p ≠ hdP n s a) (h2 : d.sl = false → d.num ≠ 0 → k = 2 → ∀ e, EncOK d.s d.a d.m e → encL d.s d.a d.m e ≠ p)
      (h3 : d.sl = false → d.num ≠ 0 → k = 3 → p ≠ slP d.ev.length d.s d.a) : TakeO d k p false d

theorem sl_false {d : Sc} (h : d.sl = false) : { d with sl := false } = d := by cases d; simp at h; simp [h]

theorem stake_fn (d : Sc) (st sz k : Int) (p : List Int) (hb : Byts p) (hl : p.length ≤ 100000) (he : d.ev.length ≤ 1000000) (hc : d.num ≠ 0 → ctxOK d.s d.a) :
    Ct Tryz.prog 62 sL [d.sv st sz, I k, SL 1 (bR p)] (fun r => ∃ b d', r = [B b, Sc.sv d' st sz] ∧ TakeO d k p b d') := by
  refine stake_nf _ _ _ _ _ _ _ _ _ _ _ _ _ _ (ifB_intro (fun h => ⟨false, d, rfl, .no (fun e => by rw [h] at e; cases e) (fun e => by rw [h] at e; cases e) (fun e => by rw [h] at e; cases e)⟩) (fun hs => ?_))
  refine ifB_intro (fun hn => ifB_intro (fun hk => ?_) (fun hk => ?_)) (fun hn => ifB_intro (fun hk => ?_) (fun hk => ifB_intro (fun hk3 => ?_) (fun hk3 => ?_)))
  · simp at hn hk
    refine Cl.ofQ (shead1_fn d st sz p hb hl) ?_
    rintro r (⟨n, s, a, h1, h2, rfl⟩ | ⟨h1, rfl⟩)
    · exact ⟨_, _, _, _, _, _, _, _, _, _, _, _, rfl, true, _, rfl, .head n s a hs hn hk h1 h2⟩
    · exact ⟨_, _, _, _, _, _, _, _, _, _, _, _, rfl, false, d, rfl, .no (fun _ _ _ => h1) (fun _ h => absurd hn h) (fun _ h => absurd hn h)⟩
  · simp at hn hk
    exact ⟨false, d, rfl, .no (fun _ _ h => absurd h hk) (fun _ h => absurd hn h) (fun _ h => absurd hn h)⟩
  · simp at hn hk
    refine Cl.ofQ (srec_fn d st sz p hb hl he) ?_
    rintro r (⟨e, h1, h2, rfl⟩ | ⟨h1, rfl⟩)
    · exact ⟨_, _, _, _, _, _, _, _, _, _, _, _, rfl, true, _, rfl, .record e hs hn hk h1 h2⟩
    · exact ⟨_, _, _, _, _, _, _, _, _, _, _, _, rfl, false, d, rfl, .no (fun _ h => absurd h hn) (fun _ _ _ => h1) (fun _ _ h => by omega)⟩
  · simp at hn hk hk3
    have hc := hc hn
    unfold ctxOK at hc
    have hre : rlen (evR d.ev) = d.ev.length := by simp [rlen]
    refine ⟨fun x1 x2 x3 l5 l6 x4 x5 l7 x6 x7 b => b = decide (p = slP d.ev.length d.s d.a) ∧ SV.agg [I x1, I x2, I x3, SL 1 l5, SL 7 l6, I x4, I x5, SL 1 l7, I x6, I x7, B b] = Sc.sv { d with sl := b } st sz, fun _ _ _ _ _ _ _ _ _ _ _ => 0, ?_, ?_⟩
    · rw [hre]
      refine Cl.of (sput_fn [] d.ev.length d.s d.a (nR d.m) (by omega) (by omega) (by omega) (by simp)) ⟨_, rfl, Cl.of (bequal_fn p _ hb ?_) ⟨_, rfl, rfl, rfl, rfl⟩⟩
      exact Byts.app (fun x hx => by simp at hx) ((byts_leb _).app ((byts_leb _).app (byts_leb _)))
    · rintro x1 x2 x3 l5 l6 x4 x5 l7 x6 x7 b ⟨hb', e⟩
      by_cases hp : p = slP d.ev.length d.s d.a
      · rw [decide_eq_true hp] at hb'
        subst hb'
        exact ⟨true, _, by rw [e], .last hs hn hk3 hp⟩
      · rw [decide_eq_false hp] at hb'
        subst hb'
        refine ⟨false, d, ?_, .no (fun _ h => absurd h hn) (fun _ _ h => absurd h hk) (fun _ _ _ => hp)⟩
        rw [e, sl_false hs]
  · simp at hn hk hk3
    exact ⟨false, d, rfl, .no (fun _ h => absurd h hn) (fun _ _ h => absurd h hk) (fun _ _ h => absurd h hk3)⟩

def endW (w : Int) (sl : Bool) : Int := if w = 1 then (if sl = true then 4 else 1) else if w = 2 ∧ sl = false then 2 else 3

theorem sends_fn (d : Sc) (st sz w : Int) : Ct Tryz.prog 63 sL [d.sv st sz, I w] (fun r => r = [I (endW w d.sl), d.sv st sz]) := by
  refine sends_nf _ _ _ _ _ _ _ _ _ _ _ _ _ (ifB_intro (fun h => ?_) (fun h => ifB_intro (fun h2 => ?_) (fun h2 => ifB_intro (fun h3 => ?_) (fun h3 => ?_))))
  · simp at h; simp [endW, h]
  · simp at h h2
    have := h h2
    simp [endW, h2, this]
  · simp at h3; simp [endW, h3]
  · simp at h2 h3
    by_cases hw : w = 2
    · have := h3 hw; simp [endW, hw, this]
    · simp [endW, h2, hw]

end Go.Proofs.YtbocfphenkidnaaGreatDoor.Seg

namespace Go.Proofs.YtbocfphenkidnaaGreatDoor.Seg
open Go Go.Px Go.Proofs Go.Proofs.YtbocfphenkidnaaGreatDoor.Cod
set_option maxRecDepth 100000
set_option linter.unusedVariables false

def recL : Int → Int → List ByteArray → List EvD → List Int
  | _, _, _, [] => []
  | s, a, m, e :: l => fr 2 (encL s a m e) ++ recL e.s e.a (bhdN m e.c) l
def okL : Int → Int → List ByteArray → List EvD → Prop
  | _, _, _, [] => True
  | s, a, m, e :: l => EncOK s a m e ∧ okL e.s e.a (bhdN m e.c) l
def fin3 : Int → Int → List ByteArray → List EvD → Int × Int × List ByteArray
  | s, a, m, [] => (s, a, m)
  | _, _, m, e :: l => fin3 e.s e.a (bhdN m e.c) l

theorem fin3_snoc : ∀ (l : List EvD) (s a : Int) (m : List ByteArray) (e : EvD), fin3 s a m (l ++ [e]) = (e.s, e.a, bhdN (fin3 s a m l).2.2 e.c)
  | [], s, a, m, e => rfl
  | x :: l, s, a, m, e => fin3_snoc l x.s x.a (bhdN m x.c) e
theorem recL_snoc : ∀ (l : List EvD) (s a : Int) (m : List ByteArray) (e : EvD), recL s a m (l ++ [e]) = recL s a m l ++ fr 2 (encL (fin3 s a m l).1 (fin3 s a m l).2.1 (fin3 s a m l).2.2 e)
  | [], s, a, m, e => by simp [recL, fin3]
  | x :: l, s, a, m, e => by simp [recL, fin3, recL_snoc l]
theorem okL_snoc : ∀ (l : List EvD) (s a : Int) (m : List ByteArray) (e : EvD), okL s a m (l ++ [e]) ↔ okL s a m l ∧ EncOK (fin3 s a m l).1 (fin3 s a m l).2.1 (fin3 s a m l).2.2 e
  | [], s, a, m, e => by simp [okL, fin3]
  | x :: l, s, a, m, e => by simp [okL, fin3, okL_snoc l, and_assoc]
theorem recL_len : ∀ (l : List EvD) (s a : Int) (m : List ByteArray), 7 * l.length ≤ (recL s a m l).length
  | [], _, _, _ => by simp
  | x :: l, s, a, m => by
    have := recL_len l x.s x.a (bhdN m x.c)
    simp only [recL, List.length_append, fr_len, List.length_cons]
    omega

def segL (d : Sc) : List Int := if d.num = 0 then [] else fr 1 (hdP d.num d.bs d.ba) ++ (recL d.bs d.ba [] d.ev ++ (if d.sl = true then fr 3 (slP d.ev.length d.s d.a) else []))
def sc0 : Sc := ⟨0, 0, 0, [], 0, 0, [], false⟩

/-- What a scanner has is right. -/
structure ScOK (d : Sc) : Prop where
  zero : d.num = 0 → d = sc0
  head : d.num ≠ 0 → headOK d.num d.bs d.ba
  evs : d.num ≠ 0 → okL d.bs d.ba [] d.ev
  fin : d.num ≠ 0 → (d.s, d.a, d.m) = fin3 d.bs d.ba [] d.ev

theorem okL_ctx : ∀ (l : List EvD) (s a : Int) (m : List ByteArray), ctxOK s a → okL s a m l → ctxOK (fin3 s a m l).1 (fin3 s a m l).2.1
  | [], _, _, _, h, _ => h
  | e :: l, s, a, m, h, ⟨h1, h2⟩ => by
    refine okL_ctx l e.s e.a (bhdN m e.c) ?_ h2
    obtain ⟨_, _, _, h3, h4⟩ := chkE_zero h1.chk
    exact ⟨h4.1, h4.2, h3.1, h3.2⟩

theorem ScOK.ctx {d : Sc} (h : ScOK d) (hn : d.num ≠ 0) : ctxOK d.s d.a := by
  have h1 := okL_ctx d.ev d.bs d.ba [] (h.head hn).2 (h.evs hn)
  rw [← h.fin hn] at h1
  exact h1

theorem TakeO.ok {d d' : Sc} {k : Int} {p : List Int} {b : Bool} (t : TakeO d k p b d') (h : ScOK d) (hb : b = true) : ScOK d' ∧ segL d' = segL d ++ fr k p ∧ d'.num ≠ 0 := by
  cases t with
  | head n s a hs hn hk ok hp =>
    have h0 := h.zero hn
    have hn' : n ≠ 0 := by have := ok.1; omega
    refine ⟨⟨fun e => absurd e hn', fun _ => ok, fun _ => by rw [h0]; trivial, fun _ => by rw [h0]; rfl⟩, ?_, hn'⟩
    subst hk hp
    simp only [segL, hn, if_true, if_neg hn', List.nil_append]
    rw [h0]
    simp [sc0, recL]
  | record e hs hn hk ok hp =>
    have hf := h.fin hn
    have e1 : (fin3 d.bs d.ba [] d.ev).1 = d.s := by rw [← hf]
    have e2 : (fin3 d.bs d.ba [] d.ev).2.1 = d.a := by rw [← hf]
    have e3 : (fin3 d.bs d.ba [] d.ev).2.2 = d.m := by rw [← hf]
    refine ⟨⟨fun e => absurd e hn, h.head, fun _ => (okL_snoc _ _ _ _ _).2 ⟨h.evs hn, by rw [e1, e2, e3]; exact ok⟩, fun _ => by rw [fin3_snoc, e3]⟩, ?_, hn⟩
    subst hk hp
    simp only [segL, if_neg hn, hs, recL_snoc, e1, e2, e3]
    simp
  | last hs hn hk hp =>
    refine ⟨⟨fun e => absurd e hn, h.head, h.evs, h.fin⟩, ?_, hn⟩
    subst hk hp
    simp only [segL, if_neg hn, hs]
    simp
  | no => cases hb

/-- A frame that stands there whole. -/
theorem nextR_whole {r : List Int} (hb : Byts r) {k n : Int} {p : List Int} (h : nextR r = (0, k, p, n)) : (1 ≤ k ∧ k ≤ 3) ∧ p.length ≤ 200 ∧ n = p.length + 7 ∧ ∃ t, r = fr k p ++ t := by
  unfold nextR at h
  split at h
  · cases h
  rename_i h1
  split at h
  · cases h
  rename_i h2
  split at h
  · cases h
  rename_i h3
  split at h
  · cases h
  rename_i h4
  split at h
  · cases h
  rename_i h5
  split at h
  · rename_i h6
    have r0 := byAt_range hb (i := 0) (by omega) (by omega)
    have r1 := byAt_range hb (i := 1) (by omega) (by omega)
    obtain ⟨x, y, z, q, rfl⟩ : ∃ x y z q, r = x :: y :: z :: q := by
      match r, h2 with
      | x :: y :: z :: q, _ => exact ⟨x, y, z, q, rfl⟩
      | [], h2 => simp at h2
      | [_], h2 => simp at h2
      | [_, _], h2 => simp at h2
    have e0 : byAt (x :: y :: z :: q) 0 = x := rfl
    have e1 : byAt (x :: y :: z :: q) 1 = y := rfl
    have e2 : byAt (x :: y :: z :: q) 2 = z := rfl
    rw [e0] at h h3 h4 h6 r0
    rw [e1] at h h3 h4 h6 r1
    rw [e2] at h h5
    have hx : x = 0 := by omega
    rw [hx] at h h3 h4 h6
    have ht : (256 * 0 + y).toNat = y.toNat := by omega
    rw [ht] at h h6
    simp only [List.take_succ_cons, List.drop_succ_cons, List.drop_zero, Prod.mk.injEq, true_and] at h
    obtain ⟨g1, g2, g3⟩ := h
    have hl : (q.take y.toNat).length = y.toNat := by simp at h4 ⊢; omega
    have hy : ((q.take y.toNat).length : Int) = y := by omega
    rw [← g1, ← g2, ← g3]
    refine ⟨by omega, by omega, by omega, (x :: y :: z :: q).drop (y.toNat + 7), ?_⟩
    have : fr z (q.take y.toNat) = (x :: y :: z :: q).take (y.toNat + 7) := by
      rw [hx, ← h6, fr, hy]; rfl
    rw [this, List.take_append_drop]
  · cases h

theorem fr_cons (k : Int) (p t : List Int) : fr k p ++ t = 0 :: (p.length : Int) :: k :: (p ++ (s4 (sumL (0 :: (p.length : Int) :: k :: p) 0) ++ t)) := by simp [fr, sealB]

theorem nextR_fr {k : Int} {p : List Int} (hk : 1 ≤ k ∧ k ≤ 3) (hp : p.length ≤ 200) (t : List Int) : nextR (fr k p ++ t) = (0, k, p, (p.length : Int) + 7) := by
  have hlen : (fr k p ++ t).length = p.length + 7 + t.length := by simp [fr_len]
  have h0 : byAt (fr k p ++ t) 0 = 0 := by rw [fr_cons]; rfl
  have h1 : byAt (fr k p ++ t) 1 = p.length := by rw [fr_cons]; rfl
  have h2 : byAt (fr k p ++ t) 2 = k := by rw [fr_cons]; rfl
  have hne : fr k p ++ t ≠ [] := by rw [fr_cons]; simp
  have hn : (256 * 0 + (p.length : Int)).toNat = p.length := by omega
  unfold nextR
  rw [h0, h1, h2, hn, if_neg hne, if_neg (by omega), if_neg (by omega), if_neg (by omega), if_neg (by omega)]
  have e1 : (fr k p ++ t).take (p.length + 3) = 0 :: (p.length : Int) :: k :: p := by
    rw [fr_cons]; simp
  have e2 : (fr k p ++ t).take (p.length + 7) = fr k p := by
    rw [List.take_append_of_le_length (by rw [fr_len]; omega), List.take_of_length_le (by rw [fr_len]; omega)]
  rw [e1, e2, if_pos (show sealB (0 :: (p.length : Int) :: k :: p) = fr k p from rfl)]
  simp

abbrev scanS (d : Sc) (st sz : Int) : SV := .agg [I d.num, I d.bs, I d.ba, SL 1 [], SL 7 (evR d.ev), I d.s, I d.a, SL 1 (nR d.m), I st, I sz]

/-- A segment has been read. -/
structure RdO (l : List Int) (d : Sc) (st : Int) : Prop where
  ok : ScOK d
  pre : segL d <+: l
  ext : (∃ w k p n, w ≠ 0 ∧ nextR (l.drop (segL d).length) = (w, k, p, n) ∧ st = endW w d.sl) ∨ (∃ k p n, nextR (l.drop (segL d).length) = (0, k, p, n) ∧ TakeO d k p false d ∧ st = 3)

theorem sread_fn (l : List Int) (hb : Byts l) (hl : l.length ≤ 100000) : Ct Tryz.prog 23 {} [SL 1 (bR l)] (fun r => ∃ d st, r = [scanS d st (segL d).length] ∧ RdO l d st) := by
  refine sread_nf _ _ ⟨fun x x1 x2 q q1 x3 x4 q2 x5 x6 b => ∃ d : Sc, SV.agg [I x, I x1, I x2, SL 1 q, SL 7 q1, I x3, I x4, SL 1 q2, I x5, I x6, B b] = d.sv 0 (segL d).length ∧ ScOK d ∧ segL d <+: l,
    fun _ _ _ _ _ _ _ _ _ x6 _ => (l.length - x6).toNat, ⟨sc0, rfl, ⟨fun _ => rfl, fun h => absurd rfl h, fun h => absurd rfl h, fun h => absurd rfl h⟩, List.nil_prefix⟩, ?_⟩
  rintro x x1 x2 q q1 x3 x4 q2 x5 x6 b ⟨d, hd, hok, hpre⟩
  have h6 : x6 = (segL d).length := by have hd' := hd; simp at hd'; exact hd'.2.2.2.2.2.2.2.2.2.1
  subst h6
  obtain ⟨t, ht⟩ := hpre
  have hlt : (segL d).length + t.length = l.length := by rw [← ht]; simp
  have hev : 7 * d.ev.length ≤ (segL d).length := by
    by_cases hn : d.num = 0
    · rw [hok.zero hn]; simp [sc0]
    · have := recL_len d.ev d.bs d.ba []
      simp only [segL, if_neg hn, List.length_append]; omega
  have hdt : l.drop (segL d).length = t := by rw [← ht]; simp
  have hnx : nextF l (segL d).length = nextR t := by
    unfold nextF
    rw [if_neg (by omega), Int.toNat_natCast, hdt]
  have hbt : Byts t := hb.sub fun x hx => by rw [← ht]; exact List.mem_append.2 (.inr hx)
  refine Cl.of (fnext_fn l _ hb (by omega)) ?_
  rw [hnx, hd]
  obtain ⟨w, k, p, n, hw⟩ : ∃ w k p n, nextR t = (w, k, p, n) := ⟨_, _, _, _, rfl⟩
  rw [hw]
  refine ⟨w, k, bR p, n, rfl, ifB_intro (fun hc => ?_) (fun hc => ?_)⟩
  · simp at hc
    exact Cl.of (sends_fn d 0 _ w) ⟨_, _, _, _, _, _, _, _, _, _, _, _, rfl, d, endW w d.sl, rfl, hok, ⟨t, ht⟩, .inl ⟨w, k, p, n, hc, by rw [hdt]; exact hw, rfl⟩⟩
  · simp at hc
    subst hc
    obtain ⟨hk, hp, hn, t', ht'⟩ := nextR_whole hbt hw
    have hbp : Byts p := hbt.sub fun x hx => by
      rw [ht', fr_cons]
      simp [hx]
    refine Cl.ofQ (stake_fn d 0 (segL d).length k p hbp (by omega) (by omega) hok.ctx) ?_
    rintro r ⟨b', d', rfl, tk⟩
    refine ⟨_, _, _, _, _, _, _, _, _, _, _, _, rfl, ifB_intro (fun hb' => ?_) (fun hb' => ?_)⟩
    · simp at hb'
      subst hb'
      have hdd : d' = d := by cases tk; rfl
      subst hdd
      exact Cl.of (sends_fn d' 0 _ 0) ⟨_, _, _, _, _, _, _, _, _, _, _, _, rfl, d', 3, rfl, hok, ⟨t, ht⟩, .inr ⟨k, p, n, by rw [hdt]; exact hw, tk, rfl⟩⟩
    · simp at hb'
      subst hb'
      obtain ⟨g1, g2, g3⟩ := tk.ok hok rfl
      have hfl : (fr k p).length = p.length + 7 := fr_len _ _
      have hll : (segL d').length = (segL d).length + (p.length + 7) := by rw [g2, List.length_append, hfl]
      have hle : (segL d').length ≤ l.length := by rw [hll]; have := congrArg List.length ht'; simp [fr_len] at this; omega
      have wn : wadd IntKind.i64 ((segL d).length : Int) n = (segL d').length := by
        rw [wadd_i64 (by omega) (by omega), hll, hn]; omega
      rw [wn]
      refine ⟨rfl, ⟨d', rfl, g1, ⟨t', ?_⟩⟩, ?_⟩
      · rw [g2, ← ht, ht']; simp
      · show Nat.succ (l.length - ((segL d').length : Int)).toNat ≤ (l.length - ((segL d).length : Int)).toNat
        omega

end Go.Proofs.YtbocfphenkidnaaGreatDoor.Seg

namespace Go.Proofs.YtbocfphenkidnaaGreatDoor.Seg
open Go Go.Px Go.Proofs Go.Proofs.YtbocfphenkidnaaGreatDoor.Cod
set_option maxRecDepth 100000
set_option linter.unusedVariables false

theorem bhd_small {cs ca : Int} {l : List ByteArray} {e : EvD} (ok : EncOK cs ca l e) : (bhdN l e.c).length ≤ 32 := by
  have hl := (rgtB_iff.1 (ctxB_iff.1 ok.ctx).2).1
  unfold bhdN
  split
  · rename_i h
    have h2 := ok.put h
    unfold putN at h2
    have : l.length ≠ 32 := fun e => by
      rw [if_neg (by simp [(ctxB_iff.1 ok.ctx).2])] at h2
      split at h2
      · simp at h2
      · rw [if_neg (by omega)] at h2
        simp at h2
    simp; omega
  · exact hl

theorem bhd_right {cs ca : Int} {l : List ByteArray} {e : EvD} (ok : EncOK cs ca l e) : ctxB e.s e.a (bhdN l e.c) = true := by
  obtain ⟨c1, c2, c3, c4, c5⟩ := chkE_zero ok.chk
  have hr := rgtB_iff.1 (ctxB_iff.1 ok.ctx).2
  refine ctxB_iff.2 ⟨by omega, rgtB_iff.2 ⟨bhd_small ok, ?_, ?_⟩⟩
  · intro s hs
    unfold bhdN at hs
    split at hs
    · rcases List.mem_append.1 hs with hs | hs
      · exact hr.2.1 s hs
      · simp at hs; subst hs; simp [nmB]; omega
    · exact hr.2.1 s hs
  · unfold bhdN
    split
    · rename_i hp
      rw [List.nodup_append]
      refine ⟨hr.2.2, by simp, fun x hx y hy => ?_⟩
      simp at hy
      subst hy
      intro e'
      subst e'
      exact plc_zero.1 hp hx
    · exact hr.2.2

theorem okL_right : ∀ (l : List EvD) (s a : Int) (m : List ByteArray), ctxB s a m = true → okL s a m l → ctxB (fin3 s a m l).1 (fin3 s a m l).2.1 (fin3 s a m l).2.2 = true
  | [], _, _, _, h, _ => h
  | e :: l, s, a, m, h, ⟨h1, h2⟩ => okL_right l e.s e.a (bhdN m e.c) (bhd_right h1) h2

theorem numB_len {e : EvD} (h : chkE e = 0) : (numB e).length ≤ 30 := by
  have hr := numI_range h
  have hl : (numI e.k e.x e.y e.z).length ≤ 3 := by unfold numI; simp; omega
  unfold numB
  have : ∀ l : List Int, (∀ n ∈ l, 0 ≤ n ∧ n ≤ 2147483647) → (l.flatMap fun n => leb n.toNat).length ≤ 10 * l.length := by
    intro l
    induction l with
    | nil => intro _; simp
    | cons x l ih =>
      intro h
      have h1 := ih fun n hn => h n (by simp [hn])
      have h2 := h x (by simp)
      have h3 : (leb x.toNat).length ≤ 10 := leb_small (by omega)
      simp only [List.flatMap_cons, List.length_append, List.length_cons]
      omega
  have := this _ hr
  omega

theorem encL_len {cs ca : Int} {l : List ByteArray} {e : EvD} (ok : EncOK cs ca l e) : (encL cs ca l e).length ≤ 120 := by
  obtain ⟨h1, h2, h3, h4, h5⟩ := chkE_zero ok.chk
  have hc := ctxB_iff.1 ok.ctx
  have hl := (rgtB_iff.1 hc.2).1
  have hp := plc_le (l := l) (s := e.c)
  have b1 : (leb e.k.toNat).length ≤ 10 := leb_small (by omega)
  have b2 : (leb (e.s - cs).toNat).length ≤ 10 := leb_small (by omega)
  have b3 : (leb (e.a - ca).toNat).length ≤ 10 := leb_small (by omega)
  have b4 : (leb (plc l e.c)).length ≤ 10 := leb_small (by omega)
  have b5 : (leb e.c.size).length ≤ 10 := leb_small (by omega)
  have b6 := numB_len ok.chk
  have b7 : (txB e.c).length = e.c.size := by simp [txB]
  unfold encL
  simp only [List.length_append]
  have b8 : (if plc l e.c = 0 then leb e.c.size ++ txB e.c else []).length ≤ 34 := by
    split
    · rw [List.length_append]; omega
    · simp
  omega

theorem sadd_fn (s a : Int) (m : List ByteArray) (e : EvD) : Ct Tryz.prog 16 {} [cx3 s a (nR m), e.sv] (fun r =>
    (EncOK s a m e ∧ r = [SL 1 (bR (fr 2 (encL s a m e))), cx3 e.s e.a (nR (bhdN m e.c)), I 0]) ∨ (¬ EncOK s a m e ∧ ∃ n, n ≠ 0 ∧ r = [SL 1 [], cx3 s a (nR m), I n])) := by
  have he := encode_fn s a m e
  refine sadd_nf _ _ _ _ _ _ _ _ _ _ _ ?_
  by_cases hE : encE s a m e = 0
  · have ok := encE_zero.1 hE
    have hl := encL_len ok
    unfold encR at he
    rw [if_pos hE] at he
    refine Cl.of he ⟨_, _, _, _, _, rfl, ifB_intro (fun h2 => by simp at h2) (fun _ => ?_)⟩
    have hf := fput_fn 2 _ (byts_enc (cs := s) (ca := a) (l := m) (e := e)) (by omega)
    have : putF 2 (encL s a m e) = (fr 2 (encL s a m e), 0) := by unfold putF; rw [if_neg (by omega), if_neg (by omega)]
    rw [this] at hf
    exact Cl.of hf ⟨_, _, rfl, ifB_intro (fun h2 => by simp at h2) (fun _ => .inl ⟨ok, rfl⟩)⟩
  · unfold encR at he
    rw [if_neg hE] at he
    exact Cl.of he ⟨_, _, _, _, _, rfl, ifB_intro (fun _ => .inr ⟨fun ok => hE (encE_zero.2 ok), _, hE, rfl⟩) (fun h2 => by simp at h2; exact absurd h2 hE)⟩

theorem sseal_fn (n s a : Int) (m : List ByteArray) (h0 : 0 ≤ n) (h1 : n ≤ 9223372036854775807) : Ct Tryz.prog 14 {} [I n, cx3 s a (nR m)] (fun r =>
    r = if ctxB s a m = true then [SL 1 (bR (fr 3 (slP n s a))), I 0] else [SL 1 [], I 1]) := by
  refine sseal_nf _ _ _ _ _ (ifB_intro (fun h => by simp at h; omega) (fun _ => Cl.of (cright_fn s a m) ⟨_, rfl, ifB_intro (fun h => ?_) (fun h => ?_)⟩))
  · simp at h
    rw [if_neg (by simp [h])]
  · simp at h
    rw [if_pos h]
    have hc := (ctxB_iff.1 h).1
    refine Cl.of (sput_fn [] n s a (nR m) (by omega) (by omega) (by omega) (by simp)) ⟨_, rfl, ?_⟩
    have b1 : (leb n.toNat).length ≤ 10 := leb_small (by omega)
    have b2 : (leb s.toNat).length ≤ 10 := leb_small (by omega)
    have b3 : (leb a.toNat).length ≤ 10 := leb_small (by omega)
    have hb : Byts (slP n s a) := Byts.app (byts_leb _) ((byts_leb _).app (byts_leb _))
    have hl : (slP n s a).length ≤ 30 := by simp [slP]; omega
    have hf := fput_fn 3 (slP n s a) hb (by omega)
    have : putF 3 (slP n s a) = (fr 3 (slP n s a), 0) := by unfold putF; rw [if_neg (by omega), if_neg (by omega)]
    rw [this] at hf
    exact Cl.of hf ⟨_, _, rfl, rfl⟩

def mkOK (n s a : Int) (m : List ByteArray) (l : List EvD) : Prop := headOK n s a ∧ m = [] ∧ okL s a [] l
def mkS (n s a : Int) (l : List EvD) (sl : Bool) : Sc := ⟨n, s, a, l, (fin3 s a [] l).1, (fin3 s a [] l).2.1, (fin3 s a [] l).2.2, sl⟩

theorem recL_len2 : ∀ (l : List EvD) (s a : Int) (m : List ByteArray), okL s a m l → (recL s a m l).length ≤ 127 * l.length
  | [], _, _, _, _ => by simp [recL]
  | x :: l, s, a, m, ⟨h1, h2⟩ => by
    have := recL_len2 l x.s x.a (bhdN m x.c) h2
    have := encL_len h1
    simp only [recL, List.length_append, fr_len, List.length_cons]
    omega

theorem segL_mk {n s a : Int} {l : List EvD} {sl : Bool} (hn : n ≠ 0) : segL (mkS n s a l sl) = fr 1 (hdP n s a) ++ (recL s a [] l ++ (if sl = true then fr 3 (slP l.length (fin3 s a [] l).1 (fin3 s a [] l).2.1) else [])) := by
  unfold segL; rw [if_neg (show (mkS n s a l sl).num ≠ 0 from hn)]; rfl

theorem okL_take {s a : Int} {m : List ByteArray} : ∀ {l : List EvD} {i : Nat}, (h : i < l.length) → okL s a m l → EncOK (fin3 s a m (l.take i)).1 (fin3 s a m (l.take i)).2.1 (fin3 s a m (l.take i)).2.2 l[i] := by
  intro l i h ok
  have h1 : l = l.take i ++ (l[i] :: l.drop (i + 1)) := by simp
  rw [h1] at ok
  have : ∀ (p q : List EvD) (s a : Int) (m : List ByteArray), okL s a m (p ++ q) → okL (fin3 s a m p).1 (fin3 s a m p).2.1 (fin3 s a m p).2.2 q := by
    intro p
    induction p with
    | nil => intro q s a m h; exact h
    | cons x p ih => intro q s a m h; exact ih q x.s x.a _ h.2
  exact (this _ _ _ _ _ ok).1

theorem smake_fn (n s a : Int) (m : List ByteArray) (l : List EvD) (sl : Bool) (hm : m.length ≤ 9223372036854775807) (hl : l.length ≤ 100000) : Ct Tryz.prog 19 {} [I n, cx3 s a (nR m), SL 7 (evR l), B sl] (fun r =>
    (mkOK n s a m l ∧ r = [SL 1 (bR (segL (mkS n s a l sl))), I 0]) ∨ (¬ mkOK n s a m l ∧ ∃ x, x ≠ 0 ∧ r = [SL 1 [], I x])) := by
  have hrl : rlen (evR l) = l.length := by simp [rlen]
  refine smake_nf _ _ _ _ _ _ _ (Cl.of (shead_fn n s a m hm) ⟨_, _, rfl, ?_⟩)
  by_cases hh : headOK n s a ∧ m = []
  rotate_left
  · have : (headE n s a m).2 = 1 := by
      unfold headE
      split
      · rfl
      · rename_i h1
        rw [if_pos]
        rintro ⟨h2, h3⟩
        exact hh ⟨⟨by omega, h2⟩, h3⟩
    rw [this]
    exact ifB_intro (fun _ => .inr ⟨fun h => hh ⟨h.1, h.2.1⟩, 1, by omega, rfl⟩) (fun h => by simp at h)
  obtain ⟨hok, rfl⟩ := hh
  have he : headE n s a [] = (fr 1 (hdP n s a), 0) := by
    unfold headE
    rw [if_neg (by simp; exact hok.1), if_neg (by simp; exact hok.2)]
  rw [he, hrl]
  have hok1 := hok
  unfold headOK ctxOK at hok1
  have hn0 : n ≠ 0 := by omega
  have hhl := hdP_len (n := n) (s := s) (a := a) (by omega) (by omega) (by omega)
  have hfl : (fr 1 (hdP n s a)).length ≤ 41 := by rw [fr_len]; omega
  refine ifB_intro (fun h => by simp at h) (fun _ => ?_)
  refine ⟨fun q i x y z => 0 ≤ i ∧ i ≤ l.length ∧ okL s a [] (l.take i.toNat) ∧ q = bR (fr 1 (hdP n s a) ++ recL s a [] (l.take i.toNat)) ∧ (x, y, z) = ((fin3 s a [] (l.take i.toNat)).1, (fin3 s a [] (l.take i.toNat)).2.1, nR (fin3 s a [] (l.take i.toNat)).2.2),
    fun _ i _ _ _ => (l.length - i).toNat, ⟨by omega, by omega, trivial, by simp [recL], rfl⟩, ?_⟩
  rintro _ i x y z ⟨i0, i1, ok, rfl, hz⟩
  simp only [Prod.mk.injEq] at hz
  obtain ⟨rfl, rfl, rfl⟩ := hz
  have hrc := recL_len2 _ _ _ _ ok
  have htl : (l.take i.toNat).length ≤ 100000 := by simp; omega
  refine ifB_intro (fun h => ?_) (fun h => ?_)
  · simp at h
    have hlt : i.toNat < l.length := by omega
    have w : wadd IntKind.i64 i 1 = i + 1 := wadd_i64 (by omega) (by omega)
    rw [w]
    refine ⟨⟨i0, h⟩, l[i.toNat].s, l[i.toNat].a, l[i.toNat].k, l[i.toNat].c, l[i.toNat].x, l[i.toNat].y, l[i.toNat].z, ?_, ?_⟩
    · simp [rget, hlt]
    refine Cl.ofQ (sadd_fn _ _ _ l[i.toNat]) ?_
    rintro r (⟨h1, rfl⟩ | ⟨h1, x, hx, rfl⟩)
    · refine ⟨_, _, _, _, _, rfl, ifB_intro (fun h => by simp at h) (fun _ => ?_)⟩
      have hx := encL_len h1
      refine ⟨?_, rfl, ⟨by omega, by omega, ?_, ?_, ?_⟩, ?_⟩
      · simp [lsum, rlen, fr_len]; omega
      · rw [show (i + 1).toNat = i.toNat + 1 by omega, List.take_succ_eq_append_getElem hlt, okL_snoc]
        exact ⟨ok, h1⟩
      · rw [show (i + 1).toNat = i.toNat + 1 by omega, List.take_succ_eq_append_getElem hlt, recL_snoc]
        simp [rapp]
      · rw [show (i + 1).toNat = i.toNat + 1 by omega, List.take_succ_eq_append_getElem hlt, fin3_snoc]
      · show Nat.succ (l.length - (i + 1)).toNat ≤ (l.length - i).toNat; omega
    · refine ⟨_, _, _, _, _, rfl, ifB_intro (fun _ => .inr ⟨fun hk => h1 ?_, x, hx, rfl⟩) (fun h => by simp at h; exact absurd h hx)⟩
      exact okL_take hlt hk.2.2
  · simp at h
    rw [List.take_of_length_le (by omega)] at ok hrc ⊢
    have hmk : mkOK n s a [] l := ⟨hok, rfl, ok⟩
    have hcx : ctxB s a [] = true := ctx_nil.2 hok.2
    refine ifB_intro (fun hs => ?_) (fun hs => ?_)
    · subst hs
      refine Cl.of (sseal_fn l.length _ _ _ (by omega) (by omega)) ?_
      have hr := okL_right _ _ _ _ hcx ok
      rw [if_pos hr]
      refine ⟨_, _, rfl, ifB_intro (fun h => by simp at h) (fun _ => ⟨?_, .inl ⟨hmk, ?_⟩⟩)⟩
      · have hcb := (ctxB_iff.1 hr).1
        have b1 : (leb (l.length : Int).toNat).length ≤ 10 := leb_small (by omega)
        have b2 : (leb (fin3 s a [] l).1.toNat).length ≤ 10 := leb_small (by omega)
        have b3 : (leb (fin3 s a [] l).2.1.toNat).length ≤ 10 := leb_small (by omega)
        simp only [lsum, rlen, List.length_map, List.length_append, fr_len, slP, Int.ofNat_eq_natCast]
        omega
      · rw [segL_mk hn0]
        simp [rapp]
    · subst hs
      refine .inl ⟨hmk, ?_⟩
      rw [segL_mk hn0]
      simp

end Go.Proofs.YtbocfphenkidnaaGreatDoor.Seg

namespace Go.Proofs.YtbocfphenkidnaaGreatDoor.Seg
open Go Go.Px Go.Proofs Go.Proofs.YtbocfphenkidnaaGreatDoor.Cod
set_option maxRecDepth 100000
set_option linter.unusedVariables false

theorem fr_inj {k k' : Int} {p p' t t' : List Int} (h : fr k p ++ t = fr k' p' ++ t') : k = k' ∧ p = p' ∧ t = t' := by
  have h0 := h
  rw [fr_cons, fr_cons] at h
  simp only [List.cons.injEq, true_and] at h
  obtain ⟨h1, rfl, h2⟩ := h
  have h3 := (List.append_inj h2 (by omega)).1
  subst h3
  exact ⟨rfl, rfl, List.append_cancel_left h0⟩

theorem hdP_inj {n s a n' s' a' : Int} (h : headOK n s a) (h' : headOK n' s' a') (e : hdP n s a = hdP n' s' a') : n = n' ∧ s = s' ∧ a = a' := by
  obtain ⟨h1, h2⟩ := h
  obtain ⟨h3, h4⟩ := h'
  unfold ctxOK at h2 h4
  have e := List.append_cancel_left e
  obtain ⟨e1, e⟩ := leb_inj _ _ _ _ e
  obtain ⟨e2, e⟩ := leb_inj _ _ _ _ e
  obtain ⟨e3, _⟩ := leb_inj _ _ [] [] (by simpa using e)
  omega

theorem recL_app : ∀ (p q : List EvD) (s a : Int) (m : List ByteArray), recL s a m (p ++ q) = recL s a m p ++ recL (fin3 s a m p).1 (fin3 s a m p).2.1 (fin3 s a m p).2.2 q
  | [], q, s, a, m => rfl
  | x :: p, q, s, a, m => by simp [recL, recL_app p q, fin3]
theorem okL_app : ∀ (p q : List EvD) (s a : Int) (m : List ByteArray), okL s a m (p ++ q) → okL (fin3 s a m p).1 (fin3 s a m p).2.1 (fin3 s a m p).2.2 q
  | [], q, s, a, m, h => h
  | x :: p, q, s, a, m, h => okL_app p q x.s x.a _ h.2

theorem recL_cmp : ∀ (p q : List EvD) (s a : Int) (m : List ByteArray) (x y : List Int), okL s a m p → okL s a m q → recL s a m p ++ x = recL s a m q ++ y →
    (∃ u, q = p ++ u ∧ x = recL (fin3 s a m p).1 (fin3 s a m p).2.1 (fin3 s a m p).2.2 u ++ y) ∨ (∃ u, p = q ++ u ∧ y = recL (fin3 s a m q).1 (fin3 s a m q).2.1 (fin3 s a m q).2.2 u ++ x)
  | [], q, s, a, m, x, y, _, _, h => .inl ⟨q, rfl, h⟩
  | e :: p, [], s, a, m, x, y, _, _, h => .inr ⟨e :: p, rfl, h.symm⟩
  | e :: p, e' :: q, s, a, m, x, y, h1, h2, h => by
    simp only [recL, List.append_assoc] at h
    obtain ⟨_, h3, h4⟩ := fr_inj h
    obtain ⟨rfl, _⟩ := enc_inj (r := []) (r' := []) h1.1 h2.1 (by rw [h3])
    rcases recL_cmp p q _ _ _ x y h1.2 h2.2 h4 with ⟨u, rfl, hu⟩ | ⟨u, rfl, hu⟩
    · exact .inl ⟨u, rfl, hu⟩
    · exact .inr ⟨u, rfl, hu⟩

/-- What was read is a beginning of it. -/
def Beg (d t : Sc) : Prop := d = sc0 ∨ (d.num ≠ 0 ∧ d.num = t.num ∧ d.bs = t.bs ∧ d.ba = t.ba ∧ (∃ u, t.ev = d.ev ++ u ∧ (d.sl = true → u = [])) ∧ (d.sl = true → t.sl = true))

def slx (d : Sc) : List Int := if d.sl = true then fr 3 (slP d.ev.length d.s d.a) else []
theorem segL_pos {d : Sc} (h : d.num ≠ 0) : segL d = fr 1 (hdP d.num d.bs d.ba) ++ (recL d.bs d.ba [] d.ev ++ slx d) := by unfold segL; rw [if_neg h]; rfl

theorem seg_cmp {d t : Sc} (hd : ScOK d) (ht : ScOK t) {x y : List Int} (h : segL d ++ x = segL t ++ y) : Beg d t ∨ Beg t d := by
  by_cases h1 : d.num = 0
  · exact .inl (.inl (hd.zero h1))
  by_cases h2 : t.num = 0
  · exact .inr (.inl (ht.zero h2))
  rw [segL_pos h1, segL_pos h2] at h
  simp only [List.append_assoc] at h
  obtain ⟨_, h3, h4⟩ := fr_inj h
  obtain ⟨e1, e2, e3⟩ := hdP_inj (hd.head h1) (ht.head h2) h3
  have o1 := hd.evs h1
  have o2 := ht.evs h2
  rw [e2, e3] at h4 o1
  rcases recL_cmp _ _ _ _ _ _ _ o1 o2 h4 with ⟨u, hu, hx⟩ | ⟨u, hu, hx⟩
  · cases hs : d.sl with
    | false => exact .inl (.inr ⟨h1, e1, e2, e3, ⟨u, hu, fun e => by rw [hs] at e; cases e⟩, fun e => by rw [hs] at e; cases e⟩)
    | true =>
      have hu0 : u = [] := by
        cases u with
        | nil => rfl
        | cons e u =>
          simp only [slx, hs, if_true, recL, List.append_assoc] at hx
          have := (fr_inj hx).1
          omega
      subst hu0
      cases hs2 : t.sl with
      | true => exact .inl (.inr ⟨h1, e1, e2, e3, ⟨[], hu, fun _ => rfl⟩, fun _ => hs2⟩)
      | false => exact .inr (.inr ⟨h2, e1.symm, e2.symm, e3.symm, ⟨[], by simpa using hu.symm, fun _ => rfl⟩, fun e => by rw [hs2] at e; cases e⟩)
  · cases hs : t.sl with
    | false => exact .inr (.inr ⟨h2, e1.symm, e2.symm, e3.symm, ⟨u, hu, fun e => by rw [hs] at e; cases e⟩, fun e => by rw [hs] at e; cases e⟩)
    | true =>
      have hu0 : u = [] := by
        cases u with
        | nil => rfl
        | cons e u =>
          simp only [slx, hs, if_true, recL, List.append_assoc] at hx
          have := (fr_inj hx).1
          omega
      subst hu0
      cases hs2 : d.sl with
      | true => exact .inl (.inr ⟨h1, e1, e2, e3, ⟨[], by simpa using hu.symm, fun _ => rfl⟩, fun _ => hs⟩)
      | false => exact .inl (.inr ⟨h1, e1, e2, e3, ⟨[], by simpa using hu.symm, fun _ => rfl⟩, fun e => by rw [hs2] at e; cases e⟩)

theorem Sc.eq {d t : Sc} (hd : ScOK d) (ht : ScOK t) (h0 : d.num ≠ 0) (h1 : d.num = t.num) (h2 : d.bs = t.bs) (h3 : d.ba = t.ba) (h4 : d.ev = t.ev) (h5 : d.sl = t.sl) : d = t := by
  have f1 := hd.fin h0
  have f2 := ht.fin (h1 ▸ h0)
  rw [h2, h3, h4, ← f2] at f1
  obtain ⟨n, bs, ba, ev, s, a, m, sl⟩ := d
  obtain ⟨n', bs', ba', ev', s', a', m', sl'⟩ := t
  simp only at h1 h2 h3 h4 h5 f1
  simp only [Prod.mk.injEq] at f1
  obtain ⟨g1, g2, g3⟩ := f1
  subst h1 h2 h3 h4 h5 g1 g2 g3
  rfl

theorem okL_seq : ∀ (l : List EvD) (s a : Int) (m : List ByteArray), okL s a m l → s + l.length ≤ (fin3 s a m l).1
  | [], s, _, _, _ => by simp [fin3]
  | e :: l, s, a, m, h => by
    have h1 := okL_seq l e.s e.a _ h.2
    have h2 := h.1.seq
    simp only [fin3, List.length_cons]
    omega

/-- As much as the other one has, or the next frame is to be taken. -/
theorem Beg.next {d t : Sc} (hd : ScOK d) (ht : ScOK t) (h : Beg d t) : d = t ∨ (d.sl = false ∧ ∃ k p r, segL t = segL d ++ (fr k p ++ r) ∧ (1 ≤ k ∧ k ≤ 3) ∧ p.length ≤ 200 ∧ ¬ TakeO d k p false d) := by
  rcases h with rfl | ⟨h0, h1, h2, h3, ⟨u, hu, hs⟩, hl⟩
  · by_cases hn : t.num = 0
    · exact .inl (ht.zero hn).symm
    have hh := ht.head hn
    have hh' := hh
    unfold headOK ctxOK at hh'
    have := hdP_len (n := t.num) (s := t.bs) (a := t.ba) (by omega) (by omega) (by omega)
    refine .inr ⟨rfl, 1, _, _, by rw [segL_pos hn]; rfl, by omega, by omega, ?_⟩
    intro tk
    cases tk with
    | no g1 g2 g3 => exact g1 rfl rfl rfl _ _ _ hh rfl
  · have hn : t.num ≠ 0 := h1 ▸ h0
    have o := ht.evs hn
    have hf := hd.fin h0
    rw [h2, h3] at hf
    have e1 : (fin3 t.bs t.ba [] d.ev).1 = d.s := by rw [← hf]
    have e2 : (fin3 t.bs t.ba [] d.ev).2.1 = d.a := by rw [← hf]
    have e3 : (fin3 t.bs t.ba [] d.ev).2.2 = d.m := by rw [← hf]
    have hsT : segL t = fr 1 (hdP d.num d.bs d.ba) ++ (recL d.bs d.ba [] d.ev ++ (recL d.s d.a d.m u ++ slx t)) := by
      rw [segL_pos hn, h1, h2, h3, hu, recL_app, e1, e2, e3]; simp
    cases u with
    | cons e u =>
      have hsl : d.sl = false := by
        cases h : d.sl with
        | false => rfl
        | true => exact absurd (hs h) (by simp)
      rw [hu] at o
      have o := okL_app _ _ _ _ _ o
      rw [e1, e2, e3] at o
      have := encL_len o.1
      refine .inr ⟨hsl, 2, encL d.s d.a d.m e, recL e.s e.a (bhdN d.m e.c) u ++ slx t, ?_, by omega, by omega, ?_⟩
      · rw [hsT, segL_pos h0]; simp [recL, slx, hsl]
      · intro tk
        cases tk with
        | no g1 g2 g3 => exact g2 hsl h0 rfl e o.1 rfl
    | nil =>
      have hev : d.ev = t.ev := by simpa using hu.symm
      by_cases hsl : d.sl = t.sl
      · exact .inl (Sc.eq hd ht h0 h1 h2 h3 hev hsl)
      have hs1 : d.sl = false := by
        cases h : d.sl with
        | false => rfl
        | true => exact absurd (h.trans (hl h).symm) hsl
      have hs2 : t.sl = true := by
        cases h : t.sl with
        | true => rfl
        | false => exact absurd (hs1.trans h.symm) hsl
      have hft := ht.fin hn
      rw [← hev, ← hf] at hft
      simp only [Prod.mk.injEq] at hft
      obtain ⟨f1, f2, _⟩ := hft
      have hc := hd.ctx h0
      unfold ctxOK at hc
      have hle : (slP d.ev.length d.s d.a).length ≤ 200 := by
        have b2 : (leb d.s.toNat).length ≤ 10 := leb_small (by omega)
        have b3 : (leb d.a.toNat).length ≤ 10 := leb_small (by omega)
        have hq := okL_seq _ _ _ _ (hd.evs h0)
        rw [← hd.fin h0] at hq
        have hh := (hd.head h0).2
        unfold ctxOK at hh
        have b1 : (leb (d.ev.length : Int).toNat).length ≤ 10 := leb_small (by omega)
        simp [slP] at b1 ⊢
        omega
      refine .inr ⟨hs1, 3, slP d.ev.length d.s d.a, [], ?_, by omega, hle, ?_⟩
      · rw [hsT, segL_pos h0]; simp [recL, slx, hs1, hs2, hev, f1, f2]
      · intro tk
        cases tk with
        | no g1 g2 g3 => exact g3 hs1 h0 rfl rfl

theorem Beg.len {d t : Sc} (hd : ScOK d) (ht : ScOK t) (h : Beg d t) : (segL d).length ≤ (segL t).length ∧ ((segL d).length = (segL t).length → d = t) := by
  rcases h.next hd ht with rfl | ⟨_, k, p, r, h1, _, _, _⟩
  · exact ⟨Nat.le_refl _, fun _ => rfl⟩
  · rw [h1]
    simp only [List.length_append, fr_len]
    exact ⟨by omega, fun h => by omega⟩

/-- A reading goes as far as there is something to be read. -/
theorem RdO.far {l : List Int} {d t : Sc} {st : Int} (h : RdO l d st) (ht : ScOK t) (hp : segL t <+: l) : Beg t d := by
  obtain ⟨x, hx⟩ := h.pre
  obtain ⟨y, hy⟩ := hp
  rcases seg_cmp h.ok ht (hx.trans hy.symm) with hb | hb
  · rcases hb.next h.ok ht with rfl | ⟨hs, k, p, r, h1, h2, h3, h4⟩
    · by_cases hn : d.num = 0
      · exact .inl (h.ok.zero hn)
      · exact .inr ⟨hn, rfl, rfl, rfl, ⟨[], by simp, fun _ => rfl⟩, id⟩
    · exfalso
      have hdr : l.drop (segL d).length = fr k p ++ (r ++ y) := by
        rw [← hy, h1]; simp
      have hx := h.ext
      rw [hdr, nextR_fr h2 h3] at hx
      rcases hx with ⟨w, k', p', n, hw, e, _⟩ | ⟨k', p', n, e, tk, _⟩
      · simp only [Prod.mk.injEq] at e
        exact hw e.1.symm
      · simp only [Prod.mk.injEq, true_and] at e
        obtain ⟨rfl, rfl, _⟩ := e
        exact h4 tk
  · exact hb

theorem RdO.whole {d t : Sc} {st : Int} (h : RdO (segL t) d st) (ht : ScOK t) : d = t ∧ st = endW 1 t.sl := by
  have hb := h.far ht (List.prefix_refl _)
  have hl := hb.len ht h.ok
  have hle := h.pre.length_le
  have e := hl.2 (by omega)
  subst e
  refine ⟨rfl, ?_⟩
  have hx := h.ext
  rw [List.drop_length] at hx
  rcases hx with ⟨w, k', p', n, hw, e, hst⟩ | ⟨k', p', n, e, tk, _⟩
  · simp only [nextR, if_true, Prod.mk.injEq] at e
    rw [hst, ← e.1]
  · simp [nextR] at e

theorem RdO.st4 {l : List Int} {d : Sc} {st : Int} (h : RdO l d st) (hs : d.sl = false) : st ≠ 4 := by
  rcases h.ext with ⟨w, k, p, n, hw, e, hst⟩ | ⟨k, p, n, e, tk, hst⟩
  · rw [hst, hs]
    unfold endW
    split
    · simp
    · split <;> omega
  · omega

theorem mkS_ok {n s a : Int} {l : List EvD} (sl : Bool) (h : headOK n s a) (ho : okL s a [] l) : ScOK (mkS n s a l sl) := by
  have hn : n ≠ 0 := by have := h.1; omega
  exact ⟨fun e => absurd e hn, fun _ => h, fun _ => ho, fun _ => rfl⟩

end Go.Proofs.YtbocfphenkidnaaGreatDoor.Seg

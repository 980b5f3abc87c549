/- Layer 7: what the functions of packages names, wire and codec, and of their references, do with plain data: the conditions. -/
import Derived.Test.YtpgahnnbpfeldaaEv
import Derived.Test.YtpgahnnbpfeldaaNam
namespace Go.Proofs.Ytpgahnnbpfeldaa.Cod
open Go Go.Px Go.Proofs
set_option maxRecDepth 100000
set_option linter.unusedVariables false

def SgT : FuncId → Sig := (fun f => bif Nat.beq f 86 then ⟨[], [.own]⟩ else bif Nat.beq f 87 then ⟨[], [.own]⟩ else bif Nat.beq f 89 then ⟨[], [.own]⟩ else bif Nat.beq f 90 then ⟨[], [.own]⟩ else bif Nat.beq f 156 then ⟨[], [.own]⟩ else bif Nat.beq f 157 then ⟨[], [.own]⟩ else bif Nat.beq f 158 then ⟨[], [.own]⟩ else {})
def SvT : TypeId → Sig := fun _ => {}
abbrev cx3 (s a : Int) (ns : List (List SV)) : SV := .agg [I s, I a, SL 1 ns]
abbrev cu3 (bs : List (List SV)) (a e : Int) : SV := .agg [SL 1 bs, I a, I e]

theorem cloneB_nf (rows : List (List SV)) (Q : List SV → Prop) (h : ∀ b : Bool, ((b = true) → rlen rows = 0) → ifB b (Q ([SL 1 []])) (((lsum (rlen []) (rlen rows)) ≤ ((2147483648 : Int))) ∧ (Q ([SL 1 (rapp [] rows)])))) : Ct Try.prog 158 ⟨[], [.own]⟩ [SL 1 rows] Q :=
  fn_of (f := 158) SgT SvT (fun _ => none) Try.f158 Try.func158 (by kernel_rfl) (by kernel_rfl) h

theorem cloneS_nf (rows : List (List SV)) (Q : List SV → Prop) (h : ∀ b : Bool, ((b = true) → rlen rows = 0) → ifB b (Q ([SL 1 []])) (((lsum (rlen []) (rlen rows)) ≤ ((2147483648 : Int))) ∧ (Q ([SL 1 (rapp [] rows)])))) : Ct Try.prog 157 ⟨[], [.own]⟩ [SL 1 rows] Q :=
  fn_of (f := 157) SgT SvT (fun _ => none) Try.f157 Try.func157 (by kernel_rfl) (by kernel_rfl) h

theorem putUint_nf (rows : List (List SV)) (n : Int) (Q : List SV → Prop) (h : Cl Try.prog 158 sO [SL 1 rows] (fun (rs : List SV) => ∃ l : List (List SV), (rs = [SL 1 l]) ∧ (∃ Inv : (List (List SV)) → Int → Prop, ∃ m : (List (List SV)) → Int → Nat, (Inv l n) ∧ (∀ l1 : List (List SV), ∀ x : Int, (Inv l1 x) → ifB (ige x 128) (((lsum (rlen l1) (rlen ([[U8 (wor IntKind.u8 (wcv IntKind.u8 x) 128)]]))) ≤ ((2147483648 : Int))) ∧ (((0 : Int) ≤ 7) ∧ (((Option.some [] : Option (List (List SV))) = Option.some []) ∧ ((Inv (rapp l1 ([[U8 (wor IntKind.u8 (wcv IntKind.u8 x) 128)]])) (wshr IntKind.u64 x 7)) ∧ (Nat.le (Nat.succ (m (rapp l1 ([[U8 (wor IntKind.u8 (wcv IntKind.u8 x) 128)]])) (wshr IntKind.u64 x 7))) (m l1 x)))))) (((lsum (rlen l1) (rlen ([[U8 (wcv IntKind.u8 x)]]))) ≤ ((2147483648 : Int))) ∧ (Q ([SL 1 (rapp l1 ([[U8 (wcv IntKind.u8 x)]]))]))))))) : Ct Try.prog 86 ⟨[], [.own]⟩ [SL 1 rows, U64 n] Q :=
  fn_of (f := 86) SgT SvT (fun _ => none) Try.f86 Try.func86 (by kernel_rfl) (by kernel_rfl) h

theorem putText_nf (rows : List (List SV)) (t : ByteArray) (Q : List SV → Prop) (h : Cl Try.prog 86 sO [SL 1 rows, U64 (wcv IntKind.u64 (slen t))] (fun (rs : List SV) => ∃ l : List (List SV), (rs = [SL 1 l]) ∧ (((lsum (rlen l) (rlen (sbytes t))) ≤ ((2147483648 : Int))) ∧ (Q [SL 1 (rapp l (sbytes t))])))) : Ct Try.prog 87 ⟨[], [.own]⟩ [SL 1 rows, S t] Q :=
  fn_of (f := 87) SgT SvT (fun _ => none) Try.f87 Try.func87 (by kernel_rfl) (by kernel_rfl) h

theorem rputUint_nf (rows : List (List SV)) (n : Int) (Q : List SV → Prop) (h : ((lsum (rlen []) (rlen rows)) ≤ ((2147483648 : Int))) ∧ (∃ Inv : Int → (List (List SV)) → (List (List SV)) → Prop, ∃ m : Int → (List (List SV)) → (List (List SV)) → Nat, (Inv n [] (rapp [] rows)) ∧ (∀ x : Int, ∀ l : List (List SV), ∀ l1 : List (List SV), (Inv x l l1) → (((128 : Int) = 0) → False) ∧ ((((128 : Int) = 0) → False) ∧ (ifB (ieq (wquo IntKind.u64 x 128) 0) (((lsum (rlen l1) (rlen ([[U8 (wcv IntKind.u8 (wrem x 128))]]))) ≤ ((2147483648 : Int))) ∧ (Q ([SV.slice 1 (rapp l1 ([[U8 (wcv IntKind.u8 (wrem x 128))]])) 0]))) (((lsum (rlen l1) (rlen ([[U8 (wadd IntKind.u8 (wcv IntKind.u8 (wrem x 128)) 128)]]))) ≤ ((2147483648 : Int))) ∧ (((Option.some [] : Option (List (List SV))) = Option.some []) ∧ ((Inv (wquo IntKind.u64 x 128) l (rapp l1 ([[U8 (wadd IntKind.u8 (wcv IntKind.u8 (wrem x 128)) 128)]]))) ∧ (Nat.le (Nat.succ (m (wquo IntKind.u64 x 128) l (rapp l1 ([[U8 (wadd IntKind.u8 (wcv IntKind.u8 (wrem x 128)) 128)]])))) (m x l l1)))))))))) : Ct Try.prog 89 ⟨[], [.own]⟩ [SL 1 rows, U64 n] Q :=
  fn_of (f := 89) SgT SvT (fun _ => none) Try.f89 Try.func89 (by kernel_rfl) (by kernel_rfl) h

theorem rputText_nf (rows : List (List SV)) (t : ByteArray) (Q : List SV → Prop) (h : Cl Try.prog 89 sO [SL 1 rows, U64 (wcv IntKind.u64 (slen t))] (fun (rs : List SV) => ∃ l : List (List SV), (rs = [SL 1 l]) ∧ (∃ Inv : (List (List SV)) → Int → Prop, ∃ m : (List (List SV)) → Int → Nat, (Inv l 0) ∧ (∀ l1 : List (List SV), ∀ x : Int, (Inv l1 x) → ifB (ilt x (slen t)) ((((0 : Int) ≤ x) ∧ (x < (slen t))) ∧ (((lsum (rlen l1) (rlen ([[U8 (sbyte t x)]]))) ≤ ((2147483648 : Int))) ∧ (((Option.some [] : Option (List (List SV))) = Option.some []) ∧ ((Inv (rapp l1 ([[U8 (sbyte t x)]])) (wadd IntKind.i64 x 1)) ∧ (Nat.le (Nat.succ (m (rapp l1 ([[U8 (sbyte t x)]])) (wadd IntKind.i64 x 1))) (m l1 x)))))) (Q [SL 1 l1]))))) : Ct Try.prog 90 ⟨[], [.own]⟩ [SL 1 rows, S t] Q :=
  fn_of (f := 90) SgT SvT (fun _ => none) Try.f90 Try.func90 (by kernel_rfl) (by kernel_rfl) h

theorem places_nf (rows : List (List SV)) (Q : List SV → Prop) (h : ∃ Inv : Int → (List (Prod ByteArray Int)) → Prop, ∃ m : Int → (List (Prod ByteArray Int)) → Nat, (Inv 0 []) ∧ (∀ x : Int, ∀ rs : List (Prod ByteArray Int), (Inv x rs) → ifB (ilt x (rlen rows)) ((((0 : Int) ≤ x) ∧ (x < (rlen rows))) ∧ (∃ s : ByteArray, (rget rows x = [S s]) ∧ (ifB (bnot (mhas rs s)) (((Option.some [] : Option (List (List SV))) = Option.some []) ∧ ((Inv (wadd IntKind.i64 x 1) (mset rs s (wadd IntKind.i64 x 1))) ∧ (Nat.le (Nat.succ (m (wadd IntKind.i64 x 1) (mset rs s (wadd IntKind.i64 x 1)))) (m x rs)))) (((Option.some [] : Option (List (List SV))) = Option.some []) ∧ ((Inv (wadd IntKind.i64 x 1) rs) ∧ (Nat.le (Nat.succ (m (wadd IntKind.i64 x 1) rs)) (m x rs))))))) (Q [SV.mapv rs]))) : Ct Try.prog 156 ⟨[], [.own]⟩ [SL 1 rows] Q :=
  fn_of (f := 156) SgT SvT (fun _ => none) Try.f156 Try.func156 (by kernel_rfl) (by kernel_rfl) h

theorem place_nf (rows : List (List SV)) (t : ByteArray) (Q : List SV → Prop) (h : Cl Try.prog 156 sO [SL 1 rows] (fun (rs : List SV) => ∃ rs1 : List (Prod ByteArray Int), (rs = [SV.mapv rs1]) ∧ (Q [I (mget rs1 t)]))) : Ct Try.prog 84 {} [SL 1 rows, S t] Q :=
  fn_of (f := 84) SgT SvT (fun _ => none) Try.f84 Try.func84 (by kernel_rfl) (by kernel_rfl) h

theorem nright1_nf (t : ByteArray) (Q : List SV → Prop) (h : Cl Try.prog 22 sP [S t] (fun (rs : List SV) => ∃ b : Bool, (rs = [B b]) ∧ (Q [B (bnot b)]))) : Ct Try.prog 161 {} [S t] Q :=
  fn_of (f := 161) SgT SvT (fun _ => none) Try.f161 Try.func161 (by kernel_rfl) (by kernel_rfl) h

theorem indexS_nf (rows : List (List SV)) (f : FuncId) (cs : List SV) (Q : List SV → Prop) (h : ∃ Inv : Int → Int → Prop, ∃ m : Int → Int → Nat, (Inv 0 0) ∧ (∀ x : Int, ∀ x1 : Int, (Inv x x1) → ifB (ilt x1 (rlen rows)) ((((0 : Int) ≤ x1) ∧ (x1 < (rlen rows))) ∧ (∃ s : ByteArray, (rget rows x1 = [S s]) ∧ (Cl Try.prog f sP ((S s) :: cs) (fun (rs : List SV) => ∃ b : Bool, (rs = [B b]) ∧ (ifB b (Q [I x1]) (((Option.some [] : Option (List (List SV))) = Option.some []) ∧ ((Inv x (wadd IntKind.i64 x1 1)) ∧ (Nat.le (Nat.succ (m x (wadd IntKind.i64 x1 1))) (m x x1))))))))) (Q [I ((-1 : Int))]))) : Ct Try.prog 185 {} [SL 1 rows, .clo f cs] Q :=
  fn_of (f := 185) SgT SvT (fun _ => none) Try.f185 Try.func185 (by kernel_rfl) (by kernel_rfl) h

theorem contS_nf (rows : List (List SV)) (f : FuncId) (cs : List SV) (Q : List SV → Prop) (h : Cl Try.prog 185 sP [SL 1 rows, SV.clo f cs] (fun (rs : List SV) => ∃ x : Int, (rs = [I x]) ∧ (Q [B (ige x 0)]))) : Ct Try.prog 160 {} [SL 1 rows, .clo f cs] Q :=
  fn_of (f := 160) SgT SvT (fun _ => none) Try.f160 Try.func160 (by kernel_rfl) (by kernel_rfl) h

theorem nright_nf (rows : List (List SV)) (Q : List SV → Prop) (h : ifB (igt (rlen rows) 32) (Q [B false]) (Cl Try.prog 156 sO [SL 1 rows] (fun (rs : List SV) => ∃ rs1 : List (Prod ByteArray Int), (rs = [SV.mapv rs1]) ∧ (ifB (bpick false true (ilt (mlen rs1) (rlen rows))) (Q [B false]) (Cl Try.prog 160 sP ([SL 1 rows, SV.clo 161 []]) (fun (rs2 : List SV) => ∃ b : Bool, (rs2 = [B b]) ∧ (Q [B (bnot b)]))))))) : Ct Try.prog 91 {} [SL 1 rows] Q :=
  fn_of (f := 91) SgT SvT (fun _ => none) Try.f91 Try.func91 (by kernel_rfl) (by kernel_rfl) h

theorem nput_nf (rows : List (List SV)) (t : ByteArray) (Q : List SV → Prop) (h : Cl Try.prog 91 sP [SL 1 rows] (fun (rs : List SV) => ∃ b : Bool, (rs = [B b]) ∧ (ifB (bnot b) (Q [SL 1 rows, I 1]) (Cl Try.prog 22 sP [S t] (fun (rs1 : List SV) => ∃ b1 : Bool, (rs1 = [B b1]) ∧ (ifB (bnot b1) (Q [SL 1 rows, I 3]) (Cl Try.prog 84 sP [SL 1 rows, S t] (fun (rs2 : List SV) => ∃ x : Int, (rs2 = [I x]) ∧ (ifB (igt x 0) (Q [SL 1 rows, I 7]) (ifB (ieq (rlen rows) 32) (Q [SL 1 rows, I 9]) (Cl Try.prog 157 sO [SL 1 rows] (fun (rs3 : List SV) => ∃ l : List (List SV), (rs3 = [SL 1 l]) ∧ (((lsum (rlen l) (rlen ([[S t]]))) ≤ ((2147483648 : Int))) ∧ (Q ([SL 1 (rapp l ([[S t]])), I 0]))))))))))))))) : Ct Try.prog 85 {} [SL 1 rows, S t] Q :=
  fn_of (f := 85) SgT SvT (fun _ => none) Try.f85 Try.func85 (by kernel_rfl) (by kernel_rfl) h

theorem nat_nf (rows : List (List SV)) (p : Int) (Q : List SV → Prop) (h : ifB (bpick (ilt p 1) true (igt p (rlen rows))) (Q ([S (ByteArray.mk (Array.mk [])), I 14])) ((((0 : Int) ≤ (wsub IntKind.i64 p 1)) ∧ ((wsub IntKind.i64 p 1) < (rlen rows))) ∧ (∃ s : ByteArray, (rget rows (wsub IntKind.i64 p 1) = [S s]) ∧ (Q [S s, I 0])))) : Ct Try.prog 166 {} [SL 1 rows, I p] Q :=
  fn_of (f := 166) SgT SvT (fun _ => none) Try.f166 Try.func166 (by kernel_rfl) (by kernel_rfl) h

theorem rnamed_nf (t : ByteArray) (Q : List SV → Prop) (h : Q [B (bpick (igt (slen t) 0) (ilt (slen t) 25) false)]) : Ct Try.prog 162 {} [S t] Q :=
  fn_of (f := 162) SgT SvT (fun _ => none) Try.f162 Try.func162 (by kernel_rfl) (by kernel_rfl) h

theorem rplace_nf (rows : List (List SV)) (t : ByteArray) (Q : List SV → Prop) (h : ∃ Inv : Int → Int → Prop, ∃ m : Int → Int → Nat, (Inv 0 0) ∧ (∀ x : Int, ∀ x1 : Int, (Inv x x1) → ifB (ilt x1 (rlen rows)) ((((0 : Int) ≤ x1) ∧ (x1 < (rlen rows))) ∧ (∃ s : ByteArray, (rget rows x1 = [S s]) ∧ (ifB (seq s t) (Q [I (wadd IntKind.i64 x1 1)]) (((Option.some [] : Option (List (List SV))) = Option.some []) ∧ ((Inv x (wadd IntKind.i64 x1 1)) ∧ (Nat.le (Nat.succ (m x (wadd IntKind.i64 x1 1))) (m x x1))))))) (Q [I 0]))) : Ct Try.prog 35 {} [SL 1 rows, S t] Q :=
  fn_of (f := 35) SgT SvT (fun _ => none) Try.f35 Try.func35 (by kernel_rfl) (by kernel_rfl) h

theorem rright_nf (rows : List (List SV)) (Q : List SV → Prop) (h : ∃ Inv : Bool → Int → Prop, ∃ m : Bool → Int → Nat, (Inv false 0) ∧ (∀ b : Bool, ∀ x : Int, (Inv b x) → ifB (ilt x (rlen rows)) (ifB (igt x 31) (Q [B false]) ((((0 : Int) ≤ x) ∧ (x < (rlen rows))) ∧ (∃ s : ByteArray, (rget rows x = [S s]) ∧ (Cl Try.prog 162 sP [S s] (fun (rs : List SV) => ∃ b1 : Bool, (rs = [B b1]) ∧ (ifB (bpick false true (bnot b1)) (Q [B false]) ((((0 : Int) ≤ x) ∧ (x < (rlen rows))) ∧ (∃ s1 : ByteArray, (rget rows x = [S s1]) ∧ (Cl Try.prog 35 sP [SL 1 rows, S s1] (fun (rs1 : List SV) => ∃ x1 : Int, (rs1 = [I x1]) ∧ (ifB (bpick false true (ine x1 (wadd IntKind.i64 x 1))) (Q [B false]) (((Option.some [] : Option (List (List SV))) = Option.some []) ∧ ((Inv b (wadd IntKind.i64 x 1)) ∧ (Nat.le (Nat.succ (m b (wadd IntKind.i64 x 1))) (m b x))))))))))))))) (Q [B true]))) : Ct Try.prog 92 {} [SL 1 rows] Q :=
  fn_of (f := 92) SgT SvT (fun _ => none) Try.f92 Try.func92 (by kernel_rfl) (by kernel_rfl) h

theorem rput_nf (rows : List (List SV)) (t : ByteArray) (Q : List SV → Prop) (h : Cl Try.prog 92 sP [SL 1 rows] (fun (rs : List SV) => ∃ b : Bool, (rs = [B b]) ∧ (ifB (bnot b) (Q [SL 1 rows, I 1]) (Cl Try.prog 162 sP [S t] (fun (rs1 : List SV) => ∃ b1 : Bool, (rs1 = [B b1]) ∧ (ifB (bnot b1) (Q [SL 1 rows, I 3]) (Cl Try.prog 35 sP [SL 1 rows, S t] (fun (rs2 : List SV) => ∃ x : Int, (rs2 = [I x]) ∧ (ifB (igt x 0) (Q [SL 1 rows, I 7]) (ifB (ige (rlen rows) 32) (Q [SL 1 rows, I 9]) (((lsum (rlen []) (rlen rows)) ≤ ((2147483648 : Int))) ∧ (((lsum (rlen (rapp [] rows)) (rlen ([[S t]]))) ≤ ((2147483648 : Int))) ∧ (Q ([SL 1 (rapp (rapp [] rows) ([[S t]])), I 0])))))))))))))) : Ct Try.prog 159 {} [SL 1 rows, S t] Q :=
  fn_of (f := 159) SgT SvT (fun _ => none) Try.f159 Try.func159 (by kernel_rfl) (by kernel_rfl) h

theorem rsame_nf (rows : List (List SV)) (rows2 : List (List SV)) (Q : List SV → Prop) (h : ifB (ine (rlen rows) (rlen rows2)) (Q [B false]) (∃ Inv : Bool → Int → Prop, ∃ m : Bool → Int → Nat, (Inv false 0) ∧ (∀ b : Bool, ∀ x : Int, (Inv b x) → ifB (ilt x (rlen rows)) ((((0 : Int) ≤ x) ∧ (x < (rlen rows))) ∧ (∃ s : ByteArray, (rget rows x = [S s]) ∧ ((((0 : Int) ≤ x) ∧ (x < (rlen rows2))) ∧ (∃ s1 : ByteArray, (rget rows2 x = [S s1]) ∧ (ifB (sne s s1) (Q [B false]) (((Option.some [] : Option (List (List SV))) = Option.some []) ∧ ((Inv b (wadd IntKind.i64 x 1)) ∧ (Nat.le (Nat.succ (m b (wadd IntKind.i64 x 1))) (m b x))))))))) (Q [B true])))) : Ct Try.prog 93 {} [SL 1 rows, SL 1 rows2] Q :=
  fn_of (f := 93) SgT SvT (fun _ => none) Try.f93 Try.func93 (by kernel_rfl) (by kernel_rfl) h

theorem short_nf (rows : List (List SV)) (Q : List SV → Prop) (h : ∃ Inv : Bool → Int → Prop, ∃ m : Bool → Int → Nat, (Inv false 0) ∧ (∀ b : Bool, ∀ x : Int, (Inv b x) → ifB (ilt x (rlen rows)) ((((0 : Int) ≤ x) ∧ (x < (rlen rows))) ∧ (∃ s : ByteArray, (rget rows x = [S s]) ∧ (ifB (igt (slen s) 100) (Q [B false]) (((Option.some [] : Option (List (List SV))) = Option.some []) ∧ ((Inv b (wadd IntKind.i64 x 1)) ∧ (Nat.le (Nat.succ (m b (wadd IntKind.i64 x 1))) (m b x))))))) (Q [B (ile (rlen rows) 60)]))) : Ct Try.prog 27 {} [SL 1 rows] Q :=
  fn_of (f := 27) SgT SvT (fun _ => none) Try.f27 Try.func27 (by kernel_rfl) (by kernel_rfl) h

theorem clip_nf (rows : List (List SV)) (Q : List SV → Prop) (h : (((0 : Int) ≤ 0) ∧ (((0 : Int) ≤ (rlen rows)) ∧ ((rlen rows = rlen rows) ∧ ((rlen rows) ≤ (rlen rows))))) ∧ (Q [SL 1 (rsub rows 0 (rlen rows))])) : Ct Try.prog 83 {} [SL 1 rows] Q :=
  fn_of (f := 83) SgT SvT (fun _ => none) Try.f83 Try.func83 (by kernel_rfl) (by kernel_rfl) h

theorem cright_nf (cs ca : Int) (ns : List (List SV)) (Q : List SV → Prop) (h : ifB (bpick (bpick (bpick (ige cs 0) (ile cs 4294967296) false) (ige ca 0) false) (ile ca 1099511627776) false) (Cl Try.prog 91 sP [SL 1 ns] (fun (rs : List SV) => ∃ b : Bool, (rs = [B b]) ∧ (Q [B (bpick true b false)]))) (Q [B false])) : Ct Try.prog 30 {} [cx3 cs ca ns] Q :=
  fn_of (f := 30) SgT SvT (fun _ => none) Try.f30 Try.func30 (by kernel_rfl) (by kernel_rfl) h

theorem crright_nf (cs ca : Int) (ns : List (List SV)) (Q : List SV → Prop) (h : ifB (bpick (bpick (bpick (ige cs 0) (ile cs 4294967296) false) (ige ca 0) false) (ile ca 1099511627776) false) (Cl Try.prog 92 sP [SL 1 ns] (fun (rs : List SV) => ∃ b : Bool, (rs = [B b]) ∧ (Q [B (bpick true b false)]))) (Q [B false])) : Ct Try.prog 31 {} [cx3 cs ca ns] Q :=
  fn_of (f := 31) SgT SvT (fun _ => none) Try.f31 Try.func31 (by kernel_rfl) (by kernel_rfl) h

theorem csame_nf (cs ca : Int) (ns : List (List SV)) (cs2 ca2 : Int) (ns2 : List (List SV)) (Q : List SV → Prop) (h : ifB (bpick (ieq cs cs2) (ieq ca ca2) false) (Cl Try.prog 93 sP [SL 1 ns, SL 1 ns2] (fun (rs : List SV) => ∃ b : Bool, (rs = [B b]) ∧ (Q [B (bpick true b false)]))) (Q [B false])) : Ct Try.prog 32 {} [cx3 cs ca ns, cx3 cs2 ca2 ns2] Q :=
  fn_of (f := 32) SgT SvT (fun _ => none) Try.f32 Try.func32 (by kernel_rfl) (by kernel_rfl) h

end Go.Proofs.Ytpgahnnbpfeldaa.Cod

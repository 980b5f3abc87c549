/- Printed conditions of functions. -/
import Derived.Test.YtknnooannohflaaDoorMetN
namespace Go.Proofs.YtknnooannohflaaDoor.Met
open Go Go.Px Go.Proofs 
set_option maxRecDepth 100000
set_option linter.unusedVariables false

theorem mcf_nf (l : LL) (s : ByteArray) (Q : List SV → Prop) (h : Cl Tryd.prog 192 sP ([SL 2 l, SV.clo 174 ([SV.ref 0 [S s]])]) (fun rs => ∃ x, (rs = [I x]) ∧ (Q [B (ige x 0)]))) : Ct Tryd.prog 173 {} [SL 2 l, .clo 174 [.ref 0 [S s]]] Q :=
 fn_of (f := 173) SgT SvT (fun _ => none) Tryd.f173 Tryd.func173 (by kernel_rfl) (by kernel_rfl) h

theorem mhas1_nf (k v s : ByteArray) (Q : List SV → Prop) (h : Q [B (seq k s)]) : Ct Tryd.prog 174 {} [.agg [S k, S v], .ref 0 [S s]] Q :=
 fn_of (f := 174) SgT SvT (fun _ => none) Tryd.f174 Tryd.func174 (by kernel_rfl) (by kernel_rfl) h

theorem midx_nf (l : LL) (s : ByteArray) (Q : List SV → Prop) (h : ∃ Inv : Int → Int → Prop, ∃ m : Int → Int → Nat, (Inv 0 0) ∧ (∀ x x1, (Inv x x1) → ifB (ilt x1 (rlen l)) ((((0 : Int) ≤ x1) ∧ (x1 < (rlen l))) ∧ (∃ s1 s2, (rget l x1 = [S s1, S s2]) ∧ (Cl Tryd.prog 174 sP ([SV.agg [S s1, S s2], SV.ref 0 [S s]]) (fun rs => ∃ b, (rs = [B b]) ∧ (ifB b (Q [I x1]) (((Option.some [] : Option (LL)) = Option.some []) ∧ ((Inv x (wadd .i64 x1 1)) ∧ (Nat.le (Nat.succ (m x (wadd .i64 x1 1))) (m x x1))))))))) (Q [I ((-1 : Int))]))) : Ct Tryd.prog 192 {} [SL 2 l, .clo 174 [.ref 0 [S s]]] Q :=
 fn_of (f := 192) SgT SvT (fun _ => none) Tryd.f192 Tryd.func192 (by kernel_rfl) (by kernel_rfl) h

end Go.Proofs.YtknnooannohflaaDoor.Met

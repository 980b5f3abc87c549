/- Printed conditions of functions. -/
import Derived.Test.YtbocfphenkidnaaGreatDoorSnpA
namespace Go.Proofs.YtbocfphenkidnaaGreatDoor.Snp
open Go Go.Px Go.Proofs 
set_option maxRecDepth 100000
set_option linter.unusedVariables false

theorem nawake_nf  (Q : List SV → Prop) (h : Cl Tryz.prog 41 sP ([SV.agg ([SL 3 [], I 999, I ((-1 : Int)), B false])]) (fun (rs : List SV) => ∃ l : List (List SV), ∃ x : Int, ∃ x1 : Int, ∃ x2 : Int, (rs = [SV.agg [SL 21 l, I x, I x1], I x2]) ∧ (Cl Tryz.prog 38 sP ([SV.agg ([SL 3 [], I 999, I ((-1 : Int)), B false]), SV.agg ([SL 21 [], I 9, I 5])]) (fun (rs1 : List SV) => ∃ l1 : List (List SV), ∃ x3 : Int, ∃ x4 : Int, ∃ b : Bool, ∃ x5 : Int, (rs1 = [SV.agg [SL 3 l1, I x3, I x4, B b], I x5]) ∧ (Cl Tryz.prog 38 sP ([SV.agg [SL 3 l1, I x3, I x4, B b], SV.agg ([SL 21 [], I 4, I 3])]) (fun (rs2 : List SV) => ∃ l2 : List (List SV), ∃ x6 : Int, ∃ x7 : Int, ∃ b1 : Bool, ∃ x8 : Int, (rs2 = [SV.agg [SL 3 l2, I x6, I x7, B b1], I x8]) ∧ (Cl Tryz.prog 41 sP ([SV.agg [SL 3 l2, I x6, I x7, B b1]]) (fun (rs3 : List SV) => ∃ l3 : List (List SV), ∃ x9 : Int, ∃ x10 : Int, ∃ x11 : Int, (rs3 = [SV.agg [SL 21 l3, I x9, I x10], I x11]) ∧ (Cl Tryz.prog 29 sP ([S (ByteArray.mk (Array.mk [115, 110, 97, 112, 46, 48, 48, 48, 48, 48, 48, 48, 48, 48, 57]))]) (fun (rs4 : List SV) => ∃ x12 : Int, ∃ b2 : Bool, (rs4 = [I x12, B b2]) ∧ (ifB (bpick (bpick (bpick (bpick (bpick (bpick (bpick (bpick (ieq x2 14) (ieq x5 0) false) (ieq x8 0) false) (ieq x11 0) false) b2 false) (ieq x12 9) false) (ieq x9 9) false) (ieq x10 5) false) (ieq (rlen l2) 2) false) (Cl Tryz.prog 31 sP [I 4] (fun (rs5 : List SV) => ∃ s : ByteArray, (rs5 = [S s]) ∧ (Q ([B (seq s (ByteArray.mk (Array.mk [115, 110, 97, 112, 46, 48, 48, 48, 48, 48, 48, 48, 48, 48, 52])))])))) (Q [B false])))))))))))) : Ct Tryz.prog 25 {} ([] : List SV) Q :=
  fn_of (f := 25) SgT SvT (fun _ => none) Tryz.f25 Tryz.func25 (by kernel_rfl) (by kernel_rfl) h

end Go.Proofs.YtbocfphenkidnaaGreatDoor.Snp

import Derived.Test.YtaenkbbfockfgaaGreatDoorJoS1q5
import Derived.Test.YtaenkbbfockfgaaGreatDoorJT
set_option linter.all false
namespace Go.Proofs.YtaenkbbfockfgaaGreatDoor
open Go
set_option maxRecDepth 100000
theorem q5_facts:joinedFacts Tryz.prog 5 Tryz.f5 Rows.queryForeignSpec Rows.queryForeignRow=true:=by
 obtain⟨b,a,c⟩:=q5_by;have d:Tryz.prog.recurses 5=true:=by unfold Program.recurses;rw[a];rfl
 simp only[joinedFacts,Jou.laidOut,Jou.mrow,b,a,c,d,beq_self_eq_true,Bool.and_true];decide+kernel
end Go.Proofs.YtaenkbbfockfgaaGreatDoor

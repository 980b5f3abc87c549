import Derived.Test.YtaenkbbfockfgaaGreatDoorJoS1q4
import Derived.Test.YtaenkbbfockfgaaGreatDoorJT
set_option linter.all false
namespace Go.Proofs.YtaenkbbfockfgaaGreatDoor
open Go
set_option maxRecDepth 100000
theorem q4_facts:joinedFacts Tryz.prog 4 Tryz.f4 Rows.queryPagesSpec Rows.queryPagesRow=true:=by
 obtain⟨b,a,c⟩:=q4_by;have d:Tryz.prog.recurses 4=true:=by unfold Program.recurses;rw[a];rfl
 simp only[joinedFacts,Jou.laidOut,Jou.mrow,b,a,c,d,beq_self_eq_true,Bool.and_true];decide+kernel
end Go.Proofs.YtaenkbbfockfgaaGreatDoor

import Derived.Test.YtgehiiginclniaaGreatDoorJoS1
import Derived.Test.YtgehiiginclniaaGreatDoorJT
set_option linter.all false
namespace Go.Proofs.YtgehiiginclniaaGreatDoor
open Go
set_option maxRecDepth 100000
theorem Zte:joinedFacts Tryz.prog 3 Tryz.f3 Rows.journalAgainSpec Rows.journalAgainRow=true:=by
 obtain⟨b,a,c⟩:=again_by;have d:Tryz.prog.recurses 3=true:=by unfold Program.recurses;rw[a];rfl
 simp only[joinedFacts,Jou.laidOut,Jou.mrow,b,a,c,d,beq_self_eq_true,Bool.and_true];decide+kernel
end Go.Proofs.YtgehiiginclniaaGreatDoor

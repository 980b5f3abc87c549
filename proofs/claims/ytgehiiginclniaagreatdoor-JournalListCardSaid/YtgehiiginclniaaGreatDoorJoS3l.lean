import Derived.Test.YtgehiiginclniaaGreatDoorJoS1l
import Derived.Test.YtgehiiginclniaaGreatDoorJT
set_option linter.all false
namespace Go.Proofs.YtgehiiginclniaaGreatDoor
open Go
set_option maxRecDepth 100000
theorem Zwc:joinedFacts Tryz.prog 7 Tryz.f7 Rows.journalListSpec Rows.journalListRow=true:=by
 obtain⟨b,a,c⟩:=list_by;have d:Tryz.prog.recurses 7=true:=by unfold Program.recurses;rw[a];rfl
 simp only[joinedFacts,Jou.laidOut,Jou.mrow,b,a,c,d,beq_self_eq_true,Bool.and_true];decide+kernel
end Go.Proofs.YtgehiiginclniaaGreatDoor

import Derived.Test.YtgehiiginclniaaGreatDoorJoS1c
import Derived.Test.YtgehiiginclniaaGreatDoorJT
set_option linter.all false
namespace Go.Proofs.YtgehiiginclniaaGreatDoor
open Go
set_option maxRecDepth 100000
theorem cut_facts:joinedFacts Tryz.prog 5 Tryz.f5 Rows.journalCutSpec Rows.journalCutRow=true:=by
 obtain⟨b,a,c⟩:=cut_by;have d:Tryz.prog.recurses 5=true:=by unfold Program.recurses;rw[a];rfl
 simp only[joinedFacts,Jou.laidOut,Jou.mrow,b,a,c,d,beq_self_eq_true,Bool.and_true];decide+kernel
end Go.Proofs.YtgehiiginclniaaGreatDoor

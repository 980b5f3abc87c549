import Derived.Test.YtgehiiginclniaaGreatDoorJoS1a
import Derived.Test.YtgehiiginclniaaGreatDoorJT
set_option linter.all false
namespace Go.Proofs.YtgehiiginclniaaGreatDoor
open Go
set_option maxRecDepth 100000
theorem Zsw:joinedFacts Tryz.prog 6 Tryz.f6 Rows.journalLastsSpec Rows.journalLastsRow=true:=by
 obtain⟨b,a,c⟩:=lasts_by;have d:Tryz.prog.recurses 6=true:=by unfold Program.recurses;rw[a];rfl
 simp only[joinedFacts,Jou.laidOut,Jou.mrow,b,a,c,d,beq_self_eq_true,Bool.and_true];decide+kernel
end Go.Proofs.YtgehiiginclniaaGreatDoor

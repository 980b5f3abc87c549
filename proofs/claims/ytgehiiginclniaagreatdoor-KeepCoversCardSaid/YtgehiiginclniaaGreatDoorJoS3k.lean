import Derived.Test.YtgehiiginclniaaGreatDoorJoS1k
import Derived.Test.YtgehiiginclniaaGreatDoorJT
set_option linter.all false
namespace Go.Proofs.YtgehiiginclniaaGreatDoor
open Go
set_option maxRecDepth 100000
theorem Zr4:joinedFacts Tryz.prog 9 Tryz.f9 Rows.keepCoversSpec Rows.keepCoversRow=true:=by
 obtain⟨b,a,c⟩:=covers_by;have d:Tryz.prog.recurses 9=true:=by unfold Program.recurses;rw[a];rfl
 simp only[joinedFacts,Jou.laidOut,Jou.mrow,b,a,c,d,beq_self_eq_true,Bool.and_true];decide+kernel
end Go.Proofs.YtgehiiginclniaaGreatDoor

/- The iterator over groups of eleven samples. -/
import Derived.WalkKit
import Derived.TacticsInMore
import Derived.LoopNIn
import Derived.LoopIn
import Derived.Shelf.Abstract
import Derived.Test.YtknnooannohflaaDoorProg
import Derived.Test.YtknnooannohflaaDoorPxIt
namespace Go.Proofs.YtknnooannohflaaDoor.Met
open Go Go.Px Go.Proofs Go.RowKit Go.Shelf
set_option linter.unusedVariables false

attribute [local go_sem] Oper.semAt_some

def rst (v : Value) : Nat → Value
 | 0 => v
 | k + 1 => match rst v k with
  | .slice a len cap => sliced a (min 11 len) len cap 3
  | x => x
def gyv (v : Value) (k : Nat) : Value :=
 match rst v k with
 | .slice a len cap => sliced a 0 (min 11 len) (min 11 len) 3
 | x => x

def ItG : Nat → Option (FuncId × ItT) := fun (p : Nat) => bif Nat.beq p 10 then some (202, itGrp) else none
end Go.Proofs.YtknnooannohflaaDoor.Met

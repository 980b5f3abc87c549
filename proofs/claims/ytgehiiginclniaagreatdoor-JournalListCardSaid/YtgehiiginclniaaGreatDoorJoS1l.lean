import Derived.JoinedOf
import Derived.KernelRfl
import Derived.Test.YtgehiiginclniaaGreatDoorRows
set_option linter.all false
namespace Go.Proofs.YtgehiiginclniaaGreatDoor
open Go
set_option maxRecDepth 100000
theorem threel{a b:List String}{c:Bool}{d e:List String}(h:(a==b&&c&&(d==e))=true):a=b∧c=true∧d=e:=by simpa[and_assoc]using h
theorem list_by:Tryz.prog.inPlace 7=Rows.journalListRow.inPlace∧Tryz.prog.unfollowed 7=true∧Tryz.prog.varsNamed 7=Rows.journalListRow.named:=threel (by kernel_rfl)
end Go.Proofs.YtgehiiginclniaaGreatDoor

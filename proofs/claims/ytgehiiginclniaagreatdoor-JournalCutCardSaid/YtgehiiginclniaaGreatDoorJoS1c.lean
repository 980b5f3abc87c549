import Derived.JoinedOf
import Derived.KernelRfl
import Derived.Test.YtgehiiginclniaaGreatDoorRows
set_option linter.all false
namespace Go.Proofs.YtgehiiginclniaaGreatDoor
open Go
set_option maxRecDepth 100000
theorem three{a b:List String}{c:Bool}{d e:List String}(h:(a==b&&c&&(d==e))=true):a=b∧c=true∧d=e:=by simpa[and_assoc]using h
theorem cut_by:Tryz.prog.inPlace 5=Rows.journalCutRow.inPlace∧Tryz.prog.unfollowed 5=true∧Tryz.prog.varsNamed 5=Rows.journalCutRow.named:=three (by kernel_rfl)
end Go.Proofs.YtgehiiginclniaaGreatDoor

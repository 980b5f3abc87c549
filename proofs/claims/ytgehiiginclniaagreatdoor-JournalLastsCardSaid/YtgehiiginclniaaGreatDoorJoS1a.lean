import Derived.JoinedOf
import Derived.KernelRfl
import Derived.Test.YtgehiiginclniaaGreatDoorRows
set_option linter.all false
namespace Go.Proofs.YtgehiiginclniaaGreatDoor
open Go
set_option maxRecDepth 100000
theorem threea{a b:List String}{c:Bool}{d e:List String}(h:(a==b&&c&&(d==e))=true):a=b∧c=true∧d=e:=by simpa[and_assoc]using h
theorem lasts_by:Tryz.prog.inPlace 6=Rows.journalLastsRow.inPlace∧Tryz.prog.unfollowed 6=true∧Tryz.prog.varsNamed 6=Rows.journalLastsRow.named:=threea (by kernel_rfl)
end Go.Proofs.YtgehiiginclniaaGreatDoor

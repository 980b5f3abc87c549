import Derived.JoinedOf
import Derived.KernelRfl
import Derived.Test.YtgehiiginclniaaGreatDoorRows
set_option linter.all false
namespace Go.Proofs.YtgehiiginclniaaGreatDoor
open Go
set_option maxRecDepth 100000
theorem threek{a b:List String}{c:Bool}{d e:List String}(h:(a==b&&c&&(d==e))=true):a=b∧c=true∧d=e:=by simpa[and_assoc]using h
theorem covers_by:Tryz.prog.inPlace 9=Rows.keepCoversRow.inPlace∧Tryz.prog.unfollowed 9=true∧Tryz.prog.varsNamed 9=Rows.keepCoversRow.named:=threek (by kernel_rfl)
end Go.Proofs.YtgehiiginclniaaGreatDoor

import Derived.JoinedOf
import Derived.KernelRfl
import Derived.Test.YtaenkbbfockfgaaGreatDoorRows
set_option linter.all false
namespace Go.Proofs.YtaenkbbfockfgaaGreatDoor
open Go
set_option maxRecDepth 100000
theorem threeq4{a b:List String}{c:Bool}{d e:List String}(h:(a==b&&c&&(d==e))=true):a=b∧c=true∧d=e:=by simpa[and_assoc]using h
theorem q4_by:Tryz.prog.inPlace 4=Rows.queryPagesRow.inPlace∧Tryz.prog.unfollowed 4=true∧Tryz.prog.varsNamed 4=Rows.queryPagesRow.named:=threeq4 (by kernel_rfl)
end Go.Proofs.YtaenkbbfockfgaaGreatDoor

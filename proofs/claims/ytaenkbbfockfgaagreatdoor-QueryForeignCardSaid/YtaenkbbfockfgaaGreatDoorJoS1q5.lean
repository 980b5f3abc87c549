import Derived.JoinedOf
import Derived.KernelRfl
import Derived.Test.YtaenkbbfockfgaaGreatDoorRows
set_option linter.all false
namespace Go.Proofs.YtaenkbbfockfgaaGreatDoor
open Go
set_option maxRecDepth 100000
theorem threeq5{a b:List String}{c:Bool}{d e:List String}(h:(a==b&&c&&(d==e))=true):a=b∧c=true∧d=e:=by simpa[and_assoc]using h
theorem q5_by:Tryz.prog.inPlace 5=Rows.queryForeignRow.inPlace∧Tryz.prog.unfollowed 5=true∧Tryz.prog.varsNamed 5=Rows.queryForeignRow.named:=threeq5 (by kernel_rfl)
end Go.Proofs.YtaenkbbfockfgaaGreatDoor

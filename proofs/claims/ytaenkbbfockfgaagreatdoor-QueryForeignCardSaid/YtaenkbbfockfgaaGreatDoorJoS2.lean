import Derived.JoinedOf
import Derived.KernelRfl
import GoSem.ClaimGoes
import Derived.Test.YtaenkbbfockfgaaGreatDoorRows
set_option linter.all false
namespace Go.Proofs.YtaenkbbfockfgaaGreatDoor
open Go
set_option maxRecDepth 100000
theorem goes_no{P:Program}{c:OpenClaim}(b:c.start= .entering)(h:P.funcs.toList.any Func.goes=false):false=c.goesBy P:=by
 have e:∀a∈P.funcs,Func.goes a=false:=λa d=>by
  have:=List.any_eq_false.1 h a (Array.mem_toList_iff.2 d)
  simpa using this
 have i:∀f,P.goes f=false:=λf=>by
  unfold Program.goes;rw[Bool.or_eq_false_iff];refine⟨List.any_eq_false.2 (λg _=>?_),?_⟩
  ·cases hg:P.funcs[g]? with
   |none=>simp
   |some a=>simp[e a (Array.mem_of_getElem? hg)]
  ·rw[Bool.and_eq_false_iff];right;rw[←Array.any_toList];exact h
 unfold OpenClaim.goesBy Program.goesAt Program.goesFrom;rw[b]
 cases P.funcNamed c.func with
 |none=>rfl
 |some f=>simp[i]
theorem Zz9:Tryz.prog.funcs.toList.any Func.goes=false:=by kernel_rfl
end Go.Proofs.YtaenkbbfockfgaaGreatDoor

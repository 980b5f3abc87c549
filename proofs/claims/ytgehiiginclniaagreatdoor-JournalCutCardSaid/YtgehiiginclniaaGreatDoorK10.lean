import Derived.Test.YtgehiiginclniaaGreatDoorK09
import Derived.Test.YtgehiiginclniaaGreatDoorProg
import Derived.Laws.Externs
import Derived.Shelf.LaysM
import Derived.Shelf.Strconv.Itoa4
import Derived.Shelf.Strings.Repeat
set_option linter.all false
set_option maxRecDepth 100000
namespace Go.Proofs.YtgehiiginclniaaGreatDoor
namespace Ins
open Go Go.Px Go.Proofs Tryz
abbrev OO:Sig:=⟨[.own],[.own]⟩
def SgT:FuncId→Sig:=(λf=>bif Nat.beq f 248 then⟨[.own],[.own]⟩else bif Nat.beq f 177 then⟨[.own],[.own]⟩else bif Nat.beq f 135 then⟨[.own],[.own]⟩else bif Nat.beq f 311 then⟨[.own],[.own]⟩else{})
def SvT:TypeId→Sig:=λ_=>{}
def Zxv{rows:LL}{i j:Int}{Q:QQ}(h:∀x,((rlen rows)≤x)→(x≤9223372036854775807)→(((0:Int)≤i)∧(i≤j)∧(j≤(rlen rows))∧(rlen rows)≤(isub x 0))∧ifB (ieq i j) (((rlen rows)≤(rlen rows))∧Q [SL 3 (rsub rows 0 (rlen rows))]) ((((0:Int)≤0)∧((0:Int)≤i)∧i≤(isub x 0))∧(((0:Int)≤j)∧(j≤(isub (rlen rows) 0))∧(isub (rlen rows) 0)≤(isub x 0))∧((0:Int)≤(isub (rlen rows) (rlen rows)))∧((lsum 0 i)≤(rlen rows))∧(((lsum (lsum 0 i) (rlen (rsub rows (lsum 0 j) (rlen rows))))≤x)→(((0:Int)≤(isub (lsum (lsum 0 i) (rlen (rsub rows (lsum 0 j) (rlen rows)))) 0))∧((isub (lsum (lsum 0 i) (rlen (rsub rows (lsum 0 j) (rlen rows)))) 0)≤(isub (rlen rows) 0))∧(isub (rlen rows) 0)≤(isub x 0))∧((lsum 0 (isub (lsum (lsum 0 i) (rlen (rsub rows (lsum 0 j) (rlen rows)))) 0))≤(rlen (rput rows (lsum 0 i) (rsub rows (lsum 0 j) (rlen rows)))))∧((lsum (lsum 0 i) (rlen (rsub rows (lsum 0 j) (rlen rows))))≤(rlen (rput (rput rows (lsum 0 i) (rsub rows (lsum 0 j) (rlen rows))) (lsum 0 (isub (lsum (lsum 0 i) (rlen (rsub rows (lsum 0 j) (rlen rows)))) 0)) (rrep (isub (lsum 0 (isub (rlen rows) 0)) (lsum 0 (isub (lsum (lsum 0 i) (rlen (rsub rows (lsum 0 j) (rlen rows)))) 0))) ([S (bA []),SL 1 [],SL 1 []])))))∧Q ([SV.slice 3 (rsub (rput (rput rows (lsum 0 i) (rsub rows (lsum 0 j) (rlen rows))) (lsum 0 (isub (lsum (lsum 0 i) (rlen (rsub rows (lsum 0 j) (rlen rows)))) 0)) (rrep (isub (lsum 0 (isub (rlen rows) 0)) (lsum 0 (isub (lsum (lsum 0 i) (rlen (rsub rows (lsum 0 j) (rlen rows)))) 0))) ([S (bA []),SL 1 [],SL 1 []]))) 0 (lsum (lsum 0 i) (rlen (rsub rows (lsum 0 j) (rlen rows))))) 0]))∧((x<(lsum (lsum 0 i) (rlen (rsub rows (lsum 0 j) (rlen rows)))))→((lsum (isub (lsum 0 i) 0) (rlen (rsub rows (lsum 0 j) (rlen rows))))≤2147483648)∧∀a,((rlen (rapp (rsub rows 0 (lsum 0 i)) (rsub rows (lsum 0 j) (rlen rows))))≤a)→(a≤9223372036854775807)→(((0:Int)≤(rlen (rapp (rsub rows 0 (lsum 0 i)) (rsub rows (lsum 0 j) (rlen rows)))))∧((rlen (rapp (rsub rows 0 (lsum 0 i)) (rsub rows (lsum 0 j) (rlen rows))))≤(isub (rlen rows) 0))∧(isub (rlen rows) 0)≤(isub a 0))∧((lsum 0 (rlen (rapp (rsub rows 0 (lsum 0 i)) (rsub rows (lsum 0 j) (rlen rows)))))≤(rlen (rapp (rsub rows 0 (lsum 0 i)) (rsub rows (lsum 0 j) (rlen rows)))))∧((rlen (rapp (rsub rows 0 (lsum 0 i)) (rsub rows (lsum 0 j) (rlen rows))))≤(rlen (rput (rapp (rsub rows 0 (lsum 0 i)) (rsub rows (lsum 0 j) (rlen rows))) (lsum 0 (rlen (rapp (rsub rows 0 (lsum 0 i)) (rsub rows (lsum 0 j) (rlen rows))))) (rrep (isub (lsum 0 (isub (rlen rows) 0)) (lsum 0 (rlen (rapp (rsub rows 0 (lsum 0 i)) (rsub rows (lsum 0 j) (rlen rows)))))) ([S (bA []),SL 1 [],SL 1 []])))))∧Q ([SV.slice 3 (rsub (rput (rapp (rsub rows 0 (lsum 0 i)) (rsub rows (lsum 0 j) (rlen rows))) (lsum 0 (rlen (rapp (rsub rows 0 (lsum 0 i)) (rsub rows (lsum 0 j) (rlen rows))))) (rrep (isub (lsum 0 (isub (rlen rows) 0)) (lsum 0 (rlen (rapp (rsub rows 0 (lsum 0 i)) (rsub rows (lsum 0 j) (rlen rows)))))) ([S (bA []),SL 1 [],SL 1 []]))) 0 (rlen (rapp (rsub rows 0 (lsum 0 i)) (rsub rows (lsum 0 j) (rlen rows))))) 0])))):Ct prog 177 ⟨[.own],[.own]⟩ [SL 3 rows,I i,I j] Q:=
 fO SgT SvT (λk=>bif Nat.beq k 3000000 then some ({}:LoopSpec)else none) func177 h
def Zxw{rows:LL}{i:Int}{v:LL}{Q:QQ}(h:∀x,((rlen rows)≤x)→(x≤9223372036854775807)→(((0:Int)≤i)∧(i≤(isub (rlen rows) 0))∧(isub (rlen rows) 0)≤(isub x 0))∧ifB (ieq (rlen v) 0) (((rlen rows)≤(rlen rows))∧Q [SL 3 (rsub rows 0 (rlen rows))]) (ifB (ieq i (isub (rlen rows) 0)) (((rlen rows)≤(rlen rows))∧(((lsum (rlen rows) (rlen v))≤x)→((lsum (rlen rows) (rlen v))≤(rlen (rput rows (rlen rows) v)))∧Q [SL 3 (rsub (rput rows (rlen rows) v) 0 (lsum (rlen rows) (rlen v)))])∧((x<(lsum (rlen rows) (rlen v)))→((lsum (isub (rlen rows) 0) (rlen v))≤2147483648)∧Q [SL 3 (rapp (rsub rows 0 (rlen rows)) v)])) (ifB (igt (wadd .i64 (isub (rlen rows) 0) (rlen v)) (isub x 0)) ((((0:Int)≤0)∧((0:Int)≤i)∧i≤(isub x 0))∧((((0:Int)≤(wsub .i64 (wadd .i64 (isub (rlen rows) 0) (rlen v)) i))∧(wsub .i64 (wadd .i64 (isub (rlen rows) 0) (rlen v)) i)≤2147483648)∧(x<(lsum (lsum 0 i) (wsub .i64 (wadd .i64 (isub (rlen rows) 0) (rlen v)) i)))∧(lsum (isub (lsum 0 i) 0) (wsub .i64 (wadd .i64 (isub (rlen rows) 0) (rlen v)) i))≤2147483648)∧(((lsum 0 i)≤(rlen rows))→∀a,((lsum (isub (lsum 0 i) 0) (wsub .i64 (wadd .i64 (isub (rlen rows) 0) (rlen v)) i))≤a)→(a≤9223372036854775807)→(((0:Int)≤i)∧(i≤(isub (lsum (isub (lsum 0 i) 0) (wsub .i64 (wadd .i64 (isub (rlen rows) 0) (rlen v)) i)) 0))∧(isub (lsum (isub (lsum 0 i) 0) (wsub .i64 (wadd .i64 (isub (rlen rows) 0) (rlen v)) i)) 0)≤(isub a 0))∧(((lsum 0 i)≤(rlen (rapp (rsub rows 0 (lsum 0 i)) (rrep (wsub .i64 (wadd .i64 (isub (rlen rows) 0) (rlen v)) i) ([S (bA []),SL 1 [],SL 1 []])))))∧(rlen v)≤(isub (lsum (isub (lsum 0 i) 0) (wsub .i64 (wadd .i64 (isub (rlen rows) 0) (rlen v)) i)) (lsum 0 i)))∧(((0:Int)≤(wadd .i64 i (rlen v)))∧((wadd .i64 i (rlen v))≤(isub (lsum (isub (lsum 0 i) 0) (wsub .i64 (wadd .i64 (isub (rlen rows) 0) (rlen v)) i)) 0))∧(isub (lsum (isub (lsum 0 i) 0) (wsub .i64 (wadd .i64 (isub (rlen rows) 0) (rlen v)) i)) 0)≤(isub a 0))∧(((0:Int)≤i)∧(i≤(isub (rlen rows) 0))∧(isub (rlen rows) 0)≤(isub x 0))∧(((lsum 0 (wadd .i64 i (rlen v)))≤(rlen (rput (rapp (rsub rows 0 (lsum 0 i)) (rrep (wsub .i64 (wadd .i64 (isub (rlen rows) 0) (rlen v)) i) ([S (bA []),SL 1 [],SL 1 []]))) (lsum 0 i) v)))∧(lsum (lsum 0 i) (imin (isub (rlen rows) (lsum 0 i)) (isub (lsum (isub (lsum 0 i) 0) (wsub .i64 (wadd .i64 (isub (rlen rows) 0) (rlen v)) i)) (lsum 0 (wadd .i64 i (rlen v))))))≤(rlen rows))∧((lsum (isub (lsum 0 i) 0) (wsub .i64 (wadd .i64 (isub (rlen rows) 0) (rlen v)) i))≤(rlen (rput (rput (rapp (rsub rows 0 (lsum 0 i)) (rrep (wsub .i64 (wadd .i64 (isub (rlen rows) 0) (rlen v)) i) ([S (bA []),SL 1 [],SL 1 []]))) (lsum 0 i) v) (lsum 0 (wadd .i64 i (rlen v))) (rsub rows (lsum 0 i) (lsum (lsum 0 i) (imin (isub (rlen rows) (lsum 0 i)) (isub (lsum (isub (lsum 0 i) 0) (wsub .i64 (wadd .i64 (isub (rlen rows) 0) (rlen v)) i)) (lsum 0 (wadd .i64 i (rlen v))))))))))∧Q ([SV.slice 3 (rsub (rput (rput (rapp (rsub rows 0 (lsum 0 i)) (rrep (wsub .i64 (wadd .i64 (isub (rlen rows) 0) (rlen v)) i) ([S (bA []),SL 1 [],SL 1 []]))) (lsum 0 i) v) (lsum 0 (wadd .i64 i (rlen v))) (rsub rows (lsum 0 i) (lsum (lsum 0 i) (imin (isub (rlen rows) (lsum 0 i)) (isub (lsum (isub (lsum 0 i) 0) (wsub .i64 (wadd .i64 (isub (rlen rows) 0) (rlen v)) i)) (lsum 0 (wadd .i64 i (rlen v)))))))) 0 (lsum (isub (lsum 0 i) 0) (wsub .i64 (wadd .i64 (isub (rlen rows) 0) (rlen v)) i))) 0]))∧(((rlen rows)<(lsum 0 i))→∀a,((lsum (isub (lsum 0 i) 0) (wsub .i64 (wadd .i64 (isub (rlen rows) 0) (rlen v)) i))≤a)→(a≤9223372036854775807)→(((0:Int)≤i)∧(i≤(isub (lsum (isub (lsum 0 i) 0) (wsub .i64 (wadd .i64 (isub (rlen rows) 0) (rlen v)) i)) 0))∧(isub (lsum (isub (lsum 0 i) 0) (wsub .i64 (wadd .i64 (isub (rlen rows) 0) (rlen v)) i)) 0)≤(isub a 0))∧(((lsum 0 i)≤(rlen (rsub rows 0 (rlen rows))))∧(rlen v)≤(isub (lsum (isub (lsum 0 i) 0) (wsub .i64 (wadd .i64 (isub (rlen rows) 0) (rlen v)) i)) (lsum 0 i)))∧(((0:Int)≤(wadd .i64 i (rlen v)))∧((wadd .i64 i (rlen v))≤(isub (lsum (isub (lsum 0 i) 0) (wsub .i64 (wadd .i64 (isub (rlen rows) 0) (rlen v)) i)) 0))∧(isub (lsum (isub (lsum 0 i) 0) (wsub .i64 (wadd .i64 (isub (rlen rows) 0) (rlen v)) i)) 0)≤(isub a 0))∧(((0:Int)≤i)∧(i≤(isub (rlen rows) 0))∧(isub (rlen rows) 0)≤(isub x 0))∧(((lsum 0 (wadd .i64 i (rlen v)))≤(rlen (rput (rsub rows 0 (rlen rows)) (lsum 0 i) v)))∧(lsum (lsum 0 i) (imin (isub (rlen rows) (lsum 0 i)) (isub (lsum (isub (lsum 0 i) 0) (wsub .i64 (wadd .i64 (isub (rlen rows) 0) (rlen v)) i)) (lsum 0 (wadd .i64 i (rlen v))))))≤(rlen rows))∧((lsum (isub (lsum 0 i) 0) (wsub .i64 (wadd .i64 (isub (rlen rows) 0) (rlen v)) i))≤(rlen (rput (rput (rsub rows 0 (rlen rows)) (lsum 0 i) v) (lsum 0 (wadd .i64 i (rlen v))) (rsub rows (lsum 0 i) (lsum (lsum 0 i) (imin (isub (rlen rows) (lsum 0 i)) (isub (lsum (isub (lsum 0 i) 0) (wsub .i64 (wadd .i64 (isub (rlen rows) 0) (rlen v)) i)) (lsum 0 (wadd .i64 i (rlen v))))))))))∧Q [SV.slice 3 (rsub (rput (rput (rsub rows 0 (rlen rows)) (lsum 0 i) v) (lsum 0 (wadd .i64 i (rlen v))) (rsub rows (lsum 0 i) (lsum (lsum 0 i) (imin (isub (rlen rows) (lsum 0 i)) (isub (lsum (isub (lsum 0 i) 0) (wsub .i64 (wadd .i64 (isub (rlen rows) 0) (rlen v)) i)) (lsum 0 (wadd .i64 i (rlen v)))))))) 0 (lsum (isub (lsum 0 i) 0) (wsub .i64 (wadd .i64 (isub (rlen rows) 0) (rlen v)) i))) 0])) ((((0:Int)≤0)∧((0:Int)≤(wadd .i64 (isub (rlen rows) 0) (rlen v)))∧(wadd .i64 (isub (rlen rows) 0) (rlen v))≤(isub x 0))∧(((0:Int)≤(wadd .i64 i (rlen v)))∧((wadd .i64 i (rlen v))≤(isub (lsum 0 (wadd .i64 (isub (rlen rows) 0) (rlen v))) 0))∧(isub (lsum 0 (wadd .i64 (isub (rlen rows) 0) (rlen v))) 0)≤(isub x 0))∧(fovl prog 346 22)∧ifB (bnot false) ((((0:Int)≤(wadd .i64 i (rlen v)))∧((wadd .i64 i (rlen v))≤(isub (lsum 0 (wadd .i64 (isub (rlen rows) 0) (rlen v))) 0))∧(isub (lsum 0 (wadd .i64 (isub (rlen rows) 0) (rlen v))) 0)≤(isub x 0))∧(((0:Int)≤i)∧(i≤(isub (lsum 0 (wadd .i64 (isub (rlen rows) 0) (rlen v))) 0))∧(isub (lsum 0 (wadd .i64 (isub (rlen rows) 0) (rlen v))) 0)≤(isub x 0))∧(((lsum 0 (wadd .i64 i (rlen v)))≤(rlen rows))∧(lsum (lsum 0 i) (imin (isub (lsum 0 (wadd .i64 (isub (rlen rows) 0) (rlen v))) (lsum 0 i)) (isub (lsum 0 (wadd .i64 (isub (rlen rows) 0) (rlen v))) (lsum 0 (wadd .i64 i (rlen v))))))≤(rlen rows))∧(((0:Int)≤i)∧(i≤(isub (lsum 0 (wadd .i64 (isub (rlen rows) 0) (rlen v))) 0))∧(isub (lsum 0 (wadd .i64 (isub (rlen rows) 0) (rlen v))) 0)≤(isub x 0))∧(((lsum 0 i)≤(rlen (rput rows (lsum 0 (wadd .i64 i (rlen v))) (rsub rows (lsum 0 i) (lsum (lsum 0 i) (imin (isub (lsum 0 (wadd .i64 (isub (rlen rows) 0) (rlen v))) (lsum 0 i)) (isub (lsum 0 (wadd .i64 (isub (rlen rows) 0) (rlen v))) (lsum 0 (wadd .i64 i (rlen v))))))))))∧(rlen v)≤(isub (lsum 0 (wadd .i64 (isub (rlen rows) 0) (rlen v))) (lsum 0 i)))∧((lsum 0 (wadd .i64 (isub (rlen rows) 0) (rlen v)))≤(rlen (rput (rput rows (lsum 0 (wadd .i64 i (rlen v))) (rsub rows (lsum 0 i) (lsum (lsum 0 i) (imin (isub (lsum 0 (wadd .i64 (isub (rlen rows) 0) (rlen v))) (lsum 0 i)) (isub (lsum 0 (wadd .i64 (isub (rlen rows) 0) (rlen v))) (lsum 0 (wadd .i64 i (rlen v)))))))) (lsum 0 i) v)))∧Q [SV.slice 3 (rsub (rput (rput rows (lsum 0 (wadd .i64 i (rlen v))) (rsub rows (lsum 0 i) (lsum (lsum 0 i) (imin (isub (lsum 0 (wadd .i64 (isub (rlen rows) 0) (rlen v))) (lsum 0 i)) (isub (lsum 0 (wadd .i64 (isub (rlen rows) 0) (rlen v))) (lsum 0 (wadd .i64 i (rlen v)))))))) (lsum 0 i) v) 0 (lsum 0 (wadd .i64 (isub (rlen rows) 0) (rlen v)))) 0]) ((((0:Int)≤(isub (rlen rows) 0))∧((isub (rlen rows) 0)≤(isub (lsum 0 (wadd .i64 (isub (rlen rows) 0) (rlen v))) 0))∧(isub (lsum 0 (wadd .i64 (isub (rlen rows) 0) (rlen v))) 0)≤(isub x 0))∧(((lsum 0 (isub (rlen rows) 0))≤(rlen rows))∧(rlen v)≤(isub (lsum 0 (wadd .i64 (isub (rlen rows) 0) (rlen v))) (lsum 0 (isub (rlen rows) 0))))∧(((0:Int)≤i)∧(i≤(isub (lsum 0 (wadd .i64 (isub (rlen rows) 0) (rlen v))) 0))∧(isub (lsum 0 (wadd .i64 (isub (rlen rows) 0) (rlen v))) 0)≤(isub x 0))∧False))))):Ct prog 311 ⟨[.own],[.own]⟩ [SL 3 rows,I i,SL 3 v] Q:=
 fO SgT SvT (λk=>bif Nat.beq k 3000000 then some ({}:LoopSpec)else none) func311 h
def Zxx{rows:LL}{i:Int}{v:LL}{Q:QQ}(h:∀x,((rlen rows)≤x)→(x≤9223372036854775807)→(((0:Int)≤i)∧(i≤(isub (rlen rows) 0))∧(isub (rlen rows) 0)≤(isub x 0))∧ifB (ieq (rlen v) 0) (((rlen rows)≤(rlen rows))∧Q [SL 21 (rsub rows 0 (rlen rows))]) (ifB (ieq i (isub (rlen rows) 0)) (((rlen rows)≤(rlen rows))∧(((lsum (rlen rows) (rlen v))≤x)→((lsum (rlen rows) (rlen v))≤(rlen (rput rows (rlen rows) v)))∧Q [SL 21 (rsub (rput rows (rlen rows) v) 0 (lsum (rlen rows) (rlen v)))])∧((x<(lsum (rlen rows) (rlen v)))→((lsum (isub (rlen rows) 0) (rlen v))≤2147483648)∧Q [SL 21 (rapp (rsub rows 0 (rlen rows)) v)])) (ifB (igt (wadd .i64 (isub (rlen rows) 0) (rlen v)) (isub x 0)) ((((0:Int)≤0)∧((0:Int)≤i)∧i≤(isub x 0))∧((((0:Int)≤(wsub .i64 (wadd .i64 (isub (rlen rows) 0) (rlen v)) i))∧(wsub .i64 (wadd .i64 (isub (rlen rows) 0) (rlen v)) i)≤2147483648)∧(x<(lsum (lsum 0 i) (wsub .i64 (wadd .i64 (isub (rlen rows) 0) (rlen v)) i)))∧(lsum (isub (lsum 0 i) 0) (wsub .i64 (wadd .i64 (isub (rlen rows) 0) (rlen v)) i))≤2147483648)∧(((lsum 0 i)≤(rlen rows))→∀a,((lsum (isub (lsum 0 i) 0) (wsub .i64 (wadd .i64 (isub (rlen rows) 0) (rlen v)) i))≤a)→(a≤9223372036854775807)→(((0:Int)≤i)∧(i≤(isub (lsum (isub (lsum 0 i) 0) (wsub .i64 (wadd .i64 (isub (rlen rows) 0) (rlen v)) i)) 0))∧(isub (lsum (isub (lsum 0 i) 0) (wsub .i64 (wadd .i64 (isub (rlen rows) 0) (rlen v)) i)) 0)≤(isub a 0))∧(((lsum 0 i)≤(rlen (rapp (rsub rows 0 (lsum 0 i)) (rrep (wsub .i64 (wadd .i64 (isub (rlen rows) 0) (rlen v)) i) (zC)))))∧(rlen v)≤(isub (lsum (isub (lsum 0 i) 0) (wsub .i64 (wadd .i64 (isub (rlen rows) 0) (rlen v)) i)) (lsum 0 i)))∧(((0:Int)≤(wadd .i64 i (rlen v)))∧((wadd .i64 i (rlen v))≤(isub (lsum (isub (lsum 0 i) 0) (wsub .i64 (wadd .i64 (isub (rlen rows) 0) (rlen v)) i)) 0))∧(isub (lsum (isub (lsum 0 i) 0) (wsub .i64 (wadd .i64 (isub (rlen rows) 0) (rlen v)) i)) 0)≤(isub a 0))∧(((0:Int)≤i)∧(i≤(isub (rlen rows) 0))∧(isub (rlen rows) 0)≤(isub x 0))∧(((lsum 0 (wadd .i64 i (rlen v)))≤(rlen (rput (rapp (rsub rows 0 (lsum 0 i)) (rrep (wsub .i64 (wadd .i64 (isub (rlen rows) 0) (rlen v)) i) (zC))) (lsum 0 i) v)))∧(lsum (lsum 0 i) (imin (isub (rlen rows) (lsum 0 i)) (isub (lsum (isub (lsum 0 i) 0) (wsub .i64 (wadd .i64 (isub (rlen rows) 0) (rlen v)) i)) (lsum 0 (wadd .i64 i (rlen v))))))≤(rlen rows))∧((lsum (isub (lsum 0 i) 0) (wsub .i64 (wadd .i64 (isub (rlen rows) 0) (rlen v)) i))≤(rlen (rput (rput (rapp (rsub rows 0 (lsum 0 i)) (rrep (wsub .i64 (wadd .i64 (isub (rlen rows) 0) (rlen v)) i) (zC))) (lsum 0 i) v) (lsum 0 (wadd .i64 i (rlen v))) (rsub rows (lsum 0 i) (lsum (lsum 0 i) (imin (isub (rlen rows) (lsum 0 i)) (isub (lsum (isub (lsum 0 i) 0) (wsub .i64 (wadd .i64 (isub (rlen rows) 0) (rlen v)) i)) (lsum 0 (wadd .i64 i (rlen v))))))))))∧Q ([SV.slice 21 (rsub (rput (rput (rapp (rsub rows 0 (lsum 0 i)) (rrep (wsub .i64 (wadd .i64 (isub (rlen rows) 0) (rlen v)) i) (zC))) (lsum 0 i) v) (lsum 0 (wadd .i64 i (rlen v))) (rsub rows (lsum 0 i) (lsum (lsum 0 i) (imin (isub (rlen rows) (lsum 0 i)) (isub (lsum (isub (lsum 0 i) 0) (wsub .i64 (wadd .i64 (isub (rlen rows) 0) (rlen v)) i)) (lsum 0 (wadd .i64 i (rlen v)))))))) 0 (lsum (isub (lsum 0 i) 0) (wsub .i64 (wadd .i64 (isub (rlen rows) 0) (rlen v)) i))) 0]))∧(((rlen rows)<(lsum 0 i))→∀a,((lsum (isub (lsum 0 i) 0) (wsub .i64 (wadd .i64 (isub (rlen rows) 0) (rlen v)) i))≤a)→(a≤9223372036854775807)→(((0:Int)≤i)∧(i≤(isub (lsum (isub (lsum 0 i) 0) (wsub .i64 (wadd .i64 (isub (rlen rows) 0) (rlen v)) i)) 0))∧(isub (lsum (isub (lsum 0 i) 0) (wsub .i64 (wadd .i64 (isub (rlen rows) 0) (rlen v)) i)) 0)≤(isub a 0))∧(((lsum 0 i)≤(rlen (rsub rows 0 (rlen rows))))∧(rlen v)≤(isub (lsum (isub (lsum 0 i) 0) (wsub .i64 (wadd .i64 (isub (rlen rows) 0) (rlen v)) i)) (lsum 0 i)))∧(((0:Int)≤(wadd .i64 i (rlen v)))∧((wadd .i64 i (rlen v))≤(isub (lsum (isub (lsum 0 i) 0) (wsub .i64 (wadd .i64 (isub (rlen rows) 0) (rlen v)) i)) 0))∧(isub (lsum (isub (lsum 0 i) 0) (wsub .i64 (wadd .i64 (isub (rlen rows) 0) (rlen v)) i)) 0)≤(isub a 0))∧(((0:Int)≤i)∧(i≤(isub (rlen rows) 0))∧(isub (rlen rows) 0)≤(isub x 0))∧(((lsum 0 (wadd .i64 i (rlen v)))≤(rlen (rput (rsub rows 0 (rlen rows)) (lsum 0 i) v)))∧(lsum (lsum 0 i) (imin (isub (rlen rows) (lsum 0 i)) (isub (lsum (isub (lsum 0 i) 0) (wsub .i64 (wadd .i64 (isub (rlen rows) 0) (rlen v)) i)) (lsum 0 (wadd .i64 i (rlen v))))))≤(rlen rows))∧((lsum (isub (lsum 0 i) 0) (wsub .i64 (wadd .i64 (isub (rlen rows) 0) (rlen v)) i))≤(rlen (rput (rput (rsub rows 0 (rlen rows)) (lsum 0 i) v) (lsum 0 (wadd .i64 i (rlen v))) (rsub rows (lsum 0 i) (lsum (lsum 0 i) (imin (isub (rlen rows) (lsum 0 i)) (isub (lsum (isub (lsum 0 i) 0) (wsub .i64 (wadd .i64 (isub (rlen rows) 0) (rlen v)) i)) (lsum 0 (wadd .i64 i (rlen v))))))))))∧Q [SV.slice 21 (rsub (rput (rput (rsub rows 0 (rlen rows)) (lsum 0 i) v) (lsum 0 (wadd .i64 i (rlen v))) (rsub rows (lsum 0 i) (lsum (lsum 0 i) (imin (isub (rlen rows) (lsum 0 i)) (isub (lsum (isub (lsum 0 i) 0) (wsub .i64 (wadd .i64 (isub (rlen rows) 0) (rlen v)) i)) (lsum 0 (wadd .i64 i (rlen v)))))))) 0 (lsum (isub (lsum 0 i) 0) (wsub .i64 (wadd .i64 (isub (rlen rows) 0) (rlen v)) i))) 0])) ((((0:Int)≤0)∧((0:Int)≤(wadd .i64 (isub (rlen rows) 0) (rlen v)))∧(wadd .i64 (isub (rlen rows) 0) (rlen v))≤(isub x 0))∧(((0:Int)≤(wadd .i64 i (rlen v)))∧((wadd .i64 i (rlen v))≤(isub (lsum 0 (wadd .i64 (isub (rlen rows) 0) (rlen v))) 0))∧(isub (lsum 0 (wadd .i64 (isub (rlen rows) 0) (rlen v))) 0)≤(isub x 0))∧(fovl prog 191 37)∧ifB (bnot false) ((((0:Int)≤(wadd .i64 i (rlen v)))∧((wadd .i64 i (rlen v))≤(isub (lsum 0 (wadd .i64 (isub (rlen rows) 0) (rlen v))) 0))∧(isub (lsum 0 (wadd .i64 (isub (rlen rows) 0) (rlen v))) 0)≤(isub x 0))∧(((0:Int)≤i)∧(i≤(isub (lsum 0 (wadd .i64 (isub (rlen rows) 0) (rlen v))) 0))∧(isub (lsum 0 (wadd .i64 (isub (rlen rows) 0) (rlen v))) 0)≤(isub x 0))∧(((lsum 0 (wadd .i64 i (rlen v)))≤(rlen rows))∧(lsum (lsum 0 i) (imin (isub (lsum 0 (wadd .i64 (isub (rlen rows) 0) (rlen v))) (lsum 0 i)) (isub (lsum 0 (wadd .i64 (isub (rlen rows) 0) (rlen v))) (lsum 0 (wadd .i64 i (rlen v))))))≤(rlen rows))∧(((0:Int)≤i)∧(i≤(isub (lsum 0 (wadd .i64 (isub (rlen rows) 0) (rlen v))) 0))∧(isub (lsum 0 (wadd .i64 (isub (rlen rows) 0) (rlen v))) 0)≤(isub x 0))∧(((lsum 0 i)≤(rlen (rput rows (lsum 0 (wadd .i64 i (rlen v))) (rsub rows (lsum 0 i) (lsum (lsum 0 i) (imin (isub (lsum 0 (wadd .i64 (isub (rlen rows) 0) (rlen v))) (lsum 0 i)) (isub (lsum 0 (wadd .i64 (isub (rlen rows) 0) (rlen v))) (lsum 0 (wadd .i64 i (rlen v))))))))))∧(rlen v)≤(isub (lsum 0 (wadd .i64 (isub (rlen rows) 0) (rlen v))) (lsum 0 i)))∧((lsum 0 (wadd .i64 (isub (rlen rows) 0) (rlen v)))≤(rlen (rput (rput rows (lsum 0 (wadd .i64 i (rlen v))) (rsub rows (lsum 0 i) (lsum (lsum 0 i) (imin (isub (lsum 0 (wadd .i64 (isub (rlen rows) 0) (rlen v))) (lsum 0 i)) (isub (lsum 0 (wadd .i64 (isub (rlen rows) 0) (rlen v))) (lsum 0 (wadd .i64 i (rlen v)))))))) (lsum 0 i) v)))∧Q [SV.slice 21 (rsub (rput (rput rows (lsum 0 (wadd .i64 i (rlen v))) (rsub rows (lsum 0 i) (lsum (lsum 0 i) (imin (isub (lsum 0 (wadd .i64 (isub (rlen rows) 0) (rlen v))) (lsum 0 i)) (isub (lsum 0 (wadd .i64 (isub (rlen rows) 0) (rlen v))) (lsum 0 (wadd .i64 i (rlen v)))))))) (lsum 0 i) v) 0 (lsum 0 (wadd .i64 (isub (rlen rows) 0) (rlen v)))) 0]) ((((0:Int)≤(isub (rlen rows) 0))∧((isub (rlen rows) 0)≤(isub (lsum 0 (wadd .i64 (isub (rlen rows) 0) (rlen v))) 0))∧(isub (lsum 0 (wadd .i64 (isub (rlen rows) 0) (rlen v))) 0)≤(isub x 0))∧(((lsum 0 (isub (rlen rows) 0))≤(rlen rows))∧(rlen v)≤(isub (lsum 0 (wadd .i64 (isub (rlen rows) 0) (rlen v))) (lsum 0 (isub (rlen rows) 0))))∧(((0:Int)≤i)∧(i≤(isub (lsum 0 (wadd .i64 (isub (rlen rows) 0) (rlen v))) 0))∧(isub (lsum 0 (wadd .i64 (isub (rlen rows) 0) (rlen v))) 0)≤(isub x 0))∧False))))):Ct prog 135 ⟨[.own],[.own]⟩ [SL 21 rows,I i,SL 21 v] Q:=
 fO SgT SvT (λk=>bif Nat.beq k 3000000 then some ({}:LoopSpec)else none) func135 h
def findex_nf{rows:LL}{f:FuncId}{d:List SV}{Q:QQ}(h:∃c:Int→Int→Prop,∃m:Int→Int→Nat,(c 0 0)∧∀x a,(c x a)→ifB (ilt a (rlen rows)) ((((0:Int)≤a)∧a<(rlen rows))∧∃s l e,(rget rows a=[S s,SL 1 l,SL 1 e])∧Cl prog f sP ((SV.agg [S s,SL 1 l,SL 1 e])::d) (λg=>∃b,(g=[B b])∧ifB b (Q [I a]) (((Option.some []:Option LL)=Option.some [])∧(c x (wadd .i64 a 1))∧Nat.le (Nat.succ (m x (wadd .i64 a 1))) (m x a)))) (Q [I ((-1:Int))])):Ct prog 159 {} [SL 3 rows,.clo f d] Q:=
 fN SgT SvT func159 h
def Zsi(a b:Int):isub a b=a-b:=rfl
def Zb7(R Z:LL)(k:Nat)(a:k≤R.length):(rput R k Z).length=k+Z.length+(R.length-(k+Z.length)):=by
 simp[rput];omega
def rput_take(R Z:LL)(k:Nat)(a:k≤R.length):(rput R k Z).take k=R.take k:=by
 simp only[rput,Int.toNat_natCast];rw[List.append_assoc,List.take_append_of_le_length (by simp;omega),List.take_take];simp
def Zcp(R Z:LL)(k:Nat)(a:k≤R.length):(rput R k Z).take (k+Z.length)=R.take k++Z:=by
 simp only[rput,Int.toNat_natCast];rw[List.take_append_of_le_length (by simp;omega)];rw[List.take_of_length_le (by simp;omega)]
def rsub0(R:LL)(k:Nat):rsub R 0 (k:Int)=R.take k:=by simp[rsub]
def rsubE(R:LL)(k:Nat):rsub R (k:Int) (R.length:Int)=R.drop k:=by simp[rsub]
def Zxo(rows:LL)(i j:Nat)(d:i≤j)(f:j≤rows.length):Ct prog 177 OO [SL 3 rows,I i,I j] (λr=>r=[SL 3 (rows.take i++rows.drop j)]):=by
 refine Zxv λx c e=>?_;simp only[rlen_eq,lsum_eq,Zsi,Int.zero_add,WM,Int.sub_self,rsubE]at c⊢;refine⟨⟨by omega,by omega,by omega,by omega⟩,Zaa (λh=>⟨by omega,?_⟩) (λh=>⟨⟨by omega,by omega,by omega⟩,⟨by omega,by omega,by omega⟩,by omega,by omega,λb=>?_,λb=>?_⟩)⟩
 ·simp at h;have:i=j:=(by omega);subst this;rw[rsub0];simp
 ·have e1:((i:Int)+((rows.drop j).length:Int))=((i+(rows.drop j).length:Nat):Int):=(by simp);rw[e1]at b⊢;have a:i+(rows.drop j).length≤(rput rows i (rows.drop j)).length:=(by rw[Zb7 _ _ _ (by omega)];omega);refine⟨⟨by omega,by simp;omega,by omega⟩,by omega,?_,?_⟩
  ·rw[Zb7 _ _ _ a];omega
  ·rw[rsub0,rput_take _ _ _ a,Zcp _ _ _ (by omega)]
 ·exfalso;simp at b;omega
def isFil(r:List SV):Prop:=∃s a b,r=[S s,SL 1 a,SL 1 b]
def findex_fn(rows:LL)(f:FuncId)(d:List SV)(p:List SV→Bool)(j:rows.length≤1000000)(k:∀r∈rows,isFil r∧Ct prog f sP (.agg r::d) (λx=>x=[B (p r)])):
  Ct prog 159 sP [SL 3 rows,.clo f d] (λr=>∃x:Int,r=[I x]∧((x= -1∧∀r∈rows,p r=false)∨(0≤x∧x<rows.length∧(∀r∈rows.take x.toNat,p r=false)∧p (rget rows x)=true))):=by
 refine findex_nf ⟨λ_ x=>0≤x∧x≤rows.length∧∀r∈rows.take x.toNat,p r=false,λ_ x=>(rows.length-x).toNat,⟨by omega,by omega,by simp⟩,?_⟩;rintro _ x ⟨h0,h1,hp⟩;refine Zaa (λh=>?_) (λh=>?_)
 ·simp at h;have b:x.toNat<rows.length:=(by omega);have i:rget rows x=rows[x.toNat]:=(by simp[rget,b]);obtain⟨⟨s,l,m,e⟩,g⟩:=k _ (List.getElem_mem b);rw[e]at g;refine⟨⟨h0,by simpa using h⟩,s,l,m,i.trans e,Cl.of g ⟨_,rfl,Zaa (λc=>?_) (λc=>⟨rfl,?_,?_⟩)⟩⟩
  ·exact⟨x,rfl,.inr ⟨h0,h,hp,by rw[i,e];exact c⟩⟩
  ·have w:wadd IntKind.i64 x 1=x+1:=Zac (by omega) (by omega);rw[w];refine⟨by omega,by omega,λr a=>?_⟩;rw[show(x+1).toNat=x.toNat+1 by omega,YS,List.getElem?_eq_getElem b]at a
   rcases List.mem_append.1 a with a|a
   ·exact hp r a
   ·simp at a;subst a;rw[e];exact c
  ·have w:wadd IntKind.i64 x 1=x+1:=Zac (by omega) (by omega);rw[w];show((rows.length:Int)-(x+1)).toNat+1≤((rows.length:Int)-x).toNat;omega
 ·simp at h;refine⟨-1,rfl,.inl ⟨rfl,λr a=>hp r ?_⟩⟩;rw[show x.toNat=rows.length by omega,Yd];exact a
def Zx3(rows:LL)(i:Nat)(r:List SV)(j:i≤rows.length)(k:rows.length≤1000000)(l:fovl prog 346 22):
  Ct prog 311 OO [SL 3 rows,I i,SL 3 [r]] (λx=>x=[SL 3 (rows.take i++r::rows.drop i)]):=by
 refine Zxw λx m v=>?_;have w1:wadd IntKind.i64 (rows.length:Int) 1=rows.length+1:=Zac (by omega) (by omega);have w2:wadd IntKind.i64 (i:Int) 1=i+1:=Zac (by omega) (by omega);have w3:wsub IntKind.i64 ((rows.length:Int)+1) i=rows.length+1-i:=Zar (by omega) (by omega);have e:(([r]:LL).length:Int)=1:=rfl;simp only[rlen_eq,lsum_eq,Zsi,Int.zero_add,WM,e,w1,w2,w3,imin_eq]at m⊢;refine⟨⟨by omega,by omega,by omega⟩,Zaa (λh=>?_) (λ_=>Zaa (λh=>⟨by omega,λb=>⟨?_,?_⟩,λb=>⟨by omega,?_⟩⟩) (λh=>Zaa (λb=>?_) (λb=>?_)))⟩
 ·simp at h
 ·rw[Zb7 _ _ _ (Nat.le_refl _)];simp
 ·simp at h;have h:i=rows.length:=(by omega);subst h;rw[show((rows.length:Int)+1)=((rows.length+1:Nat):Int) by simp,rsub0,show rows.length+1=rows.length+[r].length from rfl,Zcp _ _ _ (Nat.le_refl _)];simp
 ·simp at h;have h:i=rows.length:=(by omega);subst h;simp[rapp,rsub]
 ·simp at h b;have q:(i:Int)+((rows.length:Int)+1-i)=((rows.length+1:Nat):Int):=(by omega);have e1:rrep ((rows.length:Int)+1-i) ([S (bA []),SL 1 [],SL 1 []])=List.replicate (rows.length+1-i) ([S (bA []),SL 1 [],SL 1 []]):=by unfold rrep;congr 1;omega
  have e2:(i:Int)+min ((rows.length:Int)-i) (((rows.length+1:Nat):Int)-((i+1:Nat):Int))=rows.length:=(by omega);have c:((i:Int)+1)=((i+1:Nat):Int):=(by simp);simp only[q,e1,rsub0,c,e2,rsubE];have f:(rapp (rows.take i) (List.replicate (rows.length+1-i) ([S (bA []),SL 1 [],SL 1 []]))).length=rows.length+1:=(by simp[rapp];omega);have a:(rput (rapp (rows.take i) (List.replicate (rows.length+1-i) ([S (bA []),SL 1 [],SL 1 []]))) i [r]).length=rows.length+1:=(by rw[Zb7 _ _ _ (by omega),f];simp;omega);have d:(rput (rput (rapp (rows.take i) (List.replicate (rows.length+1-i) ([S (bA []),SL 1 [],SL 1 []]))) i [r]) ((i+1:Nat):Int) (rows.drop i)).length=rows.length+1:=(by rw[Zb7 _ _ _ (by omega),a];simp;omega);refine⟨⟨by omega,by omega,by omega⟩,⟨⟨by omega,by omega⟩,by omega,by omega⟩,λn z w o=>⟨⟨by omega,by omega,by omega⟩,⟨by rw[f];omega,by omega⟩,⟨by omega,by omega,by omega⟩,⟨by omega,by omega,by omega⟩,⟨by rw[a];omega,by omega⟩,by rw[d];omega,?_⟩,λn=>by omega⟩;have g:=Zcp (rput (rapp (rows.take i) (List.replicate (rows.length+1-i) ([S (bA []),SL 1 [],SL 1 []]))) i [r]) (rows.drop i) (i+1) (by rw[a];omega);rw[show(i+1)+(rows.drop i).length=rows.length+1 by simp;omega]at g;have s:=Zcp (rapp (rows.take i) (List.replicate (rows.length+1-i) ([S (bA []),SL 1 [],SL 1 []]))) [r] i (by rw[f];omega);rw[g,show i+1=i+[r].length from rfl,s];simp[rapp,j]
 ·simp at h b;have y:i<rows.length:=(by omega);have e2:(i:Int)+min ((rows.length:Int)+1-i) ((rows.length:Int)+1-(i+1))=rows.length:=(by omega);have c:((i:Int)+1)=((i+1:Nat):Int):=(by simp);have t:((rows.length:Int)+1)=((rows.length+1:Nat):Int):=(by simp);simp only[e2,rsubE];have a:(rput rows ((i:Int)+1) (rows.drop i)).length=rows.length+1:=by rw[c,Zb7 _ _ _ (by omega)];simp;omega
  have d:(rput (rput rows ((i:Int)+1) (rows.drop i)) (i:Int) [r]).length=rows.length+1:=(by rw[Zb7 _ _ _ (by omega),a];simp;omega);refine⟨⟨by omega,by omega,by omega⟩,⟨by omega,by omega,by omega⟩,l,Zaa (λ_=>⟨⟨by omega,by omega,by omega⟩,⟨by omega,by omega,by omega⟩,⟨by omega,by omega⟩,⟨by omega,by omega,by omega⟩,⟨by rw[a];omega,by omega⟩,by rw[d];omega,?_⟩) (λp=>by simp at p)⟩;rw[t,rsub0,List.take_of_length_le (by rw[d];exact Nat.le_refl _)];have u:rows.drop (i+1+(rows.drop i).length)=[]:=List.drop_eq_nil_of_le (by simp;omega);simp only[rput,c,Int.toNat_natCast,u,List.append_nil];rw[List.take_append_of_le_length (by simp;omega),List.take_take,Nat.min_eq_left (by omega),YO (by simp;omega),Ym (by simp;omega)];simp
def cinsert_fn(rows:LL)(i:Nat)(r:List SV)(j:i≤rows.length)(k:rows.length≤1000000)(l:fovl prog 191 37):
  Ct prog 135 OO [SL 21 rows,I i,SL 21 [r]] (λx=>x=[SL 21 (rows.take i++r::rows.drop i)]):=by
 refine Zxx λx m v=>?_;have w1:wadd IntKind.i64 (rows.length:Int) 1=rows.length+1:=Zac (by omega) (by omega);have w2:wadd IntKind.i64 (i:Int) 1=i+1:=Zac (by omega) (by omega);have w3:wsub IntKind.i64 ((rows.length:Int)+1) i=rows.length+1-i:=Zar (by omega) (by omega);have e:(([r]:LL).length:Int)=1:=rfl;simp only[rlen_eq,lsum_eq,Zsi,Int.zero_add,WM,e,w1,w2,w3,imin_eq]at m⊢;refine⟨⟨by omega,by omega,by omega⟩,Zaa (λh=>?_) (λ_=>Zaa (λh=>⟨by omega,λb=>⟨?_,?_⟩,λb=>⟨by omega,?_⟩⟩) (λh=>Zaa (λb=>?_) (λb=>?_)))⟩
 ·simp at h
 ·rw[Zb7 _ _ _ (Nat.le_refl _)];simp
 ·simp at h;have h:i=rows.length:=(by omega);subst h;rw[show((rows.length:Int)+1)=((rows.length+1:Nat):Int) by simp,rsub0,show rows.length+1=rows.length+[r].length from rfl,Zcp _ _ _ (Nat.le_refl _)];simp
 ·simp at h;have h:i=rows.length:=(by omega);subst h;simp[rapp,rsub]
 ·simp at h b;have q:(i:Int)+((rows.length:Int)+1-i)=((rows.length+1:Nat):Int):=(by omega);have e1:rrep ((rows.length:Int)+1-i) (zC)=List.replicate (rows.length+1-i) (zC):=by unfold rrep;congr 1;omega
  have e2:(i:Int)+min ((rows.length:Int)-i) (((rows.length+1:Nat):Int)-((i+1:Nat):Int))=rows.length:=(by omega);have c:((i:Int)+1)=((i+1:Nat):Int):=(by simp);simp only[q,e1,rsub0,c,e2,rsubE];have f:(rapp (rows.take i) (List.replicate (rows.length+1-i) (zC))).length=rows.length+1:=(by simp[rapp];omega);have a:(rput (rapp (rows.take i) (List.replicate (rows.length+1-i) (zC))) i [r]).length=rows.length+1:=(by rw[Zb7 _ _ _ (by omega),f];simp;omega);have d:(rput (rput (rapp (rows.take i) (List.replicate (rows.length+1-i) (zC))) i [r]) ((i+1:Nat):Int) (rows.drop i)).length=rows.length+1:=(by rw[Zb7 _ _ _ (by omega),a];simp;omega);refine⟨⟨by omega,by omega,by omega⟩,⟨⟨by omega,by omega⟩,by omega,by omega⟩,λn z w o=>⟨⟨by omega,by omega,by omega⟩,⟨by rw[f];omega,by omega⟩,⟨by omega,by omega,by omega⟩,⟨by omega,by omega,by omega⟩,⟨by rw[a];omega,by omega⟩,by rw[d];omega,?_⟩,λn=>by omega⟩;have g:=Zcp (rput (rapp (rows.take i) (List.replicate (rows.length+1-i) (zC))) i [r]) (rows.drop i) (i+1) (by rw[a];omega);rw[show(i+1)+(rows.drop i).length=rows.length+1 by simp;omega]at g;have s:=Zcp (rapp (rows.take i) (List.replicate (rows.length+1-i) (zC))) [r] i (by rw[f];omega);rw[g,show i+1=i+[r].length from rfl,s];simp[rapp,j]
 ·simp at h b;have y:i<rows.length:=(by omega);have e2:(i:Int)+min ((rows.length:Int)+1-i) ((rows.length:Int)+1-(i+1))=rows.length:=(by omega);have c:((i:Int)+1)=((i+1:Nat):Int):=(by simp);have t:((rows.length:Int)+1)=((rows.length+1:Nat):Int):=(by simp);simp only[e2,rsubE];have a:(rput rows ((i:Int)+1) (rows.drop i)).length=rows.length+1:=by rw[c,Zb7 _ _ _ (by omega)];simp;omega
  have d:(rput (rput rows ((i:Int)+1) (rows.drop i)) (i:Int) [r]).length=rows.length+1:=(by rw[Zb7 _ _ _ (by omega),a];simp;omega);refine⟨⟨by omega,by omega,by omega⟩,⟨by omega,by omega,by omega⟩,l,Zaa (λ_=>⟨⟨by omega,by omega,by omega⟩,⟨by omega,by omega,by omega⟩,⟨by omega,by omega⟩,⟨by omega,by omega,by omega⟩,⟨by rw[a];omega,by omega⟩,by rw[d];omega,?_⟩) (λp=>by simp at p)⟩;rw[t,rsub0,List.take_of_length_le (by rw[d];exact Nat.le_refl _)];have u:rows.drop (i+1+(rows.drop i).length)=[]:=List.drop_eq_nil_of_le (by simp;omega);simp only[rput,c,Int.toNat_natCast,u,List.append_nil];rw[List.take_append_of_le_length (by simp;omega),List.take_take,Nat.min_eq_left (by omega),YO (by simp;omega),Ym (by simp;omega)];simp
end Ins
namespace Sx
open Go Go.Px Go.Proofs Cmp Tryz
def sfold_nf{rows:LL}{q t:Int}{l:LL}{Q:QQ}(h:∃a:Int→LL→Int→Int→Prop,∃m:Int→LL→Int→Int→Nat,(a 0 rows q t)∧∀x b,∀c d,(a x b c d)→ifB (ilt x (rlen l)) ((((0:Int)≤x)∧x<(rlen l))∧∃n o,∃p s,∃r u v,(rget l x=[I n,I o,I p,S s,I r,I u,I v])∧Cl prog 69 sP ([SV.agg [SL 21 b,I c,I d],SV.agg [I n,I o,I p,S s,I r,I u,I v]]) (λw=>∃i j,∃e g,(w=[SV.agg [SL 21 i,I j,I e],I g])∧ifB (ine g 0) (Q ([SV.agg [SL 21 b,I c,I d],I x,I g])) ((Sm (some ([[SV.slice 21 [] 1,I 0,I 0]])))∧(a (wadd .i64 x 1) i j e)∧Nat.le (Nat.succ (m (wadd .i64 x 1) i j e)) (m x b c d)))) (Q ([SV.agg [SL 21 b,I c,I d],I (rlen l),I 0]))):Ct prog 34 {} [st3 rows q t,SL 7 l] Q:=
 fO SgT SvT (λk=>bif Nat.beq k 14 then some {slots:=[(13,false,[.int .i64])],boxes:=[(256,[.sl 21,.int .i64,.int .i64])],fixed:=[512]}else none) func34 h
abbrev _root_.Go.Proofs.YtgehiiginclniaaGreatDoor.Cmp.CoD.row(c:CoD):List SV:=[S c.nm,I c.ro,I c.mo,I c.wd,I c.sl,SL 2 (cR c.cl),I c.h0,I c.h1,I c.h2,I c.h3,I c.h4,I c.h5,I c.h6,I c.h7,I c.h8,I c.hs,I c.rm,I c.ha,I c.c0,I c.c1,I c.c2]
abbrev coR(l:List CoD):LL:=l.map CoD.row
abbrev _root_.Go.Proofs.YtgehiiginclniaaGreatDoor.Cmp.EvD.row(e:EvD):List SV:=[I e.s,I e.a,I e.k,S e.c,I e.x,I e.y,I e.z]
abbrev eR(l:List EvD):LL:=l.map EvD.row
deriving instance DecidableEq for CoD
structure StD where
 cs:List CoD
 q:Int
 t:Int
deriving DecidableEq
abbrev StD.sv(d:StD):SV:=.agg [SL 21 (coR d.cs),I d.q,I d.t]
def Zkc{c d:CoD}:sameP c d↔c=d:=by
 constructor
 ·intro h
  cases c;cases d
  simp only[sameP]at h;simp[h]
 ·rintro rfl;exact Zyd c
def StD.P(d:StD):Prop:=(d.cs.length≤12∧0≤d.q∧d.q≤4294967296∧0≤d.t∧d.t≤1099511627776)∧(∀c∈d.cs,c.P)∧srt CoD.nm d.cs
instance (d:StD):Decidable d.P:=inferInstanceAs (Decidable (_∧_))
def StD.short(d:StD):Prop:=(∀c∈d.cs,c.nm.size≤100∧c.cl.length≤40)∧d.cs.length≤20
instance (d:StD):Decidable d.short:=inferInstanceAs (Decidable (_∧_))
def mayS(d:StD)(e:EvD):Int:=
 if¬d.P then 1 else if chkE e≠0 then chkE e else if e.s≠d.q+1 then 1 else if e.a<d.t then 5
 else if e.k=1 then(if fAt CoD.nm d.cs e.c≠-1 then 7 else if d.cs.length=12 then 9 else 0)
 else if fAt CoD.nm d.cs e.c= -1 then 6 else mayI (d.cs.getD (fAt CoD.nm d.cs e.c).toNat co0) e
def nxtS(d:StD)(e:EvD):CoD:=if e.k=1 then(newC e.c e.x e.a).1 else tellC (d.cs.getD (fAt CoD.nm d.cs e.c).toNat co0) e
def appS(d:StD)(e:EvD):StD×Int:=if mayS d e≠0 then(d,mayS d e)else(⟨withB CoD.nm d.cs (nxtS d e),e.s,e.a⟩,0)
def foldS(d:StD):List EvD→StD×Nat×Int
 | []=>(d,0,0)
 |e::l=>if(appS d e).2≠0 then(d,0,(appS d e).2)else((foldS (appS d e).1 l).1,(foldS (appS d e).1 l).2.1+1,(foldS (appS d e).1 l).2.2)
def adj_srtC{l:List CoD}(h:∀i:Nat,∀a:i<l.length,0<i→nlt (l[i-1]'(by omega)).nm l[i].nm):srt CoD.nm l:=
 srt_adj λi a=>h (i+1) a (by omega)
def Zqh(d:StD):Ct prog 101 {} [d.sv] (λr=>r=[B (decide d.P)]):=by
 have no:¬d.P→[B false]=[B (decide d.P)]:=λh=>by simp[h]
 refine sright_nf (Zaa (λq=>no (λp=>?_)) (λq=>?_))
 ·have:=p.1;simp at q;omega
 ·simp at q;have u:d.cs.length≤12:=(by omega);refine⟨λ_ y=>∃i:Nat,y=i∧i≤d.cs.length∧∀j:Nat,∀g:j<d.cs.length,j<i→d.cs[j].P∧(0<j→nlt (d.cs[j-1]'(by omega)).nm d.cs[j].nm),λ_ y=>d.cs.length-y.toNat,⟨0,rfl,by omega,λj _ g=>by omega⟩,?_⟩;rintro b _ ⟨i,rfl,hi,hall⟩;refine Zaa (λc=>?_) (λc=>?_)
  ·have c:i<d.cs.length:=(by simpa using c);have s:Nat.le (Nat.succ (d.cs.length-((i+1:Nat):Int).toNat)) (d.cs.length-((i:Nat):Int).toNat):=stepL (by simp;omega)
   have o:d.cs[i].P→(0<i→nlt (d.cs[i-1]'(by omega)).nm d.cs[i].nm)→∃k:Nat,((i+1:Nat):Int)=k∧k≤d.cs.length∧∀j:Nat,∀g:j<d.cs.length,j<k→d.cs[j].P∧(0<j→nlt (d.cs[j-1]'(by omega)).nm d.cs[j].nm):=λa b=>
    ⟨i+1,rfl,by omega,λj g z=>by
     by_cases e:j=i
     ·subst e;exact⟨a,b⟩
     ·exact hall j g (by omega)⟩
   rw[waddN _ (by omega)];refine⟨⟨by omega,by simpa using c⟩,_,_,_,_,_,_,_,_,_,_,_,_,_,_,_,_,_,_,_,_,_,Zao _ _ _ c,Cl.of (Zqz d.cs[i]) ⟨_,rfl,Zaa (λl=>no (λp=>?_)) (λl=>?_)⟩⟩
   ·rw[decide_eq_true (p.2.1 _ (List.getElem_mem c))]at l;cases l
   ·have l:d.cs[i].P:=(by simpa using l);refine Zaa (λn=>?_) (λn=>?_)
    ·have n:0<i:=(by simpa using n);have w:wsub .i64 (i:Int) 1=((i-1:Nat):Int):=(by rw[Zar (by omega) (by omega)];omega);rw[w];have hi1:i-1<d.cs.length:=(by omega);refine⟨⟨by omega,by simp;omega⟩,_,_,_,_,_,_,_,_,_,_,_,_,_,_,_,_,_,_,_,_,_,Zao _ _ _ hi1,?_⟩;rw[sge_d];refine Zaa (λm=>no (λp=>?_)) (λm=>⟨rfl,o l (λ_=>?_),s⟩)
     ·simp at m;exact m (Zo7 p.2.2 (by omega) c)
     ·simp at m;exact m
    ·simp at n;exact⟨rfl,o l (λ_=>by omega),s⟩
  ·have c:¬i<d.cs.length:=(by simpa using c);have v:srt CoD.nm d.cs:=adj_srtC λj g=>(hall j g (by omega)).2;have x:∀f∈d.cs,f.P:=λf t=>by obtain⟨j,g,rfl⟩:=List.mem_iff_getElem.1 t;exact(hall j g (by omega)).1
   rw[decide_eq_true (show d.P from⟨⟨u,by omega,by omega,by omega,by omega⟩,x,v⟩)]
def fnd_of{l:List CoD}{s:BA}{i:Nat}(a:i<l.length)(e:l[i].nm=s)(h:∀j (b:j<i),(l[j]'(by omega)).nm≠s):fAt CoD.nm l s=i:=by
 unfold fAt;rw[Zo6.2 ⟨a,e,h⟩]
def sfind1_fn(c:CoD)(s:BA):Ct prog 194 {} [c.sv,.ref 0 [S s]] (λr=>r=[B (decide (c.nm=s))]):=by
 refine sfind1_nf ?_;rw[seq_d]
def Zuw(d:StD)(k:d.cs.length≤9223372036854775807)(s:BA):Ct prog 136 {} [d.sv,S s] (λr=>r=[I (fAt CoD.nm d.cs s)]):=by
 have A:Ct prog 193 {} [SL 21 (coR d.cs),.clo 194 [.ref 0 [S s]]] (λr=>r=[I (fAt CoD.nm d.cs s)]):=by
  refine sindex_nf ⟨λ_ x=>∃i:Nat,x=i∧i≤d.cs.length∧∀j:Nat,∀a:j<d.cs.length,j<i→d.cs[j].nm≠s,λ_ x=>d.cs.length-x.toNat,⟨0,rfl,by omega,λj _ a=>by omega⟩,?_⟩;rintro b _ ⟨i,rfl,hi,hall⟩;refine Zaa (λh=>?_) (λh=>?_)
  ·have h:i<d.cs.length:=(by simpa using h);refine⟨⟨by omega,by simpa using h⟩,_,_,_,_,_,_,_,_,_,_,_,_,_,_,_,_,_,_,_,_,_,Zao _ _ _ h,Cl.of (sfind1_fn d.cs[i] s) ⟨_,rfl,?_⟩⟩;rw[waddN _ (by omega)];refine Zaa (λz=>?_) (λz=>⟨rfl,⟨i+1,rfl,by omega,λj a g=>?_⟩,stepL (by simp;omega)⟩)
   ·rw[fnd_of h (by simpa using z) (λj a=>hall j (by omega) a)]
   ·by_cases e:j=i
    ·subst e;simpa using z
    ·exact hall j a (by omega)
  ·have h:¬i<d.cs.length:=by simpa using h
   rw[Zgs.2 (λf c=>by
    obtain⟨j,a,rfl⟩:=List.mem_iff_getElem.1 c
    exact hall j a (by omega))]
 exact sfind_nf (Cl.of A ⟨_,rfl,rfl⟩)
def cells40(d:StD):Prop:=∀c∈d.cs,c.cl.length≤1000000
def sequal_fn(a b:List CoD)(n:a.length≤9223372036854775807)(k:∀c∈a,c.cl.length≤1000000):Ct prog 98 {} [SL 21 (coR a),SL 21 (coR b),.clo 99 []] (λr=>r=[B (decide (a=b))]):=by
 have no:¬a=b→[B false]=[B (decide (a=b))]:=λh=>by simp[h]
 refine sequal_nf (Zaa (λh=>no (λe=>by subst e;simp at h)) (λh=>?_));have f:a.length=b.length:=by simp at h;omega
 refine⟨λ_ x=>∃i:Nat,x=i∧i≤a.length∧∀j:Nat,∀d:j<a.length,j<i→a[j]=b[j]'(by omega),λ_ x=>a.length-x.toNat,⟨0,rfl,by omega,λj _ d=>by omega⟩,?_⟩;rintro _ _ ⟨i,rfl,hi,hall⟩;refine Zaa (λh=>?_) (λh=>?_)
 ·have h:i<a.length:=(by simpa using h);have g:i<b.length:=(by omega);rw[waddN _ (by omega)];refine⟨⟨by omega,by simpa using h⟩,_,_,_,_,_,_,_,_,_,_,_,_,_,_,_,_,_,_,_,_,_,Zao _ _ _ h,⟨by omega,by simpa using g⟩,_,_,_,_,_,_,_,_,_,_,_,_,_,_,_,_,_,_,_,_,_,Zao _ _ _ g,Cl.of (psame_fn a[i] b[i] (k _ (List.getElem_mem h))) ⟨_,rfl,Zaa (λz=>no (λe=>?_)) (λz=>⟨rfl,⟨i+1,rfl,by omega,λj d m=>?_⟩,stepL (by simp;omega)⟩)⟩⟩
  ·have:sameP a[i] b[i]:=Zkc.2 (by subst e;rfl);rw[decide_eq_true this]at z;cases z
  ·by_cases e:j=i
   ·subst e;exact Zkc.1 (by simpa using z)
   ·exact hall j d (by omega)
 ·have h:¬i<a.length:=(by simpa using h);rw[decide_eq_true (Yu f λj l o=>hall j l (by omega))]
def ssame_fn(a b:StD)(d:a.cs.length≤9223372036854775807)(f:∀c∈a.cs,c.cl.length≤1000000):Ct prog 36 {} [a.sv,b.sv] (λr=>r=[B (decide (a=b))]):=by
 refine ssame_nf (Zaa (λh=>Cl.of (sequal_fn a.cs b.cs d f) ⟨_,rfl,?_⟩) (λh=>?_))
 ·have h:a.q=b.q∧a.t=b.t:=(by simpa using h);refine congrArg (λb=>[B b]) ?_;rw[decide_eq_decide]
  cases a;cases b;simp_all
 ·have:¬a=b:=λe=>by subst e;simp at h
  simp[this]
def srsame_fn(a b:StD)(o:a.cs.length≤9223372036854775807)(k:∀c∈a.cs,c.cl.length≤1000000):Ct prog 35 {} [a.sv,b.sv] (λr=>r=[B (decide (a=b))]):=by
 have no:¬a=b→[B false]=[B (decide (a=b))]:=λh=>by simp[h]
 refine srsame_nf (Zaa (λh=>no (λe=>by subst e;simp at h)) (λh=>?_));have m:(a.q=b.q∧a.t=b.t)∧a.cs.length=b.cs.length:=by simp at h;omega
 have f:=m.2;refine⟨λ_ x=>∃i:Nat,x=i∧i≤a.cs.length∧∀j:Nat,∀d:j<a.cs.length,j<i→a.cs[j]=b.cs[j]'(by omega),λ_ x=>a.cs.length-x.toNat,⟨0,rfl,by omega,λj _ d=>by omega⟩,?_⟩;rintro _ _ ⟨i,rfl,hi,hall⟩;refine Zaa (λh=>?_) (λh=>?_)
 ·have h:i<a.cs.length:=(by simpa using h);have g:i<b.cs.length:=(by omega);rw[waddN _ (by omega)];refine⟨⟨by omega,by simpa using h⟩,_,_,_,_,_,_,_,_,_,_,_,_,_,_,_,_,_,_,_,_,_,Zao _ _ _ h,⟨by omega,by simpa using g⟩,_,_,_,_,_,_,_,_,_,_,_,_,_,_,_,_,_,_,_,_,_,Zao _ _ _ g,Cl.of (qsame_fn a.cs[i] b.cs[i] (k _ (List.getElem_mem h))) ⟨_,rfl,Zaa (λz=>no (λe=>?_)) (λz=>⟨rfl,⟨i+1,rfl,by omega,λj d n=>?_⟩,stepL (by simp;omega)⟩)⟩⟩
  ·have:sameP a.cs[i] b.cs[i]:=Zkc.2 (by subst e;rfl);rw[decide_eq_true this]at z;cases z
  ·by_cases e:j=i
   ·subst e;exact Zkc.1 (by simpa using z)
   ·exact hall j d (by omega)
 ·have h:¬i<a.cs.length:=(by simpa using h);have:=Yu f λj l p=>hall j l (by omega);rw[decide_eq_true]
  cases a;cases b;simp_all
def ovl_comp:fovl prog 191 37:=by
 refine⟨#[4],λx y w=>?_⟩;rw[run_callFunc_extern func191 (by kernel_rfl) (by kernel_rfl) (by kernel_rfl) (e:=Extern.SlicesOverlaps.overlaps #[37,37] #[4]) (by kernel_rfl)]
def sclone_fn(l:List CoD)(h:l.length≤2147483648):Ct prog 130 ⟨[],[.own]⟩ [SL 21 (coR l)] (λr=>r=[SL 21 (coR l)]):=by
 refine sclone_nf (λb c=>Zaa (λe=>?_) (λe=>⟨by simp;omega,by simp[rapp]⟩));have:=c e;have:l=[]:=(by have a:(coR l).length=0:=(by simp only[rlen_eq]at this;omega);rw[List.length_map]at a;exact Y8 a);rw[this];rfl
def snan_fn(s:BA):Ct prog 190 {} [S s] (λr=>r=[B false]):=by
 refine snan_nf ?_;simp
def Zsf(s t:BA):Ct prog 134 {} [S s,S t] (λr=>r=[I (if nlt s t then-1 else if nlt t s then 1 else 0)]):=by
 refine Zsc (Cl.of (snan_fn s) ⟨_,rfl,Cl.of (snan_fn t) ⟨_,rfl,?_⟩⟩);show ifB (slt s t) _ _;rw[slt_d,sgt_d];exact ifB_d (λh=>by rw[if_pos h]) (λh=>ifB_d (λk=>by rw[if_neg h,if_pos k]) (λk=>by rw[if_neg h,if_neg k]))
def Zux(c:CoD)(s:BA):Ct prog 133 {} [c.sv,S s] (λr=>r=[I (if nlt c.nm s then-1 else if nlt s c.nm then 1 else 0)]):=
 sapp1_nf (Cl.of (Zsf _ _) ⟨_,rfl,rfl⟩)
def halfS{i j:Nat}(h:i+j≤9223372036854775807):wcv .i64 (wshr .u64 (wcv .u64 (wadd .i64 (i:Int) (j:Int))) 1)=(((i+j)/2:Nat):Int):=by
 rw[Zp6 _ _ h];have e1:wcv .u64 ((i+j:Nat):Int)=((i+j:Nat):Int):=(by simp only[wcv,IntKind.wrap,IntKind.signed,IntKind.bits];simp;omega);rw[e1];have e2:wshr .u64 ((i+j:Nat):Int) 1=(((i+j)/2:Nat):Int):=(by simp only[wshr,IntKind.bits];simp;rw[Int.fdiv_eq_ediv_of_nonneg _ (by omega)]);rw[e2];unfold wcv;exact Zbd (by omega) (by omega)
def sbin_fn(l:List CoD)(f:srt CoD.nm l)(g:l.length≤1000000)(s:BA):Ct prog 132 {} [SL 21 (coR l),S s,.clo 133 []] (λr=>∃b:Bool,r=[I ((ahd CoD.nm l s).length:Nat),B b]):=by
 refine sbin_nf ⟨λx y=>∃i j:Nat,x=i∧y=j∧i≤(ahd CoD.nm l s).length∧(ahd CoD.nm l s).length≤j∧j≤l.length,λx y=>y.toNat-x.toNat,⟨0,l.length,rfl,by simp,by omega,Zpb,by omega⟩,?_⟩;rintro _ _ ⟨i,j,rfl,rfl,h1,h2,h3⟩;refine Zaa (λh=>?_) (λh=>?_)
 ·simp at h;rw[halfS (by omega)];have d:(i+j)/2<l.length:=(by omega);refine⟨by omega,⟨by omega,by simp;omega⟩,_,_,_,_,_,_,_,_,_,_,_,_,_,_,_,_,_,_,_,_,_,Zao _ _ _ d,Cl.of (Zux _ s) ⟨_,rfl,Zaa (λa=>⟨rfl,?_,?_⟩) (λa=>⟨rfl,⟨i,(i+j)/2,rfl,rfl,h1,?_,by omega⟩,stepL (by simp;omega)⟩)⟩⟩
  ·rw[waddN _ (by omega)];refine⟨(i+j)/2+1,j,rfl,rfl,?_,h2,h3⟩
   have:nlt l[(i+j)/2].nm s:=by
    refine W4 λc=>?_;rw[if_neg c]at a
    split at a<;>simp at a
   have:=(Zpa (s:=s) f d).2 this;omega
  ·rw[waddN _ (by omega)];exact stepL (by simp;omega)
  ·have c:¬nlt l[(i+j)/2].nm s:=λc=>by rw[if_pos c]at a;simp at a
   have:¬((i+j)/2<(ahd CoD.nm l s).length):=λk=>c ((Zpa (s:=s) f d).1 k);omega
 ·simp at h;have e:i=(ahd CoD.nm l s).length:=(by omega);refine Zaa (λa=>?_) (λa=>⟨_,by rw[←e]⟩);have a:i<l.length:=(by simpa using a);exact⟨⟨by omega,by simpa using a⟩,_,_,_,_,_,_,_,_,_,_,_,_,_,_,_,_,_,_,_,_,_,Zao _ _ _ a,Cl.of (Zux _ s) ⟨_,rfl,_,by rw[←e]⟩⟩
def Zi2{l:List CoD}{i:Nat}(h:i<l.length):l.getD ((i:Nat):Int).toNat co0=l[i]:=by simp[h]
def smay_fn(d:StD)(p:d.cs.length≤1000000)(e:EvD):Ct prog 129 {} [d.sv,e.sv] (λr=>r=[I (mayS d e)]):=by
 refine smay_nf (Cl.of (Zqh d) ⟨_,rfl,Zaa (λh=>?_) (λh=>?_)⟩)
 ·have h:¬d.P:=(by simpa using h);unfold mayS;rw[if_pos h]
 have g:d.P:=(by simpa using h);refine Cl.of (Zn0 e.s e.a e.k e.c e.x e.y e.z) ⟨_,rfl,Zaa (λh=>?_) (λh=>?_)⟩
 ·have h:chkE e≠0:=(by simpa[chkE]using h);unfold mayS;rw[if_neg (by simp[g]),if_pos h];rfl
 have n:chkE e=0:=(by simpa[chkE]using h);have t:=g.1.2.2.1;have o:=g.1.2.1;have w:wadd .i64 d.q 1=d.q+1:=Zac (by omega) (by omega);unfold mayS;rw[if_neg (by simp[g]),if_neg (by simp[n])];refine Cl.of (Zuw d (by omega) e.c) ⟨_,rfl,?_⟩;rw[w];refine Zaa (λh=>?_) (λh=>?_)
 ·rw[if_pos (by simpa using h)]
 rw[if_neg (by simpa using h)];refine Zaa (λh=>?_) (λh=>?_)
 ·rw[if_pos (by simpa using h)]
 rw[if_neg (by simpa using h)];refine Zaa (λh=>?_) (λb=>?_)
 ·have h:e.k=1∧¬fAt CoD.nm d.cs e.c= -1:=(by simpa using h);rw[if_pos h.1,if_pos h.2]
 refine Zaa (λh=>?_) (λj=>?_)
 ·have h:e.k=1∧d.cs.length=12:=(by simp at h;omega);have b:e.k=1→fAt CoD.nm d.cs e.c= -1:=(by simpa using b);rw[if_pos h.1,if_neg (by simp[b h.1]),if_pos h.2]
 refine Zaa (λh=>?_) (λm=>?_)
 ·have h:e.k=1:=(by simpa using h);have b:e.k=1→fAt CoD.nm d.cs e.c= -1:=(by simpa using b);have j:e.k=1→¬d.cs.length=12:=(by simp at j;omega);rw[if_pos h,if_neg (by simp[b h]),if_neg (j h)]
 have m:¬e.k=1:=(by simpa using m);rw[if_neg m];refine Zaa (λh=>?_) (λf=>?_)
 ·rw[if_pos (by simpa using h)]
 have f:¬fAt CoD.nm d.cs e.c= -1:=(by simpa using f);rw[if_neg f]
 rcases Zly (nm:=CoD.nm) (l:=d.cs) (s:=e.c)with h|⟨i,hi,h5,_,_⟩
 ·exact absurd h f
 rw[h5,Zi2 hi];exact⟨⟨by omega,by simpa using hi⟩,_,_,_,_,_,_,_,_,_,_,_,_,_,_,_,_,_,_,_,_,_,Zao _ _ _ hi,Cl.of (pmay_fn d.cs[i] e) ⟨_,rfl,rfl⟩⟩
structure MayS(d:StD)(e:EvD):Prop where
 p:d.P
 chk:chkE e=0
 sq:e.s=d.q+1
 tm:d.t≤e.a
 new:e.k=1→fAt CoD.nm d.cs e.c= -1∧d.cs.length<12
 old:e.k≠1→∃i:Nat,∃h:i<d.cs.length,fAt CoD.nm d.cs e.c=i∧d.cs[i].nm=e.c∧mayI d.cs[i] e=0
def Zh6{d:StD}{e:EvD}(h:mayS d e=0):MayS d e:=by
 unfold mayS at h;by_cases hp:d.P
 case neg=>rw[if_pos hp]at h;cases h
 rw[if_neg (by simp[hp])]at h;by_cases hc:chkE e=0
 case neg=>rw[if_pos hc]at h;exact absurd h hc
 rw[if_neg (by simp[hc])]at h;by_cases hs:e.s=d.q+1
 case neg=>rw[if_pos hs]at h;cases h
 rw[if_neg (by simp[hs])]at h;by_cases ht:e.a<d.t
 ·rw[if_pos ht]at h;cases h
 rw[if_neg ht]at h;refine⟨hp,hc,hs,by omega,λb=>?_,λb=>?_⟩
 ·rw[if_pos b]at h;have f:=hp.1.1;by_cases hf:fAt CoD.nm d.cs e.c= -1
  case neg=>rw[if_pos hf]at h;cases h
  rw[if_neg (by simp[hf])]at h;by_cases h12:d.cs.length=12
  ·rw[if_pos h12]at h;cases h
  ·exact⟨hf,by omega⟩
 ·rw[if_neg b]at h
  rcases Zly (nm:=CoD.nm) (l:=d.cs) (s:=e.c)with h5|⟨i,hi,h5,h6,_⟩
  ·rw[if_pos h5]at h;cases h
  ·rw[if_neg (by omega),h5,Zi2 hi]at h;exact⟨i,hi,h5,h6,h⟩
def new_ok{d:StD}{e:EvD}(m:MayS d e)(b:e.k=1):(newC e.c e.x e.a).2=0∧(newC e.c e.x e.a).1.nm=e.c:=by
 obtain⟨_,f,i,g,_⟩:=chkE_zero m.chk;have h:namB e.c=true:=by unfold namB;rw[decide_eq_true f]
 have j:lo1 e.k=1:=(by simp[lo1,b]);have l:hi1 e.k=3:=(by simp[hi1,b]);unfold newC;rw[if_neg (by simp[h]),if_neg (by omega),if_neg (by simp[g])]
 split<;>exact⟨rfl,rfl⟩
def nxt_nm{d:StD}{e:EvD}(m:MayS d e):(nxtS d e).nm=e.c:=by
 unfold nxtS;by_cases hk:e.k=1
 ·rw[if_pos hk];exact(new_ok m hk).2
 ·rw[if_neg hk];obtain⟨i,a,b,f,_⟩:=m.old hk;rw[b,Zi2 a,(Zy1 _ _).1,f]
def Zk9(d:StD)(O:d.cs.length≤1000000)(e:EvD):Ct prog 69 {} [d.sv,e.sv] (λr=>r=[(appS d e).1.sv,I (appS d e).2]):=by
 refine sapply_nf (Cl.of (smay_fn d O e) ⟨_,rfl,Zaa (λh=>?_) (λh=>?_)⟩)
 ·have h:mayS d e≠0:=(by simpa using h);unfold appS;rw[if_pos h]
 have h:mayS d e=0:=(by simpa using h);have m:=Zh6 h;have Y:appS d e=(⟨withB CoD.nm d.cs (nxtS d e),e.s,e.a⟩,0):=(by unfold appS;rw[if_neg (by simp[h])]);rw[Y];refine Cl.of (sclone_fn d.cs (by omega)) ⟨_,rfl,Zaa (λf=>?_) (λf=>?_)⟩
 ·have f:e.k=1:=(by simpa using f);obtain⟨W,R⟩:=new_ok m f;have Z:=(m.new f).1;have hno:∀g∈d.cs,g.nm≠e.c:=Zgs.1 Z;refine Cl.of (pnew_fn e.c e.x e.a) ⟨_,_,_,_,_,_,_,_,_,_,_,_,_,_,_,_,_,_,_,_,_,_,rfl,Zaa (λz=>by simp[W]at z) (λ_=>Cl.ofQ (sbin_fn d.cs m.p.2.2 O e.c) ?_)⟩;rintro _ ⟨b,rfl⟩;refine⟨_,_,rfl,Cl.of (Ins.cinsert_fn (coR d.cs) (ahd CoD.nm d.cs e.c).length (newC e.c e.x e.a).1.row (by simpa using Zpb) (by simpa using O) ovl_comp) ⟨_,rfl,?_⟩⟩;have:withB CoD.nm d.cs (nxtS d e)=d.cs.take (ahd CoD.nm d.cs e.c).length++(newC e.c e.x e.a).1::d.cs.drop (ahd CoD.nm d.cs e.c).length:=(by unfold nxtS;rw[if_pos f,Zdx (by rw[R];exact hno),insB_at,R]);rw[this];simp[List.map_take,List.map_drop]
 ·have f:¬e.k=1:=(by simpa using f);obtain⟨i,l,T,h2,X⟩:=m.old f
  have n:(0:Int)≤(i:Nat)∧((i:Nat):Int)<rlen (coR d.cs):=⟨by omega,by simpa using l⟩
  have et:tellR d.cs[i] e=[(tellC d.cs[i] e).sv,I 0]:=(by unfold tellR;rw[if_pos X]);have U:=ptell_fn d.cs[i] e;rw[et]at U;have es:rset (coR d.cs) (i:Nat) (tellC d.cs[i] e).row=coR (withB CoD.nm d.cs (nxtS d e)):=(by have:nxtS d e=tellC d.cs[i] e:=(by unfold nxtS;rw[if_neg f,T,Zi2 l]);rw[Zud,Zgd m.p.2.2 l (Zy1 _ _).1,this]);refine Cl.of (Zuw d (by omega) e.c) ⟨_,rfl,?_⟩;rw[T];have k:Cl prog 137 sP [d.cs[i].sv,e.sv] (λV=>∃P o q t u Q v w y A C D E F G H J K L M N j,(V=[.agg [S P,I o,I q,I t,I u,SL 2 Q,I v,I w,I y,I A,I C,I D,I E,I F,I G,I H,I J,I K,I L,I M,I N],I j])∧ifB (ine j 0) ([d.sv,I j]=[StD.sv ⟨withB CoD.nm d.cs (nxtS d e),e.s,e.a⟩,I 0]) (((0:Int)≤(i:Nat)∧((i:Nat):Int)<rlen (coR d.cs))∧((0:Int)≤(i:Nat)∧((i:Nat):Int)<rlen (coR d.cs))∧[.agg [SL 21 (rset (coR d.cs) (i:Nat) [S P,I o,I q,I t,I u,SL 2 Q,I v,I w,I y,I A,I C,I D,I E,I F,I G,I H,I J,I K,I L,I M,I N]),I e.s,I e.a],I 0]=[StD.sv ⟨withB CoD.nm d.cs (nxtS d e),e.s,e.a⟩,I 0])):=(by refine Cl.of U ⟨_,_,_,_,_,_,_,_,_,_,_,_,_,_,_,_,_,_,_,_,_,_,rfl,Zaa (λz=>by simp at z) (λ_=>⟨n,n,?_⟩)⟩;exact congrArg (λz=>[SV.agg [SL 21 z,I e.s,I e.a],I 0]) es);exact⟨n,n,_,_,_,_,_,_,_,_,_,_,_,_,_,_,_,_,_,_,_,_,_,Zao _ _ _ l,k,k⟩
def lim(d:StD):Prop:=d.cs.length≤20∧∀c∈d.cs,c.cl.length≤40
instance (d:StD):Decidable (lim d):=inferInstanceAs (Decidable (_∧_))
def new_cl(nm:BA)(b a:Int):(newC nm b a).1.cl.length≤40:=by
 unfold newC
 repeat' split
 all_goals simp[co0]
def nxt_cl{d:StD}{e:EvD}(h:lim d)(m:MayS d e):(nxtS d e).cl.length≤40:=by
 unfold nxtS;by_cases hk:e.k=1
 ·rw[if_pos hk];exact new_cl _ _ _
 ·rw[if_neg hk];obtain⟨i,a,b,f,c⟩:=m.old hk;rw[b,Zi2 a];have:=h.2 _ (List.getElem_mem a)
  rcases tell_cl (Zoy.1 c)with h4|h4<;>omega
def nxt_len{d:StD}{e:EvD}(m:MayS d e):(withB CoD.nm d.cs (nxtS d e)).length=d.cs.length+(if e.k=1 then 1 else 0):=by
 have a:=nxt_nm m;by_cases hk:e.k=1
 ·rw[if_pos hk,Zdx (by rw[a];exact Zgs.1 (m.new hk).1),Zo8]
 ·rw[if_neg hk];obtain⟨i,b,f,c,g⟩:=m.old hk;rw[Zb1 m.p.2.2 b (by rw[a,c])];rfl
def Zum{d:StD}{e:EvD}(h:(appS d e).2=0):mayS d e=0∧appS d e=(⟨withB CoD.nm d.cs (nxtS d e),e.s,e.a⟩,0):=by
 unfold appS at h⊢;by_cases hm:mayS d e=0
 ·exact⟨hm,by rw[if_neg (by simp[hm])]⟩
 ·rw[if_pos hm]at h;exact absurd h hm
def app_err{d:StD}{e:EvD}(h:(appS d e).2≠0):appS d e=(d,mayS d e):=by
 unfold appS at h⊢;by_cases hm:mayS d e=0
 ·rw[if_neg (by simp[hm])]at h;exact absurd rfl h
 ·rw[if_pos hm]
def lim_app{d:StD}(h:lim d)(e:EvD):lim (appS d e).1:=by
 by_cases h0:(appS d e).2=0
 ·obtain⟨b,f⟩:=Zum h0;have m:=Zh6 b;rw[f];refine⟨?_,λc a=>?_⟩
  ·show(withB CoD.nm d.cs (nxtS d e)).length≤20;rw[nxt_len m];have:=m.p.1.1
   split<;>omega
  ·rcases Zav.1 a with rfl|⟨a,_⟩
   ·exact nxt_cl h m
   ·exact h.2 c a
 ·rw[app_err h0];exact h
def Zk3(d:StD)(e:EvD)(l:List EvD):foldS d (e::l)=if(appS d e).2≠0 then(d,0,(appS d e).2)else((foldS (appS d e).1 l).1,(foldS (appS d e).1 l).2.1+1,(foldS (appS d e).1 l).2.2):=rfl
def goes(d:StD)(l:List EvD)(i:Nat)(a:StD):Prop:=foldS d l=((foldS a (l.drop i)).1,i+(foldS a (l.drop i)).2.1,(foldS a (l.drop i)).2.2)
def goes_step{d a:StD}{l:List EvD}{i:Nat}(b:i<l.length)(h:goes d l i a)(c:(appS a l[i]).2=0):goes d l (i+1) (appS a l[i]).1:=by
 unfold goes at h⊢;rw[h,List.drop_eq_getElem_cons b,Zk3,if_neg (by simp[c])];simp;omega
def goes_stop{d a:StD}{l:List EvD}{i:Nat}(b:i<l.length)(h:goes d l i a)(c:(appS a l[i]).2≠0):foldS d l=(a,i,(appS a l[i]).2):=by
 unfold goes at h;rw[h,List.drop_eq_getElem_cons b,Zk3,if_pos c];simp
def goes_end{d a:StD}{l:List EvD}{i:Nat}(b:l.length≤i)(h:goes d l i a):foldS d l=(a,i,0):=by
 unfold goes at h;rw[h,List.drop_eq_nil_of_le b];rfl
def sfold_fn(d:StD)(b:lim d)(l:List EvD)(c:l.length≤9223372036854775807):Ct prog 34 {} [d.sv,SL 7 (eR l)] (λr=>r=[(foldS d l).1.sv,I (foldS d l).2.1,I (foldS d l).2.2]):=by
 refine sfold_nf ⟨λx r q t=>∃(a:StD) (i:Nat),x=i∧i≤l.length∧r=coR a.cs∧q=a.q∧t=a.t∧lim a∧goes d l i a,λx _ _ _=>l.length-x.toNat,⟨d,0,rfl,by omega,rfl,rfl,rfl,b,by simp[goes]⟩,?_⟩;rintro _ _ _ _ ⟨a,i,rfl,hi,rfl,rfl,rfl,hd',hg⟩;refine Zaa (λh=>?_) (λh=>?_)
 ·have h:i<l.length:=(by simpa using h);rw[waddN _ (by omega)];refine⟨⟨by omega,by simpa using h⟩,_,_,_,_,_,_,_,Zao _ _ _ h,Cl.of (Zk9 a (by have:=hd'.1;omega) l[i]) ⟨_,_,_,_,rfl,Zaa (λz=>?_) (λz=>⟨rfl,⟨_,i+1,rfl,by omega,rfl,rfl,rfl,lim_app hd' _,goes_step h hg (by simpa using z)⟩,stepL (by simp;omega)⟩)⟩⟩;rw[goes_stop h hg (by simpa using z)]
 ·have h:¬i<l.length:=(by simpa using h);have:i=l.length:=(by omega);rw[goes_end (by omega) hg,this];simp
def awE:List EvD:=[⟨1,3,1,⟨#[98]⟩,1,0,0⟩,⟨2,3,1,⟨#[97]⟩,2,0,0⟩,⟨3,4,5,⟨#[97]⟩,1,0,0⟩,⟨4,4,5,⟨#[98]⟩,0,0,0⟩]
def awF:StD×Nat×Int:=foldS ⟨[],0,0⟩ awE
end Sx
namespace Sgr
open Go Go.Px Go.Proofs Cod Seg Tryz
abbrev ev7(s a k:Int)(c:BA)(x y z:Int):SV:=.agg [I s,I a,I k,S c,I x,I y,I z]
abbrev cx3(s a:Int)(b:LL):SV:=.agg [I s,I a,SL 1 b]
abbrev sc10(num bs b:Int)(c ev:LL)(a d:Int)(e:LL)(f g:Int):SV:=.agg [I num,I bs,I b,SL 1 c,SL 7 ev,I a,I d,SL 1 e,I f,I g]
abbrev U32(n:Int):SV:=SV.int .u32 n
def SgT:FuncId→Sig:=(λf=>bif Nat.beq f 141 then⟨[],[.own,.pure]⟩else bif Nat.beq f 83 then⟨[],[.own]⟩else bif Nat.beq f 81 then⟨[],[.own]⟩else bif Nat.beq f 202 then⟨[],[.own,.pure]⟩else bif Nat.beq f 204 then⟨[],[.own]⟩else bif Nat.beq f 149 then⟨[],[.own]⟩else bif Nat.beq f 148 then⟨[],[.own]⟩else bif Nat.beq f 255 then⟨[.lend [false,false,false,false,true,false,false,false,false,false,false]],[]⟩else bif Nat.beq f 256 then⟨[.lend [false,false,false,false,true,false,false,false,false,false,false]],[]⟩else bif Nat.beq f 242 then⟨[],[.own]⟩else bif Nat.beq f 220 then⟨[],[.own]⟩else bif Nat.beq f 271 then⟨[],[.own]⟩else bif Nat.beq f 272 then⟨[],[.own]⟩else bif Nat.beq f 218 then⟨[],[.own]⟩else bif Nat.beq f 316 then⟨[.lend [false,false,false,false,true,false,false,false,false,false,false]],[]⟩else bif Nat.beq f 317 then⟨[.lend [false,false,false,false,true,false,false,false,false,false,false]],[]⟩else bif Nat.beq f 307 then⟨[],[.own]⟩else bif Nat.beq f 287 then⟨[],[.own]⟩else bif Nat.beq f 326 then⟨[],[.own]⟩else bif Nat.beq f 327 then⟨[],[.own]⟩else{})
def SvT:TypeId→Sig:=(λf=>{})
def sname_nf{n:Int}{Q:QQ}(h:Cl prog 152 sP [I n] (λe=>∃b,(e=[B b])∧ifB (bnot b) (Q ([S (bA [])])) (Cl prog 153 sP [I n,I 10] (λc=>∃s,(c=[S s])∧Cl prog 154 sP ([S (bA [48]),I (wsub .i64 8 (slen s))]) (λd=>∃a,(d=[S a])∧((lsum (slen (bA [115,101,103,46])) (slen a))≤9223372036854775807)∧((lsum (slen (scat (bA [115,101,103,46]) a)) (slen s))≤9223372036854775807)∧Q ([S (scat (scat (bA [115,101,103,46]) a) s)])))))):Ct prog 88 {} [I n] Q:=
 fN SgT SvT func88 h
end Sgr
end Go.Proofs.YtgehiiginclniaaGreatDoor
namespace Go.Proofs
open Go.Shelf
def Tryz.laysM173_ren:Go.Shelf.Ren:=⟨λ|173=>153|246=>222|283=>289|284=>290|285=>291|286=>292|129=>336|317=>335|318=>337|319=>338|320=>339|337=>358|338=>359|n=>n,λ|2=>2|3=>3|9=>9|4=>4|171=>341|0=>0|53=>219|37=>72|5=>5|173=>344|212=>387|51=>310|20=>20|213=>388|46=>250|232=>422|233=>423|n=>n,λ|17=>0|18=>4|19=>5|n=>n⟩
def Tryz.laysM173:Go.Proofs.LaysM.n173 prog Tryz.laysM173_ren:={
 mixed:=by kernel_rfl
 f129:=func336.trans (congrArg some (by kernel_rfl))
 f173:=func153.trans (congrArg some (by kernel_rfl))
 f246:=func222.trans (congrArg some (by kernel_rfl))
 f283:=func289.trans (congrArg some (by kernel_rfl))
 f284:=func290.trans (congrArg some (by kernel_rfl))
 f285:=func291.trans (congrArg some (by kernel_rfl))
 f286:=func292.trans (congrArg some (by kernel_rfl))
 f317:=func335.trans (congrArg some (by kernel_rfl))
 f318:=func337.trans (congrArg some (by kernel_rfl))
 f319:=func338.trans (congrArg some (by kernel_rfl))
 f320:=func339.trans (congrArg some (by kernel_rfl))
 f337:=func358.trans (congrArg some (by kernel_rfl))
 f338:=func359.trans (congrArg some (by kernel_rfl))
 t0:=Tryz.underlying0
 a0:=Tryz.isAgg0
 z0:=Tryz.sizeOf0
 v0:=Tryz.zeroValue0
 t2:=Tryz.underlying2
 a2:=Tryz.isAgg2
 z2:=Tryz.sizeOf2
 v2:=Tryz.zeroValue2
 t3:=Tryz.underlying3
 a3:=Tryz.isAgg3
 z3:=Tryz.sizeOf3
 v3:=Tryz.zeroValue3
 t4:=Tryz.underlying4
 a4:=Tryz.isAgg4
 z4:=Tryz.sizeOf4
 v4:=Tryz.zeroValue4
 t5:=Tryz.underlying5
 a5:=Tryz.isAgg5
 z5:=Tryz.sizeOf5
 v5:=Tryz.zeroValue5
 t9:=Tryz.underlying9
 a9:=Tryz.isAgg9
 z9:=Tryz.sizeOf9
 v9:=Tryz.zeroValue9
 t20:=Tryz.underlying20
 a20:=Tryz.isAgg20
 z20:=Tryz.sizeOf20
 v20:=Tryz.zeroValue20
 t37:=Tryz.underlying72
 a37:=Tryz.isAgg72
 z37:=Tryz.sizeOf72
 v37:=Tryz.zeroValue72
 t46:=Tryz.underlying250
 a46:=Tryz.isAgg250
 z46:=Tryz.sizeOf250
 v46:=Tryz.zeroValue250
 t51:=Tryz.underlying310
 a51:=Tryz.isAgg310
 z51:=Tryz.sizeOf310
 v51:=Tryz.zeroValue310
 t53:=Tryz.underlying219
 a53:=Tryz.isAgg219
 z53:=Tryz.sizeOf219
 v53:=Tryz.zeroValue219
 t171:=Tryz.underlying341
 a171:=Tryz.isAgg341
 z171:=Tryz.sizeOf341
 v171:=Tryz.zeroValue341
 t173:=Tryz.underlying344
 a173:=Tryz.isAgg344
 z173:=Tryz.sizeOf344
 v173:=Tryz.zeroValue344
 t212:=Tryz.underlying387
 a212:=Tryz.isAgg387
 z212:=Tryz.sizeOf387
 v212:=Tryz.zeroValue387
 t213:=Tryz.underlying388
 a213:=Tryz.isAgg388
 z213:=Tryz.sizeOf388
 t232:=Tryz.underlying422
 a232:=Tryz.isAgg422
 z232:=Tryz.sizeOf422
 v232:=Tryz.zeroValue422
 t233:=Tryz.underlying423
 a233:=Tryz.isAgg423
 z233:=Tryz.sizeOf423
 v233:=Tryz.zeroValue423
 g17:=by kernel_rfl
 g18:=by kernel_rfl
 g19:=by kernel_rfl
 i0:=by kernel_rfl
 i2:=by kernel_rfl
 i3:=by kernel_rfl
 i4:=by kernel_rfl
 i5:=by kernel_rfl
 i9:=by kernel_rfl
 i20:=by kernel_rfl
 i37:=by kernel_rfl
 i46:=by kernel_rfl
 i51:=by kernel_rfl
 i53:=by kernel_rfl
 i171:=by kernel_rfl
 i173:=by kernel_rfl
 i212:=by kernel_rfl
 i232:=by kernel_rfl
 i233:=by kernel_rfl
 m17:=by kernel_rfl
 m18:=by kernel_rfl
 m19:=by kernel_rfl}
def Tryz.lays105_ren:Go.Shelf.Ren:=⟨λ|105=>154|212=>223|99=>224|165=>225|166=>226|170=>227|169=>228|263=>293|264=>294|206=>295|240=>296|241=>297|276=>340|277=>341|n=>n,λ|9=>9|3=>3|4=>4|20=>20|0=>0|46=>250|109=>278|5=>5|72=>283|76=>287|51=>310|146=>346|53=>219|148=>348|70=>281|37=>72|75=>286|127=>350|164=>390|80=>290|n=>n,λ|n=>n⟩
def Tryz.lays105:Go.Proofs.Lays.n105 prog Tryz.lays105_ren:={
 mixed:=by kernel_rfl
 f99:=func224.trans (congrArg some (by kernel_rfl))
 f105:=func154.trans (congrArg some (by kernel_rfl))
 f165:=func225.trans (congrArg some (by kernel_rfl))
 f166:=func226.trans (congrArg some (by kernel_rfl))
 f169:=func228.trans (congrArg some (by kernel_rfl))
 f170:=func227.trans (congrArg some (by kernel_rfl))
 f206:=func295.trans (congrArg some (by kernel_rfl))
 f212:=func223.trans (congrArg some (by kernel_rfl))
 f240:=func296.trans (congrArg some (by kernel_rfl))
 f241:=func297.trans (congrArg some (by kernel_rfl))
 f263:=func293.trans (congrArg some (by kernel_rfl))
 f264:=func294.trans (congrArg some (by kernel_rfl))
 f276:=func340.trans (congrArg some (by kernel_rfl))
 f277:=func341.trans (congrArg some (by kernel_rfl))
 t0:=Tryz.underlying0
 a0:=Tryz.isAgg0
 z0:=Tryz.sizeOf0
 v0:=Tryz.zeroValue0
 t3:=Tryz.underlying3
 a3:=Tryz.isAgg3
 z3:=Tryz.sizeOf3
 v3:=Tryz.zeroValue3
 t4:=Tryz.underlying4
 a4:=Tryz.isAgg4
 z4:=Tryz.sizeOf4
 v4:=Tryz.zeroValue4
 t5:=Tryz.underlying5
 a5:=Tryz.isAgg5
 z5:=Tryz.sizeOf5
 v5:=Tryz.zeroValue5
 t9:=Tryz.underlying9
 a9:=Tryz.isAgg9
 z9:=Tryz.sizeOf9
 v9:=Tryz.zeroValue9
 t20:=Tryz.underlying20
 a20:=Tryz.isAgg20
 z20:=Tryz.sizeOf20
 v20:=Tryz.zeroValue20
 t37:=Tryz.underlying72
 a37:=Tryz.isAgg72
 z37:=Tryz.sizeOf72
 v37:=Tryz.zeroValue72
 t46:=Tryz.underlying250
 a46:=Tryz.isAgg250
 z46:=Tryz.sizeOf250
 v46:=Tryz.zeroValue250
 t51:=Tryz.underlying310
 a51:=Tryz.isAgg310
 z51:=Tryz.sizeOf310
 v51:=Tryz.zeroValue310
 t53:=Tryz.underlying219
 a53:=Tryz.isAgg219
 z53:=Tryz.sizeOf219
 v53:=Tryz.zeroValue219
 t70:=Tryz.underlying281
 a70:=Tryz.isAgg281
 z70:=Tryz.sizeOf281
 v70:=Tryz.zeroValue281
 t72:=Tryz.underlying283
 a72:=Tryz.isAgg283
 z72:=Tryz.sizeOf283
 v72:=Tryz.zeroValue283
 t75:=Tryz.underlying286
 a75:=Tryz.isAgg286
 z75:=Tryz.sizeOf286
 v75:=Tryz.zeroValue286
 t76:=Tryz.underlying287
 a76:=Tryz.isAgg287
 z76:=Tryz.sizeOf287
 v76:=Tryz.zeroValue287
 t109:=Tryz.underlying278
 a109:=Tryz.isAgg278
 z109:=Tryz.sizeOf278
 v109:=Tryz.zeroValue278
 t127:=Tryz.underlying350
 a127:=Tryz.isAgg350
 z127:=Tryz.sizeOf350
 v127:=Tryz.zeroValue350
 t146:=Tryz.underlying346
 a146:=Tryz.isAgg346
 z146:=Tryz.sizeOf346
 v146:=Tryz.zeroValue346
 t148:=Tryz.underlying348
 a148:=Tryz.isAgg348
 z148:=Tryz.sizeOf348
 v148:=Tryz.zeroValue348
 t164:=Tryz.underlying390
 a164:=Tryz.isAgg390
 z164:=Tryz.sizeOf390
 v164:=Tryz.zeroValue390}
def Tryz.Builder_Extra_105:Builder.Extra prog Tryz.lays105_ren:={
 sizeBuilder:=by kernel_rfl
 liesBuilder:=by kernel_rfl
 t5:=Tryz.underlying5
 a5:=Tryz.isAgg5
 z5:=Tryz.sizeOf5
 v5:=Tryz.zeroValue5
 infoByte:=by kernel_rfl
 cellsByte:=by kernel_rfl
 sizeByte:=by kernel_rfl
 neB5:=by decide}
end Go.Proofs
namespace Go.Proofs.YtgehiiginclniaaGreatDoor
namespace Seg
open Go Go.Px Go.Proofs Go.RowKit Tryz
def tab_is{h:Hp}{w:World}(k:HSub h w)(g:Gl h w){nm:String}(l:prog.globalNamed nm=some 0):Lib.TabIs prog w nm .u64 Lib.pow10Tab:=by
 have j:(0,pow10)∈Zbm:=(by simp[Zbm]);obtain⟨_,n,t,r,e,f⟩:=g.size _ j
 have a:∀(i:Nat) (z:Int),Lib.pow10Tab[i]?=some z→n[i]?=some (.int .u64 z):=by
  intro i z m;have o:pow10[i]?=some (.val (.int .u64 z)):=(by have:pow10=Lib.pow10Tab.map λz=>SV.val (.int .u64 z):=(by kernel_rfl);rw[this,Yx,m];rfl);obtain⟨v,c,d⟩:=g.cells _ j i _ o;have b:=k _ _ _ c;have p:v= .int .u64 z:=(Rep.pure (ρ:=λ_=>noLoc) v _ d).val_inv;subst p;simp only[World.cell?,e]at b
  simpa using b
 have q:pow10.length=Lib.pow10Tab.length:=(by decide+kernel);unfold Lib.TabIs World.var?;rw[l];simp only[Option.bind_some,e];congr 1;apply Array.ext
 ·rw[f];simp[q]
 ·intro i c d;have b:i<Lib.pow10Tab.length:=by simp at d;omega
  have:=a i _ (List.getElem?_eq_getElem b);rw[Y2 c]at this
  simpa using this
def fmt10_fn(n:Int)(a: -9223372036854775808≤n)(b:n≤9223372036854775807):Ct prog 153 {} [I n,I 10] (λr=>r=[S ⟨(Lib.itoa n).toArray⟩]):=by
 refine Zkn func153 (by kernel_rfl) (λe=>?_) [.int .i64 n,.int .i64 10] (.string ⟨(Lib.itoa n).toArray⟩) (λh w c d=>?_)
 ·have:(Tryz.f153.name== "runtime.NumGoroutine")=false:=by kernel_rfl
  rw[e]at this;simp at this
 ·refine(Any.strconv_FormatInt_10 Tryz.laysM173 n a b w (tab_is c d (by kernel_rfl))).mono ?_;rintro e g ⟨rfl,k2,os,rfl⟩;refine⟨rfl,rfl,rfl,rfl,by simp[Sort.grow],λk f=>?_⟩;have:k<(w.drewN k2).heap.size:=f;simp only[Sort.grow];rw[Yo this];rfl
def repeat_fn(s:BA)(c:Nat)(b:c≤9223372036854775807)(a:s.size*c≤140737488355328):Ct prog 154 {} [S s,I c] (λr=>r=[S ⟨(Lib.repeatL s.data.toList c).toArray⟩]):=by
 refine Zkn func154 (by kernel_rfl) (λe=>?_) [.string s,.int .i64 c] (.string ⟨(Lib.repeatL s.data.toList c).toArray⟩) (λh w d f=>?_)
 ·have:(Tryz.f154.name== "runtime.NumGoroutine")=false:=by kernel_rfl
  rw[e]at this;simp at this
 ·exact Any.strings_Repeat Tryz.lays105 Tryz.Builder_Extra_105 s c w b a
end Seg
namespace Sgr
open Go Go.Px Go.Proofs Cod Seg Tryz
def dgs:Nat→Nat→List UInt8
 |0,_=>[]
 |k+1,n=>dgs k (n/10)++[UInt8.ofNat (48+n%10)]
def Zdn:∀(k n:Nat),(dgs k n).length=k
 |0,_=>rfl
 |k+1,n=>by simp[dgs,Zdn k]
def Zua:∀k,dgs k 0=List.replicate k 48
 |0=>rfl
 |k+1=>by rw[dgs];simp only[Nat.zero_div,Zua k];rw[List.replicate_succ'];rfl
def Zrw:∀(k n:Nat),1≤k→n<10^k→List.replicate (k-(Lib.decDigits n).length) 48++Lib.decDigits n=dgs k n
 |0,_,h,_=>by omega
 |k+1,n,_,hn=>by
  by_cases h:n<10
  ·rw[Lib.decDigits_one h,dgs,show n/10=0 by omega,Zua,Wm,Nat.add_sub_cancel,Nat.mod_eq_of_lt h]
  ·have a:1≤k:=by
    rcases k with _|k
    ·omega
    ·omega
   have b:=Zrw k (n/10) a (by rw[Nat.pow_succ]at hn;omega);have e:Lib.decDigits n=Lib.decDigits (n/10)++[UInt8.ofNat (48+n%10)]:=(by rw[Lib.decDigits,dif_neg h]);rw[e,dgs,←b];simp
def Zp5{k n:Nat}(a:1≤k)(h:n<10^k):(Lib.decDigits n).length≤k:=by
 have:=congrArg List.length (Zrw k n a h);rw[Zdn]at this;simp at this;omega
def scat_l(a b:List UInt8):scat ⟨a.toArray⟩ ⟨b.toArray⟩=⟨(a++b).toArray⟩:=by
 unfold scat;apply ByteArray.ext;simp
def Zub(a:List UInt8):slen ⟨a.toArray⟩=a.length:=by simp[slen,ByteArray.size]
def repeat0(c:Nat):Lib.repeatL [48] c=List.replicate c 48:=by
 have:=Lib.repeatL_replicate 48 1 c
 simpa using this
def segNm(n:Int):BA:=if 1≤n∧n≤99999999 then⟨([115,101,103,46]++dgs 8 n.toNat).toArray⟩else ByteArray.mk #[]
def Zda(n:Int):Ct prog 88 {} [I n] (λr=>r=[S (segNm n)]):=by
 refine Sgr.sname_nf (Cl.of (Zsl n) ⟨_,rfl,Zaa (λh=>?_) (λh=>?_)⟩)
 ·simp at h;have:¬(1≤n∧n≤99999999):=(by omega);simp[segNm,this]
 ·simp at h;have a:Lib.itoa n=Lib.decDigits n.toNat:=by unfold Lib.itoa;rw[if_neg (by omega)]
  have c:(Lib.decDigits n.toNat).length≤8:=Zp5 (by omega) (by omega);refine Cl.of (fmt10_fn n (by omega) (by omega)) ⟨_,rfl,?_⟩;rw[a,Zub];have w:wsub IntKind.i64 8 ((Lib.decDigits n.toNat).length:Int)=((8-(Lib.decDigits n.toNat).length:Nat):Int):=(by rw[Zar (by omega) (by omega)];omega);rw[w];refine Cl.of (repeat_fn ⟨[48].toArray⟩ _ (by omega) (by simp[ByteArray.size];omega)) ⟨_,rfl,?_⟩;have b:(bA [115,101,103,46])=⟨([115,101,103,46]:List UInt8).toArray⟩:=rfl;have e1:(ByteArray.mk [48].toArray).data.toList=[48]:=rfl;rw[e1,repeat0,b,scat_l,scat_l,Zub,Zub,Zub];refine⟨by simp[lsum];omega,by simp[lsum];omega,?_⟩;rw[List.append_assoc,Zrw 8 n.toNat (by omega) (by omega)];simp[segNm,h.1,h.2]
def addR(s a:Int)(m:List BA)(e:EvD):List SV:=
 if encE s a m e=0 then[SL 1 (bR (fr 2 (encL s a m e))),cx3 e.s e.a (nR (bhdN m e.c)),I 0]else[SL 1 [],cx3 s a (nR m),I (encE s a m e)]
def Zuc(s a:Int)(m:List BA)(e:EvD):Ct prog 138 {} [cx3 s a (nR m),e.sv] (λr=>r=addR s a m e):=by
 have c:=Zqb s a m e;refine sadd_nf ?_;unfold addR;by_cases hE:encE s a m e=0
 ·have ok:=Zc1.1 hE;have f:=Zh3 ok;unfold encR at c;rw[if_pos hE]at c;refine Cl.of c ⟨_,_,_,_,_,rfl,Zaa (λb=>by simp at b) (λ_=>?_)⟩;have d:=Ztw 2 _ (Zip (cs:=s) (ca:=a) (l:=m) (e:=e)) (by omega);have:putF 2 (encL s a m e)=(fr 2 (encL s a m e),0):=(by unfold putF;rw[if_neg (by omega),if_neg (by omega)]);rw[this]at d;exact Cl.of d ⟨_,_,rfl,Zaa (λb=>by simp at b) (λ_=>by rw[if_pos hE])⟩
 ·unfold encR at c;rw[if_neg hE]at c;exact Cl.of c ⟨_,_,_,_,_,rfl,Zaa (λ_=>by rw[if_neg hE]) (λb=>by simp at b;exact absurd b hE)⟩
def Zzm(n s a:Int)(m:List BA)(b:n≤9223372036854775807):Ct prog 139 {} [I n,cx3 s a (nR m)] (λr=>
  r=if ctxB s a m=true∧0≤n then[SL 1 (bR (fr 3 (slP n s a))),I 0]else[SL 1 [],I 1]):=by
 by_cases h0:0≤n
 ·refine(sseal_fn n s a m h0 b).mono ?_;rintro r rfl;simp[h0]
 ·refine Zue (Zaa (λh=>?_) (λh=>by simp at h;omega));rw[if_neg (by omega)]
def recE:Int→Int→List BA→List EvD→Int
 |_,_,_,[]=>0
 |s,a,m,e::l=>if encE s a m e=0 then recE e.s e.a (bhdN m e.c) l else encE s a m e
instance (n s a:Int):Decidable (Seg.headOK n s a):=by unfold Seg.headOK ctxOK;infer_instance
def mkE(n s a:Int)(m:List BA)(l:List EvD):Int:=if headOK n s a∧m=[]then recE s a [] l else 1
def mkR(n s a:Int)(m:List BA)(l:List EvD)(b:Bool):List SV:=if mkE n s a m l=0 then[SL 1 (bR (segL (mkS n s a l b))),I 0]else[SL 1 [],I (mkE n s a m l)]
abbrev QR(l:List Int)(r:List SV):Prop:=∃d a,r=[scanS d a (segL d).length]∧RdO l d a
def RdO.eq{l:List Int}{d t:Sc}{f c:Int}(h:RdO l d f)(k:RdO l t c):d=t∧f=c:=by
 have r:=h.far k.ok k.pre;have s:=k.far h.ok h.pre;obtain⟨u,e1⟩:=r.len k.ok h.ok;obtain⟨v,e2⟩:=s.len h.ok k.ok;have e:t=d:=e1 (by omega);subst e;refine⟨rfl,?_⟩
 rcases h.ext with⟨w,j,p,n,m,e,hst⟩|⟨j,p,n,e,tk,hst⟩<;>rcases k.ext with⟨x,g,o,q,i,a,b⟩|⟨g,o,q,a,tk',b⟩
 ·rw[e]at a;simp only[Prod.mk.injEq]at a;rw[hst,b,a.1]
 ·rw[e]at a;simp only[Prod.mk.injEq]at a;exact absurd a.1 m
 ·rw[e]at a;simp only[Prod.mk.injEq]at a;exact absurd a.1.symm i
 ·rw[hst,b]
end Sgr
namespace Row
open Go Go.Px Go.Proofs Cmp Sx Cod Tryz
def rng(n:Int):Prop:=0≤n∧n≤9223372036854775807
def encN(l:List Int):List Int:=l.flatMap λn=>leb n.toNat
def Zgw(l m:List Int):encN (l++m)=encN l++encN m:=by simp[encN]
def Zwh(n:Int):encN [n]=leb n.toNat:=by simp[encN]
def Zwi:encN []=[]:=rfl
def flat(a:List (Int×Int)):List Int:=a.flatMap λp=>[p.1,p.2]
def Zpq(l:List (Int×Int)):(flat l).length=2*l.length:=by
 induction l with
 |nil=>rfl
 |cons x l a=>simp only[flat,List.flatMap_cons,List.length_append,List.length_cons,Y5]at a⊢;omega
def flat_inj:∀{l m:List (Int×Int)},flat l=flat m→l=m
 | [],[],_=>rfl
 | [],y::m,h=>by simp[flat]at h
 |x::l,[],h=>by simp[flat]at h
 |x::l,y::m,h=>by simp only[flat,List.flatMap_cons,List.cons_append,List.nil_append,List.cons.injEq]at h;obtain⟨a,b,c⟩:=h;rw[flat_inj (l:=l) (m:=m) c];congr 1;exact Yz a b
def bas(a c d e:Int)(b:List (Int×Int)):List Int:=[a,c]++(if a=1 then[d,e,(b.length:Int)]++flat b else[])
def hst(a:Int)(b:List Int):List Int:=if a=1∨a=3 then b else[]
def bck(a:Int)(bs:List Int):List Int:=if a=2∨a=3 then bs else[]
def numC(c:CoD):List Int:=bas c.ro c.mo c.wd c.sl c.cl++(hst c.ro [c.h0,c.h1,c.h2,c.h3,c.h4,c.h5,c.h6,c.h7,c.h8,c.hs]++(bck c.ro [c.rm,c.ha]++[c.c0,c.c1,c.c2]))
def encC(c:CoD):List Int:=leb c.nm.size++(txB c.nm++encN (numC c))
def encS(d:StD):List Int:=leb d.cs.length++(d.cs.flatMap encC++(leb d.q.toNat++leb d.t.toNat))
def zro(c:CoD):Prop:=(c.ro≠1→c.wd=0∧c.sl=0∧c.cl=[])∧(c.ro≠1→c.ro≠3→c.h0=0∧c.h1=0∧c.h2=0∧c.h3=0∧c.h4=0∧c.h5=0∧c.h6=0∧c.h7=0∧c.h8=0∧c.hs=0)∧(c.ro≠2→c.ro≠3→c.rm=0∧c.ha=0)
structure shp(c:CoD):Prop where
 z:zro c
 r:1≤c.ro∧c.ro≤3
 nm:c.nm.size≤24
 cl:c.cl.length≤16
 n:∀n∈numC c,rng n
def shp_of{c:CoD}(h:c.P):shp c∧∀n∈numC c,0≤n∧n≤1099511627776:=by
 obtain⟨⟨l,r⟩,f⟩:=h;simp only[namB,decide_eq_true_eq]at l;obtain⟨s,t,u⟩:=r;unfold heldP at s t u
 have d:zro c∧(1≤c.ro∧c.ro≤3)∧c.cl.length≤16∧∀n∈numC c,0≤n∧n≤1099511627776:=by
  unfold CoD.roleP at f
  split at f
  ·rename_i j;obtain⟨⟨m,w1,w2,w3,w4⟩,b,g⟩:=f;simp only[CoD.his,hisP,heldP]at b;refine⟨⟨λe=>absurd j e,λe=>absurd j e,λ_ _=>g⟩,by omega,w3.2,λn a=>?_⟩;simp only[numC,bas,hst,bck,j,if_true,List.mem_append]at a;unfold timP at w2
   rcases a with a|a|a|a
   ·simp only[List.mem_cons,YU,or_false]at a
    rcases a with(rfl|rfl)|(rfl|rfl|rfl)|a<;>try omega
    simp only[flat,List.mem_flatMap,List.mem_cons,YU,or_false]at a;obtain⟨p,o,rfl|rfl⟩:=a
    ·have:=w4 p o;unfold heldP at this;omega
    ·have:=w4 p o;unfold heldP at this;omega
   ·simp at a
    rcases a with rfl|rfl|rfl|rfl|rfl|rfl|rfl|rfl|rfl|rfl<;>omega
   ·simp at a
   ·simp at a;rcases a with rfl|rfl|rfl<;>omega
  next j=>
   split at f
   ·rename_i k;obtain⟨⟨⟨m,w1,w2,w3⟩,b,q⟩,g⟩:=f;unfold bktP at g;refine⟨⟨λ_=>⟨w1,w2,w3⟩,λ_ _=>⟨b.1,b.2.1,b.2.2.1,b.2.2.2.1,b.2.2.2.2.1,b.2.2.2.2.2.1,b.2.2.2.2.2.2.1,b.2.2.2.2.2.2.2.1,b.2.2.2.2.2.2.2.2,q⟩,λe=>absurd k e⟩,by omega,by rw[w3];simp,λn a=>?_⟩;simp only[numC,bas,hst,bck,k,List.mem_append]at a;simp at a
    rcases a with(rfl|rfl)|(rfl|rfl)|rfl|rfl|rfl<;>omega
   ·obtain⟨i,⟨m,w1,w2,w3⟩,b,g⟩:=f;simp only[CoD.his,hisP,heldP]at b;unfold bktP at g;refine⟨⟨λ_=>⟨w1,w2,w3⟩,λ_ e=>absurd i e,λ_ e=>absurd i e⟩,by omega,by rw[w3];simp,λn a=>?_⟩;simp only[numC,bas,hst,bck,i,List.mem_append]at a;simp at a
    rcases a with(rfl|rfl)|(rfl|rfl|rfl|rfl|rfl|rfl|rfl|rfl|rfl|rfl)|(rfl|rfl)|rfl|rfl|rfl<;>omega
 exact⟨⟨d.1,d.2.1,l.2,d.2.2.1,λn a=>⟨(d.2.2.2 n a).1,by have:=(d.2.2.2 n a).2;omega⟩⟩,d.2.2.2⟩
def Ztt(a c d e:Int)(b:List (Int×Int)):(bas a c d e b).length=if a=1 then 5+2*b.length else 2:=by
 unfold bas;split
 ·simp[Zpq];omega
 ·rfl
def Zhl(a:Int)(l:List Int):(hst a l).length=if a=1∨a=3 then l.length else 0:=by unfold hst;split<;>simp
def Zjd(a:Int)(l:List Int):(bck a l).length=if a=2∨a=3 then l.length else 0:=by unfold bck;split<;>simp
def pre_ro{c:CoD}{a b:Int}{x:List Int}(h:([a,b]++x)<+:numC c):c.ro=a∧c.mo=b:=by
 obtain⟨t,h⟩:=h;simp only[numC,bas,List.cons_append,List.nil_append,List.cons.injEq]at h;exact⟨h.1.symm,h.2.1.symm⟩
def pre_win{c:CoD}{d a b k:Int}{x:List Int}(h:([1,d,a,b,k]++x)<+:numC c):c.ro=1∧c.mo=d∧c.wd=a∧c.sl=b∧(c.cl.length:Int)=k:=by
 have e:=(pre_ro (x:=[a,b,k]++x) (by simpa using h)).1;obtain⟨t,h⟩:=h;simp only[numC,bas,e,if_true,List.cons_append,List.nil_append,List.cons.injEq]at h;exact⟨e,h.2.1.symm,h.2.2.1.symm,h.2.2.2.1.symm,h.2.2.2.2.1.symm⟩
def pre_bas{c:CoD}{a f d e:Int}{b:List (Int×Int)}{x:List Int}(h:(bas a f d e b++x)<+:numC c):
  c.ro=a∧(numC c).length=(bas a f d e b).length+((if a=1∨a=3 then 10 else 0)+((if a=2∨a=3 then 2 else 0)+3)):=by
 have g:=(pre_ro (x:=(if a=1 then[d,e,(b.length:Int)]++flat b else[])++x) (by simpa[bas]using h)).1;refine⟨g,?_⟩;simp only[numC,List.length_append,Ztt,Zhl,Zjd,g];by_cases h1:a=1
 ·subst h1;have:=(pre_win (x:=flat b++x) (by simpa[bas]using h)).2.2.2.2;simp;omega
 ·simp[h1]
def Zio{c:CoD}:5≤(numC c).length:=by
 simp only[numC,bas,List.length_append,List.length_cons,Y5];omega
def Ztu{a b x y:List Int}(h:(a++x)<+:(b++y))(c:a.length=b.length):a=b∧x<+:y:=by
 obtain⟨t,h⟩:=h;rw[List.append_assoc]at h;obtain⟨d,e⟩:=List.append_inj h c;exact⟨d,⟨t,e⟩⟩
def Zpr{c d:CoD}(o:zro c)(p:zro d)(W:c.nm=d.nm)(h:numC c<+:numC d):c=d:=by
 have Q:=pre_bas (c:=d) (by simpa[numC]using h);obtain⟨f,q⟩:=Q;have R:(bas c.ro c.mo c.wd c.sl c.cl).length=(bas d.ro d.mo d.wd d.sl d.cl).length:=(by have:(numC d).length=(bas d.ro d.mo d.wd d.sl d.cl).length+((if d.ro=1∨d.ro=3 then 10 else 0)+((if d.ro=2∨d.ro=3 then 2 else 0)+3)):=(by simp only[numC,List.length_append,Zhl,Zjd,List.length_cons,Y5]);rw[f]at this⊢;omega);obtain⟨e1,r⟩:=Ztu h R;have T:(hst c.ro [c.h0,c.h1,c.h2,c.h3,c.h4,c.h5,c.h6,c.h7,c.h8,c.hs]).length=(hst d.ro [d.h0,d.h1,d.h2,d.h3,d.h4,d.h5,d.h6,d.h7,d.h8,d.hs]).length:=(by simp only[Zhl,f];rfl);obtain⟨e2,s⟩:=Ztu r T;have U:(bck c.ro [c.rm,c.ha]).length=(bck d.ro [d.rm,d.ha]).length:=(by simp only[Zjd,f];rfl);obtain⟨m,g⟩:=Ztu s U;have e4:c.c0=d.c0∧c.c1=d.c1∧c.c2=d.c2:=(by obtain⟨t,g⟩:=g;simp at g;exact⟨g.1,g.2.1,g.2.2.1⟩);obtain⟨u,v,x⟩:=o;obtain⟨y,z,A⟩:=p
 have w:c.mo=d.mo∧c.wd=d.wd∧c.sl=d.sl∧c.cl=d.cl:=by
  simp only[bas,f]at e1;by_cases hr:c.ro=1
  ·simp only[hr,if_true,List.cons_append,List.nil_append,List.cons.injEq]at e1;exact⟨e1.2.1,e1.2.2.1,e1.2.2.2.1,flat_inj e1.2.2.2.2.2⟩
  ·rw[if_neg hr,if_neg hr]at e1;obtain⟨i,j,n⟩:=u hr;obtain⟨k,l,b3⟩:=y (by omega);simp at e1;exact⟨e1,by rw[i,k],by rw[j,l],by rw[n,b3]⟩
 have V:c.h0=d.h0∧c.h1=d.h1∧c.h2=d.h2∧c.h3=d.h3∧c.h4=d.h4∧c.h5=d.h5∧c.h6=d.h6∧c.h7=d.h7∧c.h8=d.h8∧c.hs=d.hs:=by
  by_cases hr:c.ro=1∨c.ro=3
  ·simp only[hst,f,if_pos hr,List.cons.injEq]at e2;exact⟨e2.1,e2.2.1,e2.2.2.1,e2.2.2.2.1,e2.2.2.2.2.1,e2.2.2.2.2.2.1,e2.2.2.2.2.2.2.1,e2.2.2.2.2.2.2.2.1,e2.2.2.2.2.2.2.2.2.1,e2.2.2.2.2.2.2.2.2.2.1⟩
  ·have a:=v (λe=>hr (.inl e)) (λe=>hr (.inr e));have b:=z (λe=>hr (.inl (by omega))) (λe=>hr (.inr (by omega)));obtain⟨C,i,j,n,D,E,F,G,H,J⟩:=a;obtain⟨K,k,l,b3,L,b5,M,N,O,P⟩:=b;exact⟨by rw[C,K],by rw[i,k],by rw[j,l],by rw[n,b3],by rw[D,L],by rw[E,b5],by rw[F,M],by rw[G,N],by rw[H,O],by rw[J,P]⟩
 have hb:c.rm=d.rm∧c.ha=d.ha:=by
  by_cases hr:c.ro=2∨c.ro=3
  ·simp only[bck,f,if_pos hr,List.cons.injEq]at m;exact⟨m.1,m.2.1⟩
  ·obtain⟨i,j⟩:=x (λe=>hr (.inl e)) (λe=>hr (.inr e));obtain⟨k,l⟩:=A (λe=>hr (.inl (by omega))) (λe=>hr (.inr (by omega)));exact⟨by rw[i,k],by rw[j,l]⟩
 obtain⟨w1,w2,w3,w4⟩:=w;obtain⟨X,Y,Z,g3,g4,g5,g6,g7,g8,g9⟩:=V
 cases c;cases d
 simp_all
def Zwj{p x l:List Int}{a:Int}(b:a=p.length)(h:p++x<+:l):∃t,l.drop a.toNat=x++t:=by
 obtain⟨t,rfl⟩:=h;refine⟨t,?_⟩;rw[b,Int.toNat_natCast,List.append_assoc,Wc]
def Zwk{p x l t:List Int}{a:Int}(b:a=p.length)(c:p<+:l)(h:l.drop a.toNat=x++t):p++x<+:l:=by
 obtain⟨s,rfl⟩:=c;rw[b,Int.toNat_natCast,Wc]at h;exact⟨t,by rw[h,List.append_assoc]⟩
def Zwl{p x y l:List Int}(h:p++(x++y)<+:l):p++x<+:l:=by
 obtain⟨t,h⟩:=h;exact⟨y++t,by rw[←h];simp⟩
def leb_small{n:Nat}(h:n<18446744073709551616):(leb n).length≤10:=Zhk 9 _ (Nat.lt_of_lt_of_le h (by decide))
def byts_encN(l:List Int):Byts (encN l):=λx a=>by
 obtain⟨n,_,h⟩:=List.mem_flatMap.1 a;exact Zwe _ _ h
def byts_encC(c:CoD):Byts (encC c):=(Zay _).app ((Zy2 _).app (byts_encN _))
def byts_encS(d:StD):Byts (encS d):=
 (Zay _).app (Byts.app (λx a=>by obtain⟨c,_,h⟩:=List.mem_flatMap.1 a;exact byts_encC c x h) ((Zay _).app (Zay _)))
def encN_len{l:List Int}(h:∀n∈l,rng n):(encN l).length≤10*l.length:=by
 induction l with
 |nil=>simp[encN]
 |cons x l d=>have c:=d λn b=>h n (by simp[b]);have a:=h x (by simp);have e:(leb x.toNat).length≤10:=leb_small (by have:=a.2;have:=a.1;omega);simp only[encN,List.flatMap_cons,List.length_append,List.length_cons]at c⊢;omega
def encC_len{c:CoD}(h:shp c):(encC c).length≤600:=by
 have a:=encN_len h.n;have b:(leb c.nm.size).length≤10:=leb_small (by have:=h.nm;omega)
 have d:(numC c).length≤52:=by
  simp only[numC,List.length_append,Ztt,Zhl,Zjd,List.length_cons,Y5];have:=h.cl
  split<;>split<;>split<;>omega
 have e:=h.nm;simp only[encC,List.length_append,Zcl];omega
def Zri:∀{l:List CoD},(∀c∈l,shp c)→(l.flatMap encC).length≤600*l.length
 | [],_=>by simp
 |c::l,h=>by have b:=encC_len (h c (by simp));have d:=Zri (l:=l) λx a=>h x (by simp[a]);simp only[List.flatMap_cons,List.length_append,List.length_cons];omega
end Row
namespace Row
open Go Go.Px Go.Proofs Cmp Sx Tryz
abbrev st3(rows:LL)(s a:Int):SV:=.agg [SL 21 rows,I s,I a]
abbrev cu3(bs:LL)(a e:Int):SV:=.agg [SL 1 bs,I a,I e]
abbrev rd4(bs:LL)(a e:Int)(b:Bool):SV:=.agg [SL 1 bs,I a,I e,B b]
abbrev sL:Sig:=⟨[.lend [false,false,false,false]],[]⟩
def SgT:FuncId→Sig:=(λf=>bif Nat.beq f 271 then⟨[],[.own]⟩else bif Nat.beq f 272 then⟨[],[.own]⟩else bif Nat.beq f 149 then⟨[],[.own]⟩else bif Nat.beq f 218 then⟨[],[.own]⟩else bif Nat.beq f 307 then⟨[],[.own]⟩else bif Nat.beq f 321 then sL else bif Nat.beq f 355 then sL else bif Nat.beq f 322 then sL else bif Nat.beq f 356 then sL else{})
def SvT:TypeId→Sig:=λ_=>{}
def rnum_nf{bs:LL}{b er:Int}{bad:Bool}{Q:QQ}(h:Cl prog 353 sP ([SV.agg [SL 1 bs,I b,I er]]) (λd=>∃l x,∃a c,(d=[SV.agg [SL 1 l,I x,I a],U64 c])∧ifB (bpick (ine a 0) true (igt c 9223372036854775807)) (Q ([I 0,SV.agg [SL 1 l,I x,I a,B true]])) (Q ([I (wcv .i64 c),SV.agg [SL 1 l,I x,I a,B bad]])))):Ct prog 321 ⟨[.lend [false,false,false,false]],[]⟩ [rd4 bs b er bad] Q:=
 fN SgT SvT func321 h
def rtxt_nf{bs:LL}{b er:Int}{bad:Bool}{Q:QQ}(h:Cl prog 371 sP ([SV.agg [SL 1 bs,I b,I er],I 24]) (λc=>∃l x,∃a s,(c=[SV.agg [SL 1 l,I x,I a],S s])∧ifB (ine a 0) (Q ([S (bA []),SV.agg [SL 1 l,I x,I a,B true]])) (Q ([S s,SV.agg [SL 1 l,I x,I a,B bad]])))):Ct prog 355 ⟨[.lend [false,false,false,false]],[]⟩ [rd4 bs b er bad] Q:=
 fN SgT SvT func355 h
def rwin_nf{bs:LL}{s er:Int}{bad:Bool}{Q:QQ}(h:Cl prog 321 (Sig.mk ([Md.lend [false,false,false,false]]) []) ([SV.agg [SL 1 bs,I s,I er,B bad]]) (λT=>∃x l,∃H J b,(T=[I x,SV.agg [SL 1 l,I H,I J,B b]])∧Cl prog 321 (Sig.mk ([Md.lend [false,false,false,false]]) []) ([SV.agg [SL 1 l,I H,I J,B b]]) (λD=>∃v K,∃L M N,(D=[I v,SV.agg [SL 1 K,I L,I M,B N]])∧Cl prog 321 (Sig.mk ([Md.lend [false,false,false,false]]) []) ([SV.agg [SL 1 K,I L,I M,B N]]) (λE=>∃w y,∃z A O,(E=[I w,SV.agg [SL 1 y,I z,I A,B O]])∧ifB (igt w 16) (Q ([SV.agg ([I x,I v,SL 2 []]),SV.agg [SL 1 y,I z,I A,B true]])) (∃n:Int→LL→Int→Int→Bool→Int→Int→LL→Prop,∃m:Int→LL→Int→Int→Bool→Int→Int→LL→Nat,(n 0 y z A O x v [])∧∀o r,∀d e,∀b3 a,∀c j,(n o r d e b3 a c j)→ifB (ilt o w) (Cl prog 321 (Sig.mk ([Md.lend [false,false,false,false]]) []) ([SV.agg [SL 1 r,I d,I e,B b3]]) (λF=>∃g P,∃t u R,(F=[I g,SV.agg [SL 1 P,I t,I u,B R]])∧Cl prog 321 (Sig.mk ([Md.lend [false,false,false,false]]) []) ([SV.agg [SL 1 P,I t,I u,B R]]) (λG=>∃i C,∃p q b5,(G=[I i,SV.agg [SL 1 C,I p,I q,B b5]])∧((lsum (rlen j) (rlen ([[I g,I i]])))≤2147483648)∧(Sm (some ([[I 0,I 0,SV.slice 2 [] 1]])))∧(n (wadd .i64 o 1) C p q b5 a c (rapp j ([[I g,I i]])))∧Nat.le (Nat.succ (m (wadd .i64 o 1) C p q b5 a c (rapp j ([[I g,I i]])))) (m o r d e b3 a c j)))) (Q ([SV.agg [I a,I c,SL 2 j],SV.agg [SL 1 r,I d,I e,B b3]]))))))):Ct prog 356 ⟨[.lend [false,false,false,false]],[]⟩ [rd4 bs s er bad] Q:=
 fO SgT SvT (λk=>bif Nat.beq k 23 then some {slots:=[(22,false,[.int .i64])],boxes:=[(1048576,[.sl 1,.int .i64,.int .i64,.bool]),(384,[.int .i64,.int .i64,.own 2])],fixed:=[256]}else none) func356 h
def rcomp_nf{bs:LL}{bf er:Int}{bad:Bool}{Q:QQ}(h:Cl prog 355 (Sig.mk ([Md.lend [false,false,false,false]]) []) ([SV.agg [SL 1 bs,I bf,I er,B bad]]) (λrs=>∃s l,∃x x1 b,(rs=[S s,SV.agg [SL 1 l,I x,I x1,B b]])∧Cl prog 321 (Sig.mk ([Md.lend [false,false,false,false]]) []) ([SV.agg [SL 1 l,I x,I x1,B b]]) (λbw=>∃x2 l1,∃x3 x4 b1,(bw=[I x2,SV.agg [SL 1 l1,I x3,I x4,B b1]])∧ifB (bpick (ilt x2 1) true (igt x2 3)) (Q ([SV.agg ([S s,I 0,I 0,I 0,I 0,SL 2 [],I 0,I 0,I 0,I 0,I 0,I 0,I 0,I 0,I 0,I 0,I 0,I 0,I 0,I 0,I 0]),SV.agg [SL 1 l1,I x3,I x4,B true]])) (Cl prog 321 (Sig.mk ([Md.lend [false,false,false,false]]) []) ([SV.agg [SL 1 l1,I x3,I x4,B b1]]) (λbx=>∃x5 l2,∃x6 x7 b2,(bx=[I x5,SV.agg [SL 1 l2,I x6,I x7,B b2]])∧∃ao:LL→Int→Int→Bool→BA→Int→Int→Int→Int→LL→Int→Int→Int→Int→Int→Int→Int→Int→Int→Int→Int→Int→Int→Int→Int→Prop,∃m:LL→Int→Int→Bool→BA→Int→Int→Int→Int→LL→Int→Int→Int→Int→Int→Int→Int→Int→Int→Int→Int→Int→Int→Int→Int→Nat,(ifB (ieq x2 1) (Cl prog 356 (Sig.mk ([Md.lend [false,false,false,false]]) []) ([SV.agg [SL 1 l2,I x6,I x7,B b2]]) (λa8=>∃x8 x9,∃l3 l4,∃ac ai b3,(a8=[SV.agg [I x8,I x9,SL 2 l3],SV.agg [SL 1 l4,I ac,I ai,B b3]])∧(Sm (some ([[S (bA []),I 0,I 0,I 0,I 0,SV.slice 2 [] 1,I 0,I 0,I 0,I 0,I 0,I 0,I 0,I 0,I 0,I 0,I 0,I 0,I 0,I 0,I 0]])))∧ao l4 ac ai b3 s x2 x5 x8 x9 l3 0 0 0 0 0 0 0 0 0 0 0 0 0 0 0)) ((Sm (some ([[S (bA []),I 0,I 0,I 0,I 0,SV.slice 2 [] 1,I 0,I 0,I 0,I 0,I 0,I 0,I 0,I 0,I 0,I 0,I 0,I 0,I 0,I 0,I 0]])))∧ao l2 x6 x7 b2 s x2 x5 0 0 [] 0 0 0 0 0 0 0 0 0 0 0 0 0 0 0))∧∀l3 x8,∀x9 b3,∀s1 ac,∀ai ap,∀aq l4,∀ar au,∀av aw,∀ax ay,∀az b0,∀b8 b9,∀ba bb,∀bc bd be,(ao l3 x8 x9 b3 s1 ac ai ap aq l4 ar au av aw ax ay az b0 b8 b9 ba bb bc bd be)→∃an:LL→Int→Int→Bool→BA→Int→Int→Int→Int→LL→Int→Int→Int→Int→Int→Int→Int→Int→Int→Int→Int→Int→Int→Int→Int→Prop,∃m1:LL→Int→Int→Bool→BA→Int→Int→Int→Int→LL→Int→Int→Int→Int→Int→Int→Int→Int→Int→Int→Int→Int→Int→Int→Int→Nat,(ifB (bpick (ieq ac 1) true (ieq ac 3)) (∃J:Int→LL→Int→Int→Bool→BA→Int→Int→Int→Int→LL→Int→Int→Int→Int→Int→Int→Int→Int→Int→Int→Int→Int→Int→Int→Int→Prop,∃O:Int→LL→Int→Int→Bool→BA→Int→Int→Int→Int→LL→Int→Int→Int→Int→Int→Int→Int→Int→Int→Int→Int→Int→Int→Int→Int→Nat,(J 0 l3 x8 x9 b3 s1 ac ai ap aq l4 ar au av aw ax ay az b0 b8 b9 ba bb bc bd be)∧∀a l5,∀M L,∀b4 G,∀d e,∀g i,∀H q,∀r t,∀u v,∀w y,∀z A,∀C p,∀j n,∀o c,(J a l5 M L b4 G d e g i H q r t u v w y z A C p j n o c)→ifB (ilt a 9) (Cl prog 321 (Sig.mk ([Md.lend [false,false,false,false]]) []) ([SV.agg [SL 1 l5,I M,I L,B b4]]) (λa8=>∃D K,∃E F b5,(a8=[I D,SV.agg [SL 1 K,I E,I F,B b5]])∧(((0:Int)≤a)∧a<9)∧((a=(0:Int))→(Sm (some ([[S (bA []),I 0,I 0,I 0,I 0,SV.slice 2 [] 1,I 0,I 0,I 0,I 0,I 0,I 0,I 0,I 0,I 0,I 0,I 0,I 0,I 0,I 0,I 0]])))∧(J (wadd .i64 a 1) K E F b5 G d e g i H D r t u v w y z A C p j n o c)∧Nat.le (Nat.succ (O (wadd .i64 a 1) K E F b5 G d e g i H D r t u v w y z A C p j n o c)) (O a l5 M L b4 G d e g i H q r t u v w y z A C p j n o c))∧((a=(1:Int))→(Sm (some ([[S (bA []),I 0,I 0,I 0,I 0,SV.slice 2 [] 1,I 0,I 0,I 0,I 0,I 0,I 0,I 0,I 0,I 0,I 0,I 0,I 0,I 0,I 0,I 0]])))∧(J (wadd .i64 a 1) K E F b5 G d e g i H q D t u v w y z A C p j n o c)∧Nat.le (Nat.succ (O (wadd .i64 a 1) K E F b5 G d e g i H q D t u v w y z A C p j n o c)) (O a l5 M L b4 G d e g i H q r t u v w y z A C p j n o c))∧((a=(2:Int))→(Sm (some ([[S (bA []),I 0,I 0,I 0,I 0,SV.slice 2 [] 1,I 0,I 0,I 0,I 0,I 0,I 0,I 0,I 0,I 0,I 0,I 0,I 0,I 0,I 0,I 0]])))∧(J (wadd .i64 a 1) K E F b5 G d e g i H q r D u v w y z A C p j n o c)∧Nat.le (Nat.succ (O (wadd .i64 a 1) K E F b5 G d e g i H q r D u v w y z A C p j n o c)) (O a l5 M L b4 G d e g i H q r t u v w y z A C p j n o c))∧((a=(3:Int))→(Sm (some ([[S (bA []),I 0,I 0,I 0,I 0,SV.slice 2 [] 1,I 0,I 0,I 0,I 0,I 0,I 0,I 0,I 0,I 0,I 0,I 0,I 0,I 0,I 0,I 0]])))∧(J (wadd .i64 a 1) K E F b5 G d e g i H q r t D v w y z A C p j n o c)∧Nat.le (Nat.succ (O (wadd .i64 a 1) K E F b5 G d e g i H q r t D v w y z A C p j n o c)) (O a l5 M L b4 G d e g i H q r t u v w y z A C p j n o c))∧((a=(4:Int))→(Sm (some ([[S (bA []),I 0,I 0,I 0,I 0,SV.slice 2 [] 1,I 0,I 0,I 0,I 0,I 0,I 0,I 0,I 0,I 0,I 0,I 0,I 0,I 0,I 0,I 0]])))∧(J (wadd .i64 a 1) K E F b5 G d e g i H q r t u D w y z A C p j n o c)∧Nat.le (Nat.succ (O (wadd .i64 a 1) K E F b5 G d e g i H q r t u D w y z A C p j n o c)) (O a l5 M L b4 G d e g i H q r t u v w y z A C p j n o c))∧((a=(5:Int))→(Sm (some ([[S (bA []),I 0,I 0,I 0,I 0,SV.slice 2 [] 1,I 0,I 0,I 0,I 0,I 0,I 0,I 0,I 0,I 0,I 0,I 0,I 0,I 0,I 0,I 0]])))∧(J (wadd .i64 a 1) K E F b5 G d e g i H q r t u v D y z A C p j n o c)∧Nat.le (Nat.succ (O (wadd .i64 a 1) K E F b5 G d e g i H q r t u v D y z A C p j n o c)) (O a l5 M L b4 G d e g i H q r t u v w y z A C p j n o c))∧((a=(6:Int))→(Sm (some ([[S (bA []),I 0,I 0,I 0,I 0,SV.slice 2 [] 1,I 0,I 0,I 0,I 0,I 0,I 0,I 0,I 0,I 0,I 0,I 0,I 0,I 0,I 0,I 0]])))∧(J (wadd .i64 a 1) K E F b5 G d e g i H q r t u v w D z A C p j n o c)∧Nat.le (Nat.succ (O (wadd .i64 a 1) K E F b5 G d e g i H q r t u v w D z A C p j n o c)) (O a l5 M L b4 G d e g i H q r t u v w y z A C p j n o c))∧((a=(7:Int))→(Sm (some ([[S (bA []),I 0,I 0,I 0,I 0,SV.slice 2 [] 1,I 0,I 0,I 0,I 0,I 0,I 0,I 0,I 0,I 0,I 0,I 0,I 0,I 0,I 0,I 0]])))∧(J (wadd .i64 a 1) K E F b5 G d e g i H q r t u v w y D A C p j n o c)∧Nat.le (Nat.succ (O (wadd .i64 a 1) K E F b5 G d e g i H q r t u v w y D A C p j n o c)) (O a l5 M L b4 G d e g i H q r t u v w y z A C p j n o c))∧((a=(8:Int))→(Sm (some ([[S (bA []),I 0,I 0,I 0,I 0,SV.slice 2 [] 1,I 0,I 0,I 0,I 0,I 0,I 0,I 0,I 0,I 0,I 0,I 0,I 0,I 0,I 0,I 0]])))∧(J (wadd .i64 a 1) K E F b5 G d e g i H q r t u v w y z D C p j n o c)∧Nat.le (Nat.succ (O (wadd .i64 a 1) K E F b5 G d e g i H q r t u v w y z D C p j n o c)) (O a l5 M L b4 G d e g i H q r t u v w y z A C p j n o c))∧True)) (Cl prog 321 (Sig.mk ([Md.lend [false,false,false,false]]) []) ([SV.agg [SL 1 l5,I M,I L,B b4]]) (λa8=>∃D K,∃E F b5,(a8=[I D,SV.agg [SL 1 K,I E,I F,B b5]])∧(Sm (some ([[S (bA []),I 0,I 0,I 0,I 0,SV.slice 2 [] 1,I 0,I 0,I 0,I 0,I 0,I 0,I 0,I 0,I 0,I 0,I 0,I 0,I 0,I 0,I 0]])))∧an K E F b5 G d e g i H q r t u v w y z A D p j n o c))) ((Sm (some ([[S (bA []),I 0,I 0,I 0,I 0,SV.slice 2 [] 1,I 0,I 0,I 0,I 0,I 0,I 0,I 0,I 0,I 0,I 0,I 0,I 0,I 0,I 0,I 0]])))∧an l3 x8 x9 b3 s1 ac ai ap aq l4 ar au av aw ax ay az b0 b8 b9 ba bb bc bd be))∧∀l5 a,∀M b4,∀G L,∀d e,∀g H,∀i q,∀r t,∀u v,∀w y,∀z A,∀C p,∀j n o,(an l5 a M b4 G L d e g H i q r t u v w y z A C p j n o)→∃J:LL→Int→Int→Bool→BA→Int→Int→Int→Int→LL→Int→Int→Int→Int→Int→Int→Int→Int→Int→Int→Int→Int→Int→Int→Int→Prop,∃O:LL→Int→Int→Bool→BA→Int→Int→Int→Int→LL→Int→Int→Int→Int→Int→Int→Int→Int→Int→Int→Int→Int→Int→Int→Int→Nat,(ifB (bpick (ieq L 2) true (ieq L 3)) (Cl prog 321 (Sig.mk ([Md.lend [false,false,false,false]]) []) ([SV.agg [SL 1 l5,I a,I M,B b4]]) (λa8=>∃c K,∃D E b5,(a8=[I c,SV.agg [SL 1 K,I D,I E,B b5]])∧Cl prog 321 (Sig.mk ([Md.lend [false,false,false,false]]) []) ([SV.agg [SL 1 K,I D,I E,B b5]]) (λbz=>∃F l8,∃al am b6,(bz=[I F,SV.agg [SL 1 l8,I al,I am,B b6]])∧(Sm (some ([[S (bA []),I 0,I 0,I 0,I 0,SV.slice 2 [] 1,I 0,I 0,I 0,I 0,I 0,I 0,I 0,I 0,I 0,I 0,I 0,I 0,I 0,I 0,I 0]])))∧J l8 al am b6 G L d e g H i q r t u v w y z A c F j n o))) ((Sm (some ([[S (bA []),I 0,I 0,I 0,I 0,SV.slice 2 [] 1,I 0,I 0,I 0,I 0,I 0,I 0,I 0,I 0,I 0,I 0,I 0,I 0,I 0,I 0,I 0]])))∧J l5 a M b4 G L d e g H i q r t u v w y z A C p j n o))∧∀K c,∀D b5,∀s3 E,∀F al,∀am l8,∀bg bh,∀bi bj,∀bk bl,∀bm bn,∀bo bp,∀bq br,∀bt bu bv,(J K c D b5 s3 E F al am l8 bg bh bi bj bk bl bm bn bo bp bq br bt bu bv)→∃ad:Int→LL→Int→Int→Bool→BA→Int→Int→Int→Int→LL→Int→Int→Int→Int→Int→Int→Int→Int→Int→Int→Int→Int→Int→Int→Int→Prop,∃m3:Int→LL→Int→Int→Bool→BA→Int→Int→Int→Int→LL→Int→Int→Int→Int→Int→Int→Int→Int→Int→Int→Int→Int→Int→Int→Int→Nat,(ad 0 K c D b5 s3 E F al am l8 bg bh bi bj bk bl bm bn bo bp bq br bt bu bv)∧∀N l9,∀aj ak,∀b6 s4,∀P R,∀T U,∀V W,∀X Y,∀Z a0,∀a1 a2,∀a3 a4,∀a5 a6,∀a7 a9,∀aa ab,(ad N l9 aj ak b6 s4 P R T U V W X Y Z a0 a1 a2 a3 a4 a5 a6 a7 a9 aa ab)→ifB (ilt N 3) (Cl prog 321 (Sig.mk ([Md.lend [false,false,false,false]]) []) ([SV.agg [SL 1 l9,I aj,I ak,B b6]]) (λa8=>∃ae af,∃ag ah b7,(a8=[I ae,SV.agg [SL 1 af,I ag,I ah,B b7]])∧(((0:Int)≤N)∧N<3)∧((N=(0:Int))→(Sm (some ([[S (bA []),I 0,I 0,I 0,I 0,SV.slice 2 [] 1,I 0,I 0,I 0,I 0,I 0,I 0,I 0,I 0,I 0,I 0,I 0,I 0,I 0,I 0,I 0]])))∧(ad (wadd .i64 N 1) af ag ah b7 s4 P R T U V W X Y Z a0 a1 a2 a3 a4 a5 a6 a7 ae aa ab)∧Nat.le (Nat.succ (m3 (wadd .i64 N 1) af ag ah b7 s4 P R T U V W X Y Z a0 a1 a2 a3 a4 a5 a6 a7 ae aa ab)) (m3 N l9 aj ak b6 s4 P R T U V W X Y Z a0 a1 a2 a3 a4 a5 a6 a7 a9 aa ab))∧((N=(1:Int))→(Sm (some ([[S (bA []),I 0,I 0,I 0,I 0,SV.slice 2 [] 1,I 0,I 0,I 0,I 0,I 0,I 0,I 0,I 0,I 0,I 0,I 0,I 0,I 0,I 0,I 0]])))∧(ad (wadd .i64 N 1) af ag ah b7 s4 P R T U V W X Y Z a0 a1 a2 a3 a4 a5 a6 a7 a9 ae ab)∧Nat.le (Nat.succ (m3 (wadd .i64 N 1) af ag ah b7 s4 P R T U V W X Y Z a0 a1 a2 a3 a4 a5 a6 a7 a9 ae ab)) (m3 N l9 aj ak b6 s4 P R T U V W X Y Z a0 a1 a2 a3 a4 a5 a6 a7 a9 aa ab))∧((N=(2:Int))→(Sm (some ([[S (bA []),I 0,I 0,I 0,I 0,SV.slice 2 [] 1,I 0,I 0,I 0,I 0,I 0,I 0,I 0,I 0,I 0,I 0,I 0,I 0,I 0,I 0,I 0]])))∧(ad (wadd .i64 N 1) af ag ah b7 s4 P R T U V W X Y Z a0 a1 a2 a3 a4 a5 a6 a7 a9 aa ae)∧Nat.le (Nat.succ (m3 (wadd .i64 N 1) af ag ah b7 s4 P R T U V W X Y Z a0 a1 a2 a3 a4 a5 a6 a7 a9 aa ae)) (m3 N l9 aj ak b6 s4 P R T U V W X Y Z a0 a1 a2 a3 a4 a5 a6 a7 a9 aa ab))∧True)) (Q ([SV.agg [S s4,I P,I R,I T,I U,SL 2 V,I W,I X,I Y,I Z,I a0,I a1,I a2,I a3,I a4,I a5,I a6,I a7,I a9,I aa,I ab],SV.agg [SL 1 l9,I aj,I ak,B b6]]))))))):Ct prog 322 ⟨[.lend [false,false,false,false]],[]⟩ [rd4 bs bf er bad] Q:=
 fO SgT SvT (λk=>bif Nat.beq k 42 then some {slots:=[(41,false,[.int .i64])],boxes:=[(1048576,[.sl 1,.int .i64,.int .i64,.bool]),(384,[.str,.int .i64,.int .i64,.int .i64,.int .i64,.sl 2,.int .i64,.int .i64,.int .i64,.int .i64,.int .i64,.int .i64,.int .i64,.int .i64,.int .i64,.int .i64,.int .i64,.int .i64,.int .i64,.int .i64,.int .i64])],fixed:=[256]}else bif Nat.beq k 72 then some {slots:=[(71,false,[.int .i64])],boxes:=[(1048576,[.sl 1,.int .i64,.int .i64,.bool]),(384,[.str,.int .i64,.int .i64,.int .i64,.int .i64,.sl 2,.int .i64,.int .i64,.int .i64,.int .i64,.int .i64,.int .i64,.int .i64,.int .i64,.int .i64,.int .i64,.int .i64,.int .i64,.int .i64,.int .i64,.int .i64])],fixed:=[256]}else bif Nat.beq k 4000029 then some {boxes:=[(1048576,[.sl 1,.int .i64,.int .i64,.bool]),(384,[.str,.int .i64,.int .i64,.int .i64,.int .i64,.sl 2,.int .i64,.int .i64,.int .i64,.int .i64,.int .i64,.int .i64,.int .i64,.int .i64,.int .i64,.int .i64,.int .i64,.int .i64,.int .i64,.int .i64,.int .i64])],fixed:=[256]}else bif Nat.beq k 4000040 then some {boxes:=[(1048576,[.sl 1,.int .i64,.int .i64,.bool]),(384,[.str,.int .i64,.int .i64,.int .i64,.int .i64,.sl 2,.int .i64,.int .i64,.int .i64,.int .i64,.int .i64,.int .i64,.int .i64,.int .i64,.int .i64,.int .i64,.int .i64,.int .i64,.int .i64,.int .i64,.int .i64])],fixed:=[256]}else bif Nat.beq k 4000062 then some {boxes:=[(1048576,[.sl 1,.int .i64,.int .i64,.bool]),(384,[.str,.int .i64,.int .i64,.int .i64,.int .i64,.sl 2,.int .i64,.int .i64,.int .i64,.int .i64,.int .i64,.int .i64,.int .i64,.int .i64,.int .i64,.int .i64,.int .i64,.int .i64,.int .i64,.int .i64,.int .i64])],fixed:=[256]}else none) func322 h
def rdec_nf{bs:LL}{Q:QQ}(h:Cl prog 320 sP [SL 1 bs] (λrs=>∃l x Z,(rs=[SV.agg [SL 1 l,I x,I Z]])∧Cl prog 321 (Sig.mk ([Md.lend [false,false,false,false]]) []) ([SV.agg [SL 1 l,I x,I Z,B false]]) (λV=>∃U l1,∃x3 x4 b,(V=[I U,SV.agg [SL 1 l1,I x3,I x4,B b]])∧ifB (igt U 12) (Q ([SV.agg ([SL 21 [],I 0,I 0]),I 11])) (∃H:Int→LL→Int→Int→Bool→LL→Int→Int→Prop,∃m:Int→LL→Int→Int→Bool→LL→Int→Int→Nat,(H 0 l1 x3 x4 b [] 0 0)∧∀J M,∀N O,∀P n,∀R T,(H J M N O P n R T)→ifB (ilt J U) (Cl prog 322 (Sig.mk ([Md.lend [false,false,false,false]]) []) ([SV.agg [SL 1 M,I N,I O,B P]]) (λG=>∃s a,∃d e,∃c o,∃g i,∃j p,∃q r,∃t u,∃v w,∃y z,∃A C,∃D E,∃K L F,(G=[SV.agg [S s,I a,I d,I e,I c,SL 2 o,I g,I i,I j,I p,I q,I r,I t,I u,I v,I w,I y,I z,I A,I C,I D],SV.agg [SL 1 E,I K,I L,B F]])∧((lsum (rlen n) (rlen ([[S s,I a,I d,I e,I c,SL 2 o,I g,I i,I j,I p,I q,I r,I t,I u,I v,I w,I y,I z,I A,I C,I D]])))≤2147483648)∧(Sm (some ([[SV.slice 21 [] 1,I 0,I 0]])))∧(H (wadd .i64 J 1) E K L F (rapp n ([[S s,I a,I d,I e,I c,SL 2 o,I g,I i,I j,I p,I q,I r,I t,I u,I v,I w,I y,I z,I A,I C,I D]])) R T)∧Nat.le (Nat.succ (m (wadd .i64 J 1) E K L F (rapp n ([[S s,I a,I d,I e,I c,SL 2 o,I g,I i,I j,I p,I q,I r,I t,I u,I v,I w,I y,I z,I A,I C,I D]])) R T)) (m J M N O P n R T))) (Cl prog 321 (Sig.mk ([Md.lend [false,false,false,false]]) []) ([SV.agg [SL 1 M,I N,I O,B P]]) (λG=>∃a o,∃d e F,(G=[I a,SV.agg [SL 1 o,I d,I e,B F]])∧Cl prog 321 (Sig.mk ([Md.lend [false,false,false,false]]) []) ([SV.agg [SL 1 o,I d,I e,B F]]) (λW=>∃c E,∃g i b3,(W=[I c,SV.agg [SL 1 E,I g,I i,B b3]])∧ifB b3 (Q ([SV.agg ([SL 21 [],I 0,I 0]),I 11])) (Cl prog 323 sP ([SV.agg [SL 1 E,I g,I i]]) (λX=>∃j,(X=[I j])∧ifB (ine j 0) (Q ([SV.agg ([SL 21 [],I 0,I 0]),I 11])) (Cl prog 101 sP ([SV.agg [SL 21 n,I a,I c]]) (λY=>∃b4,(Y=[B b4])∧ifB (bnot b4) (Q ([SV.agg ([SL 21 [],I 0,I 0]),I 11])) (Q ([SV.agg [SL 21 n,I a,I c],I 0]))))))))))))):Ct prog 259 {} [SL 1 bs] Q:=
 fO SgT SvT (λk=>bif Nat.beq k 18 then some {slots:=[(17,false,[.int .i64])],boxes:=[(1280,[.sl 1,.int .i64,.int .i64,.bool]),(640,[.own 21,.int .i64,.int .i64])],fixed:=[256]}else none) func259 h

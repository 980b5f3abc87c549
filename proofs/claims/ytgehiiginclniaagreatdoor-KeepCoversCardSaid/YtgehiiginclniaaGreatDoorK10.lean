import Derived.Test.YtgehiiginclniaaGreatDoorK09
import Derived.Test.YtgehiiginclniaaGreatDoorProg
import Derived.Laws.Externs
import Derived.Shelf.LaysM
import Derived.Shelf.Strconv.Itoa4
import Derived.Shelf.Strings.Repeat
set_option linter.all false
set_option maxRecDepth 100000
variable{b e i j k:Int}{m n:Nat}{l:Go.Px.LL}{Q:Go.Px.QQ}{x:List Int}{C:List Go.Px.SV}
namespace Go.Proofs.YtgehiiginclniaaGreatDoor
namespace Ins
open Go Go.Px Go.Proofs Tryz
abbrev OO:Sig:=⟨[.own],[.own]⟩
def SgT:FuncId->Sig:=(λf=>bif Nat.beq f 248 then⟨[.own],[.own]⟩else bif Nat.beq f 177 then⟨[.own],[.own]⟩else bif Nat.beq f 135 then⟨[.own],[.own]⟩else bif Nat.beq f 311 then⟨[.own],[.own]⟩else{})
def SvT:TypeId->Sig:=λ_=>{}
def Zyi{rows:LL}(h:∀x,((rlen rows)<=x)->(x<=9223372036854775807)->((0<=i)/\(i<=j)/\(j<=(rlen rows))/\(rlen rows)<=(isub x 0))/\ifB (ieq i j) (((rlen rows)<=(rlen rows))/\Q [SL 3 (rsub rows 0 (rlen rows))]) ((((0:Int)<=0)/\(0<=i)/\i<=(isub x 0))/\((0<=j)/\(j<=(isub (rlen rows) 0))/\(isub (rlen rows) 0)<=(isub x 0))/\(0<=(isub (rlen rows) (rlen rows)))/\((lsum 0 i)<=(rlen rows))/\(((lsum (lsum 0 i) (rlen (rsub rows (lsum 0 j) (rlen rows))))<=x)->((0<=(isub (lsum (lsum 0 i) (rlen (rsub rows (lsum 0 j) (rlen rows)))) 0))/\((isub (lsum (lsum 0 i) (rlen (rsub rows (lsum 0 j) (rlen rows)))) 0)<=(isub (rlen rows) 0))/\(isub (rlen rows) 0)<=(isub x 0))/\((lsum 0 (isub (lsum (lsum 0 i) (rlen (rsub rows (lsum 0 j) (rlen rows)))) 0))<=(rlen (rput rows (lsum 0 i) (rsub rows (lsum 0 j) (rlen rows)))))/\((lsum (lsum 0 i) (rlen (rsub rows (lsum 0 j) (rlen rows))))<=(rlen (rput (rput rows (lsum 0 i) (rsub rows (lsum 0 j) (rlen rows))) (lsum 0 (isub (lsum (lsum 0 i) (rlen (rsub rows (lsum 0 j) (rlen rows)))) 0)) (rrep (isub (lsum 0 (isub (rlen rows) 0)) (lsum 0 (isub (lsum (lsum 0 i) (rlen (rsub rows (lsum 0 j) (rlen rows)))) 0))) ([S (bA []),SL 1 [],SL 1 []])))))/\Q ([SV.slice 3 (rsub (rput (rput rows (lsum 0 i) (rsub rows (lsum 0 j) (rlen rows))) (lsum 0 (isub (lsum (lsum 0 i) (rlen (rsub rows (lsum 0 j) (rlen rows)))) 0)) (rrep (isub (lsum 0 (isub (rlen rows) 0)) (lsum 0 (isub (lsum (lsum 0 i) (rlen (rsub rows (lsum 0 j) (rlen rows)))) 0))) ([S (bA []),SL 1 [],SL 1 []]))) 0 (lsum (lsum 0 i) (rlen (rsub rows (lsum 0 j) (rlen rows))))) 0]))/\((x<(lsum (lsum 0 i) (rlen (rsub rows (lsum 0 j) (rlen rows)))))->((lsum (isub (lsum 0 i) 0) (rlen (rsub rows (lsum 0 j) (rlen rows))))<=2147483648)/\∀a,((rlen (rapp (rsub rows 0 (lsum 0 i)) (rsub rows (lsum 0 j) (rlen rows))))<=a)->(a<=9223372036854775807)->((0<=(rlen (rapp (rsub rows 0 (lsum 0 i)) (rsub rows (lsum 0 j) (rlen rows)))))/\((rlen (rapp (rsub rows 0 (lsum 0 i)) (rsub rows (lsum 0 j) (rlen rows))))<=(isub (rlen rows) 0))/\(isub (rlen rows) 0)<=(isub a 0))/\((lsum 0 (rlen (rapp (rsub rows 0 (lsum 0 i)) (rsub rows (lsum 0 j) (rlen rows)))))<=(rlen (rapp (rsub rows 0 (lsum 0 i)) (rsub rows (lsum 0 j) (rlen rows)))))/\((rlen (rapp (rsub rows 0 (lsum 0 i)) (rsub rows (lsum 0 j) (rlen rows))))<=(rlen (rput (rapp (rsub rows 0 (lsum 0 i)) (rsub rows (lsum 0 j) (rlen rows))) (lsum 0 (rlen (rapp (rsub rows 0 (lsum 0 i)) (rsub rows (lsum 0 j) (rlen rows))))) (rrep (isub (lsum 0 (isub (rlen rows) 0)) (lsum 0 (rlen (rapp (rsub rows 0 (lsum 0 i)) (rsub rows (lsum 0 j) (rlen rows)))))) ([S (bA []),SL 1 [],SL 1 []])))))/\Q ([SV.slice 3 (rsub (rput (rapp (rsub rows 0 (lsum 0 i)) (rsub rows (lsum 0 j) (rlen rows))) (lsum 0 (rlen (rapp (rsub rows 0 (lsum 0 i)) (rsub rows (lsum 0 j) (rlen rows))))) (rrep (isub (lsum 0 (isub (rlen rows) 0)) (lsum 0 (rlen (rapp (rsub rows 0 (lsum 0 i)) (rsub rows (lsum 0 j) (rlen rows)))))) ([S (bA []),SL 1 [],SL 1 []]))) 0 (rlen (rapp (rsub rows 0 (lsum 0 i)) (rsub rows (lsum 0 j) (rlen rows))))) 0])))):Ct prog 177 ⟨[.own],[.own]⟩ [SL 3 rows,I i,I j] Q:=
 fO SgT SvT (λk=>bif Nat.beq k 3000000 then some ({}:LoopSpec)else none) func177 h
def fdelf_nf{rows:LL}{f:FuncId}(h:Cl prog 159 sP [SL 3 rows,SV.clo f C] (λo=>∃x,(o=[I x])/\ifB (ieq x ((-1:Int))) (Q [SL 3 rows]) (∃d:Int->Int->LL->Prop,∃m:Int->Int->LL->Nat,(d x (wadd .i64 x 1) rows)/\∀a c l,(d a c l)->ifB (ilt c (rlen l)) (((0<=c)/\c<(rlen l))/\((0<=c)/\c<(rlen l))/\∃s e g,(rget l c=[S s,SL 1 e,SL 1 g])/\Cl prog f sP ((SV.agg [S s,SL 1 e,SL 1 g])::C) (λn=>∃b,(n=[B b])/\ifB (bnot b) (((0<=a)/\a<(rlen l))/\((0<=a)/\a<(rlen l))/\(Sm (some ([[SV.gd 0 true (SL 0 [])]])))/\(d (wadd .i64 a 1) (wadd .i64 c 1) (rset l a [S s,SL 1 e,SL 1 g]))/\Nl (m (wadd .i64 a 1) (wadd .i64 c 1) (rset l a [S s,SL 1 e,SL 1 g])) (m a c l)) ((Sm (some ([[SV.gd 0 true (SL 0 [])]])))/\(d a (wadd .i64 c 1) l)/\Nl (m a (wadd .i64 c 1) l) (m a c l)))) (∀i,((rlen l)<=i)->(i<=9223372036854775807)->((0<=a)/\(a<=(isub (rlen l) 0))/\(isub (rlen l) 0)<=(isub i 0))/\((lsum 0 a)<=(rlen l))/\(((0:Int)<=0)/\(0<=a)/\a<=(isub i 0))/\((lsum 0 a)<=(rlen (rput l (lsum 0 a) (rrep (isub (rlen l) (lsum 0 a)) ([S (bA []),SL 1 [],SL 1 []])))))/\Q ([SV.slice 3 (rsub (rput l (lsum 0 a) (rrep (isub (rlen l) (lsum 0 a)) ([S (bA []),SL 1 [],SL 1 []]))) 0 (lsum 0 a)) 0]))))):Ct prog 248 ⟨[.own],[.own]⟩ [SL 3 rows,.clo f C] Q:=
 fO SgT SvT (λk=>bif Nat.beq k 3000000 then some ({}:LoopSpec)else none) func248 h
abbrev ZyW(T f g:Nat)(zz:List SV)(rows l:LL)(i:Int)(Q:QQ):Prop:=∀x,((rlen rows)<=x)->(x<=9223372036854775807)->((0<=i)/\(i<=(isub (rlen rows) 0))/\(isub (rlen rows) 0)<=(isub x 0))/\ifB (ieq (rlen l) 0) (((rlen rows)<=(rlen rows))/\Q [SL T (rsub rows 0 (rlen rows))]) (ifB (ieq i (isub (rlen rows) 0)) (((rlen rows)<=(rlen rows))/\(((lsum (rlen rows) (rlen l))<=x)->((lsum (rlen rows) (rlen l))<=(rlen (rput rows (rlen rows) l)))/\Q [SL T (rsub (rput rows (rlen rows) l) 0 (lsum (rlen rows) (rlen l)))])/\((x<(lsum (rlen rows) (rlen l)))->((lsum (isub (rlen rows) 0) (rlen l))<=2147483648)/\Q [SL T (rapp (rsub rows 0 (rlen rows)) l)])) (ifB (igt (wadd .i64 (isub (rlen rows) 0) (rlen l)) (isub x 0)) ((((0:Int)<=0)/\(0<=i)/\i<=(isub x 0))/\(((0<=(wsub .i64 (wadd .i64 (isub (rlen rows) 0) (rlen l)) i))/\(wsub .i64 (wadd .i64 (isub (rlen rows) 0) (rlen l)) i)<=2147483648)/\(x<(lsum (lsum 0 i) (wsub .i64 (wadd .i64 (isub (rlen rows) 0) (rlen l)) i)))/\(lsum (isub (lsum 0 i) 0) (wsub .i64 (wadd .i64 (isub (rlen rows) 0) (rlen l)) i))<=2147483648)/\(((lsum 0 i)<=(rlen rows))->∀a,((lsum (isub (lsum 0 i) 0) (wsub .i64 (wadd .i64 (isub (rlen rows) 0) (rlen l)) i))<=a)->(a<=9223372036854775807)->((0<=i)/\(i<=(isub (lsum (isub (lsum 0 i) 0) (wsub .i64 (wadd .i64 (isub (rlen rows) 0) (rlen l)) i)) 0))/\(isub (lsum (isub (lsum 0 i) 0) (wsub .i64 (wadd .i64 (isub (rlen rows) 0) (rlen l)) i)) 0)<=(isub a 0))/\(((lsum 0 i)<=(rlen (rapp (rsub rows 0 (lsum 0 i)) (rrep (wsub .i64 (wadd .i64 (isub (rlen rows) 0) (rlen l)) i) zz))))/\(rlen l)<=(isub (lsum (isub (lsum 0 i) 0) (wsub .i64 (wadd .i64 (isub (rlen rows) 0) (rlen l)) i)) (lsum 0 i)))/\((0<=(wadd .i64 i (rlen l)))/\((wadd .i64 i (rlen l))<=(isub (lsum (isub (lsum 0 i) 0) (wsub .i64 (wadd .i64 (isub (rlen rows) 0) (rlen l)) i)) 0))/\(isub (lsum (isub (lsum 0 i) 0) (wsub .i64 (wadd .i64 (isub (rlen rows) 0) (rlen l)) i)) 0)<=(isub a 0))/\((0<=i)/\(i<=(isub (rlen rows) 0))/\(isub (rlen rows) 0)<=(isub x 0))/\(((lsum 0 (wadd .i64 i (rlen l)))<=(rlen (rput (rapp (rsub rows 0 (lsum 0 i)) (rrep (wsub .i64 (wadd .i64 (isub (rlen rows) 0) (rlen l)) i) zz)) (lsum 0 i) l)))/\(lsum (lsum 0 i) (imin (isub (rlen rows) (lsum 0 i)) (isub (lsum (isub (lsum 0 i) 0) (wsub .i64 (wadd .i64 (isub (rlen rows) 0) (rlen l)) i)) (lsum 0 (wadd .i64 i (rlen l))))))<=(rlen rows))/\((lsum (isub (lsum 0 i) 0) (wsub .i64 (wadd .i64 (isub (rlen rows) 0) (rlen l)) i))<=(rlen (rput (rput (rapp (rsub rows 0 (lsum 0 i)) (rrep (wsub .i64 (wadd .i64 (isub (rlen rows) 0) (rlen l)) i) zz)) (lsum 0 i) l) (lsum 0 (wadd .i64 i (rlen l))) (rsub rows (lsum 0 i) (lsum (lsum 0 i) (imin (isub (rlen rows) (lsum 0 i)) (isub (lsum (isub (lsum 0 i) 0) (wsub .i64 (wadd .i64 (isub (rlen rows) 0) (rlen l)) i)) (lsum 0 (wadd .i64 i (rlen l))))))))))/\Q ([SV.slice T (rsub (rput (rput (rapp (rsub rows 0 (lsum 0 i)) (rrep (wsub .i64 (wadd .i64 (isub (rlen rows) 0) (rlen l)) i) zz)) (lsum 0 i) l) (lsum 0 (wadd .i64 i (rlen l))) (rsub rows (lsum 0 i) (lsum (lsum 0 i) (imin (isub (rlen rows) (lsum 0 i)) (isub (lsum (isub (lsum 0 i) 0) (wsub .i64 (wadd .i64 (isub (rlen rows) 0) (rlen l)) i)) (lsum 0 (wadd .i64 i (rlen l)))))))) 0 (lsum (isub (lsum 0 i) 0) (wsub .i64 (wadd .i64 (isub (rlen rows) 0) (rlen l)) i))) 0]))/\(((rlen rows)<(lsum 0 i))->∀a,((lsum (isub (lsum 0 i) 0) (wsub .i64 (wadd .i64 (isub (rlen rows) 0) (rlen l)) i))<=a)->(a<=9223372036854775807)->((0<=i)/\(i<=(isub (lsum (isub (lsum 0 i) 0) (wsub .i64 (wadd .i64 (isub (rlen rows) 0) (rlen l)) i)) 0))/\(isub (lsum (isub (lsum 0 i) 0) (wsub .i64 (wadd .i64 (isub (rlen rows) 0) (rlen l)) i)) 0)<=(isub a 0))/\(((lsum 0 i)<=(rlen (rsub rows 0 (rlen rows))))/\(rlen l)<=(isub (lsum (isub (lsum 0 i) 0) (wsub .i64 (wadd .i64 (isub (rlen rows) 0) (rlen l)) i)) (lsum 0 i)))/\((0<=(wadd .i64 i (rlen l)))/\((wadd .i64 i (rlen l))<=(isub (lsum (isub (lsum 0 i) 0) (wsub .i64 (wadd .i64 (isub (rlen rows) 0) (rlen l)) i)) 0))/\(isub (lsum (isub (lsum 0 i) 0) (wsub .i64 (wadd .i64 (isub (rlen rows) 0) (rlen l)) i)) 0)<=(isub a 0))/\((0<=i)/\(i<=(isub (rlen rows) 0))/\(isub (rlen rows) 0)<=(isub x 0))/\(((lsum 0 (wadd .i64 i (rlen l)))<=(rlen (rput (rsub rows 0 (rlen rows)) (lsum 0 i) l)))/\(lsum (lsum 0 i) (imin (isub (rlen rows) (lsum 0 i)) (isub (lsum (isub (lsum 0 i) 0) (wsub .i64 (wadd .i64 (isub (rlen rows) 0) (rlen l)) i)) (lsum 0 (wadd .i64 i (rlen l))))))<=(rlen rows))/\((lsum (isub (lsum 0 i) 0) (wsub .i64 (wadd .i64 (isub (rlen rows) 0) (rlen l)) i))<=(rlen (rput (rput (rsub rows 0 (rlen rows)) (lsum 0 i) l) (lsum 0 (wadd .i64 i (rlen l))) (rsub rows (lsum 0 i) (lsum (lsum 0 i) (imin (isub (rlen rows) (lsum 0 i)) (isub (lsum (isub (lsum 0 i) 0) (wsub .i64 (wadd .i64 (isub (rlen rows) 0) (rlen l)) i)) (lsum 0 (wadd .i64 i (rlen l))))))))))/\Q [SV.slice T (rsub (rput (rput (rsub rows 0 (rlen rows)) (lsum 0 i) l) (lsum 0 (wadd .i64 i (rlen l))) (rsub rows (lsum 0 i) (lsum (lsum 0 i) (imin (isub (rlen rows) (lsum 0 i)) (isub (lsum (isub (lsum 0 i) 0) (wsub .i64 (wadd .i64 (isub (rlen rows) 0) (rlen l)) i)) (lsum 0 (wadd .i64 i (rlen l)))))))) 0 (lsum (isub (lsum 0 i) 0) (wsub .i64 (wadd .i64 (isub (rlen rows) 0) (rlen l)) i))) 0])) ((((0:Int)<=0)/\(0<=(wadd .i64 (isub (rlen rows) 0) (rlen l)))/\(wadd .i64 (isub (rlen rows) 0) (rlen l))<=(isub x 0))/\((0<=(wadd .i64 i (rlen l)))/\((wadd .i64 i (rlen l))<=(isub (lsum 0 (wadd .i64 (isub (rlen rows) 0) (rlen l))) 0))/\(isub (lsum 0 (wadd .i64 (isub (rlen rows) 0) (rlen l))) 0)<=(isub x 0))/\(fovl prog f g)/\ifB (bnot false) (((0<=(wadd .i64 i (rlen l)))/\((wadd .i64 i (rlen l))<=(isub (lsum 0 (wadd .i64 (isub (rlen rows) 0) (rlen l))) 0))/\(isub (lsum 0 (wadd .i64 (isub (rlen rows) 0) (rlen l))) 0)<=(isub x 0))/\((0<=i)/\(i<=(isub (lsum 0 (wadd .i64 (isub (rlen rows) 0) (rlen l))) 0))/\(isub (lsum 0 (wadd .i64 (isub (rlen rows) 0) (rlen l))) 0)<=(isub x 0))/\(((lsum 0 (wadd .i64 i (rlen l)))<=(rlen rows))/\(lsum (lsum 0 i) (imin (isub (lsum 0 (wadd .i64 (isub (rlen rows) 0) (rlen l))) (lsum 0 i)) (isub (lsum 0 (wadd .i64 (isub (rlen rows) 0) (rlen l))) (lsum 0 (wadd .i64 i (rlen l))))))<=(rlen rows))/\((0<=i)/\(i<=(isub (lsum 0 (wadd .i64 (isub (rlen rows) 0) (rlen l))) 0))/\(isub (lsum 0 (wadd .i64 (isub (rlen rows) 0) (rlen l))) 0)<=(isub x 0))/\(((lsum 0 i)<=(rlen (rput rows (lsum 0 (wadd .i64 i (rlen l))) (rsub rows (lsum 0 i) (lsum (lsum 0 i) (imin (isub (lsum 0 (wadd .i64 (isub (rlen rows) 0) (rlen l))) (lsum 0 i)) (isub (lsum 0 (wadd .i64 (isub (rlen rows) 0) (rlen l))) (lsum 0 (wadd .i64 i (rlen l))))))))))/\(rlen l)<=(isub (lsum 0 (wadd .i64 (isub (rlen rows) 0) (rlen l))) (lsum 0 i)))/\((lsum 0 (wadd .i64 (isub (rlen rows) 0) (rlen l)))<=(rlen (rput (rput rows (lsum 0 (wadd .i64 i (rlen l))) (rsub rows (lsum 0 i) (lsum (lsum 0 i) (imin (isub (lsum 0 (wadd .i64 (isub (rlen rows) 0) (rlen l))) (lsum 0 i)) (isub (lsum 0 (wadd .i64 (isub (rlen rows) 0) (rlen l))) (lsum 0 (wadd .i64 i (rlen l)))))))) (lsum 0 i) l)))/\Q [SV.slice T (rsub (rput (rput rows (lsum 0 (wadd .i64 i (rlen l))) (rsub rows (lsum 0 i) (lsum (lsum 0 i) (imin (isub (lsum 0 (wadd .i64 (isub (rlen rows) 0) (rlen l))) (lsum 0 i)) (isub (lsum 0 (wadd .i64 (isub (rlen rows) 0) (rlen l))) (lsum 0 (wadd .i64 i (rlen l)))))))) (lsum 0 i) l) 0 (lsum 0 (wadd .i64 (isub (rlen rows) 0) (rlen l)))) 0]) (((0<=(isub (rlen rows) 0))/\((isub (rlen rows) 0)<=(isub (lsum 0 (wadd .i64 (isub (rlen rows) 0) (rlen l))) 0))/\(isub (lsum 0 (wadd .i64 (isub (rlen rows) 0) (rlen l))) 0)<=(isub x 0))/\(((lsum 0 (isub (rlen rows) 0))<=(rlen rows))/\(rlen l)<=(isub (lsum 0 (wadd .i64 (isub (rlen rows) 0) (rlen l))) (lsum 0 (isub (rlen rows) 0))))/\((0<=i)/\(i<=(isub (lsum 0 (wadd .i64 (isub (rlen rows) 0) (rlen l))) 0))/\(isub (lsum 0 (wadd .i64 (isub (rlen rows) 0) (rlen l))) 0)<=(isub x 0))/\False))))
def Zyj{rows:LL}(h:ZyW 3 346 22 [S (bA []),SL 1 [],SL 1 []] rows l i Q):Ct prog 311 ⟨[.own],[.own]⟩ [SL 3 rows,I i,SL 3 l] Q:=
 fO SgT SvT (λk=>bif Nat.beq k 3000000 then some ({}:LoopSpec)else none) func311 h
def Zyk{rows:LL}(h:ZyW 21 191 37 zC rows l i Q):Ct prog 135 ⟨[.own],[.own]⟩ [SL 21 rows,I i,SL 21 l] Q:=
 fO SgT SvT (λk=>bif Nat.beq k 3000000 then some ({}:LoopSpec)else none) func135 h
def findex_nf{rows:LL}{f:FuncId}(h:∃c:Int->Int->Prop,∃m:Int->Int->Nat,(c 0 0)/\∀x a,(c x a)->ifB (ilt a (rlen rows)) (((0<=a)/\a<(rlen rows))/\∃s l e,(rget rows a=[S s,SL 1 l,SL 1 e])/\Cl prog f sP ((SV.agg [S s,SL 1 l,SL 1 e])::C) (λg=>∃b,(g=[B b])/\ifB b (Q [I a]) (((Option.some []:Option LL)=Option.some [])/\(c x (wadd .i64 a 1))/\Nl (m x (wadd .i64 a 1)) (m x a)))) (Q [I (-1)])):Ct prog 159 {} [SL 3 rows,.clo f C] Q:=
 fN SgT SvT func159 h
def Zo9(a b:Int):isub a b=a-b:=rfl
def Zb4(R Z:LL)(k:Nat)(a:k<=R.length):(rput R k Z).length=k+Z.length+(R.length-(k+Z.length)):=by
 simp[rput];omega
def Zq0(R Z:LL)(k:Nat)(a:k<=R.length):(rput R k Z).take k=R.take k:=by
 simp only[rput,Int.toNat_natCast];rw[List.append_assoc,List.take_append_of_le_length Vm,List.take_take];simp
def Zcy(R Z:LL)(k:Nat)(a:k<=R.length):(rput R k Z).take (k+Z.length)=R.take k++Z:=by
 simp only[rput,Int.toNat_natCast];rw[List.take_append_of_le_length Vm];rw[List.take_of_length_le Vm]
def rsub0(R:LL)(k:Nat):rsub R 0 (k:Int)=R.take k:=by simp[rsub]
def rsubE(R:LL)(k:Nat):rsub R (k:Int) (R.length:Int)=R.drop k:=by simp[rsub]
def Zyc(rows:LL)(i j:Nat)(d:i<=j)(f:j<=rows.length):Ct prog 177 OO [SL 3 rows,I i,I j] (λr=>r=[SL 3 (rows.take i++rows.drop j)]):=by
 refine Zyi λx c e=>?_;simp only[rlen_eq,lsum_eq,Zo9,Wc,Wv,Int.sub_self,rsubE]at c|-;refine⟨⟨Vo,Vo,Vo,Vo⟩,Zaa (λh=>⟨Vo,?_⟩) (λh=>⟨⟨Vo,Vo,Vo⟩,⟨Vo,Vo,Vo⟩,Vo,Vo,λb=>?_,λb=>?_⟩)⟩
 .simp at h;have:i=j:=Vo;subst this;rw[rsub0];simp
 .have e1:((i:Int)+((rows.drop j).length:Int))=((i+(rows.drop j).length:Nat):Int):=Vs;rw[e1]at b|-;have a:i+(rows.drop j).length<=(rput rows i (rows.drop j)).length:=(by rw[Zb4 _ _ _ Vo];omega);refine⟨⟨Vo,Vm,Vo⟩,Vo,?_,?_⟩
  .rw[Zb4 _ _ _ a];omega
  .rw[rsub0,Zq0 _ _ _ a,Zcy _ _ _ Vo]
 .exfalso;simp at b;omega
def isFil(r:List SV):Prop:=∃s a b,r=[S s,SL 1 a,SL 1 b]
def Zq1(rows:LL)(f:FuncId)(d:List SV)(p:List SV->Bool)(j:rows.length<=1000000)(k:∀r∈rows,isFil r/\Ct prog f sP (.agg r::d) (λx=>x=[B (p r)])):
  Ct prog 159 sP [SL 3 rows,.clo f d] (λr=>∃x:Int,r=[I x]/\((x= -1/\∀r∈rows,p r=false)\/(0<=x/\x<rows.length/\(∀r∈rows.take x.toNat,p r=false)/\p (rget rows x)=true))):=by
 refine findex_nf ⟨λ_ x=>0<=x/\x<=rows.length/\∀r∈rows.take x.toNat,p r=false,λ_ x=>(rows.length-x).toNat,⟨Vo,Vo,Vs⟩,?_⟩;rintro _ x ⟨h0,h1,hp⟩;refine Zaa (λh=>?_) (λh=>?_)
 .simp at h;have b:x.toNat<rows.length:=Vo;have i:rget rows x=rows[x.toNat]:=(by simp[rget,b]);obtain⟨⟨s,l,m,e⟩,g⟩:=k _ (List.getElem_mem b);rw[e]at g;refine⟨⟨h0,by simpa using h⟩,s,l,m,i.trans e,Cl.of g ⟨_,rfl,Zaa (λc=>?_) (λc=>⟨rfl,?_,?_⟩)⟩⟩
  .exact⟨x,rfl,.inr ⟨h0,h,hp,by rw[i,e];exact c⟩⟩
  .have w:wadd IntKind.i64 x 1=x+1:=Zab;rw[w];refine⟨Vo,Vo,λr a=>?_⟩;rw[show(x+1).toNat=x.toNat+1 by omega,Yw,List.getElem?_eq_getElem b]at a
   rcases List.mem_append.1 a with a|a
   .exact hp r a
   .simp at a;subst a;rw[e];exact c
  .have w:wadd IntKind.i64 x 1=x+1:=Zab;rw[w];show((rows.length:Int)-(x+1)).toNat+1<=((rows.length:Int)-x).toNat;omega
 .simp at h;refine⟨-1,rfl,.inl ⟨rfl,λr a=>hp r ?_⟩⟩;rw[show x.toNat=rows.length by omega,Yg];exact a
def Zs5{rows:LL}{p:List SV->Bool}(n:Nat)(h:∀r∈rows.take n,p r=false):(rows.take n).filter (λr=>!p r)=rows.take n:=by
 rw[List.filter_eq_self];intro r a;simp[h r a]
def fdelf_fn(rows:LL)(f:FuncId)(q:List SV)(p:List SV->Bool)(t:rows.length<=1000000)(v:∀r∈rows,isFil r/\Ct prog f sP (.agg r::q) (λx=>x=[B (p r)])):
  Ct prog 248 OO [SL 3 rows,.clo f q] (λr=>r=[SL 3 (rows.filter λr=>!p r)]):=by
 refine fdelf_nf (Cl.ofQ (Zq1 rows f q p t v) ?_);rintro _ ⟨x,rfl,m⟩;refine⟨x,rfl,Zaa (λh=>?_) (λh=>?_)⟩
 .simp at h
  rcases m with⟨_,m⟩|⟨n,_⟩
  .have:(rows.filter λr=>!p r)=rows:=(by rw[List.filter_eq_self];intro r G;simp[m r G]);rw[this]
  .omega
 .simp at h
  rcases m with⟨n,_⟩|⟨n,h1,h2,h3⟩
  .omega
  have o:x.toNat<rows.length:=Vo;have L:rget rows x=rows[x.toNat]:=(by simp[rget,o]);rw[L]at h3;have i:∀y:Int,0<=y->y<=1000000->wadd IntKind.i64 y 1=y+1:=λy a b=>Zab;refine⟨λd c l=>l.length=rows.length/\0<=d/\d<c/\c<=rows.length/\l.take d.toNat=(rows.take c.toNat).filter (λr=>!p r)/\l.drop c.toNat=rows.drop c.toNat,λ_ c _=>(rows.length-c).toNat,?_,?_⟩
  .rw[i x n Vo];refine⟨rfl,n,Vo,Vo,?_,rfl⟩;rw[show(x+1).toNat=x.toNat+1 by omega,Yw,List.getElem?_eq_getElem o,List.filter_append,Zs5 _ h2];simp[h3]
  .rintro d c l ⟨i1,i2,i3,i4,i5,i6⟩;refine Zaa (λh=>?_) (λh=>?_)
   .simp at h;have j:c.toNat<rows.length:=Vo
    have C:rget l c=rows[c.toNat]:=by
     have:l[c.toNat]?=rows[c.toNat]?:=by
      have e:=congrArg (λz=>z[0]?) i6
      simpa using e
     simp[rget,this,j]
    obtain⟨⟨s,J,K,e⟩,A⟩:=v _ (List.getElem_mem j);rw[e]at A
    have D:(rows.take (c+1).toNat).filter (λr=>!p r)=(rows.take c.toNat).filter (λr=>!p r)++(if p rows[c.toNat]then[]else[rows[c.toNat]]):=by
     rw[show(c+1).toNat=c.toNat+1 by omega,Yw,List.getElem?_eq_getElem j,List.filter_append];congr 1
     cases hp:p rows[c.toNat]<;>simp[hp]
    have E:∀u:LL,u.drop c.toNat=rows.drop c.toNat->u.drop (c+1).toNat=rows.drop (c+1).toNat:=λu e=>by rw[show(c+1).toNat=c.toNat+1 by omega,<-YN,<-YN,e]
    refine⟨⟨Vo,by simpa using h⟩,⟨Vo,by simpa using h⟩,s,J,K,C.trans e,Cl.of A ⟨_,rfl,Zaa (λg=>?_) (λg=>⟨rfl,?_,?_⟩)⟩⟩
    .simp at g;rw[i c Vo Vo,i d Vo Vo];refine⟨⟨i2,Vm⟩,⟨i2,Vm⟩,rfl,⟨by simp[rset,i1],Vo,Vo,Vo,?_,?_⟩,by show((rows.length:Int)-(c+1)).toNat+1<=((rows.length:Int)-c).toNat;omega⟩
     .rw[D,<-i5,e,g,show(d+1).toNat=d.toNat+1 by omega];simp only[rset,Bool.false_eq_true,if_false];rw[Yw,Wj Vo,List.take_set_of_le Vo];rfl
     .apply E;simp only[rset];rw[List.drop_set_of_lt Vo];exact i6
    .simp at g;rw[i c Vo Vo];refine⟨i1,i2,Vo,Vo,?_,E l i6⟩;rw[D,i5,e,g];simp
    .rw[i c Vo Vo];show((rows.length:Int)-(c+1)).toNat+1<=((rows.length:Int)-c).toNat;omega
   .simp at h;intro M w H;simp only[rlen_eq,lsum_eq,Zo9,Wc,Wv]at w|-
    obtain⟨k,rfl⟩:∃k:Nat,d=k:=⟨d.toNat,Vo⟩
    have F:k<=l.length:=Vo;refine⟨⟨i2,Vo,Vo⟩,Vo,⟨Vo,i2,Vo⟩,?_,?_⟩
    .rw[Zb4 _ _ _ F];omega
    .rw[rsub0,Zq0 _ _ _ F];have:c.toNat=rows.length:=Vo;rw[this,Yg]at i5;simp only[Int.toNat_natCast]at i5;rw[i5]
def Zyr(rows:LL)(i:Nat)(r:List SV)(j:i<=rows.length)(k:rows.length<=1000000)(l:fovl prog 346 22):
  Ct prog 311 OO [SL 3 rows,I i,SL 3 [r]] (λx=>x=[SL 3 (rows.take i++r::rows.drop i)]):=by
 refine Zyj λx m v=>?_;have w1:wadd IntKind.i64 (rows.length:Int) 1=rows.length+1:=Zab;have w2:wadd IntKind.i64 (i:Int) 1=i+1:=Zab;have w3:wsub IntKind.i64 ((rows.length:Int)+1) i=rows.length+1-i:=Zar;have e:(([r]:LL).length:Int)=1:=rfl;simp only[rlen_eq,lsum_eq,Zo9,Wc,Wv,e,w1,w2,w3,imin_eq]at m|-;refine⟨⟨Vo,Vo,Vo⟩,Zaa (λh=>?_) (λ_=>Zaa (λh=>⟨Vo,λb=>⟨?_,?_⟩,λb=>⟨Vo,?_⟩⟩) (λh=>Zaa (λb=>?_) (λb=>?_)))⟩
 .simp at h
 .rw[Zb4 _ _ _ (Nat.le_refl _)];simp
 .simp at h;have h:i=rows.length:=Vo;subst h;rw[show((rows.length:Int)+1)=((rows.length+1:Nat):Int) by simp,rsub0,show rows.length+1=rows.length+[r].length from rfl,Zcy _ _ _ (Nat.le_refl _)];simp
 .simp at h;have h:i=rows.length:=Vo;subst h;simp[rapp,rsub]
 .simp at h b;have q:(i:Int)+((rows.length:Int)+1-i)=((rows.length+1:Nat):Int):=Vo;have e1:rrep ((rows.length:Int)+1-i) ([S (bA []),SL 1 [],SL 1 []])=List.replicate (rows.length+1-i) ([S (bA []),SL 1 [],SL 1 []]):=by unfold rrep;congr 1;omega
  have e2:(i:Int)+min ((rows.length:Int)-i) (((rows.length+1:Nat):Int)-((i+1:Nat):Int))=rows.length:=Vo;have c:((i:Int)+1)=((i+1:Nat):Int):=Vs;simp only[q,e1,rsub0,c,e2,rsubE];have f:(rapp (rows.take i) (List.replicate (rows.length+1-i) ([S (bA []),SL 1 [],SL 1 []]))).length=rows.length+1:=(by simp[rapp];omega);have a:(rput (rapp (rows.take i) (List.replicate (rows.length+1-i) ([S (bA []),SL 1 [],SL 1 []]))) i [r]).length=rows.length+1:=(by rw[Zb4 _ _ _ Vo,f];simp;omega);have d:(rput (rput (rapp (rows.take i) (List.replicate (rows.length+1-i) ([S (bA []),SL 1 [],SL 1 []]))) i [r]) ((i+1:Nat):Int) (rows.drop i)).length=rows.length+1:=(by rw[Zb4 _ _ _ Vo,a];simp;omega);refine⟨⟨Vo,Vo,Vo⟩,⟨⟨Vo,Vo⟩,Vo,Vo⟩,λn z w o=>⟨⟨Vo,Vo,Vo⟩,⟨by rw[f];omega,Vo⟩,⟨Vo,Vo,Vo⟩,⟨Vo,Vo,Vo⟩,⟨by rw[a];omega,Vo⟩,by rw[d];omega,?_⟩,λn=>Vo⟩;have g:=Zcy (rput (rapp (rows.take i) (List.replicate (rows.length+1-i) ([S (bA []),SL 1 [],SL 1 []]))) i [r]) (rows.drop i) (i+1) (by rw[a];omega);rw[show(i+1)+(rows.drop i).length=rows.length+1 by simp;omega]at g;have s:=Zcy (rapp (rows.take i) (List.replicate (rows.length+1-i) ([S (bA []),SL 1 [],SL 1 []]))) [r] i (by rw[f];omega);rw[g,show i+1=i+[r].length from rfl,s];simp[rapp,j]
 .simp at h b;have y:i<rows.length:=Vo;have e2:(i:Int)+min ((rows.length:Int)+1-i) ((rows.length:Int)+1-(i+1))=rows.length:=Vo;have c:((i:Int)+1)=((i+1:Nat):Int):=Vs;have t:((rows.length:Int)+1)=((rows.length+1:Nat):Int):=Vs;simp only[e2,rsubE];have a:(rput rows ((i:Int)+1) (rows.drop i)).length=rows.length+1:=by rw[c,Zb4 _ _ _ Vo];simp;omega
  have d:(rput (rput rows ((i:Int)+1) (rows.drop i)) (i:Int) [r]).length=rows.length+1:=(by rw[Zb4 _ _ _ Vo,a];simp;omega);refine⟨⟨Vo,Vo,Vo⟩,⟨Vo,Vo,Vo⟩,l,Zaa (λ_=>⟨⟨Vo,Vo,Vo⟩,⟨Vo,Vo,Vo⟩,⟨Vo,Vo⟩,⟨Vo,Vo,Vo⟩,⟨by rw[a];omega,Vo⟩,by rw[d];omega,?_⟩) (λp=>by simp at p)⟩;rw[t,rsub0,List.take_of_length_le (by rw[d];exact Nat.le_refl _)];have u:rows.drop (i+1+(rows.drop i).length)=[]:=List.drop_eq_nil_of_le Vm;simp only[rput,c,Int.toNat_natCast,u,List.append_nil];rw[List.take_append_of_le_length Vm,List.take_take,Nat.min_eq_left Vo,YC Vm,Yi Vm];simp
def cinsert_fn(rows:LL)(i:Nat)(r:List SV)(j:i<=rows.length)(k:rows.length<=1000000)(l:fovl prog 191 37):
  Ct prog 135 OO [SL 21 rows,I i,SL 21 [r]] (λx=>x=[SL 21 (rows.take i++r::rows.drop i)]):=by
 refine Zyk λx m v=>?_;have w1:wadd IntKind.i64 (rows.length:Int) 1=rows.length+1:=Zab;have w2:wadd IntKind.i64 (i:Int) 1=i+1:=Zab;have w3:wsub IntKind.i64 ((rows.length:Int)+1) i=rows.length+1-i:=Zar;have e:(([r]:LL).length:Int)=1:=rfl;simp only[rlen_eq,lsum_eq,Zo9,Wc,Wv,e,w1,w2,w3,imin_eq]at m|-;refine⟨⟨Vo,Vo,Vo⟩,Zaa (λh=>?_) (λ_=>Zaa (λh=>⟨Vo,λb=>⟨?_,?_⟩,λb=>⟨Vo,?_⟩⟩) (λh=>Zaa (λb=>?_) (λb=>?_)))⟩
 .simp at h
 .rw[Zb4 _ _ _ (Nat.le_refl _)];simp
 .simp at h;have h:i=rows.length:=Vo;subst h;rw[show((rows.length:Int)+1)=((rows.length+1:Nat):Int) by simp,rsub0,show rows.length+1=rows.length+[r].length from rfl,Zcy _ _ _ (Nat.le_refl _)];simp
 .simp at h;have h:i=rows.length:=Vo;subst h;simp[rapp,rsub]
 .simp at h b;have q:(i:Int)+((rows.length:Int)+1-i)=((rows.length+1:Nat):Int):=Vo;have e1:rrep ((rows.length:Int)+1-i) (zC)=List.replicate (rows.length+1-i) (zC):=by unfold rrep;congr 1;omega
  have e2:(i:Int)+min ((rows.length:Int)-i) (((rows.length+1:Nat):Int)-((i+1:Nat):Int))=rows.length:=Vo;have c:((i:Int)+1)=((i+1:Nat):Int):=Vs;simp only[q,e1,rsub0,c,e2,rsubE];have f:(rapp (rows.take i) (List.replicate (rows.length+1-i) (zC))).length=rows.length+1:=(by simp[rapp];omega);have a:(rput (rapp (rows.take i) (List.replicate (rows.length+1-i) (zC))) i [r]).length=rows.length+1:=(by rw[Zb4 _ _ _ Vo,f];simp;omega);have d:(rput (rput (rapp (rows.take i) (List.replicate (rows.length+1-i) (zC))) i [r]) ((i+1:Nat):Int) (rows.drop i)).length=rows.length+1:=(by rw[Zb4 _ _ _ Vo,a];simp;omega);refine⟨⟨Vo,Vo,Vo⟩,⟨⟨Vo,Vo⟩,Vo,Vo⟩,λn z w o=>⟨⟨Vo,Vo,Vo⟩,⟨by rw[f];omega,Vo⟩,⟨Vo,Vo,Vo⟩,⟨Vo,Vo,Vo⟩,⟨by rw[a];omega,Vo⟩,by rw[d];omega,?_⟩,λn=>Vo⟩;have g:=Zcy (rput (rapp (rows.take i) (List.replicate (rows.length+1-i) (zC))) i [r]) (rows.drop i) (i+1) (by rw[a];omega);rw[show(i+1)+(rows.drop i).length=rows.length+1 by simp;omega]at g;have s:=Zcy (rapp (rows.take i) (List.replicate (rows.length+1-i) (zC))) [r] i (by rw[f];omega);rw[g,show i+1=i+[r].length from rfl,s];simp[rapp,j]
 .simp at h b;have y:i<rows.length:=Vo;have e2:(i:Int)+min ((rows.length:Int)+1-i) ((rows.length:Int)+1-(i+1))=rows.length:=Vo;have c:((i:Int)+1)=((i+1:Nat):Int):=Vs;have t:((rows.length:Int)+1)=((rows.length+1:Nat):Int):=Vs;simp only[e2,rsubE];have a:(rput rows ((i:Int)+1) (rows.drop i)).length=rows.length+1:=by rw[c,Zb4 _ _ _ Vo];simp;omega
  have d:(rput (rput rows ((i:Int)+1) (rows.drop i)) (i:Int) [r]).length=rows.length+1:=(by rw[Zb4 _ _ _ Vo,a];simp;omega);refine⟨⟨Vo,Vo,Vo⟩,⟨Vo,Vo,Vo⟩,l,Zaa (λ_=>⟨⟨Vo,Vo,Vo⟩,⟨Vo,Vo,Vo⟩,⟨Vo,Vo⟩,⟨Vo,Vo,Vo⟩,⟨by rw[a];omega,Vo⟩,by rw[d];omega,?_⟩) (λp=>by simp at p)⟩;rw[t,rsub0,List.take_of_length_le (by rw[d];exact Nat.le_refl _)];have u:rows.drop (i+1+(rows.drop i).length)=[]:=List.drop_eq_nil_of_le Vm;simp only[rput,c,Int.toNat_natCast,u,List.append_nil];rw[List.take_append_of_le_length Vm,List.take_take,Nat.min_eq_left Vo,YC Vm,Yi Vm];simp
end Ins
namespace Sx
open Go Go.Px Go.Proofs Cmp Tryz
abbrev _root_.Go.Proofs.YtgehiiginclniaaGreatDoor.Cmp.CoD.row(c:CoD):List SV:=[S c.nm,I c.ro,I c.mo,I c.wd,I c.sl,SL 2 (cR c.cl),I c.h0,I c.h1,I c.h2,I c.h3,I c.h4,I c.h5,I c.h6,I c.h7,I c.h8,I c.hs,I c.rm,I c.ha,I c.c0,I c.c1,I c.c2]
abbrev coR(l:List CoD):LL:=l.map CoD.row
abbrev _root_.Go.Proofs.YtgehiiginclniaaGreatDoor.Cmp.EvD.row(e:EvD):List SV:=[I e.s,I e.a,I e.k,S e.c,I e.x,I e.y,I e.z]
abbrev eR(l:List EvD):LL:=l.map EvD.row
deriving instance DecidableEq for CoD
structure StD where
 cs:List CoD
 q:Int
 t:Int
deriving DecidableEq
abbrev StD.sv(d:StD):SV:=.agg [SL 21 (coR d.cs),I d.q,I d.t]
def Zvi{c d:CoD}:sameP c d↔c=d:=by
 constructor
 .intro h
  cases c;cases d
  grind [sameP]
 grind [Zy2]
def StD.P(d:StD):Prop:=(d.cs.length<=12/\0<=d.q/\d.q<=4294967296/\0<=d.t/\d.t<=1099511627776)/\(∀c∈d.cs,c.P)/\srt CoD.nm d.cs
instance (d:StD):Decidable d.P:=inferInstanceAs (Decidable (_/\_))
def StD.short(d:StD):Prop:=(∀c∈d.cs,c.nm.size<=100/\c.cl.length<=40)/\d.cs.length<=20
instance (d:StD):Decidable d.short:=inferInstanceAs (Decidable (_/\_))
def mayS(d:StD)(e:EvD):Int:=
 if¬d.P then 1 else if chkE e≠0 then chkE e else if e.s≠d.q+1 then 1 else if e.a<d.t then 5
 else if e.k=1 then(if fAt CoD.nm d.cs e.c≠-1 then 7 else if d.cs.length=12 then 9 else 0)
 else if fAt CoD.nm d.cs e.c= -1 then 6 else mayI (d.cs.getD (fAt CoD.nm d.cs e.c).toNat co0) e
def nxtS(d:StD)(e:EvD):CoD:=if e.k=1 then(newC e.c e.x e.a).1 else tellC (d.cs.getD (fAt CoD.nm d.cs e.c).toNat co0) e
def appS(d:StD)(e:EvD):StD×Int:=if mayS d e≠0 then(d,mayS d e)else(⟨withB CoD.nm d.cs (nxtS d e),e.s,e.a⟩,0)
def foldS(d:StD):List EvD->StD×Nat×Int
 | []=>(d,0,0)
 |e::l=>if(appS d e).2≠0 then(d,0,(appS d e).2)else((foldS (appS d e).1 l).1,(foldS (appS d e).1 l).2.1+1,(foldS (appS d e).1 l).2.2)
def adj_srtC{l:List CoD}(h:∀i:Nat,∀a:i<l.length,0<i->nlt (l[i-1]'Vo).nm l[i].nm):srt CoD.nm l:=
 srt_adj λi a=>h (i+1) a Vo
def sshort_fn(d:StD)(k:d.cs.length<=9223372036854775807):Ct prog 59 {} [d.sv] (λr=>r=[B (decide d.short)]):=by
 refine sshort_nf ⟨λ_ x=>∃i:Nat,x=i/\i<=d.cs.length/\∀j:Nat,∀a:j<d.cs.length,j<i->d.cs[j].nm.size<=100/\d.cs[j].cl.length<=40,λ_ x=>d.cs.length-x.toNat,⟨0,rfl,Vo,λj _ a=>Vo⟩,?_⟩;rintro b _ ⟨i,rfl,hi,hall⟩;refine Zaa (λh=>?_) (λh=>?_)
 .have h:i<d.cs.length:=(by simpa using h);rw[waddN _];refine⟨⟨Vo,by simpa using h⟩,_,_,_,_,_,_,_,_,_,_,_,_,_,_,_,_,_,_,_,_,_,Zaj _ _ _ h,Cl.of (qshort_fn d.cs[i]) ⟨_,rfl,Zaa (λz=>?_) (λz=>⟨rfl,⟨i+1,rfl,Vo,λj a g=>?_⟩,stepL Vm⟩)⟩⟩
  .have:¬d.short:=λp=>by have:=p.1 _ (List.getElem_mem h);rw[decide_eq_true this]at z;cases z
   simp[this]
  .by_cases e:j=i
   .subst e;simpa using z
   .exact hall j a Vo
 .have h:¬i<d.cs.length:=by simpa using h
  have:d.short↔d.cs.length<=20:=⟨λp=>p.2,λp=>⟨λc f=>by
   obtain⟨j,a,rfl⟩:=List.mem_iff_getElem.1 f
   exact hall j a Vo,p⟩⟩
  simp[this];omega
def Zib(d:StD):Ct prog 101 {} [d.sv] (λr=>r=[B (decide d.P)]):=by
 have no:¬d.P->[B false]=[B (decide d.P)]:=λh=>by simp[h]
 refine sright_nf (Zaa (λq=>no (λp=>?_)) (λq=>?_))
 .have:=p.1;simp at q;omega
 .simp at q;have u:d.cs.length<=12:=Vo;refine⟨λ_ y=>∃i:Nat,y=i/\i<=d.cs.length/\∀j:Nat,∀g:j<d.cs.length,j<i->d.cs[j].P/\(0<j->nlt (d.cs[j-1]'Vo).nm d.cs[j].nm),λ_ y=>d.cs.length-y.toNat,⟨0,rfl,Vo,λj _ g=>Vo⟩,?_⟩;rintro b _ ⟨i,rfl,hi,hall⟩;refine Zaa (λc=>?_) (λc=>?_)
  .have c:i<d.cs.length:=(by simpa using c);have s:Nl (d.cs.length-((i+1:Nat):Int).toNat) (d.cs.length-((i:Nat):Int).toNat):=stepL Vm
   have o:d.cs[i].P->(0<i->nlt (d.cs[i-1]'Vo).nm d.cs[i].nm)->∃k:Nat,((i+1:Nat):Int)=k/\k<=d.cs.length/\∀j:Nat,∀g:j<d.cs.length,j<k->d.cs[j].P/\(0<j->nlt (d.cs[j-1]'Vo).nm d.cs[j].nm):=λa b=>
    ⟨i+1,rfl,Vo,λj g z=>by
     by_cases e:j=i
     .subst e;exact⟨a,b⟩
     .exact hall j g Vo⟩
   rw[waddN _];refine⟨⟨Vo,by simpa using c⟩,_,_,_,_,_,_,_,_,_,_,_,_,_,_,_,_,_,_,_,_,_,Zaj _ _ _ c,Cl.of (Zrj d.cs[i]) ⟨_,rfl,Zaa (λl=>no (λp=>?_)) (λl=>?_)⟩⟩
   .rw[decide_eq_true (p.2.1 _ (List.getElem_mem c))]at l;cases l
   .have l:d.cs[i].P:=(by simpa using l);refine Zaa (λn=>?_) (λn=>?_)
    .have n:0<i:=(by simpa using n);have w:wsub .i64 (i:Int) 1=((i-1:Nat):Int):=(by rw[Zar];omega);rw[w];have hi1:i-1<d.cs.length:=Vo;refine⟨⟨Vo,Vm⟩,_,_,_,_,_,_,_,_,_,_,_,_,_,_,_,_,_,_,_,_,_,Zaj _ _ _ hi1,?_⟩;rw[sge_d];refine Zaa (λm=>no (λp=>?_)) (λm=>⟨rfl,o l (λ_=>?_),s⟩)
     .simp at m;exact m (Zps p.2.2 Vo c)
     .simp at m;exact m
    .simp at n;exact⟨rfl,o l (λ_=>Vo),s⟩
  .have c:¬i<d.cs.length:=(by simpa using c);have v:srt CoD.nm d.cs:=adj_srtC λj g=>(hall j g Vo).2;have x:∀f∈d.cs,f.P:=λf t=>by obtain⟨j,g,rfl⟩:=List.mem_iff_getElem.1 t;exact(hall j g Vo).1
   rw[decide_eq_true (show d.P from⟨⟨u,Vo,Vo,Vo,Vo⟩,x,v⟩)]
def fnd_of{l:List CoD}{s:BA}{i:Nat}(a:i<l.length)(e:l[i].nm=s)(h:∀j (b:j<i),(l[j]'Vo).nm≠s):fAt CoD.nm l s=i:=by
 unfold fAt;rw[Zpr.2 ⟨a,e,h⟩]
def sfind1_fn(c:CoD)(s:BA):Ct prog 194 {} [c.sv,.ref 0 [S s]] (λr=>r=[B (decide (c.nm=s))]):=by
 grind [seq_d,sfind1_nf]
def Zvj(d:StD)(k:d.cs.length<=9223372036854775807)(s:BA):Ct prog 136 {} [d.sv,S s] (λr=>r=[I (fAt CoD.nm d.cs s)]):=by
 have A:Ct prog 193 {} [SL 21 (coR d.cs),.clo 194 [.ref 0 [S s]]] (λr=>r=[I (fAt CoD.nm d.cs s)]):=by
  refine sindex_nf ⟨λ_ x=>∃i:Nat,x=i/\i<=d.cs.length/\∀j:Nat,∀a:j<d.cs.length,j<i->d.cs[j].nm≠s,λ_ x=>d.cs.length-x.toNat,⟨0,rfl,Vo,λj _ a=>Vo⟩,?_⟩;rintro b _ ⟨i,rfl,hi,hall⟩;refine Zaa (λh=>?_) (λh=>?_)
  .have h:i<d.cs.length:=(by simpa using h);refine⟨⟨Vo,by simpa using h⟩,_,_,_,_,_,_,_,_,_,_,_,_,_,_,_,_,_,_,_,_,_,Zaj _ _ _ h,Cl.of (sfind1_fn d.cs[i] s) ⟨_,rfl,?_⟩⟩;rw[waddN _];refine Zaa (λz=>?_) (λz=>⟨rfl,⟨i+1,rfl,Vo,λj a g=>?_⟩,stepL Vm⟩)
   .rw[fnd_of h (by simpa using z) (λj a=>hall j Vo a)]
   .by_cases e:j=i
    .subst e;simpa using z
    .exact hall j a Vo
  .have h:¬i<d.cs.length:=by simpa using h
   rw[Zgy.2 (λf c=>by
    obtain⟨j,a,rfl⟩:=List.mem_iff_getElem.1 c
    exact hall j a Vo)]
 exact sfind_nf (Cl.of A ⟨_,rfl,rfl⟩)
def sequal_fn(a b:List CoD)(n:a.length<=9223372036854775807)(k:∀c∈a,c.cl.length<=1000000):Ct prog 98 {} [SL 21 (coR a),SL 21 (coR b),.clo 99 []] (λr=>r=[B (decide (a=b))]):=by
 have no:¬a=b->[B false]=[B (decide (a=b))]:=λh=>by simp[h]
 refine sequal_nf (Zaa (λh=>no (λe=>by subst e;simp at h)) (λh=>?_));have f:a.length=b.length:=by simp at h;omega
 refine⟨λ_ x=>∃i:Nat,x=i/\i<=a.length/\∀j:Nat,∀d:j<a.length,j<i->a[j]=b[j]'Vo,λ_ x=>a.length-x.toNat,⟨0,rfl,Vo,λj _ d=>Vo⟩,?_⟩;rintro _ _ ⟨i,rfl,hi,hall⟩;refine Zaa (λh=>?_) (λh=>?_)
 .have h:i<a.length:=(by simpa using h);have g:i<b.length:=Vo;rw[waddN _];refine⟨⟨Vo,by simpa using h⟩,_,_,_,_,_,_,_,_,_,_,_,_,_,_,_,_,_,_,_,_,_,Zaj _ _ _ h,⟨Vo,by simpa using g⟩,_,_,_,_,_,_,_,_,_,_,_,_,_,_,_,_,_,_,_,_,_,Zaj _ _ _ g,Cl.of (psame_fn a[i] b[i] (k _ (List.getElem_mem h))) ⟨_,rfl,Zaa (λz=>no (λe=>?_)) (λz=>⟨rfl,⟨i+1,rfl,Vo,λj d m=>?_⟩,stepL Vm⟩)⟩⟩
  .have:sameP a[i] b[i]:=Zvi.2 (by subst e;rfl);rw[decide_eq_true this]at z;cases z
  .by_cases e:j=i
   .subst e;exact Zvi.1 (by simpa using z)
   .exact hall j d Vo
 .have h:¬i<a.length:=(by simpa using h);rw[decide_eq_true (YO f λj l o=>hall j l Vo)]
def Zo5(a b:StD)(d:a.cs.length<=9223372036854775807)(f:∀c∈a.cs,c.cl.length<=1000000):Ct prog 36 {} [a.sv,b.sv] (λr=>r=[B (decide (a=b))]):=by
 refine ssame_nf (Zaa (λh=>Cl.of (sequal_fn a.cs b.cs d f) ⟨_,rfl,?_⟩) (λh=>?_))
 .have h:a.q=b.q/\a.t=b.t:=(by simpa using h);refine congrArg (λb=>[B b]) ?_;rw[decide_eq_decide]
  cases a;cases b;simp_all
 .have:¬a=b:=λe=>by subst e;simp at h
  simp[this]
def ovl_comp:fovl prog 191 37:=by
 refine⟨#[4],λx y w=>?_⟩;rw[run_callFunc_extern func191 Vk Vk Vk (e:=Extern.SlicesOverlaps.overlaps #[37,37] #[4]) Vk]
def sclone_fn(l:List CoD)(h:l.length<=2147483648):Ct prog 130 ⟨[],[.own]⟩ [SL 21 (coR l)] (λr=>r=[SL 21 (coR l)]):=by
 refine sclone_nf (λb a=>Zaa (λe=>?_) (λe=>⟨Vm,by simp[rapp]⟩))
 simp_all
def snan_fn(s:BA):Ct prog 190 {} [S s] (λr=>r=[B false]):=by
 simp_all[snan_nf]
def Zs3(s t:BA):Ct prog 134 {} [S s,S t] (λr=>r=[I (if nlt s t then-1 else if nlt t s then 1 else 0)]):=by
 refine Zsz (Cl.of (snan_fn s) ⟨_,rfl,Cl.of (snan_fn t) ⟨_,rfl,?_⟩⟩)
 grind [slt_d,sgt_d,ifB,slt,ifB_d]
def Zvk(c:CoD)(s:BA):Ct prog 133 {} [c.sv,S s] (λr=>r=[I (if nlt c.nm s then-1 else if nlt s c.nm then 1 else 0)]):=
 sapp1_nf (Cl.of (Zs3 _ _) ⟨_,rfl,rfl⟩)
def halfS(h:n+m<=9223372036854775807):wcv .i64 (wshr .u64 (wcv .u64 (wadd .i64 (n:Int) (m:Int))) 1)=(((n+m)/2:Nat):Int):=by
 rw[Zlb _ _ h]
 have e1:wcv .u64 ((n+m:Nat):Int)=((n+m:Nat):Int):=by
  grind [wcv,IntKind.wrap,IntKind.signed,IntKind.bits]
 rw[e1]
 have e2:wshr .u64 ((n+m:Nat):Int) 1=(((n+m)/2:Nat):Int):=by
  grind [wshr,IntKind.bits]
 rw[e2]
 grind [wcv,Zbg]
def sbin_fn(l:List CoD)(f:srt CoD.nm l)(g:l.length<=1000000)(s:BA):Ct prog 132 {} [SL 21 (coR l),S s,.clo 133 []] (λr=>∃b:Bool,r=[I ((ahd CoD.nm l s).length:Nat),B b]):=by
 refine sbin_nf ⟨λx y=>∃i j:Nat,x=i/\y=j/\i<=(ahd CoD.nm l s).length/\(ahd CoD.nm l s).length<=j/\j<=l.length,λx y=>y.toNat-x.toNat,⟨0,l.length,rfl,Vs,Vo,Zpw,Vo⟩,?_⟩;rintro _ _ ⟨i,j,rfl,rfl,h1,h2,h3⟩;refine Zaa (λh=>?_) (λh=>?_)
 .simp at h;rw[halfS Vo];have d:(i+j)/2<l.length:=Vo;refine⟨Vo,⟨Vo,Vm⟩,_,_,_,_,_,_,_,_,_,_,_,_,_,_,_,_,_,_,_,_,_,Zaj _ _ _ d,Cl.of (Zvk _ s) ⟨_,rfl,Zaa (λa=>⟨rfl,?_,?_⟩) (λa=>⟨rfl,⟨i,(i+j)/2,rfl,rfl,h1,?_,Vo⟩,stepL Vm⟩)⟩⟩
  .rw[waddN _];refine⟨(i+j)/2+1,j,rfl,rfl,?_,h2,h3⟩
   have:nlt l[(i+j)/2].nm s:=by
    refine W7 λc=>?_;rw[if_neg c]at a
    split at a<;>simp at a
   have:=(Zpv (s:=s) f d).2 this;omega
  .rw[waddN _];exact stepL Vm
  .have c:¬nlt l[(i+j)/2].nm s:=λc=>by rw[if_pos c]at a;simp at a
   have:¬((i+j)/2<(ahd CoD.nm l s).length):=λk=>c ((Zpv (s:=s) f d).1 k);omega
 .simp at h;have e:i=(ahd CoD.nm l s).length:=Vo;refine Zaa (λa=>?_) (λa=>⟨_,by rw[<-e]⟩);have a:i<l.length:=(by simpa using a);exact⟨⟨Vo,by simpa using a⟩,_,_,_,_,_,_,_,_,_,_,_,_,_,_,_,_,_,_,_,_,_,Zaj _ _ _ a,Cl.of (Zvk _ s) ⟨_,rfl,_,by rw[<-e]⟩⟩
theorem Zjh{l:List CoD}(h:n<l.length):l.getD ((n:Nat):Int).toNat co0=l[n]:=by simp[h]
def smay_fn(d:StD)(p:d.cs.length<=1000000)(e:EvD):Ct prog 129 {} [d.sv,e.sv] (λr=>r=[I (mayS d e)]):=by
 refine smay_nf (Cl.of (Zib d) ⟨_,rfl,Zaa (λh=>?_) (λh=>?_)⟩)
 .simp_all[mayS]
 have m:d.P:=(by simpa using h);refine Cl.of (Zom e.s e.a e.k e.c e.x e.y e.z) ⟨_,rfl,Zaa (λh=>?_) (λh=>?_)⟩
 .simp_all[chkE,mayS]
 have n:chkE e=0:=(by simp_all[chkE]);have t:=m.1.2.2.1;have o:=m.1.2.1;have w:wadd .i64 d.q 1=d.q+1:=Zab;unfold mayS;rw[if_neg (by simp[m]),if_neg (by simp[n])];refine Cl.of (Zvj d Vo e.c) ⟨_,rfl,?_⟩;rw[w];refine Zaa (λh=>?_) (λh=>?_)
 .rw[if_pos (by simpa using h)]
 rw[if_neg (by simpa using h)];refine Zaa (λh=>?_) (λh=>?_)
 .rw[if_pos (by simpa using h)]
 rw[if_neg (by simpa using h)];refine Zaa (λh=>?_) (λb=>?_)
 .have h:e.k=1/\¬fAt CoD.nm d.cs e.c= -1:=(by simpa using h);rw[if_pos h.1,if_pos h.2]
 refine Zaa (λh=>?_) (λg=>?_)
 .have h:e.k=1/\d.cs.length=12:=(by simp at h;omega);have b:e.k=1->fAt CoD.nm d.cs e.c= -1:=(by simpa using b);rw[if_pos h.1,if_neg (by simp[b h.1]),if_pos h.2]
 refine Zaa (λh=>?_) (λj=>?_)
 .have h:e.k=1:=(by simpa using h);have b:e.k=1->fAt CoD.nm d.cs e.c= -1:=(by simpa using b);have g:e.k=1->¬d.cs.length=12:=(by simp at g;omega);rw[if_pos h,if_neg (by simp[b h]),if_neg (g h)]
 have j:¬e.k=1:=(by simpa using j);rw[if_neg j];refine Zaa (λh=>?_) (λf=>?_)
 .rw[if_pos (by simpa using h)]
 have f:¬fAt CoD.nm d.cs e.c= -1:=(by simpa using f);rw[if_neg f]
 rcases Zmi (nm:=CoD.nm) (l:=d.cs) (s:=e.c)with h|⟨i,hi,h5,_,_⟩
 .exact absurd h f
 rw[h5,Zjh hi];exact⟨⟨Vo,by simpa using hi⟩,_,_,_,_,_,_,_,_,_,_,_,_,_,_,_,_,_,_,_,_,_,Zaj _ _ _ hi,Cl.of (pmay_fn d.cs[i] e) ⟨_,rfl,rfl⟩⟩
structure MayS(d:StD)(e:EvD):Prop where
 p:d.P
 chk:chkE e=0
 sq:e.s=d.q+1
 tm:d.t<=e.a
 new:e.k=1->fAt CoD.nm d.cs e.c= -1/\d.cs.length<12
 old:e.k≠1->∃i:Nat,∃h:i<d.cs.length,fAt CoD.nm d.cs e.c=i/\d.cs[i].nm=e.c/\mayI d.cs[i] e=0
def Zic{d:StD}{e:EvD}(h:mayS d e=0):MayS d e:=by
 unfold mayS at h;by_cases hp:d.P
 case neg=>rw[if_pos hp]at h;cases h
 rw[if_neg (by simp[hp])]at h;by_cases hc:chkE e=0
 case neg=>rw[if_pos hc]at h;exact absurd h hc
 rw[if_neg (by simp[hc])]at h;by_cases hs:e.s=d.q+1
 case neg=>rw[if_pos hs]at h;cases h
 rw[if_neg (by simp[hs])]at h;by_cases ht:e.a<d.t
 .rw[if_pos ht]at h;cases h
 rw[if_neg ht]at h;refine⟨hp,hc,hs,Vo,λb=>?_,λb=>?_⟩
 .rw[if_pos b]at h;have f:=hp.1.1;by_cases hf:fAt CoD.nm d.cs e.c= -1
  case neg=>rw[if_pos hf]at h;cases h
  rw[if_neg (by simp[hf])]at h;by_cases h12:d.cs.length=12
  .rw[if_pos h12]at h;cases h
  .exact⟨hf,Vo⟩
 .rw[if_neg b]at h
  rcases Zmi (nm:=CoD.nm) (l:=d.cs) (s:=e.c)with h5|⟨i,hi,h5,h6,_⟩
  .rw[if_pos h5]at h;cases h
  .rw[if_neg Vo,h5,Zjh hi]at h;exact⟨i,hi,h5,h6,h⟩
theorem new_ok{d:StD}{e:EvD}(m:MayS d e)(b:e.k=1):(newC e.c e.x e.a).2=0/\(newC e.c e.x e.a).1.nm=e.c:=by
 obtain⟨_,f,g,h,_⟩:=chkE_zero m.chk
 grind [lo1,hi1,namB,newC]
def nxt_nm{d:StD}{e:EvD}(m:MayS d e):(nxtS d e).nm=e.c:=by
 unfold nxtS;by_cases hk:e.k=1
 .grind [new_ok]
 .rw[if_neg hk];obtain⟨i,a,b,f,_⟩:=m.old hk
  grind [Zjh,Zzv]
def Zqy(d:StD)(O:d.cs.length<=1000000)(e:EvD):Ct prog 69 {} [d.sv,e.sv] (λr=>r=[(appS d e).1.sv,I (appS d e).2]):=by
 refine sapply_nf (Cl.of (smay_fn d O e) ⟨_,rfl,Zaa (λh=>?_) (λh=>?_)⟩)
 .have h:mayS d e≠0:=(by simpa using h);unfold appS;rw[if_pos h]
 have h:mayS d e=0:=(by simpa using h);have m:=Zic h;have Y:appS d e=(⟨withB CoD.nm d.cs (nxtS d e),e.s,e.a⟩,0):=(by unfold appS;rw[if_neg (by simp[h])]);rw[Y];refine Cl.of (sclone_fn d.cs Vo) ⟨_,rfl,Zaa (λf=>?_) (λf=>?_)⟩
 .have f:e.k=1:=(by simpa using f);obtain⟨W,R⟩:=new_ok m f;have Z:=(m.new f).1;have hno:∀g∈d.cs,g.nm≠e.c:=Zgy.1 Z;refine Cl.of (pnew_fn e.c e.x e.a) ⟨_,_,_,_,_,_,_,_,_,_,_,_,_,_,_,_,_,_,_,_,_,_,rfl,Zaa (λz=>by simp[W]at z) (λ_=>Cl.ofQ (sbin_fn d.cs m.p.2.2 O e.c) ?_)⟩;rintro _ ⟨b,rfl⟩;refine⟨_,_,rfl,Cl.of (Ins.cinsert_fn (coR d.cs) (ahd CoD.nm d.cs e.c).length (newC e.c e.x e.a).1.row (by simpa using Zpw) (by simpa using O) ovl_comp) ⟨_,rfl,?_⟩⟩;have:withB CoD.nm d.cs (nxtS d e)=d.cs.take (ahd CoD.nm d.cs e.c).length++(newC e.c e.x e.a).1::d.cs.drop (ahd CoD.nm d.cs e.c).length:=(by unfold nxtS;rw[if_pos f,Ze8 (by rw[R];exact hno),insB_at,R]);rw[this];simp[List.map_take,List.map_drop]
 .have f:¬e.k=1:=(by simpa using f);obtain⟨i,l,T,h2,X⟩:=m.old f
  have n:(0:Int)<=(i:Nat)/\((i:Nat):Int)<rlen (coR d.cs):=⟨Vo,by simpa using l⟩
  have et:tellR d.cs[i] e=[(tellC d.cs[i] e).sv,I 0]:=(by unfold tellR;rw[if_pos X]);have U:=ptell_fn d.cs[i] e;rw[et]at U;have es:rset (coR d.cs) (i:Nat) (tellC d.cs[i] e).row=coR (withB CoD.nm d.cs (nxtS d e)):=(by have:nxtS d e=tellC d.cs[i] e:=(by unfold nxtS;rw[if_neg f,T,Zjh l]);rw[Zux,Zis m.p.2.2 l (Zzv _ _).1,this]);refine Cl.of (Zvj d Vo e.c) ⟨_,rfl,?_⟩;rw[T];have k:Cl prog 137 sP [d.cs[i].sv,e.sv] (λV=>∃P o q t u Q v w y A C D E F G H J K L M N j,(V=[.agg [S P,I o,I q,I t,I u,SL 2 Q,I v,I w,I y,I A,I C,I D,I E,I F,I G,I H,I J,I K,I L,I M,I N],I j])/\ifB (ine j 0) ([d.sv,I j]=[StD.sv ⟨withB CoD.nm d.cs (nxtS d e),e.s,e.a⟩,I 0]) (((0:Int)<=(i:Nat)/\((i:Nat):Int)<rlen (coR d.cs))/\((0:Int)<=(i:Nat)/\((i:Nat):Int)<rlen (coR d.cs))/\[.agg [SL 21 (rset (coR d.cs) (i:Nat) [S P,I o,I q,I t,I u,SL 2 Q,I v,I w,I y,I A,I C,I D,I E,I F,I G,I H,I J,I K,I L,I M,I N]),I e.s,I e.a],I 0]=[StD.sv ⟨withB CoD.nm d.cs (nxtS d e),e.s,e.a⟩,I 0])):=(by refine Cl.of U ⟨_,_,_,_,_,_,_,_,_,_,_,_,_,_,_,_,_,_,_,_,_,_,rfl,Zaa (λz=>by simp at z) (λ_=>⟨n,n,?_⟩)⟩;exact congrArg (λz=>[SV.agg [SL 21 z,I e.s,I e.a],I 0]) es);exact⟨n,n,_,_,_,_,_,_,_,_,_,_,_,_,_,_,_,_,_,_,_,_,_,Zaj _ _ _ l,k,k⟩
def lim(d:StD):Prop:=d.cs.length<=20/\∀c∈d.cs,c.cl.length<=40
instance (d:StD):Decidable (lim d):=inferInstanceAs (Decidable (_/\_))
def new_cl(nm:BA)(b a:Int):(newC nm b a).1.cl.length<=40:=by
 unfold newC
 repeat' split
 all_goals simp[co0]
def nxt_cl{d:StD}{e:EvD}(h:lim d)(m:MayS d e):(nxtS d e).cl.length<=40:=by
 unfold nxtS;by_cases hk:e.k=1
 .rw[if_pos hk];exact new_cl _ _ _
 .rw[if_neg hk];obtain⟨i,a,b,f,c⟩:=m.old hk;rw[b,Zjh a];have:=h.2 _ (List.getElem_mem a)
  rcases tell_cl (Zpm.1 c)with h4|h4<;>omega
def nxt_len{d:StD}{e:EvD}(m:MayS d e):(withB CoD.nm d.cs (nxtS d e)).length=d.cs.length+(if e.k=1 then 1 else 0):=by
 have a:=nxt_nm m;by_cases hk:e.k=1
 .rw[if_pos hk,Ze8 (by rw[a];exact Zgy.1 (m.new hk).1),Zpt]
 .rw[if_neg hk];obtain⟨i,b,f,c,g⟩:=m.old hk;rw[Zdi m.p.2.2 b (by rw[a,c])];rfl
def Zu7{d:StD}{e:EvD}(h:(appS d e).2=0):mayS d e=0/\appS d e=(⟨withB CoD.nm d.cs (nxtS d e),e.s,e.a⟩,0):=by
 unfold appS at h|-;by_cases hm:mayS d e=0
 .exact⟨hm,by rw[if_neg (by simp[hm])]⟩
 .rw[if_pos hm]at h;exact absurd h hm
def app_err{d:StD}{e:EvD}(h:(appS d e).2≠0):appS d e=(d,mayS d e):=by
 unfold appS at h|-;by_cases hm:mayS d e=0
 .rw[if_neg (by simp[hm])]at h;exact absurd rfl h
 .rw[if_pos hm]
def lim_app{d:StD}(h:lim d)(e:EvD):lim (appS d e).1:=by
 by_cases h0:(appS d e).2=0
 .obtain⟨b,f⟩:=Zu7 h0;have m:=Zic b;rw[f];refine⟨?_,λc a=>?_⟩
  .show(withB CoD.nm d.cs (nxtS d e)).length<=20;rw[nxt_len m];have:=m.p.1.1
   split<;>omega
  .rcases Zcb.1 a with rfl|⟨a,_⟩
   .exact nxt_cl h m
   .exact h.2 c a
 .rw[app_err h0];exact h
def fold_cons(d:StD)(e:EvD)(l:List EvD):foldS d (e::l)=if(appS d e).2≠0 then(d,0,(appS d e).2)else((foldS (appS d e).1 l).1,(foldS (appS d e).1 l).2.1+1,(foldS (appS d e).1 l).2.2):=rfl
def goes(d:StD)(l:List EvD)(i:Nat)(a:StD):Prop:=foldS d l=((foldS a (l.drop i)).1,i+(foldS a (l.drop i)).2.1,(foldS a (l.drop i)).2.2)
end Sx
namespace Sgr
open Go Go.Px Go.Proofs Cod Seg Tryz
abbrev ev7(s a k:Int)(c:BA)(x y z:Int):SV:=.agg [I s,I a,I k,S c,I x,I y,I z]
abbrev cx3(s a:Int)(b:LL):SV:=.agg [I s,I a,SL 1 b]
abbrev sc10(num bs b:Int)(c ev:LL)(a d:Int)(e:LL)(f g:Int):SV:=.agg [I num,I bs,I b,SL 1 c,SL 7 ev,I a,I d,SL 1 e,I f,I g]
abbrev U32(n:Int):SV:=SV.int .u32 n
def SgT:FuncId->Sig:=(λf=>bif Nat.beq f 141 then⟨[],[.own,.pure]⟩else bif Nat.beq f 83 then⟨[],[.own]⟩else bif Nat.beq f 81 then⟨[],[.own]⟩else bif Nat.beq f 202 then⟨[],[.own,.pure]⟩else bif Nat.beq f 204 then⟨[],[.own]⟩else bif Nat.beq f 149 then⟨[],[.own]⟩else bif Nat.beq f 148 then⟨[],[.own]⟩else bif Nat.beq f 255 then⟨[.lend [false,false,false,false,true,false,false,false,false,false,false]],[]⟩else bif Nat.beq f 256 then⟨[.lend [false,false,false,false,true,false,false,false,false,false,false]],[]⟩else bif Nat.beq f 242 then⟨[],[.own]⟩else bif Nat.beq f 220 then⟨[],[.own]⟩else bif Nat.beq f 271 then⟨[],[.own]⟩else bif Nat.beq f 272 then⟨[],[.own]⟩else bif Nat.beq f 218 then⟨[],[.own]⟩else bif Nat.beq f 316 then⟨[.lend [false,false,false,false,true,false,false,false,false,false,false]],[]⟩else bif Nat.beq f 317 then⟨[.lend [false,false,false,false,true,false,false,false,false,false,false]],[]⟩else bif Nat.beq f 307 then⟨[],[.own]⟩else bif Nat.beq f 287 then⟨[],[.own]⟩else bif Nat.beq f 326 then⟨[],[.own]⟩else bif Nat.beq f 327 then⟨[],[.own]⟩else{})
def SvT:TypeId->Sig:=(λf=>{})
def rstep_nf(h:(((2:Int)=0)->False)/\ifB (ieq (wrem i 2) 1) ((((2:Int)=0)->False)/\Q [SV.int .u32 (wxor .u32 (wquo .u32 i 2) 3988292384)]) ((((2:Int)=0)->False)/\Q [SV.int .u32 (wquo .u32 i 2)])):Ct prog 334 {} [U32 i] Q:=
 fN SgT SvT func334 h
def rplain_nf{rows:LL}(h:∃c:Int->Int->Prop,∃m:Int->Int->Nat,(c 4294967295 0)/\∀x a,(c x a)->ifB (ilt a (rlen rows)) (((0<=a)/\a<(rlen rows))/\∃i,(rget rows a=[U8 i])/\∃b:Int->Int->Prop,∃j:Int->Int->Nat,(b (wxor .u32 x (wcv .u32 i)) 0)/\∀d e,(b d e)->ifB (ilt e 8) (Cl prog 334 sP [SV.int .u32 d] (λk=>∃g,(k=[SV.int .u32 g])/\((Option.some []:Option LL)=Option.some [])/\(b g (wadd .i64 e 1))/\Nl (j g (wadd .i64 e 1)) (j d e))) (((Option.some []:Option LL)=Option.some [])/\(c d (wadd .i64 a 1))/\Nl (m d (wadd .i64 a 1)) (m x a))) (Q [SV.int .u32 (wxor .u32 x 4294967295)])):Ct prog 288 {} [SL 1 rows] Q:=
 fN SgT SvT func288 h
def rtail_nf{rows:LL}(h:((lsum (rlen []) (rlen rows))<=2147483648)/\∃a:LL->Int->Int->Prop,∃m:LL->Int->Int->Nat,(a (rapp [] rows) i 0)/\∀l x b,(a l x b)->ifB (ilt b 4) ((((256:Int)=0)->False)/\((lsum (rlen l) (rlen ([[U8 (wcv .u8 (wrem x 256))]])))<=2147483648)/\(((256:Int)=0)->False)/\((Option.some []:Option LL)=Option.some [])/\(a (rapp l ([[U8 (wcv .u8 (wrem x 256))]])) (wquo .u32 x 256) (wadd .i64 b 1))/\Nl (m (rapp l ([[U8 (wcv .u8 (wrem x 256))]])) (wquo .u32 x 256) (wadd .i64 b 1)) (m l x b)) (Q [SL 1 l])):Ct prog 287 ⟨[],[.own]⟩ [SL 1 rows,U32 i] Q:=
 fN SgT SvT func287 h
def rseal_nf{rows:LL}(h:Cl prog 288 sP [SL 1 rows] (λb=>∃x,(b=[SV.int .u32 x])/\Cl prog 287 sO [SL 1 rows,SV.int .u32 x] (λa=>∃l,(a=[SL 1 l])/\Q [SL 1 l]))):Ct prog 220 ⟨[],[.own]⟩ [SL 1 rows] Q:=
 fN SgT SvT func220 h
def rput_nf{rows:LL}(h:(((256:Int)=0)->False)/\(((256:Int)=0)->False)/\((lsum (rlen ([[U8 (wcv .u8 (wquo .i64 (rlen rows) 256))],[U8 (wcv .u8 (wrem (rlen rows) 256))],[U8 (wcv .u8 k)]])) (rlen rows))<=2147483648)/\Cl prog 220 sO ([SV.slice 1 (rapp ([[U8 (wcv .u8 (wquo .i64 (rlen rows) 256))],[U8 (wcv .u8 (wrem (rlen rows) 256))],[U8 (wcv .u8 k)]]) rows) 0]) (λa=>∃l,(a=[SL 1 l])/\Q [SL 1 l])):Ct prog 148 ⟨[],[.own]⟩ [I k,SL 1 rows] Q:=
 fN SgT SvT func148 h
def sname_nf(h:Cl prog 152 sP [I i] (λe=>∃b,(e=[B b])/\ifB (bnot b) (Q ([S (bA [])])) (Cl prog 153 sP [I i,I 10] (λc=>∃s,(c=[S s])/\Cl prog 154 sP ([S (bA [48]),I (wsub .i64 8 (slen s))]) (λd=>∃a,(d=[S a])/\((lsum (slen (bA [115,101,103,46])) (slen a))<=9223372036854775807)/\((lsum (slen (scat (bA [115,101,103,46]) a)) (slen s))<=9223372036854775807)/\Q ([S (scat (scat (bA [115,101,103,46]) a) s)])))))):Ct prog 88 {} [I i] Q:=
 fN SgT SvT func88 h
def Zus(a k:Nat)(h:a<4294967296)(c:0<k):wquo .u32 (a:Int) (k:Int)=((a/k:Nat):Int):=by
 unfold wquo;have b:a/k<=a:=Nat.div_le_self _ _;rw[Int.tdiv_eq_ediv_of_nonneg Vo];have e:(a:Int)/(k:Int)=((a/k:Nat):Int):=by push_cast;rfl
 rw[e];exact Zsh _ Vo
def rstep_fn(n:Nat)(h:n<4294967296):Ct prog 334 {} [U32 (n:Int)] (λr=>r=[U32 ((stN n:Nat):Int)]):=by
 have e2:wrem (n:Int) 2=((n%2:Nat):Int):=(by unfold wrem;rw[Int.tmod_eq_emod_of_nonneg Vo];omega);have e1:wquo .u32 (n:Int) 2=((n/2:Nat):Int):=Zus n 2 h Vo;refine rstep_nf ⟨Vo,?_⟩;rw[e1,e2];refine Zaa (λa=>⟨Vo,?_⟩) (λa=>⟨Vo,?_⟩)
 .simp at a;have:n%2=1:=Vo;have c:=Zgm (n/2) 3988292384 Vo Vd;have b:wxor .u32 ((n/2:Nat):Int) 3988292384=(((n/2)^^^3988292384:Nat):Int):=c;rw[b];simp[stN,this]
 .simp at a;have:¬n%2=1:=Vo;simp[stN,this]
def Zz7(l:List Int)(f:Byts l)(A:l.length<=1000000):Ct prog 288 {} [SL 1 (bR l)] (λr=>r=[U32 (sumL l 0)]):=by
 have i:rlen (bR l)=l.length:=(by simp[rlen]);refine rplain_nf ⟨λx a=>0<=a/\a<=l.length/\x=((rgN (nL (l.take a.toNat)) M32:Nat):Int),λ_ a=>(l.length-a).toNat,⟨Vo,Vo,by simp[rgN]⟩,?_⟩;rintro _ a ⟨i0,i1,rfl⟩;have j:Byts (l.take a.toNat):=f.sub λx g=>List.mem_of_mem_take g;have e:=rgN_lt (r:=M32) (nL_lt j) Vd;rw[i];refine Zaa (λh=>?_) (λh=>?_)
 .simp at h;have d:a.toNat<l.length:=Vo;have w:wadd IntKind.i64 a 1=a+1:=Zab;have y:=f l[a.toNat] (List.getElem_mem d);have s:l[a.toNat]=((l[a.toNat].toNat:Nat):Int):=Vo;have t:rget (bR l) a=[U8 ((l[a.toNat].toNat:Nat):Int)]:=by rw[<-s];simp[rget,d]
  generalize hbv:l[a.toNat].toNat=b at*;have z:b<256:=Vo;refine⟨⟨i0,h⟩,(b:Int),t,?_⟩;rw[Zsh b Vo,Zgm _ b e Vo,w];have k:=Zdf e (show b<4294967296 by omega);refine⟨λq c=>0<=c/\c<=8/\q=((itN c.toNat (rgN (nL (l.take a.toNat)) M32^^^b):Nat):Int),λ_ c=>(8-c).toNat,⟨Vo,Vo,rfl⟩,?_⟩;rintro _ c ⟨j0,j1,rfl⟩;refine Zaa (λh=>?_) (λh=>?_)
  .simp at h;have w4:wadd IntKind.i64 c 1=c+1:=Zab;refine Cl.of (rstep_fn _ (Zla k _)) ⟨_,rfl,?_⟩;rw[w4];refine⟨rfl,⟨Vo,Vo,?_⟩,mlt (by dsimp only;omega)⟩;rw[show(c+1).toNat=c.toNat+1 by omega];rfl
  .simp at h;refine⟨rfl,⟨Vo,Vo,?_⟩,mlt (by dsimp only;omega)⟩;have u:c.toNat=8:=Vo;rw[u,show(a+1).toNat=a.toNat+1 by omega,List.take_succ_eq_append_getElem d];have m:nL (l.take a.toNat++[l[a.toNat]])=nL (l.take a.toNat)++[b]:=(by rw[nL,List.map_append];simp only[List.map_cons,List.map_nil,hbv]);rw[m,rgN_app];rfl
 .simp at h;have v:l.take a.toNat=l:=List.take_of_length_le Vo;rw[v]at e|-;have g:=Zgm (rgN (nL l) M32) 4294967295 e Vd;have n:wxor .u32 ((rgN (nL l) M32:Nat):Int) 4294967295=((rgN (nL l) M32^^^4294967295:Nat):Int):=g;have o:=sum_N l 0 f Vd;rw[Y06]at o;have p:sumL l 0=((rgN (nL l) M32^^^M32:Nat):Int):=o;rw[n,p]
def sum_nat(a:Byts x):∃n:Nat,sumL x 0=(n:Int)/\n<4294967296:=by
 have b:=sum_N x 0 a Vd;rw[Y06]at b;exact⟨_,b,Zdf (rgN_lt (nL_lt a) Vd) Vd⟩
def s4_nat(v:Nat):s4 (v:Int)=[((v%256:Nat):Int),((v/256%256:Nat):Int),((v/65536%256:Nat):Int),((v/16777216%256:Nat):Int)]:=by
 have a:=Zgn v 0;have b:=Zgn v 8;have c:=Zgn v 16;have d:=Zgn v 24;simp at a b c d;have e:wshr .u32 (v:Int) 0=((v:Nat):Int):=a;have f:wshr .u32 (v:Int) 8=((v/256:Nat):Int):=(by rw[b];rfl);have g:wshr .u32 (v:Int) 16=((v/65536:Nat):Int):=(by rw[c];rfl);have b3:wshr .u32 (v:Int) 24=((v/16777216:Nat):Int):=(by rw[d];rfl);simp only[s4];rw[e,f,g,b3,Znb,Znb,Znb,Znb]
def rtail_fn(l:List Int)(n:Nat)(f:n<4294967296)(g:l.length<=1000000):Ct prog 287 ⟨[],[.own]⟩ [SL 1 (bR l),U32 (n:Int)] (λr=>r=[SL 1 (bR (l++s4 n))]):=by
 have d:rlen (bR l)=l.length:=(by simp[rlen]);refine rtail_nf ⟨by simp[lsum,rlen];omega,λq x a=>0<=a/\a<=4/\x=((n/256^a.toNat:Nat):Int)/\q=bR (l++(s4 n).take a.toNat),λ_ _ a=>(4-a).toNat,⟨Vo,Vo,Vs,by simp[rapp]⟩,?_⟩;rintro _ _ a ⟨i0,i1,rfl,rfl⟩;refine Zaa (λh=>?_) (λh=>?_)
 .simp at h;have e:n/256^a.toNat<=n:=Nat.div_le_self _ _;have w:wadd IntKind.i64 a 1=a+1:=Zab;have e2:wrem ((n/256^a.toNat:Nat):Int) 256=((n/256^a.toNat%256:Nat):Int):=(by generalize n/256^a.toNat=z;unfold wrem;rw[Int.tmod_eq_emod_of_nonneg Vo];omega);have e1:wquo .u32 ((n/256^a.toNat:Nat):Int) 256=((n/256^a.toNat/256:Nat):Int):=Zus _ 256 Vo Vo;have b:wcv IntKind.u8 ((n/256^a.toNat%256:Nat):Int)=((n/256^a.toNat%256:Nat):Int):=(by rw[Znb];simp);rw[e2,b,e1,w];refine⟨Vo,?_,Vo,rfl,⟨Vo,Vo,?_,?_⟩,mlt (by dsimp only;omega)⟩
  .simp[lsum,rlen];omega
  .rw[show(a+1).toNat=a.toNat+1 by omega,Nat.pow_succ,Nat.div_div_eq_div_mul]
  .have c:a=0\/a=1\/a=2\/a=3:=Vo;rw[s4_nat]
   rcases c with rfl|rfl|rfl|rfl<;>simp[rapp]
 .simp at h;rw[List.take_of_length_le (by rw[s4_len];omega)]
def rseal_fn(l:List Int)(a:Byts l)(b:l.length<=1000000):Ct prog 220 ⟨[],[.own]⟩ [SL 1 (bR l)] (λr=>r=[SL 1 (bR (sealB l))]):=by
 obtain⟨n,c,d⟩:=sum_nat a;refine rseal_nf (Cl.of (Zz7 l a b) ⟨_,rfl,?_⟩);rw[c];refine Cl.of (rtail_fn l n d b) ⟨_,rfl,?_⟩;rw[sealB,c]
def rput_fn(k:Int)(l:List Int)(h:0<=k/\k<=255)(c:Byts l)(i:l.length<=255):Ct prog 148 ⟨[],[.own]⟩ [I k,SL 1 (bR l)] (λr=>r=[SL 1 (bR (fr k l))]):=by
 have b:rlen (bR l)=l.length:=(by simp[rlen]);have e1:wquo IntKind.i64 (l.length:Int) 256=0:=(by unfold wquo;rw[Int.tdiv_eq_ediv_of_nonneg Vo,show(l.length:Int)/256=0 by omega];rfl);have e2:wrem (l.length:Int) 256=l.length:=(by unfold wrem;rw[Int.tmod_eq_emod_of_nonneg Vo];omega);have d:wcv IntKind.u8 (l.length:Int)=l.length:=wcv8;have e:wcv IntKind.u8 k=k:=wcv8;have f:wcv IntKind.u8 0=0:=rfl;refine rput_nf ?_;rw[b,e1,e2,d,e,f];have g:rapp [[U8 0],[U8 (l.length:Int)],[U8 k]] (bR l)=bR (0::(l.length:Int)::k::l):=rfl;rw[g];refine⟨Vo,Vo,by simp[lsum,rlen];omega,Cl.of (rseal_fn _ ?_ Vm) ⟨_,rfl,rfl⟩⟩;intro x a;simp at a
 rcases a with rfl|rfl|rfl|a
 .omega
 .omega
 .omega
 .exact c x a
end Sgr
end Go.Proofs.YtgehiiginclniaaGreatDoor
namespace Go.Proofs
open Go.Shelf
def Tryz.laysM173_ren:Go.Shelf.Ren:=⟨λ|173=>153|246=>222|283=>289|284=>290|285=>291|286=>292|129=>336|317=>335|318=>337|319=>338|320=>339|337=>358|338=>359|n=>n,λ|2=>2|3=>3|9=>9|4=>4|171=>341|0=>0|53=>219|37=>72|5=>5|173=>344|212=>387|51=>310|20=>20|213=>388|46=>250|232=>422|233=>423|n=>n,λ|17=>0|18=>4|19=>5|n=>n⟩
def Tryz.laysM173:Go.Proofs.LaysM.n173 prog Tryz.laysM173_ren:={
 mixed:=Vk
 f129:=func336.trans (congrArg some Vk)
 f173:=func153.trans (congrArg some Vk)
 f246:=func222.trans (congrArg some Vk)
 f283:=func289.trans (congrArg some Vk)
 f284:=func290.trans (congrArg some Vk)
 f285:=func291.trans (congrArg some Vk)
 f286:=func292.trans (congrArg some Vk)
 f317:=func335.trans (congrArg some Vk)
 f318:=func337.trans (congrArg some Vk)
 f319:=func338.trans (congrArg some Vk)
 f320:=func339.trans (congrArg some Vk)
 f337:=func358.trans (congrArg some Vk)
 f338:=func359.trans (congrArg some Vk)
 t0:=Tryz.underlying0
 a0:=Tryz.isAgg0
 z0:=Tryz.sizeOf0
 v0:=Tryz.zeroValue0
 t2:=Tryz.underlying2
 a2:=Tryz.isAgg2
 z2:=Tryz.sizeOf2
 v2:=Tryz.zeroValue2
 t3:=Tryz.underlying3
 a3:=Tryz.isAgg3
 z3:=Tryz.sizeOf3
 v3:=Tryz.zeroValue3
 t4:=Tryz.underlying4
 a4:=Tryz.isAgg4
 z4:=Tryz.sizeOf4
 v4:=Tryz.zeroValue4
 t5:=Tryz.underlying5
 a5:=Tryz.isAgg5
 z5:=Tryz.sizeOf5
 v5:=Tryz.zeroValue5
 t9:=Tryz.underlying9
 a9:=Tryz.isAgg9
 z9:=Tryz.sizeOf9
 v9:=Tryz.zeroValue9
 t20:=Tryz.underlying20
 a20:=Tryz.isAgg20
 z20:=Tryz.sizeOf20
 v20:=Tryz.zeroValue20
 t37:=Tryz.underlying72
 a37:=Tryz.isAgg72
 z37:=Tryz.sizeOf72
 v37:=Tryz.zeroValue72
 t46:=Tryz.underlying250
 a46:=Tryz.isAgg250
 z46:=Tryz.sizeOf250
 v46:=Tryz.zeroValue250
 t51:=Tryz.underlying310
 a51:=Tryz.isAgg310
 z51:=Tryz.sizeOf310
 v51:=Tryz.zeroValue310
 t53:=Tryz.underlying219
 a53:=Tryz.isAgg219
 z53:=Tryz.sizeOf219
 v53:=Tryz.zeroValue219
 t171:=Tryz.underlying341
 a171:=Tryz.isAgg341
 z171:=Tryz.sizeOf341
 v171:=Tryz.zeroValue341
 t173:=Tryz.underlying344
 a173:=Tryz.isAgg344
 z173:=Tryz.sizeOf344
 v173:=Tryz.zeroValue344
 t212:=Tryz.underlying387
 a212:=Tryz.isAgg387
 z212:=Tryz.sizeOf387
 v212:=Tryz.zeroValue387
 t213:=Tryz.underlying388
 a213:=Tryz.isAgg388
 z213:=Tryz.sizeOf388
 t232:=Tryz.underlying422
 a232:=Tryz.isAgg422
 z232:=Tryz.sizeOf422
 v232:=Tryz.zeroValue422
 t233:=Tryz.underlying423
 a233:=Tryz.isAgg423
 z233:=Tryz.sizeOf423
 v233:=Tryz.zeroValue423
 g17:=Vk
 g18:=Vk
 g19:=Vk
 i0:=Vk
 i2:=Vk
 i3:=Vk
 i4:=Vk
 i5:=Vk
 i9:=Vk
 i20:=Vk
 i37:=Vk
 i46:=Vk
 i51:=Vk
 i53:=Vk
 i171:=Vk
 i173:=Vk
 i212:=Vk
 i232:=Vk
 i233:=Vk
 m17:=Vk
 m18:=Vk
 m19:=by kernel_rfl}
def Tryz.lays105_ren:Go.Shelf.Ren:=⟨λ|105=>154|212=>223|99=>224|165=>225|166=>226|170=>227|169=>228|263=>293|264=>294|206=>295|240=>296|241=>297|276=>340|277=>341|n=>n,λ|9=>9|3=>3|4=>4|20=>20|0=>0|46=>250|109=>278|5=>5|72=>283|76=>287|51=>310|146=>346|53=>219|148=>348|70=>281|37=>72|75=>286|127=>350|164=>390|80=>290|n=>n,λ|n=>n⟩
def Tryz.lays105:Go.Proofs.Lays.n105 prog Tryz.lays105_ren:={
 mixed:=Vk
 f99:=func224.trans (congrArg some Vk)
 f105:=func154.trans (congrArg some Vk)
 f165:=func225.trans (congrArg some Vk)
 f166:=func226.trans (congrArg some Vk)
 f169:=func228.trans (congrArg some Vk)
 f170:=func227.trans (congrArg some Vk)
 f206:=func295.trans (congrArg some Vk)
 f212:=func223.trans (congrArg some Vk)
 f240:=func296.trans (congrArg some Vk)
 f241:=func297.trans (congrArg some Vk)
 f263:=func293.trans (congrArg some Vk)
 f264:=func294.trans (congrArg some Vk)
 f276:=func340.trans (congrArg some Vk)
 f277:=func341.trans (congrArg some Vk)
 t0:=Tryz.underlying0
 a0:=Tryz.isAgg0
 z0:=Tryz.sizeOf0
 v0:=Tryz.zeroValue0
 t3:=Tryz.underlying3
 a3:=Tryz.isAgg3
 z3:=Tryz.sizeOf3
 v3:=Tryz.zeroValue3
 t4:=Tryz.underlying4
 a4:=Tryz.isAgg4
 z4:=Tryz.sizeOf4
 v4:=Tryz.zeroValue4
 t5:=Tryz.underlying5
 a5:=Tryz.isAgg5
 z5:=Tryz.sizeOf5
 v5:=Tryz.zeroValue5
 t9:=Tryz.underlying9
 a9:=Tryz.isAgg9
 z9:=Tryz.sizeOf9
 v9:=Tryz.zeroValue9
 t20:=Tryz.underlying20
 a20:=Tryz.isAgg20
 z20:=Tryz.sizeOf20
 v20:=Tryz.zeroValue20
 t37:=Tryz.underlying72
 a37:=Tryz.isAgg72
 z37:=Tryz.sizeOf72
 v37:=Tryz.zeroValue72
 t46:=Tryz.underlying250
 a46:=Tryz.isAgg250
 z46:=Tryz.sizeOf250
 v46:=Tryz.zeroValue250
 t51:=Tryz.underlying310
 a51:=Tryz.isAgg310
 z51:=Tryz.sizeOf310
 v51:=Tryz.zeroValue310
 t53:=Tryz.underlying219
 a53:=Tryz.isAgg219
 z53:=Tryz.sizeOf219
 v53:=Tryz.zeroValue219
 t70:=Tryz.underlying281
 a70:=Tryz.isAgg281
 z70:=Tryz.sizeOf281
 v70:=Tryz.zeroValue281
 t72:=Tryz.underlying283
 a72:=Tryz.isAgg283
 z72:=Tryz.sizeOf283
 v72:=Tryz.zeroValue283
 t75:=Tryz.underlying286
 a75:=Tryz.isAgg286
 z75:=Tryz.sizeOf286
 v75:=Tryz.zeroValue286
 t76:=Tryz.underlying287
 a76:=Tryz.isAgg287
 z76:=Tryz.sizeOf287
 v76:=Tryz.zeroValue287
 t109:=Tryz.underlying278
 a109:=Tryz.isAgg278
 z109:=Tryz.sizeOf278
 v109:=Tryz.zeroValue278
 t127:=Tryz.underlying350
 a127:=Tryz.isAgg350
 z127:=Tryz.sizeOf350
 v127:=Tryz.zeroValue350
 t146:=Tryz.underlying346
 a146:=Tryz.isAgg346
 z146:=Tryz.sizeOf346
 v146:=Tryz.zeroValue346
 t148:=Tryz.underlying348
 a148:=Tryz.isAgg348
 z148:=Tryz.sizeOf348
 v148:=Tryz.zeroValue348
 t164:=Tryz.underlying390
 a164:=Tryz.isAgg390
 z164:=Tryz.sizeOf390
 v164:=Tryz.zeroValue390}
def Tryz.Builder_Extra_105:Builder.Extra prog Tryz.lays105_ren:={
 sizeBuilder:=Vk
 liesBuilder:=Vk
 t5:=Tryz.underlying5
 a5:=Tryz.isAgg5
 z5:=Tryz.sizeOf5
 v5:=Tryz.zeroValue5
 infoByte:=Vk
 cellsByte:=Vk
 sizeByte:=Vk
 neB5:=by decide}
end Go.Proofs
namespace Go.Proofs.YtgehiiginclniaaGreatDoor
namespace Seg
open Go Go.Px Go.Proofs Go.RowKit Tryz
def tab_is{h:Hp}{w:World}(k:HSub h w)(g:Gl h w){nm:String}(l:prog.globalNamed nm=some 0):Lib.TabIs prog w nm .u64 Lib.pow10Tab:=by
 have j:(0,pow10)∈Zbn:=(by simp[Zbn]);obtain⟨_,n,t,r,e,f⟩:=g.size _ j
 have a:∀(i:Nat) (z:Int),Lib.pow10Tab[i]?=some z->n[i]?=some (.int .u64 z):=by
  intro i z m;have o:pow10[i]?=some (.val (.int .u64 z)):=(by have:pow10=Lib.pow10Tab.map λz=>SV.val (.int .u64 z):=Vk;rw[this,Yz,m];rfl);obtain⟨v,c,d⟩:=g.cells _ j i _ o;have b:=k _ _ _ c;have p:v= .int .u64 z:=(Rep.pure (ρ:=λ_=>noLoc) v _ d).val_inv;subst p;simp only[World.cell?,e]at b
  simpa using b
 have q:pow10.length=Lib.pow10Tab.length:=(by decide+kernel);unfold Lib.TabIs World.var?;rw[l];simp only[Option.bind_some,e];congr 1;apply Array.ext
 .rw[f];simp[q]
 .intro i c d;have b:i<Lib.pow10Tab.length:=by simp at d;omega
  have:=a i _ (List.getElem?_eq_getElem b);rw[Y1 c]at this
  simpa using this
def Zwz(n:Int)(a: -9223372036854775808<=n)(b:n<=9223372036854775807):Ct prog 153 {} [I n,I 10] (λr=>r=[S ⟨(Lib.itoa n).toArray⟩]):=by
 refine Zk7 func153 Vk (λe=>?_) [.int .i64 n,.int .i64 10] (.string ⟨(Lib.itoa n).toArray⟩) (λh w c d=>?_)
 .have:(Tryz.f153.name== "runtime.NumGoroutine")=false:=Vk
  rw[e]at this;simp at this
 .refine(Any.strconv_FormatInt_10 Tryz.laysM173 n a b w (tab_is c d Vk)).mono ?_;rintro e g ⟨rfl,k2,os,rfl⟩;refine⟨rfl,rfl,rfl,rfl,by simp[Sort.grow],λk f=>?_⟩;have:k<(w.drewN k2).heap.size:=f;simp only[Sort.grow];rw[Yq this];rfl
def Zr6(s:BA)(c:Nat)(b:c<=9223372036854775807)(a:s.size*c<=140737488355328):Ct prog 154 {} [S s,I c] (λr=>r=[S ⟨(Lib.repeatL s.data.toList c).toArray⟩]):=by
 refine Zk7 func154 Vk (λe=>?_) [.string s,.int .i64 c] (.string ⟨(Lib.repeatL s.data.toList c).toArray⟩) (λh w d f=>?_)
 .have:(Tryz.f154.name== "runtime.NumGoroutine")=false:=Vk
  rw[e]at this;simp at this
 .exact Any.strings_Repeat Tryz.lays105 Tryz.Builder_Extra_105 s c w b a
end Seg
namespace Sgr
open Go Go.Px Go.Proofs Cod Seg Tryz
def dgs:Nat->Nat->List UInt8
 |0,_=>[]
 |k+1,n=>dgs k (n/10)++[UInt8.ofNat (48+n%10)]
def Zcv:∀(k n:Nat),(dgs k n).length=k
 |0,_=>rfl
 |k+1,n=>by simp[dgs,Zcv k]
def Zuu:∀k,dgs k 0=List.replicate k 48
 |0=>rfl
 |k+1=>by rw[dgs];simp only[Nat.zero_div,Zuu k];rw[List.replicate_succ'];rfl
def Zop:∀(k n:Nat),1<=k->n<10^k->List.replicate (k-(Lib.decDigits n).length) 48++Lib.decDigits n=dgs k n
 |0,_,h,_=>Vo
 |k+1,n,_,hn=>by
  by_cases h:n<10
  .rw[Lib.decDigits_one h,dgs,show n/10=0 by omega,Zuu,Wo,Nat.add_sub_cancel,Nat.mod_eq_of_lt h]
  .have a:1<=k:=by
    rcases k with _|k
    .omega
    .omega
   have b:=Zop k (n/10) a (by rw[Nat.pow_succ]at hn;omega);have e:Lib.decDigits n=Lib.decDigits (n/10)++[UInt8.ofNat (48+n%10)]:=(by rw[Lib.decDigits,dif_neg h]);rw[e,dgs,<-b];simp
def Zjz{k n:Nat}(a:1<=k)(h:n<10^k):(Lib.decDigits n).length<=k:=by
 have:=congrArg List.length (Zop k n a h);rw[Zcv]at this;simp at this;omega
def Zuv(a b:List UInt8):scat ⟨a.toArray⟩ ⟨b.toArray⟩=⟨(a++b).toArray⟩:=by
 unfold scat;apply ByteArray.ext;simp
def Zj0(a:List UInt8):slen ⟨a.toArray⟩=a.length:=by simp[slen,ByteArray.size]
def repeat0(c:Nat):Lib.repeatL [48] c=List.replicate c 48:=by
 have:=Lib.repeatL_replicate 48 1 c
 simpa using this
def segNm(n:Int):BA:=if 1<=n/\n<=99999999 then⟨([115,101,103,46]++dgs 8 n.toNat).toArray⟩else ByteArray.mk #[]
def Zc3(n:Int):Ct prog 88 {} [I n] (λr=>r=[S (segNm n)]):=by
 refine Sgr.sname_nf (Cl.of (Zs8 n) ⟨_,rfl,Zaa (λh=>?_) (λh=>?_)⟩)
 .simp at h;have:¬(1<=n/\n<=99999999):=Vo;simp[segNm,this]
 .simp at h;have a:Lib.itoa n=Lib.decDigits n.toNat:=by unfold Lib.itoa;rw[if_neg Vo]
  have c:(Lib.decDigits n.toNat).length<=8:=Zjz Vo Vo;refine Cl.of (Zwz n Vo Vo) ⟨_,rfl,?_⟩;rw[a,Zj0];have w:wsub IntKind.i64 8 ((Lib.decDigits n.toNat).length:Int)=((8-(Lib.decDigits n.toNat).length:Nat):Int):=(by rw[Zar];omega);rw[w];refine Cl.of (Zr6 ⟨[48].toArray⟩ _ Vo (by simp[ByteArray.size];omega)) ⟨_,rfl,?_⟩;have b:(bA [115,101,103,46])=⟨([115,101,103,46]:List UInt8).toArray⟩:=rfl;have e1:(ByteArray.mk [48].toArray).data.toList=[48]:=rfl;rw[e1,repeat0,b,Zuv,Zuv,Zj0,Zj0,Zj0];refine⟨by simp[lsum];omega,by simp[lsum];omega,?_⟩;rw[List.append_assoc,Zop 8 n.toNat Vo Vo];simp[segNm,h.1,h.2]
def addR(s a:Int)(m:List BA)(e:EvD):List SV:=
 if encE s a m e=0 then[SL 1 (bR (fr 2 (encL s a m e))),cx3 e.s e.a (nR (bhdN m e.c)),I 0]else[SL 1 [],cx3 s a (nR m),I (encE s a m e)]
def Zuw(s a:Int)(m:List BA)(e:EvD):Ct prog 138 {} [cx3 s a (nR m),e.sv] (λr=>r=addR s a m e):=by
 have c:=Zqs s a m e;refine sadd_nf ?_;unfold addR;by_cases hE:encE s a m e=0
 .have ok:=Zc7.1 hE;have f:=Zh8 ok;unfold encR at c;rw[if_pos hE]at c;refine Cl.of c ⟨_,_,_,_,_,rfl,Zaa (λb=>by simp at b) (λ_=>?_)⟩;have d:=Zuh 2 _ (Zi6 (cs:=s) (ca:=a) (l:=m) (e:=e)) Vo;have:putF 2 (encL s a m e)=(fr 2 (encL s a m e),0):=(by unfold putF;rw[if_neg Vo,if_neg Vo]);rw[this]at d;exact Cl.of d ⟨_,_,rfl,Zaa (λb=>by simp at b) (λ_=>by rw[if_pos hE])⟩
 .unfold encR at c;rw[if_neg hE]at c;exact Cl.of c ⟨_,_,_,_,_,rfl,Zaa (λ_=>by rw[if_neg hE]) (λb=>by simp at b;exact absurd b hE)⟩
def sseal2_fn(n s a:Int)(m:List BA)(b:n<=9223372036854775807):Ct prog 139 {} [I n,cx3 s a (nR m)] (λr=>
  r=if ctxB s a m=true/\0<=n then[SL 1 (bR (fr 3 (slP n s a))),I 0]else[SL 1 [],I 1]):=by
 by_cases h0:0<=n
 .refine(sseal_fn n s a m h0 b).mono ?_;rintro r rfl;simp[h0]
 .refine Zuy (Zaa (λh=>?_) (λh=>by simp at h;omega));rw[if_neg Vo]
instance (n s a:Int):Decidable (Seg.headOK n s a):=by unfold Seg.headOK ctxOK;infer_instance
end Sgr
namespace Row
open Go Go.Px Go.Proofs Cmp Sx Cod Tryz
def rng(n:Int):Prop:=0<=n/\n<=9223372036854775807
def encN(l:List Int):List Int:=l.flatMap λn=>leb n.toNat
def Zi4(l m:List Int):encN (l++m)=encN l++encN m:=by simp[encN]
def Zqc(n:Int):encN [n]=leb n.toNat:=by simp[encN]
def Zqd:encN []=[]:=rfl
def flat(a:List (Int×Int)):List Int:=a.flatMap λp=>[p.1,p.2]
def flat_app(l m:List (Int×Int)):flat (l++m)=flat l++flat m:=by simp[flat]
def Zk2(l:List (Int×Int)):(flat l).length=2*l.length:=by
 induction l with
 |nil=>rfl
 |cons x l a=>simp only[flat,Ya,List.length_append,List.length_cons,List.length_nil]at a|-;omega
def flat_inj:∀{l m:List (Int×Int)},flat l=flat m->l=m
 | [],[],_=>rfl
 | [],y::m,h=>by simp[flat]at h
 |x::l,[],h=>by simp[flat]at h
 |x::l,y::m,h=>by simp only[flat,Ya,Y4,List.nil_append,List.cons.injEq]at h;obtain⟨a,b,c⟩:=h;rw[flat_inj (l:=l) (m:=m) c];congr 1;exact Wa a b
def bas(a c d e:Int)(b:List (Int×Int)):List Int:=[a,c]++(if a=1 then[d,e,(b.length:Int)]++flat b else[])
def hst(a:Int)(b:List Int):List Int:=if a=1\/a=3 then b else[]
def bck(a:Int)(bs:List Int):List Int:=if a=2\/a=3 then bs else[]
def numC(c:CoD):List Int:=bas c.ro c.mo c.wd c.sl c.cl++(hst c.ro [c.h0,c.h1,c.h2,c.h3,c.h4,c.h5,c.h6,c.h7,c.h8,c.hs]++(bck c.ro [c.rm,c.ha]++[c.c0,c.c1,c.c2]))
def encC(c:CoD):List Int:=leb c.nm.size++(txB c.nm++encN (numC c))
def encS(d:StD):List Int:=leb d.cs.length++(d.cs.flatMap encC++(leb d.q.toNat++leb d.t.toNat))
def zro(c:CoD):Prop:=(c.ro≠1->c.wd=0/\c.sl=0/\c.cl=[])/\(c.ro≠1->c.ro≠3->c.h0=0/\c.h1=0/\c.h2=0/\c.h3=0/\c.h4=0/\c.h5=0/\c.h6=0/\c.h7=0/\c.h8=0/\c.hs=0)/\(c.ro≠2->c.ro≠3->c.rm=0/\c.ha=0)
structure shp(c:CoD):Prop where
 z:zro c
 r:1<=c.ro/\c.ro<=3
 nm:c.nm.size<=24
 cl:c.cl.length<=16
 n:∀n∈numC c,rng n
def shp_of{c:CoD}(h:c.P):shp c/\∀n∈numC c,0<=n/\n<=1099511627776:=by
 obtain⟨⟨l,r⟩,f⟩:=h;simp only[namB,decide_eq_true_eq]at l;obtain⟨s,t,u⟩:=r;unfold heldP at s t u
 have d:zro c/\(1<=c.ro/\c.ro<=3)/\c.cl.length<=16/\∀n∈numC c,0<=n/\n<=1099511627776:=by
  unfold CoD.roleP at f
  split at f
  .rename_i j;obtain⟨⟨m,w1,w2,w3,w4⟩,b,g⟩:=f;simp only[CoD.his,hisP,heldP]at b;refine⟨⟨λe=>absurd j e,λe=>absurd j e,λ_ _=>g⟩,Vo,w3.2,λn a=>?_⟩;simp only[numC,bas,hst,bck,j,if_true,List.mem_append]at a;unfold timP at w2
   rcases a with a|a|a|a
   .simp only[List.mem_cons,YZ,or_false]at a
    rcases a with(rfl|rfl)|(rfl|rfl|rfl)|a<;>try omega
    simp only[flat,List.mem_flatMap,List.mem_cons,YZ,or_false]at a;obtain⟨p,o,rfl|rfl⟩:=a
    .have:=w4 p o;unfold heldP at this;omega
    .have:=w4 p o;unfold heldP at this;omega
   .simp at a
    rcases a with rfl|rfl|rfl|rfl|rfl|rfl|rfl|rfl|rfl|rfl<;>omega
   .simp at a
   .simp at a;rcases a with rfl|rfl|rfl<;>omega
  next j=>
   split at f
   .rename_i k;obtain⟨⟨⟨m,w1,w2,w3⟩,b,q⟩,g⟩:=f;unfold bktP at g;refine⟨⟨λ_=>⟨w1,w2,w3⟩,λ_ _=>⟨b.1,b.2.1,b.2.2.1,b.2.2.2.1,b.2.2.2.2.1,b.2.2.2.2.2.1,b.2.2.2.2.2.2.1,b.2.2.2.2.2.2.2.1,b.2.2.2.2.2.2.2.2,q⟩,λe=>absurd k e⟩,Vo,by rw[w3];simp,λn a=>?_⟩;simp only[numC,bas,hst,bck,k,List.mem_append]at a;simp at a
    rcases a with(rfl|rfl)|(rfl|rfl)|rfl|rfl|rfl<;>omega
   .obtain⟨i,⟨m,w1,w2,w3⟩,b,g⟩:=f;simp only[CoD.his,hisP,heldP]at b;unfold bktP at g;refine⟨⟨λ_=>⟨w1,w2,w3⟩,λ_ e=>absurd i e,λ_ e=>absurd i e⟩,Vo,by rw[w3];simp,λn a=>?_⟩;simp only[numC,bas,hst,bck,i,List.mem_append]at a;simp at a
    rcases a with(rfl|rfl)|(rfl|rfl|rfl|rfl|rfl|rfl|rfl|rfl|rfl|rfl)|(rfl|rfl)|rfl|rfl|rfl<;>omega
 exact⟨⟨d.1,d.2.1,l.2,d.2.2.1,λn a=>⟨(d.2.2.2 n a).1,by have:=(d.2.2.2 n a).2;omega⟩⟩,d.2.2.2⟩
def Zmu(a c d e:Int)(b:List (Int×Int)):(bas a c d e b).length=if a=1 then 5+2*b.length else 2:=by
 unfold bas;split
 .simp[Zk2];omega
 .rfl
def Zge(a:Int)(l:List Int):(hst a l).length=if a=1\/a=3 then l.length else 0:=by unfold hst;split<;>simp
def Zht(a:Int)(l:List Int):(bck a l).length=if a=2\/a=3 then l.length else 0:=by unfold bck;split<;>simp
def pre_ro{c:CoD}{x:List Int}(h:([i,b]++x)<+:numC c):c.ro=i/\c.mo=b:=by
 obtain⟨t,h⟩:=h;simp only[numC,bas,Y4,List.nil_append,List.cons.injEq]at h;exact⟨h.1.symm,h.2.1.symm⟩
def pre_win{c:CoD}{x:List Int}(h:([1,i,j,b,k]++x)<+:numC c):c.ro=1/\c.mo=i/\c.wd=j/\c.sl=b/\(c.cl.length:Int)=k:=by
 have e:=(pre_ro (x:=[j,b,k]++x) (by simpa using h)).1;obtain⟨t,h⟩:=h;simp only[numC,bas,e,if_true,Y4,List.nil_append,List.cons.injEq]at h;exact⟨e,h.2.1.symm,h.2.2.1.symm,h.2.2.2.1.symm,h.2.2.2.2.1.symm⟩
def pre_bas{c:CoD}{b:List (Int×Int)}{x:List Int}(h:(bas i j k e b++x)<+:numC c):
  c.ro=i/\(numC c).length=(bas i j k e b).length+((if i=1\/i=3 then 10 else 0)+((if i=2\/i=3 then 2 else 0)+3)):=by
 have g:=(pre_ro (x:=(if i=1 then[k,e,(b.length:Int)]++flat b else[])++x) (by simpa[bas]using h)).1;refine⟨g,?_⟩;simp only[numC,List.length_append,Zmu,Zge,Zht,g];by_cases h1:i=1
 .subst h1;have:=(pre_win (x:=flat b++x) (by simpa[bas]using h)).2.2.2.2;simp;omega
 .simp[h1]
def Zi5{c:CoD}:5<=(numC c).length:=by
 simp only[numC,bas,List.length_append,List.length_cons,List.length_nil];omega
def Zug{a b x y:List Int}(h:(a++x)<+:(b++y))(c:a.length=b.length):a=b/\x<+:y:=by
 obtain⟨t,h⟩:=h;rw[List.append_assoc]at h;obtain⟨d,e⟩:=List.append_inj h c;exact⟨d,⟨t,e⟩⟩
def Zqe{c d:CoD}(o:zro c)(p:zro d)(W:c.nm=d.nm)(h:numC c<+:numC d):c=d:=by
 have Q:=pre_bas (c:=d) (by simpa[numC]using h);obtain⟨f,q⟩:=Q;have R:(bas c.ro c.mo c.wd c.sl c.cl).length=(bas d.ro d.mo d.wd d.sl d.cl).length:=(by have:(numC d).length=(bas d.ro d.mo d.wd d.sl d.cl).length+((if d.ro=1\/d.ro=3 then 10 else 0)+((if d.ro=2\/d.ro=3 then 2 else 0)+3)):=(by simp only[numC,List.length_append,Zge,Zht,List.length_cons,List.length_nil]);rw[f]at this|-;omega);obtain⟨e1,r⟩:=Zug h R;have T:(hst c.ro [c.h0,c.h1,c.h2,c.h3,c.h4,c.h5,c.h6,c.h7,c.h8,c.hs]).length=(hst d.ro [d.h0,d.h1,d.h2,d.h3,d.h4,d.h5,d.h6,d.h7,d.h8,d.hs]).length:=(by simp only[Zge,f];rfl);obtain⟨e2,s⟩:=Zug r T;have U:(bck c.ro [c.rm,c.ha]).length=(bck d.ro [d.rm,d.ha]).length:=(by simp only[Zht,f];rfl);obtain⟨m,g⟩:=Zug s U;have e4:c.c0=d.c0/\c.c1=d.c1/\c.c2=d.c2:=(by obtain⟨t,g⟩:=g;simp at g;exact⟨g.1,g.2.1,g.2.2.1⟩);obtain⟨u,v,x⟩:=o;obtain⟨y,z,A⟩:=p
 have w:c.mo=d.mo/\c.wd=d.wd/\c.sl=d.sl/\c.cl=d.cl:=by
  simp only[bas,f]at e1;by_cases hr:c.ro=1
  .simp only[hr,if_true,Y4,List.nil_append,List.cons.injEq]at e1;exact⟨e1.2.1,e1.2.2.1,e1.2.2.2.1,flat_inj e1.2.2.2.2.2⟩
  .rw[if_neg hr,if_neg hr]at e1;obtain⟨i,j,n⟩:=u hr;obtain⟨k,l,b3⟩:=y Vo;simp at e1;exact⟨e1,by rw[i,k],by rw[j,l],by rw[n,b3]⟩
 have V:c.h0=d.h0/\c.h1=d.h1/\c.h2=d.h2/\c.h3=d.h3/\c.h4=d.h4/\c.h5=d.h5/\c.h6=d.h6/\c.h7=d.h7/\c.h8=d.h8/\c.hs=d.hs:=by
  by_cases hr:c.ro=1\/c.ro=3
  .simp only[hst,f,if_pos hr,List.cons.injEq]at e2;exact⟨e2.1,e2.2.1,e2.2.2.1,e2.2.2.2.1,e2.2.2.2.2.1,e2.2.2.2.2.2.1,e2.2.2.2.2.2.2.1,e2.2.2.2.2.2.2.2.1,e2.2.2.2.2.2.2.2.2.1,e2.2.2.2.2.2.2.2.2.2.1⟩
  .have a:=v (λe=>hr (.inl e)) (λe=>hr (.inr e));have b:=z (λe=>hr (.inl Vo)) (λe=>hr (.inr Vo));obtain⟨C,i,j,n,D,E,F,G,H,J⟩:=a;obtain⟨K,k,l,b3,L,b5,M,N,O,P⟩:=b;exact⟨by rw[C,K],by rw[i,k],by rw[j,l],by rw[n,b3],by rw[D,L],by rw[E,b5],by rw[F,M],by rw[G,N],by rw[H,O],by rw[J,P]⟩
 have hb:c.rm=d.rm/\c.ha=d.ha:=by
  by_cases hr:c.ro=2\/c.ro=3
  .simp only[bck,f,if_pos hr,List.cons.injEq]at m;exact⟨m.1,m.2.1⟩
  .obtain⟨i,j⟩:=x (λe=>hr (.inl e)) (λe=>hr (.inr e));obtain⟨k,l⟩:=A (λe=>hr (.inl Vo)) (λe=>hr (.inr Vo));exact⟨by rw[i,k],by rw[j,l]⟩
 obtain⟨w1,w2,w3,w4⟩:=w;obtain⟨X,Y,Z,g3,g4,g5,g6,g7,g8,g9⟩:=V
 cases c;cases d
 simp_all
def Zw6{p x l:List Int}(b:i=p.length)(h:p++x<+:l):∃t,l.drop i.toNat=x++t:=by
 obtain⟨t,rfl⟩:=h;refine⟨t,?_⟩;rw[b,Int.toNat_natCast,List.append_assoc,Wf]
def Zw7{p x l t:List Int}(b:i=p.length)(c:p<+:l)(h:l.drop i.toNat=x++t):p++x<+:l:=by
 obtain⟨s,rfl⟩:=c;rw[b,Int.toNat_natCast,Wf]at h;exact⟨t,by rw[h,List.append_assoc]⟩
def pre_more{p x y l:List Int}(h:p++(x++y)<+:l):p++x<+:l:=by
 obtain⟨t,h⟩:=h;exact⟨y++t,by rw[<-h];simp⟩
def leb_small(h:n<18446744073709551616:=by omega):(leb n).length<=10:=Zhs 9 _ (Nat.lt_of_lt_of_le h Vd)
def byts_encN(l:List Int):Byts (encN l):=λx a=>by
 obtain⟨n,_,h⟩:=List.mem_flatMap.1 a;exact Zw1 _ _ h
def byts_encC(c:CoD):Byts (encC c):=(Zax _).app ((Zzw _).app (byts_encN _))
def byts_encS(d:StD):Byts (encS d):=
 (Zax _).app (Byts.app (λx a=>by obtain⟨c,_,h⟩:=List.mem_flatMap.1 a;exact byts_encC c x h) ((Zax _).app (Zax _)))
def Zk3{l:List Int}(h:∀n∈l,rng n):(encN l).length<=10*l.length:=by
 induction l with
 |nil=>simp[encN]
 |cons x l d=>have c:=d λn b=>h n (by simp[b]);have a:=h x Vs;have e:(leb x.toNat).length<=10:=leb_small (by have:=a.2;have:=a.1;omega);simp only[encN,Ya,List.length_append,List.length_cons]at c|-;omega
def encC_len{c:CoD}(h:shp c):(encC c).length<=600:=by
 have a:=Zk3 h.n;have b:(leb c.nm.size).length<=10:=leb_small (by have:=h.nm;omega)
 have d:(numC c).length<=52:=by
  simp only[numC,List.length_append,Zmu,Zge,Zht,List.length_cons,List.length_nil];have:=h.cl
  split<;>split<;>split<;>omega
 have e:=h.nm;simp only[encC,List.length_append,Zce];omega
def Zmv:∀{l:List CoD},(∀c∈l,shp c)->(l.flatMap encC).length<=600*l.length
 | [],_=>Vs
 |c::l,h=>by have b:=encC_len (h c Vs);have d:=Zmv (l:=l) λx a=>h x (by simp[a]);simp only[Ya,List.length_append,List.length_cons];omega

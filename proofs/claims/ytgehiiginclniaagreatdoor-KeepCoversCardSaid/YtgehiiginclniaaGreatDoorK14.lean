import Derived.Test.YtgehiiginclniaaGreatDoorK13
import Derived.Shelf.LaysC
import Derived.Shelf.Strconv.ParseIntPublic10
import Derived.Shelf.Strconv.ErrVarParseInt
import Derived.Lib.AtoiErrMem
import Derived.Test.YtgehiiginclniaaGreatDoorProg
set_option linter.all false
set_option maxRecDepth 100000
variable{b c e i j k z:Int}{n:Nat}{l r:Go.Px.LL}{Q:Go.Px.QQ}{t:BA}{y:List Go.Px.FiD}{d:Go.Px.DiD}{O o:Bool}{f:Go.Px.FiD}{J:Go.Proofs.YtgehiiginclniaaGreatDoor.Jou.JoD}{g:Go.Proofs.YtgehiiginclniaaGreatDoor.Sx.StD}{D:Go.Proofs.YtgehiiginclniaaGreatDoor.Seg.Sc}
namespace Go.Proofs.YtgehiiginclniaaGreatDoor
namespace Jou
open Go Go.Px Go.Proofs Cod Tryz
abbrev dk4(rows:LL)(b a:Int)(c:Bool):SV:=.agg [SL 3 rows,I b,I a,B c]
abbrev st3(rows:LL)(s a:Int):SV:=.agg [SL 21 rows,I s,I a]
abbrev cx3(s a:Int)(b:LL):SV:=.agg [I s,I a,SL 1 b]
abbrev ev7(s a k:Int)(c:BA)(x y z:Int):SV:=.agg [I s,I a,I k,S c,I x,I y,I z]
abbrev sc10(num bs b:Int)(c ev:LL)(a d:Int)(e:LL)(f g:Int):SV:=.agg [I num,I bs,I b,SL 1 c,SL 7 ev,I a,I d,SL 1 e,I f,I g]
abbrev pt11(num bs c:Int)(d ev:LL)(a e:Int)(f:LL)(g h b:Int):SV:=.agg [I num,I bs,I c,SL 1 d,SL 7 ev,I a,I e,SL 1 f,I g,I h,I b]
abbrev fd7(row out:LL)(b:Int)(d:LL)(s a:Int)(c:Bool):SV:=.agg [SL 11 row,SL 1 out,I b,SL 21 d,I s,I a,B c]
abbrev jr16(rows:LL)(b a:Int)(c:Bool)(g h:Int)(segs:LL)(i j:Int)(k l:LL)(m n d e:Int)(f:Bool):SV:=.agg [SL 3 rows,I b,I a,B c,I g,I h,SL 7 segs,I i,I j,SL 1 k,SL 21 l,I m,I n,I d,I e,B f]
abbrev wr18(rows:LL)(b a:Int)(c:Bool)(i j:Int)(segs:LL)(k l:Int)(m n:LL)(o p d e:Int)(f:Bool)(g:LL)(h:Int):SV:=.agg [SL 3 rows,I b,I a,B c,I i,I j,SL 7 segs,I k,I l,SL 1 m,SL 21 n,I o,I p,I d,I e,B f,SL 1 g,I h]
abbrev sm(x:LL):Prop:=Option.some x=Option.some x
abbrev inR(x:Int)(l:LL):Prop:=(0:Int)<=x/\x<rlen l
abbrev ej0(r:List SV)(K:Nat->(List SV)->Prop):Prop:=∃a:Nat,∃b:List SV,(r=[SV.clo a b])/\K a b
abbrev ej1(r:List SV)(K:LL->Int->Int->Bool->Int->Prop):Prop:=∃a:LL,∃b:Int,∃c:Int,∃d:Bool,∃e:Int,(r=[dk4 a b c d,I e])/\K a b c d e
abbrev ej2(r:List SV)(K:BA->Prop):Prop:=∃a:BA,(r=[S a])/\K a
abbrev ej3(r:List SV)(K:Int->Int->Int->LL->LL->Int->Int->LL->Int->Int->Int->Prop):Prop:=∃b:Int,∃c:Int,∃d:Int,∃e:LL,∃f:LL,∃g:Int,∃h:Int,∃i:LL,∃j:Int,∃z9:Int,∃a:Int,(r=[I b,I c,I d,SL 1 e,SL 7 f,I g,I h,SL 1 i,I j,I z9,I a])/\K b c d e f g h i j z9 a
abbrev ej4(r:List SV)(K:Bool->Prop):Prop:=∃a:Bool,(r=[B a])/\K a
abbrev ej5(r:List SV)(K:Int->Int->Int->Int->Int->Int->Bool->Prop):Prop:=∃a:Int,∃b:Int,∃c:Int,∃d:Int,∃e:Int,∃f:Int,∃g:Bool,(r=[I a,I b,I c,I d,I e,I f,B g])/\K a b c d e f g
abbrev ej6(r:List SV)(K:LL->Int->Int->LL->Int->Prop):Prop:=∃a:LL,∃b:Int,∃c:Int,∃d:LL,∃e:Int,(r=[SL 1 a,cx3 b c d,I e])/\K a b c d e
abbrev ej7(r:List SV)(K:LL->Int->Prop):Prop:=∃a:LL,∃b:Int,(r=[SL 1 a,I b])/\K a b
abbrev ej8(r:List SV)(K:LL->Int->Int->Bool->Int->Int->LL->Int->Int->LL->LL->Int->Int->Int->Int->Bool->LL->Int->Prop):Prop:=∃i:LL,∃j:Int,∃k:Int,∃l:Bool,∃m:Int,∃n:Int,∃o:LL,∃p:Int,∃q:Int,∃z9:LL,∃a:LL,∃b:Int,∃c:Int,∃d:Int,∃e:Int,∃f:Bool,∃g:LL,∃h:Int,(r=[wr18 i j k l m n o p q z9 a b c d e f g h])/\K i j k l m n o p q z9 a b c d e f g h
abbrev ej9(r:List SV)(K:LL->Prop):Prop:=∃a:LL,(r=[SL 1 a])/\K a
abbrev ej10(r:List SV)(K:Int->Prop):Prop:=∃a:Int,(r=[I a])/\K a
abbrev ej11(r:List SV)(K:Int->Int->Int->LL->LL->Int->Int->LL->Int->Int->Prop):Prop:=∃a:Int,∃b:Int,∃c:Int,∃d:LL,∃e:LL,∃f:Int,∃g:Int,∃h:LL,∃i:Int,∃z9:Int,(r=[sc10 a b c d e f g h i z9])/\K a b c d e f g h i z9
abbrev ej12(r:List SV)(K:LL->LL->Prop):Prop:=∃a:LL,∃b:LL,(r=[SL 11 a,SL 1 b])/\K a b
abbrev ej13(r:List SV)(K:LL->Int->Int->Int->Prop):Prop:=∃a:LL,∃b:Int,∃c:Int,∃d:Int,(r=[st3 a b c,I d])/\K a b c d
abbrev ej14(r:List SV)(K:LL->Int->Int->Bool->Prop):Prop:=∃a:LL,∃b:Int,∃c:Int,∃d:Bool,(r=[st3 a b c,B d])/\K a b c d
abbrev ej15(r:List SV)(K:LL->LL->Int->LL->Int->Int->Bool->Prop):Prop:=∃a:LL,∃b:LL,∃c:Int,∃d:LL,∃e:Int,∃f:Int,∃g:Bool,(r=[fd7 a b c d e f g])/\K a b c d e f g
abbrev ej16(r:List SV)(K:LL->Prop):Prop:=∃a:LL,(r=[SL 7 a])/\K a
abbrev ej17(r:List SV)(K:Int->Int->LL->Prop):Prop:=∃a:Int,∃b:Int,∃c:LL,(r=[cx3 a b c])/\K a b c
abbrev ej18(r:List SV)(K:Bool->LL->Int->Int->Bool->Int->Int->LL->Int->Int->LL->LL->Int->Int->Int->Int->Bool->LL->Int->Prop):Prop:=∃j:Bool,∃k:LL,∃l:Int,∃m:Int,∃n:Bool,∃o:Int,∃p:Int,∃q:LL,∃s:Int,∃z9:Int,∃a:LL,∃b:LL,∃c:Int,∃d:Int,∃e:Int,∃f:Int,∃g:Bool,∃h:LL,∃i:Int,(r=[B j,wr18 k l m n o p q s z9 a b c d e f g h i])/\K j k l m n o p q s z9 a b c d e f g h i
abbrev ej19(r:List SV)(K:LL->Int->Int->Bool->Int->Int->LL->Int->Int->LL->LL->Int->Int->Int->Int->Bool->Int->Prop):Prop:=∃h:LL,∃i:Int,∃j:Int,∃k:Bool,∃l:Int,∃m:Int,∃n:LL,∃o:Int,∃p:Int,∃z9:LL,∃a:LL,∃b:Int,∃c:Int,∃d:Int,∃e:Int,∃f:Bool,∃g:Int,(r=[jr16 h i j k l m n o p z9 a b c d e f,I g])/\K h i j k l m n o p z9 a b c d e f g
abbrev ej20(r:List SV)(K:BA->Bool->Prop):Prop:=∃a:BA,∃b:Bool,(r=[S a,B b])/\K a b
abbrev ej21(r:List SV)(K:Int->Int->Int->BA->Int->Int->Int->Prop):Prop:=∃a:Int,∃b:Int,∃c:Int,∃d:BA,∃e:Int,∃f:Int,∃g:Int,(r=[I a,I b,I c,S d,I e,I f,I g])/\K a b c d e f g
abbrev sgW:Sig:=⟨[.lend [false,false,false,false,false,false,true,false,false,false,false,false,false,false,false,false,true,false]],[]⟩
abbrev sgP:Sig:=⟨[.lend [false,false,false,false,false,false,true,false,false,false,false,false,false,false,false,false,true,false,false,false,false,false,false,false,false,false,false,false,false,false,false,false,false,false,false,false,false,false,false,false,false,false,false,false,false,false,false,false,false,false,false,false,false,false,false,false,false,false,false,false,false,false,false,false,false,false,false,false,false,false,true]],[]⟩
def SgT:FuncId->Sig:=(λf=>bif Nat.beq f 70 then⟨[],[.own]⟩else bif Nat.beq f 72 then sgW else bif Nat.beq f 74 then sgW else bif Nat.beq f 75 then sgW else bif Nat.beq f 76 then sgW else bif Nat.beq f 140 then sgP else bif Nat.beq f 141 then⟨[],[.own,.pure]⟩else bif Nat.beq f 202 then⟨[],[.own,.pure]⟩else bif Nat.beq f 220 then⟨[],[.own]⟩else bif Nat.beq f 242 then⟨[],[.own]⟩else bif Nat.beq f 287 then⟨[],[.own]⟩else bif Nat.beq f 307 then⟨[],[.own]⟩else{})
def SvT:TypeId->Sig:=(λf=>{})
def jmaybe_nf(h:Q [B (bpick (bpick (bpick (ige b 64) (ile b 65536) false) (ige i 1) false) (ile i 1099511627776) false)]):Ct prog 50 {} [.agg [I b,I i]] Q:=
 fN SgT SvT func50 h
def jrun_nf{rows:LL}(h:∃g:Int->LL->Int->Int->Bool->Prop,∃m:Int->LL->Int->Int->Bool->Nat,(g 0 rows i c o)/\∀x a,∀d j b,(g x a d j b)->ifB (ilt x (rlen l)) ((inR x l)/\ej0 (rget l x) λf t=>(Cl prog f sP ((dk4 a d j b)::t) (λr=>ej1 r λn e p q s=>(ifB (ine s 0) (Q ([dk4 n e p q,I s])) ((sm ([[SV.slice 3 [] 1,I 0,I 0,B false]]))/\(g (wadd .i64 x 1) n e p q)/\Nl (m (wadd .i64 x 1) n e p q) (m x a d j b)))))) (Q ([dk4 a d j b,I 0]))):Ct prog 52 {} [dk4 rows i c o,SL 1 l] Q:=
 fO SgT SvT (λk=>bif Nat.beq k 12 then some {slots:=[(11,false,[.int .i64])],boxes:=[(256,[.sl 3,.int .i64,.int .i64,.bool])],fixed:=[512]}else none) func52 h
def mend_nf(row out:LL)(d:Int)(u:LL)(s a:Int)(e:Bool)(Q:QQ)(h:Cl prog 115 sP [SL 1 out] (λD=>ej0 D λf z=>(∃l,(f=183)/\(z=[SV.ref 0 [SL 1 l]])/\((rlen l)<=2147483648)/\∃j:Int->LL->Prop,(j 0 [])/\(∀x,(0<=x)->(x<(rlen l))->∀m,(j x m)->ej2 (rget l (kdn (rlen l) x)) λo=>(Cl prog 116 sP [S o] (λp=>ej0 p λv i=>(((lsum (rlen m) (rlen ([[SV.clo v i]])))<=2147483648)/\(sm ([[SL 11 row,SL 1 out,I d,SL 21 u,I s,I a,B e]]))/\j (kup x) (rapp m ([[SV.clo v i]]))))))/\∀m,(j (rlen l) m)->Cl prog 117 sP [SL 11 row] (λp=>ej0 p λv i=>(∃n,(v=185)/\(i=[SV.ref 0 [SL 11 n]])/\((rlen n)<=2147483648)/\∃b:Int->LL->Prop,(b 0 m)/\(∀x,(0<=x)->(x<(rlen n))->∀c,(b x c)->ej3 (rget n (kdn (rlen n) x)) λA E F G H J C K L w y=>(ifB (igt y w) (Cl prog 88 sP [I A] (λq=>ej2 q λo=>(Cl prog 118 sP [S o,I w] (λr=>ej0 r λt g=>(((lsum (rlen c) (rlen ([[SV.clo t g]])))<=2147483648)/\(sm ([[SL 11 row,SL 1 out,I d,SL 21 u,I s,I a,B e]]))/\b (kup x) (rapp c ([[SV.clo t g]]))))))) ((sm ([[SL 11 row,SL 1 out,I d,SL 21 u,I s,I a,B e]]))/\b (kup x) c)))/\∀c,(b (rlen n) c)->ifB (igt (rlen row) 0) ((inR (wsub .i64 (rlen row) 1) row)/\ej3 (rget row (wsub .i64 (rlen row) 1)) λx A E G H F J K C L w=>(ifB (ine C 4) ((inR (wsub .i64 (rlen row) 1) row)/\ej3 (rget row (wsub .i64 (rlen row) 1)) λy U M V W N O X P R T=>(Cl prog 88 sP [I y] (λq=>ej2 q λo=>(Cl prog 87 sP [S o] (λr=>ej0 r λt g=>(((lsum (rlen c) (rlen ([[SV.clo t g]])))<=2147483648)/\Q ([SL 1 (rapp c ([[SV.clo t g]]))]))))))) (Q [SL 1 c]))) (Q [SL 1 c])))))):Ct prog 53 {} [fd7 row out d u s a e] Q:=
 fnR_of (f:=53) SgT SvT (λk=>bif Nat.beq k 5000012 then some {slots:=[],boxes:=[(384,[.own 1])],fixed:=[128]}else bif Nat.beq k 5000022 then some {slots:=[],boxes:=[(384,[.own 1])],fixed:=[128]}else none) hItJ Tryz.f53 func53 Vk Vk h
def jsegs_nf{row:LL}(h:∃a:LL->Int->Prop,∃m:LL->Int->Nat,(a [] 0)/\∀l x,(a l x)->ifB (ilt x (rlen row)) ((inR x row)/\ej3 (rget row x) λb c d k n e g o i j p=>(((lsum (rlen l) (rlen ([[I b,I c,I e,I d,I g,I j,B (ieq i 4)]])))<=2147483648)/\((Option.some []:Option LL)=Option.some [])/\(a (rapp l ([[I b,I c,I e,I d,I g,I j,B (ieq i 4)]])) (wadd .i64 x 1))/\Nl (m (rapp l ([[I b,I c,I e,I d,I g,I j,B (ieq i 4)]])) (wadd .i64 x 1)) (m l x))) (Q [SL 7 l])):Ct prog 54 {} [SL 11 row] Q:=
 fN SgT SvT func54 h
def jahead_nf{row:LL}(h:ifB (ieq (rlen row) 0) (Q ([cx3 0 0 []])) ((inR (wsub .i64 (rlen row) 1) row)/\ej3 (rget row (wsub .i64 (rlen row) 1)) λx k m l n o p q c r s=>(ifB (ieq c 4) (Q ([cx3 0 0 []])) ((inR (wsub .i64 (rlen row) 1) row)/\ej3 (rget row (wsub .i64 (rlen row) 1)) λt u e v w a b d g i j=>(Q ([cx3 a b d])))))):Ct prog 55 {} [SL 11 row] Q:=
 fN SgT SvT func55 h
def jsame_nf(h:ifB (bpick (ieq i e) (ieq c j) false) (Cl prog 120 sP [SL 1 l,SL 1 r] (λg=>ej4 g λb=>(Q [B b]))) (Q [B false])):Ct prog 58 {} [cx3 i c l,cx3 e j r] Q:=
 fN SgT SvT func58 h
def jmay_nf{rows:LL}{segs:LL}{p q m g:Int}(h:Cl prog 46 sP ([dk4 rows i j o]) (λs=>ej4 s λa=>(ifB (bpick a o false) (Q [I 16]) (Cl prog 17 sP ([jr16 rows i j o b k segs c e l r p q m g O]) (λn=>ej4 n λt=>(ifB (bnot t) (Q [I 1]) (Q [I 0]))))))):Ct prog 68 {} [jr16 rows i j o b k segs c e l r p q m g O] Q:=
 fN SgT SvT func68 h
def jover_nf{rows:LL}{segs:LL}{y z d g:Int}{q m w:Int}{s u v:Int}(h:ifB (ieq (rlen segs) 0) (Q [B false]) ((inR (wsub .i64 (rlen segs) 1) segs)/\ej5 (rget segs (wsub .i64 (rlen segs) 1)) λx A C D H E n=>(ifB (bpick n true (ile C A)) (Q [B false]) (Cl prog 138 sP ([cx3 b e l,ev7 q m w t s u v]) (λF=>ej6 F λp J K L G=>(ifB (bpick (ine G 0) true (igt (wadd .i64 E (rlen p)) k)) (Q [B true]) (Q [B (igt (wsub .i64 m D) j)]))))))):Ct prog 71 {} [jr16 rows c i o k j segs b e l r y z d g O,ev7 q m w t s u v] Q:=
 fN SgT SvT func71 h
def wopen_nf{rows:LL}{segs:LL}{q s d g:Int}{p:LL}(h:ifB (igt (rlen segs) 0) ((inR (wsub .i64 (rlen segs) 1) segs)/\(inR (wsub .i64 (rlen segs) 1) segs)/\ej5 (rget segs (wsub .i64 (rlen segs) 1)) λx t u v w y n=>(Q ([B (bnot n),wr18 rows c i o j k segs b e l r q s d g O p z]))) (Q ([B false,wr18 rows c i o j k segs b e l r q s d g O p z]))):Ct prog 74 sgW [wr18 rows c i o j k segs b e l r q s d g O p z] Q:=
 fN SgT SvT func74 h
def wput_nf{rows:LL}{segs:LL}{C D g d:Int}{a:LL}{bs:LL}(h:(inR (wsub .i64 (rlen segs) 1) segs)/\(inR (wsub .i64 (rlen segs) 1) segs)/\ej5 (rget segs (wsub .i64 (rlen segs) 1)) λx u P R T n w=>((inR (wsub .i64 (rlen segs) 1) segs)/\ej5 (rget segs (wsub .i64 (rlen segs) 1)) λy p q A v H t=>((inR (wsub .i64 (rlen segs) 1) (rset segs (wsub .i64 (rlen segs) 1) [I y,I p,I q,I A,I v,I (wadd .i64 n (rlen bs)),B t]))/\ej5 (rget (rset segs (wsub .i64 (rlen segs) 1) [I y,I p,I q,I A,I v,I (wadd .i64 n (rlen bs)),B t]) (wsub .i64 (rlen segs) 1)) λE J K L M N U=>(Cl prog 88 sP [I E] (λG=>ej2 G λs=>(Cl prog 205 sP [S s,SL 1 bs] (λF=>ej0 F λf m=>(((lsum (rlen a) (rlen ([[SV.clo f m]])))<=2147483648)/\Q ([wr18 rows i c o j k (rset segs (wsub .i64 (rlen segs) 1) [I y,I p,I q,I A,I v,I (wadd .i64 n (rlen bs)),B t]) b e l r C D g d O (rapp a ([[SV.clo f m]])) (wadd .i64 z (rlen bs))]))))))))):Ct prog 140 sgP [wr18 rows i c o j k segs b e l r C D g d O a z,SL 1 bs] Q:=
 fN SgT SvT func140 h
def wseal_nf{rows:LL}{segs:LL}{w y d g:Int}{t:LL}(h:(inR (wsub .i64 (rlen segs) 1) segs)/\(inR (wsub .i64 (rlen segs) 1) segs)/\ej5 (rget segs (wsub .i64 (rlen segs) 1)) λx x1 W x3 x4 x5 n=>((inR (wsub .i64 (rlen segs) 1) segs)/\ej5 (rget segs (wsub .i64 (rlen segs) 1)) λx6 X x8 x9 a0 a1 b1=>(Cl prog 139 sP ([I (wsub .i64 W X),cx3 b e l]) (λY=>ej7 Y λp u=>(ifB (ine u 0) (Q ([B false,wr18 rows c i o j k segs b e l r w y d g O t z])) (Cl prog 140 sgP ([wr18 rows c i o j k segs b e l r w y d g O t z,SL 1 p]) (λA=>ej8 A λZ C D b2 E F m a2 a3 l3 l4 q G a4 H b3 J K=>((inR (wsub .i64 (rlen segs) 1) m)/\ej5 (rget m (wsub .i64 (rlen segs) 1)) λL a5 a6 a7 a8 a9 b4=>(Cl prog 88 sP [I L] (λM=>ej2 M λs=>(Cl prog 87 sP [S s] (λN=>ej0 N λf v=>(((lsum (rlen J) (rlen ([[SV.clo f v]])))<=2147483648)/\(inR (wsub .i64 (rlen segs) 1) m)/\ej5 (rget m (wsub .i64 (rlen segs) 1)) λa P R T U V b5=>(Q ([B true,wr18 Z C D b2 E F (rset m (wsub .i64 (rlen segs) 1) [I a,I P,I R,I T,I U,I V,B true]) 0 0 [] l4 q G q H b3 (rapp J ([[SV.clo f v]])) K]))))))))))))))):Ct prog 72 sgW [wr18 rows c i o j k segs b e l r w y d g O t z] Q:=
 fN SgT SvT func72 h
def wbegin_nf{rows:LL}{segs:LL}{v d a p:Int}{t:LL}{Q:QQ}(h:ifB (igt (rlen segs) 0) ((inR (wsub .i64 (rlen segs) 1) segs)/\(inR (wsub .i64 (rlen segs) 1) segs)/\ej5 (rget segs (wsub .i64 (rlen segs) 1)) λx N m P R Z q=>(Cl prog 88 sP [I (wadd .i64 x 1)] (λD=>ej2 D λs=>(ifB (bpick (seq s (bA [])) true (igt (wadd .i64 (rlen rows) 1) 64)) (Q ([B false,wr18 rows i j o k b segs c e l r v d a p O t z])) (Cl prog 141 (Sig.mk [] [Md.own,Md.pure]) ([I (wadd .i64 x 1),cx3 v d []]) (λw=>ej7 w λu T=>(ifB (ine T 0) (Q ([B false,wr18 rows i j o k b segs c e l r v d a p O t z])) (Cl prog 142 sP [S s] (λy=>ej0 y λf g=>(((lsum (rlen t) (rlen ([[SV.clo f g]])))<=2147483648)/\((lsum (rlen segs) (rlen ([[I (wadd .i64 x 1),I v,I v,I d,I d,I 0,B false]])))<=2147483648)/\Cl prog 140 sgP ([wr18 rows i j o k b (rapp segs ([[I (wadd .i64 x 1),I v,I v,I d,I d,I 0,B false]])) c e l r v d a p O (rapp t ([[SV.clo f g]])) z,SL 1 u]) (λn=>ej8 n λE F G H J A K C a0 l3 L U V W X b2 M Y=>(Q ([B true,wr18 E F G H J A K v d [] L U V W X b2 M Y]))))))))))))) (Cl prog 88 sP [I 1] (λD=>ej2 D λs=>(ifB (bpick (seq s (bA [])) true (igt (wadd .i64 (rlen rows) 1) 64)) (Q ([B false,wr18 rows i j o k b segs c e l r v d a p O t z])) (Cl prog 141 (Sig.mk [] [Md.own,Md.pure]) ([I 1,cx3 v d []]) (λw=>ej7 w λu x=>(ifB (ine x 0) (Q ([B false,wr18 rows i j o k b segs c e l r v d a p O t z])) (Cl prog 142 sP [S s] (λy=>ej0 y λf g=>(((lsum (rlen t) (rlen ([[SV.clo f g]])))<=2147483648)/\((lsum (rlen segs) (rlen ([[I 1,I v,I v,I d,I d,I 0,B false]])))<=2147483648)/\Cl prog 140 sgP ([wr18 rows i j o k b (rapp segs ([[I 1,I v,I v,I d,I d,I 0,B false]])) c e l r v d a p O (rapp t ([[SV.clo f g]])) z,SL 1 u]) (λn=>ej8 n λE N m q P R K Z T l3 L F G J A H M C=>(Q ([B true,wr18 E N m q P R K v d [] L F G J A H M C]))))))))))))):Ct prog 75 sgW [wr18 rows i j o k b segs c e l r v d a p O t z] Q:=
 fN SgT SvT func75 h
def wrec_nf{rows:LL}{segs:LL}{C D g d:Int}{T:LL}{s E R:Int}{U V W:Int}(h:(Cl prog 138 sP ([cx3 k b l,ev7 s E R t U V W]) (λX=>ej6 X λv x Y Z x2=>(ifB (ine x2 0) (Q ([B false,wr18 rows i c o j z segs k b l r C D g d O T e])) (Cl prog 140 sgP ([wr18 rows i c o j z segs k b l r C D g d O T e,SL 1 v]) (λF=>ej8 F λl2 x3 x4 u x5 x6 a x7 x8 l4 l5 x9 G H J b1 l6 K=>((inR (wsub .i64 (rlen a) 1) a)/\(inR (wsub .i64 (rlen a) 1) a)/\ej5 (rget a (wsub .i64 (rlen a) 1)) λn m a0 p q A w=>((inR (wsub .i64 (rlen a) 1) (rset a (wsub .i64 (rlen a) 1) [I n,I m,I s,I p,I q,I A,B w]))/\ej5 (rget (rset a (wsub .i64 (rlen a) 1) [I n,I m,I s,I p,I q,I A,B w]) (wsub .i64 (rlen a) 1)) λL M N y a1 P b3=>(Q ([B true,wr18 l2 x3 x4 u x5 x6 (rset (rset a (wsub .i64 (rlen a) 1) [I n,I m,I s,I p,I q,I A,B w]) (wsub .i64 (rlen a) 1) [I L,I M,I N,I y,I E,I P,B b3]) x Y Z l5 x9 G H J b1 l6 K])))))))))/\Cl prog 138 sP ([cx3 k b l,ev7 s E R t U V W]) (λX=>ej6 X λv x Y Z x2=>(ifB (ine x2 0) (Q ([B false,wr18 rows i c o j z segs k b l r C D g d O T e])) (Cl prog 140 sgP ([wr18 rows i c o j z segs k b l r C D g d O T e,SL 1 v]) (λF=>ej8 F λl2 x3 x4 u x5 x6 a x7 x8 l4 l5 x9 G H J b1 l6 K=>((inR (wsub .i64 (rlen a) 1) a)/\(inR (wsub .i64 (rlen a) 1) a)/\ej5 (rget a (wsub .i64 (rlen a) 1)) λn m a0 p q A w=>((inR (wsub .i64 (rlen a) 1) (rset a (wsub .i64 (rlen a) 1) [I n,I m,I s,I p,I q,I A,B w]))/\ej5 (rget (rset a (wsub .i64 (rlen a) 1) [I n,I m,I s,I p,I q,I A,B w]) (wsub .i64 (rlen a) 1)) λL M N y a1 P b3=>(Q ([B true,wr18 l2 x3 x4 u x5 x6 (rset (rset a (wsub .i64 (rlen a) 1) [I n,I m,I s,I p,I q,I A,B w]) (wsub .i64 (rlen a) 1) [I L,I M,I N,I y,I E,I P,B b3]) x Y Z l5 x9 G H J b1 l6 K]))))))))):Ct prog 76 sgW [wr18 rows i c o j z segs k b l r C D g d O T e,ev7 s E R t U V W] Q:=
 fN SgT SvT func76 h
def jsync_nf(h:Q ([SV.clo 150 ([SV.ref 0 [S t]])])):Ct prog 87 {} [S t] Q:=
 fN SgT SvT func87 h
def Zyv(h:Q ([SV.clo 184 ([SV.ref 0 [S t]])])):Ct prog 116 {} [S t] Q:=
 fN SgT SvT func116 h
def jcut_nf(h:Q ([SV.clo 186 ([SV.ref 0 [S t],SV.ref 0 [I k]])])):Ct prog 118 {} [S t,I k] Q:=
 fN SgT SvT func118 h
def Zyw(h:Q ([SV.clo 206 ([SV.ref 0 [S t]])])):Ct prog 142 {} [S t] Q:=
 fN SgT SvT func142 h
def jwrite_nf(h:Q ([SV.clo 276 ([SV.ref 0 [S t],SV.ref 0 [SL 1 l]])])):Ct prog 205 {} [S t,SL 1 l] Q:=
 fN SgT SvT func205 h
def jsync1_nf{rows:LL}(h:Cl prog 151 sP ([dk4 rows c i o,S t]) (λe=>ej1 e λl x g b a=>(Q ([dk4 l x g b,I a])))):Ct prog 150 {} [dk4 rows c i o,.ref 0 [S t]] Q:=
 fN SgT SvT func150 h
def Ztk{rows:LL}(h:Cl prog 106 sP ([dk4 rows c i o,S t]) (λe=>ej1 e λl x g b a=>(Q ([dk4 l x g b,I a])))):Ct prog 184 {} [dk4 rows c i o,.ref 0 [S t]] Q:=
 fN SgT SvT func184 h
def jcut1_nf{rows:LL}(h:Cl prog 33 sP ([dk4 rows c i o,S t,I k]) (λe=>ej1 e λl x g b a=>(Q ([dk4 l x g b,I a])))):Ct prog 186 {} [dk4 rows c i o,.ref 0 [S t],.ref 0 [I k]] Q:=
 fN SgT SvT func186 h
def Ztl{rows:LL}(h:Cl prog 168 sP ([dk4 rows c i o,S t]) (λe=>ej1 e λl x g b a=>(Q ([dk4 l x g b,I a])))):Ct prog 206 {} [dk4 rows c i o,.ref 0 [S t]] Q:=
 fN SgT SvT func206 h
def Zyx{rows:LL}(h:Cl prog 169 sP ([dk4 rows c i o,S t,SL 1 l]) (λe=>ej1 e λbs x g b a=>(Q ([dk4 bs x g b,I a])))):Ct prog 276 {} [dk4 rows c i o,.ref 0 [S t],.ref 0 [SL 1 l]] Q:=
 fN SgT SvT func276 h
def Ztm{num bs g:Int}{s:LL}{a t q:Int}{m n:LL}{o:LL}{d p u:Int}(h:Q [B (bpick (bpick (bpick (ieq d 4) (ieq num (wadd .i64 a 1)) false) (ieq bs e) false) (ieq g z) false)]):Ct prog 181 {} [pt11 num bs g l r i j s k b c,pt11 a t q m n e z o d p u] Q:=
 fN SgT SvT func181 h
def jrows_nf{rows:LL}(h:Cl prog 107 sP ([dk4 rows e c o]) (λU=>ej9 U λl=>(∃j:LL->LL->Int->Prop,∃m:LL->LL->Int->Nat,(j [] [] 0)/\∀a d x,(j a d x)->ifB (ilt x (rlen l)) ((inR x l)/\ej2 (rget l x) λs=>(Cl prog 179 sP [S s] (λA=>ej10 A λy=>(ifB (ieq y 0) ((sm ([[SL 3 rows,I e,I c,B o]]))/\(j a d (wadd .i64 x 1))/\Nl (m a d (wadd .i64 x 1)) (m a d x)) (Cl prog 32 sP ([dk4 rows e c o,S s]) (λC=>ej7 C λt V=>(ifB (ine V 0) ((sm ([[SL 3 rows,I e,I c,B o]]))/\(j a d (wadd .i64 x 1))/\Nl (m a d (wadd .i64 x 1)) (m a d x)) (Cl prog 180 sP [SL 1 t] (λD=>ej11 D λW X Y Z l5 x6 x7 l6 x8 z=>((((0:Int)<=0)/\(0<=z)/\z<=(rlen t))/\Cl prog 180 sP [SL 1 (rsub t 0 z)] (λE=>ej11 E λi k n u v g p w q r=>(ifB (bpick (bpick (ieq (rlen d) 0) (ieq i y) false) (igt (rlen a) 0) false) ((inR (wsub .i64 (rlen a) 1) a)/\(inR (wsub .i64 (rlen a) 1) a)/\ej3 (rget a (wsub .i64 (rlen a) 1)) λF G H J K L M N O P R=>(Cl prog 181 sP ([pt11 i k n u v g p w q r (rlen t),pt11 F G H J K L M N O P R]) (λT=>ej4 T λb=>(ifB b (((lsum (rlen a) (rlen ([[I i,I k,I n,SL 1 u,SL 7 v,I g,I p,SL 1 w,I q,I r,I (rlen t)]])))<=2147483648)/\(sm ([[SL 3 rows,I e,I c,B o]]))/\(j (rapp a ([[I i,I k,I n,SL 1 u,SL 7 v,I g,I p,SL 1 w,I q,I r,I (rlen t)]])) d (wadd .i64 x 1))/\Nl (m (rapp a ([[I i,I k,I n,SL 1 u,SL 7 v,I g,I p,SL 1 w,I q,I r,I (rlen t)]])) d (wadd .i64 x 1)) (m a d x)) (((lsum (rlen d) (rlen ([[S s]])))<=2147483648)/\(sm ([[SL 3 rows,I e,I c,B o]]))/\(j a (rapp d ([[S s]])) (wadd .i64 x 1))/\Nl (m a (rapp d ([[S s]])) (wadd .i64 x 1)) (m a d x)))))) (ifB (bpick (ieq (rlen d) 0) (ieq i y) false) (((lsum (rlen a) (rlen ([[I i,I k,I n,SL 1 u,SL 7 v,I g,I p,SL 1 w,I q,I r,I (rlen t)]])))<=2147483648)/\(sm ([[SL 3 rows,I e,I c,B o]]))/\(j (rapp a ([[I i,I k,I n,SL 1 u,SL 7 v,I g,I p,SL 1 w,I q,I r,I (rlen t)]])) d (wadd .i64 x 1))/\Nl (m (rapp a ([[I i,I k,I n,SL 1 u,SL 7 v,I g,I p,SL 1 w,I q,I r,I (rlen t)]])) d (wadd .i64 x 1)) (m a d x)) (((lsum (rlen d) (rlen ([[S s]])))<=2147483648)/\(sm ([[SL 3 rows,I e,I c,B o]]))/\(j a (rapp d ([[S s]])) (wadd .i64 x 1))/\Nl (m a (rapp d ([[S s]])) (wadd .i64 x 1)) (m a d x))))))))))))))) (Q [SL 11 a,SL 1 d])))):Ct prog 112 {} [dk4 rows e c o] Q:=
 fN SgT SvT func112 h
def jlook_nf{rows:LL}(h:Cl prog 112 sP ([dk4 rows i j o]) (λH=>ej12 H λl n=>(Cl prog 113 sP ([dk4 rows i j o]) (λy=>ej13 y λp x q J=>(ifB (ieq J 0) (ifB (igt (rlen l) 0) ((inR (wsub .i64 (rlen l) 1) l)/\ej3 (rget l (wsub .i64 (rlen l) 1)) λr t K u L w M N O P z=>(ifB (ilt w x) (∃k:LL->Int->Prop,∃m:LL->Int->Nat,(k [] 0)/\∀d a,(k d a)->ifB (ilt a (rlen l)) ((inR a l)/\ej3 (rget l a) λe g A v R C D T E F G=>(Cl prog 88 sP [I e] (λc=>ej2 c λs=>(((lsum (rlen d) (rlen ([[S s]])))<=2147483648)/\(sm ([[SL 21 p,I x,I q],[SL 11 l,SL 1 n,I x,SL 21 p,I x,I q,B false],[SV.slice 11 [] 1,SV.slice 1 [] 1,I 0,SV.slice 21 [] 1,I 0,I 0,B false],[SL 3 rows,I i,I j,B o]]))/\(k (rapp d ([[S s]])) (wadd .i64 a 1))/\Nl (m (rapp d ([[S s]])) (wadd .i64 a 1)) (m d a))))) (((lsum (rlen d) (rlen n))<=2147483648)/\Cl prog 114 sP ([SL 11 [],st3 p x q]) (λc=>ej14 c λv e g b=>(Q ([fd7 [] (rapp d n) x v e g b]))))) (Cl prog 114 sP ([SL 11 l,st3 p x q]) (λc=>ej14 c λd a e b=>(Q ([fd7 l n x d a e b])))))) (Cl prog 114 sP ([SL 11 l,st3 p x q]) (λc=>ej14 c λu r t b=>(Q ([fd7 l n x u r t b]))))) (ifB (igt (rlen l) 0) ((inR (wsub .i64 (rlen l) 1) l)/\ej3 (rget l (wsub .i64 (rlen l) 1)) λr t K u L w M N O P z=>(ifB (ilt w 0) (∃k:LL->Int->Prop,∃m:LL->Int->Nat,(k [] 0)/\∀d a,(k d a)->ifB (ilt a (rlen l)) ((inR a l)/\ej3 (rget l a) λe g A v R C D T E F G=>(Cl prog 88 sP [I e] (λc=>ej2 c λs=>(((lsum (rlen d) (rlen ([[S s]])))<=2147483648)/\(sm ([[SL 21 p,I x,I q],[SL 11 l,SL 1 n,I 0,SV.slice 21 [] 1,I 0,I 0,B false],[SV.slice 11 [] 1,SV.slice 1 [] 1,I 0,SV.slice 21 [] 1,I 0,I 0,B false],[SL 3 rows,I i,I j,B o]]))/\(k (rapp d ([[S s]])) (wadd .i64 a 1))/\Nl (m (rapp d ([[S s]])) (wadd .i64 a 1)) (m d a))))) (((lsum (rlen d) (rlen n))<=2147483648)/\Cl prog 114 sP ([SL 11 [],st3 [] 0 0]) (λc=>ej14 c λv e g b=>(Q ([fd7 [] (rapp d n) 0 v e g b]))))) (Cl prog 114 sP ([SL 11 l,st3 [] 0 0]) (λc=>ej14 c λd a e b=>(Q ([fd7 l n 0 d a e b])))))) (Cl prog 114 sP ([SL 11 l,st3 [] 0 0]) (λc=>ej14 c λu r t b=>(Q ([fd7 l n 0 u r t b])))))))))):Ct prog 51 {} [dk4 rows i j o] Q:=
 fN SgT SvT func51 h
def jopen_nf{rows:LL}(h:Cl prog 46 sP ([dk4 rows i j o]) (λy=>ej4 y λb=>(ifB (bnot b) (Q ([jr16 rows i j o 0 0 [] 0 0 [] [] 0 0 0 0 false,I 1])) (Cl prog 50 sP ([SV.agg [I e,I k]]) (λa=>ej4 a λz=>(ifB (bnot z) (Q ([jr16 rows i j o 0 0 [] 0 0 [] [] 0 0 0 0 false,I 1])) (ifB o (Q ([jr16 rows i j o 0 0 [] 0 0 [] [] 0 0 0 0 false,I 16])) (Cl prog 51 sP ([dk4 rows i j o]) (λg=>ej15 g λl A x m d n c=>(ifB (bnot c) (Q ([jr16 rows i j o 0 0 [] 0 0 [] [] 0 0 0 0 false,I 11])) (Cl prog 53 sP ([fd7 l A x m d n c]) (λp=>ej9 p λC=>(Cl prog 52 sP ([dk4 rows i j o,SL 1 C]) (λq=>ej1 q λr s t b3 u=>(ifB (ine u 0) (Q ([jr16 r s t b3 0 0 [] 0 0 [] [] 0 0 0 0 false,I u])) (Cl prog 54 sP [SL 11 l] (λv=>ej16 v λD=>(Cl prog 55 sP [SL 11 l] (λw=>ej17 w λE F G=>(Q ([jr16 r s t b3 e k D E F G m d n d x false,I 0]))))))))))))))))))))):Ct prog 13 {} [dk4 rows i j o,.agg [I e,I k]] Q:=
 fN SgT SvT func13 h
def jright_nf{rows:LL}{segs:LL}{n u t g:Int}(h:Cl prog 50 sP ([SV.agg [I k,I b]]) (λR=>ej4 R λp=>(ifB (bnot p) (Q [B false]) (Cl prog 46 sP ([dk4 rows i j o]) (λv=>ej4 v λT=>(ifB (bpick (bnot T) true o) (Q [B false]) (Cl prog 51 sP ([dk4 rows i j o]) (λw=>ej15 w λs y x z A C D=>(ifB (bpick (bnot D) true (igt (rlen y) 0)) (Q [B false]) (∃q:Bool->Int->Prop,∃m:Bool->Int->Nat,(q false 0)/\∀b3 d,(q b3 d)->ifB (ilt d (rlen s)) ((inR d s)/\ej3 (rget s d) λE F W G H X Y Z x9 J K=>(ifB (igt K J) (Q [B false]) ((sm ([[SL 11 s,SL 1 y,I x,SL 21 z,I A,I C,B D],[SL 3 rows,I i,I j,B o,I k,I b,SL 7 segs,I c,I e,SL 1 l,SL 21 r,I n,I u,I t,I g,B O]]))/\(q b3 (wadd .i64 d 1))/\Nl (m b3 (wadd .i64 d 1)) (m b3 d)))) (Cl prog 54 sP [SL 11 s] (λL=>ej16 L λG=>(Cl prog 57 sP [SL 7 segs,SL 7 G] (λM=>ej4 M λU=>(ifB (bnot U) (Q [B false]) (Cl prog 55 sP [SL 11 s] (λN=>ej17 N λE F H=>(Cl prog 58 sP ([cx3 c e l,cx3 E F H]) (λa=>ej4 a λb5=>(ifB (bnot b5) (Q [B false]) (Cl prog 36 sP ([st3 r n u,st3 z A C]) (λP=>ej4 P λV=>(ifB (bpick (bnot V) true (ine g x)) (Q [B false]) (Q [B (bpick (ige t g) (ile t n) false)])))))))))))))))))))))))):Ct prog 17 {} [jr16 rows i j o k b segs c e l r n u t g O] Q:=
 fN SgT SvT func17 h
def Zyy{rows:LL}{segs:LL}{p d g a:Int}{es P R:Int}{U V W:Int}(h:Cl prog 68 sP ([jr16 rows c i o j k segs b e l r p d g a O]) (λrs=>ej10 rs λx=>(ifB (ine x 0) (Q ([jr16 rows c i o j k segs b e l r p d g a O,I x])) (Cl prog 69 sP ([st3 r p d,ev7 (wadd .i64 p 1) P R t U V W]) (λb0=>ej13 b0 λT x1 x2 x3=>(ifB (ine x3 0) (Q ([jr16 rows c i o j k segs b e l r p d g a O,I x3])) (ifB O (Q ([jr16 rows c i o j k segs b e l r p d g a O,I 13])) (Cl prog 70 sO [SL 7 segs] (λba=>ej16 ba λl1=>(∃az:Bool->LL->Int->Int->Bool->Int->Int->LL->Int->Int->LL->LL->Int->Int->Int->Int->Bool->LL->Int->Prop,∃m:Bool->LL->Int->Int->Bool->Int->Int->LL->Int->Int->LL->LL->Int->Int->Int->Int->Bool->LL->Int->Nat,(Cl prog 71 sP ([jr16 rows c i o j k segs b e l r p d g a O,ev7 (wadd .i64 p 1) P R t U V W]) (λu=>ej4 u λn=>(ifB n (Cl prog 72 sgW ([wr18 rows c i o j k l1 b e l r p d g a O [] 0]) (λv=>ej18 v λb1 l2 x4 x5 b2 x6 x7 l3 x8 x9 l4 l5 a8 a9 aa ab b3 l6 ac=>((sm ([[SL 3 rows,I c,I i,B o,I j,I k,SL 7 segs,I b,I e,SL 1 l,SL 21 r,I p,I d,I g,I a,B O],[I (wadd .i64 p 1),I P,I R,S t,I U,I V,I W],[SV.slice 3 [] 1,I 0,I 0,B false,I 0,I 0,SV.slice 7 [] 1,I 0,I 0,SV.slice 1 [] 1,SV.slice 21 [] 1,I 0,I 0,I 0,I 0,B false],[SL 21 T,I x1,I x2]]))/\az (bnot b1) l2 x4 x5 b2 x6 x7 l3 x8 x9 l4 l5 a8 a9 aa ab b3 l6 ac))) ((sm ([[SL 3 rows,I c,I i,B o,I j,I k,SL 7 segs,I b,I e,SL 1 l,SL 21 r,I p,I d,I g,I a,B O],[I (wadd .i64 p 1),I P,I R,S t,I U,I V,I W],[SV.slice 3 [] 1,I 0,I 0,B false,I 0,I 0,SV.slice 7 [] 1,I 0,I 0,SV.slice 1 [] 1,SV.slice 21 [] 1,I 0,I 0,I 0,I 0,B false],[SL 21 T,I x1,I x2]]))/\az false rows c i o j k l1 b e l r p d g a O [] 0))))/\∀n l2,∀x4 x5,∀b1 x6,∀x7 l3,∀x8 x9,∀l4 l5,∀a8 a9,∀aa ab,∀b2 l6 ac,(az n l2 x4 x5 b1 x6 x7 l3 x8 x9 l4 l5 a8 a9 aa ab b2 l6 ac)->ifB n (Cl prog 73 sP ([jr16 rows c i o j k segs b e l r p d g a O]) (λu=>ej19 u λl7 w y b3 z A l8 C D l9 E F G H J b4 K=>(Q ([jr16 l7 w y b3 z A l8 C D l9 E F G H J b4,I K])))) (∃a7:Bool->LL->Int->Int->Bool->Int->Int->LL->Int->Int->LL->LL->Int->Int->Int->Int->Bool->LL->Int->Prop,∃m1:Bool->LL->Int->Int->Bool->Int->Int->LL->Int->Int->LL->LL->Int->Int->Int->Int->Bool->LL->Int->Nat,(Cl prog 74 sgW ([wr18 l2 x4 x5 b1 x6 x7 l3 x8 x9 l4 l5 a8 a9 aa ab b2 l6 ac]) (λu=>ej18 u λb3 l7 w y b4 z A l8 C D l9 E F G H J b5 X K=>(ifB (bnot b3) (Cl prog 75 sgW ([wr18 l7 w y b4 z A l8 C D l9 E F G H J b5 X K]) (λv=>ej18 v λb6 ad ae af b7 Y Z a0 a1 a2 a3 ag ah ai a4 a5 b8 aj a6=>((sm ([[SL 3 rows,I c,I i,B o,I j,I k,SL 7 segs,I b,I e,SL 1 l,SL 21 r,I p,I d,I g,I a,B O],[I (wadd .i64 p 1),I P,I R,S t,I U,I V,I W],[SV.slice 3 [] 1,I 0,I 0,B false,I 0,I 0,SV.slice 7 [] 1,I 0,I 0,SV.slice 1 [] 1,SV.slice 21 [] 1,I 0,I 0,I 0,I 0,B false],[SL 21 T,I x1,I x2]]))/\a7 (bnot b6) ad ae af b7 Y Z a0 a1 a2 a3 ag ah ai a4 a5 b8 aj a6))) ((sm ([[SL 3 rows,I c,I i,B o,I j,I k,SL 7 segs,I b,I e,SL 1 l,SL 21 r,I p,I d,I g,I a,B O],[I (wadd .i64 p 1),I P,I R,S t,I U,I V,I W],[SV.slice 3 [] 1,I 0,I 0,B false,I 0,I 0,SV.slice 7 [] 1,I 0,I 0,SV.slice 1 [] 1,SV.slice 21 [] 1,I 0,I 0,I 0,I 0,B false],[SL 21 T,I x1,I x2]]))/\a7 false l7 w y b4 z A l8 C D l9 E F G H J b5 X K))))/\∀b3 l7,∀w y,∀b4 z,∀A l8,∀C D,∀l9 E,∀F G,∀H J,∀b5 X K,(a7 b3 l7 w y b4 z A l8 C D l9 E F G H J b5 X K)->ifB b3 (Cl prog 73 sP ([jr16 rows c i o j k segs b e l r p d g a O]) (λu=>ej19 u λad ae af b6 Y Z a0 a1 a2 a3 ag ah ai a4 a5 b7 a6=>(Q ([jr16 ad ae af b6 Y Z a0 a1 a2 a3 ag ah ai a4 a5 b7,I a6])))) (Cl prog 76 sgW ([wr18 l7 w y b4 z A l8 C D l9 E F G H J b5 X K,ev7 (wadd .i64 p 1) P R t U V W]) (λu=>ej18 u λb6 ad ae af b7 Y Z a0 a1 a2 a3 ag ah ai a4 a5 b8 aj a6=>(ifB (bnot b6) (Cl prog 73 sP ([jr16 rows c i o j k segs b e l r p d g a O]) (λv=>ej19 v λL ak M b9 N s al am an ao ap aq ar au av aw ax=>(Q ([jr16 L ak M b9 N s al am an ao ap aq ar au av aw,I ax])))) (Cl prog 77 sP ([dk4 rows c i o]) (λv=>ej10 v λak=>(ifB (igt (wadd .i64 ak a6) c) (Cl prog 73 sP ([jr16 rows c i o j k segs b e l r p d g a O]) (λay=>ej19 ay λL M N b9 s am al an aq ao ap ar au av ax aw bb=>(Q ([jr16 L M N b9 s am al an aq ao ap ar au av ax aw,I bb])))) (Cl prog 52 sP ([dk4 rows c i o,SL 1 aj]) (λay=>ej1 ay λL M N b9 s=>(ifB (ine s 0) (Q ([jr16 L M N b9 j k segs b e l r p d g a O,I s])) (Q ([jr16 L M N b9 Y Z a0 a1 a2 a3 T x1 x2 a4 a5 b8,I 0])))))))))))))))))))))):Ct prog 20 {} [jr16 rows c i o j k segs b e l r p d g a O,ev7 es P R t U V W] Q:=
 fO SgT SvT (λq=>bif Nat.beq q 1000012 then some {slots:=[(49,false,[.bool])],boxes:=[(1152,[.sl 3,.int .i64,.int .i64,.bool,.int .i64,.int .i64,.own 7,.int .i64,.int .i64,.sl 1,.sl 21,.int .i64,.int .i64,.int .i64,.int .i64,.bool,.own 1,.int .i64])],fixed:=[256,384,512,896]}else bif Nat.beq q 1000014 then some {slots:=[(59,false,[.bool])],boxes:=[(1152,[.sl 3,.int .i64,.int .i64,.bool,.int .i64,.int .i64,.own 7,.int .i64,.int .i64,.sl 1,.sl 21,.int .i64,.int .i64,.int .i64,.int .i64,.bool,.own 1,.int .i64])],fixed:=[256,384,512,896]}else none) func20 h
def jsyn_nf{rows:LL}{segs:LL}{y z a v:Int}(h:Cl prog 68 sP ([jr16 rows c i o j k segs b e l r y z a v O]) (λL=>ej10 L λx=>(ifB (ine x 0) (Q ([jr16 rows c i o j k segs b e l r y z a v O,I x])) (ifB (igt (rlen segs) 0) ((inR (wsub .i64 (rlen segs) 1) segs)/\ej5 (rget segs (wsub .i64 (rlen segs) 1)) λP R T U V W u=>(ifB (bnot u) (∃C:Int->LL->Int->Int->Bool->Prop,∃m:Int->LL->Int->Int->Bool->Nat,((inR (wsub .i64 (rlen segs) 1) segs)/\ej5 (rget segs (wsub .i64 (rlen segs) 1)) λF H J M N g K=>((Cl prog 88 sP [I F] (λG=>ej2 G λs=>((Cl prog 87 sP [S s] (λE=>ej0 E λf A=>(((Cl prog 52 sP ([dk4 rows c i o,SL 1 ([[SV.clo f A]])]) (λn=>ej1 n λw d p D q=>((sm ([[SL 3 rows,I c,I i,B o,I j,I k,SL 7 segs,I b,I e,SL 1 l,SL 21 r,I y,I z,I a,I v,B O],[SV.slice 3 [] 1,I 0,I 0,B false,I 0,I 0,SV.slice 7 [] 1,I 0,I 0,SV.slice 1 [] 1,SV.slice 21 [] 1,I 0,I 0,I 0,I 0,B false]]))/\C q w d p D)))/\Cl prog 52 sP ([dk4 rows c i o,SL 1 ([[SV.clo f A]])]) (λn=>ej1 n λw d p D q=>((sm ([[SL 3 rows,I c,I i,B o,I j,I k,SL 7 segs,I b,I e,SL 1 l,SL 21 r,I y,I z,I a,I v,B O],[SV.slice 3 [] 1,I 0,I 0,B false,I 0,I 0,SV.slice 7 [] 1,I 0,I 0,SV.slice 1 [] 1,SV.slice 21 [] 1,I 0,I 0,I 0,I 0,B false]]))/\C q w d p D)))/\Cl prog 52 sP ([dk4 rows c i o,SL 1 ([[SV.clo f A]])]) (λn=>ej1 n λw d p D q=>((sm ([[SL 3 rows,I c,I i,B o,I j,I k,SL 7 segs,I b,I e,SL 1 l,SL 21 r,I y,I z,I a,I v,B O],[SV.slice 3 [] 1,I 0,I 0,B false,I 0,I 0,SV.slice 7 [] 1,I 0,I 0,SV.slice 1 [] 1,SV.slice 21 [] 1,I 0,I 0,I 0,I 0,B false]]))/\C q w d p D)))))/\Cl prog 87 sP [S s] (λE=>ej0 E λf A=>(Cl prog 52 sP ([dk4 rows c i o,SL 1 ([[SV.clo f A]])]) (λn=>ej1 n λw d p D q=>((sm ([[SL 3 rows,I c,I i,B o,I j,I k,SL 7 segs,I b,I e,SL 1 l,SL 21 r,I y,I z,I a,I v,B O],[SV.slice 3 [] 1,I 0,I 0,B false,I 0,I 0,SV.slice 7 [] 1,I 0,I 0,SV.slice 1 [] 1,SV.slice 21 [] 1,I 0,I 0,I 0,I 0,B false]]))/\C q w d p D)))))))/\Cl prog 88 sP [I F] (λG=>ej2 G λs=>(Cl prog 87 sP [S s] (λE=>ej0 E λf A=>(Cl prog 52 sP ([dk4 rows c i o,SL 1 ([[SV.clo f A]])]) (λn=>ej1 n λw d p D q=>((sm ([[SL 3 rows,I c,I i,B o,I j,I k,SL 7 segs,I b,I e,SL 1 l,SL 21 r,I y,I z,I a,I v,B O],[SV.slice 3 [] 1,I 0,I 0,B false,I 0,I 0,SV.slice 7 [] 1,I 0,I 0,SV.slice 1 [] 1,SV.slice 21 [] 1,I 0,I 0,I 0,I 0,B false]]))/\C q w d p D))))))))/\∀F w,∀H J K,(C F w H J K)->ifB (ine F 0) (Q ([jr16 w H J K j k segs b e l r y z a v O,I F])) (Q ([jr16 w H J K j k segs b e l r y z y v O,I 0]))) (Q ([jr16 rows c i o j k segs b e l r y z y v O,I 0])))) (Q ([jr16 rows c i o j k segs b e l r y z y v O,I 0])))))):Ct prog 22 {} [jr16 rows c i o j k segs b e l r y z a v O] Q:=
 fO SgT SvT (λt=>bif Nat.beq t 1000006 then some {slots:=[(7,false,[.int .i64])],boxes:=[(768,[.sl 3,.int .i64,.int .i64,.bool])],fixed:=[128,256],ptrs:=[(6,768)]}else none) func22 h
def Zyz{rows:LL}{segs:LL}{u v t g:Int}(h:Cl prog 17 sP ([jr16 rows c i o j k segs b e l r u v t g O]) (λz=>ej4 z λq=>(ifB (bnot q) (Q ([SL 7 []])) (Cl prog 51 sP ([dk4 rows c i o]) (λy=>ej15 y λs D x E F G H=>(∃n:LL->Int->Prop,∃m:LL->Int->Nat,(n [] 0)/\∀p d,(n p d)->ifB (ilt d (rlen s)) ((inR d s)/\ej3 (rget s d) λJ K L M w N a P R A C=>(((lsum (rlen p) (rlen w))<=2147483648)/\(sm ([[SL 3 rows,I c,I i,B o,I j,I k,SL 7 segs,I b,I e,SL 1 l,SL 21 r,I u,I v,I t,I g,B O]]))/\(n (rapp p w) (wadd .i64 d 1))/\Nl (m (rapp p w) (wadd .i64 d 1)) (m p d))) (Q [SL 7 p]))))))):Ct prog 15 {} [jr16 rows c i o j k segs b e l r u v t g O] Q:=
 fN SgT SvT func15 h
def jnum_nf(h:Cl prog 178 sP ([S t,S (bA [115,101,103,46])]) (λe=>ej20 e λs b=>(ifB (bpick (bnot b) true (ine (slen s) 8)) (Q [I 0]) (Cl prog 253 sP [S s,I 10,I 64] (λc=>∃x g,ifB g ((c=[I x,SV.val Value.nilIface])/\(isIfc (SV.val Value.nilIface)=true)/\ifB (bpick (Bool.rec true false (Zh6 (SV.val Value.nilIface))) true (ilt x 1)) (Q [I 0]) (Cl prog 88 sP [I x] (λa=>ej2 a λd=>(ifB (sne d t) (Q [I 0]) (Q [I x]))))) (∃i,(c=[I x,SV.ifc i SV.unk])/\(isIfc (SV.ifc i SV.unk)=true)/\ifB (bpick (Bool.rec true false (Zh6 (SV.ifc i SV.unk))) true (ilt x 1)) (Q [I 0]) (Cl prog 88 sP [I x] (λa=>ej2 a λd=>(ifB (sne d t) (Q [I 0]) (Q [I x])))))))))):Ct prog 179 {} [S t] Q:=
 fN SgT SvT func179 h
def Zy0{row:LL}(h:ifB (ieq (rlen row) 0) (Q ([st3 l i j,B true])) ((inR 0 row)/\ej3 (rget row 0) λx T W E X Y Z l2 x5 x6 x7=>(ifB (igt T i) (Q ([st3 l i j,B false])) (∃A:Int->LL->Int->Int->Prop,∃m:Int->LL->Int->Int->Nat,(A 0 l i j)/\∀n C,∀D e,(A n C D e)->ifB (ilt n (rlen row)) ((inR n row)/\ej3 (rget row n) λr o t H a p q J u v w=>(ifB (ine (rlen a) (wsub .i64 p o)) (Q ([st3 C D e,B false])) (∃g:Int->LL->Int->Int->Prop,∃F:Int->LL->Int->Int->Nat,(g 0 C D e)/\∀b s,∀c d,(g b s c d)->ifB (ilt b (rlen a)) ((inR b a)/\ej21 (rget a b) λG L M U N O P=>(ifB (ile G i) ((sm ([[SV.slice 21 [] 1,I 0,I 0],[I r,I o,I t,SL 1 H,SL 7 a,I p,I q,SL 1 J,I u,I v,I w]]))/\(g (wadd .i64 b 1) s c d)/\Nl (F (wadd .i64 b 1) s c d) (F b s c d)) (Cl prog 69 sP ([st3 s c d,ev7 G L M U N O P]) (λV=>ej13 V λK y z R=>(ifB (ine R 0) (Q ([st3 K y z,B false])) ((sm ([[SV.slice 21 [] 1,I 0,I 0],[I r,I o,I t,SL 1 H,SL 7 a,I p,I q,SL 1 J,I u,I v,I w]]))/\(g (wadd .i64 b 1) K y z)/\Nl (F (wadd .i64 b 1) K y z) (F b s c d))))))) ((sm ([[SV.slice 21 [] 1,I 0,I 0]]))/\(A (wadd .i64 n 1) s c d)/\Nl (m (wadd .i64 n 1) s c d) (m n C D e))))) ((inR (wsub .i64 (rlen row) 1) row)/\ej3 (rget row (wsub .i64 (rlen row) 1)) λr o t H a p q J u v w=>(Q ([st3 C D e,B (ieq q e)]))))))):Ct prog 114 {} [SL 11 row,st3 l i j] Q:=
 fO SgT SvT (λk=>bif Nat.beq k 30 then some {slots:=[(29,false,[.int .i64])],boxes:=[(384,[.sl 21,.int .i64,.int .i64])],fixed:=[512]}else bif Nat.beq k 53 then some {slots:=[(52,false,[.int .i64])],boxes:=[(384,[.sl 21,.int .i64,.int .i64])],fixed:=[512,1024]}else none) func114 h
def segeq_nf(h:ifB (ine (rlen l) (rlen r)) (Q [B false]) (∃c:Bool->Int->Prop,∃m:Bool->Int->Nat,(c false 0)/\∀d x,(c d x)->ifB (ilt x (rlen l)) ((inR x l)/\ej5 (rget l x) λj k a n o p q=>((inR x r)/\ej5 (rget r x) λb s t e g i b3=>(ifB (bnot (band (ieq j b) (band (ieq k s) (band (ieq a t) (band (ieq n e) (band (ieq o g) (band (ieq p i) (band (beqB q b3) true)))))))) (Q [B false]) (((Option.some []:Option LL)=Option.some [])/\(c d (wadd .i64 x 1))/\Nl (m d (wadd .i64 x 1)) (m d x))))) (Q [B true]))):Ct prog 57 {} [SL 7 l,SL 7 r] Q:=
 fN SgT SvT func57 h
def streq_nf(h:ifB (ine (rlen l) (rlen r)) (Q [B false]) (∃c:Bool->Int->Prop,∃m:Bool->Int->Nat,(c false 0)/\∀d x,(c d x)->ifB (ilt x (rlen l)) ((inR x l)/\ej2 (rget l x) λs=>((inR x r)/\ej2 (rget r x) λe=>(ifB (sne s e) (Q [B false]) (((Option.some []:Option LL)=Option.some [])/\(c d (wadd .i64 x 1))/\Nl (m d (wadd .i64 x 1)) (m d x))))) (Q [B true]))):Ct prog 120 {} [SL 1 l,SL 1 r] Q:=
 fN SgT SvT func120 h
def segcl_nf(h:∀b,((b=true)->rlen l=0)->ifB b (Q ([SL 7 []])) (((lsum (rlen []) (rlen l))<=2147483648)/\Q ([SL 7 (rapp [] l)]))):Ct prog 70 ⟨[],[.own]⟩ [SL 7 l] Q:=
 fN SgT SvT func70 h
def backs_nf(h:Q ([SV.clo 183 ([SV.ref 0 [SL 1 l]])])):Ct prog 115 {} [SL 1 l] Q:=
 fN SgT SvT func115 h
def backp_nf(h:Q ([SV.clo 185 ([SV.ref 0 [SL 11 l]])])):Ct prog 117 {} [SL 11 l] Q:=
 fN SgT SvT func117 h
def jshut_nf{rows:LL}{segs:LL}{a p d m:Int}(h:Q ([jr16 rows b i o k j segs c e l r a p d m true,I 13])):Ct prog 73 {} [jr16 rows b i o k j segs c e l r a p d m O] Q:=
 fN SgT SvT func73 h
end Jou
namespace Jou
open Go Go.Px Go.Proofs Cod Seg Sgr Snp Sx Row Dsk Tryz
def inM{a:Type}(g:a->List SV){l:List a}(b:0<=i)(h:i<l.length):inR i (l.map g):=⟨b,by simpa using h⟩
def Stp.row:Stp->List SV
 | .cre s=>[.clo 206 [.ref 0 [S s]]]
 | .wri s x=>[.clo 276 [.ref 0 [S s],.ref 0 [SL 1 (uR x)]]]
 | .syn s=>[.clo 150 [.ref 0 [S s]]]
 | .rem s=>[.clo 184 [.ref 0 [S s]]]
 | .cut s n=>[.clo 186 [.ref 0 [S s],.ref 0 [I n]]]
def Stp.ok:Stp->Prop
 | .wri s x=>x.length<=9223372036854775807
 |_=>True
abbrev tR(l:List Stp):LL:=l.map Stp.row
def Zvd{s:Stp}(h:d.ok):(s.run d).1.ok:=by
 have hst:(s.run d).1.st<=d.st:=by
  cases s
  .exact Zhl
  .exact Zhm
  .exact Zmd
  .exact Zhn
  .exact opCut_st
 by_cases hP:d.P
 .have a:(s.run d).1.P:=by
   cases s
   .exact Zgv hP
   .exact Zgw hP
   .exact Zin hP
   .exact Zgx hP
   .exact opCut_P hP
  obtain⟨b,c,e,f⟩:=a;exact⟨Vo,Vo,by have:=h.2.2;omega⟩
 .have:(s.run d).1=d:=by
   cases s<;>simp only[Stp.run,Za3,Zap,Zat,Zae,opCut,DiD.er,if_neg hP]<;>rfl
  rw[this];exact h
def run_fn(s:Stp)(b:s.ok)(d:DiD)(h:d.ok):∃f a,s.row=[.clo f a]/\Ct prog f {} (d.sv::a) (λr=>r=[(s.run d).1.sv,I (s.run d).2]):=by
 cases s with
 |cre s=>exact⟨_,_,rfl,Ztl (Cl.of (Znh d h s) ⟨_,_,_,_,_,rfl,rfl⟩)⟩
 |wri s x=>exact⟨_,_,rfl,Zyx (Cl.of (Zni d h s x b) ⟨_,_,_,_,_,rfl,rfl⟩)⟩
 |syn s=>exact⟨_,_,rfl,jsync1_nf (Cl.of (Zu4 d h s) ⟨_,_,_,_,_,rfl,rfl⟩)⟩
 |rem s=>exact⟨_,_,rfl,Ztk (Cl.of (Zgp d h s) ⟨_,_,_,_,_,rfl,rfl⟩)⟩
 |cut s n=>exact⟨_,_,rfl,jcut1_nf (Cl.of (dcut_fn d h s n) ⟨_,_,_,_,_,rfl,rfl⟩)⟩
def Zs0(d:DiD)(o:d.ok)(c:List Stp)(p:∀s∈c,s.ok)(t:c.length<=1000000):Ct prog 52 {} [d.sv,SL 1 (tR c)] (λr=>r=[(runP d c).1.sv,I (runP d c).2]):=by
 refine jrun_nf ⟨λx l k m b=>∃g:DiD,g.ok/\l=fR g.fs/\k=g.rm/\m=g.st/\b=g.dn/\0<=x/\x<=c.length/\runP g (c.drop x.toNat)=runP d c,λx _ _ _ _=>(c.length-x).toNat,⟨d,o,rfl,rfl,rfl,rfl,Vo,Vo,Vs⟩,?_⟩;rintro x l k m b ⟨g,hd',rfl,rfl,rfl,rfl,x0,hx,he⟩;have n:rlen (tR c)=c.length:=Vs;rw[n];refine Zaa (λh=>?_) (λh=>?_)
 .simp at h;have j:x.toNat<c.length:=Vo;rw[List.drop_eq_getElem_cons j,runP]at he;obtain⟨f,q,e1,e2⟩:=run_fn c[x.toNat] (p _ (List.getElem_mem j)) g hd';refine⟨inM _ x0 h,f,q,(Zba _ _ _ x0 h).trans e1,Cl.of e2 ⟨_,_,_,_,_,rfl,Zaa (λi=>?_) (λi=>⟨rfl,?_,?_⟩)⟩⟩
  .simp at i;rw[if_pos i]at he;rw[<-he]
  .simp at i;rw[if_neg (by simpa using i)]at he;rw[Zab];exact⟨_,Zvd hd',rfl,rfl,rfl,rfl,Vo,Vo,by rw[show(x+1).toNat=x.toNat+1 by omega];exact he⟩
  .rw[Zab];exact mlt (by first|omega|(dsimp only;omega))
 .simp at h;have e:x.toNat=c.length:=Vo;rw[e,List.drop_length,runP]at he;rw[<-he]
def SgD.row(p:SgD):List SV:=[I p.num,I p.fi,I p.la,I p.fr,I p.ti,I p.sz,B p.sl]
abbrev sgR(l:List SgD):LL:=l.map SgD.row
abbrev CxD.sv(c:CxD):SV:=cx3 c.s c.a (nR c.m)
def ptRow(p:Pt):List SV:=[I p.d.num,I p.d.bs,I p.d.ba,SL 1 [],SL 7 (evR p.d.ev),I p.d.s,I p.d.a,SL 1 (nR p.d.m),I (endW 1 p.d.sl),I ((segL p.d).length:Nat),I (p.n:Nat)]
abbrev ptR(l:List Pt):LL:=l.map ptRow
def Znn(b:Bool):decide (endW 1 b=4)=b:=by cases b<;>rfl
def Zf2{l:List Pt}(h:n<l.length):rget (ptR l) (n:Int)=ptRow l[n]:=by simp[rget,h]
def Zve(r:List Pt)(d:r.length<=1000000):Ct prog 54 {} [SL 11 (ptR r)] (λx=>x=[SL 7 (sgR (r.map sgOf))]):=by
 refine jsegs_nf ⟨λl x=>0<=x/\x<=r.length/\l=sgR ((r.take x.toNat).map sgOf),λ_ x=>(r.length-x).toNat,⟨Vo,Vo,Vs⟩,?_⟩;rintro l x ⟨x0,hx,rfl⟩;have a:rlen (ptR r)=r.length:=Vs;rw[a];refine Zaa (λh=>?_) (λh=>?_)
 .simp at h;have b:x.toNat<r.length:=Vo;have c:r.take (x+1).toNat=r.take x.toNat++[r[x.toNat]]:=(by rw[show(x+1).toNat=x.toNat+1 by omega,List.take_succ_eq_append_getElem b]);refine⟨inM _ x0 h,_,_,_,_,_,_,_,_,_,_,_,Zba ptRow r x x0 h,?_,rfl,?_,?_⟩
  .simp;omega
  .rw[Zab];refine⟨Vo,Vo,?_⟩;rw[c];simp only[List.map_append,List.map_cons,List.map_nil,rapp,sgOf,SgD.row,ieq_eq,Znn]
  .rw[Zab];exact mlt (by first|omega|(dsimp only;omega))
 .simp at h;have e:x.toNat=r.length:=Vo;rw[e,Yg]
def Zqu(r:List Pt)(g:r.length<=1000000):Ct prog 55 {} [SL 11 (ptR r)] (λx=>x=[(Zbc r).sv]):=by
 refine jahead_nf ?_;have c:rlen (ptR r)=r.length:=Vs;rw[c];refine Zaa (λh=>?_) (λh=>?_)
 .simp at h;subst h;rfl
 .simp at h;have i:0<r.length:=Wz.2 h;have b:r.length-1<r.length:=Vo;have e:wsub IntKind.i64 (r.length:Int) 1=((r.length-1:Nat):Int):=by rw[Zar];omega
  have f:r.getLast?=some r[r.length-1]:=(by rw[List.getLast?_eq_getElem?];simp[b]);rw[e];refine⟨inM _ Vo Vo,_,_,_,_,_,_,_,_,_,_,_,Zf2 b,Zaa (λa=>?_) (λa=>⟨inM _ Vo Vo,_,_,_,_,_,_,_,_,_,_,_,Zf2 b,?_⟩)⟩
  .have a:r[r.length-1].d.sl=true:=(by rw[<-Znn r[r.length-1].d.sl];simpa using a);unfold Zbc;rw[f];simp[a]
  .have a:r[r.length-1].d.sl=false:=(by rw[<-Znn r[r.length-1].d.sl];simpa using a);unfold Zbc;rw[f];simp[a]
def Zqv(b a:Int):Ct prog 50 {} [.agg [I b,I a]] (λr=>r=[B (decide (mayC b a))]):=by
 refine jmaybe_nf ?_;congr 3;unfold mayC;simp;by_cases h1:64<=b<;>by_cases h2:b<=65536<;>by_cases h3:1<=a<;>by_cases h4:a<=1099511627776<;>simp[h1,h2,h3,h4]
end Jou
end Go.Proofs.YtgehiiginclniaaGreatDoor
namespace Go.Proofs
open Go.Shelf
def Tryz.laysC174_ren:Go.Shelf.Ren:=⟨λ|174=>253|247=>314|245=>315|287=>348|279=>349|280=>350|281=>351|282=>352|321=>361|322=>362|316=>363|171=>365|205=>364|243=>373|246=>222|283=>289|284=>290|285=>291|286=>292|129=>336|317=>335|318=>337|319=>338|320=>339|337=>358|338=>359|n=>n,λ|9=>9|3=>3|2=>2|75=>286|85=>315|4=>4|167=>400|5=>5|53=>219|175=>401|46=>250|168=>403|37=>72|0=>0|210=>413|21=>21|127=>350|145=>427|143=>425|171=>341|173=>344|212=>387|51=>310|20=>20|213=>388|232=>422|233=>423|80=>290|n=>n,λ|15=>2|16=>3|17=>0|18=>4|19=>5|n=>n⟩
def Tryz.laysC174:Go.Proofs.LaysC.n174 prog Tryz.laysC174_ren:={
 mixed:=Vk
 f129:=func336.trans (congrArg some Vk)
 f171:=func365.trans (congrArg some Vk)
 f174:=func253.trans (congrArg some Vk)
 f205:=func364.trans (congrArg some Vk)
 f243:=func373.trans (congrArg some Vk)
 f245:=func315.trans (congrArg some Vk)
 f246:=func222.trans (congrArg some Vk)
 f247:=func314.trans (congrArg some Vk)
 f279:=func349.trans (congrArg some Vk)
 f280:=func350.trans (congrArg some Vk)
 f281:=func351.trans (congrArg some Vk)
 f282:=func352.trans (congrArg some Vk)
 f283:=func289.trans (congrArg some Vk)
 f284:=func290.trans (congrArg some Vk)
 f285:=func291.trans (congrArg some Vk)
 f286:=func292.trans (congrArg some Vk)
 f287:=func348.trans (congrArg some Vk)
 f316:=func363.trans (congrArg some Vk)
 f317:=func335.trans (congrArg some Vk)
 f318:=func337.trans (congrArg some Vk)
 f319:=func338.trans (congrArg some Vk)
 f320:=func339.trans (congrArg some Vk)
 f321:=func361.trans (congrArg some Vk)
 f322:=func362.trans (congrArg some Vk)
 f337:=func358.trans (congrArg some Vk)
 f338:=func359.trans (congrArg some Vk)
 t0:=Tryz.underlying0
 a0:=Tryz.isAgg0
 z0:=Tryz.sizeOf0
 v0:=Tryz.zeroValue0
 t2:=Tryz.underlying2
 a2:=Tryz.isAgg2
 z2:=Tryz.sizeOf2
 v2:=Tryz.zeroValue2
 t3:=Tryz.underlying3
 a3:=Tryz.isAgg3
 z3:=Tryz.sizeOf3
 v3:=Tryz.zeroValue3
 t4:=Tryz.underlying4
 a4:=Tryz.isAgg4
 z4:=Tryz.sizeOf4
 v4:=Tryz.zeroValue4
 t5:=Tryz.underlying5
 a5:=Tryz.isAgg5
 z5:=Tryz.sizeOf5
 v5:=Tryz.zeroValue5
 t9:=Tryz.underlying9
 a9:=Tryz.isAgg9
 z9:=Tryz.sizeOf9
 v9:=Tryz.zeroValue9
 t20:=Tryz.underlying20
 a20:=Tryz.isAgg20
 z20:=Tryz.sizeOf20
 v20:=Tryz.zeroValue20
 t21:=Tryz.underlying21
 a21:=Tryz.isAgg21
 z21:=Tryz.sizeOf21
 v21:=Tryz.zeroValue21
 t37:=Tryz.underlying72
 a37:=Tryz.isAgg72
 z37:=Tryz.sizeOf72
 v37:=Tryz.zeroValue72
 t46:=Tryz.underlying250
 a46:=Tryz.isAgg250
 z46:=Tryz.sizeOf250
 v46:=Tryz.zeroValue250
 t51:=Tryz.underlying310
 a51:=Tryz.isAgg310
 z51:=Tryz.sizeOf310
 v51:=Tryz.zeroValue310
 t53:=Tryz.underlying219
 a53:=Tryz.isAgg219
 z53:=Tryz.sizeOf219
 v53:=Tryz.zeroValue219
 t75:=Tryz.underlying286
 a75:=Tryz.isAgg286
 z75:=Tryz.sizeOf286
 v75:=Tryz.zeroValue286
 t85:=Tryz.underlying315
 a85:=Tryz.isAgg315
 z85:=Tryz.sizeOf315
 v85:=Tryz.zeroValue315
 t127:=Tryz.underlying350
 a127:=Tryz.isAgg350
 z127:=Tryz.sizeOf350
 v127:=Tryz.zeroValue350
 t143:=Tryz.underlying425
 a143:=Tryz.isAgg425
 z143:=Tryz.sizeOf425
 v143:=Tryz.zeroValue425
 t145:=Tryz.underlying427
 a145:=Tryz.isAgg427
 z145:=Tryz.sizeOf427
 v145:=Tryz.zeroValue427
 t167:=Tryz.underlying400
 a167:=Tryz.isAgg400
 z167:=Tryz.sizeOf400
 v167:=Tryz.zeroValue400
 t168:=Tryz.underlying403
 a168:=Tryz.isAgg403
 z168:=Tryz.sizeOf403
 v168:=Tryz.zeroValue403
 t171:=Tryz.underlying341
 a171:=Tryz.isAgg341
 z171:=Tryz.sizeOf341
 v171:=Tryz.zeroValue341
 t173:=Tryz.underlying344
 a173:=Tryz.isAgg344
 z173:=Tryz.sizeOf344
 v173:=Tryz.zeroValue344
 t175:=Tryz.underlying401
 a175:=Tryz.isAgg401
 z175:=Tryz.sizeOf401
 v175:=Tryz.zeroValue401
 t210:=Tryz.underlying413
 a210:=Tryz.isAgg413
 z210:=Tryz.sizeOf413
 v210:=Tryz.zeroValue413
 t212:=Tryz.underlying387
 a212:=Tryz.isAgg387
 z212:=Tryz.sizeOf387
 v212:=Tryz.zeroValue387
 t213:=Tryz.underlying388
 a213:=Tryz.isAgg388
 z213:=Tryz.sizeOf388
 t232:=Tryz.underlying422
 a232:=Tryz.isAgg422
 z232:=Tryz.sizeOf422
 v232:=Tryz.zeroValue422
 t233:=Tryz.underlying423
 a233:=Tryz.isAgg423
 z233:=Tryz.sizeOf423
 v233:=Tryz.zeroValue423
 g15:=Vk
 g16:=Vk
 g17:=Vk
 g18:=Vk
 g19:=Vk
 t80:=Tryz.underlying290
 a80:=Tryz.isAgg290
 z80:=Tryz.sizeOf290
 v80:=Tryz.zeroValue290
 i0:=Vk
 i2:=Vk
 i3:=Vk
 i4:=Vk
 i5:=Vk
 i9:=Vk
 i20:=Vk
 i21:=Vk
 i37:=Vk
 i46:=Vk
 i51:=Vk
 i53:=Vk
 i75:=Vk
 i80:=Vk
 i85:=Vk
 i127:=Vk
 i143:=Vk
 i145:=Vk
 i167:=Vk
 i168:=Vk
 i171:=Vk
 i173:=Vk
 i175:=Vk
 i210:=Vk
 i212:=Vk
 i232:=Vk
 i233:=Vk
 m15:=Vk
 m16:=Vk
 m17:=Vk
 m18:=Vk
 m19:=Vk
 c0:=Vk
 c2:=Vk
 c3:=Vk
 c4:=Vk
 c5:=Vk
 c9:=Vk
 c20:=Vk
 c21:=Vk
 c37:=Vk
 c46:=Vk
 c51:=Vk
 c53:=Vk
 c75:=Vk
 c80:=Vk
 c85:=Vk
 c127:=Vk
 c143:=Vk
 c145:=Vk
 c167:=Vk
 c168:=Vk
 c171:=Vk
 c173:=Vk
 c175:=Vk
 c210:=Vk
 c212:=Vk
 c213:=Vk
 c232:=Vk
 c233:=by kernel_rfl}
open Go.RowKit in
def Tryz.strconv_ParseInt_10_at64_ok(s:BA)(a:s.size<=9223372036854775806)(v:Int)(h:Lib.parseIntB 64 s.data.toList= .ok v)(w:World):
  Calls prog 253 #[.string s,.int .i64 10,.int .i64 64] w λe b=>e= .returned (.tuple #[.int .i64 v,.nilIface])/\(b=w\/∃t,b=Lib.bytesWorld w 5 t):=Any.strconv_ParseInt_10_at64_ok Tryz.laysC174 s a v h w
open Go.RowKit in
def Tryz.strconv_ParseInt_10_at64_syntax_var(s:BA)(a:s.size<=281474976710656)(h:Lib.parseIntB 64 s.data.toList=Lib.parseIntB 64 [])(b:TypeId)(p:Value)(w:World)(c:w.var? prog "strconv.ErrSyntax" =some #[.iface b p]):
  Calls prog 253 #[.string s,.int .i64 10,.int .i64 64] w λe d=>∃N,e= .returned (.tuple #[.int .i64 (0),.iface 403 (.pointer (some ⟨N,0,none⟩))])/\w.heap.size<=N/\d.heap[N]?=some (.cells #[.string ⟨#[80,97,114,115,101,73,110,116]⟩,.string s,.iface b p] 413 (0,0))/\Below w.heap.size w d:=Any.strconv_ParseInt_10_at64_syntax_var Tryz.laysC174 s a h b p w c
open Go.RowKit in
def Tryz.strconv_ParseInt_10_at64_range_var(s:BA)(a:s.size<=281474976710656)(h:Lib.parseIntB 64 s.data.toList= .range)(b:TypeId)(p:Value)(w:World)(c:w.var? prog "strconv.ErrRange" =some #[.iface b p]):
  Calls prog 253 #[.string s,.int .i64 10,.int .i64 64] w λe d=>∃N,e= .returned (.tuple #[.int .i64 (Lib.intSat 64 s.data.toList),.iface 403 (.pointer (some ⟨N,0,none⟩))])/\w.heap.size<=N/\d.heap[N]?=some (.cells #[.string ⟨#[80,97,114,115,101,73,110,116]⟩,.string s,.iface b p] 413 (0,0))/\Below w.heap.size w d:=Any.strconv_ParseInt_10_at64_range_var Tryz.laysC174 s a h b p w c
end Go.Proofs
namespace Go.Proofs.YtgehiiginclniaaGreatDoor
namespace Jou
open Go Go.Px Go.Proofs Go.RowKit Tryz
def Zre{P:Program}{f:FuncId}{n:Func}(F:P.funcs[f]?=some n)(r:n.body.isSome=true)(A:(n.name== "runtime.NumGoroutine")=false)(g:List SV)(Q:List SV->Prop)
  (G:∀(h:Hp) (l:Nat->Px.Loc) (w:World) (p:Array Value),HSub h w->Gl h w->Zxh h l p.toList g->Calls P f p w λe q=>∃(d:List Value) (a:List SV),e= .returned (rets d)/\d.length=a.length/\
   (∀(i:Nat) v s,d[i]?=some v->a[i]?=some s->PRep h v s)/\Q a/\Below w.heap.size w q):Ct P f {} g Q:=by
 refine⟨⟨n,F,r,λe=>by rw[e]at A;simp at A⟩,λC H c h l w p D E t=>?_⟩;rw[Zbe]at c
 cases c
 refine(G h l w p D.sub E t).mono ?_;rintro e q ⟨d,a,rfl,hl,hp,hq,hbl⟩;have x:HSub h q:=Zjd D.sub (λb r=>hbl.block b r)
 have y:Px.Holds h l [] q:=⟨x,λid o m=>(by simp at m),λi j u=>by obtain⟨⟨o,e⟩,_⟩:=u;simp[oget]at e⟩
 have z:endH {} d.length a=some (a,[]):=by
  simp_all[Zbe,lentH,endH]
 exact⟨d,h,l,a,a,[],rfl,hq,z,⟨hl,λi v s J C=>.pure _ _ (hp i v s J C)⟩,y,λi u=>(by obtain⟨⟨o,e⟩,_⟩:=u;simp[oget]at e),⟨λi L m=>(by simp at m),λid m=>(by simp[Zb8]at m)⟩,HLe.refl h,λb _ _ o e=>e,
  ⟨hbl.os,hbl.tape,hbl.output,hbl.size,λk K _=>hbl.block k K⟩⟩
def arr_of{a:Array Value}{l:List Value}(h:a.toList=l):a=l.toArray:=by rw[<-h]
def err_is{h:Hp}{w:World}(b:HSub h w)(g:Gl h w){k:Nat}(a:(k,[SV.ifc 425 .unk])∈Zbn){n:String}(c:prog.globalNamed n=some k):∃p,w.var? prog n=some #[.iface 425 p]:=by
 obtain⟨_,j,t,l,d,i⟩:=g.size _ a;obtain⟨v,e,f⟩:=g.cells _ a 0 _ rfl;have m:=b _ _ _ e
 cases f with
 |ifc _ p _ _=>
  refine⟨p,?_⟩;unfold World.var?;rw[c];simp only[Option.bind_some,d];congr 1
  grind [World.cell?]
def PiR(s:BA)(r:List SV):Prop:=
 ∃(v:Int) (e:SV),r=[I v,e]/\((Lib.parseIntB 64 s.data.toList= .ok v/\e= .val .nilIface)\/((∀u,Lib.parseIntB 64 s.data.toList≠ .ok u)/\e= .ifc 403 .unk))
def pint_fn(s:BA)(j:s.size<=281474976710656):Ct prog 253 {} [S s,I 10,I 64] (PiR s):=by
 refine Zre func253 Vk Vk _ _ (λh o w l c d f=>?_);obtain rfl:l= #[.string s,.int .i64 10,.int .i64 64]:=arr_of (Zol l.toList [.string s,.int .i64 10,.int .i64 64] f)
 cases hp:Lib.parseIntB 64 s.data.toList with
 |ok v=>
  refine(Tryz.strconv_ParseInt_10_at64_ok s Vo v hp w).mono ?_;rintro e m ⟨rfl,hw⟩;refine⟨[.int .i64 v,.nilIface],[I v,.val .nilIface],rfl,rfl,?_,⟨v,_,rfl,.inl ⟨hp,rfl⟩⟩,?_⟩
  .intro i x y a b
   match i,a,b with
   |0,a,b=>cases a;cases b;exact .val _
   |1,a,b=>cases a;cases b;exact .val _
   |i+2,a,b=>simp at a
  .rcases hw with rfl|⟨t,rfl⟩
   .exact Below.refl _ _
   .exact Lib.bytesWorld_below _ _ _
 |range=>
  obtain⟨p,g⟩:=err_is c d (k:=3) (by simp[Zbn]) (n:= "strconv.ErrRange") Vk
  refine(Tryz.strconv_ParseInt_10_at64_range_var s j hp _ p w g).mono ?_;rintro e m ⟨N,rfl,_,_,hbl⟩;refine⟨[.int .i64 (Lib.intSat 64 s.data.toList),.iface 403 (.pointer (some ⟨N,0,none⟩))],[I (Lib.intSat 64 s.data.toList),.ifc 403 .unk],rfl,rfl,?_,⟨Lib.intSat 64 s.data.toList,_,rfl,.inr ⟨λu=>by rw[hp];simp,rfl⟩⟩,hbl⟩;intro i x y a b
  match i,a,b with
  |0,a,b=>cases a;cases b;exact .val _
  |1,a,b=>cases a;cases b;exact .ifc _ _ _ (.unk _)
  |i+2,a,b=>simp at a
 |_=>
  obtain⟨p,g⟩:=err_is c d (k:=2) (by simp[Zbn]) (n:= "strconv.ErrSyntax") Vk
  refine(Tryz.strconv_ParseInt_10_at64_syntax_var s j hp _ p w g).mono ?_;rintro e m ⟨N,rfl,_,_,hbl⟩;refine⟨[.int .i64 0,.iface 403 (.pointer (some ⟨N,0,none⟩))],[I 0,.ifc 403 .unk],rfl,rfl,?_,⟨0,_,rfl,.inr ⟨λu=>by rw[hp];simp,rfl⟩⟩,hbl⟩;intro i x y a b
  match i,a,b with
  |0,a,b=>cases a;cases b;exact .val _
  |1,a,b=>cases a;cases b;exact .ifc _ _ _ (.unk _)
  |i+2,a,b=>simp at a
end Jou
namespace Jou
open Go Go.Px Go.Proofs Cod Seg Sgr Snp Sx Row Dsk Tryz
def Znx:∀(l:List UInt8) (j a:Nat),(∀c∈l,isD c)->a<10^j->j+l.length<=8->Lib.parseUintM (2^64-1) a l= .ok (l.foldl (λn c=>10*n+(c.toNat-48)) a)
 | [],_,_,_,_,_=>rfl
 |c::l,j,a,h,ha,hj=>by have b:=h c Vs;unfold isD at b;simp only[List.length_cons]at hj;have f:(10:Nat)^(j+1)<=10^8:=Nat.pow_le_pow_right Vo Vo;have g:(10:Nat)^(j+1)=10^j*10:=Nat.pow_succ ..;have i:(10:Nat)^8=100000000:=rfl;rw[Lib.parseUintM,if_pos b,if_neg Vo,if_neg Vo];have:=Znx l (j+1) (a*10+(c.toNat-48)) (λd e=>h d (by simp[e])) Vo Vo;rw[this,List.foldl_cons,show 10*a+(c.toNat-48)=a*10+(c.toNat-48) by omega]
def parse8{l:List UInt8}(h:∀c∈l,isD c)(a:l.length=8):Lib.parseIntB 64 l= .ok ((vD l:Nat):Int):=by
 have b:=Znx l 0 0 h Vs Vo;have d:=vD_lt l h;rw[a]at d
 cases l with
 |nil=>simp at a
 |cons c r=>
  have f:=h c Vs;unfold isD at f;have e:Lib.parseUintB 64 (c::r)= .ok (vD (c::r)):=(by unfold Lib.parseUintB;rw[if_neg Vs];exact b);unfold Lib.parseIntB
  dsimp only
  rw[if_neg Vo,e]
  dsimp only
  rw[if_neg Vo,if_neg Vo,if_neg Vo]
def Zpo{s:BA}(h:numS s≠0):s.data.toList.take 4=spre/\(s.data.toList.drop 4).length=8/\(∀c∈s.data.toList.drop 4,isD c)/\((vD (s.data.toList.drop 4):Nat):Int)=numS s:=by
 obtain⟨b,d⟩:=Zdb h;have e:s.data.toList=spre++dgs 8 (numS s).toNat:=(by rw[<-Zch,<-d]);rw[e];refine⟨rfl,by simp[Zcv],λc a=>Zp4 _ _ c (by simpa using a),?_⟩;have:=Zva b;rw[Zch]at this;exact this
def Zwa{a b:BA}:(a.toList==b.toList)=decide (a=b):=by
 by_cases h:a=b
 .simp[h]
 .have:a.toList≠b.toList:=λe=>h ((Ze3 _ _).1 e);simp[h,this]
def scutG_fn(s p:BA):Ct prog 178 {} [S s,S p] (λr=>r=if s.data.toList.take p.data.toList.length=p.data.toList then[S (ssub s (slen p) (slen s)),B true]else[S s,B false]):=by
 have c:=Zhq s;have a:=Zhq p;refine Zup (Cl.ofQ (Zql s p (λr=>r=if s.data.toList.take p.data.toList.length=p.data.toList then[S (ssub s (slen p) (slen s)),B true]else[S s,B false]) ?_) ?_)
 .have b:Ct prog 295 {} [S s,S p] (λr=>r=[B (decide (s.data.toList.take p.data.toList.length=p.data.toList))]):=by
   refine Zuz (Zaa (λh=>⟨⟨Vo,Vo,by simp only[ige_eq,decide_eq_true_eq]at h;omega⟩,?_⟩) (λh=>?_))
   .rw[seq_bl,Zp2,a,Int.toNat_natCast];rfl
   .have:¬s.data.toList.take p.data.toList.length=p.data.toList:=λe=>by have:=congrArg List.length e;simp only[ige_eq,decide_eq_false_iff_not]at h;simp only[List.length_take]at this;omega
    rw[decide_eq_false this]
  refine Cl.of b ⟨_,rfl,Zaa (λh=>?_) (λh=>⟨⟨Vo,?_,Vo⟩,?_⟩)⟩
  .rw[if_neg (by simpa using h)]
  .simp only[bnot,YG,decide_eq_true_eq]at h;have:=congrArg List.length h;simp only[List.length_take]at this;omega
  .rw[if_pos (by simpa using h)]
 .rintro r rfl
  split
  .exact⟨_,_,rfl,rfl⟩
  .exact⟨_,_,rfl,rfl⟩
def jnum_fn(s:BA):Ct prog 179 {} [S s] (λr=>r=[I (numS s)]):=by
 have D:(bA [115,101,103,46]).data.toList=spre:=rfl;have E:slen (bA [115,101,103,46])=4:=Vd;have F:=Zhq s
 have zero:(s.data.toList.take 4≠spre\/(s.data.toList.drop 4).length≠8\/(∃c∈s.data.toList.drop 4,¬isD c))->numS s=0:=λh=>Classical.byContradiction λq=>by
  obtain⟨a,b,c,_⟩:=Zpo q
  rcases h with h|h|⟨x,n,h⟩
  .exact h a
  .exact h b
  .exact h (c x n)
 refine jnum_nf (Cl.of (scutG_fn s _) ?_);rw[D,E,show spre.length=4 from rfl];by_cases hp:s.data.toList.take 4=spre
 rotate_left
 .rw[if_neg hp];exact⟨_,_,rfl,Zaa (λ_=>by rw[zero (.inl hp)]) (λh=>by simp at h)⟩
 rw[if_pos hp];generalize hd:ssub s 4 (slen s)=d;have g:d.data.toList=s.data.toList.drop 4:=(by rw[<-hd,Zp2,F,Int.toNat_natCast,Yg];rfl);have H:=Zhq d;refine⟨_,_,rfl,Zaa (λh=>?_) (λh=>?_)⟩
 .have:(s.data.toList.drop 4).length≠8:=(by rw[<-g];simp at h;intro e;rw[<-Zcw]at e;omega);rw[zero (.inr (.inl this))]
 have l:(s.data.toList.drop 4).length=8:=(by rw[<-g,<-Zcw];simp at h;omega);have t:d.size<=281474976710656:=by rw[Zcw,g,l];omega
 have m:∀x:Int,(∀u,Lib.parseIntB 64 d.data.toList= .ok u->u=x)->(Lib.parseIntB 64 d.data.toList= .ok x\/∀u,Lib.parseIntB 64 d.data.toList≠ .ok u)->(1<=x->nmG x=s->numS s=x)/\(numS s≠0->numS s=x):=λx f J=>by
  have w:numS s≠0->numS s=x:=λq=>by obtain⟨_,b,c,e⟩:=Zpo q;have:=parse8 c b;rw[<-g]at this;rw[<-e,<-g];exact f _ this
  refine⟨λn k=>?_,w⟩;have j:inN x:=Classical.byContradiction λq=>by rw[nmG_no q]at k;rw[<-k]at l;simp at l
  rw[<-k,Zfx j,Zvb j]
 have fin:∀x:Int,(1<=x->nmG x=s->numS s=x)/\(numS s≠0->numS s=x)->ifB (bpick false true (ilt x 1)) ([I 0]=[I (numS s)]) (Cl prog 88 sP [I x] (λo=>ej2 o λz=>(ifB (sne z s) ([I 0]=[I (numS s)]) ([I x]=[I (numS s)])))):=λx ⟨A,C⟩=>by
  have y:¬(1<=x/\nmG x=s)->numS s=0:=λq=>Classical.byContradiction λr=>by have e:=C r;obtain⟨a,b⟩:=Zdb r;rw[e]at a b;exact q ⟨a.1,by rw[Zfx a];exact b.symm⟩
  refine Zaa (λh=>?_) (λh=>Cl.of (Zc3 x) ⟨_,rfl,Zaa (λf=>?_) (λf=>?_)⟩)
  .simp at h;rw[y Vo]
  .have f:nmG x≠s:=(by rw[sne_eq,Zwa]at f;simpa using f);rw[y (λq=>f q.2)]
  .have f:nmG x=s:=(by rw[sne_eq,Zwa]at f;simpa using f);simp at h;rw[A Vo f]
 refine Cl.ofQ (pint_fn d t) ?_;rintro r ⟨v,e,rfl,⟨f,rfl⟩|⟨f,rfl⟩⟩
 .refine⟨v,true,?_⟩;show _/\_;exact⟨rfl,rfl,fin v (m v (λu p=>by rw[f]at p;cases p;rfl) (.inl f))⟩
 .refine⟨v,false,?_⟩;show∃i:TypeId,_;have G:numS s=0:=Classical.byContradiction λq=>by obtain⟨_,b,c,e⟩:=Zpo q;have:=parse8 c b;rw[<-g]at this;exact f _ this
  refine⟨_,rfl,rfl,Zaa (λ_=>by rw[G]) (λh=>by simp[Zh6]at h)⟩
structure PtK(p:Pt):Prop where
 ok:ScOK p.d
 num:inN p.d.num
 n:p.n<=65536
 le:(segL p.d).length<=p.n
def PtK.ne{p:Pt}(h:PtK p):p.d.num≠0:=by have:=h.num.1;omega
def PtK.bs{p:Pt}(h:PtK p):ctxOK p.d.bs p.d.ba:=(h.ok.head h.ne).2
def PtK.s{p:Pt}(h:PtK p):ctxOK p.d.s p.d.a:=by
 have:=Zoy p.d.ev p.d.bs p.d.ba [] h.bs (h.ok.evs h.ne);rw[<-h.ok.fin h.ne]at this;exact this
def jfol_fn(p a:Pt)(b:inN a.d.num):Ct prog 181 {} [.agg (ptRow p),.agg (ptRow a)] (λr=>r=[B (decide (foll p.d a.d))]):=by
 refine Ztm ?_;rw[Zab (by have:=b.1;omega) (by have:=b.2;omega)];unfold foll;congr 2;simp[Znn];rw[Bool.eq_iff_iff];simp[and_assoc];exact decide_eq_true_iff.symm
def byF_iU(f:FiD):byF f=iU (f.su++f.lo):=rfl
def read_at(a:d.P)(b:d.dn=false)(c:n<d.fs.length):Ze4 d d.fs[n].nm=(d.fs[n].su++d.fs[n].lo,0):=by
 have e:=a.2.2.1 _ (List.getElem_mem c);unfold Ze4;rw[if_neg (by rw[er_ok a b e e];simp),Snp.get_at a c]
def Zmm(a:FiD->Sc)(l:List FiD)(f:FiD):rowsD a (l++[f])=rstep a (rowsD a l) f:=by
 unfold rowsD;rw[List.foldl_append];rfl
def jrows_fn(d:DiD)(X:d.ok)(F:d.P)(H:d.dn=false):Ct prog 112 {} [d.sv] (λr=>r=[SL 11 (ptR (rowsD scF d.fs).1),SL 1 (nR (rowsD scF d.fs).2)]/\∀p∈(rowsD scF d.fs).1,PtK p):=by
 have Y:=F.1.1;refine jrows_nf (Cl.of (Zpq d Vo) ⟨_,rfl,?_⟩);have L:rlen (nR (d.fs.map FiD.nm))=d.fs.length:=by simp[rlen]
 dsimp only
 rw[L];refine⟨λJ K x=>0<=x/\x<=d.fs.length/\∃R O,J=ptR R/\K=nR O/\rowsD scF (d.fs.take x.toNat)=(R,O)/\R.length<=x/\O.length<=x/\∀p∈R,PtK p,λ_ _ x=>(d.fs.length-x).toNat,⟨Vo,Vo,[],[],rfl,rfl,rfl,Vs,Vs,Vs⟩,?_⟩;rintro J K x ⟨x0,hx,R,O,rfl,rfl,he,hR,hO,hK⟩;refine Zaa (λh=>?_) (λh=>?_)
 rotate_left
 .simp at h;have e:x.toNat=d.fs.length:=Vo;rw[e,Yg]at he;rw[he];exact⟨rfl,hK⟩
 simp at h;have t:x.toNat<d.fs.length:=Vo;have Z:wadd IntKind.i64 x 1=x+1:=Zab;have u:d.fs.take (x+1).toNat=d.fs.take x.toNat++[d.fs[x.toNat]]:=(by rw[show(x+1).toNat=x.toNat+1 by omega,List.take_succ_eq_append_getElem t]);have v:Nl (d.fs.length-(x+1)).toNat (d.fs.length-x).toNat:=mlt Vo;rw[Z];refine⟨inM _ x0 (by simpa using h),d.fs[x.toNat].nm,(Zba _ _ x x0 (by simpa using h)).trans Vs,Cl.of (jnum_fn _) ⟨_,rfl,Zaa (λi=>⟨rfl,⟨Vo,Vo,R,O,rfl,rfl,?_,Vo,Vo,hK⟩,v⟩) (λi=>Cl.of (Zov d X _) ⟨_,_,rfl,?_⟩)⟩⟩
 .simp at i;rw[u,Zmm,he];unfold rstep;rw[if_pos i]
 simp at i;rw[read_at F H t];refine Zaa (λj=>by simp at j) (λ_=>?_);have M:(d.fs[x.toNat].su++d.fs[x.toNat].lo).length<=65536:=Zwb F t;have N:=iU_byts (d.fs[x.toNat].su++d.fs[x.toNat].lo)
 dsimp only
 rw[uR_bR];refine Cl.ofQ (Zu9 _ N (by simp only[List.length_map];omega)) ?_;rintro r ⟨sc,st,rfl,hr⟩;have c:scF d.fs[x.toNat]=sc:=scF_eq (by rw[byF_iU];exact hr);have w:=hr.pre.length_le;refine⟨_,_,_,_,_,_,_,_,_,_,rfl,⟨Vo,Vo,by have:=w;simp only[rlen_eq,List.length_map]at this|-;omega⟩,?_⟩;have G:rsub (bR (iU (d.fs[x.toNat].su++d.fs[x.toNat].lo))) 0 ((segL sc).length:Nat)=bR (segL sc):=(by rw[Zkp];simp only[Int.toNat_natCast,Int.toNat_zero,List.drop_zero];rw[<-WS.1 hr.pre]);rw[G];have Q:Byts (segL sc):=λy n=>N y (hr.pre.subset n);refine Cl.ofQ (Zu9 _ Q (by have:=w;simp only[List.length_map]at this;omega)) ?_;rintro r ⟨sc2,st2,rfl,hr2⟩;obtain⟨rfl,rfl⟩:=hr2.whole hr.ok;have C:ptRow (ptF scF d.fs[x.toNat])=[I sc2.num,I sc2.bs,I sc2.ba,SL 1 [],SL 7 (evR sc2.ev),I sc2.s,I sc2.a,SL 1 (nR sc2.m),I (endW 1 sc2.sl),I ((segL sc2).length:Nat),I (rlen (bR (iU (d.fs[x.toNat].su++d.fs[x.toNat].lo))))]:=(by show ptRow ⟨scF d.fs[x.toNat],d.fs[x.toNat].len⟩=_;rw[c];simp[ptRow,FiD.len]);have T:inN (numS d.fs[x.toNat].nm):=(Zdb i).1
 have D:mayR scF R O d.fs[x.toNat]->0<=x+1/\x+1<=d.fs.length/\∃f k,rapp (ptR R) [ptRow (ptF scF d.fs[x.toNat])]=ptR f/\nR O=nR k/\rowsD scF (d.fs.take (x+1).toNat)=(f,k)/\f.length<=x+1/\k.length<=x+1/\∀p∈f,PtK p:=λn=>by
  refine⟨Vo,Vo,R++[ptF scF d.fs[x.toNat]],O,by simp[rapp],rfl,?_,Vm,Vo,?_⟩
  .rw[u,Zmm,he];unfold rstep;rw[if_neg i,if_pos n]
  .intro p o
   rcases List.mem_append.1 o with o|o
   .exact hK p o
   .have:p=ptF scF d.fs[x.toNat]:=(by simpa using o);subst this;refine⟨by show ScOK (scF _);rw[c];exact hr.ok,?_,by show d.fs[x.toNat].len<=_;unfold FiD.len;simpa using M,by show(segL (scF _)).length<=d.fs[x.toNat].len;rw[c];unfold FiD.len;simpa using w⟩;show inN (scF _).num;rw[n.2.1];exact T
 have no:¬mayR scF R O d.fs[x.toNat]->0<=x+1/\x+1<=d.fs.length/\∃f k,ptR R=ptR f/\rapp (nR O) [[S d.fs[x.toNat].nm]]=nR k/\rowsD scF (d.fs.take (x+1).toNat)=(f,k)/\f.length<=x+1/\k.length<=x+1/\∀p∈f,PtK p:=λn=>by refine⟨Vo,Vo,R,O++[d.fs[x.toNat].nm],rfl,by simp[rapp],?_,Vo,Vm,hK⟩;rw[u,Zmm,he];unfold rstep;rw[if_neg i,if_neg n]
 have U:rlen (ptR R)=R.length:=Vs;have a0:rlen (nR O)=O.length:=Vs;refine⟨_,_,_,_,_,_,_,_,_,_,rfl,?_⟩
 dsimp only
 rw[<-C];refine Zaa (λj=>?_) (λj=>Zaa (λb=>?_) (λb=>?_))
 .simp at j;obtain⟨⟨l,g⟩,A⟩:=j;have z:R.length-1<R.length:=Vo;have ew:wsub IntKind.i64 (rlen (ptR R)) 1=((R.length-1:Nat):Int):=by rw[U,Zar];omega
  have V:R.getLast?=some R[R.length-1]:=(by rw[List.getLast?_eq_getElem?];simp[z]);have E:mayR scF R O d.fs[x.toNat]↔foll (scF d.fs[x.toNat]) R[R.length-1].d:=(by unfold mayR;rw[V,c];exact⟨λq=>q.2.2,λq=>⟨by simpa using l,g,q⟩⟩);rw[ew];refine⟨inM _ Vo Vo,inM _ Vo Vo,_,_,_,_,_,_,_,_,_,_,_,Zf2 z,?_⟩;have W:=jfol_fn (ptF scF d.fs[x.toNat]) R[R.length-1] (hK _ (List.getElem_mem z)).num;rw[C]at W;refine Cl.of W ⟨_,rfl,Zaa (λb=>⟨Vm,rfl,D (E.2 (by simpa using b)),v⟩) (λb=>⟨Vm,rfl,no (λq=>by simp at b;exact b (E.1 q)),v⟩)⟩
 .simp at j b;obtain⟨l,g⟩:=b
  have A:R=[]:=by
   rcases WE R.length with e|e
   .exact Yv.1 e
   .have:=j l g;omega
  exact⟨Vm,rfl,D ⟨by simpa using l,by rw[c];exact g,by rw[A];trivial⟩,v⟩
 .simp at b;refine⟨Vm,rfl,no (λq=>b (by simpa using q.1) (by rw[<-c];exact q.2.1)),v⟩
end Jou
namespace Sx
open Go Go.Px Go.Proofs Cmp Tryz
theorem new_P(c:namB t=true)(k:1<=b/\b<=3)(d:timP i):(newC t b i).1.P:=by
 unfold newC;rw[if_neg (by simp[c]),if_neg Vo,if_neg (by simp[d])];have z:heldP 0:=Vd;have e:hisP 0 0 0 0 0 0 0 0 0 0:=Vd;have f:bktP 10 10:=Vd;by_cases h:b=1
 .rw[if_pos h];have g:=Zoh d (w:=10) Vo;have a:Zft (zer 4):=Zk5 4
  have j:winP 10 (i/10) (zer 4):=⟨Vd,g,Vd,a⟩
  exact P1 c ⟨z,z,z⟩ h ⟨⟨(by decide:(0:Int)<=0/\(0:Int)<=2),j⟩,e,rfl,rfl⟩
 .rw[if_neg h];by_cases h':b=2
  .exact P2 c ⟨z,z,z⟩ h' ⟨⟨⟨rfl,rfl,rfl,rfl⟩,⟨rfl,rfl,rfl,rfl,rfl,rfl,rfl,rfl,rfl⟩,rfl⟩,f⟩
  .exact P3 c ⟨z,z,z⟩ (show b=3 by omega) ⟨⟨(by decide:(0:Int)<=0/\(0:Int)<=2147483647),rfl,rfl,rfl⟩,e,f⟩
def nxt_P{e:EvD}(m:MayS g e):(nxtS g e).P:=by
 unfold nxtS;by_cases hk:e.k=1
 .rw[if_pos hk];obtain⟨_,f,d,h,_⟩:=chkE_zero m.chk
  grind [lo1,hi1,namB,new_P]
 .rw[if_neg hk];obtain⟨i,a,b,j,c⟩:=m.old hk;rw[b,Zjh a];exact tell_P (Zpm.1 c)
def app_P{e:EvD}(h:(appS g e).2=0):(appS g e).1.P/\(appS g e).1.q=g.q+1/\g.t<=(appS g e).1.t:=by
 obtain⟨d,i⟩:=Zu7 h;have m:=Zic d;obtain⟨_,_,_,b,f⟩:=chkE_zero m.chk;have j:=m.p.1.1;rw[i];refine⟨⟨⟨?_,f.1,f.2,b.1,b.2⟩,λc a=>?_,Zbi m.p.2.2⟩,m.sq,m.tm⟩
 .show(withB CoD.nm g.cs (nxtS g e)).length<=12;rw[nxt_len m]
  split
  .have:=(m.new (by assumption)).2;omega
  .omega
 .rcases Zcb.1 a with rfl|⟨a,_⟩
  .exact nxt_P m
  .exact m.p.2.1 c a
def fold_P:∀(l:List EvD) {d:StD},d.P->(foldS d l).1.P/\(foldS d l).1.q=d.q+(foldS d l).2.1/\d.t<=(foldS d l).1.t
 | [],d,h=>⟨h,by simp[foldS],Int.le_refl _⟩
 |e::l,d,h=>by
  rw[fold_cons]
  split
  .grind
  .rename_i a;have a:(appS d e).2=0:=Vg;obtain⟨b,c,f⟩:=app_P a;obtain⟨g,i,j⟩:=fold_P l b
   grind
end Sx
namespace Li
open Go Go.Px Go.Proofs Cmp Sx Tryz
deriving instance DecidableEq for EvD
structure LiD where
 ev:List EvD
 s:StD
 fr:Int
 sh:Bool
deriving DecidableEq
def evP(l:LiD)(i:Nat)(h:i<l.ev.length):Prop:=(chkE l.ev[i]=0/\l.ev[i].s=l.fr+1+i)/\(0<i->(l.ev[i-1]'Vo).a<=l.ev[i].a)
instance (l:LiD) (i:Nat) (h:i<l.ev.length):Decidable (evP l i h):=inferInstanceAs (Decidable (_/\_))
def SgT:FuncId->Sig:=(λf=>bif Nat.beq f 100 then⟨[],[.own]⟩else{})
def SvT:TypeId->Sig:=λ_=>{}
def esame_nf(h:ifB (ine (rlen l) (rlen r)) (Q [B false]) (∃c:Bool->Int->Prop,∃m:Bool->Int->Nat,(c false 0)/\∀b x,(c b x)->ifB (ilt x (rlen l)) (((0<=x)/\x<(rlen l))/\∃i j,∃k s,∃ev n o,(rget l x=[I i,I j,I k,S s,I ev,I n,I o])/\((0<=x)/\x<(rlen r))/\∃p q,∃a t,∃d e g,(rget r x=[I p,I q,I a,S t,I d,I e,I g])/\ifB (bnot (band (ieq i p) (band (ieq j q) (band (ieq k a) (band (seq s t) (band (ieq ev d) (band (ieq n e) (band (ieq o g) true)))))))) (Q [B false]) (((Option.some []:Option LL)=Option.some [])/\(c b (wadd .i64 x 1))/\Nl (m b (wadd .i64 x 1)) (m b x))) (Q [B true]))):Ct prog 27 {} [SL 7 l,SL 7 r] Q:=
 fN SgT SvT func27 h
def esame_fn(a b:List EvD)(l:a.length<=9223372036854775807):Ct prog 27 {} [SL 7 (eR a),SL 7 (eR b)] (λr=>r=[B (decide (a=b))]):=by
 have no:¬a=b->[B false]=[B (decide (a=b))]:=λh=>by simp[h]
 refine esame_nf (Zaa (λh=>no (λe=>by subst e;simp at h)) (λh=>?_));have d:a.length=b.length:=by simp at h;omega
 refine⟨λ_ x=>∃i:Nat,x=i/\i<=a.length/\∀j:Nat,∀c:j<a.length,j<i->a[j]=b[j]'Vo,λ_ x=>a.length-x.toNat,⟨0,rfl,Vo,λj _ c=>Vo⟩,?_⟩;rintro _ _ ⟨i,rfl,hi,hall⟩;refine Zaa (λh=>?_) (λh=>?_)
 .have h:i<a.length:=(by simpa using h);have f:i<b.length:=Vo;rw[waddN _];refine⟨⟨Vo,by simpa using h⟩,_,_,_,_,_,_,_,Zaj _ _ _ h,⟨Vo,by simpa using f⟩,_,_,_,_,_,_,_,Zaj _ _ _ f,?_⟩;rw[seq_d];refine Zaa (λz=>no (λe=>?_)) (λz=>⟨rfl,⟨i+1,rfl,Vo,λj c k=>?_⟩,stepL Vm⟩)
  .subst e;simp at z
  .by_cases e:j=i
   .subst e;generalize a[j]=p at z;generalize b[j]=q at z
    cases p;cases q;simp at z;simp[z]
   .exact hall j c Vo
 .have h:¬i<a.length:=(by simpa using h);rw[decide_eq_true (YO d λj g m=>hall j g Vo)]
end Li
namespace Jou
open Go Go.Px Go.Proofs Cod Seg Sgr Snp Sx Row Tryz
def base_P(l:List FiD):(baseF l).P:=by
 unfold baseF
 cases h:newF l with
 |none=>exact(by decide:st0.P)
 |some s=>
  unfold newF at h
  split at h
  next a=>
   cases h
   obtain⟨f,_,b⟩:=a.choose_spec.1;exact b.1
  .cases h
def stR_P(r:List Pt)(l:List FiD):(stR r (keptF l) (baseF l)).P:=(fold_P _ (base_P l)).1
structure Fct(j:JoD):Prop where
 len:j.sg.length<=64
 fs:j.dk.fs.length<=64
 cx:ctxB j.cx.s j.cx.a j.cx.m=true
 ps:∀p∈j.sg,(0<=p.sz/\p.sz<=65536)/\(1<=p.num/\p.num<=99999999)/\(0<=p.fi/\p.fi<=p.la/\p.la<=4294967296)/\(0<=p.fr/\p.fr<=1099511627776)
 st:j.st.P
def segs_le(l:List FiD):(segs l).length<=l.length:=List.length_filter_le ..
def Zog(h:ScOK D)(b:D.num≠0):ctxOK D.bs D.ba/\ctxOK D.s D.a/\ctxB D.s D.a D.m=true:=by
 have c:=(h.head b).2;have e:=Zoy D.ev D.bs D.ba [] c (h.evs b);have f:=Zqt D.ev D.bs D.ba [] (Seg.ctx_nil.2 c) (h.evs b);rw[<-h.fin b]at e f;exact⟨c,e,f⟩
def RightJ.fct{j:JoD}(h:RightJ j):Fct j:=by
 have a:=h.par;have i:=h.dk.1.1;have v:=segs_le j.dk.fs;have l:=a.dkr.bytes a.all;have hst:j.st.P:=(by rw[a.st];exact stR_P _ _);refine⟨by rw[a.sg];simp;omega,i,?_,?_,hst⟩
 .rw[a.cx];unfold Zbc
  cases hg:((segs j.dk.fs).map (ptF scF)).getLast? with
  |none=>exact Seg.ctx_nil.2 (show ctxOK 0 0 by unfold ctxOK;omega)
  |some p=>
   dsimp only
   split
   .exact Seg.ctx_nil.2 (show ctxOK 0 0 by unfold ctxOK;omega)
   .obtain⟨f,b,rfl⟩:=Y5.1 (YM hg);obtain⟨g,_,b3,c⟩:=l f b;exact(Zog g (by rw[b3];exact c)).2.2
 .intro p d;rw[a.sg]at d;obtain⟨q,k,rfl⟩:=Y5.1 d;obtain⟨f,b,rfl⟩:=Y5.1 k;obtain⟨g,m,b3,c⟩:=l f b;have r:(scF f).num≠0:=by rw[b3];exact c
  obtain⟨n,o,_⟩:=Zog g r;have t:=a.good.cnt _ k;have e:inN (scF f).num:=by rw[b3];exact(Zdb c).1
  have u:=congrArg List.length m;rw[Zhg]at u;have y:=Ze6 (List.mem_filter.1 b).1;have z:=h.dk.2.1;have w:=h.dk.1.2.2.1;unfold ctxOK at n o;unfold inN at e;simp only[sgOf];have x:((scF f).ev.length:Int)=(scF f).s-(scF f).bs:=t;refine⟨⟨Vo,Vo⟩,e,⟨Vo,Vo,Vo⟩,Vo,Vo⟩
def Zp7{c:DiD}{d e a:Int}{b:Bool}{g:List FiD}(f:Par (anewJ c d e a b) g)(h:mayC d e)(i:c.P)(j:c.dn=false)(k:keptF c.fs<=a)(l:a<=(anewJ c d e a b).st.q):RightJ (anewJ c d e a b):=by
 have m:=Zdy f.dkr;have n:=f.good;have o:=f.all;refine⟨h,i,j,?_,?_,?_,rfl,k,l⟩
 .grind
 .grind
 grind
noncomputable def evG(a:List FiD):List Cod.EvD:=a.flatMap λf=>(scF f).ev
def Zn5(h:RightJ J):evsJ J=evG (segs J.dk.fs):=by
 grind [h.row,List.flatMap_map,evsJ,evG]
def Zp8:∀(a b:List Stp) {d c:DiD},runP d (a++b)=(c,0)->∃e,runP d a=(e,0)/\runP e b=(c,0)
 | [],b,d,c,h=>⟨d,rfl,h⟩
 |s::a,b,d,c,h=>by
  rw[Y4,runP]at h
  split at h
  .grind
  simp_all[runP,Zp8]
def Zi1{d a:DiD}{s:Stp}{l:List Stp}(h:runP d (s::l)=(a,0)):∃b,s.run d=(b,0)/\runP b l=(a,0):=by
 grind [runP]
def Zw2{s:Stp}(h:d.P):(s.run d).1.P:=by
 cases s
 .exact Zgv h
 .exact Zgw h
 .exact Zin h
 .exact Zgx h
 .exact opCut_P h
def Zw3:∀(l:List Stp) {d:DiD},d.P->(runP d l).1.P
 | [],d,h=>h
 |s::l,d,h=>by
  rw[runP]
  split
  .exact Zw2 h
  simp_all[Zw3,Zw2]
def step_dn{s:Stp}{d c:DiD}(h:s.run d=(c,0)):c.dn=d.dn/\c.rm=d.rm:=by
 cases s
 .obtain⟨_,_,_,a,b⟩:=Zl5 h;exact⟨b,a⟩
 .obtain⟨_,_,_,_,a,b⟩:=Zd1 h;exact⟨b,a⟩
 .obtain⟨_,_,_,_,a,b⟩:=Zig h;exact⟨b,a⟩
 .obtain⟨_,_,_,a,b⟩:=Zhf h;exact⟨b,a⟩
 .obtain⟨_,_,_,_,_,_,a,b⟩:=Zo6 h;exact⟨b,a⟩
def Zp9:∀(l:List Stp) {d f:DiD},runP d l=(f,0)->f.dn=d.dn/\f.rm=d.rm
 | [],d,f,h=>by cases h;exact⟨rfl,rfl⟩
 |s::l,d,f,h=>by
  obtain⟨j,g,i⟩:=Zi1 h;obtain⟨a,b⟩:=step_dn g;obtain⟨c,e⟩:=Zp9 l i
  grind
def bys_i{b:List Int}(h:Byts b):((bys b).map λx=>(x.toNat:Int))=b:=iU_of h
def Zqa(s:BA)(a c:List UInt8)(b:List Int)(h:Byts b):byF ⟨s,a,c++bys b⟩=byF ⟨s,a,c⟩++b:=by rw[byF_app,bys_i h]
def run1(d:DiD)(s:Stp):runP d [s]=s.run d:=by
 grind [runP]
def Zue{j:JoD}{n:Int}(b:inN n)(c:ctxOK j.st.q j.st.t):Byts (hedB j n)/\(hedB j n).length<=45:=by
 unfold ctxOK at c;have:=Zta (n:=n) (s:=j.st.q) (a:=j.st.t) b.2
 grind [Zgg,hedB,Zjk,Zvq]
structure Took(j k:JoD)(e:Cod.EvD):Prop where
 right:RightJ k
 st:k.st=(appS j.st (toE e)).1
 ev:evsJ k=evsJ j++[e]
 cfg:k.cb=j.cb/\k.cg=j.cg
 kept:k.kept=j.kept
 shut:k.shut=j.shut
 sure:j.sure<=k.sure
 rm:k.dk.rm=j.dk.rm
def encE_ok{e:Cod.EvD}(h:encE J.cx.s J.cx.a J.cx.m e=0):EncOK J.cx.s J.cx.a J.cx.m e:=Zc7.1 h
theorem sg_last(h:Par J (y++[f])):J.sg=(y.map (ptF scF)).map sgOf++[sgOf ⟨scF f,f.len⟩]:=by rw[h.sg];simp[ptF]
def cx_open(h:Par J (y++[f]))(c:(scF f).sl=false):J.cx=⟨(scF f).s,(scF f).a,(scF f).m⟩:=by
 grind [h.cx,Zbc]
def evG_app(a b:List FiD):evG (a++b)=evG a++evG b:=List.flatMap_append
def Zi2(a:List FiD)(f:FiD):evG (a++[f])=evG a++(scF f).ev:=by rw[evG_app];simp[evG]
def Par.in_(h:Par J (y++[f])):ScOK (scF f)/\byF f=segL (scF f)/\(scF f).num≠0/\f.nm=nmG (scF f).num/\inN (scF f).num/\numS f.nm≠0:=by
 obtain⟨d,e,b3,a⟩:=h.dkr.bytes h.all f Vs;obtain⟨g,b⟩:=h.name f Vs;exact⟨d,e,by rw[b3];exact a,by rw[Zfx b];exact g,b,a⟩
def rec_anew{j:JoD}{w:List FiD}{g:FiD}(h:Par j (w++[g]))(k:(scF g).sl=false){e:Cod.EvD}(y:e.s=j.st.q+1)(E:encE j.cx.s j.cx.a j.cx.m e=0)(F:(appS j.st (toE e)).2=0){l:DiD}(G:Zap j.dk (nmG (scF g).num) (bys (recL' j e))=(l,0))(n o b:Int)(d:Bool):
  anewJ l n o b d=⟨l,n,o,(w.map (ptF scF)).map sgOf++[{sgOf ⟨scF g,g.len⟩with sz:=(sgOf ⟨scF g,g.len⟩).sz+(recL' j e).length,la:=e.s,ti:=e.a}],⟨e.s,e.a,bhdN j.cx.m e.c⟩,(appS j.st (toE e)).1,b,j.kept,d⟩/\
   ∃f,Par (anewJ l n o b d) (w++[f])/\(scF f).ev=(scF g).ev++[e]/\(scF f).sl=false:=by
 obtain⟨H,J,b3,z,b5,N⟩:=h.in_;have t:=cx_open h k;have i:=encE_ok E;rw[t]at i
 dsimp only at i
 have p:recL' j e=recB (scF g) e:=by grind [recL',recB]
 have u:Byts (recL' j e):=(by rw[p];unfold recB;exact Zjk Vo (by have:=Zh8 i;omega) Zi6)
 obtain⟨_,f,K,r,_,_⟩:=Zd1 G;have C:g∈j.dk.fs:=(List.mem_filter.1 (show g∈segs j.dk.fs by rw[h.dkr.eq];simp)).1
 have D:f=g:=by
  rw[<-z,Zif h.dkr.srt C]at K
  grind
 subst D;rw[<-z]at r;obtain⟨e1,L⟩:=anew_add h k y i F (x:=bys (recL' j e)) (by rw[bys_i u,p]) r n o b d;obtain⟨M,A⟩:=Zz8 H b3 k i;have v:scF ⟨f.nm,f.su,f.lo++bys (recL' j e)⟩=addS (scF f) e:=Zbu M (by rw[Zqa _ _ _ _ u,A,<-J,p]);refine⟨?_,_,L,by rw[v];rfl,by rw[v];exact k⟩;rw[e1,t];congr 3;simp only[sgOf,A,List.length_append,p]
 all_goals first|done|rfl|omega|(congr 1;omega)
def seal_anew{j:JoD}{m:List FiD}{g:FiD}(h:Par j (m++[g]))(n:(scF g).sl=false){d:DiD}(x:runP j.dk [.wri (nmG (scF g).num) (bys (selB j (sgOf ⟨scF g,g.len⟩))),.syn (nmG (scF g).num)]=(d,0))(e i a:Int)(b:Bool):
  anewJ d e i a b=⟨d,e,i,(m.map (ptF scF)).map sgOf++[{sgOf ⟨scF g,g.len⟩with sz:=(sgOf ⟨scF g,g.len⟩).sz+(selB j (sgOf ⟨scF g,g.len⟩)).length,sl:=true}],⟨0,0,[]⟩,j.st,a,j.kept,b⟩/\
   ∃f,Par (anewJ d e i a b) (m++[f])/\(scF f).ev=(scF g).ev/\(scF f).sl=true/\(scF f).num=(scF g).num:=by
 obtain⟨p,y,b3,q,b5,F⟩:=h.in_;have E:=cx_open h n;have H:((scF g).ev.length:Int)=(scF g).s-(scF g).bs:=h.good.cnt (ptF scF g) Vs
 have o:selB j (sgOf ⟨scF g,g.len⟩)=seaB (scF g):=by
  grind [sgOf,selB,seaB]
 have u:Byts (selB j (sgOf ⟨scF g,g.len⟩)):=(by rw[o];have:=slP_len p b3;exact Zjk Vo Vo (Zv8 _ _ _));obtain⟨G,z,r⟩:=Zi1 x;rw[run1]at r;obtain⟨f,A,k⟩:=app_sync h.dkr.srt z r;have v:g∈j.dk.fs:=(List.mem_filter.1 (show g∈segs j.dk.fs by rw[h.dkr.eq];simp)).1
 have w:f=g:=by
  rw[<-q,Zif h.dkr.srt v]at A
  grind
 subst w;rw[<-q]at k
 have l:byF ⟨f.nm,f.su++(f.lo++bys (selB j (sgOf ⟨scF f,f.len⟩))),[]⟩=byF f++seaB (scF f):=by
  rw[<-o,<-Zqa f.nm f.su f.lo _ u]
  grind [byF]
 obtain⟨e1,C⟩:=Zz0 h n (f:=⟨f.nm,f.su++(f.lo++bys (selB j (sgOf ⟨scF f,f.len⟩))),[]⟩) rfl l k e i a b;obtain⟨D,t⟩:=Zut p b3 n;have c:scF ⟨f.nm,f.su++(f.lo++bys (selB j (sgOf ⟨scF f,f.len⟩))),[]⟩=sealS (scF f):=Zbu D (by rw[l,t,<-y]);refine⟨?_,_,C,by rw[c];rfl,by rw[c];rfl,by rw[c];rfl⟩;rw[e1,o];congr 3;simp only[sgOf,t,List.length_append]
 all_goals first|done|rfl|omega|(congr 1;omega)
def new_anew{j:JoD}{i:List FiD}(h:Par j i){n:Int}(k:∀g,i.getLast?=some g->(scF g).sl=true/\n=(scF g).num+1)(o:inN n)(A:i=[]->n=1)(hst:j.st.P){e:Cod.EvD}(C:e.s=j.st.q+1)(K:encE j.st.q j.st.t [] e=0)(L:(appS j.st (toE e)).2=0){p:DiD}(M:runP j.dk [.cre (nmG n),.wri (nmG n) (bys (hedB j n)),.wri (nmG n) (bys (fr 2 (encL j.st.q j.st.t [] e)))]=(p,0))(r u b:Int)(d:Bool):
  anewJ p r u b d=⟨p,r,u,(i.map (ptF scF)).map sgOf++[⟨n,j.st.q,e.s,j.st.t,e.a,(hedB j n).length+(fr 2 (encL j.st.q j.st.t [] e)).length,false⟩],⟨e.s,e.a,bhdN [] e.c⟩,(appS j.st (toE e)).1,b,j.kept,d⟩/\
   ∃f,Par (anewJ p r u b d) (i++[f])/\(scF f).ev=[e]/\(scF f).sl=false:=by
 have H:=Zvr hst
 have v:headOK n j.st.q j.st.t:=⟨o,H⟩
 have m:=Zc7.1 K;obtain⟨D,_⟩:=Zue (j:=j) o H;have J:Byts (fr 2 (encL j.st.q j.st.t [] e)):=Zjk Vo (by have:=Zh8 m;omega) Zi6;obtain⟨R,N,y⟩:=Zi1 M;obtain⟨T,y,E⟩:=Zi1 y;rw[run1]at E;obtain⟨hno,F⟩:=new_app h.dkr.srt N y E;have w:byF ⟨nmG n,[],bys (hedB j n)++bys (fr 2 (encL j.st.q j.st.t [] e))⟩=fr 1 (hdP n j.st.q j.st.t)++fr 2 (encL j.st.q j.st.t [] e):=by rw[Zqa _ _ _ _ J];have:=Zqa (nmG n) [] [] _ D;rw[List.nil_append]at this;rw[this];rfl
 have z:∀g∈i,numS g.nm<n:=by
  rcases Y2 i with rfl|⟨l,g,rfl⟩
  .simp
  .rw[List.concat_eq_append]at h k|-;have:=k g Vs;rw[this.2];exact h.big
 obtain⟨e1,O⟩:=anew_new h k o A (f:=⟨nmG n,[],bys (hedB j n)++bys (fr 2 (encL j.st.q j.st.t [] e))⟩) (Zfx o) hno z C v m L w F r u b d;obtain⟨Q,G⟩:=Zz9 v m;have x:scF ⟨nmG n,[],bys (hedB j n)++bys (fr 2 (encL j.st.q j.st.t [] e))⟩=newS n j.st.q j.st.t e:=Zbu Q (by rw[w,G]);refine⟨?_,_,O,by rw[x];rfl,by rw[x];rfl⟩;rw[e1];congr 3;simp only[sgOf,G,List.length_append];show(⟨n,j.st.q,e.s,j.st.t,e.a,_,false⟩:SgD)=_;congr 1
def Zk1(h:RightJ J):keptF J.dk.fs<=J.sure/\J.sure<=J.st.q/\J.kept=keptF J.dk.fs:=⟨h.sure.1,h.sure.2,h.par.kept⟩
def kept_same{f:List SgD}{c:CxD}(h:anewJ d i e j o=⟨d,i,e,f,c,g,j,k,o⟩):keptF d.fs=k:=congrArg JoD.kept h
def took_of{j k:JoD}{e:Cod.EvD}(b:RightJ j)(n:(appS j.st (toE e)).2=0)(f:e.s=j.st.q+1){gs':List FiD}(a:k=anewJ k.dk j.cb j.cg k.sure j.shut)(hst:k.st=(appS j.st (toE e)).1)(g:k.kept=j.kept)(h:Par (anewJ k.dk j.cb j.cg k.sure j.shut) gs')(i:evG gs'=evG (segs j.dk.fs)++[e])(p:k.sure=j.sure\/k.sure=j.st.q)(o:k.dk.P)(c:k.dk.dn=j.dk.dn/\k.dk.rm=j.dk.rm):Took j k e:=by
 obtain⟨t,u,v⟩:=Zk1 b;have w:k.st.q=j.st.q+1:=by rw[hst,(Zxg n).1];exact f
 have r:k.kept=keptF k.dk.fs:=(by rw[a];rfl);have l:RightJ k:=(by have d:(anewJ k.dk j.cb j.cg k.sure j.shut).st=k.st:=(by rw[<-a]);rw[a];exact Zp7 h b.cfg o (by rw[c.1];exact b.up) Vo (by rw[d];omega));have m:segs k.dk.fs=gs':=h.dkr.eq;exact⟨l,hst,by rw[Zn5 l,Zn5 b,m,i],by rw[a];exact⟨rfl,rfl⟩,g,by rw[a];rfl,Vo,c.2⟩
def Zjr(j:JoD)(b:RightJ j):(segs j.dk.fs=[]/\j.sg=[])\/∃a g,segs j.dk.fs=a++[g]/\Par j (a++[g])/\j.sg=(a.map (ptF scF)).map sgOf++[sgOf ⟨scF g,g.len⟩]:=by
 have c:=b.par
 rcases Y2 (segs j.dk.fs)with e|⟨a,g,e⟩
 .grind [c.sg,left]
 grind [sg_last]
def Zw4{j k:JoD}(E:RightJ j){Z:Cod.EvD}(h:appQ j Z=(k,0)):Took j k (evN j Z):=by
 have hF:=E.fct;generalize he:evN j Z=e at*;have D:e.s=j.st.q+1:=(by rw[<-he];rfl);unfold appQ at h;rw[he]at h
 split at h
 .grind
 rename_i g;have V:(appS j.st (toE e)).2=0:=by simpa using g
 split at h
 .cases h
 rename_i ab
 split at h
 .cases h
 rename_i w b;unfold endJ at h
 split at h
 .cases h
 rename_i a9
 split at h
 .grind
 rename_i hz;have hz:(runP j.dk w.td).2=0:=Vg
 obtain⟨K,hd'⟩:∃K,runP j.dk w.td=(K,0):=⟨_,by rw[<-hz]⟩
 rw[hd']at h;rw[Prod.mk.injEq]at h;have hk:=h.1;have hP:K.P:=by have:=Zw3 w.td E.dk;rw[hd']at this;exact this
 have X:=Zp9 _ hd';unfold w3 at b
 cases hw2:w2 j e with
 |none=>rw[hw2]at b;cases b
 |some v=>
 rw[hw2]at b;have b:recW v e=some w:=b
 have aa:∀{d:List FiD} {g:FiD},segs j.dk.fs=d++[g]->Par j (d++[g])->j.sg=(d.map (ptF scF)).map sgOf++[sgOf ⟨scF g,g.len⟩]->(scF g).sl=false->v=w0 j->Took j k e:=by
  intro d g A y z r hv;subst hv;have o:recW (w0 j) e=some w:=b;unfold recW at o;rw[show(w0 j).j.sg=_ from z,Zau]at o
  dsimp only at o
  split at o
  .cases o
  rename_i G;have G:encE j.cx.s j.cx.a j.cx.m e=0:=Yh.1 G;have o:=Option.some.inj o;subst o;have hr:Zap j.dk (nmG (scF g).num) (bys (recL' j e))=(K,0):=(run1 j.dk (.wri (nmG (scF g).num) (bys (recL' j e)))).symm.trans hd';obtain⟨e1,f,M,N,_⟩:=rec_anew y r D G V hr j.cb j.cg j.sure j.shut;subst hk;exact took_of E V D (gs':=d++[f]) e1.symm rfl rfl M (by rw[A,Zi2,Zi2,N,List.append_assoc]) (.inl rfl) hP X
 have C:∀(c:JoD) (d:List FiD) (F:List Stp) (H:Int),Par c d->(∀g,d.getLast?=some g->(scF g).sl=true)->c.st=j.st->c.kept=j.kept->c.cb=j.cb->c.cg=j.cg->c.shut=j.shut->runP j.dk F=(c.dk,0)->(c.sure=j.sure\/c.sure=j.st.q)->evG d=evG (segs j.dk.fs)->
   ∀u:DiD,begW ⟨{c with dk:=u},F,H⟩=some v->Took j k e:=by
  intro c d F H y r hst a3 a4 a5 T a0 a6 a7 u i
  have hn:nxtN ⟨{c with dk:=u},F,H⟩=match d.getLast? with|none=>1|some g=>(scF g).num+1:=by
   unfold nxtN;show(match lasS c.sg with|none=>1|some (_,p)=>p.num+1)=_;rw[y.sg]
   rcases Y2 d with e|⟨l,g,e⟩
   .rw[e];rfl
   .rw[e,List.concat_eq_append];simp only[List.map_append,List.map_cons,List.map_nil,Zau,List.getLast?_concat];rfl
  unfold begW at i
  split at i
  .cases i
  rename_i hno;have a8:inN (nxtN ⟨{c with dk:=u},F,H⟩):=Classical.byContradiction λq=>hno (.inl q);generalize hN:nxtN ⟨{c with dk:=u},F,H⟩=n at*;have i:=Option.some.inj i;subst i;unfold recW at b;rw[Zau]at b
  dsimp only at b
  split at b
  .cases b
  rename_i G;have G:encE c.st.q c.st.t [] e=0:=Vg;have b:=Option.some.inj b;subst b
  dsimp only at hd'
  rw[List.append_assoc]at hd';obtain⟨U,O,r2⟩:=Zp8 _ _ hd';rw[a0,Prod.mk.injEq]at O;rw[<-O.1]at r2
  have W:∀g,d.getLast?=some g->(scF g).sl=true/\n=(scF g).num+1:=λg hg=>⟨r g hg,by rw[hn,hg]⟩
  obtain⟨e1,f,M,N,_⟩:=new_anew y W a8 (λq=>by rw[hn,q];rfl) (by rw[hst];exact hF.st) (by rw[hst];exact D) G (by rw[hst];exact V) r2 j.cb j.cg c.sure j.shut;subst hk;refine took_of E V D (gs':=d++[f]) ?_ rfl a3 M (by rw[Zi2,N,a7]) a6 hP X;show _=anewJ K j.cb j.cg c.sure j.shut;have hh:hedB c n=fr 1 (hdP n j.st.q j.st.t):=(by grind [hst,hedB]);rw[e1,y.sg,a4,a5,T,hst,hh];rfl
 rcases Zjr j E with⟨A,z⟩|⟨d,g,A,y,z⟩
 .have e1:w1 j e=w0 j:=(by unfold w1;rw[z];rfl);have R:opnW (w1 j e)=false:=(by rw[e1];unfold opnW;rw[show(w0 j).j.sg=[]from z];rfl);unfold w2 at hw2;rw[if_neg (by simp[R]),e1]at hw2;exact C j [] [] 0 (by have:=E.par;rw[A]at this;exact this) Vs rfl rfl rfl rfl rfl rfl (.inl rfl) (by rw[A]) j.dk hw2
 .by_cases r:(scF g).sl=true
  .have e1:w1 j e=w0 j:=by
    grind [Zau,sgOf,w1,ovrB]
   have R:opnW (w1 j e)=false:=(by grind [e1,Zau,sgOf,opnW,w0]);unfold w2 at hw2;rw[if_neg (by simp[R]),e1]at hw2;exact C j (d++[g]) [] 0 y (λx J=>by simp at J;subst J;exact r) rfl rfl rfl rfl rfl rfl (.inl rfl) (by rw[A]) j.dk hw2
  .have r:(scF g).sl=false:=Vg;by_cases hov:ovrB j e=true
   .have e1:w1 j e=sealW (w0 j) ((d.map (ptF scF)).map sgOf) (sgOf ⟨scF g,g.len⟩):=by
     grind [Zau,w1]
    have R:opnW (w1 j e)=false:=(by grind [e1,Zau,opnW,sealW]);unfold w2 at hw2;rw[if_neg (by simp[R]),e1]at hw2
    have Q:∃L,w.td=[.wri (nmG (scF g).num) (bys (selB j (sgOf ⟨scF g,g.len⟩))),.syn (nmG (scF g).num)]++L:=by
     have i:=hw2;unfold begW at i
     split at i
     .cases i
     have i:=Option.some.inj i;unfold recW at b;rw[<-i]at b
     dsimp only at b
     rw[Zau]at b
     dsimp only at b
     split at b
     .cases b
     have b:=Option.some.inj b;rw[<-b];exact⟨_,by simp only[sealW,w0,List.nil_append,List.append_assoc];rfl⟩
    obtain⟨L,Q⟩:=Q;have Y:=hd';rw[Q]at Y;obtain⟨U,O,r2⟩:=Zp8 _ _ Y;obtain⟨s1,f,M,N,v2,v3⟩:=seal_anew y r O j.cb j.cg j.st.q j.shut;have a1:(anewJ U j.cb j.cg j.st.q j.shut).st=j.st:=(by rw[s1]);have a2:(anewJ U j.cb j.cg j.st.q j.shut).kept=j.kept:=(by rw[s1]);refine C (anewJ U j.cb j.cg j.st.q j.shut) (d++[f]) [.wri (nmG (scF g).num) (bys (selB j (sgOf ⟨scF g,g.len⟩))),.syn (nmG (scF g).num)] (0+(selB j (sgOf ⟨scF g,g.len⟩)).length) M (λx J=>by simp at J;subst J;exact v2) a1 a2 rfl rfl rfl O (.inr rfl) (by rw[A,Zi2,Zi2,N]) j.dk ?_;rw[<-hw2,s1];rfl
   grind [Zau,e1,sgOf,w1,opnW,w2,ovrB,w0]
def Zq6(l:List FiD):∀p∈(rowK l).1,inN p.d.num:=by
 obtain⟨n,h,b,_⟩:=Zgt l;intro p a;rw[h]at a;obtain⟨f,c,rfl⟩:=Y5.1 a;have:=Zbr b f c;show inN (scF f).num;rw[this];exact(Zdb (Za8 f (List.mem_of_mem_take c))).1
def Zvv(d:DiD):menD d=runS d (mendS (rowK d.fs).1 (rowK d.fs).2):=by
 unfold menD;rw[runP_S,Zsl (Zq6 d.fs)]
def Stp.men:Stp->Prop
 | .rem _| .cut _ _| .syn _=>True
 |_=>False
def Stp.nm:Stp->BA
 | .cre s| .wri s _| .rem s| .cut s _| .syn s=>s
def Stp.eff(l:List FiD):Stp->Option (List FiD)
 | .rem s=>match l.find? (λf=>decide (f.nm=s))with|none=>none|some _=>some (wout FiD.nm l s)
 | .cut s n=>match l.find? (λf=>decide (f.nm=s))with|none=>none|some f=>if n<0\/(f.len:Int)<n then none else some (withB FiD.nm l ⟨s,f.su.take n.toNat,f.lo.take (n.toNat-f.su.length)⟩)
 | .syn s=>match l.find? (λf=>decide (f.nm=s))with|none=>none|some f=>some (withB FiD.nm l ⟨s,f.su++f.lo,[]⟩)
 |_=>none
def run_eff{s:Stp}(b:s.men){d:DiD}(h:d.P)(c:d.dn=false)(e:fnB s.nm=true):(s.eff d.fs=none/\(s.run d).2≠0)\/∃g,s.eff d.fs=some g/\s.run d=d.perf g:=by
 have a:=er_of h c e e
 cases s with
 |cre s=>cases b
 |wri s x=>cases b
 |syn s=>
  simp only[Stp.run,Stp.eff,Zat,DiD.get];rw[if_neg (λq=>q a)]
  cases hg:d.fs.find? (λf=>decide (f.nm=s))with
  |none=>exact .inl ⟨rfl,Vs⟩
  |some f=>exact .inr ⟨_,rfl,rfl⟩
 |rem s=>
  simp only[Stp.run,Stp.eff,Zae,DiD.get];rw[if_neg (λq=>q a)]
  cases hg:d.fs.find? (λf=>decide (f.nm=s))with
  |none=>exact .inl ⟨rfl,Vs⟩
  |some f=>exact .inr ⟨_,rfl,rfl⟩
 |cut s n=>
  simp only[Stp.run,Stp.eff,opCut,DiD.get];rw[if_neg (λq=>q a)]
  cases hg:d.fs.find? (λf=>decide (f.nm=s))with
  |none=>exact .inl ⟨rfl,Vs⟩
  |some f=>
   dsimp only
   split
   .exact .inl ⟨rfl,Vs⟩
   .exact .inr ⟨_,rfl,rfl⟩
def Zvw:∀(l:List Stp) {d:DiD},(runP d l).2≠0->∃a s c e,l=a++s::c/\runP d a=(e,0)/\(s.run e).2≠0
 | [],d,h=>absurd rfl h
 |s::l,d,h=>by
  by_cases b:(s.run d).2≠0
  .exact⟨[],s,l,d,rfl,rfl,b⟩
  .rw[runP,if_neg b]at h;obtain⟨a,t,c,e,e1,e2,f⟩:=Zvw l h;have b:(s.run d).2=0:=(by simpa using b);refine⟨s::a,t,c,e,by rw[e1];rfl,?_,f⟩;rw[runP,if_neg (by simp[b])];exact e2
def Zq7(i:∀f∈y,fnB f.nm=true):∀s∈mendP (rowK y).1 (rowK y).2,s.men/\fnB s.nm=true:=by
 obtain⟨n,h,k,_⟩:=Zgt y;have g:=Zq6 y;have c:∀p∈(rowK y).1,fnB (nmG p.d.num)=true:=λp b=>by rw[Zfx (g p b)];exact segNm_ok _
 intro s a;unfold mendP at a
 rcases List.mem_append.1 a with a|a
 .obtain⟨x,e,rfl⟩:=Y5.1 a;refine⟨trivial,?_⟩;have e:x∈(rowK y).2:=(by simpa using e);rw[h]at e;obtain⟨f,j,rfl⟩:=Y5.1 e;exact i f (List.mem_filter.1 (List.mem_of_mem_drop j)).1
 .rcases List.mem_append.1 a with a|a
  .obtain⟨p,b,a⟩:=List.mem_flatMap.1 a;unfold cutP at a
   split at a
   .have:=List.mem_singleton.1 a;subst this;exact⟨trivial,c p (by simpa using b)⟩
   .cases a
  .unfold synP at a
   split at a
   .cases a
   next p b=>
    split at a
    .cases a
    .have:=List.mem_singleton.1 a;subst this;exact⟨trivial,c p (YM b)⟩
def Zyp(o:d.P)(q:d.dn=false)(hst:d.st= -1){s:Stp}{c:List Stp}(h:mendP (rowK d.fs).1 (rowK d.fs).2=s::c):(s.run d).2=0:=by
 obtain⟨A,C⟩:=Zq7 o.2.2.1 s (by rw[h];simp);obtain⟨n,j,t,_⟩:=Zgt d.fs;have w:=Zq6 d.fs;have fnd:∀g∈segs d.fs,d.fs.find? (λf=>decide (f.nm=g.nm))=some g:=λg b=>Zif o.2.2.2 (List.mem_filter.1 b).1;have l:∀p∈(rowK d.fs).1,∃g,d.fs.find? (λf=>decide (f.nm=nmG p.d.num))=some g/\p=ptF scF g:=λp e=>by have E:=w p e;rw[j]at e;obtain⟨g,b,rfl⟩:=Y5.1 e;have m:=List.mem_of_mem_take b;have y:nmG (scF g).num=g.nm:=(by have:inN (scF g).num:=E;rw[Zfx this,Zbr t g b];exact Zgs (Za8 g m));exact⟨g,by show d.fs.find? (λf=>decide (f.nm=nmG (scF g).num))=_;rw[y];exact fnd g m,rfl⟩
 have z:∃r,s.eff d.fs=some r:=by
  have a:s∈mendP (rowK d.fs).1 (rowK d.fs).2:=(by rw[h];simp);unfold mendP at a
  rcases List.mem_append.1 a with a|a
  .obtain⟨x,k,rfl⟩:=Y5.1 a;have k:x∈(rowK d.fs).2:=(by simpa using k);rw[j]at k;obtain⟨g,b,rfl⟩:=Y5.1 k;simp only[Stp.eff];rw[fnd g (List.mem_of_mem_drop b)];exact⟨_,rfl⟩
  .rcases List.mem_append.1 a with a|a
   .obtain⟨p,e,a⟩:=List.mem_flatMap.1 a;obtain⟨g,b,u⟩:=l p (by simpa using e);unfold cutP at a
    split at a
    .rename_i i;have:=List.mem_singleton.1 a;subst this;simp only[Stp.eff];rw[b]
     dsimp only
     have i:(segL p.d).length<g.len:=(by rw[u]at i|-;exact i);rw[if_neg Vo];exact⟨_,rfl⟩
    .cases a
   .unfold synP at a
    split at a
    .cases a
    next p e=>
     split at a
     .cases a
     .have:=List.mem_singleton.1 a;subst this;obtain⟨g,b,_⟩:=l p (YM e);simp only[Stp.eff];rw[b];exact⟨_,rfl⟩
 obtain⟨r,D⟩:=z
 rcases run_eff A o q C with⟨v,_⟩|⟨fs',_,hr⟩
 .rw[D]at v;cases v
 .rw[hr];unfold DiD.perf;rw[if_neg Vo]
def mend_well(i:d.P)(g:d.dn=false)(hst:d.st= -1):(menD d).2=0:=by
 refine Classical.byContradiction λl=>?_;unfold menD at l;obtain⟨a,s,c,b,e1,e2,q⟩:=Zvw _ l;have n:=Zq7 i.2.2.1
 have j:b.P/\b.dn=false/\b.st= -1:=by
  refine⟨by have:=Zw3 a i;rw[e2]at this;exact this,by rw[(Zp9 a e2).1];exact g,?_⟩
  have o:∀(a:List Stp) {d b:DiD},(∀s∈a,s.men/\fnB s.nm=true)->d.P->d.dn=false->d.st= -1->runP d a=(b,0)->b.st= -1:=λa=>by
   induction a with
   |nil=>intro d b _ _ _ h e;cases e;exact h
   |cons t a y=>
    intro d b k i g h e;obtain⟨z,f,r⟩:=Zi1 e;obtain⟨u,v⟩:=k t Vs
    rcases run_eff u i g v with⟨_,p⟩|⟨fs,_,hr⟩
    .rw[f]at p;exact absurd rfl p
    .rw[hr]at f;unfold DiD.perf DiD.tick at f;rw[if_neg Vo,if_neg Vo]at f
     cases f
     exact y (d:={d with fs:=fs}) (λx m=>k x (by simp[m])) (by have:=Zw2 (s:=t) i;rw[hr]at this;unfold DiD.perf DiD.tick at this;rw[if_neg Vo,if_neg Vo]at this;exact this) g h r
  exact o a (λx m=>n x (by rw[e1];simp[m])) i g hst e2
 have w:mendS (rowK d.fs).1 (rowK d.fs).2=a.map Stp.run++(s::c).map Stp.run:=(by rw[<-Zsl (Zq6 d.fs),e1,List.map_append]);rw[runP_S]at e2;obtain⟨f,_⟩:=Zw5 _ _ i.2.2.2 w Vs e2;rw[<-Zsl (Zq6 b.fs)]at f
 cases k:mendP (rowK b.fs).1 (rowK b.fs).2 with
 |nil=>rw[k]at f;simp at f
 |cons t A=>have:=Zyp j.1 j.2.1 j.2.2 k;rw[k]at f;simp only[List.map_cons,List.cons.injEq]at f;have o:t.run b=s.run b:=congrFun f.1 b;rw[o]at this;exact q this

import Derived.Test.YtgehiiginclniaaGreatDoorK10
import Derived.Test.YtgehiiginclniaaGreatDoorProg
import Derived.Laws.Externs
set_option linter.all false
set_option maxRecDepth 100000
variable{b c e i j k:Int}{n:Nat}{l r:Go.Px.LL}{Q:Go.Px.QQ}{s t:BA}{x:List Int}{o:Bool}{C:List Go.Px.SV}{g:Go.Proofs.YtgehiiginclniaaGreatDoor.Sx.StD}
namespace Go.Proofs.YtgehiiginclniaaGreatDoor
namespace Row
open Go Go.Px Go.Proofs Cmp Sx Tryz
abbrev st3(rows:LL)(s a:Int):SV:=.agg [SL 21 rows,I s,I a]
abbrev cu3(bs:LL)(a e:Int):SV:=.agg [SL 1 bs,I a,I e]
abbrev rd4(bs:LL)(a e:Int)(b:Bool):SV:=.agg [SL 1 bs,I a,I e,B b]
abbrev sL:Sig:=⟨[.lend [false,false,false,false]],[]⟩
def SgT:FuncId->Sig:=(λf=>bif Nat.beq f 271 then⟨[],[.own]⟩else bif Nat.beq f 272 then⟨[],[.own]⟩else bif Nat.beq f 149 then⟨[],[.own]⟩else bif Nat.beq f 218 then⟨[],[.own]⟩else bif Nat.beq f 307 then⟨[],[.own]⟩else bif Nat.beq f 321 then sL else bif Nat.beq f 355 then sL else bif Nat.beq f 322 then sL else bif Nat.beq f 356 then sL else{})
def SvT:TypeId->Sig:=λ_=>{}
def rput_nf{rows b:LL}(h:∃a:LL->Int->Prop,∃m:LL->Int->Nat,(a rows 0)/\∀l x,(a l x)->ifB (ilt x (rlen b)) (((0<=x)/\x<(rlen b))/\∃d,(rget b x=[I d])/\Cl prog 271 sO [SL 1 l,U64 (wcv .u64 d)] (λe=>∃c,(e=[SL 1 c])/\((Option.some []:Option LL)=Option.some [])/\(a c (wadd .i64 x 1))/\Nl (m c (wadd .i64 x 1)) (m l x))) (Q [SL 1 l])):Ct prog 304 {} [SL 1 rows,SL 1 b] Q:=
 fO SgT SvT (λk=>bif Nat.beq k 10 then some {slots:=[(0,false,[.sl 1]),(9,false,[.int .i64])],fixed:=[]}else none) func304 h
def putc_nf{rows:LL}{v w y z A C D E F G q r g nm t:Int}(h:Cl prog 272 sO [SL 1 rows,S s] (λU=>∃e,(U=[SL 1 e])/\Cl prog 304 sP ([SL 1 e,SL 1 ([[I b],[I i]])]) (λM=>∃L,(M=[SL 1 L])/\∃J:LL->Prop,∃m:LL->Nat,(ifB (ieq b 1) (Cl prog 304 sP ([SL 1 L,SL 1 ([[I j],[I k],[I (rlen l)]])]) (λc=>∃o,(c=[SL 1 o])/\∃p:LL->Int->Prop,∃O:LL->Int->Nat,(p o 0)/\∀a x,(p a x)->ifB (ilt x (rlen l)) (((0<=x)/\x<(rlen l))/\∃P R,(rget l x=[I P,I R])/\Cl prog 304 sP ([SL 1 a,SL 1 ([[I P],[I R]])]) (λn=>∃d,(n=[SL 1 d])/\(Sm (some ([[S s,I b,I i,I j,I k,SL 2 l,I v,I w,I y,I z,I A,I C,I D,I E,I F,I G,I q,I r,I g,I nm,I t],[SV.gd 0 true (SL 0 [])]])))/\(p d (wadd .i64 x 1))/\Nl (O d (wadd .i64 x 1)) (O a x))) ((Sm (some ([[S s,I b,I i,I j,I k,SL 2 l,I v,I w,I y,I z,I A,I C,I D,I E,I F,I G,I q,I r,I g,I nm,I t],[SV.gd 0 true (SL 0 [])]])))/\J a))) ((Sm (some ([[S s,I b,I i,I j,I k,SL 2 l,I v,I w,I y,I z,I A,I C,I D,I E,I F,I G,I q,I r,I g,I nm,I t],[SV.gd 0 true (SL 0 [])]])))/\J L))/\∀o,(J o)->ifB (bpick (ieq b 1) true (ieq b 3)) (Cl prog 304 sP ([SL 1 o,SL 1 ([[I v],[I w],[I y],[I z],[I A],[I C],[I D],[I E],[I F]])]) (λc=>∃a,(c=[SL 1 a])/\Cl prog 304 sP ([SL 1 a,SL 1 ([[I G]])]) (λn=>∃d,(n=[SL 1 d])/\ifB (bpick (ieq b 2) true (ieq b 3)) (Cl prog 304 sP ([SL 1 d,SL 1 ([[I q],[I r]])]) (λH=>∃K,(H=[SL 1 K])/\Cl prog 304 sP ([SL 1 K,SL 1 ([[I g],[I nm],[I t]])]) (λN=>∃T,(N=[SL 1 T])/\Q [SL 1 T]))) (Cl prog 304 sP ([SL 1 d,SL 1 ([[I g],[I nm],[I t]])]) (λH=>∃K,(H=[SL 1 K])/\Q [SL 1 K]))))) (ifB (bpick (ieq b 2) true (ieq b 3)) (Cl prog 304 sP ([SL 1 o,SL 1 ([[I q],[I r]])]) (λc=>∃a,(c=[SL 1 a])/\Cl prog 304 sP ([SL 1 a,SL 1 ([[I g],[I nm],[I t]])]) (λn=>∃d,(n=[SL 1 d])/\Q [SL 1 d]))) (Cl prog 304 sP ([SL 1 o,SL 1 ([[I g],[I nm],[I t]])]) (λc=>∃a,(c=[SL 1 a])/\Q [SL 1 a])))))):Ct prog 305 {} [SL 1 rows,cmp21 s b i j k l v w y z A C D E F G q r g nm t] Q:=
 fO SgT SvT (λu=>bif Nat.beq u 3000001 then some ({}:LoopSpec)else bif Nat.beq u 39 then some {slots:=[(0,false,[.sl 1]),(38,false,[.int .i64])],fixed:=[384,4]}else bif Nat.beq u 4000020 then some {slots:=[(0,false,[.sl 1])],fixed:=[384,4]}else none) func305 h
def renc_nf{rows:LL}(h:Cl prog 101 sP ([SV.agg [SL 21 rows,I i,I j]]) (λL=>∃b,(L=[B b])/\ifB (bnot b) (Q ([SL 1 [],I 1])) (Cl prog 304 sP ([SL 1 [],SL 1 ([[I (rlen rows)]])]) (λz=>∃l,(z=[SL 1 l])/\∃c:LL->Int->Prop,∃m:LL->Int->Nat,(c l 0)/\∀e x,(c e x)->ifB (ilt x (rlen rows)) (((0<=x)/\x<(rlen rows))/\∃s A,∃C D,∃E d,∃F G,∃H J,∃K g,∃q t,∃n o,∃p r,∃u v w,(rget rows x=[S s,I A,I C,I D,I E,SL 2 d,I F,I G,I H,I J,I K,I g,I q,I t,I n,I o,I p,I r,I u,I v,I w])/\Cl prog 305 sP ([SL 1 e,SV.agg [S s,I A,I C,I D,I E,SL 2 d,I F,I G,I H,I J,I K,I g,I q,I t,I n,I o,I p,I r,I u,I v,I w]]) (λa=>∃y,(a=[SL 1 y])/\(Sm (some ([[SL 21 rows,I i,I j]])))/\(c y (wadd .i64 x 1))/\Nl (m y (wadd .i64 x 1)) (m e x))) (Cl prog 304 sP ([SL 1 e,SL 1 ([[I i],[I j]])]) (λa=>∃d,(a=[SL 1 d])/\Q [SL 1 d,I 0])))))):Ct prog 241 {} [st3 rows i j] Q:=
 fO SgT SvT (λk=>bif Nat.beq k 19 then some {slots:=[(4,false,[.sl 1]),(18,false,[.int .i64])],fixed:=[128]}else none) func241 h
def rnum_nf{bad:Bool}(h:Cl prog 353 sP ([SV.agg [SL 1 l,I b,I i]]) (λd=>∃bs x,∃a c,(d=[SV.agg [SL 1 bs,I x,I a],U64 c])/\ifB (bpick (ine a 0) true (igt c 9223372036854775807)) (Q ([I 0,SV.agg [SL 1 bs,I x,I a,B true]])) (Q ([I (wcv .i64 c),SV.agg [SL 1 bs,I x,I a,B bad]])))):Ct prog 321 ⟨[.lend [false,false,false,false]],[]⟩ [rd4 l b i bad] Q:=
 fN SgT SvT func321 h
def rtxt_nf{bad:Bool}(h:Cl prog 371 sP ([SV.agg [SL 1 l,I b,I i],I 24]) (λc=>∃bs x,∃a s,(c=[SV.agg [SL 1 bs,I x,I a],S s])/\ifB (ine a 0) (Q ([S (bA []),SV.agg [SL 1 bs,I x,I a,B true]])) (Q ([S s,SV.agg [SL 1 bs,I x,I a,B bad]])))):Ct prog 355 ⟨[.lend [false,false,false,false]],[]⟩ [rd4 l b i bad] Q:=
 fN SgT SvT func355 h
def rwin_nf{bad:Bool}(h:Cl prog 321 (Sig.mk ([Md.lend [false,false,false,false]]) []) ([SV.agg [SL 1 l,I i,I j,B bad]]) (λT=>∃x bs,∃H J b,(T=[I x,SV.agg [SL 1 bs,I H,I J,B b]])/\Cl prog 321 (Sig.mk ([Md.lend [false,false,false,false]]) []) ([SV.agg [SL 1 bs,I H,I J,B b]]) (λD=>∃v K,∃L M N,(D=[I v,SV.agg [SL 1 K,I L,I M,B N]])/\Cl prog 321 (Sig.mk ([Md.lend [false,false,false,false]]) []) ([SV.agg [SL 1 K,I L,I M,B N]]) (λE=>∃w y,∃z A O,(E=[I w,SV.agg [SL 1 y,I z,I A,B O]])/\ifB (igt w 16) (Q ([SV.agg ([I x,I v,SL 2 []]),SV.agg [SL 1 y,I z,I A,B true]])) (∃n:Int->LL->Int->Int->Bool->Int->Int->LL->Prop,∃m:Int->LL->Int->Int->Bool->Int->Int->LL->Nat,(n 0 y z A O x v [])/\∀o r,∀d e,∀b3 a,∀c er,(n o r d e b3 a c er)->ifB (ilt o w) (Cl prog 321 (Sig.mk ([Md.lend [false,false,false,false]]) []) ([SV.agg [SL 1 r,I d,I e,B b3]]) (λF=>∃g P,∃t u R,(F=[I g,SV.agg [SL 1 P,I t,I u,B R]])/\Cl prog 321 (Sig.mk ([Md.lend [false,false,false,false]]) []) ([SV.agg [SL 1 P,I t,I u,B R]]) (λG=>∃s C,∃p q b5,(G=[I s,SV.agg [SL 1 C,I p,I q,B b5]])/\((lsum (rlen er) (rlen ([[I g,I s]])))<=2147483648)/\(Sm (some ([[I 0,I 0,SV.slice 2 [] 1]])))/\(n (wadd .i64 o 1) C p q b5 a c (rapp er ([[I g,I s]])))/\Nl (m (wadd .i64 o 1) C p q b5 a c (rapp er ([[I g,I s]]))) (m o r d e b3 a c er)))) (Q ([SV.agg [I a,I c,SL 2 er],SV.agg [SL 1 r,I d,I e,B b3]]))))))):Ct prog 356 ⟨[.lend [false,false,false,false]],[]⟩ [rd4 l i j bad] Q:=
 fO SgT SvT (λk=>bif Nat.beq k 23 then some {slots:=[(22,false,[.int .i64])],boxes:=[(1048576,[.sl 1,.int .i64,.int .i64,.bool]),(384,[.int .i64,.int .i64,.own 2])],fixed:=[256]}else none) func356 h
def rcomp_nf{bad:Bool}(h:Cl prog 355 (Sig.mk ([Md.lend [false,false,false,false]]) []) ([SV.agg [SL 1 l,I i,I j,B bad]]) (λrs=>∃s bs,∃x x1 b,(rs=[S s,SV.agg [SL 1 bs,I x,I x1,B b]])/\Cl prog 321 (Sig.mk ([Md.lend [false,false,false,false]]) []) ([SV.agg [SL 1 bs,I x,I x1,B b]]) (λbw=>∃x2 l1,∃x3 x4 b1,(bw=[I x2,SV.agg [SL 1 l1,I x3,I x4,B b1]])/\ifB (bpick (ilt x2 1) true (igt x2 3)) (Q ([SV.agg ([S s,I 0,I 0,I 0,I 0,SL 2 [],I 0,I 0,I 0,I 0,I 0,I 0,I 0,I 0,I 0,I 0,I 0,I 0,I 0,I 0,I 0]),SV.agg [SL 1 l1,I x3,I x4,B true]])) (Cl prog 321 (Sig.mk ([Md.lend [false,false,false,false]]) []) ([SV.agg [SL 1 l1,I x3,I x4,B b1]]) (λbx=>∃x5 l2,∃x6 x7 b2,(bx=[I x5,SV.agg [SL 1 l2,I x6,I x7,B b2]])/\∃ao:LL->Int->Int->Bool->BA->Int->Int->Int->Int->LL->Int->Int->Int->Int->Int->Int->Int->Int->Int->Int->Int->Int->Int->Int->Int->Prop,∃m:LL->Int->Int->Bool->BA->Int->Int->Int->Int->LL->Int->Int->Int->Int->Int->Int->Int->Int->Int->Int->Int->Int->Int->Int->Int->Nat,(ifB (ieq x2 1) (Cl prog 356 (Sig.mk ([Md.lend [false,false,false,false]]) []) ([SV.agg [SL 1 l2,I x6,I x7,B b2]]) (λa8=>∃x8 x9,∃l3 l4,∃ac ai b3,(a8=[SV.agg [I x8,I x9,SL 2 l3],SV.agg [SL 1 l4,I ac,I ai,B b3]])/\(Sm (some ([[S (bA []),I 0,I 0,I 0,I 0,SV.slice 2 [] 1,I 0,I 0,I 0,I 0,I 0,I 0,I 0,I 0,I 0,I 0,I 0,I 0,I 0,I 0,I 0]])))/\ao l4 ac ai b3 s x2 x5 x8 x9 l3 0 0 0 0 0 0 0 0 0 0 0 0 0 0 0)) ((Sm (some ([[S (bA []),I 0,I 0,I 0,I 0,SV.slice 2 [] 1,I 0,I 0,I 0,I 0,I 0,I 0,I 0,I 0,I 0,I 0,I 0,I 0,I 0,I 0,I 0]])))/\ao l2 x6 x7 b2 s x2 x5 0 0 [] 0 0 0 0 0 0 0 0 0 0 0 0 0 0 0))/\∀l3 x8,∀x9 b3,∀s1 ac,∀ai ap,∀aq l4,∀ar au,∀av aw,∀ax ay,∀az b0,∀b8 b9,∀ba bb,∀bc bd be,(ao l3 x8 x9 b3 s1 ac ai ap aq l4 ar au av aw ax ay az b0 b8 b9 ba bb bc bd be)->∃an:LL->Int->Int->Bool->BA->Int->Int->Int->Int->LL->Int->Int->Int->Int->Int->Int->Int->Int->Int->Int->Int->Int->Int->Int->Int->Prop,∃m1:LL->Int->Int->Bool->BA->Int->Int->Int->Int->LL->Int->Int->Int->Int->Int->Int->Int->Int->Int->Int->Int->Int->Int->Int->Int->Nat,(ifB (bpick (ieq ac 1) true (ieq ac 3)) (∃J:Int->LL->Int->Int->Bool->BA->Int->Int->Int->Int->LL->Int->Int->Int->Int->Int->Int->Int->Int->Int->Int->Int->Int->Int->Int->Int->Prop,∃O:Int->LL->Int->Int->Bool->BA->Int->Int->Int->Int->LL->Int->Int->Int->Int->Int->Int->Int->Int->Int->Int->Int->Int->Int->Int->Int->Nat,(J 0 l3 x8 x9 b3 s1 ac ai ap aq l4 ar au av aw ax ay az b0 b8 b9 ba bb bc bd be)/\∀a l5,∀M L,∀b4 G,∀d e,∀g bf,∀H q,∀r t,∀u v,∀w y,∀z A,∀C p,∀er n,∀o c,(J a l5 M L b4 G d e g bf H q r t u v w y z A C p er n o c)->ifB (ilt a 9) (Cl prog 321 (Sig.mk ([Md.lend [false,false,false,false]]) []) ([SV.agg [SL 1 l5,I M,I L,B b4]]) (λa8=>∃D K,∃E F b5,(a8=[I D,SV.agg [SL 1 K,I E,I F,B b5]])/\((0<=a)/\a<9)/\((a=0)->(Sm (some ([[S (bA []),I 0,I 0,I 0,I 0,SV.slice 2 [] 1,I 0,I 0,I 0,I 0,I 0,I 0,I 0,I 0,I 0,I 0,I 0,I 0,I 0,I 0,I 0]])))/\(J (wadd .i64 a 1) K E F b5 G d e g bf H D r t u v w y z A C p er n o c)/\Nl (O (wadd .i64 a 1) K E F b5 G d e g bf H D r t u v w y z A C p er n o c) (O a l5 M L b4 G d e g bf H q r t u v w y z A C p er n o c))/\((a=1)->(Sm (some ([[S (bA []),I 0,I 0,I 0,I 0,SV.slice 2 [] 1,I 0,I 0,I 0,I 0,I 0,I 0,I 0,I 0,I 0,I 0,I 0,I 0,I 0,I 0,I 0]])))/\(J (wadd .i64 a 1) K E F b5 G d e g bf H q D t u v w y z A C p er n o c)/\Nl (O (wadd .i64 a 1) K E F b5 G d e g bf H q D t u v w y z A C p er n o c) (O a l5 M L b4 G d e g bf H q r t u v w y z A C p er n o c))/\((a=2)->(Sm (some ([[S (bA []),I 0,I 0,I 0,I 0,SV.slice 2 [] 1,I 0,I 0,I 0,I 0,I 0,I 0,I 0,I 0,I 0,I 0,I 0,I 0,I 0,I 0,I 0]])))/\(J (wadd .i64 a 1) K E F b5 G d e g bf H q r D u v w y z A C p er n o c)/\Nl (O (wadd .i64 a 1) K E F b5 G d e g bf H q r D u v w y z A C p er n o c) (O a l5 M L b4 G d e g bf H q r t u v w y z A C p er n o c))/\((a=3)->(Sm (some ([[S (bA []),I 0,I 0,I 0,I 0,SV.slice 2 [] 1,I 0,I 0,I 0,I 0,I 0,I 0,I 0,I 0,I 0,I 0,I 0,I 0,I 0,I 0,I 0]])))/\(J (wadd .i64 a 1) K E F b5 G d e g bf H q r t D v w y z A C p er n o c)/\Nl (O (wadd .i64 a 1) K E F b5 G d e g bf H q r t D v w y z A C p er n o c) (O a l5 M L b4 G d e g bf H q r t u v w y z A C p er n o c))/\((a=4)->(Sm (some ([[S (bA []),I 0,I 0,I 0,I 0,SV.slice 2 [] 1,I 0,I 0,I 0,I 0,I 0,I 0,I 0,I 0,I 0,I 0,I 0,I 0,I 0,I 0,I 0]])))/\(J (wadd .i64 a 1) K E F b5 G d e g bf H q r t u D w y z A C p er n o c)/\Nl (O (wadd .i64 a 1) K E F b5 G d e g bf H q r t u D w y z A C p er n o c) (O a l5 M L b4 G d e g bf H q r t u v w y z A C p er n o c))/\((a=5)->(Sm (some ([[S (bA []),I 0,I 0,I 0,I 0,SV.slice 2 [] 1,I 0,I 0,I 0,I 0,I 0,I 0,I 0,I 0,I 0,I 0,I 0,I 0,I 0,I 0,I 0]])))/\(J (wadd .i64 a 1) K E F b5 G d e g bf H q r t u v D y z A C p er n o c)/\Nl (O (wadd .i64 a 1) K E F b5 G d e g bf H q r t u v D y z A C p er n o c) (O a l5 M L b4 G d e g bf H q r t u v w y z A C p er n o c))/\((a=6)->(Sm (some ([[S (bA []),I 0,I 0,I 0,I 0,SV.slice 2 [] 1,I 0,I 0,I 0,I 0,I 0,I 0,I 0,I 0,I 0,I 0,I 0,I 0,I 0,I 0,I 0]])))/\(J (wadd .i64 a 1) K E F b5 G d e g bf H q r t u v w D z A C p er n o c)/\Nl (O (wadd .i64 a 1) K E F b5 G d e g bf H q r t u v w D z A C p er n o c) (O a l5 M L b4 G d e g bf H q r t u v w y z A C p er n o c))/\((a=7)->(Sm (some ([[S (bA []),I 0,I 0,I 0,I 0,SV.slice 2 [] 1,I 0,I 0,I 0,I 0,I 0,I 0,I 0,I 0,I 0,I 0,I 0,I 0,I 0,I 0,I 0]])))/\(J (wadd .i64 a 1) K E F b5 G d e g bf H q r t u v w y D A C p er n o c)/\Nl (O (wadd .i64 a 1) K E F b5 G d e g bf H q r t u v w y D A C p er n o c) (O a l5 M L b4 G d e g bf H q r t u v w y z A C p er n o c))/\((a=8)->(Sm (some ([[S (bA []),I 0,I 0,I 0,I 0,SV.slice 2 [] 1,I 0,I 0,I 0,I 0,I 0,I 0,I 0,I 0,I 0,I 0,I 0,I 0,I 0,I 0,I 0]])))/\(J (wadd .i64 a 1) K E F b5 G d e g bf H q r t u v w y z D C p er n o c)/\Nl (O (wadd .i64 a 1) K E F b5 G d e g bf H q r t u v w y z D C p er n o c) (O a l5 M L b4 G d e g bf H q r t u v w y z A C p er n o c))/\True)) (Cl prog 321 (Sig.mk ([Md.lend [false,false,false,false]]) []) ([SV.agg [SL 1 l5,I M,I L,B b4]]) (λa8=>∃D K,∃E F b5,(a8=[I D,SV.agg [SL 1 K,I E,I F,B b5]])/\(Sm (some ([[S (bA []),I 0,I 0,I 0,I 0,SV.slice 2 [] 1,I 0,I 0,I 0,I 0,I 0,I 0,I 0,I 0,I 0,I 0,I 0,I 0,I 0,I 0,I 0]])))/\an K E F b5 G d e g bf H q r t u v w y z A D p er n o c))) ((Sm (some ([[S (bA []),I 0,I 0,I 0,I 0,SV.slice 2 [] 1,I 0,I 0,I 0,I 0,I 0,I 0,I 0,I 0,I 0,I 0,I 0,I 0,I 0,I 0,I 0]])))/\an l3 x8 x9 b3 s1 ac ai ap aq l4 ar au av aw ax ay az b0 b8 b9 ba bb bc bd be))/\∀l5 a,∀M b4,∀G L,∀d e,∀g H,∀bf q,∀r t,∀u v,∀w y,∀z A,∀C p,∀er n o,(an l5 a M b4 G L d e g H bf q r t u v w y z A C p er n o)->∃J:LL->Int->Int->Bool->BA->Int->Int->Int->Int->LL->Int->Int->Int->Int->Int->Int->Int->Int->Int->Int->Int->Int->Int->Int->Int->Prop,∃O:LL->Int->Int->Bool->BA->Int->Int->Int->Int->LL->Int->Int->Int->Int->Int->Int->Int->Int->Int->Int->Int->Int->Int->Int->Int->Nat,(ifB (bpick (ieq L 2) true (ieq L 3)) (Cl prog 321 (Sig.mk ([Md.lend [false,false,false,false]]) []) ([SV.agg [SL 1 l5,I a,I M,B b4]]) (λa8=>∃c K,∃D E b5,(a8=[I c,SV.agg [SL 1 K,I D,I E,B b5]])/\Cl prog 321 (Sig.mk ([Md.lend [false,false,false,false]]) []) ([SV.agg [SL 1 K,I D,I E,B b5]]) (λbz=>∃F l8,∃al am b6,(bz=[I F,SV.agg [SL 1 l8,I al,I am,B b6]])/\(Sm (some ([[S (bA []),I 0,I 0,I 0,I 0,SV.slice 2 [] 1,I 0,I 0,I 0,I 0,I 0,I 0,I 0,I 0,I 0,I 0,I 0,I 0,I 0,I 0,I 0]])))/\J l8 al am b6 G L d e g H bf q r t u v w y z A c F er n o))) ((Sm (some ([[S (bA []),I 0,I 0,I 0,I 0,SV.slice 2 [] 1,I 0,I 0,I 0,I 0,I 0,I 0,I 0,I 0,I 0,I 0,I 0,I 0,I 0,I 0,I 0]])))/\J l5 a M b4 G L d e g H bf q r t u v w y z A C p er n o))/\∀K c,∀D b5,∀s3 E,∀F al,∀am l8,∀bg bh,∀bi bj,∀bk bl,∀bm bn,∀bo bp,∀bq br,∀bt bu bv,(J K c D b5 s3 E F al am l8 bg bh bi bj bk bl bm bn bo bp bq br bt bu bv)->∃ad:Int->LL->Int->Int->Bool->BA->Int->Int->Int->Int->LL->Int->Int->Int->Int->Int->Int->Int->Int->Int->Int->Int->Int->Int->Int->Int->Prop,∃m3:Int->LL->Int->Int->Bool->BA->Int->Int->Int->Int->LL->Int->Int->Int->Int->Int->Int->Int->Int->Int->Int->Int->Int->Int->Int->Int->Nat,(ad 0 K c D b5 s3 E F al am l8 bg bh bi bj bk bl bm bn bo bp bq br bt bu bv)/\∀N l9,∀aj ak,∀b6 s4,∀P R,∀T U,∀V W,∀X Y,∀Z a0,∀a1 a2,∀a3 a4,∀a5 a6,∀a7 a9,∀aa ab,(ad N l9 aj ak b6 s4 P R T U V W X Y Z a0 a1 a2 a3 a4 a5 a6 a7 a9 aa ab)->ifB (ilt N 3) (Cl prog 321 (Sig.mk ([Md.lend [false,false,false,false]]) []) ([SV.agg [SL 1 l9,I aj,I ak,B b6]]) (λa8=>∃ae af,∃ag ah b7,(a8=[I ae,SV.agg [SL 1 af,I ag,I ah,B b7]])/\((0<=N)/\N<3)/\((N=0)->(Sm (some ([[S (bA []),I 0,I 0,I 0,I 0,SV.slice 2 [] 1,I 0,I 0,I 0,I 0,I 0,I 0,I 0,I 0,I 0,I 0,I 0,I 0,I 0,I 0,I 0]])))/\(ad (wadd .i64 N 1) af ag ah b7 s4 P R T U V W X Y Z a0 a1 a2 a3 a4 a5 a6 a7 ae aa ab)/\Nl (m3 (wadd .i64 N 1) af ag ah b7 s4 P R T U V W X Y Z a0 a1 a2 a3 a4 a5 a6 a7 ae aa ab) (m3 N l9 aj ak b6 s4 P R T U V W X Y Z a0 a1 a2 a3 a4 a5 a6 a7 a9 aa ab))/\((N=1)->(Sm (some ([[S (bA []),I 0,I 0,I 0,I 0,SV.slice 2 [] 1,I 0,I 0,I 0,I 0,I 0,I 0,I 0,I 0,I 0,I 0,I 0,I 0,I 0,I 0,I 0]])))/\(ad (wadd .i64 N 1) af ag ah b7 s4 P R T U V W X Y Z a0 a1 a2 a3 a4 a5 a6 a7 a9 ae ab)/\Nl (m3 (wadd .i64 N 1) af ag ah b7 s4 P R T U V W X Y Z a0 a1 a2 a3 a4 a5 a6 a7 a9 ae ab) (m3 N l9 aj ak b6 s4 P R T U V W X Y Z a0 a1 a2 a3 a4 a5 a6 a7 a9 aa ab))/\((N=2)->(Sm (some ([[S (bA []),I 0,I 0,I 0,I 0,SV.slice 2 [] 1,I 0,I 0,I 0,I 0,I 0,I 0,I 0,I 0,I 0,I 0,I 0,I 0,I 0,I 0,I 0]])))/\(ad (wadd .i64 N 1) af ag ah b7 s4 P R T U V W X Y Z a0 a1 a2 a3 a4 a5 a6 a7 a9 aa ae)/\Nl (m3 (wadd .i64 N 1) af ag ah b7 s4 P R T U V W X Y Z a0 a1 a2 a3 a4 a5 a6 a7 a9 aa ae) (m3 N l9 aj ak b6 s4 P R T U V W X Y Z a0 a1 a2 a3 a4 a5 a6 a7 a9 aa ab))/\True)) (Q ([SV.agg [S s4,I P,I R,I T,I U,SL 2 V,I W,I X,I Y,I Z,I a0,I a1,I a2,I a3,I a4,I a5,I a6,I a7,I a9,I aa,I ab],SV.agg [SL 1 l9,I aj,I ak,B b6]]))))))):Ct prog 322 ⟨[.lend [false,false,false,false]],[]⟩ [rd4 l i j bad] Q:=
 fO SgT SvT (λk=>bif Nat.beq k 42 then some {slots:=[(41,false,[.int .i64])],boxes:=[(1048576,[.sl 1,.int .i64,.int .i64,.bool]),(384,[.str,.int .i64,.int .i64,.int .i64,.int .i64,.sl 2,.int .i64,.int .i64,.int .i64,.int .i64,.int .i64,.int .i64,.int .i64,.int .i64,.int .i64,.int .i64,.int .i64,.int .i64,.int .i64,.int .i64,.int .i64])],fixed:=[256]}else bif Nat.beq k 72 then some {slots:=[(71,false,[.int .i64])],boxes:=[(1048576,[.sl 1,.int .i64,.int .i64,.bool]),(384,[.str,.int .i64,.int .i64,.int .i64,.int .i64,.sl 2,.int .i64,.int .i64,.int .i64,.int .i64,.int .i64,.int .i64,.int .i64,.int .i64,.int .i64,.int .i64,.int .i64,.int .i64,.int .i64,.int .i64,.int .i64])],fixed:=[256]}else bif Nat.beq k 4000029 then some {boxes:=[(1048576,[.sl 1,.int .i64,.int .i64,.bool]),(384,[.str,.int .i64,.int .i64,.int .i64,.int .i64,.sl 2,.int .i64,.int .i64,.int .i64,.int .i64,.int .i64,.int .i64,.int .i64,.int .i64,.int .i64,.int .i64,.int .i64,.int .i64,.int .i64,.int .i64,.int .i64])],fixed:=[256]}else bif Nat.beq k 4000040 then some {boxes:=[(1048576,[.sl 1,.int .i64,.int .i64,.bool]),(384,[.str,.int .i64,.int .i64,.int .i64,.int .i64,.sl 2,.int .i64,.int .i64,.int .i64,.int .i64,.int .i64,.int .i64,.int .i64,.int .i64,.int .i64,.int .i64,.int .i64,.int .i64,.int .i64,.int .i64,.int .i64])],fixed:=[256]}else bif Nat.beq k 4000062 then some {boxes:=[(1048576,[.sl 1,.int .i64,.int .i64,.bool]),(384,[.str,.int .i64,.int .i64,.int .i64,.int .i64,.sl 2,.int .i64,.int .i64,.int .i64,.int .i64,.int .i64,.int .i64,.int .i64,.int .i64,.int .i64,.int .i64,.int .i64,.int .i64,.int .i64,.int .i64,.int .i64])],fixed:=[256]}else none) func322 h
def rdec_nf(h:Cl prog 320 sP [SL 1 l] (λrs=>∃bs x Z,(rs=[SV.agg [SL 1 bs,I x,I Z]])/\Cl prog 321 (Sig.mk ([Md.lend [false,false,false,false]]) []) ([SV.agg [SL 1 bs,I x,I Z,B false]]) (λV=>∃U l1,∃x3 x4 b,(V=[I U,SV.agg [SL 1 l1,I x3,I x4,B b]])/\ifB (igt U 12) (Q ([SV.agg ([SL 21 [],I 0,I 0]),I 11])) (∃H:Int->LL->Int->Int->Bool->LL->Int->Int->Prop,∃m:Int->LL->Int->Int->Bool->LL->Int->Int->Nat,(H 0 l1 x3 x4 b [] 0 0)/\∀J M,∀N O,∀P n,∀R T,(H J M N O P n R T)->ifB (ilt J U) (Cl prog 322 (Sig.mk ([Md.lend [false,false,false,false]]) []) ([SV.agg [SL 1 M,I N,I O,B P]]) (λG=>∃s a,∃d e,∃c o,∃g i,∃j p,∃q r,∃t u,∃v w,∃y z,∃A C,∃D E,∃K L F,(G=[SV.agg [S s,I a,I d,I e,I c,SL 2 o,I g,I i,I j,I p,I q,I r,I t,I u,I v,I w,I y,I z,I A,I C,I D],SV.agg [SL 1 E,I K,I L,B F]])/\((lsum (rlen n) (rlen ([[S s,I a,I d,I e,I c,SL 2 o,I g,I i,I j,I p,I q,I r,I t,I u,I v,I w,I y,I z,I A,I C,I D]])))<=2147483648)/\(Sm (some ([[SV.slice 21 [] 1,I 0,I 0]])))/\(H (wadd .i64 J 1) E K L F (rapp n ([[S s,I a,I d,I e,I c,SL 2 o,I g,I i,I j,I p,I q,I r,I t,I u,I v,I w,I y,I z,I A,I C,I D]])) R T)/\Nl (m (wadd .i64 J 1) E K L F (rapp n ([[S s,I a,I d,I e,I c,SL 2 o,I g,I i,I j,I p,I q,I r,I t,I u,I v,I w,I y,I z,I A,I C,I D]])) R T) (m J M N O P n R T))) (Cl prog 321 (Sig.mk ([Md.lend [false,false,false,false]]) []) ([SV.agg [SL 1 M,I N,I O,B P]]) (λG=>∃a o,∃d e F,(G=[I a,SV.agg [SL 1 o,I d,I e,B F]])/\Cl prog 321 (Sig.mk ([Md.lend [false,false,false,false]]) []) ([SV.agg [SL 1 o,I d,I e,B F]]) (λW=>∃c E,∃g i b3,(W=[I c,SV.agg [SL 1 E,I g,I i,B b3]])/\ifB b3 (Q ([SV.agg ([SL 21 [],I 0,I 0]),I 11])) (Cl prog 323 sP ([SV.agg [SL 1 E,I g,I i]]) (λX=>∃j,(X=[I j])/\ifB (ine j 0) (Q ([SV.agg ([SL 21 [],I 0,I 0]),I 11])) (Cl prog 101 sP ([SV.agg [SL 21 n,I a,I c]]) (λY=>∃b4,(Y=[B b4])/\ifB (bnot b4) (Q ([SV.agg ([SL 21 [],I 0,I 0]),I 11])) (Q ([SV.agg [SL 21 n,I a,I c],I 0]))))))))))))):Ct prog 259 {} [SL 1 l] Q:=
 fO SgT SvT (λk=>bif Nat.beq k 18 then some {slots:=[(17,false,[.int .i64])],boxes:=[(1280,[.sl 1,.int .i64,.int .i64,.bool]),(640,[.own 21,.int .i64,.int .i64])],fixed:=[256]}else none) func259 h
end Row
namespace Row
open Go Go.Px Go.Proofs Cmp Sx Cod Tryz
def Gd(l pre:List Int)(a er:Int)(b:Bool):Prop:=b=false/\er=0/\a=pre.length/\pre<+:l
structure NR(l:List Int)(a er:Int)(b:Bool)(n a' er':Int)(b':Bool):Prop where
 rg:rng n
 snd:b'=false->b=false/\∀pre,Gd l pre a er b->Gd l (pre++leb n.toNat) a' er' b'
 cmp:∀pre (m:Int),rng m->Gd l pre a er b->pre++leb m.toNat<+:l->b'=false/\n=m
def Zdv(l:List Int)(a er:Int)(b:Bool)(v:l.length<=100000)(w:Byts l):Ct prog 321 sL [rd4 (bR l) a er b] (λr=>∃n p i q,r=[I n,rd4 (bR l) p i q]/\NR l a er b n p i q):=by
 refine rnum_nf (Cl.ofQ (Zgo l a er v w) ?_);rintro r ⟨a1,er1,n,rfl,ho,hs⟩;have E:=ho.n0;have j:∀pre (m:Int),rng m->Gd l pre a er b->pre++leb m.toNat<+:l->er1=0/\n=m/\b=false:=(by rintro pre m c ⟨k,u,o,g⟩ f;obtain⟨t,x⟩:=Zw6 o f;unfold rng at c;obtain⟨F,y,G⟩:=ho.good u Vo m.toNat t x Vo;exact⟨y,Vo,k⟩);refine⟨_,_,_,_,rfl,Zaa (λh=>?_) (λh=>?_)⟩
 .simp at h;refine⟨0,a1,er1,true,rfl,⟨by unfold rng;omega,(λe=>nomatch e),λpre m c d f=>?_⟩⟩;obtain⟨z,s,_⟩:=j pre m c d f;unfold rng at c;omega
 .simp at h;rw[Zka];refine⟨n,a1,er1,b,rfl,⟨⟨E,Vo⟩,λe=>⟨e,λpre d=>?_⟩,λpre m c d f=>?_⟩⟩
  .obtain⟨k,u,o,g⟩:=d;obtain⟨H,J,A,C,s4⟩:=hs h.1;exact⟨k,h.1,Vm,Zw7 o g C⟩
  .obtain⟨z,s,D⟩:=j pre m c d f;exact⟨D,s⟩
structure PS(l:List Int)(a0 er0:Int)(b0:Bool)(s:BA)(ns:List Int)(a er:Int)(b:Bool):Prop where
 rg:∀n∈ns,rng n
 snd:b=false->b0=false/\s.size<=24/\∀pre,Gd l pre a0 er0 b0->Gd l (pre++(leb s.size++(txB s++encN ns))) a er b
 cmp:∀pre c0,shp c0->Gd l pre a0 er0 b0->pre++encC c0<+:l->b=false/\c0.nm=s/\ns<+:numC c0
def PS.num{l:List Int}{v j:Int}{w:Bool}{s:BA}{f:List Int}{a er:Int}{b:Bool}{n a' er':Int}{y:Bool}(p:PS l v j w s f a er b)(q:NR l a er b n a' er' y)
  (h:∀c,shp c->f<+:numC c->f.length<(numC c).length):PS l v j w s (f++[n]) a' er' y:=by
 refine⟨λx g=>?_,λe=>?_,λpre c o i r=>?_⟩
 .rcases List.mem_append.1 g with g|g
  .exact p.rg x g
  .simp at g;rw[g];exact q.rg
 .obtain⟨e1,z⟩:=q.snd e;obtain⟨e2,d,A⟩:=p.snd e1;refine⟨e2,d,λpre i=>?_⟩;have:=z _ (A pre i);rw[Zi4,Zqc]
  simpa using this
 .obtain⟨e1,e2,⟨t,d⟩⟩:=p.cmp pre c o i r;have k:=h c o ⟨t,d⟩
  cases t with
  |nil=>rw[<-d]at k;simp at k
  |cons m t=>
   have E:rng m:=o.n m (by rw[<-d];simp)
   have u:pre++(leb s.size++(txB s++encN f))++leb m.toNat<+:l:=by
    have:encC c=(leb s.size++(txB s++encN f)++leb m.toNat)++encN t:=(by rw[encC,<-d,e2,Zi4,show m::t=[m]++t from rfl,Zi4,Zqc];simp);rw[this]at r;have:=pre_more r
    simpa using this
   obtain⟨C,D⟩:=q.cmp _ m E ((p.snd e1).2.2 pre i) u;exact⟨C,e2,⟨t,by rw[<-d,D];simp⟩⟩
def PS.bad{l:List Int}{f d:Int}{g:Bool}{s s':BA}{i ns':List Int}{a er:Int}{b:Bool}{a' er':Int}(p:PS l f d g s i a er b)
  (h:∀c,shp c->i<+:numC c->False) (k:∀n∈ns',rng n):PS l f d g s' ns' a' er' true:=
 ⟨k,(λe=>nomatch e),λpre c j m o=>(h c j (p.cmp pre c j m o).2.2).elim⟩
def rtxt_fn(l:List Int)(a er:Int)(b:Bool)(v:l.length<=100000)(w:Byts l):Ct prog 355 sL [rd4 (bR l) a er b] (λr=>∃s p j q,r=[S s,rd4 (bR l) p j q]/\PS l a er b s [] p j q):=by
 refine rtxt_nf (Cl.ofQ (textS_fn l a er v w) ?_);rintro r ⟨a1,er1,s,rfl,ho,hs⟩;have k:∀pre c,shp c->Gd l pre a er b->pre++encC c<+:l->er1=0/\s=c.nm/\b=false:=(by rintro pre c d ⟨n,u,o,i⟩ g;obtain⟨t,y⟩:=Zw6 o g;obtain⟨G,z,A⟩:=ho.good u Vo c.nm (encN (numC c)++t) (by rw[y,encC];simp) d.nm;exact⟨z,A,n⟩);refine⟨_,_,_,_,rfl,Zaa (λh=>?_) (λh=>?_)⟩
 .simp at h;refine⟨_,_,_,_,rfl,⟨Vs,(λe=>nomatch e),λpre c d f g=>?_⟩⟩;exact absurd (k pre c d f g).1 h
 .simp at h;obtain⟨H,J,C,m,D,s4⟩:=hs h;refine⟨_,_,_,_,rfl,⟨Vs,λe=>⟨e,C,λpre f=>?_⟩,λpre c d f g=>?_⟩⟩
  .obtain⟨n,u,o,i⟩:=f;refine⟨n,h,by simp[Zqd,Zce];omega,?_⟩;have:=Zw7 (x:=leb s.size++txB s) (t:=m) o i (by rw[D,List.append_assoc])
   simpa[Zqd]using this
  .obtain⟨K,E,F⟩:=k pre c d f g;exact⟨F,E.symm,W8⟩
def WR(l:List Int)(a er:Int)(b:Bool)(i j:Int)(d:List (Int×Int))(k e:Int)(m:Bool):Prop:=
 d.length<=16/\∀f c g s h,PS l f c g s [1,h] a er b->PS l f c g s (bas 1 h i j d) k e m
def bas1(b c d:Int)(a:List (Int×Int)):bas 1 b c d a=[1,b,c,d,(a.length:Int)]++flat a:=by simp[bas]
def Zsi{a:CoD}(b:shp a){x:List Int}(h:([1,c,i,e,k]++x)<+:numC a):(numC a).length=18+2*k.toNat/\0<=k/\k<=16:=by
 obtain⟨f,g,d,j,l⟩:=pre_win h;have:=b.cl;refine⟨?_,Vo,Vo⟩;simp only[numC,List.length_append,Zmu,Zge,Zht,f,List.length_cons,List.length_nil];simp;omega
def rwin_fn(l:List Int)(a er:Int)(b:Bool)(C:l.length<=100000)(D:Byts l):Ct prog 356 sL [rd4 (bR l) a er b] (λr=>∃u v m F z G,r=[.agg [I u,I v,SL 2 (cR m)],rd4 (bR l) F z G]/\WR l a er b u v m F z G):=by
 refine rwin_nf (Cl.ofQ (Zdv l a er b C D) ?_);rintro r ⟨u,a1,er1,b1,rfl,h1⟩;refine⟨_,_,_,_,_,rfl,Cl.ofQ (Zdv l a1 er1 b1 C D) ?_⟩;rintro r ⟨v,a2,er2,b2,rfl,h2⟩;refine⟨_,_,_,_,_,rfl,Cl.ofQ (Zdv l a2 er2 b2 C D) ?_⟩;rintro r ⟨k,a3,er3,b3,rfl,h3⟩
 have P:∀f d g s j,PS l f d g s [1,j] a er b->PS l f d g s [1,j,u,v,k] a3 er3 b3:=by
  intro f d g s j p;have K:=p.num h1 (λt _ _=>by have:=Zi5 (c:=t);simp;omega);have L:=K.num h2 (λt _ _=>by have:=Zi5 (c:=t);simp;omega)
  have U:=L.num h3 (λt A o=>by
   have:=Zi5 (c:=t);simp;omega)
  simpa using U
 have V:=h3.rg;unfold rng at V;refine⟨_,_,_,_,_,rfl,Zaa (λh=>?_) (λh=>?_)⟩
 .simp at h;refine⟨u,v,[],a3,er3,true,rfl,Vs,λf d g s j p=>?_⟩;have o:=P f d g s j p;refine o.bad (λt A E=>?_) (λn H=>?_)
  .have:=Zsi (x:=[]) A (by simpa using E);omega
  .rw[bas1]at H;simp[flat]at H
   rcases H with rfl|rfl|rfl|rfl|rfl
   .exact o.rg _ Vs
   .exact o.rg _ Vs
   .exact o.rg _ Vs
   .exact o.rg _ Vs
   .unfold rng;omega
 .simp at h
  refine⟨λi Q F z G M N rows=>Q=bR l/\M=u/\N=v/\0<=i/\i<=k/\∃m,rows=cR m/\(m.length:Int)=i/\∀f d g s j,PS l f d g s [1,j] a er b->PS l f d g s ([1,j,u,v,k]++flat m) F z G,
   λi _ _ _ _ _ _ _=>(k-i).toNat,⟨rfl,rfl,rfl,Vo,Vo,[],rfl,rfl,λf d g s j p=>by simpa[flat]using P f d g s j p⟩,?_⟩
  rintro i _ R O T _ _ _ ⟨rfl,rfl,rfl,i0,i1,m,rfl,hcl,o⟩;refine Zaa (λJ=>?_) (λJ=>?_)
  .simp at J;refine Cl.ofQ (Zdv l R O T C D) ?_;rintro r ⟨x,a5,er5,b5,rfl,h5⟩;refine⟨_,_,_,_,_,rfl,Cl.ofQ (Zdv l a5 er5 b5 C D) ?_⟩;rintro r ⟨y,a6,er6,b6,rfl,h6⟩;have w:wadd IntKind.i64 i 1=i+1:=Zab;rw[w];refine⟨_,_,_,_,_,rfl,?_,rfl,⟨rfl,rfl,rfl,Vo,Vo,m++[(x,y)],by simp[rapp],Vm,λf d g s j p=>?_⟩,?_⟩
   .simp[lsum,rlen];omega
   .have q:=o f d g s j p
    have K:=q.num h5 (λt A E=>by
     have:=Zsi A E
     simp[Zk2];omega)
    have L:=K.num h6 (λt A E=>by
     have:=Zsi (x:=flat m++[x]) A (by simpa using E)
     simp[Zk2];omega)
    have e:flat (m++[(x,y)])=flat m++[x]++[y]:=(by simp[flat]);rw[e]
    simpa using L
   .show Nat.succ (k-(i+1)).toNat<=(k-i).toNat;omega
  .simp at J;have:i=k:=Vo;subst this;refine⟨_,_,m,_,_,_,rfl,Vo,λf d g s j p=>?_⟩;rw[bas1,hcl];exact o f d g s j p
structure CR(l:List Int)(a er:Int)(b:Bool)(c:CoD)(a' er':Int)(b':Bool):Prop where
 cl:c.cl.length<=16
 snd:b'=false->shp c/\b=false/\∀pre,Gd l pre a er b->Gd l (pre++encC c) a' er' b'
 cmp:∀pre c0,shp c0->Gd l pre a er b->pre++encC c0<+:l->b'=false/\c=c0
def CR.ofPS{l:List Int}{a er:Int}{b:Bool}{c:CoD}{i d:Int}{j:Bool}(p:PS l a er b c.nm (numC c) i d j)(k:zro c)(o:1<=c.ro/\c.ro<=3)(m:c.cl.length<=16):CR l a er b c i d j:=by
 refine⟨m,λe=>?_,λpre q n r s=>?_⟩
 .obtain⟨f,g,h⟩:=p.snd e;exact⟨⟨k,o,g,m,p.rg⟩,f,h⟩
 .obtain⟨f,g,h⟩:=p.cmp pre q n r s;exact⟨f,Zqe k n.z g.symm h⟩
def Zvf{b:CoD}{f:List (Int×Int)}{x:List Int}(h:(bas i c j e f++x)<+:numC b)
  (g:x.length<(if i=1\/i=3 then 10 else 0)+((if i=2\/i=3 then 2 else 0)+3)):(bas i c j e f++x).length<(numC b).length:=by
 rw[(pre_bas h).2,List.length_append];omega
def rcomp_fn(l:List Int)(a er:Int)(b:Bool)(Z:l.length<=100000)(hb:Byts l):Ct prog 322 sL [rd4 (bR l) a er b] (λr=>∃c a' er' L,r=[CoD.sv c,rd4 (bR l) a' er' L]/\CR l a er b c a' er' L):=by
 refine rcomp_nf (Cl.ofQ (rtxt_fn l a er b Z hb) ?_);rintro r ⟨s,a1,er1,b1,rfl,p1⟩;refine⟨_,_,_,_,_,rfl,Cl.ofQ (Zdv l a1 er1 b1 Z hb) ?_⟩;rintro r ⟨d,a2,er2,b2,rfl,n2⟩;have p2:=p1.num n2 (λp _ _=>by have:=Zi5 (c:=p);simp;omega);simp only[List.nil_append]at p2;refine⟨_,_,_,_,_,rfl,Zaa (λh=>?_) (λh=>?_)⟩
 .simp at h
  have p3:PS l a er b s [] a2 er2 true:=p2.bad (s':=s) (ns':=[]) (a':=a2) (er':=er2) (λp g H=>by
   obtain⟨t,H⟩:=H;have:p.ro=d:=by simp only[numC,bas,Y4,List.nil_append,List.cons.injEq]at H;exact H.1.symm
   have:=g.r
   omega) Vs
  refine⟨⟨s,0,0,0,0,[],0,0,0,0,0,0,0,0,0,0,0,0,0,0,0⟩,a2,er2,true,rfl,⟨Vs,(λe=>nomatch e),λpre p g hg hp=>?_⟩⟩;exact absurd (p3.cmp pre p g hg hp).1 Vd
 simp at h;refine Cl.ofQ (Zdv l a2 er2 b2 Z hb) ?_;rintro r ⟨f,a3,er3,b3,rfl,n3⟩;have p3:=p2.num n3 (λp _ _=>by have:=Zi5 (c:=p);simp;omega);simp only[Y4,List.nil_append]at p3
 refine⟨_,_,_,_,_,rfl,
  λl' a' er' L s' J K i j rows u y z A C D E F G g n o p c1 c2=>l'=bR l/\s'=s/\J=d/\K=f/\(u=0/\y=0/\z=0/\A=0/\C=0/\D=0/\E=0/\F=0/\G=0/\g=0)/\(n=0/\o=0)/\
   ∃m,rows=cR m/\m.length<=16/\(d≠1->i=0/\j=0/\m=[])/\PS l a er b s (bas d f i j m) a' er' L,
  λ_ _ _ _ _ _ _ _ _ _ _ _ _ _ _ _ _ _ _ _ _ _ _ _ _=>0,Zaa (λe=>?_) (λe=>?_),?_⟩
 .simp at e;subst e;refine Cl.ofQ (rwin_fn l a3 er3 b3 Z hb) ?_;rintro r ⟨i,j,m,a4,ae,b4,rfl,hw⟩;exact⟨_,_,_,_,_,_,_,rfl,rfl,rfl,rfl,rfl,rfl,⟨rfl,rfl,rfl,rfl,rfl,rfl,rfl,rfl,rfl,rfl⟩,⟨rfl,rfl⟩,m,rfl,hw.1,(λh=>absurd rfl h),hw.2 _ _ _ _ _ p3⟩
 .simp at e;refine⟨rfl,rfl,rfl,rfl,rfl,⟨rfl,rfl,rfl,rfl,rfl,rfl,rfl,rfl,rfl,rfl⟩,⟨rfl,rfl⟩,[],rfl,Vs,λ_=>⟨rfl,rfl,rfl⟩,?_⟩;have:bas d f 0 0 []=[d,f]:=(by simp[bas,e]);rw[this];exact p3
 rintro _ a4 ae b4 s d f i j _ u y z A C D E F G g n o p c1 c2 ⟨rfl,rfl,rfl,rfl,hz,hz2,m,rfl,hcl,hcz,p4⟩
 refine⟨λl' a' er' L s' J K W X rows M N O P Q R T U V gs n o p c1 c2=>l'=bR l/\s'=s/\J=d/\K=f/\W=i/\X=j/\rows=cR m/\(n=0/\o=0)/\
   (d≠1->d≠3->M=0/\N=0/\O=0/\P=0/\Q=0/\R=0/\T=0/\U=0/\V=0/\gs=0)/\
   PS l a er b s (bas d f i j m++hst d [M,N,O,P,Q,R,T,U,V,gs]) a' er' L,
  λ_ _ _ _ _ _ _ _ _ _ _ _ _ _ _ _ _ _ _ _ _ _ _ _ _=>0,Zaa (λe=>?_) (λe=>?_),?_⟩
 .simp at e
  refine⟨λx l' a' er' L s' J K W X rows M N O P Q R T U V gs n o p c1 c2=>0<=x/\x<=9/\l'=bR l/\s'=s/\J=d/\K=f/\W=i/\X=j/\rows=cR m/\(n=0/\o=0)/\
    PS l a er b s (bas d f i j m++[M,N,O,P,Q,R,T,U,V].take x.toNat) a' er' L,
   λx _ _ _ _ _ _ _ _ _ _ _ _ _ _ _ _ _ _ _ _ _ _ _ _ _=>(9-x).toNat,⟨Vo,Vo,rfl,rfl,rfl,rfl,rfl,rfl,rfl,hz2,by simpa using p4⟩,?_⟩
  rintro x _ a5 a9 b5 s d f i j _ M N O P Q R T U V gs n o p c1 c2 ⟨x0,x9,rfl,rfl,rfl,rfl,rfl,rfl,rfl,hz3,p5⟩;refine Zaa (λY=>?_) (λY=>?_)
  .simp at Y;refine Cl.ofQ (Zdv l a5 a9 b5 Z hb) ?_;rintro r ⟨v,a6,a0,b6,rfl,n6⟩;have p6:=p5.num n6 (λp g H=>Zvf H (by rw[if_pos e];simp;omega));have w:wadd IntKind.i64 x 1=x+1:=Zab;rw[w]
   have step:∀(k:Nat) (f0 f1 f2 f3 f4 f5 f6 f7 f8:Int),x=(k:Int)->[f0,f1,f2,f3,f4,f5,f6,f7,f8].take (k+1)=[M,N,O,P,Q,R,T,U,V].take k++[v]->
     (0<=x+1/\x+1<=9/\bR l=bR l/\s=s/\d=d/\f=f/\i=i/\j=j/\cR m=cR m/\(n=0/\o=0)/\
      PS l a er b s (bas d f i j m++[f0,f1,f2,f3,f4,f5,f6,f7,f8].take (x+1).toNat) a6 a0 b6)/\Nl (9-(x+1)).toNat (9-x).toNat:=by
    intro k f0 f1 f2 f3 f4 f5 f6 f7 f8 hk hf;refine⟨⟨Vo,Vo,rfl,rfl,rfl,rfl,rfl,rfl,rfl,hz3,?_⟩,by show Nat.succ _<=_;omega⟩;have e1:(x+1).toNat=k+1:=Vo;have e2:x.toNat=k:=Vo;rw[e1,hf,<-List.append_assoc,<-e2];exact p6
   exact⟨_,_,_,_,_,rfl,⟨x0,Y⟩,λe=>⟨rfl,step 0 _ _ _ _ _ _ _ _ _ e rfl⟩,λe=>⟨rfl,step 1 _ _ _ _ _ _ _ _ _ e rfl⟩,λe=>⟨rfl,step 2 _ _ _ _ _ _ _ _ _ e rfl⟩,λe=>⟨rfl,step 3 _ _ _ _ _ _ _ _ _ e rfl⟩,
    λe=>⟨rfl,step 4 _ _ _ _ _ _ _ _ _ e rfl⟩,λe=>⟨rfl,step 5 _ _ _ _ _ _ _ _ _ e rfl⟩,λe=>⟨rfl,step 6 _ _ _ _ _ _ _ _ _ e rfl⟩,λe=>⟨rfl,step 7 _ _ _ _ _ _ _ _ _ e rfl⟩,λe=>⟨rfl,step 8 _ _ _ _ _ _ _ _ _ e rfl⟩,trivial⟩
  .simp at Y;have:x=9:=Vo;subst this;refine Cl.ofQ (Zdv l a5 a9 b5 Z hb) ?_;rintro r ⟨v,a6,a0,b6,rfl,n6⟩;have p6:=p5.num n6 (λp g H=>Zvf H (by rw[if_pos e];simp;omega));refine⟨_,_,_,_,_,rfl,rfl,rfl,rfl,rfl,rfl,rfl,rfl,rfl,hz3,λq1 q2=>(e.elim q1 q2).elim,?_⟩;have:hst d [M,N,O,P,Q,R,T,U,V,v]=[M,N,O,P,Q,R,T,U,V].take (9:Int).toNat++[v]:=by unfold hst;rw[if_pos e];rfl
   rw[this,<-List.append_assoc];exact p6
 .simp at e;refine⟨rfl,rfl,rfl,rfl,rfl,rfl,rfl,rfl,hz2,λ_ _=>hz,?_⟩;have:hst d [u,y,z,A,C,D,E,F,G,g]=[]:=by unfold hst;rw[if_neg Vo]
  rw[this,List.append_nil];exact p4
 rintro _ a5 a9 b5 s d f i j _ u y z A C D E F G g n o p c1 c2 ⟨rfl,rfl,rfl,rfl,rfl,rfl,rfl,hz4,hz5,p5⟩
 have aa:∀{p:CoD} {x:List Int},(bas d f i j m++(hst d [u,y,z,A,C,D,E,F,G,g]++x))<+:numC p->x.length<(if d=2\/d=3 then 2 else 0)+3->
   (bas d f i j m++(hst d [u,y,z,A,C,D,E,F,G,g]++x)).length<(numC p).length:=λH Y=>
  Zvf H (by
   simp only[List.length_append,Zge,List.length_cons,List.length_nil]
   by_cases q:d=1\/d=3<;>simp only[q,if_true,if_false]<;>omega)
 refine⟨λl' a' er' L s' J K W X rows M N O P Q R T U V gs n o p c1 c2=>l'=bR l/\s'=s/\J=d/\K=f/\W=i/\X=j/\rows=cR m/\(M=u/\N=y/\O=z/\P=A/\Q=C/\R=D/\T=E/\U=F/\V=G/\gs=g)/\
   (d≠2->d≠3->n=0/\o=0)/\PS l a er b s (bas d f i j m++(hst d [u,y,z,A,C,D,E,F,G,g]++bck d [n,o])) a' er' L,
  λ_ _ _ _ _ _ _ _ _ _ _ _ _ _ _ _ _ _ _ _ _ _ _ _ _=>0,Zaa (λe=>?_) (λe=>?_),?_⟩
 .simp at e;refine Cl.ofQ (Zdv l a5 a9 b5 Z hb) ?_;rintro r ⟨v,a6,a0,b6,rfl,n6⟩;refine⟨_,_,_,_,_,rfl,Cl.ofQ (Zdv l a6 a0 b6 Z hb) ?_⟩;rintro r ⟨v2,a7,ab,b7,rfl,n7⟩;have p6:=p5.num n6 (λp g H=>by have:=aa (x:=[]) (by simpa using H) Vs;simpa using this);have p7:=p6.num n7 (λp g H=>by have:=aa (x:=[v]) (by simpa using H) (by rw[if_pos e];simp);simpa using this);refine⟨_,_,_,_,_,rfl,rfl,rfl,rfl,rfl,rfl,rfl,rfl,rfl,⟨rfl,rfl,rfl,rfl,rfl,rfl,rfl,rfl,rfl,rfl⟩,λq1 q2=>(e.elim q1 q2).elim,?_⟩;have:bck d [v,v2]=[v]++[v2]:=by unfold bck;rw[if_pos e];rfl
  rw[this,<-List.append_assoc,<-List.append_assoc];exact p7
 .simp at e;refine⟨rfl,rfl,rfl,rfl,rfl,rfl,rfl,rfl,⟨rfl,rfl,rfl,rfl,rfl,rfl,rfl,rfl,rfl,rfl⟩,λ_ _=>hz4,?_⟩;have:bck d [n,o]=[]:=by unfold bck;rw[if_neg Vo]
  rw[this,List.append_nil];exact p5
 rintro _ a6 a0 b6 s d f i j _ u y z A C D E F G g n o p c1 c2 ⟨rfl,rfl,rfl,rfl,rfl,rfl,rfl,⟨rfl,rfl,rfl,rfl,rfl,rfl,rfl,rfl,rfl,rfl⟩,hz6,p6⟩
 refine⟨λx l' a' er' L s' J K W X rows M N O P Q R T U V gs ac ad k0 k1 k2=>0<=x/\x<=3/\l'=bR l/\s'=s/\J=d/\K=f/\W=i/\X=j/\rows=cR m/\(M=u/\N=y/\O=z/\P=A/\Q=C/\R=D/\T=E/\U=F/\V=G/\gs=g)/\
   (ac=n/\ad=o)/\PS l a er b s ((bas d f i j m++(hst d [u,y,z,A,C,D,E,F,G,g]++bck d [n,o]))++[k0,k1,k2].take x.toNat) a' er' L,
  λx _ _ _ _ _ _ _ _ _ _ _ _ _ _ _ _ _ _ _ _ _ _ _ _ _=>(3-x).toNat,⟨Vo,Vo,rfl,rfl,rfl,rfl,rfl,rfl,rfl,⟨rfl,rfl,rfl,rfl,rfl,rfl,rfl,rfl,rfl,rfl⟩,⟨rfl,rfl⟩,by simpa using p6⟩,?_⟩
 rintro x _ a7 ab b7 s d f i j _ u y z A C D E F G g n o k0 k1 k2 ⟨x0,x3,rfl,rfl,rfl,rfl,rfl,rfl,rfl,⟨rfl,rfl,rfl,rfl,rfl,rfl,rfl,rfl,rfl,rfl⟩,⟨rfl,rfl⟩,p7⟩;refine Zaa (λY=>?_) (λY=>?_)
 .simp at Y;refine Cl.ofQ (Zdv l a7 ab b7 Z hb) ?_;rintro r ⟨v,a8,er8,b8,rfl,n8⟩
  have p8:=p7.num n8 (λp af H=>by
   have:=Zvf (x:=(hst d [u,y,z,A,C,D,E,F,G,g]++bck d [n,o])++[k0,k1,k2].take x.toNat) (by simpa using H) (by
    simp only[List.length_append,Zge,Zht,List.length_take,List.length_cons,List.length_nil]
    by_cases q:d=1\/d=3<;>by_cases q2:d=2\/d=3<;>simp only[q,q2,if_true,if_false]<;>omega)
   simpa using this)
  have w:wadd IntKind.i64 x 1=x+1:=Zab;rw[w]
  have step:∀(k:Nat) (f0 f1 f2:Int),x=(k:Int)->[f0,f1,f2].take (k+1)=[k0,k1,k2].take k++[v]->
    (0<=x+1/\x+1<=3/\bR l=bR l/\s=s/\d=d/\f=f/\i=i/\j=j/\cR m=cR m/\(u=u/\y=y/\z=z/\A=A/\C=C/\D=D/\E=E/\F=F/\G=G/\g=g)/\
     (n=n/\o=o)/\PS l a er b s ((bas d f i j m++(hst d [u,y,z,A,C,D,E,F,G,g]++bck d [n,o]))++[f0,f1,f2].take (x+1).toNat) a8 er8 b8)/\Nl (3-(x+1)).toNat (3-x).toNat:=by
   intro k f0 f1 f2 hk hf;refine⟨⟨Vo,Vo,rfl,rfl,rfl,rfl,rfl,rfl,rfl,⟨rfl,rfl,rfl,rfl,rfl,rfl,rfl,rfl,rfl,rfl⟩,⟨rfl,rfl⟩,?_⟩,by show Nat.succ _<=_;omega⟩;have e1:(x+1).toNat=k+1:=Vo;have e2:x.toNat=k:=Vo;rw[e1,hf,<-List.append_assoc,<-e2];exact p8
  exact⟨_,_,_,_,_,rfl,⟨x0,Y⟩,λe=>⟨rfl,step 0 _ _ _ e rfl⟩,λe=>⟨rfl,step 1 _ _ _ e rfl⟩,λe=>⟨rfl,step 2 _ _ _ e rfl⟩,trivial⟩
 .simp at Y;have:x=3:=Vo;subst this;refine⟨⟨s,d,f,i,j,m,u,y,z,A,C,D,E,F,G,g,n,o,k0,k1,k2⟩,_,_,_,rfl,CR.ofPS ?_ ⟨hcz,hz5,hz6⟩ Vo hcl⟩;have:numC ⟨s,d,f,i,j,m,u,y,z,A,C,D,E,F,G,g,n,o,k0,k1,k2⟩=(bas d f i j m++(hst d [u,y,z,A,C,D,E,F,G,g]++bck d [n,o]))++[k0,k1,k2].take (3:Int).toNat:=(by simp[numC]);rw[this];exact p7
abbrev st0:StD:=⟨[],0,0⟩
def DSt(l:List Int)(d:StD)(e:Int):Prop:=(d.P/\encS d=l/\e=0)\/((∀a:StD,a.P->encS a≠l)/\d=st0/\e=11)
def P_shp(h:g.P):∀c∈g.cs,shp c:=λc a=>(shp_of (h.2.1 c a)).1
def take_step{l:List CoD}{a:List CoD}(b:n<l.length)(h:a=l.take n):a++[l[n]]=l.take (n+1):=by
 rw[h];simp
def rdec_fn(l:List Int)(p:l.length<=100000)(A:Byts l):Ct prog 259 {} [SL 1 (bR l)] (λr=>∃d e,r=[StD.sv d,I e]/\DSt l d e):=by
 refine rdec_nf (Cl.of (Zoj l) ⟨_,_,_,rfl,Cl.ofQ (Zdv l 0 0 false p A) ?_⟩);rintro r ⟨k,a1,er1,b1,rfl,n1⟩
 have X:Gd l [] 0 0 false:=⟨rfl,rfl,rfl,W8⟩
 have none:(∀a:StD,a.P->encS a≠l)->∃d e,([SV.agg [SL 21 [],I (0),I (0)],I 11]:List SV)=[StD.sv d,I e]/\DSt l d e:=λh=>⟨st0,11,rfl,.inr ⟨h,rfl,rfl⟩⟩
 have D:∀a:StD,a.P->encS a=l->b1=false/\k=a.cs.length:=(by intro a b f;refine n1.cmp [] a.cs.length ⟨Vo,by have:=b.1.1;omega⟩ X ?_;rw[<-f];exact⟨a.cs.flatMap encC++(leb a.q.toNat++leb a.t.toNat),by simp[encS]⟩);have k0:=n1.rg;unfold rng at k0;refine⟨_,_,_,_,_,rfl,Zaa (λh=>?_) (λh=>?_)⟩
 .simp at h;exact none λa b f=>by have:=(D a b f).2;have:=b.1.1;omega
 simp at h
 refine⟨λx l' a' Q H rows q t=>l'=bR l/\0<=x/\x<=k/\∃g,rows=coR g/\(g.length:Int)=x/\(∀c∈g,c.cl.length<=16)/\
   (H=false->(∀c∈g,shp c)/\Gd l (leb k.toNat++g.flatMap encC) a' Q H)/\(∀a:StD,a.P->encS a=l->H=false/\g=a.cs.take x.toNat),
  λx _ _ _ _ _ _ _=>(k-x).toNat,⟨rfl,Vo,Vo,[],rfl,rfl,Vs,λe=>⟨Vs,?_⟩,λa b f=>⟨(D a b f).1,Vs⟩⟩,?_⟩
 .have:=(n1.snd e).2 [] X
  simpa using this
 rintro x _ R F T _ q t ⟨rfl,x0,x1,g,rfl,hcs,hcl,hsn,hcm⟩;refine Zaa (λJ=>?_) (λJ=>?_)
 .simp at J;refine Cl.ofQ (rcomp_fn l R F T p A) ?_;rintro r ⟨c,a3,er3,b3,rfl,hc⟩;have w:wadd IntKind.i64 x 1=x+1:=Zab;rw[w];refine⟨_,_,_,_,_,_,_,_,_,_,_,_,_,_,_,_,_,_,_,_,_,_,_,_,_,rfl,?_,rfl,⟨rfl,Vo,Vo,g++[c],by simp[rapp],Vm,?_,?_,?_⟩,?_⟩
  .simp[lsum,rlen];omega
  .intro K s
   rcases List.mem_append.1 s with i|i
   .exact hcl K i
   .simp at i;rw[i];exact hc.cl
  .intro e;obtain⟨e1,e2,n⟩:=hc.snd e;obtain⟨L,o⟩:=hsn e2;refine⟨λK s=>?_,?_⟩
   .rcases List.mem_append.1 s with i|i
    .exact L K i
    .simp at i;rw[i];exact e1
   .have:=n _ o
    simpa using this
  .intro a b f;obtain⟨e1,e2⟩:=hcm a b f;have G:=(D a b f).2;have v:x.toNat<a.cs.length:=Vo;obtain⟨L,o⟩:=hsn e1
   have N:(leb k.toNat++g.flatMap encC)++encC a.cs[x.toNat]<+:l:=by
    have:a.cs=g++(a.cs[x.toNat]::a.cs.drop (x.toNat+1)):=by
     rw[e2]
     conv=>lhs;rw[<-List.take_append_drop x.toNat a.cs]
     congr 1;exact List.drop_eq_getElem_cons v
    have Y:k.toNat=a.cs.length:=Vo;refine⟨(a.cs.drop (x.toNat+1)).flatMap encC++(leb a.q.toNat++leb a.t.toNat),?_⟩
    have Z:a.cs.flatMap encC=g.flatMap encC++(encC a.cs[x.toNat]++(a.cs.drop (x.toNat+1)).flatMap encC):=by
     conv=>lhs;rw[this]
     rw[List.flatMap_append,Ya]
    rw[<-f,encS,<-Y,Z];simp only[List.append_assoc]
   obtain⟨M,C⟩:=hc.cmp _ _ (P_shp b _ (List.getElem_mem v)) o N;refine⟨M,?_⟩;rw[C,show(x+1).toNat=x.toNat+1 by omega];exact take_step v e2
  .show Nat.succ (k-(x+1)).toNat<=(k-x).toNat;omega
 .simp at J;have a0:x=k:=Vo;subst a0;refine Cl.ofQ (Zdv l R F T p A) ?_;rintro r ⟨q',a3,er3,b3,rfl,n3⟩;refine⟨_,_,_,_,_,rfl,Cl.ofQ (Zdv l a3 er3 b3 p A) ?_⟩;rintro r ⟨t',a4,er4,b4,rfl,n4⟩
  have y:∀a:StD,a.P->encS a=l->b4=false/\g=a.cs/\q'=a.q/\t'=a.t/\Gd l l a4 er4 b4:=(by intro a b f;obtain⟨e1,e2⟩:=hcm a b f;have G:=(D a b f).2;obtain⟨L,o⟩:=hsn e1;have n:g=a.cs:=(by rw[e2,List.take_of_length_le Vo]);have z:l=((leb x.toNat++g.flatMap encC)++leb a.q.toNat)++leb a.t.toNat:=(by rw[<-f,encS,n,G];simp);obtain⟨P0,_⟩:=b;obtain⟨M,C⟩:=n3.cmp _ a.q ⟨P0.2.1,Vo⟩ o ⟨leb a.t.toNat,z.symm⟩;have O:=(n3.snd M).2 _ o;rw[C]at O;obtain⟨U,V⟩:=n4.cmp _ a.t ⟨Vo,Vo⟩ O ⟨[],by rw[List.append_nil];exact z.symm⟩;have s4:=(n4.snd U).2 _ O;rw[V,<-z]at s4;exact⟨U,n,C,V,s4⟩);refine⟨_,_,_,_,_,rfl,Zaa (λj=>?_) (λj=>?_)⟩
  .exact none λa b f=>by rw[(y a b f).1]at j;cases j
  refine Cl.of (Zk6 l a4 er4 p) ⟨_,rfl,Zaa (λm=>?_) (λm=>?_)⟩
  .refine none λa b f=>?_;obtain⟨_,_,_,_,i,h2,h3,h4⟩:=y a b f;simp at m;omega
  refine Cl.of (Zib ⟨g,q',t'⟩) ⟨_,rfl,Zaa (λu=>?_) (λu=>?_)⟩
  .refine none λa b f=>?_;obtain⟨_,e1,e2,n,_⟩:=y a b f;simp at u;apply u;have:(⟨g,q',t'⟩:StD)=a:=(by rw[e1,e2,n]);rw[this];exact b
  .simp at u;refine⟨⟨g,q',t'⟩,0,rfl,.inl ⟨u,?_,rfl⟩⟩;obtain⟨u1,u2⟩:=n4.snd j;obtain⟨v1,v2⟩:=n3.snd u1;obtain⟨w1,w2⟩:=hsn v1;obtain⟨y1,y2,y3,W⟩:=u2 _ (v2 _ w2);simp at m;have a5:rgtC l a4 er4=true:=(by have:=W.length_le;simp only[rgtC,decide_eq_true_eq];omega);have a6:=m a5;have E:=W.eq_of_length Vo;rw[<-E,encS,<-hcs];simp
abbrev nI(l:List Int):LL:=l.map λn=>[I n]
def rget_nI(a:0<=i:=by omega)(b:i<x.length:=by omega):rget (nI x) i=[I (x[i.toNat]'Vo)]:=by
 have:i.toNat<x.length:=Vo;simp[rget,this]
def enc_step(a:n<x.length):encN (x.take (n+1))=encN (x.take n)++leb (x[n]).toNat:=by
 rw[<-Zqc,<-Zi4];simp
def rput_fn(l a:List Int)(c:∀n∈a,rng n)(g:l.length+10*a.length<=100000):Ct prog 304 {} [SL 1 (bR l),SL 1 (nI a)] (λr=>r=[SL 1 (bR (l++encN a))]):=by
 refine rput_nf ⟨λe x=>0<=x/\x<=a.length/\e=bR (l++encN (a.take x.toNat)),λ_ x=>(a.length-x).toNat,⟨Vo,Vo,by simp[encN]⟩,?_⟩;rintro _ x ⟨x0,x1,rfl⟩;refine Zaa (λh=>?_) (λh=>?_)
 .simp at h;have d:x.toNat<a.length:=Vo;have b:=c a[x.toNat] (List.getElem_mem _);have w:wadd IntKind.i64 x 1=x+1:=Zab;have f:(encN (a.take x.toNat)).length<=10*x.toNat:=(by have:=Zk3 (l:=a.take x.toNat) (λn h=>c n (List.mem_of_mem_take h));simp at this;omega);refine⟨⟨x0,by simpa using h⟩,_,rget_nI x0,?_⟩;rw[Ze7 b.1 (by have:=b.2;omega),w];refine Cl.of (Zaw _ _ b.1 (by have:=b.2;omega) Vm) ⟨_,rfl,rfl,⟨Vo,Vo,?_⟩,?_⟩
  .rw[show(x+1).toNat=x.toNat+1 by omega,enc_step d];simp
  .show Nat.succ (a.length-(x+1)).toNat<=(a.length-x).toNat;omega
 .simp at h;rw[List.take_of_length_le Vo]
def putC_fn(l:List Int)(c:CoD)(D:shp c)(hl:l.length<=90000):Ct prog 305 {} [SL 1 (bR l),CoD.sv c] (λr=>r=[SL 1 (bR (l++encC c))]):=by
 have g:=D.n;have V:=D.nm;have W:=D.cl;have T:(leb c.nm.size).length<=10:=leb_small;have hN:=Zk3 g
 have X:(numC c).length<=52:=by
  simp only[numC,List.length_append,Zmu,Zge,Zht,List.length_cons,List.length_nil]
  split<;>split<;>split<;>omega
 obtain⟨d,hp0e⟩:∃d,d=l++leb c.nm.size++txB c.nm:=⟨_,rfl⟩
 have Y:d.length<=90034:=(by rw[hp0e];simp[Zce];omega);have put:∀(a b:List Int),(∀n∈a++b,rng n)->a.length+b.length<=60->Ct prog 304 {} [SL 1 (bR (d++encN a)),SL 1 (nI b)] (λr=>r=[SL 1 (bR (d++encN (a++b)))]):=(by intro a b v y;have K:=Zk3 (l:=a) λn h=>v n (by simp[h]);have:=rput_fn (d++encN a) b (λn h=>v n (by simp[h])) Vm;rwa[List.append_assoc,<-Zi4]at this);have z:∀n∈bas c.ro c.mo c.wd c.sl c.cl,rng n:=λn h=>g n (by simp[numC,h]);have U:∀n∈hst c.ro [c.h0,c.h1,c.h2,c.h3,c.h4,c.h5,c.h6,c.h7,c.h8,c.hs],rng n:=λn h=>g n (by simp only[numC,List.mem_append];exact .inr (.inl h));have F:∀n∈bck c.ro [c.rm,c.ha],rng n:=λn h=>g n (by simp only[numC,List.mem_append];exact .inr (.inr (.inl h)));have K:∀n∈[c.c0,c.c1,c.c2],rng n:=λn h=>g n (by simp only[numC,List.mem_append];exact .inr (.inr (.inr h)));have L:rng c.ro:=g _ (by simp[numC,bas]);have M:rng c.mo:=g _ (by simp[numC,bas]);have Z:(bas c.ro c.mo c.wd c.sl c.cl).length<=37:=by rw[Zmu];split<;>omega
 have f:∀{a b:List Int},(∀n∈a,rng n)->(∀n∈b,rng n)->∀n∈a++b,rng n:=λv y n h=>(List.mem_append.1 h).elim (v n) (y n);have q0:=put [] [c.ro,c.mo] (by simp;exact⟨L,M⟩) Vs;rw[Zqd,List.append_nil]at q0
 have j:∀x:List Int,(∀n∈x,rng n)->x.length<=50->bas c.ro c.mo c.wd c.sl c.cl++(hst c.ro [c.h0,c.h1,c.h2,c.h3,c.h4,c.h5,c.h6,c.h7,c.h8,c.hs]++bck c.ro [c.rm,c.ha])=x->
   Cl prog 304 sP ([SL 1 (bR (d++encN x)),SL 1 ([[I c.c0],[I c.c1],[I c.c2]])]) (λ(o:List SV)=>∃s:LL,(o=[SL 1 s])/\([SL 1 s]=[SL 1 (bR (l++encC c))])):=by
  intro x u J e;refine Cl.of (put x [c.c0,c.c1,c.c2] (f u K) Vm) ⟨_,rfl,?_⟩;have:encC c=leb c.nm.size++(txB c.nm++encN (x++[c.c0,c.c1,c.c2])):=by rw[encC,numC,<-e];simp
  rw[this,hp0e];simp
 have A:∀x:List Int,(∀n∈x,rng n)->x.length<=47->bas c.ro c.mo c.wd c.sl c.cl++hst c.ro [c.h0,c.h1,c.h2,c.h3,c.h4,c.h5,c.h6,c.h7,c.h8,c.hs]=x->
   ifB (bpick (ieq c.ro 2) true (ieq c.ro 3)) (Cl prog 304 sP ([SL 1 (bR (d++encN x)),SL 1 ([[I c.rm],[I c.ha]])]) (λ(q:List SV)=>∃t:LL,(q=[SL 1 t])/\
    (Cl prog 304 sP ([SL 1 t,SL 1 ([[I c.c0],[I c.c1],[I c.c2]])]) (λ(o:List SV)=>∃s:LL,(o=[SL 1 s])/\([SL 1 s]=[SL 1 (bR (l++encC c))])))))
    (Cl prog 304 sP ([SL 1 (bR (d++encN x)),SL 1 ([[I c.c0],[I c.c1],[I c.c2]])]) (λ(q:List SV)=>∃t:LL,(q=[SL 1 t])/\([SL 1 t]=[SL 1 (bR (l++encC c))]))):=by
  intro x u J e;refine Zaa (λh=>?_) (λh=>?_)
  .simp at h;have k:bck c.ro [c.rm,c.ha]=[c.rm,c.ha]:=by unfold bck;rw[if_pos h]
   rw[k]at F;refine Cl.of (put x [c.rm,c.ha] (f u F) Vm) ⟨_,rfl,j _ (f u F) Vm ?_⟩;rw[k,<-e];simp
  .simp at h;refine j x u Vo ?_;have k:bck c.ro [c.rm,c.ha]=[]:=by unfold bck;rw[if_neg Vo]
   rw[k,<-e];simp
 refine putc_nf (Cl.of (Zny l c.nm Vo Vo) ⟨_,rfl,?_⟩);rw[<-hp0e];refine Cl.of q0 ⟨_,rfl,λE=>E=bR (d++encN (bas c.ro c.mo c.wd c.sl c.cl)),λ_=>0,Zaa (λe=>?_) (λe=>?_),?_⟩
 .simp at e;have i:bas c.ro c.mo c.wd c.sl c.cl=[c.ro,c.mo,c.wd,c.sl,(c.cl.length:Int)]++flat c.cl:=(by simp[bas,e]);have N:rlen (cR c.cl)=c.cl.length:=(by simp[rlen]);have O:∀n∈[c.ro,c.mo,c.wd,c.sl,(c.cl.length:Int)],rng n:=λn h=>z n (by rw[i];simp only[List.mem_append];exact .inl h);have y:∀n∈flat c.cl,rng n:=λn h=>z n (by rw[i];simp only[List.mem_append];exact .inr h);rw[N]
  refine Cl.of (put [c.ro,c.mo] [c.wd,c.sl,(c.cl.length:Int)] (λn h=>O n (by simpa using h)) Vs) ⟨_,rfl,
   λE x=>0<=x/\x<=c.cl.length/\E=bR (d++encN ([c.ro,c.mo,c.wd,c.sl,(c.cl.length:Int)]++flat (c.cl.take x.toNat))),λ_ x=>(c.cl.length-x).toNat,⟨Vo,Vo,by simp[flat]⟩,?_⟩
  rintro _ x ⟨x0,x1,rfl⟩;refine Zaa (λh=>?_) (λh=>?_)
  .simp at h;have P:x.toNat<c.cl.length:=Vo;have w:wadd IntKind.i64 x 1=x+1:=Zab;have Q:flat (c.cl.take (x.toNat+1))=flat (c.cl.take x.toNat)++[c.cl[x.toNat].1,c.cl[x.toNat].2]:=by rw[List.take_succ_eq_append_getElem P,flat_app];simp[flat]
   have G:∀n∈flat (c.cl.take (x.toNat+1)),rng n:=λn h=>y n (by
    simp only[flat,List.mem_flatMap]at h|-;obtain⟨p,R,g⟩:=h
    exact⟨p,List.mem_of_mem_take R,g⟩)
   rw[w];refine⟨⟨x0,by simpa using h⟩,_,_,Zba (λc:Int×Int=>[I c.1,I c.2]) c.cl x x0 Vo,?_⟩;refine Cl.of (put ([c.ro,c.mo,c.wd,c.sl,(c.cl.length:Int)]++flat (c.cl.take x.toNat)) [c.cl[x.toNat].1,c.cl[x.toNat].2] ?_ ?_) ⟨_,rfl,rfl,⟨Vo,Vo,?_⟩,?_⟩
   .rw[List.append_assoc,<-Q];exact f O G
   .simp[Zk2];omega
   .rw[show(x+1).toNat=x.toNat+1 by omega,Q,List.append_assoc]
   .show Nat.succ (c.cl.length-(x+1)).toNat<=(c.cl.length-x).toNat;omega
  .simp at h;refine⟨rfl,?_⟩;rw[i,List.take_of_length_le Vo]
 .simp at e;refine⟨rfl,?_⟩;have i:bas c.ro c.mo c.wd c.sl c.cl=[c.ro,c.mo]:=(by simp[bas,e]);rw[i];rfl
 .rintro _ rfl;refine Zaa (λe=>?_) (λe=>?_)
  .simp at e;have C:hst c.ro [c.h0,c.h1,c.h2,c.h3,c.h4,c.h5,c.h6,c.h7,c.h8,c.hs]=[c.h0,c.h1,c.h2,c.h3,c.h4,c.h5,c.h6,c.h7,c.h8]++[c.hs]:=by unfold hst;rw[if_pos e];rfl
   have m:=U;rw[C]at m;have H:∀n∈bas c.ro c.mo c.wd c.sl c.cl++[c.h0,c.h1,c.h2,c.h3,c.h4,c.h5,c.h6,c.h7,c.h8],rng n:=f z λn h=>m n (List.mem_append.2 (.inl h));refine Cl.of (put _ [c.h0,c.h1,c.h2,c.h3,c.h4,c.h5,c.h6,c.h7,c.h8] H Vm) ⟨_,rfl,?_⟩;refine Cl.of (put _ [c.hs] (f H λn h=>m n (List.mem_append.2 (.inr h))) Vm) ⟨_,rfl,?_⟩;refine A _ (f H λn h=>m n (List.mem_append.2 (.inr h))) Vm ?_;rw[C];simp
  .simp at e;refine A _ z Vo ?_;have:hst c.ro [c.h0,c.h1,c.h2,c.h3,c.h4,c.h5,c.h6,c.h7,c.h8,c.hs]=[]:=by unfold hst;rw[if_neg Vo]
   rw[this,List.append_nil]
def Zxs{l:List CoD}(a:n<l.length):(l.take (n+1)).flatMap encC=(l.take n).flatMap encC++encC l[n]:=by
 rw[List.take_succ_eq_append_getElem a,List.flatMap_append];simp
def encI(d:StD):List Int×Int:=if d.P then(encS d,0)else([],1)
def renc_fn(d:StD):Ct prog 241 {} [d.sv] (λr=>r=[SL 1 (bR (encI d).1),I (encI d).2]):=by
 refine renc_nf (Cl.of (Zib d) ⟨_,rfl,Zaa (λh=>?_) (λh=>?_)⟩)
 .simp at h;simp[encI,h]
 simp at h;have j:=h.1.1;have b:=P_shp h;have q0:=rput_fn [] [(d.cs.length:Int)] (by simp;unfold rng;omega) Vs;simp only[List.nil_append]at q0;have e:rlen (coR d.cs)=d.cs.length:=(by simp[rlen]);rw[e];refine Cl.of q0 ⟨_,rfl,λg x=>0<=x/\x<=d.cs.length/\g=bR (leb d.cs.length++(d.cs.take x.toNat).flatMap encC),λ_ x=>(d.cs.length-x).toNat,⟨Vo,Vo,by simp[encN]⟩,?_⟩;have k:(leb d.cs.length).length<=10:=leb_small;rintro _ x ⟨x0,x1,rfl⟩;have p:((d.cs.take x.toNat).flatMap encC).length<=600*x.toNat:=(by have:=Zmv (l:=d.cs.take x.toNat) λc i=>b c (List.mem_of_mem_take i);rw[List.length_take]at this;omega);refine Zaa (λa=>?_) (λa=>?_)
 .simp at a;have f:x.toNat<d.cs.length:=Vo;have w:wadd IntKind.i64 x 1=x+1:=Zab;rw[w];refine⟨⟨x0,by simpa using a⟩,_,_,_,_,_,_,_,_,_,_,_,_,_,_,_,_,_,_,_,_,_,Zba CoD.row d.cs x x0 Vo,?_⟩;refine Cl.of (putC_fn _ d.cs[x.toNat] (b _ (List.getElem_mem _)) (by rw[List.length_append];omega)) ⟨_,rfl,rfl,⟨Vo,Vo,?_⟩,?_⟩
  .rw[show(x+1).toNat=x.toNat+1 by omega,Zxs f];simp
  .show Nat.succ (d.cs.length-(x+1)).toNat<=(d.cs.length-x).toNat;omega
 .simp at a;have m:=h;obtain⟨o,_⟩:=h;have n:=rput_fn (leb d.cs.length++(d.cs.take x.toNat).flatMap encC) [d.q,d.t] (by simp;unfold rng;omega) (by rw[List.length_append];simp only[List.length_cons,List.length_nil];omega);refine Cl.of n ⟨_,rfl,?_⟩;rw[List.take_of_length_le Vo];simp[encI,encS,encN,m]
end Row
namespace Row
open Go Go.Px Go.Proofs Cmp Sx Tryz
end Row
namespace Row
open Go Go.Px Go.Proofs Cmp Sx Cod Tryz
def G3(l pre:List Int)(a er:Int):Prop:=er=0/\a=pre.length/\pre<+:l
def rg40(n:Int):Prop:=0<=n/\n<=1099511627776
structure TK(l:List Int)(a er n:Int)(ns:List Int)(a' er':Int):Prop where
 len:ns.length=n.toNat
 rg:∀m∈ns,-1<=m/\m<=1099511627776
 cmp:∀pre ms,G3 l pre a er->pre++encN ms<+:l->ms.length=n.toNat->(∀m∈ms,rg40 m)->G3 l (pre++encN ms) a' er'/\ns=ms
def pre_or:∀(a b r c:List Int),(∀n∈a,0<=n)->(∀n∈b,0<=n)->encN a++r=encN b++c->a<+:b\/b<+:a
 | [],b,r,c,_,_,_=>.inl W8
 |n::a,[],r,c,_,_,_=>.inr W8
 |n::a,m::b,r,c,h1,h2,h=>by
  simp only[encN,Ya,List.append_assoc]at h;obtain⟨e1,e2⟩:=Zcs _ _ _ _ h;have:=h1 n Vs;have:=h2 m Vs;have f:n=m:=Vo
  rcases pre_or a b r c (λx d=>h1 x (by simp[d])) (λx d=>h2 x (by simp[d])) e2 with⟨t,e⟩|⟨t,e⟩
  .exact .inl ⟨t,by rw[f,<-e];rfl⟩
  .exact .inr ⟨t,by rw[f,<-e];rfl⟩
def tx_inj(h:txB s=txB t):s=t:=by
 have:=congrArg (λl=>bstr (bR l)) h
 simpa[Zpj]using this
def encC_inj{c d:CoD}(b:shp c)(e:shp d){r f:List Int}(h:encC c++r=encC d++f):c=d/\r=f:=by
 simp only[encC,List.append_assoc]at h;obtain⟨e1,e2⟩:=Zcs _ _ _ _ h;obtain⟨i,g⟩:=List.append_inj e2 (by rw[Zce,Zce];exact e1);have a:=tx_inj i
 have:c=d:=by
  rcases pre_or _ _ _ _ (λn a=>(b.n n a).1) (λn a=>(e.n n a).1) g with h1|h1
  .exact Zqe b.z e.z a h1
  .exact(Zqe e.z b.z a.symm h1).symm
 subst this;exact⟨rfl,List.append_cancel_left g⟩
def Zqo:∀(l m:List CoD) (r a:List Int),(∀c∈l,shp c)->(∀c∈m,shp c)->l.length=m.length->l.flatMap encC++r=m.flatMap encC++a->l=m/\r=a
 | [],[],r,a,_,_,_,h=>⟨rfl,by simpa using h⟩
 | [],y::m,r,a,_,_,hl,_=>by simp at hl
 |x::l,[],r,a,_,_,hl,_=>by simp at hl
 |x::l,y::m,r,a,h1,h2,hl,h=>by simp only[Ya,List.append_assoc]at h;obtain⟨e1,e2⟩:=encC_inj (h1 x Vs) (h2 y Vs) h;obtain⟨d,e⟩:=Zqo l m r a (λc b=>h1 c (by simp[b])) (λc b=>h2 c (by simp[b])) (by simpa using hl) e2;exact⟨by rw[e1,d],e⟩
def encS_pre{d c:StD}(h:d.P)(f:c.P){r r':List Int}(e:encS d++r=encS c++r'):d=c:=by
 simp only[encS,List.append_assoc]at e;obtain⟨e1,e2⟩:=Zcs _ _ _ _ e;obtain⟨g,i⟩:=Zqo _ _ _ _ (P_shp h) (P_shp f) e1 e2;obtain⟨k,j⟩:=Zcs _ _ _ _ i;obtain⟨l,_⟩:=Zcs _ _ _ _ j;have a:=h.1;have b:=f.1
 cases d;cases c
 simp only[StD.mk.injEq]
 dsimp only at*
 exact⟨g,Vo,Vo⟩
def encS_inj{d a:StD}(h:d.P)(b:a.P)(e:encS d=encS a):d=a:=encS_pre h b (r:=[]) (r':=[]) (by rw[e])
def Zu0{d:StD}(h:d.P):(encS d).length<=8000/\0<(encS d).length:=by
 have b:=Zmv (P_shp h);have a:=h.1;have c:(leb d.cs.length).length<=10:=leb_small;have e:(leb d.q.toNat).length<=10:=leb_small;have f:(leb d.t.toNat).length<=10:=leb_small;have g:=Zjq d.cs.length;simp only[encS,List.length_append];omega
end Row
namespace Dsk
open Go Go.Px Go.Proofs Tryz
abbrev dsk4(rows:LL)(b a:Int)(c:Bool):SV:=.agg [SL 3 rows,I b,I a,B c]
abbrev fil3(nm:BA)(a b:LL):SV:=.agg [S nm,SL 1 a,SL 1 b]
def SgT:FuncId->Sig:=(λf=>bif Nat.beq f 246 then⟨[.own],[.own]⟩else bif Nat.beq f 48 then⟨[],[.own]⟩else bif Nat.beq f 47 then⟨[],[.own]⟩else bif Nat.beq f 247 then⟨[.own],[.own]⟩else bif Nat.beq f 248 then⟨[.own],[.own]⟩else bif Nat.beq f 245 then⟨[.own],[.own]⟩else bif Nat.beq f 244 then⟨[.own],[.own]⟩else bif Nat.beq f 221 then⟨[.own],[.own]⟩else bif Nat.beq f 176 then⟨[.own],[.own]⟩else bif Nat.beq f 177 then⟨[.own],[.own]⟩else bif Nat.beq f 111 then⟨[.own],[.own]⟩else bif Nat.beq f 311 then⟨[.own],[.own]⟩else bif Nat.beq f 307 then⟨[],[.own]⟩else{})
def SvT:TypeId->Sig:=(λf=>bif Nat.beq f 22 then⟨[.own],[.own]⟩else{})
def grow_nf{rows:LL}(h:ifB (ilt i 0) False (∀x,((rlen rows)<=x)->(x<=9223372036854775807)->ifB (igt (wsub .i64 i (wsub .i64 x (isub (rlen rows) 0))) 0) ((((0:Int)<=0)/\(0<=(isub x 0))/\(isub x 0)<=(isub x 0))/\(((0<=(wsub .i64 i (wsub .i64 x (isub (rlen rows) 0))))/\(wsub .i64 i (wsub .i64 x (isub (rlen rows) 0)))<=2147483648)/\(x<(lsum (lsum 0 (isub x 0)) (wsub .i64 i (wsub .i64 x (isub (rlen rows) 0)))))/\(lsum (isub (lsum 0 (isub x 0)) 0) (wsub .i64 i (wsub .i64 x (isub (rlen rows) 0))))<=2147483648)/\(((lsum 0 (isub x 0))<=(rlen rows))->∀a,((lsum (isub (lsum 0 (isub x 0)) 0) (wsub .i64 i (wsub .i64 x (isub (rlen rows) 0))))<=a)->(a<=9223372036854775807)->(((0:Int)<=0)/\(0<=(isub (rlen rows) 0))/\(isub (rlen rows) 0)<=(isub a 0))/\((lsum 0 (isub (rlen rows) 0))<=(rlen (rapp (rsub rows 0 (lsum 0 (isub x 0))) (rrep (wsub .i64 i (wsub .i64 x (isub (rlen rows) 0))) [U8 0]))))/\Q ([SV.slice 1 (rsub (rapp (rsub rows 0 (lsum 0 (isub x 0))) (rrep (wsub .i64 i (wsub .i64 x (isub (rlen rows) 0))) [U8 0])) 0 (lsum 0 (isub (rlen rows) 0))) 0]))/\(((rlen rows)<(lsum 0 (isub x 0)))->∀a,((lsum (isub (lsum 0 (isub x 0)) 0) (wsub .i64 i (wsub .i64 x (isub (rlen rows) 0))))<=a)->(a<=9223372036854775807)->(((0:Int)<=0)/\(0<=(isub (rlen rows) 0))/\(isub (rlen rows) 0)<=(isub a 0))/\((lsum 0 (isub (rlen rows) 0))<=(rlen (rsub rows 0 (rlen rows))))/\Q [SV.slice 1 (rsub (rsub rows 0 (rlen rows)) 0 (lsum 0 (isub (rlen rows) 0))) 0])) (((rlen rows)<=(rlen rows))/\Q [SL 1 (rsub rows 0 (rlen rows))]))):Ct prog 111 ⟨[.own],[.own]⟩ [SL 1 rows,I i] Q:=
 fO SgT SvT (λk=>bif Nat.beq k 3000000 then some ({}:LoopSpec)else none) func111 h
def concat_nf{rows:LL}(h:∃e:Int->Int->Prop,∃m:Int->Int->Nat,(e 0 0)/\∀x a,(e x a)->ifB (ilt a (rlen rows)) (((0<=a)/\a<(rlen rows))/\∃l,(rget rows a=[SL 1 l])/\ifB (ilt (wadd .i64 x (rlen l)) 0) False (((Option.some []:Option LL)=Option.some [])/\(e (wadd .i64 x (rlen l)) (wadd .i64 a 1))/\Nl (m (wadd .i64 x (rlen l)) (wadd .i64 a 1)) (m x a))) (Cl prog 111 (Sig.mk [Md.own] [Md.own]) ([SL 1 [],I x]) (λj=>∃l,(j=[SL 1 l])/\∃c:LL->Int->Prop,∃i:LL->Int->Nat,(c l 0)/\∀d b,(c d b)->ifB (ilt b (rlen rows)) (((0<=b)/\b<(rlen rows))/\∃g,(rget rows b=[SL 1 g])/\((lsum (rlen d) (rlen g))<=2147483648)/\((Option.some []:Option LL)=Option.some [])/\(c (rapp d g) (wadd .i64 b 1))/\Nl (i (rapp d g) (wadd .i64 b 1)) (i d b)) (Q [SL 1 d])))):Ct prog 48 ⟨[],[.own]⟩ [SL 1 rows] Q:=
 fN SgT SvT func48 h
def dsize_nf(h:Q [I (wadd .i64 (rlen l) (rlen r))]):Ct prog 94 {} [fil3 s l r] Q:=
 fN SgT SvT func94 h
def dused_nf{rows:LL}(h:∃e:Int->Int->Prop,∃m:Int->Int->Nat,(e 0 0)/\∀x a,(e x a)->ifB (ilt a (rlen rows)) (((0<=a)/\a<(rlen rows))/\∃s l i,(rget rows a=[S s,SL 1 l,SL 1 i])/\Cl prog 94 sP ([SV.agg [S s,SL 1 l,SL 1 i]]) (λj=>∃g,(j=[I g])/\(Sm (some ([[SL 3 rows,I c,I b,B o]])))/\(e (wadd .i64 x g) (wadd .i64 a 1))/\Nl (m (wadd .i64 x g) (wadd .i64 a 1)) (m x a))) (Q [I x])):Ct prog 77 {} [dsk4 rows c b o] Q:=
 fN SgT SvT func77 h
def dlist_nf{rows:LL}(h:(((0:Int)<=0)/\(0<=(rlen rows))/\(rlen rows)<=2147483648)/\∃d:LL->Int->Prop,∃m:LL->Int->Nat,(d (rrep 0 ([S (bA [])])) 0)/\∀l x,(d l x)->ifB (ilt x (rlen rows)) (((0<=x)/\x<(rlen rows))/\∃s e g,(rget rows x=[S s,SL 1 e,SL 1 g])/\((lsum (rlen l) (rlen ([[S s]])))<=2147483648)/\(Sm (some ([[SL 3 rows,I b,I i,B o]])))/\(d (rapp l ([[S s]])) (wadd .i64 x 1))/\Nl (m (rapp l ([[S s]])) (wadd .i64 x 1)) (m l x)) (Q [SL 1 l])):Ct prog 107 {} [dsk4 rows b i o] Q:=
 fN SgT SvT func107 h
def dnamed_nf(h:ifB (bpick (ilt (slen s) 1) true (igt (slen s) 16)) (Q [B false]) (∃a:Bool->Int->Prop,∃m:Bool->Int->Nat,(a false 0)/\∀b x,(a b x)->ifB (ilt x (slen s)) (((0<=x)/\x<(slen s))/\ifB (ige (sbyte s x) 97) (((0<=x)/\x<(slen s))/\((0<=x)/\x<(slen s))/\ifB (ige (sbyte s x) 48) (((0<=x)/\x<(slen s))/\ifB (bpick (bnot (bpick true (ile (sbyte s x) 122) false)) (bnot (bpick true (ile (sbyte s x) 57) false)) false) (((0<=x)/\x<(slen s))/\ifB (bpick true (ine (sbyte s x) 46) false) (Q [B false]) (((Option.some []:Option LL)=Option.some [])/\(a b (wadd .i64 x 1))/\Nl (m b (wadd .i64 x 1)) (m b x))) (ifB (bpick false true false) (Q [B false]) (((Option.some []:Option LL)=Option.some [])/\(a b (wadd .i64 x 1))/\Nl (m b (wadd .i64 x 1)) (m b x)))) (ifB (bpick (bnot (bpick true (ile (sbyte s x) 122) false)) (bnot (bpick false true false)) false) (((0<=x)/\x<(slen s))/\ifB (bpick true (ine (sbyte s x) 46) false) (Q [B false]) (((Option.some []:Option LL)=Option.some [])/\(a b (wadd .i64 x 1))/\Nl (m b (wadd .i64 x 1)) (m b x))) (ifB (bpick false true false) (Q [B false]) (((Option.some []:Option LL)=Option.some [])/\(a b (wadd .i64 x 1))/\Nl (m b (wadd .i64 x 1)) (m b x))))) (((0<=x)/\x<(slen s))/\ifB (ige (sbyte s x) 48) (((0<=x)/\x<(slen s))/\ifB (bpick (bnot (bpick false true false)) (bnot (bpick true (ile (sbyte s x) 57) false)) false) (((0<=x)/\x<(slen s))/\ifB (bpick true (ine (sbyte s x) 46) false) (Q [B false]) (((Option.some []:Option LL)=Option.some [])/\(a b (wadd .i64 x 1))/\Nl (m b (wadd .i64 x 1)) (m b x))) (ifB (bpick false true false) (Q [B false]) (((Option.some []:Option LL)=Option.some [])/\(a b (wadd .i64 x 1))/\Nl (m b (wadd .i64 x 1)) (m b x)))) (ifB (bpick (bnot (bpick false true false)) (bnot (bpick false true false)) false) (((0<=x)/\x<(slen s))/\ifB (bpick true (ine (sbyte s x) 46) false) (Q [B false]) (((Option.some []:Option LL)=Option.some [])/\(a b (wadd .i64 x 1))/\Nl (m b (wadd .i64 x 1)) (m b x))) (ifB (bpick false true false) (Q [B false]) (((Option.some []:Option LL)=Option.some [])/\(a b (wadd .i64 x 1))/\Nl (m b (wadd .i64 x 1)) (m b x)))))) (Q [B true]))):Ct prog 110 {} [S s] Q:=
 fN SgT SvT func110 h
def dright_nf{rows:LL}(h:ifB (bpick (bpick (bpick (igt (rlen rows) 64) true (ilt i 0)) true (igt i 65536)) true (ilt c ((-1:Int)))) (Q [B false]) (∃e:Bool->Int->Prop,∃m:Bool->Int->Nat,(e false 0)/\∀b x,(e b x)->ifB (ilt x (rlen rows)) (((0<=x)/\x<(rlen rows))/\∃s l n,(rget rows x=[S s,SL 1 l,SL 1 n])/\Cl prog 110 sP [S s] (λg=>∃a,(g=[B a])/\ifB (bnot a) (ifB (bpick true true (bpick (igt x 0) true false)) (Q [B false]) ((Sm (some ([[SL 3 rows,I i,I c,B o]])))/\(e b (wadd .i64 x 1))/\Nl (m b (wadd .i64 x 1)) (m b x))) (ifB (igt x 0) (((0<=(wsub .i64 x 1))/\(wsub .i64 x 1)<(rlen rows))/\∃j d p,(rget rows (wsub .i64 x 1)=[S j,SL 1 d,SL 1 p])/\ifB (bpick false true (bpick true (sge j s) false)) (Q [B false]) ((Sm (some ([[SL 3 rows,I i,I c,B o]])))/\(e b (wadd .i64 x 1))/\Nl (m b (wadd .i64 x 1)) (m b x))) (ifB (bpick false true (bpick false true false)) (Q [B false]) ((Sm (some ([[SL 3 rows,I i,I c,B o]])))/\(e b (wadd .i64 x 1))/\Nl (m b (wadd .i64 x 1)) (m b x)))))) (Cl prog 77 sP ([SV.agg [SL 3 rows,I i,I c,B o]]) (λg=>∃k,(g=[I k])/\Q [B (ile k i)])))):Ct prog 46 {} [dsk4 rows i c o] Q:=
 fN SgT SvT func46 h
def dready_nf{rows:LL}(h:Cl prog 46 sP ([SV.agg [SL 3 rows,I e,I c,B o]]) (λj=>∃b,(j=[B b])/\ifB (bnot b) (Q [I 1]) (ifB o (Q [I 16]) (Cl prog 157 sP ([SL 1 l,SV.clo 158 []]) (λg=>∃i,(g=[B i])/\ifB i (Q [I 1]) (Q [I 0])))))):Ct prog 92 {} [dsk4 rows e c o,SL 1 l] Q:=
 fN SgT SvT func92 h
def Zxz(h:Cl prog 110 sP [S s] (λa=>∃b,(a=[B b])/\Q [B (bnot b)])):Ct prog 158 {} [S s] Q:=
 fN SgT SvT func158 h
def dplace_nf{rows:LL}(h:Cl prog 159 sP ([SL 3 rows,SV.clo 160 ([SV.ref 0 [S s]])]) (λd=>∃x,(d=[I x])/\Q [I x])):Ct prog 93 {} [dsk4 rows b i o,S s] Q:=
 fN SgT SvT func93 h
def Zx0(h:Q [B (seq s t)]):Ct prog 160 {} [fil3 s l r,.ref 0 [S t]] Q:=
 fN SgT SvT func160 h
def dsplit_nf(h:(((0:Int)<=0)/\(0<=i)/\(i=i)/\i<=(rlen l))/\((0<=i)/\(i<=(rlen l))/\(rlen l=rlen l)/\(rlen l)<=(rlen l))/\Q ([SV.agg [S s,SL 1 (rsub l 0 i),SL 1 (rsub l i (rlen l))]])):Ct prog 49 {} [S s,SL 1 l,I i] Q:=
 fN SgT SvT func49 h
def Zsr{rows:LL}{f:FuncId}(h:ifB (ieq i 0) (Q ([SV.agg [SL 3 rows,I b,I i,B true],I 16])) (ifB (igt i 0) (Cl prog 47 sO [SL 3 rows] (λa=>∃l,(a=[SL 3 l])/\Cl prog f (Sig.mk [Md.own] [Md.own]) ((SL 3 l)::C) (λd=>∃e,(d=[SL 3 e])/\Q ([SV.agg [SL 3 e,I b,I (wsub .i64 i 1),B o],I 0])))) (Cl prog 47 sO [SL 3 rows] (λa=>∃l,(a=[SL 3 l])/\Cl prog f (Sig.mk [Md.own] [Md.own]) ((SL 3 l)::C) (λd=>∃e,(d=[SL 3 e])/\Q ([SV.agg [SL 3 e,I b,I i,B o],I 0])))))):Ct prog 95 {} [dsk4 rows b i o,.clo f C] Q:=
 fN SgT SvT func95 h
def dread_nf{rows:LL}(h:Cl prog 92 sP ([SV.agg [SL 3 rows,I c,I i,B o],SL 1 ([[S s]])]) (λk=>∃x,(k=[I x])/\ifB (ine x 0) (Q ([SL 1 [],I x])) (Cl prog 93 sP ([SV.agg [SL 3 rows,I c,I i,B o],S s]) (λe=>∃b,(e=[I b])/\ifB (ieq b ((-1:Int))) (Q ([SL 1 [],I 14])) (((0<=b)/\b<(rlen rows))/\∃m l n,(rget rows b=[S m,SL 1 l,SL 1 n])/\((0<=b)/\b<(rlen rows))/\∃d p a,(rget rows b=[S d,SL 1 p,SL 1 a])/\Cl prog 48 sO ([SL 1 ([[SV.slice 1 l 0],[SV.slice 1 a 0]])]) (λg=>∃j,(g=[SL 1 j])/\Q [SL 1 j,I 0])))))):Ct prog 32 {} [dsk4 rows c i o,S s] Q:=
 fN SgT SvT func32 h
def Zx1{rows:LL}(h:Cl prog 92 sP ([SV.agg [SL 3 rows,I c,I i,B o],SL 1 ([[S s]])]) (λn=>∃x,(n=[I x])/\ifB (ine x 0) (Q ([SV.agg [SL 3 rows,I c,I i,B o],I x])) (Cl prog 93 sP ([SV.agg [SL 3 rows,I c,I i,B o],S s]) (λe=>∃a,(e=[I a])/\ifB (ine a ((-1:Int))) (Q ([SV.agg [SL 3 rows,I c,I i,B o],I 7])) (ifB (ieq (rlen rows) 64) (Q ([SV.agg [SL 3 rows,I c,I i,B o],I 13])) (Cl prog 95 sP ([SV.agg [SL 3 rows,I c,I i,B o],SV.clo 244 ([SV.ref 0 [S s]])]) (λg=>∃l j,∃k b m,(g=[SV.agg [SL 3 l,I j,I k,B b],I m])/\Q ([SV.agg [SL 3 l,I j,I k,B b],I m])))))))):Ct prog 168 {} [dsk4 rows c i o,S s] Q:=
 fN SgT SvT func168 h
def Zx2{rows:LL}(h:Cl prog 92 sP ([SV.agg [SL 3 rows,I c,I i,B o],SL 1 ([[S s]])]) (λv=>∃a,(v=[I a])/\ifB (ine a 0) (Q ([SV.agg [SL 3 rows,I c,I i,B o],I a])) (Cl prog 93 sP ([SV.agg [SL 3 rows,I c,I i,B o],S s]) (λm=>∃e,(m=[I e])/\ifB (ieq e ((-1:Int))) (Q ([SV.agg [SL 3 rows,I c,I i,B o],I 14])) (Cl prog 77 sP ([SV.agg [SL 3 rows,I c,I i,B o]]) (λn=>∃r,(n=[I r])/\ifB (igt (rlen l) (wsub .i64 c r)) (Q ([SV.agg [SL 3 rows,I c,I i,B o],I 13])) (Cl prog 95 sP ([SV.agg [SL 3 rows,I c,I i,B o],SV.clo 246 ([SV.ref 0 [I e],SV.ref 0 [S s],SV.ref 0 [SL 1 l]])]) (λd=>∃x j,∃k b g,(d=[SV.agg [SL 3 x,I j,I k,B b],I g])/\ifB (ieq g 16) (Cl prog 47 sO [SL 3 rows] (λp=>∃t,(p=[SL 3 t])/\Cl prog 246 (Sig.mk [Md.own] [Md.own]) ([SL 3 t,SV.ref 0 [I e],SV.ref 0 [S s],SV.ref 0 [SL 1 l]]) (λq=>∃u,(q=[SL 3 u])/\Q ([SV.agg [SL 3 u,I j,I k,B b],I g])))) (Q ([SV.agg [SL 3 x,I j,I k,B b],I g])))))))))):Ct prog 169 {} [dsk4 rows c i o,S s,SL 1 l] Q:=
 fN SgT SvT func169 h
def dsync_nf{rows:LL}(h:Cl prog 92 sP ([SV.agg [SL 3 rows,I c,I i,B o],SL 1 ([[S s]])]) (λn=>∃x,(n=[I x])/\ifB (ine x 0) (Q ([SV.agg [SL 3 rows,I c,I i,B o],I x])) (Cl prog 93 sP ([SV.agg [SL 3 rows,I c,I i,B o],S s]) (λg=>∃e,(g=[I e])/\ifB (ieq e ((-1:Int))) (Q ([SV.agg [SL 3 rows,I c,I i,B o],I 14])) (Cl prog 95 sP ([SV.agg [SL 3 rows,I c,I i,B o],SV.clo 221 ([SV.ref 0 [I e],SV.ref 0 [S s]])]) (λa=>∃l j,∃k b m,(a=[SV.agg [SL 3 l,I j,I k,B b],I m])/\Q ([SV.agg [SL 3 l,I j,I k,B b],I m]))))))):Ct prog 151 {} [dsk4 rows c i o,S s] Q:=
 fN SgT SvT func151 h
def Zx3{rows:LL}(h:Cl prog 92 sP ([SV.agg [SL 3 rows,I c,I i,B o],SL 1 ([[S s],[S t]])]) (λn=>∃x,(n=[I x])/\ifB (ine x 0) (Q ([SV.agg [SL 3 rows,I c,I i,B o],I x])) (Cl prog 93 sP ([SV.agg [SL 3 rows,I c,I i,B o],S s]) (λg=>∃e,(g=[I e])/\ifB (ieq e ((-1:Int))) (Q ([SV.agg [SL 3 rows,I c,I i,B o],I 14])) (Cl prog 95 sP ([SV.agg [SL 3 rows,I c,I i,B o],SV.clo 247 ([SV.ref 0 [I e],SV.ref 0 [S s],SV.ref 0 [S t]])]) (λa=>∃l j,∃k b m,(a=[SV.agg [SL 3 l,I j,I k,B b],I m])/\Q ([SV.agg [SL 3 l,I j,I k,B b],I m]))))))):Ct prog 170 {} [dsk4 rows c i o,S s,S t] Q:=
 fN SgT SvT func170 h
def Zx4{rows:LL}(h:Cl prog 92 sP ([SV.agg [SL 3 rows,I c,I i,B o],SL 1 ([[S s]])]) (λn=>∃x,(n=[I x])/\ifB (ine x 0) (Q ([SV.agg [SL 3 rows,I c,I i,B o],I x])) (Cl prog 93 sP ([SV.agg [SL 3 rows,I c,I i,B o],S s]) (λg=>∃e,(g=[I e])/\ifB (ieq e ((-1:Int))) (Q ([SV.agg [SL 3 rows,I c,I i,B o],I 14])) (Cl prog 95 sP ([SV.agg [SL 3 rows,I c,I i,B o],SV.clo 176 ([SV.ref 0 [I e]])]) (λa=>∃l j,∃k b m,(a=[SV.agg [SL 3 l,I j,I k,B b],I m])/\Q ([SV.agg [SL 3 l,I j,I k,B b],I m]))))))):Ct prog 106 {} [dsk4 rows c i o,S s] Q:=
 fN SgT SvT func106 h
def dapp1_nf{rows:LL}(h:((0<=i)/\i<(rlen rows))/\((0<=i)/\i<(rlen rows))/\∃k x c,(rget rows i=[S k,SL 1 x,SL 1 c])/\Cl prog 48 sO ([SL 1 ([[SV.slice 1 x 0],[SV.slice 1 c 0],[SV.slice 1 l 0]])]) (λj=>∃d,(j=[SL 1 d])/\Cl prog 49 sP [S s,SL 1 d,I (rlen x)] (λb=>∃e g a,(b=[SV.agg [S e,SL 1 g,SL 1 a]])/\((0<=i)/\i<(rlen rows))/\((0<=i)/\i<(rlen rows))/\Q ([SL 3 (rset rows i [S e,SV.slice 1 g 0,SV.slice 1 a 0])])))):Ct prog 246 ⟨[.own],[.own]⟩ [SL 3 rows,.ref 0 [I i],.ref 0 [S s],.ref 0 [SL 1 l]] Q:=
 fN SgT SvT func246 h
def dcre1_nf{rows:LL}(h:Cl prog 245 (Sig.mk [Md.own] [Md.own]) ([SL 3 rows,SV.agg ([S s,SL 1 [],SL 1 []])]) (λa=>∃l,(a=[SL 3 l])/\Q [SL 3 l])):Ct prog 244 ⟨[.own],[.own]⟩ [SL 3 rows,.ref 0 [S s]] Q:=
 fN SgT SvT func244 h
def dsyn1_nf{rows:LL}(h:((0<=i)/\i<(rlen rows))/\((0<=i)/\i<(rlen rows))/\∃e l b,(rget rows i=[S e,SL 1 l,SL 1 b])/\Cl prog 48 sO ([SL 1 ([[SV.slice 1 l 0],[SV.slice 1 b 0]])]) (λm=>∃g,(m=[SL 1 g])/\Cl prog 94 sP ([SV.agg [S e,SL 1 l,SL 1 b]]) (λc=>∃x,(c=[I x])/\Cl prog 49 sP [S s,SL 1 g,I x] (λd=>∃a j k,(d=[SV.agg [S a,SL 1 j,SL 1 k]])/\((0<=i)/\i<(rlen rows))/\((0<=i)/\i<(rlen rows))/\Q ([SL 3 (rset rows i [S a,SV.slice 1 j 0,SV.slice 1 k 0])]))))):Ct prog 221 ⟨[.own],[.own]⟩ [SL 3 rows,.ref 0 [I i],.ref 0 [S s]] Q:=
 fN SgT SvT func221 h
def dren1_nf{rows:LL}(h:((0<=i)/\i<(rlen rows))/\((0<=i)/\i<(rlen rows))/\∃a l c,(rget rows i=[S a,SL 1 l,SL 1 c])/\Cl prog 248 (Sig.mk [Md.own] [Md.own]) ([SL 3 rows,SV.clo 249 ([SV.ref 0 [S s],SV.ref 0 [S t]])]) (λg=>∃d,(g=[SL 3 d])/\Cl prog 245 (Sig.mk [Md.own] [Md.own]) ([SL 3 d,SV.agg [S t,SL 1 l,SL 1 c]]) (λb=>∃e,(b=[SL 3 e])/\Q [SL 3 e]))):Ct prog 247 ⟨[.own],[.own]⟩ [SL 3 rows,.ref 0 [I i],.ref 0 [S s],.ref 0 [S t]] Q:=
 fN SgT SvT func247 h
def dren11_nf{nm t:BA}(h:Q [B (bpick (seq s nm) true (seq s t))]):Ct prog 249 {} [fil3 s l r,.ref 0 [S nm],.ref 0 [S t]] Q:=
 fN SgT SvT func249 h
def drem1_nf{rows:LL}(h:Cl prog 177 (Sig.mk [Md.own] [Md.own]) [SL 3 rows,I i,I (wadd .i64 i 1)] (λb=>∃l,(b=[SL 3 l])/\Q [SL 3 l])):Ct prog 176 ⟨[.own],[.own]⟩ [SL 3 rows,.ref 0 [I i]] Q:=
 fN SgT SvT func176 h
def Zx5{rows:LL}(h:Cl prog 309 sP ([SL 3 rows,S s,SV.clo 310 []]) (λd=>∃x e,(d=[I x,B e])/\Cl prog 311 (Sig.mk [Md.own] [Md.own]) ([SL 3 rows,I x,SL 3 ([[S s,SV.slice 1 l 0,SV.slice 1 r 0]])]) (λc=>∃a,(c=[SL 3 a])/\Q [SL 3 a]))):Ct prog 245 ⟨[.own],[.own]⟩ [SL 3 rows,fil3 s l r] Q:=
 fN SgT SvT func245 h
def fclone_nf{rows:LL}(h:∀b,((b=true)->rlen rows=0)->ifB b (Q ([SL 3 []])) (((lsum (rlen []) (rlen rows))<=2147483648)/\Q ([SL 3 (rapp [] rows)]))):Ct prog 47 ⟨[],[.own]⟩ [SL 3 rows] Q:=
 fN SgT SvT func47 h
def Zx6{rows:LL}{f:FuncId}(h:∃b:Int->Int->Prop,∃m:Int->Int->Nat,(b 0 (rlen rows))/\∀x a,(b x a)->ifB (ilt x a) (((0:Int)<=1)/\((0<=(wcv .i64 (wshr .u64 (wcv .u64 (wadd .i64 x a)) 1)))/\(wcv .i64 (wshr .u64 (wcv .u64 (wadd .i64 x a)) 1))<(rlen rows))/\∃c l d,(rget rows (wcv .i64 (wshr .u64 (wcv .u64 (wadd .i64 x a)) 1))=[S c,SL 1 l,SL 1 d])/\Cl prog f sP ((SV.agg [S c,SL 1 l,SL 1 d])::((S s)::C)) (λi=>∃e,(i=[I e])/\ifB (ilt e 0) (((Option.some []:Option LL)=Option.some [])/\(b (wadd .i64 (wcv .i64 (wshr .u64 (wcv .u64 (wadd .i64 x a)) 1)) 1) a)/\Nl (m (wadd .i64 (wcv .i64 (wshr .u64 (wcv .u64 (wadd .i64 x a)) 1)) 1) a) (m x a)) (((Option.some []:Option LL)=Option.some [])/\(b x (wcv .i64 (wshr .u64 (wcv .u64 (wadd .i64 x a)) 1)))/\Nl (m x (wcv .i64 (wshr .u64 (wcv .u64 (wadd .i64 x a)) 1))) (m x a)))) (ifB (ilt x (rlen rows)) (((0<=x)/\x<(rlen rows))/\∃c l d,(rget rows x=[S c,SL 1 l,SL 1 d])/\Cl prog f sP ((SV.agg [S c,SL 1 l,SL 1 d])::((S s)::C)) (λi=>∃e,(i=[I e])/\Q [I x,B (bpick true (ieq e 0) false)])) (Q [I x,B (bpick false true false)]))):Ct prog 309 {} [SL 3 rows,S s,.clo f C] Q:=
 fN SgT SvT func309 h
def scont_nf{rows:LL}{f:FuncId}(h:Cl prog 234 sP [SL 1 rows,SV.clo f C] (λb=>∃x,(b=[I x])/\Q [B (ige x 0)])):Ct prog 157 {} [SL 1 rows,.clo f C] Q:=
 fN SgT SvT func157 h
def sindex_nf{rows:LL}{f:FuncId}(h:∃c:Int->Int->Prop,∃m:Int->Int->Nat,(c 0 0)/\∀x a,(c x a)->ifB (ilt a (rlen rows)) (((0<=a)/\a<(rlen rows))/\∃s,(rget rows a=[S s])/\Cl prog f sP ((S s)::C) (λe=>∃b,(e=[B b])/\ifB b (Q [I a]) (((Option.some []:Option LL)=Option.some [])/\(c x (wadd .i64 a 1))/\Nl (m x (wadd .i64 a 1)) (m x a)))) (Q [I (-1)])):Ct prog 234 {} [SL 1 rows,.clo f C] Q:=
 fN SgT SvT func234 h
def Zss(h:Cl prog 190 sP [S s] (λd=>∃b,(d=[B b])/\Cl prog 190 sP [S t] (λc=>∃a,(c=[B a])/\ifB b (ifB a (Q [I 0]) (Q [I (-1)])) (ifB a (Q [I 1]) (ifB (slt s t) (Q [I (-1)]) (ifB (sgt s t) (Q [I 1]) (Q [I 0]))))))):Ct prog 134 {} [S s,S t] Q:=
 fN SgT SvT func134 h
def cnan_nf(h:Q [B (sne s s)]):Ct prog 190 {} [S s] Q:=
 fN SgT SvT func190 h
def dins1_nf(h:Cl prog 134 sP [S s,S t] (λc=>∃x,(c=[I x])/\Q [I x])):Ct prog 310 {} [fil3 s l r,S t] Q:=
 fN SgT SvT func310 h
def dcut_nf{rows:LL}(h:Cl prog 92 sP ([SV.agg [SL 3 rows,I c,I i,B o],SL 1 ([[S s]])]) (λu=>∃x,(u=[I x])/\ifB (ine x 0) (Q ([SV.agg [SL 3 rows,I c,I i,B o],I x])) (Cl prog 93 sP ([SV.agg [SL 3 rows,I c,I i,B o],S s]) (λm=>∃e,(m=[I e])/\ifB (ieq e ((-1:Int))) (Q ([SV.agg [SL 3 rows,I c,I i,B o],I 14])) (ifB (ilt j 0) (ifB (bpick true true true) (Q ([SV.agg [SL 3 rows,I c,I i,B o],I 1])) (Cl prog 95 sP ([SV.agg [SL 3 rows,I c,I i,B o],SV.clo 96 ([SV.ref 0 [I e],SV.ref 0 [S s],SV.ref 0 [I j]])]) (λg=>∃l a,∃n b k,(g=[SV.agg [SL 3 l,I a,I n,B b],I k])/\Q ([SV.agg [SL 3 l,I a,I n,B b],I k])))) (((0<=e)/\e<(rlen rows))/\∃p l q,(rget rows e=[S p,SL 1 l,SL 1 q])/\Cl prog 94 sP ([SV.agg [S p,SL 1 l,SL 1 q]]) (λg=>∃a,(g=[I a])/\ifB (bpick false true (igt j a)) (Q ([SV.agg [SL 3 rows,I c,I i,B o],I 1])) (Cl prog 95 sP ([SV.agg [SL 3 rows,I c,I i,B o],SV.clo 96 ([SV.ref 0 [I e],SV.ref 0 [S s],SV.ref 0 [I j]])]) (λd=>∃r n,∃k b t,(d=[SV.agg [SL 3 r,I n,I k,B b],I t])/\Q ([SV.agg [SL 3 r,I n,I k,B b],I t])))))))))):Ct prog 33 {} [dsk4 rows c i o,S s,I j] Q:=
 fN SgT SvT func33 h
def dcut1_nf{rows:LL}(h:((0<=i)/\i<(rlen rows))/\((0<=i)/\i<(rlen rows))/\∃k l d,(rget rows i=[S k,SL 1 l,SL 1 d])/\Cl prog 48 sO ([SL 1 ([[SV.slice 1 l 0],[SV.slice 1 d 0]])]) (λn=>∃b,(n=[SL 1 b])/\(((0:Int)<=0)/\(0<=j)/\j<=(rlen b))/\Cl prog 49 sP [S s,SL 1 (rsub b 0 j),I (imin j (rlen l))] (λc=>∃e g a,(c=[SV.agg [S e,SL 1 g,SL 1 a]])/\((0<=i)/\i<(rlen rows))/\((0<=i)/\i<(rlen rows))/\Q ([SL 3 (rset rows i [S e,SV.slice 1 g 0,SV.slice 1 a 0])])))):Ct prog 96 ⟨[.own],[.own]⟩ [SL 3 rows,.ref 0 [I i],.ref 0 [S s],.ref 0 [I j]] Q:=
 fN SgT SvT func96 h
def qshort_nf(rows:LL)(d a:Int)(e:Bool)(Q:QQ)(h:ifB (igt (rlen rows) 70) (ifB (bpick true true true) (Q [B false]) (∃c:Bool->Int->Prop,∃m:Bool->Int->Nat,(c false 0)/\∀b x,(c b x)->ifB (ilt x (rlen rows)) (((0<=x)/\x<(rlen rows))/\∃s l i,(rget rows x=[S s,SL 1 l,SL 1 i])/\ifB (igt (slen s) 100) (Q [B false]) ((Sm (some ([[SL 3 rows,I d,I a,B e]])))/\(c b (wadd .i64 x 1))/\Nl (m b (wadd .i64 x 1)) (m b x))) (Q [B true]))) (Cl prog 45 sP ([SV.agg [SL 3 rows,I d,I a,B e]]) (λj=>∃x,(j=[I x])/\ifB (bpick false true (igt x 70000)) (Q [B false]) (∃c:Bool->Int->Prop,∃m:Bool->Int->Nat,(c false 0)/\∀b g,(c b g)->ifB (ilt g (rlen rows)) (((0<=g)/\g<(rlen rows))/\∃s l i,(rget rows g=[S s,SL 1 l,SL 1 i])/\ifB (igt (slen s) 100) (Q [B false]) ((Sm (some ([[SL 3 rows,I d,I a,B e]])))/\(c b (wadd .i64 g 1))/\Nl (m b (wadd .i64 g 1)) (m b g))) (Q [B true]))))):Ct prog 11 {} [dsk4 rows d a e] Q:=
 fN SgT SvT func11 h
def qused_nf{rows:LL}(h:∃e:Int->Int->Prop,∃m:Int->Int->Nat,(e 0 0)/\∀x a,(e x a)->ifB (ilt a (rlen rows)) (((0<=a)/\a<(rlen rows))/\∃s l i,(rget rows a=[S s,SL 1 l,SL 1 i])/\((0<=a)/\a<(rlen rows))/\∃j k g,(rget rows a=[S j,SL 1 k,SL 1 g])/\(Sm (some ([[SL 3 rows,I c,I b,B o]])))/\(e (wadd .i64 (wadd .i64 x (rlen l)) (rlen g)) (wadd .i64 a 1))/\Nl (m (wadd .i64 (wadd .i64 x (rlen l)) (rlen g)) (wadd .i64 a 1)) (m x a)) (Q [I x])):Ct prog 45 {} [dsk4 rows c b o] Q:=
 fN SgT SvT func45 h
end Dsk
namespace Dsk
open Go Go.Px Go.Proofs Ins Tryz
def ovl_file:fovl prog 346 22:=by
 refine⟨#[4],λx y w=>?_⟩;rw[run_callFunc_extern func346 Vk Vk Vk (e:=Extern.SlicesOverlaps.overlaps #[22,22] #[4]) Vk]
def grow_fn(n:Nat)(i:n<=2147483648):Ct prog 111 ⟨[.own],[.own]⟩ [SL 1 [],I n] (λr=>r=[SL 1 []]):=by
 refine grow_nf (Zaa (λh=>by simp at h;omega) (λ_ x b g=>?_));simp only[rlen_eq,List.length_nil,isub_d,lsum_eq,Wv,Wc]at b|-;have b:(0:Int)<=x:=b;have w:wsub .i64 (n:Int) (wsub .i64 x ((0:Nat):Int))=n-x:=(by rw[Zar (a:=x)];rw[Zar];omega);rw[w];refine Zaa (λh=>?_) (λh=>⟨Int.le_refl _,by simp[rsub]⟩);simp at h;refine⟨⟨Vo,b,Vo⟩,⟨⟨Vo,Vo⟩,Vo,Vo⟩,λc d e f=>⟨⟨Vo,Vo,Vo⟩,Vo,by simp[rsub]⟩,λc d e f=>⟨⟨Vo,Vo,Vo⟩,Vo,by simp[rsub]⟩⟩
def catL:List (List UInt8)->List UInt8:=List.flatten
abbrev sR(a:List (List UInt8)):LL:=a.map λl=>[SL 1 (uR l)]
def Zwm(a:List (List UInt8))(i:Nat)(h:i<a.length):catL (a.take (i+1))=catL (a.take i)++a[i]:=by
 rw[take_s _ _ h];unfold catL;rw[List.flatten_append,List.flatten_singleton]
def cat_le(a:List (List UInt8))(i:Nat):(catL (a.take i)).length<=(catL a).length:=by
 conv=>rhs;rw[<-List.take_append_drop i a]
 simp only[catL,List.flatten_append,List.length_append];omega
def Zrw(a:List (List UInt8))(d:a.length<=1000)(b:(catL a).length<=2147483648):Ct prog 48 ⟨[],[.own]⟩ [SL 1 (sR a)] (λr=>r=[SL 1 (uR (catL a))]):=by
 refine concat_nf ⟨λx y=>∃i:Nat,y=i/\i<=a.length/\x=(catL (a.take i)).length,λ_ y=>a.length-y.toNat,⟨0,rfl,Vo,by simp[catL]⟩,?_⟩;rintro _ _ ⟨i,rfl,hi,rfl⟩;refine Zaa (λh=>?_) (λh=>?_)
 .simp at h;have e:=Zwm a i h;have e2:=cat_le a (i+1);rw[e,List.length_append]at e2;refine⟨⟨Vo,by simpa using h⟩,uR a[i],by rw[Zaj _ _ _ h],?_⟩;rw[rlen_eq,Zj1,Zlb _ _ Vo];refine Zaa (λc=>by simp at c;omega) (λ_=>⟨rfl,?_,?_⟩)
  .rw[waddN _];exact⟨i+1,rfl,Vo,by rw[e,List.length_append]⟩
  .rw[waddN _];exact stepL Vm
 .simp at h;have:i=a.length:=Vo;subst this;rw[Yg];refine Cl.of (grow_fn _ b) ⟨_,rfl,λl y=>∃i:Nat,y=i/\i<=a.length/\l=uR (catL (a.take i)),λ_ y=>a.length-y.toNat,⟨0,rfl,Vo,by simp[catL]⟩,?_⟩;rintro _ _ ⟨i,rfl,hi,rfl⟩;refine Zaa (λh=>?_) (λh=>?_)
  .simp at h;have e:=Zwm a i h;have e2:=cat_le a (i+1);rw[e,List.length_append]at e2;refine⟨⟨Vo,by simpa using h⟩,uR a[i],by rw[Zaj _ _ _ h],Vm,rfl,?_,?_⟩
   .rw[waddN _];exact⟨i+1,rfl,Vo,by rw[e,Zkq]⟩
   .rw[waddN _];exact stepL Vm
  .simp at h;have:i=a.length:=Vo;subst this;rw[Yg]
def Ztx(a b:List UInt8)(h:a.length+b.length<=2147483648):Ct prog 48 ⟨[],[.own]⟩ [SL 1 [[SL 1 (uR a)],[SL 1 (uR b)]]] (λr=>r=[SL 1 (uR (a++b))]):=by
 have:=Zrw [a,b] Vs (by simpa[catL]using h)
 simpa[catL]using this
def concat3(a b c:List UInt8)(h:a.length+b.length+c.length<=2147483648):Ct prog 48 ⟨[],[.own]⟩ [SL 1 [[SL 1 (uR a)],[SL 1 (uR b)],[SL 1 (uR c)]]] (λr=>r=[SL 1 (uR (a++b++c))]):=by
 have:=Zrw [a,b,c] Vs (by simp[catL];omega)
 simpa[catL]using this
def Zpp(f:FiD)(h:f.len<=72057594037927936):Ct prog 94 {} [.agg f.row] (λr=>r=[I f.len]):=by
 refine dsize_nf ?_;unfold FiD.len at h|-;rw[rlen_eq,rlen_eq,Zj1,Zj1,Zlb _ _ Vo]
def _root_.Go.Px.DiD.ok(d:DiD):Prop:=usedL d.fs<=72057594037927936/\d.fs.length<=72057594037927936/\d.st<=9223372036854775807
def _root_.Go.Px.DiD.P.ok{d:DiD}(h:d.P)(a:d.st<=9223372036854775807):d.ok:=by
 have b:=h.1;have c:=h.2.1;exact⟨Vo,Vo,a⟩
def Zrx(l:List FiD)(i:Nat)(h:i<l.length):usedL (l.take (i+1))=usedL (l.take i)+l[i].len:=by
 rw[take_s _ _ h,Ze5];simp[usedL]
def used_le(l:List FiD)(i:Nat):usedL (l.take i)<=usedL l:=by
 have:=congrArg usedL (List.take_append_drop i l);rw[Ze5]at this;omega
def Zkw(d:DiD)(h:d.ok):Ct prog 77 {} [d.sv] (λr=>r=[I (usedL d.fs)]):=by
 obtain⟨a,b,_⟩:=h;refine dused_nf ⟨λx y=>∃i:Nat,y=i/\i<=d.fs.length/\x=usedL (d.fs.take i),λ_ y=>d.fs.length-y.toNat,⟨0,rfl,Vo,by simp[usedL]⟩,?_⟩;rintro _ _ ⟨i,rfl,hi,rfl⟩;refine Zaa (λh=>?_) (λh=>?_)
 .simp at h;have e:=Zrx d.fs i h;have e2:=used_le d.fs (i+1);refine⟨⟨Vo,by simpa using h⟩,_,_,_,Zaj _ _ _ h,Cl.of (Zpp d.fs[i] (by have:=Ze6 (List.getElem_mem h);omega)) ⟨_,rfl,rfl,?_,?_⟩⟩
  .rw[waddN _,Zlb _ _ Vo];exact⟨i+1,rfl,Vo,by rw[e]⟩
  .rw[waddN _];exact stepL Vm
 .simp at h;have:i=d.fs.length:=Vo;subst this;rw[Yg]
def Zpq(d:DiD)(h:d.fs.length<=2147483648):Ct prog 107 {} [d.sv] (λr=>r=[SL 1 (nR (d.fs.map FiD.nm))]):=by
 refine dlist_nf ⟨⟨Vo,Vs,Vm⟩,λl y=>∃i:Nat,y=i/\i<=d.fs.length/\l=nR ((d.fs.take i).map FiD.nm),λ_ y=>d.fs.length-y.toNat,⟨0,rfl,Vo,by simp[rrep]⟩,?_⟩;rintro _ _ ⟨i,rfl,hi,rfl⟩;refine Zaa (λh=>?_) (λh=>?_)
 .simp at h;refine⟨⟨Vo,by simpa using h⟩,_,_,_,Zaj _ _ _ h,Vm,rfl,?_,?_⟩
  .rw[waddN _];exact⟨i+1,rfl,Vo,by rw[take_s _ _ h,List.map_append];exact Zkq _ _ [d.fs[i].nm]⟩
  .rw[waddN _];exact stepL Vm
 .simp at h;have:i=d.fs.length:=Vo;subst this;rw[Yg]
def Zty:fnB s=true↔(1<=s.size/\s.size<=16)/\∀i:Nat,∀h:i<s.size,fchr (s.data.toList[i]'(by rw[<-Zcw];exact h))=true:=by
 unfold fnB;rw[Bool.and_eq_true,decide_eq_true_eq,List.all_eq_true];refine and_congr Iff.rfl ⟨λh i a=>h _ (List.getElem_mem _),λh b c=>?_⟩;obtain⟨i,a,rfl⟩:=List.mem_iff_getElem.1 c;exact h i (by rw[Zcw];exact a)
def Zry(s:BA):Ct prog 110 {} [S s] (λr=>r=[B (fnB s)]):=by
 refine dnamed_nf (Zaa (λh=>?_) (λh=>?_))
 .simp at h;have:fnB s=false:=(by rw[Wi];intro k;have:=(Zty.1 k).1;omega);rw[this]
 .simp at h;refine⟨λ_ y=>∃i:Nat,y=i/\i<=s.size/\∀j:Nat,∀a:j<s.size,j<i->fchr (s.data.toList[j]'(by rw[<-Zcw];exact a))=true,λ_ y=>s.size-y.toNat,⟨0,rfl,Vo,λj _ a=>Vo⟩,?_⟩;rintro _ _ ⟨i,rfl,hi,hall⟩;refine Zaa (λd=>?_) (λd=>?_)
  .simp at d;rw[sbyte_u _ _ d,waddN _];generalize hb:s.data.toList[i]'(by rw[<-Zcw];exact d)=b
   have o:fchr b=true->∃k:Nat,((i+1:Nat):Int)=k/\k<=s.size/\∀j:Nat,∀a:j<s.size,j<k->fchr (s.data.toList[j]'(by rw[<-Zcw];exact a))=true:=λf=>
    ⟨i+1,rfl,Vo,λj a v=>by
     by_cases e:j=i
     .subst e;rw[hb];exact f
     .exact hall j a Vo⟩
   have no:fchr b=false->[B false]=[B (fnB s)]:=λf=>by have:fnB s=false:=(by rw[Wi];intro k;have:=(Zty.1 k).2 i d;rw[hb,f]at this;cases this);rw[this]
   have u:Nl (s.size-((i+1:Nat):Int).toNat) (s.size-((i:Nat):Int).toNat):=stepL Vm
   have rng:(0:Int)<=(i:Int)/\(i:Int)<slen s:=⟨Vo,by simpa using d⟩
   have w:∀{p:Prop},(p↔fchr b=true)->p->fchr b=true:=λh=>h.1;have q:fchr b=true↔(97<=b.toNat/\b.toNat<=122)\/(48<=b.toNat/\b.toNat<=57)\/b.toNat=46:=(by unfold fchr;rw[decide_eq_true_eq]);have t:fchr b=false↔¬((97<=b.toNat/\b.toNat<=122)\/(48<=b.toNat/\b.toNat<=57)\/b.toNat=46):=by rw[<-q];simp
   have fin:∀(g:Bool),(g=true↔fchr b=false)->ifB g ([B false]=[B (fnB s)]) ((some []:Option LL)=some []/\(∃k:Nat,((i+1:Nat):Int)=k/\k<=s.size/\∀j:Nat,∀a:j<s.size,j<k->fchr (s.data.toList[j]'(by rw[<-Zcw];exact a))=true)/\Nl (s.size-((i+1:Nat):Int).toNat) (s.size-((i:Nat):Int).toNat)):=λg n=>
    Zaa (λh=>no (n.1 h)) (λh=>⟨rfl,o (by cases f:fchr b with|true=>rfl|false=>rw[n.2 f]at h;cases h),u⟩)
   refine⟨rng,Zaa (λm=>⟨rng,rng,Zaa (λl=>⟨rng,Zaa (λc=>⟨rng,fin _ ?_⟩) (λc=>fin _ ?_)⟩) (λl=>Zaa (λc=>⟨rng,fin _ ?_⟩) (λc=>fin _ ?_))⟩) (λm=>⟨rng,Zaa (λl=>⟨rng,Zaa (λc=>⟨rng,fin _ ?_⟩) (λc=>fin _ ?_)⟩) (λl=>Zaa (λc=>⟨rng,fin _ ?_⟩) (λc=>fin _ ?_))⟩)⟩
   all_goals first|(simp at m l c;done)|(simp at m l c;rw[t];first|(simp;done)|(simp;omega))
  .simp at d;have:fnB s=true:=Zty.2 ⟨Vo,λj a=>hall j a Vo⟩;rw[this]
def adj_srt{l:List FiD}(h:∀i:Nat,∀a:i<l.length,0<i->nlt (l[i-1]'Vo).nm l[i].nm):srt FiD.nm l:=
 srt_adj λi a=>by have:=h (i+1) a Vo;simpa using this
def Zd6(d:DiD)(h:d.ok):Ct prog 46 {} [d.sv] (λr=>r=[B (decide d.P)]):=by
 have no:¬d.P->[B false]=[B (decide d.P)]:=λh=>by simp[h]
 refine dright_nf (Zaa (λq=>no (λp=>?_)) (λq=>?_))
 .have:=p.1;simp at q;omega
 .simp at q;refine⟨λ_ y=>∃i:Nat,y=i/\i<=d.fs.length/\∀j:Nat,∀c:j<d.fs.length,j<i->fnB d.fs[j].nm=true/\(0<j->nlt (d.fs[j-1]'Vo).nm d.fs[j].nm),λ_ y=>d.fs.length-y.toNat,⟨0,rfl,Vo,λj _ c=>Vo⟩,?_⟩;rintro b _ ⟨i,rfl,hi,hall⟩;refine Zaa (λl=>?_) (λl=>?_)
  .simp at l;have s:Nl (d.fs.length-((i+1:Nat):Int).toNat) (d.fs.length-((i:Nat):Int).toNat):=stepL Vm
   have o:fnB d.fs[i].nm=true->(0<i->nlt (d.fs[i-1]'Vo).nm d.fs[i].nm)->∃k:Nat,((i+1:Nat):Int)=k/\k<=d.fs.length/\∀j:Nat,∀c:j<d.fs.length,j<k->fnB d.fs[j].nm=true/\(0<j->nlt (d.fs[j-1]'Vo).nm d.fs[j].nm):=λa b=>
    ⟨i+1,rfl,Vo,λj c x=>by
     by_cases e:j=i
     .subst e;exact⟨a,b⟩
     .exact hall j c Vo⟩
   rw[waddN _];refine⟨⟨Vo,by simpa using l⟩,_,_,_,Zaj _ _ _ l,Cl.of (Zry _) ⟨_,rfl,Zaa (λm=>?_) (λm=>?_)⟩⟩
   .simp at m;refine Zaa (λ_=>no (λp=>?_)) (λn=>by simp at n);have:=p.2.2.1 _ (List.getElem_mem l);rw[this]at m;cases m
   .simp at m;refine Zaa (λn=>?_) (λn=>?_)
    .simp at n;have w:wsub .i64 (i:Int) 1=((i-1:Nat):Int):=by rw[Zar];omega
     rw[w];have hi1:i-1<d.fs.length:=Vo;refine⟨⟨Vo,Vm⟩,_,_,_,Zaj _ _ _ hi1,?_⟩;rw[sge_d];refine Zaa (λg=>no (λp=>?_)) (λg=>⟨rfl,o m (λ_=>?_),s⟩)
     .simp at g;exact g (Zps p.2.2.2 Vo l)
     .simp at g;exact g
    .simp at n;refine Zaa (λg=>by simp at g) (λg=>⟨rfl,o m (λ_=>Vo),s⟩)
  .simp at l;have u:srt FiD.nm d.fs:=adj_srt λj c=>(hall j c Vo).2;have v:∀f∈d.fs,fnB f.nm=true:=λf t=>by obtain⟨j,c,rfl⟩:=List.mem_iff_getElem.1 t;exact(hall j c Vo).1
   refine Cl.of (Zkw d h) ⟨_,rfl,?_⟩;have:ile (usedL d.fs:Int) d.rm=decide d.P:=(by rw[ile_eq,decide_eq_decide];exact⟨λk=>⟨⟨Vo,Vo,Vo,Vo⟩,k,v,u⟩,λp=>p.2.1⟩);rw[this]
def Zyf(s:BA):Ct prog 158 {} [S s] (λr=>r=[B (!fnB s)]):=
 Zxz (Cl.of (Zry s) ⟨_,rfl,rfl⟩)
def sindex_fn(l:List BA)(f:FuncId)(c:List SV)(p:BA->Bool)(d:l.length<=1000000)(g:∀s∈l,Ct prog f sP (S s::c) (λx=>x=[B (p s)])):
  Ct prog 234 {} [SL 1 (nR l),.clo f c] (λr=>∃x:Int,r=[I x]/\((x= -1/\∀s∈l,p s=false)\/(0<=x/\∃s∈l,p s=true))):=by
 refine sindex_nf ⟨λ_ y=>∃i:Nat,y=i/\i<=l.length/\∀j:Nat,∀a:j<l.length,j<i->p l[j]=false,λ_ y=>l.length-y.toNat,⟨0,rfl,Vo,λj _ a=>Vo⟩,?_⟩;rintro _ _ ⟨i,rfl,hi,hall⟩;refine Zaa (λh=>?_) (λh=>?_)
 .simp at h;rw[waddN _];refine⟨⟨Vo,by simpa using h⟩,_,Zaj _ _ _ h,Cl.of (g _ (List.getElem_mem h)) ⟨_,rfl,Zaa (λb=>⟨_,rfl,.inr ⟨Vo,_,List.getElem_mem h,b⟩⟩) (λb=>⟨rfl,⟨i+1,rfl,Vo,λj a m=>?_⟩,stepL Vm⟩)⟩⟩;by_cases e:j=i
  .subst e;exact b
  .exact hall j a Vo
 .simp at h;refine⟨-1,rfl,.inl ⟨rfl,λs k=>?_⟩⟩;obtain⟨j,a,rfl⟩:=List.mem_iff_getElem.1 k;exact hall j a Vo
def scont_fn(l:List BA)(f:FuncId)(a:List SV)(p:BA->Bool)(b:l.length<=1000000)(d:∀s∈l,Ct prog f sP (S s::a) (λx=>x=[B (p s)])):
  Ct prog 157 {} [SL 1 (nR l),.clo f a] (λr=>r=[B (l.any p)]):=by
 refine scont_nf (Cl.ofQ (sindex_fn l f a p b d) ?_);rintro _ ⟨x,rfl,hx⟩;refine⟨x,rfl,?_⟩
 rcases hx with⟨rfl,h⟩|⟨h0,s,c,h⟩
 .have:l.any p=false:=(by rw[YU];intro s c;simp[h s c]);rw[this];simp
 .have:l.any p=true:=List.any_eq_true.2 ⟨s,c,h⟩;rw[this];simp;omega
def Zq4(d:DiD)(h:d.ok)(l:List BA)(e:l.length<=1000):Ct prog 92 {} [d.sv,SL 1 (nR l)] (λr=>r=[I (if d.P then(if d.dn=true then 16 else if l.any (λs=>!fnB s)=true then 1 else 0)else 1)]):=by
 refine dready_nf (Cl.of (Zd6 d h) ⟨_,rfl,Zaa (λa=>?_) (λa=>Zaa (λb=>?_) (λb=>Cl.of (scont_fn l 158 [] (λs=>!fnB s) Vo (λs _=>Zyf s)) ⟨_,rfl,Zaa (λc=>?_) (λc=>?_)⟩))⟩)
 .simp at a;rw[if_neg a]
 .simp at a;rw[if_pos a,if_pos b]
 .simp at a;rw[if_pos a,if_neg (by simp[b]),if_pos c]
 .simp at a;rw[if_pos a,if_neg (by simp[b]),if_neg (by simp[c])]
def Znr(d:DiD)(h:d.ok)(s:BA):Ct prog 92 {} [d.sv,SL 1 [[S s]]] (λr=>r=[I (d.er s s)]):=by
 have:=Zq4 d h [s] Vs
 have e:(if d.P then(if d.dn=true then(16:Int)else if[s].any (λs=>!fnB s)=true then 1 else 0)else 1)=d.er s s:=by
  unfold DiD.er
  cases h1:fnB s<;>simp[h1]
 rw[e]at this;exact this
def ready2(d:DiD)(h:d.ok)(a b:BA):Ct prog 92 {} [d.sv,SL 1 [[S a],[S b]]] (λr=>r=[I (d.er a b)]):=by
 have:=Zq4 d h [a,b] Vs
 have e:(if d.P then(if d.dn=true then(16:Int)else if[a,b].any (λs=>!fnB s)=true then 1 else 0)else 1)=d.er a b:=by
  unfold DiD.er
  cases h1:fnB a<;>cases h2:fnB b<;>simp[h1,h2]
 rw[e]at this;exact this
def Zyg(f:FiD)(s:BA):Ct prog 160 {} [.agg f.row,.ref 0 [S s]] (λr=>r=[B (decide (f.nm=s))]):=
 Zx0 (by rw[seq_d])
def Zq5(f:FiD):isFil f.row:=⟨_,_,_,rfl⟩
def rnm(r:List SV):BA:=match r with| .val (.string s)::_=>s|_=>ByteArray.empty
def rnm_row(f:FiD):rnm f.row=f.nm:=rfl
def Zd0(d:DiD)(b:d.fs.length<=1000000)(s:BA):Ct prog 93 {} [d.sv,S s] (λr=>r=[I (fAt FiD.nm d.fs s)]):=by
 refine dplace_nf (Cl.ofQ (Zq1 (fR d.fs) 160 [.ref 0 [S s]] (λr=>decide (rnm r=s)) (by simpa using b) (λr c=>?_)) ?_)
 .obtain⟨f,_,rfl⟩:=Y5.1 c;exact⟨Zq5 f,Zyg f s⟩
 .rintro _ ⟨x,rfl,hx⟩;refine⟨x,rfl,?_⟩
  have:x=fAt FiD.nm d.fs s:=by
   rcases hx with⟨rfl,h⟩|⟨h0,h1,h2,h3⟩
   .refine(Zgy.2 λf g=>?_).symm;have:=h f.row (Yd g);exact of_decide_eq_false (this:decide (f.nm=s)=false)
   .obtain⟨i,rfl⟩:∃i:Nat,x=i:=⟨x.toNat,Vo⟩
    have a:i<d.fs.length:=(by simpa using h1);rw[Zaj _ _ _ a,rnm_row]at h3
    have e:fnd FiD.nm d.fs s=some i:=Zpr.2 ⟨a,by simpa using h3,λj l=>by
     have k:j<d.fs.length:=Vo
     have:=h2 d.fs[j].row (by
      rw[<-List.map_take]
      exact Yd (List.mem_take_iff_getElem.2 ⟨j,Vm,rfl⟩))
     exact of_decide_eq_false (this:decide (d.fs[j].nm=s)=false)⟩
    simp[fAt,e]
  rw[this]
def dsplit_fn(s:BA)(l:List UInt8)(n:Nat)(h:n<=l.length):Ct prog 49 {} [S s,SL 1 (uR l),I n] (λr=>r=[.agg (FiD.row ⟨s,l.take n,l.drop n⟩)]):=by
 refine dsplit_nf ⟨⟨Vo,Vo,rfl,by simpa using h⟩,⟨Vo,by simpa using h,rfl,Int.le_refl _⟩,?_⟩;rw[Zkp,Zkp];simp[FiD.row]
def Zl2(s:BA)(a b:List UInt8):Ct prog 49 {} [S s,SL 1 (uR (a++b)),I (a.length:Nat)] (λr=>r=[.agg (FiD.row ⟨s,a,b⟩)]):=by
 have:=dsplit_fn s (a++b) a.length Vs;rw[YX,Wf]at this;exact this
def Zyh(s:BA)(a:List UInt8):Ct prog 49 {} [S s,SL 1 (uR a),I (a.length:Nat)] (λr=>r=[.agg (FiD.row ⟨s,a,[]⟩)]):=by
 have:=Zl2 s a [];rw[List.append_nil]at this;exact this
def Zl3(l:List FiD)(h:l.length<=2147483648):Ct prog 47 ⟨[],[.own]⟩ [SL 3 (fR l)] (λr=>r=[SL 3 (fR l)]):=by
 refine fclone_nf (λb c=>Zaa (λe=>?_) (λe=>⟨Vm,by simp[rapp]⟩));have:=c e;have:l=[]:=(by have a:(fR l).length=0:=(by simp only[rlen_eq]at this;omega);rw[List.length_map]at a;exact Y8 a);rw[this];rfl
def Zcz(d:DiD)(i:d.fs.length<=1000000)(j: -1<=d.st)(hst:d.st<=9223372036854775807)(f:FuncId)(c:List SV)(a:List FiD)(g:d.st≠0->Ct prog f OO (SL 3 (fR d.fs)::c) (λr=>r=[SL 3 (fR a)])):
  Ct prog 95 {} [d.sv,.clo f c] (λr=>r=[(d.perf a).1.sv,I (d.perf a).2]):=by
 refine Zsr (Zaa (λh=>?_) (λh=>?_))
 .simp at h;unfold DiD.perf;rw[if_pos h]
 .simp at h;have e:d.perf a=({d.tick with fs:=a},0):=by unfold DiD.perf;rw[if_neg h]
  rw[e];refine Zaa (λb=>Cl.of (Zl3 d.fs Vo) ⟨_,rfl,Cl.of (g h) ⟨_,rfl,?_⟩⟩) (λb=>Cl.of (Zl3 d.fs Vo) ⟨_,rfl,Cl.of (g h) ⟨_,rfl,?_⟩⟩)
  .simp at b;have:wsub .i64 d.st 1=d.st-1:=Zar;rw[this];simp[DiD.tick,b,DiD.sv]
  .simp at b;have:¬0<d.st:=Vo;simp[DiD.tick,this,DiD.sv]

import Derived.Test.YtgehiiginclniaaGreatDoorK08
import Derived.Test.YtgehiiginclniaaGreatDoorProg
set_option linter.all false
set_option maxRecDepth 100000
variable{b c e i j k z:Int}{l r:Go.Px.LL}{Q:Go.Px.QQ}{s t:BA}{C:List Go.Px.SV}
namespace Go.Proofs.YtgehiiginclniaaGreatDoor
namespace Cmp
open Go Go.Px Go.Proofs Tryz
def hadd_nf{e g n j l o p q r d:Int}(h:Cl prog 237 sP ([SV.agg [I e,I g,I n,I j,I l,I o,I p,I q,I r,I d]]) (λG=>∃b,(G=[B b])/\ifB (bpick (bnot b) true (ilt i 0)) (Q ([SV.agg [I e,I g,I n,I j,I l,I o,I p,I q,I r,I d]])) (Cl prog 267 sP [I i] (λv=>∃x,(v=[I x])/\∃a:Int->Int->Int->Int->Int->Int->Int->Int->Int->Int->Prop,∃m:Int->Int->Int->Int->Int->Int->Int->Int->Int->Int->Nat,(((0<=x)/\x<9)/\((x=0)->Cl prog 266 sP [I e,I 1] (λs=>∃c,(s=[I c])/\((0<=x)/\x<9)/\((x=0)->(Sm (some ([zT])))/\a c g n j l o p q r d)/\((x=1)->(Sm (some ([zT])))/\a e c n j l o p q r d)/\((x=2)->(Sm (some ([zT])))/\a e g c j l o p q r d)/\((x=3)->(Sm (some ([zT])))/\a e g n c l o p q r d)/\((x=4)->(Sm (some ([zT])))/\a e g n j c o p q r d)/\((x=5)->(Sm (some ([zT])))/\a e g n j l c p q r d)/\((x=6)->(Sm (some ([zT])))/\a e g n j l o c q r d)/\((x=7)->(Sm (some ([zT])))/\a e g n j l o p c r d)/\((x=8)->(Sm (some ([zT])))/\a e g n j l o p q c d)/\True))/\((x=1)->Cl prog 266 sP [I g,I 1] (λs=>∃c,(s=[I c])/\((0<=x)/\x<9)/\((x=0)->(Sm (some ([zT])))/\a c g n j l o p q r d)/\((x=1)->(Sm (some ([zT])))/\a e c n j l o p q r d)/\((x=2)->(Sm (some ([zT])))/\a e g c j l o p q r d)/\((x=3)->(Sm (some ([zT])))/\a e g n c l o p q r d)/\((x=4)->(Sm (some ([zT])))/\a e g n j c o p q r d)/\((x=5)->(Sm (some ([zT])))/\a e g n j l c p q r d)/\((x=6)->(Sm (some ([zT])))/\a e g n j l o c q r d)/\((x=7)->(Sm (some ([zT])))/\a e g n j l o p c r d)/\((x=8)->(Sm (some ([zT])))/\a e g n j l o p q c d)/\True))/\((x=2)->Cl prog 266 sP [I n,I 1] (λs=>∃c,(s=[I c])/\((0<=x)/\x<9)/\((x=0)->(Sm (some ([zT])))/\a c g n j l o p q r d)/\((x=1)->(Sm (some ([zT])))/\a e c n j l o p q r d)/\((x=2)->(Sm (some ([zT])))/\a e g c j l o p q r d)/\((x=3)->(Sm (some ([zT])))/\a e g n c l o p q r d)/\((x=4)->(Sm (some ([zT])))/\a e g n j c o p q r d)/\((x=5)->(Sm (some ([zT])))/\a e g n j l c p q r d)/\((x=6)->(Sm (some ([zT])))/\a e g n j l o c q r d)/\((x=7)->(Sm (some ([zT])))/\a e g n j l o p c r d)/\((x=8)->(Sm (some ([zT])))/\a e g n j l o p q c d)/\True))/\((x=3)->Cl prog 266 sP [I j,I 1] (λs=>∃c,(s=[I c])/\((0<=x)/\x<9)/\((x=0)->(Sm (some ([zT])))/\a c g n j l o p q r d)/\((x=1)->(Sm (some ([zT])))/\a e c n j l o p q r d)/\((x=2)->(Sm (some ([zT])))/\a e g c j l o p q r d)/\((x=3)->(Sm (some ([zT])))/\a e g n c l o p q r d)/\((x=4)->(Sm (some ([zT])))/\a e g n j c o p q r d)/\((x=5)->(Sm (some ([zT])))/\a e g n j l c p q r d)/\((x=6)->(Sm (some ([zT])))/\a e g n j l o c q r d)/\((x=7)->(Sm (some ([zT])))/\a e g n j l o p c r d)/\((x=8)->(Sm (some ([zT])))/\a e g n j l o p q c d)/\True))/\((x=4)->Cl prog 266 sP [I l,I 1] (λs=>∃c,(s=[I c])/\((0<=x)/\x<9)/\((x=0)->(Sm (some ([zT])))/\a c g n j l o p q r d)/\((x=1)->(Sm (some ([zT])))/\a e c n j l o p q r d)/\((x=2)->(Sm (some ([zT])))/\a e g c j l o p q r d)/\((x=3)->(Sm (some ([zT])))/\a e g n c l o p q r d)/\((x=4)->(Sm (some ([zT])))/\a e g n j c o p q r d)/\((x=5)->(Sm (some ([zT])))/\a e g n j l c p q r d)/\((x=6)->(Sm (some ([zT])))/\a e g n j l o c q r d)/\((x=7)->(Sm (some ([zT])))/\a e g n j l o p c r d)/\((x=8)->(Sm (some ([zT])))/\a e g n j l o p q c d)/\True))/\((x=5)->Cl prog 266 sP [I o,I 1] (λs=>∃c,(s=[I c])/\((0<=x)/\x<9)/\((x=0)->(Sm (some ([zT])))/\a c g n j l o p q r d)/\((x=1)->(Sm (some ([zT])))/\a e c n j l o p q r d)/\((x=2)->(Sm (some ([zT])))/\a e g c j l o p q r d)/\((x=3)->(Sm (some ([zT])))/\a e g n c l o p q r d)/\((x=4)->(Sm (some ([zT])))/\a e g n j c o p q r d)/\((x=5)->(Sm (some ([zT])))/\a e g n j l c p q r d)/\((x=6)->(Sm (some ([zT])))/\a e g n j l o c q r d)/\((x=7)->(Sm (some ([zT])))/\a e g n j l o p c r d)/\((x=8)->(Sm (some ([zT])))/\a e g n j l o p q c d)/\True))/\((x=6)->Cl prog 266 sP [I p,I 1] (λs=>∃c,(s=[I c])/\((0<=x)/\x<9)/\((x=0)->(Sm (some ([zT])))/\a c g n j l o p q r d)/\((x=1)->(Sm (some ([zT])))/\a e c n j l o p q r d)/\((x=2)->(Sm (some ([zT])))/\a e g c j l o p q r d)/\((x=3)->(Sm (some ([zT])))/\a e g n c l o p q r d)/\((x=4)->(Sm (some ([zT])))/\a e g n j c o p q r d)/\((x=5)->(Sm (some ([zT])))/\a e g n j l c p q r d)/\((x=6)->(Sm (some ([zT])))/\a e g n j l o c q r d)/\((x=7)->(Sm (some ([zT])))/\a e g n j l o p c r d)/\((x=8)->(Sm (some ([zT])))/\a e g n j l o p q c d)/\True))/\((x=7)->Cl prog 266 sP [I q,I 1] (λs=>∃c,(s=[I c])/\((0<=x)/\x<9)/\((x=0)->(Sm (some ([zT])))/\a c g n j l o p q r d)/\((x=1)->(Sm (some ([zT])))/\a e c n j l o p q r d)/\((x=2)->(Sm (some ([zT])))/\a e g c j l o p q r d)/\((x=3)->(Sm (some ([zT])))/\a e g n c l o p q r d)/\((x=4)->(Sm (some ([zT])))/\a e g n j c o p q r d)/\((x=5)->(Sm (some ([zT])))/\a e g n j l c p q r d)/\((x=6)->(Sm (some ([zT])))/\a e g n j l o c q r d)/\((x=7)->(Sm (some ([zT])))/\a e g n j l o p c r d)/\((x=8)->(Sm (some ([zT])))/\a e g n j l o p q c d)/\True))/\((x=8)->Cl prog 266 sP [I r,I 1] (λs=>∃c,(s=[I c])/\((0<=x)/\x<9)/\((x=0)->(Sm (some ([zT])))/\a c g n j l o p q r d)/\((x=1)->(Sm (some ([zT])))/\a e c n j l o p q r d)/\((x=2)->(Sm (some ([zT])))/\a e g c j l o p q r d)/\((x=3)->(Sm (some ([zT])))/\a e g n c l o p q r d)/\((x=4)->(Sm (some ([zT])))/\a e g n j c o p q r d)/\((x=5)->(Sm (some ([zT])))/\a e g n j l c p q r d)/\((x=6)->(Sm (some ([zT])))/\a e g n j l o c q r d)/\((x=7)->(Sm (some ([zT])))/\a e g n j l o p c r d)/\((x=8)->(Sm (some ([zT])))/\a e g n j l o p q c d)/\True))/\True)/\∀c w,∀y z,∀A C,∀D E,∀F t,(a c w y z A C D E F t)->Cl prog 266 sP [I t,I i] (λs=>∃u,(s=[I u])/\Q ([SV.agg [I c,I w,I y,I z,I A,I C,I D,I E,I F,I u]])))))):Ct prog 197 {} [his10 e g n j l o p q r d,I i] Q:=
 fO SgT SvT (λk=>bif Nat.beq k 1000004 then some {boxes:=[(256,[.int .i64,.int .i64,.int .i64,.int .i64,.int .i64,.int .i64,.int .i64,.int .i64,.int .i64,.int .i64])],fixed:=[512]}else none) func197 h
def pright_nf{g A D n o p q r nm t d e E F G:Int}(h:Cl prog 165 sP [S s] (λJ=>∃b,(J=[B b])/\ifB (bnot b) (Q [B false]) (∃v:Int->Prop,∃m:Int->Nat,(v 0)/\∀x,(v x)->ifB (ilt x 3) (((0<=x)/\x<3)/\((x=0)->Cl prog 235 sP [I E] (λa=>∃w,(a=[I w])/\ifB (ine E w) (Q [B false]) ((Sm (some ([[S s,I z,I i,I j,I k,SL 2 l,I g,I A,I D,I n,I o,I p,I q,I r,I nm,I t,I d,I e,I E,I F,I G]])))/\(v (wadd .i64 x 1))/\Nl (m (wadd .i64 x 1)) (m x))))/\((x=1)->Cl prog 235 sP [I F] (λa=>∃w,(a=[I w])/\ifB (ine F w) (Q [B false]) ((Sm (some ([[S s,I z,I i,I j,I k,SL 2 l,I g,I A,I D,I n,I o,I p,I q,I r,I nm,I t,I d,I e,I E,I F,I G]])))/\(v (wadd .i64 x 1))/\Nl (m (wadd .i64 x 1)) (m x))))/\((x=2)->Cl prog 235 sP [I G] (λa=>∃w,(a=[I w])/\ifB (ine G w) (Q [B false]) ((Sm (some ([[S s,I z,I i,I j,I k,SL 2 l,I g,I A,I D,I n,I o,I p,I q,I r,I nm,I t,I d,I e,I E,I F,I G]])))/\(v (wadd .i64 x 1))/\Nl (m (wadd .i64 x 1)) (m x))))/\True) (ifB (ieq z 1) (ifB (bpick (ige i 0) (ile i 2) false) (Cl prog 236 sP ([SV.agg [I j,I k,SL 2 l]]) (λa=>∃c,(a=[B c])/\ifB (bpick true c false) (Cl prog 237 sP ([SV.agg [I g,I A,I D,I n,I o,I p,I q,I r,I nm,I t]]) (λu=>∃y,(u=[B y])/\Q [B (bpick (bpick true y false) (band (ieq d 0) (band (ieq e 0) true)) false)])) (Q [B (bpick false (band (ieq d 0) (band (ieq e 0) true)) false)]))) (Q [B (bpick false (band (ieq d 0) (band (ieq e 0) true)) false)])) (ifB (ieq z 2) (ifB (ieq i 0) (Cl prog 238 sP ([SV.agg [I j,I k,SL 2 l]]) (λa=>∃c,(a=[B c])/\ifB (bpick (bpick true c false) (band (band (ieq g 0) (band (ieq A 0) (band (ieq D 0) (band (ieq n 0) (band (ieq o 0) (band (ieq p 0) (band (ieq q 0) (band (ieq r 0) (band (ieq nm 0) true))))))))) (band (ieq t 0) true)) false) (Cl prog 239 sP ([SV.agg [I d,I e]]) (λu=>∃y,(u=[B y])/\Q [B (bpick true y false)])) (Q [B false]))) (ifB (bpick false (band (band (ieq g 0) (band (ieq A 0) (band (ieq D 0) (band (ieq n 0) (band (ieq o 0) (band (ieq p 0) (band (ieq q 0) (band (ieq r 0) (band (ieq nm 0) true))))))))) (band (ieq t 0) true)) false) (Cl prog 239 sP ([SV.agg [I d,I e]]) (λa=>∃c,(a=[B c])/\Q [B (bpick true c false)])) (Q [B false]))) (ifB (ieq z 3) (ifB (bpick (ige i 0) (ile i 2147483647) false) (Cl prog 238 sP ([SV.agg [I j,I k,SL 2 l]]) (λa=>∃c,(a=[B c])/\ifB (bpick true c false) (Cl prog 237 sP ([SV.agg [I g,I A,I D,I n,I o,I p,I q,I r,I nm,I t]]) (λu=>∃y,(u=[B y])/\ifB (bpick true y false) (Cl prog 239 sP ([SV.agg [I d,I e]]) (λH=>∃b3,(H=[B b3])/\Q [B (bpick true b3 false)])) (Q [B false]))) (Q [B false]))) (Q [B false])) (Q [B false]))))))):Ct prog 163 {} [cmp21 s z i j k l g A D n o p q r nm t d e E F G] Q:=
 fO SgT SvT (λC=>bif Nat.beq C 12 then some {slots:=[(11,false,[.int .i64])],fixed:=[128]}else none) func163 h
def pnew_nf(h:Cl prog 165 sP [S s] (λa=>∃b,(a=[B b])/\ifB (bnot b) (Q ([SV.agg (zC),I 3])) (ifB (bpick (ilt c 1) true (igt c 3)) (Q ([SV.agg (zC),I 4])) (ifB (bpick (ilt i 0) true (igt i 1099511627776)) (Q ([SV.agg (zC),I 5])) (ifB (ieq c 1) (Cl prog 188 sP [I 10,I 4,I i] (λd=>∃x e,∃l g,(d=[SV.agg [I x,I e,SL 2 l],I g])/\Q ([SV.agg [S s,I c,I 0,I x,I e,SL 2 l,I 0,I 0,I 0,I 0,I 0,I 0,I 0,I 0,I 0,I 0,I 0,I 0,I 0,I 0,I 0],I 0]))) (Cl prog 189 sP [I 10,I 10] (λd=>∃x e g,(d=[SV.agg [I x,I e],I g])/\Q ([SV.agg ([S s,I c,I 0,I 0,I 0,SL 2 [],I 0,I 0,I 0,I 0,I 0,I 0,I 0,I 0,I 0,I 0,I x,I e,I 0,I 0,I 0]),I 0])))))))):Ct prog 131 {} [S s,I c,I i] Q:=
 fN SgT SvT func131 h
def pmay_nf{n o p q r nm u v w A C D E F G:Int}{x y d:Int}(h:Cl prog 163 sP ([SV.agg [S s,I k,I i,I j,I b,SL 2 l,I n,I o,I p,I q,I r,I nm,I u,I v,I w,I A,I C,I D,I E,I F,I G]]) (λM=>∃m,(M=[B m])/\ifB (bnot m) (Q [I 1]) (Cl prog 102 sP ([SV.agg [I c,I e,I z,S t,I x,I y,I d]]) (λH=>∃a,(H=[I a])/\ifB (ine a 0) (Q [I a]) (Cl prog 260 sP [I z] (λJ=>∃g,(J=[I g])/\ifB (sne t s) (Q [I 6]) (ifB (ieq z 1) (Q [I 7]) (ifB (bpick (ine g 0) (ine g k) false) (Q [I 8]) (ifB (ieq z 2) (Cl prog 261 sP ([I k,SV.agg [I c,I e,I z,S t,I x,I y,I d]]) (λK=>∃L,(K=[B L])/\ifB (bpick true (bnot L) false) (Q [I 4]) (Q [I 0]))) (Q [I 0])))))))))):Ct prog 187 {} [cmp21 s k i j b l n o p q r nm u v w A C D E F G,ev7 c e z t x y d] Q:=
 fN SgT SvT func187 h
def config_nf{g E m n o p q r nm u H J v w A:Int}{x y F:Int}(h:ifB (ieq b 1) (Cl prog 188 sP [I x,I y,I e] (λC=>∃d a,∃G D,(C=[SV.agg [I d,I a,SL 2 G],I D])/\Q ([SV.agg [S s,I b,I i,I d,I a,SL 2 G,I g,I E,I m,I n,I o,I p,I q,I r,I nm,I u,I H,I J,I v,I w,I A]]))) (ifB (ieq b 2) (Cl prog 189 sP [I x,I y] (λC=>∃d a D,(C=[SV.agg [I d,I a],I D])/\Q ([SV.agg [S s,I b,I i,I j,I k,SL 2 l,I g,I E,I m,I n,I o,I p,I q,I r,I nm,I u,I d,I a,I v,I w,I A]]))) (ifB (ieq b 3) (Cl prog 189 sP [I x,I x] (λC=>∃d a D,(C=[SV.agg [I d,I a],I D])/\Q ([SV.agg [S s,I b,I i,I j,I k,SL 2 l,I g,I E,I m,I n,I o,I p,I q,I r,I nm,I u,I d,I a,I v,I w,I A]]))) (Q ([SV.agg [S s,I b,I i,I j,I k,SL 2 l,I g,I E,I m,I n,I o,I p,I q,I r,I nm,I u,I H,I J,I v,I w,I A]]))))):Ct prog 195 {} [cmp21 s b i j k l g E m n o p q r nm u H J v w A,ev7 c e z t x y F] Q:=
 fN SgT SvT func195 h
def qshort_nf(nm:BA)(b c d e:Int)(a:LL)(g i j k l m n o p q r s t u v:Int)(Q:QQ)(h:Q [B (bpick (ile (slen nm) 100) (ile (rlen a) 40) false)]):Ct prog 121 {} [cmp21 nm b c d e a g i j k l m n o p q r s t u v] Q:=
 fN SgT SvT func121 h
def holdI(n:Int):Int:=max 0 (min n 1099511627776)
def upI(a b:Int):Int:=holdI (holdI a+holdI b)
def heldP(n:Int):Prop:=0<=n/\n<=1099511627776
instance (n:Int):Decidable (heldP n):=inferInstanceAs (Decidable (0<=n/\n<=1099511627776))
def Zjm(n:Int):0<=holdI n/\holdI n<=1099511627776:=by unfold holdI;omega
def Zf8{n:Int}:holdI n=n↔heldP n:=by unfold holdI heldP;omega
def Ztr{n:Int}(h:heldP n):holdI n=n:=Zf8.2 h
def Zho(a b:Int):heldP (upI a b):=Zjm _
def Zhp(n:Int):Ct prog 235 {} [I n] (λr=>r=[I (holdI n)]):=by
 refine hold_nf ?_;simp[holdI]
def up_fn(a b:Int):Ct prog 266 {} [I a,I b] (λr=>r=[I (upI a b)]):=by
 have c:=Zjm a;have d:=Zjm b;refine up_nf (Cl.of (Zhp a) ⟨_,rfl,Cl.of (Zhp b) ⟨_,rfl,?_⟩⟩);rw[Zab];exact Cl.of (Zhp _) ⟨_,rfl,rfl⟩
def bktP(a b:Int):Prop:=0<=a/\a<=2147483647/\0<=b/\b<=a
instance (rm ha:Int):Decidable (bktP rm ha):=inferInstanceAs (Decidable (_/\_))
def Zf9(a b:Int):Ct prog 239 {} [bkt2 a b] (λr=>r=[B (decide (bktP a b))]):=by
 refine bright_nf ?_;have:bpick (bpick (bpick (ige a 0) (ile a 2147483647) false) (ige b 0) false) (ile b a) false=decide (bktP a b):=(by rw[Bool.eq_iff_iff,decide_eq_true_eq];unfold bktP;simp;omega);rw[this]
def bnewR(a b:Int):List SV:=if bktP a b then[bkt2 a b,I 0]else[bkt2 0 0,I 1]
def Zts(a b:Int):Ct prog 189 {} [I a,I b] (λr=>r=bnewR a b):=by
 refine bnew_nf (Cl.of (Zf9 a b) ⟨_,rfl,Zaa (λh=>?_) (λh=>?_)⟩)
 .simp at h;simp[bnewR,h]
 .simp at h;simp[bnewR,h]
def takeH(b a n:Int):Int:=if bktP b a/\0<=n then a-min n a else a
def takeB(b a n:Int):Bool:=decide ((bktP b a/\0<=n)/\n<=a)
def Zwc(a b n:Int):Ct prog 199 {} [bkt2 a b,I n] (λr=>r=[bkt2 a (takeH a b n),B (takeB a b n)]):=by
 refine btake_nf (Cl.of (Zf9 a b) ⟨_,rfl,Zaa (λh=>?_) (λh=>?_)⟩)
 .simp only[bor_t,bnot_eq,Ym,decide_eq_false_iff_not,ilt_eq,decide_eq_true_eq]at h;have c:¬(bktP a b/\0<=n):=λd=>h.elim (λh=>h d.1) (λh=>Vo);simp[takeH,takeB,c]
 .simp only[bor_f,bnot_eq,YG,decide_eq_true_eq,ilt_eq,decide_eq_false_iff_not]at h
  have c:bktP a b/\0<=n:=⟨h.1,Vo⟩
  have e:=c.1;unfold bktP at e;rw[imin_eq,Zar];simp[takeH,takeB,c]
def putH(b a n:Int):Int:=if bktP b a/\0<=n then a+min n (b-a)else a
def bput_fn(a b n:Int):Ct prog 200 {} [bkt2 a b,I n] (λr=>r=[bkt2 a (putH a b n)]):=by
 refine bput_nf (Cl.of (Zf9 a b) ⟨_,rfl,Zaa (λh=>?_) (λh=>?_)⟩)
 .simp only[bor_t,bnot_eq,Ym,decide_eq_false_iff_not,ilt_eq,decide_eq_true_eq]at h;have c:¬(bktP a b/\0<=n):=λd=>h.elim (λh=>h d.1) (λh=>Vo);simp[putH,c]
 .simp only[bor_f,bnot_eq,YG,decide_eq_true_eq,ilt_eq,decide_eq_false_iff_not]at h
  have c:bktP a b/\0<=n:=⟨h.1,Vo⟩
  have e:=c.1;unfold bktP at e;rw[imin_eq,Zar,Zab];simp[putH,c]
def bndI(p:Int):Int:=if p=0 then 1 else if p=1 then 2 else if p=2 then 4 else if p=3 then 8 else if p=4 then 16 else if p=5 then 32 else if p=6 then 64 else if p=7 then 128 else 0
def hplI(n:Int):Int:=if n<=1 then 0 else if n<=2 then 1 else if n<=4 then 2 else if n<=8 then 3 else if n<=16 then 4 else if n<=32 then 5 else if n<=64 then 6 else if n<=128 then 7 else 8
def hpl_range(n:Int):0<=hplI n/\hplI n<9:=by
 unfold hplI;repeat' split
 all_goals omega
def c8{p:Int}(a:0<=p)(b:p<8):p=0\/p=1\/p=2\/p=3\/p=4\/p=5\/p=6\/p=7:=Vo
def hbound_fn(p:Int):Ct prog 325 {} [I p] (λr=>r=[I (bndI p)]):=by
 refine hbound_nf (Zaa (λh=>?_) (λh=>?_))
 .simp at h
  have:bndI p=0:=by
    unfold bndI;repeat' split
    all_goals omega
  rw[this]
 .simp at h;refine⟨Vo,?_⟩
  rcases c8 (p:=p) Vo Vo with rfl|rfl|rfl|rfl|rfl|rfl|rfl|rfl<;>rfl
def hpl_loop{f:FuncId}(i:∀p,Ct prog f {} [I p] (λr=>r=[I (bndI p)]))(n:Int):∃c:Int->Int->Prop,∃m:Int->Int->Nat,(c 0 0)/\(∀x:Int,∀a:Int,(c x a)->ifB (ilt a 8) (Cl prog f sP [I a] (λ(j:List SV)=>∃d:Int,(j=[I d])/\(ifB (ile n d) ([I a]=[I (hplI n)]) (((Option.some []:Option LL)=Option.some [])/\((c x (wadd IntKind.i64 a 1))/\(Nl (m x (wadd IntKind.i64 a 1)) (m x a))))))) ([I 8]=[I (hplI n)])):=by
 refine⟨λ_ x=>0<=x/\x<=8/\(1<=x->1<n)/\(2<=x->2<n)/\(3<=x->4<n)/\(4<=x->8<n)/\(5<=x->16<n)/\(6<=x->32<n)/\(7<=x->64<n)/\(8<=x->128<n),λ_ x=>(8-x).toNat,Vo,?_⟩;rintro _ x ⟨h0,h8,g⟩;refine Zaa (λh=>?_) (λh=>?_)
 .simp at h;rw[Zab];refine Cl.of (i x) ⟨_,rfl,Zaa (λb=>?_) (λb=>⟨rfl,?_,mlt (by dsimp only;omega)⟩)⟩
  .simp at b
   have e:hplI n=x:=by
    rcases c8 h0 h with rfl|rfl|rfl|rfl|rfl|rfl|rfl|rfl<;>simp[bndI]at b<;>(unfold hplI;repeat' split)<;>omega
   rw[e]
  .simp at b
   rcases c8 h0 h with rfl|rfl|rfl|rfl|rfl|rfl|rfl|rfl<;>simp[bndI]at b<;>omega
 .simp at h;obtain rfl:x=8:=Vo
  have:hplI n=8:=by
    unfold hplI;repeat' split
    all_goals omega
  rw[this]
def hplace_fn(n:Int):Ct prog 267 {} [I n] (λr=>r=[I (hplI n)]):=hplace_nf (hpl_loop hbound_fn n)
def hisP(a b c d e f g h i j:Int):Prop:=heldP a/\heldP b/\heldP c/\heldP d/\heldP e/\heldP f/\heldP g/\heldP h/\heldP i/\heldP j
instance (h0 h1 h2 h3 h4 h5 h6 h7 h8 hs:Int):Decidable (hisP h0 h1 h2 h3 h4 h5 h6 h7 h8 hs):=inferInstanceAs (Decidable (_/\_))
def hAt(a b c d e f g h i x:Int):Int:=if x=0 then a else if x=1 then b else if x=2 then c else if x=3 then d else if x=4 then e else if x=5 then f else if x=6 then g else if x=7 then h else i
def his_iff{c a b d f g j k l m:Int}:hisP c a b d f g j k l m↔(∀i,0<=i->i<9->heldP (hAt c a b d f g j k l i))/\heldP m:=by
 unfold hisP;constructor
 .rintro⟨n,e1,e2,o,p,q,r,s,t,e⟩;refine⟨λi a b=>?_,e⟩;have:i=0\/i=1\/i=2\/i=3\/i=4\/i=5\/i=6\/i=7\/i=8:=Vo
  rcases this with rfl|rfl|rfl|rfl|rfl|rfl|rfl|rfl|rfl<;>assumption
 .rintro⟨h,e⟩;exact⟨h 0 Vo Vo,h 1 Vo Vo,h 2 Vo Vo,h 3 Vo Vo,h 4 Vo Vo,h 5 Vo Vo,h 6 Vo Vo,h 7 Vo Vo,h 8 Vo Vo,e⟩
def held_step{c a b d f g j k l x:Int}(h:∀i,0<=i->i<x->heldP (hAt c a b d f g j k l i))(m:heldP (hAt c a b d f g j k l x)):∀i,0<=i->i<x+1->heldP (hAt c a b d f g j k l i):=by
 intro i a b;by_cases e:i=x
 .rw[e];exact m
 .exact h i a Vo
def Zls(d a c f g j k l m n:Int):Ct prog 237 {} [his10 d a c f g j k l m n] (λr=>r=[B (decide (hisP d a c f g j k l m n))]):=by
 have no:¬hisP d a c f g j k l m n->[B false]=[B (decide (hisP d a c f g j k l m n))]:=λh=>by simp[h]
 refine hright_nf ⟨λ_ x=>0<=x/\x<=9/\∀i,0<=i->i<x->heldP (hAt d a c f g j k l m i),λ_ x=>(9-x).toNat,⟨Vo,Vo,λi a c=>Vo⟩,?_⟩;rintro b x ⟨x0,x9,hi⟩;refine Zaa (λh=>?_) (λh=>?_)
 .simp at h;rw[Zab]
  have step:∀(v:Int) {p:Prop},p->hAt d a c f g j k l m x=v->Cl prog 235 sP [I v] (λ(u:List SV)=>∃q:Int,(u=[I q])/\(ifB (ine v q) ([B false]=[B (decide (hisP d a c f g j k l m n))]) (p/\((0<=x+1/\x+1<=9/\∀i,0<=i->i<x+1->heldP (hAt d a c f g j k l m i))/\(Nl (9-(x+1)).toNat (9-x).toNat))))):=by
   intro v p s t;refine Cl.of (Zhp v) ⟨_,rfl,Zaa (λo=>no (λw=>?_)) (λo=>⟨s,⟨Vo,Vo,held_step hi ?_⟩,mlt Vo⟩)⟩
   .simp at o;have:=(his_iff.1 w).1 x x0 h;rw[t]at this;exact o (Ztr this).symm
   .simp at o;rw[t];exact Zf8.1 o.symm
  exact⟨⟨x0,h⟩,λe=>step d rfl (by subst e;rfl),λe=>step a rfl (by subst e;rfl),λe=>step c rfl (by subst e;rfl),λe=>step f rfl (by subst e;rfl),λe=>step g rfl (by subst e;rfl),λe=>step j rfl (by subst e;rfl),λe=>step k rfl (by subst e;rfl),λe=>step l rfl (by subst e;rfl),λe=>step m rfl (by subst e;rfl),trivial⟩
 .simp at h;obtain rfl:x=9:=Vo
  refine Cl.of (Zhp n) ⟨_,rfl,?_⟩;have e:ieq n (holdI n)=decide (hisP d a c f g j k l m n):=(by rw[Bool.eq_iff_iff,decide_eq_true_eq,his_iff];simp only[ieq_eq,decide_eq_true_eq];exact⟨λe=>⟨hi,Zf8.1 e.symm⟩,λe=>(Ztr e.2).symm⟩);rw[e]
def hcI(n k v:Int):Int:=if hplI n=k then upI v 1 else v
def haddS(a b c d e f g h i j n:Int):SV:=if hisP a b c d e f g h i j/\0<=n then his10 (hcI n 0 a) (hcI n 1 b) (hcI n 2 c) (hcI n 3 d) (hcI n 4 e) (hcI n 5 f) (hcI n 6 g) (hcI n 7 h) (hcI n 8 i) (upI j n)else his10 a b c d e f g h i j
def hadd_fn(c d f g i j k l m o n:Int):Ct prog 197 {} [his10 c d f g i j k l m o,I n] (λr=>r=[haddS c d f g i j k l m o n]):=by
 have b:=hpl_range n;refine hadd_nf (Cl.of (Zls c d f g i j k l m o) ⟨_,rfl,Zaa (λh=>?_) (λh=>?_)⟩)
 .simp only[bor_t,bnot_eq,Ym,decide_eq_false_iff_not,ilt_eq,decide_eq_true_eq]at h;have p:¬(hisP c d f g i j k l m o/\0<=n):=λq=>h.elim (λh=>h q.1) (λh=>Vo);simp[haddS,p]
 .simp only[bor_f,bnot_eq,YG,decide_eq_true_eq,ilt_eq,decide_eq_false_iff_not]at h
  have p:hisP c d f g i j k l m o/\0<=n:=⟨h.1,Vo⟩
  refine Cl.of (hplace_fn n) ⟨_,rfl,λs t u v w x y z A y9=>s=hcI n 0 c/\t=hcI n 1 d/\u=hcI n 2 f/\v=hcI n 3 g/\w=hcI n 4 i/\x=hcI n 5 j/\y=hcI n 6 k/\z=hcI n 7 l/\A=hcI n 8 m/\y9=o,λ_ _ _ _ _ _ _ _ _ _=>0,?_,?_⟩
  .refine⟨b,λe=>Cl.of (up_fn c 1) ⟨_,rfl,b,λ_=>⟨rfl,by rw[hcI,if_pos e],by rw[hcI,if_neg (by rw[e];decide)],by rw[hcI,if_neg (by rw[e];decide)],by rw[hcI,if_neg (by rw[e];decide)],by rw[hcI,if_neg (by rw[e];decide)],by rw[hcI,if_neg (by rw[e];decide)],by rw[hcI,if_neg (by rw[e];decide)],by rw[hcI,if_neg (by rw[e];decide)],by rw[hcI,if_neg (by rw[e];decide)],rfl⟩,λa=>absurd (e.symm.trans a) Vd,λa=>absurd (e.symm.trans a) Vd,λa=>absurd (e.symm.trans a) Vd,λa=>absurd (e.symm.trans a) Vd,λa=>absurd (e.symm.trans a) Vd,λa=>absurd (e.symm.trans a) Vd,λa=>absurd (e.symm.trans a) Vd,λa=>absurd (e.symm.trans a) Vd,trivial⟩,λe=>Cl.of (up_fn d 1) ⟨_,rfl,b,λa=>absurd (e.symm.trans a) Vd,λ_=>⟨rfl,by rw[hcI,if_neg (by rw[e];decide)],by rw[hcI,if_pos e],by rw[hcI,if_neg (by rw[e];decide)],by rw[hcI,if_neg (by rw[e];decide)],by rw[hcI,if_neg (by rw[e];decide)],by rw[hcI,if_neg (by rw[e];decide)],by rw[hcI,if_neg (by rw[e];decide)],by rw[hcI,if_neg (by rw[e];decide)],by rw[hcI,if_neg (by rw[e];decide)],rfl⟩,λa=>absurd (e.symm.trans a) Vd,λa=>absurd (e.symm.trans a) Vd,λa=>absurd (e.symm.trans a) Vd,λa=>absurd (e.symm.trans a) Vd,λa=>absurd (e.symm.trans a) Vd,λa=>absurd (e.symm.trans a) Vd,λa=>absurd (e.symm.trans a) Vd,trivial⟩,λe=>Cl.of (up_fn f 1) ⟨_,rfl,b,λa=>absurd (e.symm.trans a) Vd,λa=>absurd (e.symm.trans a) Vd,λ_=>⟨rfl,by rw[hcI,if_neg (by rw[e];decide)],by rw[hcI,if_neg (by rw[e];decide)],by rw[hcI,if_pos e],by rw[hcI,if_neg (by rw[e];decide)],by rw[hcI,if_neg (by rw[e];decide)],by rw[hcI,if_neg (by rw[e];decide)],by rw[hcI,if_neg (by rw[e];decide)],by rw[hcI,if_neg (by rw[e];decide)],by rw[hcI,if_neg (by rw[e];decide)],rfl⟩,λa=>absurd (e.symm.trans a) Vd,λa=>absurd (e.symm.trans a) Vd,λa=>absurd (e.symm.trans a) Vd,λa=>absurd (e.symm.trans a) Vd,λa=>absurd (e.symm.trans a) Vd,λa=>absurd (e.symm.trans a) Vd,trivial⟩,λe=>Cl.of (up_fn g 1) ⟨_,rfl,b,λa=>absurd (e.symm.trans a) Vd,λa=>absurd (e.symm.trans a) Vd,λa=>absurd (e.symm.trans a) Vd,λ_=>⟨rfl,by rw[hcI,if_neg (by rw[e];decide)],by rw[hcI,if_neg (by rw[e];decide)],by rw[hcI,if_neg (by rw[e];decide)],by rw[hcI,if_pos e],by rw[hcI,if_neg (by rw[e];decide)],by rw[hcI,if_neg (by rw[e];decide)],by rw[hcI,if_neg (by rw[e];decide)],by rw[hcI,if_neg (by rw[e];decide)],by rw[hcI,if_neg (by rw[e];decide)],rfl⟩,λa=>absurd (e.symm.trans a) Vd,λa=>absurd (e.symm.trans a) Vd,λa=>absurd (e.symm.trans a) Vd,λa=>absurd (e.symm.trans a) Vd,λa=>absurd (e.symm.trans a) Vd,trivial⟩,λe=>Cl.of (up_fn i 1) ⟨_,rfl,b,λa=>absurd (e.symm.trans a) Vd,λa=>absurd (e.symm.trans a) Vd,λa=>absurd (e.symm.trans a) Vd,λa=>absurd (e.symm.trans a) Vd,λ_=>⟨rfl,by rw[hcI,if_neg (by rw[e];decide)],by rw[hcI,if_neg (by rw[e];decide)],by rw[hcI,if_neg (by rw[e];decide)],by rw[hcI,if_neg (by rw[e];decide)],by rw[hcI,if_pos e],by rw[hcI,if_neg (by rw[e];decide)],by rw[hcI,if_neg (by rw[e];decide)],by rw[hcI,if_neg (by rw[e];decide)],by rw[hcI,if_neg (by rw[e];decide)],rfl⟩,λa=>absurd (e.symm.trans a) Vd,λa=>absurd (e.symm.trans a) Vd,λa=>absurd (e.symm.trans a) Vd,λa=>absurd (e.symm.trans a) Vd,trivial⟩,λe=>Cl.of (up_fn j 1) ⟨_,rfl,b,λa=>absurd (e.symm.trans a) Vd,λa=>absurd (e.symm.trans a) Vd,λa=>absurd (e.symm.trans a) Vd,λa=>absurd (e.symm.trans a) Vd,λa=>absurd (e.symm.trans a) Vd,λ_=>⟨rfl,by rw[hcI,if_neg (by rw[e];decide)],by rw[hcI,if_neg (by rw[e];decide)],by rw[hcI,if_neg (by rw[e];decide)],by rw[hcI,if_neg (by rw[e];decide)],by rw[hcI,if_neg (by rw[e];decide)],by rw[hcI,if_pos e],by rw[hcI,if_neg (by rw[e];decide)],by rw[hcI,if_neg (by rw[e];decide)],by rw[hcI,if_neg (by rw[e];decide)],rfl⟩,λa=>absurd (e.symm.trans a) Vd,λa=>absurd (e.symm.trans a) Vd,λa=>absurd (e.symm.trans a) Vd,trivial⟩,λe=>Cl.of (up_fn k 1) ⟨_,rfl,b,λa=>absurd (e.symm.trans a) Vd,λa=>absurd (e.symm.trans a) Vd,λa=>absurd (e.symm.trans a) Vd,λa=>absurd (e.symm.trans a) Vd,λa=>absurd (e.symm.trans a) Vd,λa=>absurd (e.symm.trans a) Vd,λ_=>⟨rfl,by rw[hcI,if_neg (by rw[e];decide)],by rw[hcI,if_neg (by rw[e];decide)],by rw[hcI,if_neg (by rw[e];decide)],by rw[hcI,if_neg (by rw[e];decide)],by rw[hcI,if_neg (by rw[e];decide)],by rw[hcI,if_neg (by rw[e];decide)],by rw[hcI,if_pos e],by rw[hcI,if_neg (by rw[e];decide)],by rw[hcI,if_neg (by rw[e];decide)],rfl⟩,λa=>absurd (e.symm.trans a) Vd,λa=>absurd (e.symm.trans a) Vd,trivial⟩,λe=>Cl.of (up_fn l 1) ⟨_,rfl,b,λa=>absurd (e.symm.trans a) Vd,λa=>absurd (e.symm.trans a) Vd,λa=>absurd (e.symm.trans a) Vd,λa=>absurd (e.symm.trans a) Vd,λa=>absurd (e.symm.trans a) Vd,λa=>absurd (e.symm.trans a) Vd,λa=>absurd (e.symm.trans a) Vd,λ_=>⟨rfl,by rw[hcI,if_neg (by rw[e];decide)],by rw[hcI,if_neg (by rw[e];decide)],by rw[hcI,if_neg (by rw[e];decide)],by rw[hcI,if_neg (by rw[e];decide)],by rw[hcI,if_neg (by rw[e];decide)],by rw[hcI,if_neg (by rw[e];decide)],by rw[hcI,if_neg (by rw[e];decide)],by rw[hcI,if_pos e],by rw[hcI,if_neg (by rw[e];decide)],rfl⟩,λa=>absurd (e.symm.trans a) Vd,trivial⟩,λe=>Cl.of (up_fn m 1) ⟨_,rfl,b,λa=>absurd (e.symm.trans a) Vd,λa=>absurd (e.symm.trans a) Vd,λa=>absurd (e.symm.trans a) Vd,λa=>absurd (e.symm.trans a) Vd,λa=>absurd (e.symm.trans a) Vd,λa=>absurd (e.symm.trans a) Vd,λa=>absurd (e.symm.trans a) Vd,λa=>absurd (e.symm.trans a) Vd,λ_=>⟨rfl,by rw[hcI,if_neg (by rw[e];decide)],by rw[hcI,if_neg (by rw[e];decide)],by rw[hcI,if_neg (by rw[e];decide)],by rw[hcI,if_neg (by rw[e];decide)],by rw[hcI,if_neg (by rw[e];decide)],by rw[hcI,if_neg (by rw[e];decide)],by rw[hcI,if_neg (by rw[e];decide)],by rw[hcI,if_neg (by rw[e];decide)],by rw[hcI,if_pos e],rfl⟩,trivial⟩,trivial⟩
  .rintro _ _ _ _ _ _ _ _ _ _ ⟨rfl,rfl,rfl,rfl,rfl,rfl,rfl,rfl,rfl,rfl⟩;refine Cl.of (up_fn _ n) ⟨_,rfl,?_⟩;simp[haddS,p]
abbrev cR(l:List (Int×Int)):LL:=l.map λc=>[I c.1,I c.2]
def ceAt(l:List (Int×Int))(i:Int):Int×Int:=l.getD i.toNat (0,0)
def Zo1{l:List (Int×Int)}(a:0<=i)(b:i<l.length):rget (cR l) i=[I (ceAt l i).1,I (ceAt l i).2]:=by
 have:i.toNat<l.length:=Vo;simp[rget,ceAt,this]
def ceAt_mem{l:List (Int×Int)}(a:0<=i)(b:i<l.length):ceAt l i∈l:=by
 have:i.toNat<l.length:=Vo;simp[ceAt,this]
def Zlu(l:List (Int×Int)):rlen (cR l)=(l.length:Int):=Vs
def Zs1(l:List (Int×Int))(i a b:Int):rset (cR l) i [I a,I b]=cR (l.set i.toNat (a,b)):=by
 simp[rset,cR,List.map_set]
def timP(n:Int):Prop:=0<=n/\n<=1099511627776
instance (n:Int):Decidable (timP n):=inferInstanceAs (Decidable (_/\_))
def Zft(l:List (Int×Int)):Prop:=∀c∈l,heldP c.1/\heldP c.2
instance (l:List (Int×Int)):Decidable (Zft l):=inferInstanceAs (Decidable (∀c∈l,heldP c.1/\heldP c.2))
def winP(b c:Int)(a:List (Int×Int)):Prop:=(1<=b/\b<=2147483647)/\timP c/\(1<=a.length/\a.length<=16)/\Zft a
instance (wd sl:Int) (cl:List (Int×Int)):Decidable (winP wd sl cl):=inferInstanceAs (Decidable (_/\_))
def Zlv(n:Int):Ct prog 262 {} [I n] (λr=>r=[B (decide (timP n))]):=by
 refine timely_nf ?_;have:bpick (ige n 0) (ile n 1099511627776) false=decide (timP n):=(by rw[Bool.eq_iff_iff,decide_eq_true_eq];unfold timP;simp);rw[this]
def Zvg(n:Int):Ct prog 301 {} [I n] (λr=>r=[B (decide (heldP n))]):=by
 refine wheld_nf (Cl.of (Zhp n) ⟨_,rfl,?_⟩);have:ieq n (holdI n)=decide (heldP n):=(by rw[Bool.eq_iff_iff,decide_eq_true_eq,<-Zf8];simp[eq_comm]);rw[this]
def wwrong_fn(n m:Int):Ct prog 302 {} [.agg [I n,I m],.ref 0 [.clo 301 []]] (λr=>r=[B (!decide (heldP n/\heldP m))]):=by
 refine wwrong_nf (Cl.of (Zvg n) ⟨_,rfl,Zaa (λh=>?_) (λh=>?_)⟩)
 .simp at h;simp[h]
 .simp at h;refine Cl.of (Zvg m) ⟨_,rfl,?_⟩;simp[h]
def ccont_fn(l:List (Int×Int))(g:l.length<=1000000):Ct prog 303 {} [SL 2 (cR l),.clo 302 [.ref 0 [.clo 301 []]]] (λr=>r=[B (!decide (Zft l))]):=by
 have A:Ct prog 345 {} [SL 2 (cR l),.clo 302 [.ref 0 [.clo 301 []]]] (λr=>∃x:Int,r=[I x]/\(0<=x↔¬Zft l)):=by
  refine cindex_nf ⟨λ_ x=>0<=x/\x<=l.length/\∀i:Nat,i<x.toNat->heldP (l.getD i (0,0)).1/\heldP (l.getD i (0,0)).2,λ_ x=>(l.length-x).toNat,⟨Vo,Vo,Vs⟩,?_⟩;rintro _ x ⟨h0,h1,hp⟩;refine Zaa (λh=>?_) (λh=>?_)
  .simp at h;have w:wadd IntKind.i64 x 1=x+1:=Zab;refine⟨⟨h0,by simpa using h⟩,_,_,Zo1 h0 h,Cl.of (wwrong_fn _ _) ⟨_,rfl,Zaa (λa=>?_) (λa=>⟨rfl,?_,?_⟩)⟩⟩
   .simp only[Ym,decide_eq_false_iff_not]at a;exact⟨x,rfl,λ_ d=>a (d _ (ceAt_mem h0 h)),λ_=>h0⟩
   .simp only[YG,decide_eq_true_eq]at a;rw[w];refine⟨Vo,Vo,λi b=>?_⟩;by_cases hix:i<x.toNat
    .exact hp i hix
    .obtain rfl:i=x.toNat:=Vo
     exact a
   .rw[w];exact mlt (by dsimp only;omega)
  .simp at h;refine⟨-1,rfl,λh=>Vo,λe=>absurd (λc f=>?_) e⟩;obtain⟨i,b,rfl⟩:=YE f;have:=hp i Vo
   simpa[b]using this
 refine ccont_nf (Cl.ofQ A ?_);rintro r ⟨x,rfl,hx⟩;refine⟨_,rfl,?_⟩;have:ige x 0=!decide (Zft l):=(by rw[Bool.eq_iff_iff];simp[hx]);rw[this]
def Zqw(d c:Int)(b:List (Int×Int)):Ct prog 236 {} [win3 d c (cR b)] (λr=>r=[B (decide (winP d c b))]):=by
 have no:¬winP d c b->[B false]=[B (decide (winP d c b))]:=λh=>by simp[h]
 refine wright_nf (Zaa (λh=>?_) (λh=>?_))
 .simp only[bor_t,ilt_eq,igt_eq,decide_eq_true_eq]at h;exact no (λa=>by have:=a.1;omega)
 .simp only[bor_f,ilt_eq,igt_eq,decide_eq_false_iff_not]at h;refine Cl.of (Zlv c) ⟨_,rfl,Zaa (λe=>?_) (λe=>Zaa (λf=>?_) (λf=>?_))⟩
  .simp at e;exact no (λa=>e a.2.1)
  .simp only[bor_t,ilt_eq,igt_eq,decide_eq_true_eq,Zlu]at f;exact no (λa=>by have:=a.2.2.1;omega)
  .simp at e;simp only[bor_f,ilt_eq,igt_eq,decide_eq_false_iff_not,Zlu]at f;refine Cl.of (ccont_fn b Vo) ⟨_,rfl,?_⟩;have:bnot (!decide (Zft b))=decide (winP d c b):=(by rw[bnot_eq,Bool.not_not];exact decide_eq_decide.2 ⟨λa=>⟨Vo,e,Vo,a⟩,λa=>a.2.2.2⟩);rw[this]
def Zvh{a b:Int}(c:0<=a:=by omega)(d:a<=9223372036854775807:=by omega)(e:1<=b:=by omega):wquo .i64 a b=a/b/\0<=a/b/\a/b<=a:=by
 have e1:0<=a/b:=Int.ediv_nonneg c Vo;have e2:a/b<=a:=Int.ediv_le_self b c;refine⟨?_,e1,e2⟩;unfold wquo;rw[Int.tdiv_eq_ediv_of_nonneg c];exact Zbg Vo Vo
def wnewR(b n a:Int):List SV:=if((1<=b/\b<=2147483647)/\(1<=n/\n<=16))/\timP a then[win3 b (a/b) (cR (List.replicate n.toNat (0,0))),I 0]else[win3 0 0 [],I 1]
def rrep_cR(n:Int):rrep n [I 0,I 0]=cR (List.replicate n.toNat (0,0)):=by simp[rrep,cR]
def Zs2(b n a:Int):Ct prog 188 {} [I b,I n,I a] (λr=>r=wnewR b n a):=by
 refine wnew_nf (Zaa (λh=>?_) (λh=>?_))
 .simp only[bor_t,ilt_eq,igt_eq,decide_eq_true_eq]at h;have:¬(((1<=b/\b<=2147483647)/\(1<=n/\n<=16))/\timP a):=λd=>Vo
  simp[wnewR,this]
 .simp only[bor_f,ilt_eq,igt_eq,decide_eq_false_iff_not]at h;refine Cl.of (Zlv a) ⟨_,rfl,Zaa (λc=>?_) (λc=>?_)⟩
  .simp at c;simp[wnewR,c]
  .simp at c;have e:=c;unfold timP at e
   have d:((1<=b/\b<=2147483647)/\(1<=n/\n<=16))/\timP a:=⟨Vo,c⟩
   refine⟨Vo,⟨Vo,Vo,Vo⟩,?_⟩;rw[(Zvh).1,rrep_cR];simp[wnewR,d]
def Zqx(rows:LL)(h:rows.length<=2147483648):Ct prog 265 ⟨[],[.own]⟩ [SL 2 rows] (λr=>r=[SL 2 rows]):=by
 refine cclone_nf (λb a=>Zaa (λe=>?_) (λe=>⟨?_,?_⟩))
 .have:=a e;have:rows=[]:=(by simpa using this);rw[this]
 .simp;omega
 .simp[rapp]
def kk(slot n p:Int):Int:=slot-(slot-p)%n
def kk_range{slot n p:Int}(h:1<=n):slot-n<kk slot n p/\kk slot n p<=slot:=by
 unfold kk;have a:=Int.emod_nonneg (slot-p) (show n≠0 by omega);have b:=Int.emod_lt_of_pos (slot-p) (show 0<n by omega);omega
def kk_eq{slot n p x:Int}(h:1<=n)(b:n<=16)(c:0<=p)(d:p<n)(e:slot-n<x)(f:x<=slot):kk slot n p=x↔p=x%n:=by
 unfold kk;have a:n=1\/n=2\/n=3\/n=4\/n=5\/n=6\/n=7\/n=8\/n=9\/n=10\/n=11\/n=12\/n=13\/n=14\/n=15\/n=16:=Vo
 rcases a with rfl|rfl|rfl|rfl|rfl|rfl|rfl|rfl|rfl|rfl|rfl|rfl|rfl|rfl|rfl|rfl<;>omega
def mvL(b slot:Int)(a:List (Int×Int)):List (Int×Int):=(List.range a.length).map λp:Nat=>if b<kk slot a.length p then(0,0)else a.getD p (0,0)
def mvL_len(b slot:Int)(a:List (Int×Int)):(mvL b slot a).length=a.length:=by simp[mvL]
def Zo2{n:Nat}{f a:Nat->Int×Int}{i:Nat}{v:Int×Int}(d:i<n)(h:∀p,p<n->a p=if p=i then v else f p):(List.range n).map a=((List.range n).map f).set i v:=by
 apply YO
 .simp
 .intro p b g;simp at b;rw[List.getElem_set];simp only[List.getElem_map,WF];rw[h p b];by_cases e:p=i
  .simp[e]
  .rw[if_neg e,if_neg (λc=>e c.symm)]
def Zh9(b c:Int)(d:List (Int×Int))(a:Int):List SV:=
 if winP b c d/\timP a then(if a/b<=c then[win3 b c (cR d),I 0]else[win3 b (a/b) (cR (mvL c (a/b) d)),I 0])else[win3 b c (cR d),I 1]
def wmove_fn(i f:Int)(d:List (Int×Int))(a:Int):Ct prog 264 {} [win3 i f (cR d),I a] (λr=>r=Zh9 i f d a):=by
 refine wmove_nf (Cl.of (Zqw i f d) ⟨_,rfl,Zaa (λh=>?_) (λh=>?_)⟩)
 .simp at h;simp[Zh9,h]
 .simp at h;refine Cl.of (Zlv a) ⟨_,rfl,Zaa (λg=>?_) (λg=>?_)⟩
  .simp at g;simp[Zh9,g]
  .simp at g;have l:=h;have w:=g;unfold winP at l;unfold timP at l w;obtain⟨v,H,J⟩:=Zvh (a:=a) (b:=i);rw[v];refine⟨Vo,Zaa (λj=>?_) (λj=>?_)⟩
   .simp at j;simp[Zh9,h,g,j]
   .simp at j;have m:¬a/i<=f:=Vo;refine Cl.of (Zqx _ Vm) ⟨_,rfl,?_⟩;generalize hslot:a/i=slot at*;have y:(1:Int)<=d.length/\(d.length:Int)<=16:=Vo;rw[Zlu,Zab,Zar,Zab,imax_eq];generalize hlo:max (f+1) (slot-d.length+1)=lo;have z:lo<=slot:=Vo;have A:f<lo:=Vo;have C:slot-d.length<lo:=Vo;have D:0<=lo:=Vo;refine⟨λx q=>lo<=x/\x<=slot+1/\q=cR ((List.range d.length).map λp:Nat=>if lo<=kk slot d.length p/\kk slot d.length p<x then(0,0)else d.getD p (0,0)),λx _=>(slot+1-x).toNat,⟨Vo,Vo,?_⟩,?_⟩
    .congr 1;apply YO
     .simp
     .intro p u G;simp only[List.getElem_map,WF];rw[if_neg Vo];simp[u]
    .rintro x _ ⟨g1,g2,rfl⟩;refine Zaa (λk=>?_) (λk=>?_)
     .simp at k;have E:wrem x d.length=x%d.length:=by unfold wrem;exact Int.tmod_eq_emod_of_nonneg Vo
      have K:=Int.emod_nonneg x (show(d.length:Int)≠0 by omega);have L:=Int.emod_lt_of_pos x (show(0:Int)<d.length by omega);rw[E,Zab,Zs1];refine⟨Vo,⟨Vo,Vm⟩,⟨Vo,Vm⟩,rfl,⟨Vo,Vo,?_⟩,mlt (by dsimp only;omega)⟩;congr 1
      symm
      refine Zo2 Vo (λp s=>?_);have o:=kk_eq (slot:=slot) (n:=d.length) (p:=p) (x:=x) Vo Vo Vo Vo Vo Vo;by_cases e:p=(x%d.length).toNat
      .have F:kk slot d.length p=x:=o.2 Vo;rw[if_pos e,if_pos Vo]
      .have F:¬kk slot d.length p=x:=λt=>e (by have:=o.1 t;omega);rw[if_neg e];by_cases c:lo<=kk slot d.length p/\kk slot d.length p<x
       .rw[if_pos c,if_pos Vo]
       .rw[if_neg c,if_neg Vo]
     .simp at k;obtain rfl:x=slot+1:=Vo
      have:((List.range d.length).map λp:Nat=>if lo<=kk slot d.length p/\kk slot d.length p<slot+1 then((0,0):Int×Int)else d.getD p (0,0))=mvL f slot d:=by
       unfold mvL;apply List.map_congr_left;intro p s;have M:=kk_range (slot:=slot) (n:=d.length) (p:=p) Vo;by_cases c:f<kk slot d.length p
       .rw[if_pos c,if_pos Vo]
       .rw[if_neg c,if_neg Vo]
      rw[this];simp only[Zh9];rw[if_pos ⟨h,g⟩,hslot,if_neg m]
def rem_nn{x n:Int}(a:0<=x:=by omega)(b:1<=n:=by omega):wrem x n=x%n/\0<=x%n/\x%n<n:=by
 refine⟨?_,Int.emod_nonneg x Vo,Int.emod_lt_of_pos x Vo⟩;unfold wrem;exact Int.tmod_eq_emod_of_nonneg a
def ceU(c:Int×Int)(ok:Bool):Int×Int:=if ok=true then(upI c.1 1,c.2)else(c.1,upI c.2 1)
def addL(a:List (Int×Int))(i:Int)(ok:Bool):List (Int×Int):=a.set i.toNat (ceU (ceAt a i) ok)
def wadS(b d:Int)(c:List (Int×Int))(a:Int)(ok:Bool):Int×List (Int×Int):=
 if a/b<=d then(if a/b<=d-c.length then(d,c)else(d,addL c ((a/b)%c.length) ok))else(a/b,addL (mvL d (a/b) c) ((a/b)%c.length) ok)
def waddR(b c:Int)(d:List (Int×Int))(a:Int)(ok:Bool):List SV:=
 if winP b c d/\timP a then[win3 b (wadS b c d a ok).1 (cR (wadS b c d a ok).2),I 0]else[win3 b c (cR d),I 1]
def mv_shape{d g:Int}{f:List (Int×Int)}{a:Int}(h:winP d g f/\timP a):∃(e:Int) (i:List (Int×Int)),Zh9 d g f a=[win3 d e (cR i),I 0]/\i.length=f.length/\a/d<=e/\0<=e/\e<=1099511627776/\
  ∀ok,wadS d g f a ok=if a/d<=e-f.length then(e,i)else(e,addL i ((a/d)%f.length) ok):=by
 have j:=h.1;have k:=h.2;unfold winP at j;unfold timP at j k;obtain⟨l,m,n⟩:=Zvh (a:=a) (b:=d);unfold Zh9;rw[if_pos h];by_cases c:a/d<=g
 .rw[if_pos c];exact⟨_,_,rfl,rfl,c,Vo,Vo,λok=>by unfold wadS;rw[if_pos c]⟩
 .rw[if_neg c];exact⟨_,_,rfl,mvL_len _ _ _,Vo,Vo,Vo,λok=>by unfold wadS;rw[if_neg c,if_neg Vo]⟩
def wadd_fn(c f:Int)(d:List (Int×Int))(a:Int)(ok:Bool):Ct prog 196 {} [win3 c f (cR d),I a,B ok] (λr=>r=waddR c f d a ok):=by
 have i:=wmove_fn c f d a;by_cases h:winP c f d/\timP a
 .obtain⟨y,p,e,s,z,A,C,t⟩:=mv_shape h;rw[e]at i;have q:=h.1;have w:=h.2;unfold winP at q;unfold timP at q w;obtain⟨u,D,E⟩:=Zvh (a:=a) (b:=c);refine Zv9 (Cl.of i ⟨_,_,_,_,rfl,Zaa (λh=>by simp at h) (λ_=>⟨Vo,?_⟩)⟩);obtain⟨v,o,F⟩:=rem_nn (x:=a/c) (n:=d.length);rw[u,Zlu,s,Zar,v];unfold waddR;rw[if_pos h,t];refine Zaa (λg=>?_) (λg=>?_)
  .simp at g;rw[if_pos g]
  .simp at g;rw[if_neg Vo];refine Cl.of (Zqx _ Vm) ⟨_,rfl,Vo,⟨o,Vm⟩,?_⟩
   have j:(0:Int)<=(a/c)%d.length/\(a/c)%d.length<rlen (cR p):=⟨o,Vm⟩
   have k:=Zo1 (l:=p) o Vo;refine Zaa (λm=>?_) (λm=>?_)
   .refine⟨j,_,_,k,Cl.of (up_fn _ _) ⟨_,rfl,j,_,_,k,?_⟩⟩;rw[Zs1];simp[addL,ceU,m]
   .refine⟨j,_,_,k,Cl.of (up_fn _ _) ⟨_,rfl,j,_,_,k,?_⟩⟩;rw[Zs1];simp[addL,ceU,m]
 .have e:Zh9 c f d a=[win3 c f (cR d),I 1]:=(by unfold Zh9;rw[if_neg h]);rw[e]at i;refine Zv9 (Cl.of i ⟨_,_,_,_,rfl,Zaa (λ_=>?_) (λh=>by simp at h)⟩);unfold waddR;rw[if_neg h]
def Zxr(l m:List (Int×Int))(w:l.length=m.length)(y:l.length<=1000000){d:Prop}(f:d){g j:Prop}(t:¬l=m->g)(u:l=m->j):
  ∃c:Bool->Int->Prop,∃k:Bool->Int->Nat,(c false 0)/\(∀b:Bool,∀x:Int,(c b x)->ifB (ilt x (rlen (cR l))) (((0<=x)/\(x<(rlen (cR l))))/\(∃n:Int,∃o:Int,(rget (cR l) x=[I n,I o])/\(((0<=x)/\(x<(rlen (cR m))))/\(∃p:Int,∃q:Int,(rget (cR m) x=[I p,I q])/\(ifB (bnot (band (ieq n p) (band (ieq o q) true))) g (d/\((c b (wadd IntKind.i64 x 1))/\(Nl (k b (wadd IntKind.i64 x 1)) (k b x))))))))) j):=by
 refine⟨λ_ x=>0<=x/\x<=l.length/\∀i:Nat,i<x.toNat->l[i]?=m[i]?,λ_ x=>(l.length-x).toNat,⟨Vo,Vo,Vs⟩,?_⟩;rintro _ x ⟨h0,h1,hp⟩;refine Zaa (λh=>?_) (λh=>?_)
 .simp at h;rw[Zab];have r:x.toNat<l.length:=Vo;have s:x.toNat<m.length:=Vo;refine⟨⟨h0,by simpa using h⟩,_,_,Zo1 h0 h,⟨h0,Vm⟩,_,_,Zo1 h0 Vo,Zaa (λa=>t (λe=>?_)) (λa=>⟨f,⟨Vo,Vo,λi v=>?_⟩,mlt (by dsimp only;omega)⟩)⟩
  .subst e;simp at a
  .by_cases hix:i<x.toNat
   .exact hp i hix
   .obtain rfl:i=x.toNat:=Vo
    simp[ceAt,r,s]at a;rw[List.getElem?_eq_getElem r,List.getElem?_eq_getElem s];exact congrArg some (Wa a.1 a.2)
 .simp at h;refine u (List.ext_getElem? (λi=>?_));by_cases v:i<l.length
  .exact hp i Vo
  .rw[Wn Vo,Wn Vo]
def Zzy(l m:List (Int×Int))(b:l.length<=1000000):Ct prog 162 {} [SL 2 (cR l),SL 2 (cR m)] (λr=>r=[B (decide (l=m))]):=by
 refine cequal_nf (Zaa (λh=>?_) (λh=>?_))
 .simp at h;have:¬l=m:=λe=>by subst e;omega
  simp[this]
 .simp at h;exact Zxr l m Vo b rfl (λa=>by simp[a]) (λa=>by simp[a])
def Zzz(a b:Int)(c:List (Int×Int)):Ct prog 238 {} [win3 a b (cR c)] (λr=>r=[B (decide (a=0/\b=0/\c=[]))]):=by
 refine bare_nf ?_;have:bpick (bpick (ieq a 0) (ieq b 0) false) (ieq (rlen (cR c)) 0) false=decide (a=0/\b=0/\c=[]):=(by rw[Bool.eq_iff_iff];simp[and_assoc]);rw[this]
structure CoD where
 nm:BA
 ro:Int
 mo:Int
 wd:Int
 sl:Int
 cl:List (Int×Int)
 h0:Int
 h1:Int
 h2:Int
 h3:Int
 h4:Int
 h5:Int
 h6:Int
 h7:Int
 h8:Int
 hs:Int
 rm:Int
 ha:Int
 c0:Int
 c1:Int
 c2:Int
abbrev CoD.sv(c:CoD):SV:=cmp21 c.nm c.ro c.mo c.wd c.sl (cR c.cl) c.h0 c.h1 c.h2 c.h3 c.h4 c.h5 c.h6 c.h7 c.h8 c.hs c.rm c.ha c.c0 c.c1 c.c2
structure EvD where
 s:Int
 a:Int
 k:Int
 c:BA
 x:Int
 y:Int
 z:Int
abbrev EvD.sv(e:EvD):SV:=ev7 e.s e.a e.k e.c e.x e.y e.z
def CoD.his(c:CoD):Prop:=hisP c.h0 c.h1 c.h2 c.h3 c.h4 c.h5 c.h6 c.h7 c.h8 c.hs
instance (c:CoD):Decidable c.his:=inferInstanceAs (Decidable (hisP _ _ _ _ _ _ _ _ _ _))
def CoD.his0(c:CoD):Prop:=(c.h0=0/\c.h1=0/\c.h2=0/\c.h3=0/\c.h4=0/\c.h5=0/\c.h6=0/\c.h7=0/\c.h8=0)/\c.hs=0
instance (c:CoD):Decidable c.his0:=inferInstanceAs (Decidable (_/\_))
def CoD.bare(c:CoD):Prop:=c.wd=0/\c.sl=0/\c.cl=[]
instance (c:CoD):Decidable c.bare:=inferInstanceAs (Decidable (_/\_))
def CoD.roleP(c:CoD):Prop:=
 if c.ro=1 then((0<=c.mo/\c.mo<=2)/\winP c.wd c.sl c.cl)/\c.his/\(c.rm=0/\c.ha=0)
 else if c.ro=2 then((c.mo=0/\c.bare)/\c.his0)/\bktP c.rm c.ha
 else c.ro=3/\((0<=c.mo/\c.mo<=2147483647)/\c.bare)/\c.his/\bktP c.rm c.ha
instance (c:CoD):Decidable c.roleP:=by unfold CoD.roleP;infer_instance
def CoD.cntP(c:CoD):Prop:=heldP c.c0/\heldP c.c1/\heldP c.c2
instance (c:CoD):Decidable c.cntP:=inferInstanceAs (Decidable (_/\_))
def CoD.P(c:CoD):Prop:=(namB c.nm=true/\c.cntP)/\c.roleP
instance (c:CoD):Decidable c.P:=inferInstanceAs (Decidable (_/\_))
def ctAt(a b c x:Int):Int:=if x=0 then a else if x=1 then b else c
def cnt_iff{c:CoD}:c.cntP↔∀i,0<=i->i<3->heldP (ctAt c.c0 c.c1 c.c2 i):=by
 unfold CoD.cntP;constructor
 .rintro⟨h0,h1,h2⟩ i i0 i3;have:i=0\/i=1\/i=2:=Vo
  rcases this with rfl|rfl|rfl<;>assumption
 .intro h;exact⟨h 0 Vo Vo,h 1 Vo Vo,h 2 Vo Vo⟩
def ct_step(h:∀a,0<=a->a<j->heldP (ctAt i b c a))(d:heldP (ctAt i b c j)):∀a,0<=a->a<j+1->heldP (ctAt i b c a):=by
 intro a f g;by_cases e:a=j
 .rw[e];exact d
 .exact h a f Vo
def Zrj(c:CoD):Ct prog 163 {} [c.sv] (λr=>r=[B (decide c.P)]):=by
 have no:¬c.P->[B false]=[B (decide c.P)]:=λh=>by simp[h]
 refine pright_nf (Cl.of (Zhx c.nm) ⟨_,rfl,Zaa (λh=>no (λa=>?_)) (λh=>?_)⟩)
 .simp at h;rw[a.1.1]at h;cases h
 simp at h;refine⟨λx=>0<=x/\x<=3/\∀i,0<=i->i<x->heldP (ctAt c.c0 c.c1 c.c2 i),λx=>(3-x).toNat,⟨Vo,Vo,λi g j=>Vo⟩,?_⟩;rintro x ⟨x0,x3,hi⟩;refine Zaa (λk=>?_) (λk=>?_)
 .simp at k;rw[Zab]
  have step:∀(v:Int) {n:Prop},n->ctAt c.c0 c.c1 c.c2 x=v->Cl prog 235 sP [I v] (λ(t:List SV)=>∃p:Int,(t=[I p])/\(ifB (ine v p) ([B false]=[B (decide c.P)]) (n/\((0<=x+1/\x+1<=3/\∀i,0<=i->i<x+1->heldP (ctAt c.c0 c.c1 c.c2 i))/\(Nl (3-(x+1)).toNat (3-x).toNat))))):=by
   intro v n q s;refine Cl.of (Zhp v) ⟨_,rfl,Zaa (λd=>no (λa=>?_)) (λd=>⟨q,⟨Vo,Vo,ct_step hi ?_⟩,mlt Vo⟩)⟩
   .simp at d;have:=cnt_iff.1 a.1.2 x x0 k;rw[s]at this;exact d (Ztr this).symm
   .simp at d;rw[s];exact Zf8.1 d.symm
  exact⟨⟨x0,k⟩,λe=>step c.c0 rfl (by subst e;rfl),λe=>step c.c1 rfl (by subst e;rfl),λe=>step c.c2 rfl (by subst e;rfl),trivial⟩
 .simp at k;obtain rfl:x=3:=Vo
  have o:=cnt_iff.2 hi;have fin:∀b:Bool,(b=true↔c.roleP)->[B b]=[B (decide c.P)]:=λb d=>by have:b=decide c.P:=(by rw[Bool.eq_iff_iff,decide_eq_true_eq,d];exact⟨λa=>⟨⟨h,o⟩,a⟩,λa=>a.2⟩);rw[this]
  refine Zaa (λg=>?_) (λg=>Zaa (λj=>?_) (λj=>Zaa (λl=>?_) (λl=>?_)))
  .simp at g;refine Zaa (λf=>?_) (λf=>?_)
   .refine Cl.of (Zqw c.wd c.sl c.cl) ⟨_,rfl,Zaa (λm=>?_) (λm=>?_)⟩
    .refine Cl.of (Zls _ _ _ _ _ _ _ _ _ _) ⟨_,rfl,fin _ ?_⟩;simp at f m;unfold CoD.roleP CoD.his;rw[if_pos g];simp[f,m]
    .simp at m;refine fin _ ?_;unfold CoD.roleP;rw[if_pos g];simp[m]
   .refine fin _ ?_;unfold CoD.roleP;rw[if_pos g];simp at f;have:¬(0<=c.mo/\c.mo<=2):=Vo;simp[this]
  .simp at g j;unfold CoD.roleP at fin;rw[if_neg g,if_pos j]at fin;refine Zaa (λf=>?_) (λf=>?_)
   .simp at f;refine Cl.of (Zzz c.wd c.sl c.cl) ⟨_,rfl,Zaa (λd=>?_) (λd=>?_)⟩
    .refine Cl.of (Zf9 c.rm c.ha) ⟨_,rfl,fin _ ?_⟩;simp at d;have e1:c.bare:=d.1;have e2:c.his0:=by unfold CoD.his0;omega
     simp[f,e1,e2]
    .refine fin _ ?_;simp at d;have:¬(c.bare/\c.his0):=λa=>by have e1:=a.1;have e2:=a.2;unfold CoD.bare at e1;unfold CoD.his0 at e2;simp[e1,e2]at d
     simp only[Bool.false_eq_true,false_iff];exact λa=>this ⟨a.1.1.2,a.1.2⟩
   .simp at f;exact Zaa (λd=>by simp at d) (λ_=>fin _ (by simp[f]))
  .simp at g j l;unfold CoD.roleP at fin;rw[if_neg g,if_neg j]at fin;refine Zaa (λf=>?_) (λf=>?_)
   .simp at f;refine Cl.of (Zzz c.wd c.sl c.cl) ⟨_,rfl,Zaa (λd=>?_) (λd=>?_)⟩
    .simp at d;have e1:c.bare:=d;refine Cl.of (Zls _ _ _ _ _ _ _ _ _ _) ⟨_,rfl,Zaa (λa=>?_) (λa=>?_)⟩
     .simp at a;have e2:c.his:=a;refine Cl.of (Zf9 c.rm c.ha) ⟨_,rfl,fin _ ?_⟩;simp[l,f,e1,e2]
     .simp at a;have e2:¬c.his:=a;exact fin _ (by simp[e2])
    .simp at d;have e1:¬c.bare:=λa=>by unfold CoD.bare at a;exact d a.1 a.2.1 a.2.2
     exact fin _ (by simp[e1])
   .simp at f;have:¬(0<=c.mo/\c.mo<=2147483647):=Vo;exact fin _ (by simp[this])
  .simp at g j l;unfold CoD.roleP at fin;rw[if_neg g,if_neg j]at fin;exact fin _ (by simp[l])
def co0:CoD:=⟨bA [],0,0,0,0,[],0,0,0,0,0,0,0,0,0,0,0,0,0,0,0⟩
def newC(nm:BA)(b a:Int):CoD×Int:=
 if namB nm=false then(co0,3)else if¬(1<=b/\b<=3)then(co0,4)else if¬timP a then(co0,5)
 else if b=1 then({co0 with nm:=nm,ro:=b,wd:=10,sl:=a/10,cl:=[(0,0),(0,0),(0,0),(0,0)]},0)else({co0 with nm:=nm,ro:=b,rm:=10,ha:=10},0)
def wnew4(h:timP i):wnewR 10 4 i=[win3 10 (i/10) (cR [(0,0),(0,0),(0,0),(0,0)]),I 0]:=by
 unfold wnewR;rw[if_pos ⟨Vo,h⟩];rfl
def pnew_fn(nm:BA)(b a:Int):Ct prog 131 {} [S nm,I b,I a] (λr=>r=[(newC nm b a).1.sv,I (newC nm b a).2]):=by
 refine pnew_nf (Cl.of (Zhx nm) ⟨_,rfl,Zaa (λh=>?_) (λh=>Zaa (λd=>?_) (λd=>Zaa (λe=>?_) (λe=>?_)))⟩)
 .simp at h;simp[newC,h,co0]
 .simp at h;simp only[bor_t,ilt_eq,igt_eq,decide_eq_true_eq]at d;have:¬(1<=b/\b<=3):=Vo;simp only[newC,h,Wb,if_false,this,not_false_eq_true,if_true];rfl
 .simp at h;simp only[bor_f,ilt_eq,igt_eq,decide_eq_false_iff_not]at d;simp only[bor_t,ilt_eq,igt_eq,decide_eq_true_eq]at e;have e1:(1<=b/\b<=3):=Vo;have e2:¬timP a:=by unfold timP;omega
  simp only[newC,h,Wb,if_false,e1,e2,not_true_eq_false,not_false_eq_true,if_true,and_self];rfl
 .simp at h;simp only[bor_f,ilt_eq,igt_eq,decide_eq_false_iff_not]at d e;have e1:(1<=b/\b<=3):=Vo;have e2:timP a:=by unfold timP;omega
  refine Zaa (λc=>?_) (λc=>?_)
  .simp at c;have f:=Zs2 10 4 a;rw[wnew4 e2]at f;refine Cl.of f ⟨_,_,_,_,rfl,?_⟩;rw[c]at e1|-;simp only[newC,h,Wb,if_false,e1,e2,not_true_eq_false,if_true];rfl
  .simp at c;refine Cl.of (Zts 10 10) ⟨_,_,_,rfl,?_⟩;simp only[newC,h,Wb,if_false,e1,e2,not_true_eq_false,c,and_self];rfl
def chkE(e:EvD):Int:=chkI e.s e.a e.k e.c e.x e.y e.z
def cfgP(a:Int)(e:EvD):Prop:=if a=1 then((1<=e.x/\1<=e.y)/\e.y<=16)/\e.z=0 else if a=2 then e.y<=e.x/\e.z=0 else e.y=0/\e.z=0
instance (ro:Int) (e:EvD):Decidable (cfgP ro e):=by unfold cfgP;infer_instance
def mayI(c:CoD)(e:EvD):Int:=
 if¬c.P then 1 else if chkE e≠0 then chkE e else if e.c≠c.nm then 6 else if e.k=1 then 7 else if roleI e.k≠0/\roleI e.k≠c.ro then 8 else if e.k=2/\¬cfgP c.ro e then 4 else 0
def Zya(a:Int)(e:EvD):Ct prog 261 {} [I a,e.sv] (λr=>r=[B (decide (cfgP a e))]):=by
 refine Zy8 (Zaa (λh=>?_) (λh=>Zaa (λb=>?_) (λb=>?_)))
 .simp at h;have:bpick (bpick (bpick (ige e.x 1) (ige e.y 1) false) (ile e.y 16) false) (ieq e.z 0) false=decide (cfgP a e):=(by rw[Bool.eq_iff_iff,decide_eq_true_eq];unfold cfgP;rw[if_pos h];simp);rw[this]
 .simp at h b;have:bpick (ile e.y e.x) (ieq e.z 0) false=decide (cfgP a e):=(by rw[Bool.eq_iff_iff,decide_eq_true_eq];unfold cfgP;rw[if_neg h,if_pos b];simp);rw[this]
 .simp at h b;have:bpick (ieq e.y 0) (ieq e.z 0) false=decide (cfgP a e):=(by rw[Bool.eq_iff_iff,decide_eq_true_eq];unfold cfgP;rw[if_neg h,if_neg b];simp);rw[this]
def pmay_fn(c:CoD)(e:EvD):Ct prog 187 {} [c.sv,e.sv] (λr=>r=[I (mayI c e)]):=by
 refine pmay_nf (Cl.of (Zrj c) ⟨_,rfl,Zaa (λh=>?_) (λh=>?_)⟩)
 .simp at h;simp[mayI,h]
 simp at h;refine Cl.of (Zom e.s e.a e.k e.c e.x e.y e.z) ⟨_,rfl,Zaa (λb=>?_) (λb=>?_)⟩
 .simp at b;have b:chkE e≠0:=b;simp only[mayI,h,b,not_true_eq_false,if_false,ne_eq,not_false_eq_true,if_true];rfl
 simp at b;have b:chkE e=0:=b;refine Cl.of (role_fn e.k) ⟨_,rfl,?_⟩;rw[sne_d];refine Zaa (λd=>?_) (λd=>Zaa (λg=>?_) (λg=>Zaa (λj=>?_) (λj=>Zaa (λi=>?_) (λi=>?_))))
 .simp at d;simp[mayI,h,b,d]
 .simp at d g;simp[mayI,h,b,d,g]
 .simp at d g j;simp[mayI,h,b,d,g,j]
 .simp at d g i;have f:¬(¬roleI e.k=0/\¬roleI e.k=c.ro):=λl=>by simp[l.1,l.2]at j
  refine Cl.of (Zya c.ro e) ⟨_,rfl,Zaa (λm=>?_) (λm=>?_)⟩
  .simp at m;have n:(2:Int)≠1:=Vo;rw[i]at f;simp only[mayI,h,b,d,i,m,f,not_true_eq_false,if_false,ne_eq,not_false_eq_true,if_true,and_self,n]
  .simp at m;rw[i]at f;have n:¬(2:Int)=1:=Vo;simp only[mayI,h,b,d,i,m,f,not_true_eq_false,if_false,ne_eq,and_false,n]
 .simp at d g i;have f:¬(¬roleI e.k=0/\¬roleI e.k=c.ro):=λl=>by simp[l.1,l.2]at j
  simp only[mayI,h,b,d,g,i,f,not_true_eq_false,if_false,ne_eq,false_and]
def ptell_nf{N O P R T U V W X Y Z ha c0 c1 c2:Int}{x y L:Int}(h:Cl prog 187 sP ([SV.agg [S s,I i,I j,I k,I b,SL 2 l,I N,I O,I P,I R,I T,I U,I V,I W,I X,I Y,I Z,I ha,I c0,I c1,I c2],SV.agg [I c,I e,I z,S t,I x,I y,I L]]) (λrs=>∃x1,(rs=[I x1])/\ifB (ine x1 0) (Q ([SV.agg [S s,I i,I j,I k,I b,SL 2 l,I N,I O,I P,I R,I T,I U,I V,I W,I X,I Y,I Z,I ha,I c0,I c1,I c2],I x1])) (ifB (ieq z 2) (Cl prog 195 sP ([SV.agg [S s,I i,I j,I k,I b,SL 2 l,I N,I O,I P,I R,I T,I U,I V,I W,I X,I Y,I Z,I ha,I c0,I c1,I c2],SV.agg [I c,I e,I z,S t,I x,I y,I L]]) (λnm=>∃A u,∃v w,∃C M,∃D E,∃F G,∃d a,∃g K,∃mo m,∃n o,∃p q r,(nm=[SV.agg [S A,I u,I v,I w,I C,SL 2 M,I D,I E,I F,I G,I d,I a,I g,I K,I mo,I m,I n,I o,I p,I q,I r]])/\Q ([SV.agg [S A,I u,I v,I w,I C,SL 2 M,I D,I E,I F,I G,I d,I a,I g,I K,I mo,I m,I n,I o,I p,I q,I r],I 0]))) (ifB (ieq z 3) (Cl prog 196 sP ([SV.agg [I k,I b,SL 2 l],I e,B (ieq x 0)]) (λnm=>∃u v,∃M w,(nm=[SV.agg [I u,I v,SL 2 M],I w])/\Cl prog 197 sP ([SV.agg [I N,I O,I P,I R,I T,I U,I V,I W,I X,I Y],I y]) (λa0=>∃C D,∃E F,∃G d,∃a g,∃K mo,(a0=[SV.agg [I C,I D,I E,I F,I G,I d,I a,I g,I K,I mo]])/\Cl prog 198 sP ([SV.agg [S s,I i,I j,I u,I v,SL 2 M,I C,I D,I E,I F,I G,I d,I a,I g,I K,I mo,I Z,I ha,I c0,I c1,I c2],I x]) (λac=>∃A m,∃n o,∃p l1,∃q r,∃H J,∃a1 a2,∃a3 a4,∃a5 a6,∃a7 a8,∃a9 aa ab,(ac=[SV.agg [S A,I m,I n,I o,I p,SL 2 l1,I q,I r,I H,I J,I a1,I a2,I a3,I a4,I a5,I a6,I a7,I a8,I a9,I aa,I ab]])/\Q ([SV.agg [S A,I m,I n,I o,I p,SL 2 l1,I q,I r,I H,I J,I a1,I a2,I a3,I a4,I a5,I a6,I a7,I a8,I a9,I aa,I ab],I 0]))))) (ifB (ieq z 4) (ifB (ieq x 0) (Cl prog 188 sP [I k,I (rlen l),I e] (λnm=>∃u v,∃M w,(nm=[SV.agg [I u,I v,SL 2 M],I w])/\Q ([SV.agg [S s,I i,I x,I u,I v,SL 2 M,I N,I O,I P,I R,I T,I U,I V,I W,I X,I Y,I Z,I ha,I c0,I c1,I c2],I 0]))) (Q ([SV.agg [S s,I i,I x,I k,I b,SL 2 l,I N,I O,I P,I R,I T,I U,I V,I W,I X,I Y,I Z,I ha,I c0,I c1,I c2],I 0]))) (ifB (ieq z 5) (Cl prog 199 sP ([SV.agg [I Z,I ha],I x]) (λnm=>∃u v sl,(nm=[SV.agg [I u,I v],B sl])/\Cl prog 198 sP ([SV.agg [S s,I i,I j,I k,I b,SL 2 l,I N,I O,I P,I R,I T,I U,I V,I W,I X,I Y,I u,I v,I c0,I c1,I c2],I 0]) (λa0=>∃A w,∃C D,∃E M,∃F G,∃d a,∃g K,∃mo m,∃n o,∃p q,∃r H J,(a0=[SV.agg [S A,I w,I C,I D,I E,SL 2 M,I F,I G,I d,I a,I g,I K,I mo,I m,I n,I o,I p,I q,I r,I H,I J]])/\Q ([SV.agg [S A,I w,I C,I D,I E,SL 2 M,I F,I G,I d,I a,I g,I K,I mo,I m,I n,I o,I p,I q,I r,I H,I J],I 0])))) (ifB (ieq z 6) (Cl prog 198 sP ([SV.agg [S s,I i,I j,I k,I b,SL 2 l,I N,I O,I P,I R,I T,I U,I V,I W,I X,I Y,I Z,I ha,I c0,I c1,I c2],I 1]) (λnm=>∃A u,∃v w,∃C M,∃D E,∃F G,∃d a,∃g K,∃mo m,∃n o,∃p q r,(nm=[SV.agg [S A,I u,I v,I w,I C,SL 2 M,I D,I E,I F,I G,I d,I a,I g,I K,I mo,I m,I n,I o,I p,I q,I r]])/\Q ([SV.agg [S A,I u,I v,I w,I C,SL 2 M,I D,I E,I F,I G,I d,I a,I g,I K,I mo,I m,I n,I o,I p,I q,I r],I 0]))) (ifB (ieq z 7) (Cl prog 200 sP ([SV.agg [I Z,I ha],I x]) (λnm=>∃u v,(nm=[SV.agg [I u,I v]])/\Cl prog 198 sP ([SV.agg [S s,I i,I j,I k,I b,SL 2 l,I N,I O,I P,I R,I T,I U,I V,I W,I X,I Y,I u,I v,I c0,I c1,I c2],I 2]) (λa0=>∃A w,∃C D,∃E M,∃F G,∃d a,∃g K,∃mo m,∃n o,∃p q,∃r H J,(a0=[SV.agg [S A,I w,I C,I D,I E,SL 2 M,I F,I G,I d,I a,I g,I K,I mo,I m,I n,I o,I p,I q,I r,I H,I J]])/\Q ([SV.agg [S A,I w,I C,I D,I E,SL 2 M,I F,I G,I d,I a,I g,I K,I mo,I m,I n,I o,I p,I q,I r,I H,I J],I 0])))) (ifB (ieq z 8) (Cl prog 199 sP ([SV.agg [I Z,I ha],I 1]) (λnm=>∃u v sl,(nm=[SV.agg [I u,I v],B sl])/\Cl prog 198 sP ([SV.agg [S s,I i,I x,I k,I b,SL 2 l,I N,I O,I P,I R,I T,I U,I V,I W,I X,I Y,I u,I v,I c0,I c1,I c2],I 0]) (λa0=>∃A w,∃C D,∃E M,∃F G,∃d a,∃g K,∃mo m,∃n o,∃p q,∃r H J,(a0=[SV.agg [S A,I w,I C,I D,I E,SL 2 M,I F,I G,I d,I a,I g,I K,I mo,I m,I n,I o,I p,I q,I r,I H,I J]])/\Q ([SV.agg [S A,I w,I C,I D,I E,SL 2 M,I F,I G,I d,I a,I g,I K,I mo,I m,I n,I o,I p,I q,I r,I H,I J],I 0])))) (ifB (ieq z 9) (Cl prog 197 sP ([SV.agg [I N,I O,I P,I R,I T,I U,I V,I W,I X,I Y],I x]) (λnm=>∃u v,∃w C,∃D E,∃F G,∃d a,(nm=[SV.agg [I u,I v,I w,I C,I D,I E,I F,I G,I d,I a]])/\Cl prog 198 sP ([SV.agg [S s,I i,I j,I k,I b,SL 2 l,I u,I v,I w,I C,I D,I E,I F,I G,I d,I a,I Z,I ha,I c0,I c1,I c2],I 1]) (λa0=>∃A g,∃K mo,∃m M,∃n o,∃p q,∃r H,∃J a1,∃a2 a3,∃a4 a5,∃a6 a7 a8,(a0=[SV.agg [S A,I g,I K,I mo,I m,SL 2 M,I n,I o,I p,I q,I r,I H,I J,I a1,I a2,I a3,I a4,I a5,I a6,I a7,I a8]])/\Q ([SV.agg [S A,I g,I K,I mo,I m,SL 2 M,I n,I o,I p,I q,I r,I H,I J,I a1,I a2,I a3,I a4,I a5,I a6,I a7,I a8],I 0])))) (ifB (ieq z 10) (Cl prog 198 sP ([SV.agg [S s,I i,I 0,I k,I b,SL 2 l,I N,I O,I P,I R,I T,I U,I V,I W,I X,I Y,I Z,I ha,I c0,I c1,I c2],I 2]) (λnm=>∃A u,∃v w,∃C M,∃D E,∃F G,∃d a,∃g K,∃mo m,∃n o,∃p q r,(nm=[SV.agg [S A,I u,I v,I w,I C,SL 2 M,I D,I E,I F,I G,I d,I a,I g,I K,I mo,I m,I n,I o,I p,I q,I r]])/\Q ([SV.agg [S A,I u,I v,I w,I C,SL 2 M,I D,I E,I F,I G,I d,I a,I g,I K,I mo,I m,I n,I o,I p,I q,I r],I 0]))) (Q ([SV.agg [S s,I i,I j,I k,I b,SL 2 l,I N,I O,I P,I R,I T,I U,I V,I W,I X,I Y,I Z,I ha,I c0,I c1,I c2],I 0]))))))))))))):Ct prog 137 {} [cmp21 s i j k b l N O P R T U V W X Y Z ha c0 c1 c2,ev7 c e z t x y L] Q:=
 fN SgT SvT func137 h
def psame_nf{T m n o p q P nm d u v w x y z:Int}{e g N O:Int}{A C D E F G H J K L a c M e1 e2:Int}(h:ifB (bpick (bpick (bpick (bpick (seq s t) (ieq i e) false) (ieq j g) false) (ieq k N) false) (ieq b O) false) (Cl prog 162 sP [SL 2 l,SL 2 r] (λU=>∃R,(U=[B R])/\Q [B (bpick (bpick (bpick (bpick true R false) (band (band (ieq T A) (band (ieq m C) (band (ieq n D) (band (ieq o E) (band (ieq p F) (band (ieq q G) (band (ieq P H) (band (ieq nm J) (band (ieq d K) true))))))))) (band (ieq u L) true)) false) (band (ieq v a) (band (ieq w c) true)) false) (band (ieq x M) (band (ieq y e1) (band (ieq z e2) true))) false)])) (Q [B (bpick (bpick (bpick false (band (band (ieq T A) (band (ieq m C) (band (ieq n D) (band (ieq o E) (band (ieq p F) (band (ieq q G) (band (ieq P H) (band (ieq nm J) (band (ieq d K) true))))))))) (band (ieq u L) true)) false) (band (ieq v a) (band (ieq w c) true)) false) (band (ieq x M) (band (ieq y e1) (band (ieq z e2) true))) false)])):Ct prog 99 {} [cmp21 s i j k b l T m n o p q P nm d u v w x y z,cmp21 t e g N O r A C D E F G H J K L a c M e1 e2] Q:=
 fN SgT SvT func99 h
def cntC(c:CoD)(i:Int):CoD:={c with c0:=if i=0 then upI c.c0 1 else c.c0,c1:=if i=1 then upI c.c1 1 else c.c1,c2:=if i=2 then upI c.c2 1 else c.c2}
def hadC(c:CoD)(n:Int):CoD:=if c.his/\0<=n then{c with h0:=hcI n 0 c.h0,h1:=hcI n 1 c.h1,h2:=hcI n 2 c.h2,h3:=hcI n 3 c.h3,h4:=hcI n 4 c.h4,h5:=hcI n 5 c.h5,h6:=hcI n 6 c.h6,h7:=hcI n 7 c.h7,h8:=hcI n 8 c.h8,hs:=upI c.hs n}else c
def Zv3(c:CoD)(n:Int):haddS c.h0 c.h1 c.h2 c.h3 c.h4 c.h5 c.h6 c.h7 c.h8 c.hs n=his10 (hadC c n).h0 (hadC c n).h1 (hadC c n).h2 (hadC c n).h3 (hadC c n).h4 (hadC c n).h5 (hadC c n).h6 (hadC c n).h7 (hadC c n).h8 (hadC c n).hs:=by
 unfold haddS hadC CoD.his
 split<;>rfl
def Zd4(c:CoD)(n:Int):(hadC c n).nm=c.nm/\(hadC c n).ro=c.ro/\(hadC c n).mo=c.mo/\(hadC c n).wd=c.wd/\(hadC c n).sl=c.sl/\(hadC c n).cl=c.cl/\(hadC c n).rm=c.rm/\(hadC c n).ha=c.ha/\(hadC c n).c0=c.c0/\(hadC c n).c1=c.c1/\(hadC c n).c2=c.c2:=by
 unfold hadC
 split<;>exact⟨rfl,rfl,rfl,rfl,rfl,rfl,rfl,rfl,rfl,rfl,rfl⟩
def Zc1(c:CoD)(i:Int)(b:0<=i)(d:i<3):Ct prog 198 {} [c.sv,I i] (λr=>r=[(cntC c i).sv]):=by
 refine Zy9 ⟨⟨b,d⟩,λe=>?_,λe=>?_,λe=>?_,trivial⟩
 .refine Cl.of (up_fn _ _) ⟨_,rfl,⟨b,d⟩,λ_=>?_,λa=>absurd (e.symm.trans a) Vd,λa=>absurd (e.symm.trans a) Vd,trivial⟩;subst e;rfl
 .refine Cl.of (up_fn _ _) ⟨_,rfl,⟨b,d⟩,λa=>absurd (e.symm.trans a) Vd,λ_=>?_,λa=>absurd (e.symm.trans a) Vd,trivial⟩;subst e;rfl
 .refine Cl.of (up_fn _ _) ⟨_,rfl,⟨b,d⟩,λa=>absurd (e.symm.trans a) Vd,λa=>absurd (e.symm.trans a) Vd,λ_=>?_,trivial⟩;subst e;rfl
def winC(c:CoD)(e:EvD):CoD:={c with sl:=(wadS c.wd c.sl c.cl e.a (ieq e.x 0)).1,cl:=(wadS c.wd c.sl c.cl e.a (ieq e.x 0)).2}
def zer(n:Nat):List (Int×Int):=List.replicate n (0,0)
def tellC(c:CoD)(e:EvD):CoD:=
 if e.k=2 then(if c.ro=1 then{c with wd:=e.x,sl:=e.a/e.x,cl:=zer e.y.toNat}else if c.ro=2 then{c with rm:=e.x,ha:=e.y}else{c with rm:=e.x,ha:=e.x})
 else if e.k=3 then cntC (hadC (winC c e) e.y) e.x
 else if e.k=4 then(if e.x=0 then{c with mo:=e.x,sl:=e.a/c.wd,cl:=zer c.cl.length}else{c with mo:=e.x})
 else if e.k=5 then cntC {c with ha:=takeH c.rm c.ha e.x} 0
 else if e.k=6 then cntC c 1
 else if e.k=7 then cntC {c with ha:=putH c.rm c.ha e.x} 2
 else if e.k=8 then cntC {c with mo:=e.x,ha:=takeH c.rm c.ha 1} 0
 else if e.k=9 then cntC (hadC c e.x) 1
 else cntC {c with mo:=0} 2
def tellR(c:CoD)(e:EvD):List SV:=if mayI c e=0 then[(tellC c e).sv,I 0]else[c.sv,I (mayI c e)]
structure MayOK(c:CoD)(e:EvD):Prop where
 right:c.P
 chk:chkE e=0
 name:e.c=c.nm
 k1:e.k≠1
 role:roleI e.k=0\/roleI e.k=c.ro
 cfg:e.k=2->cfgP c.ro e
def Zpm{c:CoD}{e:EvD}:mayI c e=0↔MayOK c e:=by
 unfold mayI;constructor
 .intro h
  split at h
  .simp at h
  .split at h
   next d b=>exact absurd h b
   .split at h
    .simp at h
    .split at h
     .simp at h
     .split at h
      .simp at h
      .split at h
       .simp at h
       .rename_i d b g i j l;refine⟨Yh.1 d,Yh.1 b,Yh.1 g,i,?_,λm=>Yh.1 (λf=>l ⟨m,f⟩)⟩;by_cases hr:roleI e.k=0
        .exact .inl hr
        .exact .inr (Yh.1 (λf=>j ⟨hr,f⟩))
 .rintro⟨d,b,g,i,j,l⟩;rw[if_neg (by simp[d]),if_neg (by simp[b]),if_neg (by simp[g]),if_neg i,if_neg (λa=>j.elim a.1 a.2),if_neg (λa=>a.2 (l a.1))]
def chkE_zero{e:EvD}(h:chkE e=0):(1<=e.k/\e.k<=10)/\(1<=e.c.size/\e.c.size<=24)/\(lo1 e.k<=e.x/\e.x<=hi1 e.k/\0<=e.y/\e.y<=hi2 e.k/\0<=e.z/\e.z<=hi3 e.k)/\timP e.a/\(0<=e.s/\e.s<=4294967296):=by
 obtain⟨f,b,d,i,j⟩:=chk0 h;have f:¬(e.k<1\/10<e.k):=λg=>f ((many0 _).2 g);have b:1<=e.c.size/\e.c.size<=24:=(by simpa[namB]using b);have d:lo1 e.k<=e.x/\e.x<=hi1 e.k/\0<=e.y/\e.y<=hi2 e.k/\0<=e.z/\e.z<=hi3 e.k:=(by simpa[valB]using d);exact⟨Vo,b,d,by unfold timP;omega,Vo⟩
def hi_le(k:Int):0<=lo1 k/\hi1 k<=2147483647/\hi2 k<=2147483647/\hi3 k<=2147483647:=by
 unfold lo1 hi1 hi2 hi3;refine⟨?_,?_,?_,?_⟩<;>repeat' split
 all_goals omega
def role_of{c:CoD}{e:EvD}(ok:MayOK c e):(e.k=3\/e.k=4->c.ro=1)/\(e.k=5\/e.k=6\/e.k=7->c.ro=2)/\(e.k=8\/e.k=9\/e.k=10->c.ro=3):=by
 have h:=ok.role;refine⟨λa=>?_,λa=>?_,λa=>?_⟩
 .rcases a with a|a<;>rw[a]at h<;>simp[roleI]at h<;>omega
 .rcases a with a|a|a<;>rw[a]at h<;>simp[roleI]at h<;>omega
 .rcases a with a|a|a<;>rw[a]at h<;>simp[roleI]at h<;>omega
def Zv4{c:CoD}(h:c.P):c.ro=1\/c.ro=2\/c.ro=3:=by
 have:=h.2;unfold CoD.roleP at this;by_cases h1:c.ro=1
 .exact .inl h1
 .by_cases h2:c.ro=2
  .exact .inr (.inl h2)
  .rw[if_neg h1,if_neg h2]at this;exact .inr (.inr this.1)
def Zrf{c:CoD}(h:c.P)(a:c.ro=1):((0<=c.mo/\c.mo<=2)/\winP c.wd c.sl c.cl)/\c.his/\(c.rm=0/\c.ha=0):=by
 have:=h.2;unfold CoD.roleP at this;rwa[if_pos a]at this
def right2{c:CoD}(h:c.P)(a:c.ro=2):((c.mo=0/\c.bare)/\c.his0)/\bktP c.rm c.ha:=by
 have:=h.2;unfold CoD.roleP at this;rwa[if_neg Vo,if_pos a]at this
def Zv5{c:CoD}(h:c.P)(a:c.ro=3):((0<=c.mo/\c.mo<=2147483647)/\c.bare)/\c.his/\bktP c.rm c.ha:=by
 have:=h.2;unfold CoD.roleP at this;rw[if_neg Vo,if_neg Vo]at this;exact this.2
def wnew_cfg{c:CoD}{e:EvD}(ok:MayOK c e)(d:e.k=2)(f:c.ro=1):wnewR e.x e.y e.a=[win3 e.x (e.a/e.x) (cR (zer e.y.toNat)),I 0]:=by
 obtain⟨h,i,c3,g,j⟩:=chkE_zero ok.chk;have b:=ok.cfg d;unfold cfgP at b;rw[if_pos f]at b;have:=hi_le e.k;unfold wnewR;rw[if_pos ⟨Vo,g⟩];rfl
def wnew_trip{c:CoD}{e:EvD}(ok:MayOK c e)(d:c.ro=1):wnewR c.wd c.cl.length e.a=[win3 c.wd (e.a/c.wd) (cR (zer c.cl.length)),I 0]:=by
 obtain⟨g,h,c3,f,i⟩:=chkE_zero ok.chk;have b:=(Zrf ok.right d).1.2;unfold wnewR;rw[if_pos ⟨⟨b.1,by have:=b.2.2.1;omega⟩,f⟩];rfl
def bnew_ok(h:bktP i b):bnewR i b=[bkt2 i b,I 0]:=by unfold bnewR;rw[if_pos h]
def config_fn(c:CoD)(e:EvD)(ok:MayOK c e)(g:e.k=2):Ct prog 195 {} [c.sv,e.sv] (λr=>r=[(tellC c e).sv]):=by
 obtain⟨l,m,c3,n,o⟩:=chkE_zero ok.chk;have i:=ok.cfg g;have j:=hi_le e.k;unfold tellC;rw[if_pos g];refine config_nf (Zaa (λb=>?_) (λb=>Zaa (λf=>?_) (λf=>Zaa (λh=>?_) (λh=>?_))))
 .simp at b;have d:=Zs2 e.x e.y e.a;rw[wnew_cfg ok g b]at d;refine Cl.of d ⟨_,_,_,_,rfl,?_⟩;rw[if_pos b]
 .simp at b f;unfold cfgP at i;rw[if_neg b,if_pos f]at i;have d:=Zts e.x e.y;rw[bnew_ok (by unfold bktP;omega)]at d;refine Cl.of d ⟨_,_,_,rfl,?_⟩;rw[if_neg b,if_pos f]
 .simp at b f h;have d:=Zts e.x e.x;rw[bnew_ok (by unfold bktP;omega)]at d;refine Cl.of d ⟨_,_,_,rfl,?_⟩;rw[if_neg b,if_neg f]
 .simp at b f h;have:=Zv4 ok.right;omega
def wadd_ok{c:CoD}{e:EvD}(ok:MayOK c e)(d:c.ro=1)(b:Bool):waddR c.wd c.sl c.cl e.a b=[win3 c.wd (wadS c.wd c.sl c.cl e.a b).1 (cR (wadS c.wd c.sl c.cl e.a b).2),I 0]:=by
 unfold waddR;rw[if_pos ⟨(Zrf ok.right d).1.2,(chkE_zero ok.chk).2.2.2.1⟩]
def ptell_fn(c:CoD)(e:EvD):Ct prog 137 {} [c.sv,e.sv] (λr=>r=tellR c e):=by
 refine ptell_nf (Cl.of (pmay_fn c e) ⟨_,rfl,Zaa (λh=>?_) (λh=>?_)⟩)
 .simp at h;unfold tellR;rw[if_neg h]
 simp at h;have ok:=Zpm.1 h;obtain⟨J,N,O⟩:=role_of ok;obtain⟨P,_,K,_,_⟩:=chkE_zero ok.chk;have M:=hi_le e.k;unfold tellR;rw[if_pos h];refine Zaa (λb=>?_) (λb=>Zaa (λd=>?_) (λd=>Zaa (λf=>?_) (λf=>Zaa (λi=>?_) (λi=>Zaa (λj=>?_) (λj=>Zaa (λl=>?_) (λl=>Zaa (λm=>?_) (λm=>Zaa (λo=>?_) (λo=>Zaa (λp=>?_) (λp=>?_)))))))))
 .simp at b;exact Cl.of (config_fn c e ok b) ⟨_,_,_,_,_,_,_,_,_,_,_,_,_,_,_,_,_,_,_,_,_,rfl,rfl⟩
 .simp at b d;have H:=J (.inl d);have u:=wadd_fn c.wd c.sl c.cl e.a (ieq e.x 0);rw[wadd_ok ok H]at u;refine Cl.of u ⟨_,_,_,_,rfl,?_⟩;have v:=hadd_fn c.h0 c.h1 c.h2 c.h3 c.h4 c.h5 c.h6 c.h7 c.h8 c.hs e.y;have L:haddS c.h0 c.h1 c.h2 c.h3 c.h4 c.h5 c.h6 c.h7 c.h8 c.hs e.y=_:=Zv3 (winC c e) e.y;rw[L]at v;refine Cl.of v ⟨_,_,_,_,_,_,_,_,_,_,rfl,?_⟩;have n:0<=e.x/\e.x<3:=(by rw[d]at K;simp[lo1,hi1]at K;omega);have q:=Zc1 (hadC (winC c e) e.y) e.x n.1 n.2;obtain⟨e1,e2,z,A,C,D,E,F,G,s,t⟩:=Zd4 (winC c e) e.y;have w:(hadC (winC c e) e.y).sv=SV.agg [S c.nm,I c.ro,I c.mo,I c.wd,I (winC c e).sl,SL 2 (cR (winC c e).cl),I (hadC (winC c e) e.y).h0,I (hadC (winC c e) e.y).h1,I (hadC (winC c e) e.y).h2,I (hadC (winC c e) e.y).h3,I (hadC (winC c e) e.y).h4,I (hadC (winC c e) e.y).h5,I (hadC (winC c e) e.y).h6,I (hadC (winC c e) e.y).h7,I (hadC (winC c e) e.y).h8,I (hadC (winC c e) e.y).hs,I c.rm,I c.ha,I c.c0,I c.c1,I c.c2]:=(by unfold CoD.sv;rw[e1,e2,z,A,C,D,E,F,G,s,t];rfl);rw[w]at q;refine Cl.of q ⟨_,_,_,_,_,_,_,_,_,_,_,_,_,_,_,_,_,_,_,_,_,rfl,?_⟩;have g:tellC c e=cntC (hadC (winC c e) e.y) e.x:=(by unfold tellC;rw[if_neg b,if_pos d]);rw[g]
 .simp at b d f;have H:=J (.inr f);refine Zaa (λn=>?_) (λn=>?_)
  .simp at n;rw[Zlu];have u:=Zs2 c.wd c.cl.length e.a;rw[wnew_trip ok H]at u;refine Cl.of u ⟨_,_,_,_,rfl,?_⟩;have g:tellC c e={c with mo:=e.x,sl:=e.a/c.wd,cl:=zer c.cl.length}:=by unfold tellC;rw[if_neg b,if_neg d,if_pos f,if_pos n]
   rw[g]
  .simp at n;have g:tellC c e={c with mo:=e.x}:=by unfold tellC;rw[if_neg b,if_neg d,if_pos f,if_neg n]
   rw[g]
 .simp at b d f i;refine Cl.of (Zwc c.rm c.ha e.x) ⟨_,_,_,rfl,?_⟩;refine Cl.of (Zc1 {c with ha:=takeH c.rm c.ha e.x} 0 Vo Vo) ⟨_,_,_,_,_,_,_,_,_,_,_,_,_,_,_,_,_,_,_,_,_,rfl,?_⟩;have g:tellC c e=cntC {c with ha:=takeH c.rm c.ha e.x} 0:=by unfold tellC;rw[if_neg b,if_neg d,if_neg f,if_pos i]
  rw[g]
 .simp at b d f i j;refine Cl.of (Zc1 c 1 Vo Vo) ⟨_,_,_,_,_,_,_,_,_,_,_,_,_,_,_,_,_,_,_,_,_,rfl,?_⟩;have g:tellC c e=cntC c 1:=by unfold tellC;rw[if_neg b,if_neg d,if_neg f,if_neg i,if_pos j]
  rw[g]
 .simp at b d f i j l;refine Cl.of (bput_fn c.rm c.ha e.x) ⟨_,_,rfl,?_⟩;refine Cl.of (Zc1 {c with ha:=putH c.rm c.ha e.x} 2 Vo Vo) ⟨_,_,_,_,_,_,_,_,_,_,_,_,_,_,_,_,_,_,_,_,_,rfl,?_⟩;have g:tellC c e=cntC {c with ha:=putH c.rm c.ha e.x} 2:=by unfold tellC;rw[if_neg b,if_neg d,if_neg f,if_neg i,if_neg j,if_pos l]
  rw[g]
 .simp at b d f i j l m;refine Cl.of (Zwc c.rm c.ha 1) ⟨_,_,_,rfl,?_⟩;refine Cl.of (Zc1 {c with mo:=e.x,ha:=takeH c.rm c.ha 1} 0 Vo Vo) ⟨_,_,_,_,_,_,_,_,_,_,_,_,_,_,_,_,_,_,_,_,_,rfl,?_⟩;have g:tellC c e=cntC {c with mo:=e.x,ha:=takeH c.rm c.ha 1} 0:=by unfold tellC;rw[if_neg b,if_neg d,if_neg f,if_neg i,if_neg j,if_neg l,if_pos m]
  rw[g]
 .simp at b d f i j l m o;have v:=hadd_fn c.h0 c.h1 c.h2 c.h3 c.h4 c.h5 c.h6 c.h7 c.h8 c.hs e.x;rw[Zv3 c e.x]at v;refine Cl.of v ⟨_,_,_,_,_,_,_,_,_,_,rfl,?_⟩;have q:=Zc1 (hadC c e.x) 1 Vo Vo;obtain⟨e1,e2,z,A,C,D,E,F,G,s,t⟩:=Zd4 c e.x;have w:(hadC c e.x).sv=SV.agg [S c.nm,I c.ro,I c.mo,I c.wd,I c.sl,SL 2 (cR c.cl),I (hadC c e.x).h0,I (hadC c e.x).h1,I (hadC c e.x).h2,I (hadC c e.x).h3,I (hadC c e.x).h4,I (hadC c e.x).h5,I (hadC c e.x).h6,I (hadC c e.x).h7,I (hadC c e.x).h8,I (hadC c e.x).hs,I c.rm,I c.ha,I c.c0,I c.c1,I c.c2]:=(by unfold CoD.sv;rw[e1,e2,z,A,C,D,E,F,G,s,t]);rw[w]at q;refine Cl.of q ⟨_,_,_,_,_,_,_,_,_,_,_,_,_,_,_,_,_,_,_,_,_,rfl,?_⟩;have g:tellC c e=cntC (hadC c e.x) 1:=(by unfold tellC;rw[if_neg b,if_neg d,if_neg f,if_neg i,if_neg j,if_neg l,if_neg m,if_pos o]);rw[g]
 .simp at b d f i j l m o p;refine Cl.of (Zc1 {c with mo:=0} 2 Vo Vo) ⟨_,_,_,_,_,_,_,_,_,_,_,_,_,_,_,_,_,_,_,_,_,rfl,?_⟩;have g:tellC c e=cntC {c with mo:=0} 2:=by unfold tellC;rw[if_neg b,if_neg d,if_neg f,if_neg i,if_neg j,if_neg l,if_neg m,if_neg o]
  rw[g]
 .simp at b d f i j l m o p;have:=ok.k1;omega
def sameP(c d:CoD):Prop:=c.nm=d.nm/\c.ro=d.ro/\c.mo=d.mo/\c.wd=d.wd/\c.sl=d.sl/\c.cl=d.cl/\c.h0=d.h0/\c.h1=d.h1/\c.h2=d.h2/\c.h3=d.h3/\c.h4=d.h4/\c.h5=d.h5/\c.h6=d.h6/\c.h7=d.h7/\c.h8=d.h8/\c.hs=d.hs/\c.rm=d.rm/\c.ha=d.ha/\c.c0=d.c0/\c.c1=d.c1/\c.c2=d.c2
instance (c d:CoD):Decidable (sameP c d):=by unfold sameP;infer_instance
theorem Zy2(c:CoD):sameP c c:=⟨rfl,rfl,rfl,rfl,rfl,rfl,rfl,rfl,rfl,rfl,rfl,rfl,rfl,rfl,rfl,rfl,rfl,rfl,rfl,rfl,rfl⟩
def psame_fn(c d:CoD)(a:c.cl.length<=1000000):Ct prog 99 {} [c.sv,d.sv] (λr=>r=[B (decide (sameP c d))]):=by
 refine psame_nf (Zaa (λh=>Cl.of (Zzy c.cl d.cl a) ⟨_,rfl,?_⟩) (λh=>?_))
 .rw[seq_d]at h;simp at h;refine congrArg (λb=>[B b]) ?_;rw[Bool.eq_iff_iff,decide_eq_true_eq];unfold sameP;simp[h,and_assoc]
 .rw[seq_d]at h;simp at h;refine congrArg (λb=>[B b]) ?_;rw[Bool.eq_iff_iff,decide_eq_true_eq];unfold sameP;simp;intro e f g i j;exact absurd j (h e f g i)
def qshort_fn(c:CoD):Ct prog 121 {} [c.sv] (λr=>r=[B (decide (c.nm.size<=100/\c.cl.length<=40))]):=by
 refine qshort_nf _ _ _ _ _ _ _ _ _ _ _ _ _ _ _ _ _ _ _ _ _ _ ?_;refine congrArg (λb=>[B b]) ?_;rw[Bool.eq_iff_iff,decide_eq_true_eq];simp[slen_eq];omega
def addL_len(a:List (Int×Int))(p:Int)(ok:Bool):(addL a p ok).length=a.length:=by simp[addL]
def Zxe(c d:Int)(b:List (Int×Int))(a:Int)(ok:Bool):(wadS c d b a ok).2.length=b.length:=by
 unfold wadS
 repeat' split
 all_goals simp[addL_len,mvL_len]
def cntC_cl(c:CoD)(i:Int):(cntC c i).cl=c.cl:=rfl
def tell_cl{c:CoD}{e:EvD}(ok:MayOK c e):(tellC c e).cl.length<=c.cl.length\/(tellC c e).cl.length<=16:=by
 unfold tellC
 split
 next a=>
  split
  next b=>have:=ok.cfg a;unfold cfgP at this;rw[if_pos b]at this;refine .inr ?_;simp[zer];omega
  .split<;>exact .inl (Nat.le_refl _)
 .split
  .refine .inl ?_;rw[cntC_cl,(Zd4 _ _).2.2.2.2.2.1];exact Nat.le_of_eq (Zxe _ _ _ _ _)
  .split
   .split
    .exact .inl (by simp[zer])
    .exact .inl (Nat.le_refl _)
   .repeat' split
    all_goals first|exact .inl (Nat.le_refl _)|(refine .inl ?_;rw[cntC_cl,(Zd4 _ _).2.2.2.2.2.1];exact Nat.le_refl _)
def P_cnt{c:CoD}(i:Int)(h:c.P):(cntC c i).P:=by
 refine⟨⟨h.1.1,?_,?_,?_⟩,h.2⟩
 .show heldP (if i=0 then upI c.c0 1 else c.c0)
  split
  .exact Zho _ _
  .exact h.1.2.1
 .show heldP (if i=1 then upI c.c1 1 else c.c1)
  split
  .exact Zho _ _
  .exact h.1.2.2.1
 .show heldP (if i=2 then upI c.c2 1 else c.c2)
  split
  .exact Zho _ _
  .exact h.1.2.2.2
def Zfg(h:heldP j):heldP (hcI i k j):=by
 unfold hcI
 split
 .exact Zho _ _
 .exact h
def Zzu{c:CoD}(n:Int)(h:c.his):(hadC c n).his:=by
 unfold hadC
 split
 .obtain⟨a,b,d,e,f,g,i,j,k,l⟩:=h;exact⟨Zfg a,Zfg b,Zfg d,Zfg e,Zfg f,Zfg g,Zfg i,Zfg j,Zfg k,Zho _ _⟩
 .exact h
def Zk5(n:Nat):Zft (zer n):=λc a=>by
 rw[(List.mem_replicate.1 a).2];exact⟨⟨Vd,Vd⟩,⟨Vd,Vd⟩⟩
def Zoh{a w:Int}(h:timP a)(b:1<=w):timP (a/w):=by
 refine⟨Int.ediv_nonneg h.1 Vo,?_⟩;have c:a/w<=a:=Int.ediv_le_self w h.1;have:=h.2;omega
def Zqj{a:List (Int×Int)}(h:Zft a)(i:Int)(ok:Bool):Zft (addL a i ok):=by
 intro c b
 rcases List.mem_or_eq_of_mem_set b with b|rfl
 .exact h c b
 .have:heldP (ceAt a i).1/\heldP (ceAt a i).2:=by
   unfold ceAt;rw[List.getD_eq_getElem?_getD]
   cases e:a[i.toNat]? with
   |none=>exact⟨⟨Vd,Vd⟩,⟨Vd,Vd⟩⟩
   |some v=>exact h v (Yn e)
  unfold ceU
  cases ok
  .exact⟨this.1,Zho _ _⟩
  .exact⟨Zho _ _,this.2⟩
def cells_mv{a:List (Int×Int)}(h:Zft a)(e slot:Int):Zft (mvL e slot a):=by
 intro c b;simp only[mvL,Y5,WD]at b;obtain⟨p,d,rfl⟩:=b
 split
 .exact⟨⟨Vd,Vd⟩,⟨Vd,Vd⟩⟩
 .rw[List.getD_eq_getElem?_getD,List.getElem?_eq_getElem d];exact h _ (List.getElem_mem d)
def win_wad{d:List (Int×Int)}(h:winP b c d)(g:timP i)(ok:Bool):winP b (wadS b c d i ok).1 (wadS b c d i ok).2:=by
 obtain⟨f,a,j,e⟩:=h;refine⟨f,?_,by rw[Zxe];exact j,?_⟩
 .unfold wadS
  split
  .split<;>exact a
  .exact Zoh g f.1
 .unfold wadS
  split
  .split
   .exact e
   .exact Zqj e _ _
  .exact Zqj (cells_mv e _ _) _ _
def Zuo(h:bktP i b):bktP i (takeH i b j):=by
 unfold takeH
 split
 .unfold bktP at*;omega
 .exact h
def bkt_put(h:bktP i b):bktP i (putH i b j):=by
 unfold putH
 split
 .unfold bktP at*;omega
 .exact h
def P1{c:CoD}(a:namB c.nm=true)(b:c.cntP)(d:c.ro=1)(h:((0<=c.mo/\c.mo<=2)/\winP c.wd c.sl c.cl)/\c.his/\(c.rm=0/\c.ha=0)):c.P:=⟨⟨a,b⟩,by unfold CoD.roleP;rw[if_pos d];exact h⟩
def P2{c:CoD}(a:namB c.nm=true)(b:c.cntP)(d:c.ro=2)(h:((c.mo=0/\c.bare)/\c.his0)/\bktP c.rm c.ha):c.P:=⟨⟨a,b⟩,by unfold CoD.roleP;rw[if_neg Vo,if_pos d];exact h⟩
def P3{c:CoD}(a:namB c.nm=true)(b:c.cntP)(d:c.ro=3)(h:((0<=c.mo/\c.mo<=2147483647)/\c.bare)/\c.his/\bktP c.rm c.ha):c.P:=⟨⟨a,b⟩,by unfold CoD.roleP;rw[if_neg Vo,if_neg Vo];exact⟨d,h⟩⟩
def tell_P{c:CoD}{e:EvD}(ok:MayOK c e):(tellC c e).P:=by
 have d:=ok.right;obtain⟨A,C,m⟩:=role_of ok;obtain⟨M,_,D,n,_⟩:=chkE_zero ok.chk;have L:=hi_le e.k;have f:=d.1.1;have b:=d.1.2;unfold tellC
 split
 .rename_i l;have g:=ok.cfg l;unfold cfgP at g
  split
  next a=>rw[if_pos a]at g;have q:=Zrf d a;refine P1 f b a ⟨⟨q.1.1,⟨⟨g.1.1.1,by show e.x<=_;omega⟩,Zoh n g.1.1.1,?_,Zk5 _⟩⟩,q.2⟩;simp only[zer,Wl];omega
  .split
   next j a=>rw[if_neg j,if_pos a]at g;have q:=right2 d a;refine P2 f b a ⟨q.1,?_⟩;show bktP e.x e.y;unfold bktP;omega
   .rename_i j K;have a:c.ro=3:=by have:=Zv4 d;omega
    have q:=Zv5 d a;refine P3 f b a ⟨q.1,q.2.1,?_⟩;show bktP e.x e.x;unfold bktP;omega
 .split
  next l w=>have a:=A (.inl w);have q:=Zrf d a;obtain⟨e1,e2,o,p,r,s,t,u,v,h,i⟩:=Zd4 (winC c e) e.y;refine P_cnt _ (P1 (by rw[e1];exact f) ⟨by rw[v];exact b.1,by rw[h];exact b.2.1,by rw[i];exact b.2.2⟩ (by rw[e2];exact a) ⟨⟨by rw[o];exact q.1.1,?_⟩,Zzu _ q.2.1,by rw[t,u];exact q.2.2⟩);rw[p,r,s];exact win_wad q.1.2 n _
  .split
   .rename_i l w z;have a:=A (.inr z);have q:=Zrf d a;have E:0<=e.x/\e.x<=2:=by rw[z]at D;simp[lo1,hi1]at D;omega
    split
    .refine P1 f b a ⟨⟨E,⟨q.1.2.1,Zoh n q.1.2.1.1,?_,Zk5 _⟩⟩,q.2⟩;simp only[zer,Wl];exact q.1.2.2.2.1
    .exact P1 f b a ⟨⟨E,q.1.2⟩,q.2⟩
   .split
    next F=>have a:=C (.inl F);have q:=right2 d a;exact P_cnt _ (P2 f b a ⟨q.1,Zuo q.2⟩)
    .split
     .exact P_cnt _ d
     .split
      next G=>have a:=C (.inr (.inr G));have q:=right2 d a;exact P_cnt _ (P2 f b a ⟨q.1,bkt_put q.2⟩)
      .split
       next H=>have a:=m (.inl H);have q:=Zv5 d a;exact P_cnt _ (P3 f b a ⟨⟨⟨by show 0<=e.x;omega,by show e.x<=_;omega⟩,q.1.2⟩,q.2.1,Zuo q.2.2⟩)
       .split
        next J=>have a:=m (.inr (.inl J));have q:=Zv5 d a;obtain⟨e1,e2,o,p,r,s,t,u,v,h,i⟩:=Zd4 c e.x;refine P_cnt _ (P3 (by rw[e1];exact f) ⟨by rw[v];exact b.1,by rw[h];exact b.2.1,by rw[i];exact b.2.2⟩ (by rw[e2];exact a) ⟨⟨by rw[o];exact q.1.1,?_⟩,Zzu _ q.2.1,by rw[t,u];exact q.2.2⟩);unfold CoD.bare;rw[p,r,s];exact q.1.2
        .have N:=ok.k1;have a:c.ro=3:=m (.inr (.inr Vo));have q:=Zv5 d a;exact P_cnt _ (P3 f b a ⟨⟨⟨by show(0:Int)<=0;decide,by show(0:Int)<=_;decide⟩,q.1.2⟩,q.2⟩)
theorem Zzv(c:CoD)(e:EvD):(tellC c e).nm=c.nm/\(tellC c e).ro=c.ro:=by
 have a:=λ(d:CoD) (n:Int)=>Zd4 d n;unfold tellC
 repeat' split
 all_goals first|exact⟨rfl,rfl⟩|exact⟨(a _ _).1,(a _ _).2.1⟩
end Cmp
namespace Sx
open Go Go.Px Go.Proofs Cmp Tryz
abbrev st3(rows:LL)(s a:Int):SV:=.agg [SL 21 rows,I s,I a]
def SgT:FuncId->Sig:=(λf=>bif Nat.beq f 130 then⟨[],[.own]⟩else bif Nat.beq f 135 then⟨[.own],[.own]⟩else{})
def SvT:TypeId->Sig:=λ_=>{}
def sshort_nf{rows:LL}(h:∃a:Bool->Int->Prop,∃m:Bool->Int->Nat,(a false 0)/\∀b x,(a b x)->ifB (ilt x (rlen rows)) (((0<=x)/\x<(rlen rows))/\∃s r,∃u v,∃w l,∃y z,∃A C,∃D c,∃d e,∃g q,∃t k,∃n o p,(rget rows x=[S s,I r,I u,I v,I w,SL 2 l,I y,I z,I A,I C,I D,I c,I d,I e,I g,I q,I t,I k,I n,I o,I p])/\Cl prog 121 sP ([SV.agg [S s,I r,I u,I v,I w,SL 2 l,I y,I z,I A,I C,I D,I c,I d,I e,I g,I q,I t,I k,I n,I o,I p]]) (λF=>∃E,(F=[B E])/\ifB (bnot E) (Q [B false]) ((Sm (some ([[SL 21 rows,I i,I j]])))/\(a b (wadd .i64 x 1))/\Nl (m b (wadd .i64 x 1)) (m b x)))) (Q [B (ile (rlen rows) 20)])):Ct prog 59 {} [st3 rows i j] Q:=
 fN SgT SvT func59 h
def sright_nf{rows:LL}(h:ifB (bpick (bpick (bpick (bpick (igt (rlen rows) 12) true (ilt i 0)) true (igt i 4294967296)) true (ilt j 0)) true (igt j 1099511627776)) (Q [B false]) (∃a:Bool->Int->Prop,∃m:Bool->Int->Nat,(a false 0)/\∀b x,(a b x)->ifB (ilt x (rlen rows)) (((0<=x)/\x<(rlen rows))/\∃s r,∃u v,∃w l,∃y z,∃A C,∃D c,∃d e,∃g q,∃t k,∃n o p,(rget rows x=[S s,I r,I u,I v,I w,SL 2 l,I y,I z,I A,I C,I D,I c,I d,I e,I g,I q,I t,I k,I n,I o,I p])/\Cl prog 163 sP ([SV.agg [S s,I r,I u,I v,I w,SL 2 l,I y,I z,I A,I C,I D,I c,I d,I e,I g,I q,I t,I k,I n,I o,I p]]) (λrs=>∃E,(rs=[B E])/\ifB (bnot E) (Q [B false]) (ifB (igt x 0) (((0<=(wsub .i64 x 1))/\(wsub .i64 x 1)<(rlen rows))/\∃F G,∃H J,∃K l1,∃L M,∃N O,∃P R,∃T U,∃V W,∃X Y,∃Z a0 a1,(rget rows (wsub .i64 x 1)=[S F,I G,I H,I J,I K,SL 2 l1,I L,I M,I N,I O,I P,I R,I T,I U,I V,I W,I X,I Y,I Z,I a0,I a1])/\ifB (sge F s) (Q [B false]) ((Sm (some ([[SL 21 rows,I i,I j]])))/\(a b (wadd .i64 x 1))/\Nl (m b (wadd .i64 x 1)) (m b x))) ((Sm (some ([[SL 21 rows,I i,I j]])))/\(a b (wadd .i64 x 1))/\Nl (m b (wadd .i64 x 1)) (m b x))))) (Q [B true]))):Ct prog 101 {} [st3 rows i j] Q:=
 fN SgT SvT func101 h
def sfind_nf{rows:LL}(h:Cl prog 193 sP ([SL 21 rows,SV.clo 194 ([SV.ref 0 [S s]])]) (λa=>∃x,(a=[I x])/\Q [I x])):Ct prog 136 {} [st3 rows i j,S s] Q:=
 fN SgT SvT func136 h
theorem sfind1_nf(nm:BA)(a b c d:Int)(e:LL)(g i j k l m n o p q r t u v w:Int)(s:BA)(Q:QQ)(h:Q [B (seq nm s)]):Ct prog 194 {} [cmp21 nm a b c d e g i j k l m n o p q r t u v w,.ref 0 [S s]] Q:=
 fN SgT SvT func194 h
def sindex_nf{rows:LL}{f:FuncId}(h:∃c:Int->Int->Prop,∃m:Int->Int->Nat,(c 0 0)/\∀x a,(c x a)->ifB (ilt a (rlen rows)) (((0<=a)/\a<(rlen rows))/\∃s u,∃v w,∃y l,∃z A,∃t D,∃d e,∃g i,∃j k,∃n o,∃p q r,(rget rows a=[S s,I u,I v,I w,I y,SL 2 l,I z,I A,I t,I D,I d,I e,I g,I i,I j,I k,I n,I o,I p,I q,I r])/\Cl prog f sP ((SV.agg [S s,I u,I v,I w,I y,SL 2 l,I z,I A,I t,I D,I d,I e,I g,I i,I j,I k,I n,I o,I p,I q,I r])::C) (λE=>∃b,(E=[B b])/\ifB b (Q [I a]) (((Option.some []:Option LL)=Option.some [])/\(c x (wadd .i64 a 1))/\Nl (m x (wadd .i64 a 1)) (m x a)))) (Q [I (-1)])):Ct prog 193 {} [SL 21 rows,.clo f C] Q:=
 fN SgT SvT func193 h
def ssame_nf{rows:LL}(h:ifB (bpick (ieq i c) (ieq j k) false) (Cl prog 98 sP ([SL 21 rows,SL 21 l,SV.clo 99 []]) (λe=>∃b,(e=[B b])/\Q [B b])) (Q [B false])):Ct prog 36 {} [st3 rows i j,st3 l c k] Q:=
 fN SgT SvT func36 h
def sequal_nf{rows a:LL}{f:FuncId}(h:ifB (ine (rlen rows) (rlen a)) (Q [B false]) (∃c:Bool->Int->Prop,∃m:Bool->Int->Nat,(c false 0)/\∀b x,(c b x)->ifB (ilt x (rlen rows)) (((0<=x)/\x<(rlen rows))/\∃s P,∃R T,∃U l,∃V W,∃X Y,∃Z d,∃e g,∃i j,∃k n,∃o p q,(rget rows x=[S s,I P,I R,I T,I U,SL 2 l,I V,I W,I X,I Y,I Z,I d,I e,I g,I i,I j,I k,I n,I o,I p,I q])/\((0<=x)/\x<(rlen a))/\∃s1 r,∃t u,∃v l1,∃w y,∃z A,∃O D,∃E F,∃G H,∃J K,∃L M N,(rget a x=[S s1,I r,I t,I u,I v,SL 2 l1,I w,I y,I z,I A,I O,I D,I E,I F,I G,I H,I J,I K,I L,I M,I N])/\Cl prog f sP ((SV.agg [S s,I P,I R,I T,I U,SL 2 l,I V,I W,I X,I Y,I Z,I d,I e,I g,I i,I j,I k,I n,I o,I p,I q])::((SV.agg [S s1,I r,I t,I u,I v,SL 2 l1,I w,I y,I z,I A,I O,I D,I E,I F,I G,I H,I J,I K,I L,I M,I N])::C)) (λrs=>∃b1,(rs=[B b1])/\ifB (bnot b1) (Q [B false]) (((Option.some []:Option LL)=Option.some [])/\(c b (wadd .i64 x 1))/\Nl (m b (wadd .i64 x 1)) (m b x)))) (Q [B true]))):Ct prog 98 {} [SL 21 rows,SL 21 a,.clo f C] Q:=
 fN SgT SvT func98 h
def sclone_nf{rows:LL}(h:∀b,((b=true)->rlen rows=0)->ifB b (Q ([SL 21 []])) (((lsum (rlen []) (rlen rows))<=2147483648)/\Q ([SL 21 (rapp [] rows)]))):Ct prog 130 ⟨[],[.own]⟩ [SL 21 rows] Q:=
 fN SgT SvT func130 h
def sbin_nf{rows:LL}{f:FuncId}(h:∃r:Int->Int->Prop,∃m:Int->Int->Nat,(r 0 (rlen rows))/\∀x a,(r x a)->ifB (ilt x a) (((0:Int)<=1)/\((0<=(wcv .i64 (wshr .u64 (wcv .u64 (wadd .i64 x a)) 1)))/\(wcv .i64 (wshr .u64 (wcv .u64 (wadd .i64 x a)) 1))<(rlen rows))/\∃t u,∃v w,∃y l,∃z A,∃E D,∃b c,∃d e,∃g i,∃j k,∃n o p,(rget rows (wcv .i64 (wshr .u64 (wcv .u64 (wadd .i64 x a)) 1))=[S t,I u,I v,I w,I y,SL 2 l,I z,I A,I E,I D,I b,I c,I d,I e,I g,I i,I j,I k,I n,I o,I p])/\Cl prog f sP ((SV.agg [S t,I u,I v,I w,I y,SL 2 l,I z,I A,I E,I D,I b,I c,I d,I e,I g,I i,I j,I k,I n,I o,I p])::((S s)::C)) (λF=>∃q,(F=[I q])/\ifB (ilt q 0) (((Option.some []:Option LL)=Option.some [])/\(r (wadd .i64 (wcv .i64 (wshr .u64 (wcv .u64 (wadd .i64 x a)) 1)) 1) a)/\Nl (m (wadd .i64 (wcv .i64 (wshr .u64 (wcv .u64 (wadd .i64 x a)) 1)) 1) a) (m x a)) (((Option.some []:Option LL)=Option.some [])/\(r x (wcv .i64 (wshr .u64 (wcv .u64 (wadd .i64 x a)) 1)))/\Nl (m x (wcv .i64 (wshr .u64 (wcv .u64 (wadd .i64 x a)) 1))) (m x a)))) (ifB (ilt x (rlen rows)) (((0<=x)/\x<(rlen rows))/\∃t u,∃v w,∃y l,∃z A,∃E D,∃b c,∃d e,∃g i,∃j k,∃n o p,(rget rows x=[S t,I u,I v,I w,I y,SL 2 l,I z,I A,I E,I D,I b,I c,I d,I e,I g,I i,I j,I k,I n,I o,I p])/\Cl prog f sP ((SV.agg [S t,I u,I v,I w,I y,SL 2 l,I z,I A,I E,I D,I b,I c,I d,I e,I g,I i,I j,I k,I n,I o,I p])::((S s)::C)) (λF=>∃q,(F=[I q])/\Q [I x,B (ieq q 0)])) (Q [I x,B false]))):Ct prog 132 {} [SL 21 rows,S s,.clo f C] Q:=
 fN SgT SvT func132 h
def Zsz(h:Cl prog 190 sP [S s] (λd=>∃b,(d=[B b])/\Cl prog 190 sP [S t] (λc=>∃a,(c=[B a])/\ifB b (ifB a (Q [I 0]) (Q [I (-1)])) (ifB a (Q [I 1]) (ifB (slt s t) (Q [I (-1)]) (ifB (sgt s t) (Q [I 1]) (Q [I 0]))))))):Ct prog 134 {} [S s,S t] Q:=
 fN SgT SvT func134 h
def snan_nf(s:BA)(Q:QQ)(h:Q [B (sne s s)]):Ct prog 190 {} [S s] Q:=
 fN SgT SvT func190 h
def sapp1_nf{g a d k e m n o p q r nm u v w:Int}(h:Cl prog 134 sP [S s,S t] (λy=>∃x,(y=[I x])/\Q [I x])):Ct prog 133 {} [cmp21 s i b c j l g a d k e m n o p q r nm u v w,S t] Q:=
 fN SgT SvT func133 h
def smay_nf{rows:LL}{x y z:Int}(h:Cl prog 101 sP ([SV.agg [SL 21 rows,I i,I j]]) (λP=>∃a,(P=[B a])/\ifB (bnot a) (Q [I 1]) (Cl prog 102 sP ([SV.agg [I b,I c,I k,S s,I x,I y,I z]]) (λD=>∃C,(D=[I C])/\ifB (ine C 0) (Q [I C]) (Cl prog 136 sP ([SV.agg [SL 21 rows,I i,I j],S s]) (λE=>∃d,(E=[I d])/\ifB (ine b (wadd .i64 i 1)) (Q [I 1]) (ifB (ilt c j) (Q [I 5]) (ifB (bpick (ieq k 1) (ine d ((-1:Int))) false) (Q [I 7]) (ifB (bpick (ieq k 1) (ieq (rlen rows) 12) false) (Q [I 9]) (ifB (ieq k 1) (Q [I 0]) (ifB (ieq d ((-1:Int))) (Q [I 6]) (((0<=d)/\d<(rlen rows))/\∃G H,∃J K,∃L l,∃M N,∃O e,∃g q,∃t m,∃n o,∃p r,∃u v w,(rget rows d=[S G,I H,I J,I K,I L,SL 2 l,I M,I N,I O,I e,I g,I q,I t,I m,I n,I o,I p,I r,I u,I v,I w])/\Cl prog 187 sP ([SV.agg [S G,I H,I J,I K,I L,SL 2 l,I M,I N,I O,I e,I g,I q,I t,I m,I n,I o,I p,I r,I u,I v,I w],SV.agg [I b,I c,I k,S s,I x,I y,I z]]) (λF=>∃A,(F=[I A])/\Q [I A]))))))))))))):Ct prog 129 {} [st3 rows i j,ev7 b c k s x y z] Q:=
 fN SgT SvT func129 h
def sapply_nf{rows:LL}{x y z:Int}(h:Cl prog 129 sP ([SV.agg [SL 21 rows,I i,I j],SV.agg [I b,I c,I k,S s,I x,I y,I z]]) (λrs=>∃x1,(rs=[I x1])/\ifB (ine x1 0) (Q ([SV.agg [SL 21 rows,I i,I j],I x1])) (Cl prog 130 sO [SL 21 rows] (λa1=>∃l,(a1=[SL 21 l])/\ifB (ieq k 1) (Cl prog 131 sP [S s,I x,I c] (λa0=>∃s1 d,∃x3 x4,∃x5 l1,∃x6 x7,∃x8 x9,∃t m,∃n o,∃p r,∃u v,∃w A,∃C g,(a0=[SV.agg [S s1,I d,I x3,I x4,I x5,SL 2 l1,I x6,I x7,I x8,I x9,I t,I m,I n,I o,I p,I r,I u,I v,I w,I A,I C],I g])/\ifB (ine g 0) (Q ([SV.agg [SL 21 rows,I i,I j],I g])) (Cl prog 132 sP ([SL 21 l,S s,SV.clo 133 []]) (λD=>∃e a,(D=[I e,B a])/\Cl prog 135 (Sig.mk [Md.own] [Md.own]) ([SL 21 l,I e,SL 21 ([[S s1,I d,I x3,I x4,I x5,SV.slice 2 l1 0,I x6,I x7,I x8,I x9,I t,I m,I n,I o,I p,I r,I u,I v,I w,I A,I C]])]) (λa2=>∃E,(a2=[SL 21 E])/\Q ([SV.agg [SL 21 E,I b,I c],I 0])))))) (Cl prog 136 sP ([SV.agg [SL 21 rows,I i,I j],S s]) (λa0=>∃d,(a0=[I d])/\((0<=d)/\d<(rlen l))/\((0<=d)/\d<(rlen l))/\∃s1 x3,∃x4 x5,∃x6 l1,∃x7 x8,∃x9 t,∃m n,∃o p,∃r u,∃v w,∃A C g,(rget l d=[S s1,I x3,I x4,I x5,I x6,SL 2 l1,I x7,I x8,I x9,I t,I m,I n,I o,I p,I r,I u,I v,I w,I A,I C,I g])/\(Cl prog 137 sP ([SV.agg [S s1,I x3,I x4,I x5,I x6,SL 2 l1,I x7,I x8,I x9,I t,I m,I n,I o,I p,I r,I u,I v,I w,I A,I C,I g],SV.agg [I b,I c,I k,S s,I x,I y,I z]]) (λD=>∃s2 e,∃F G,∃H E,∃J K,∃L M,∃N O,∃P R,∃T U,∃V W,∃X Y,∃Z q,(D=[SV.agg [S s2,I e,I F,I G,I H,SL 2 E,I J,I K,I L,I M,I N,I O,I P,I R,I T,I U,I V,I W,I X,I Y,I Z],I q])/\ifB (ine q 0) (Q ([SV.agg [SL 21 rows,I i,I j],I q])) (((0<=d)/\d<(rlen l))/\((0<=d)/\d<(rlen l))/\Q ([SV.agg ([SL 21 (rset l d [S s2,I e,I F,I G,I H,SV.slice 2 E 0,I J,I K,I L,I M,I N,I O,I P,I R,I T,I U,I V,I W,I X,I Y,I Z]),I b,I c]),I 0]))))/\Cl prog 137 sP ([SV.agg [S s1,I x3,I x4,I x5,I x6,SL 2 l1,I x7,I x8,I x9,I t,I m,I n,I o,I p,I r,I u,I v,I w,I A,I C,I g],SV.agg [I b,I c,I k,S s,I x,I y,I z]]) (λD=>∃s2 e,∃F G,∃H E,∃J K,∃L M,∃N O,∃P R,∃T U,∃V W,∃X Y,∃Z q,(D=[SV.agg [S s2,I e,I F,I G,I H,SL 2 E,I J,I K,I L,I M,I N,I O,I P,I R,I T,I U,I V,I W,I X,I Y,I Z],I q])/\ifB (ine q 0) (Q ([SV.agg [SL 21 rows,I i,I j],I q])) (((0<=d)/\d<(rlen l))/\((0<=d)/\d<(rlen l))/\Q ([SV.agg ([SL 21 (rset l d [S s2,I e,I F,I G,I H,SV.slice 2 E 0,I J,I K,I L,I M,I N,I O,I P,I R,I T,I U,I V,I W,I X,I Y,I Z]),I b,I c]),I 0]))))))))):Ct prog 69 {} [st3 rows i j,ev7 b c k s x y z] Q:=
 fN SgT SvT func69 h

import Derived.Test.YtaenkbbfockfgaaGreatDoorK08
set_option linter.all false
set_option maxRecDepth 100000
variable{b c e i j k z:Int}{l r:Go.Px.LL}{Q:Go.Px.QQ}{s t:BA}
namespace Go.Proofs.YtaenkbbfockfgaaGreatDoor
namespace Cmp
open Go Go.Px Go.Proofs Tryz
def hadd_nf{e g n j l o p q r d:Int}(h:Cl prog 265 sP ([SV.agg [I e,I g,I n,I j,I l,I o,I p,I q,I r,I d]]) (λG=>∃b,(G=[B b])/\ifB (bpick (bnot b) true (ilt i 0)) (Q ([SV.agg [I e,I g,I n,I j,I l,I o,I p,I q,I r,I d]])) (Cl prog 266 sP [I i] (λv=>∃x,(v=[I x])/\∃a:Int->Int->Int->Int->Int->Int->Int->Int->Int->Int->Prop,∃m:Int->Int->Int->Int->Int->Int->Int->Int->Int->Int->Nat,(((0<=x)/\x<9)/\((x=0)->Cl prog 264 sP [I e,I 1] (λs=>∃c,(s=[I c])/\((0<=x)/\x<9)/\((x=0)->(Sm (some ([zT])))/\a c g n j l o p q r d)/\((x=1)->(Sm (some ([zT])))/\a e c n j l o p q r d)/\((x=2)->(Sm (some ([zT])))/\a e g c j l o p q r d)/\((x=3)->(Sm (some ([zT])))/\a e g n c l o p q r d)/\((x=4)->(Sm (some ([zT])))/\a e g n j c o p q r d)/\((x=5)->(Sm (some ([zT])))/\a e g n j l c p q r d)/\((x=6)->(Sm (some ([zT])))/\a e g n j l o c q r d)/\((x=7)->(Sm (some ([zT])))/\a e g n j l o p c r d)/\((x=8)->(Sm (some ([zT])))/\a e g n j l o p q c d)/\True))/\((x=1)->Cl prog 264 sP [I g,I 1] (λs=>∃c,(s=[I c])/\((0<=x)/\x<9)/\((x=0)->(Sm (some ([zT])))/\a c g n j l o p q r d)/\((x=1)->(Sm (some ([zT])))/\a e c n j l o p q r d)/\((x=2)->(Sm (some ([zT])))/\a e g c j l o p q r d)/\((x=3)->(Sm (some ([zT])))/\a e g n c l o p q r d)/\((x=4)->(Sm (some ([zT])))/\a e g n j c o p q r d)/\((x=5)->(Sm (some ([zT])))/\a e g n j l c p q r d)/\((x=6)->(Sm (some ([zT])))/\a e g n j l o c q r d)/\((x=7)->(Sm (some ([zT])))/\a e g n j l o p c r d)/\((x=8)->(Sm (some ([zT])))/\a e g n j l o p q c d)/\True))/\((x=2)->Cl prog 264 sP [I n,I 1] (λs=>∃c,(s=[I c])/\((0<=x)/\x<9)/\((x=0)->(Sm (some ([zT])))/\a c g n j l o p q r d)/\((x=1)->(Sm (some ([zT])))/\a e c n j l o p q r d)/\((x=2)->(Sm (some ([zT])))/\a e g c j l o p q r d)/\((x=3)->(Sm (some ([zT])))/\a e g n c l o p q r d)/\((x=4)->(Sm (some ([zT])))/\a e g n j c o p q r d)/\((x=5)->(Sm (some ([zT])))/\a e g n j l c p q r d)/\((x=6)->(Sm (some ([zT])))/\a e g n j l o c q r d)/\((x=7)->(Sm (some ([zT])))/\a e g n j l o p c r d)/\((x=8)->(Sm (some ([zT])))/\a e g n j l o p q c d)/\True))/\((x=3)->Cl prog 264 sP [I j,I 1] (λs=>∃c,(s=[I c])/\((0<=x)/\x<9)/\((x=0)->(Sm (some ([zT])))/\a c g n j l o p q r d)/\((x=1)->(Sm (some ([zT])))/\a e c n j l o p q r d)/\((x=2)->(Sm (some ([zT])))/\a e g c j l o p q r d)/\((x=3)->(Sm (some ([zT])))/\a e g n c l o p q r d)/\((x=4)->(Sm (some ([zT])))/\a e g n j c o p q r d)/\((x=5)->(Sm (some ([zT])))/\a e g n j l c p q r d)/\((x=6)->(Sm (some ([zT])))/\a e g n j l o c q r d)/\((x=7)->(Sm (some ([zT])))/\a e g n j l o p c r d)/\((x=8)->(Sm (some ([zT])))/\a e g n j l o p q c d)/\True))/\((x=4)->Cl prog 264 sP [I l,I 1] (λs=>∃c,(s=[I c])/\((0<=x)/\x<9)/\((x=0)->(Sm (some ([zT])))/\a c g n j l o p q r d)/\((x=1)->(Sm (some ([zT])))/\a e c n j l o p q r d)/\((x=2)->(Sm (some ([zT])))/\a e g c j l o p q r d)/\((x=3)->(Sm (some ([zT])))/\a e g n c l o p q r d)/\((x=4)->(Sm (some ([zT])))/\a e g n j c o p q r d)/\((x=5)->(Sm (some ([zT])))/\a e g n j l c p q r d)/\((x=6)->(Sm (some ([zT])))/\a e g n j l o c q r d)/\((x=7)->(Sm (some ([zT])))/\a e g n j l o p c r d)/\((x=8)->(Sm (some ([zT])))/\a e g n j l o p q c d)/\True))/\((x=5)->Cl prog 264 sP [I o,I 1] (λs=>∃c,(s=[I c])/\((0<=x)/\x<9)/\((x=0)->(Sm (some ([zT])))/\a c g n j l o p q r d)/\((x=1)->(Sm (some ([zT])))/\a e c n j l o p q r d)/\((x=2)->(Sm (some ([zT])))/\a e g c j l o p q r d)/\((x=3)->(Sm (some ([zT])))/\a e g n c l o p q r d)/\((x=4)->(Sm (some ([zT])))/\a e g n j c o p q r d)/\((x=5)->(Sm (some ([zT])))/\a e g n j l c p q r d)/\((x=6)->(Sm (some ([zT])))/\a e g n j l o c q r d)/\((x=7)->(Sm (some ([zT])))/\a e g n j l o p c r d)/\((x=8)->(Sm (some ([zT])))/\a e g n j l o p q c d)/\True))/\((x=6)->Cl prog 264 sP [I p,I 1] (λs=>∃c,(s=[I c])/\((0<=x)/\x<9)/\((x=0)->(Sm (some ([zT])))/\a c g n j l o p q r d)/\((x=1)->(Sm (some ([zT])))/\a e c n j l o p q r d)/\((x=2)->(Sm (some ([zT])))/\a e g c j l o p q r d)/\((x=3)->(Sm (some ([zT])))/\a e g n c l o p q r d)/\((x=4)->(Sm (some ([zT])))/\a e g n j c o p q r d)/\((x=5)->(Sm (some ([zT])))/\a e g n j l c p q r d)/\((x=6)->(Sm (some ([zT])))/\a e g n j l o c q r d)/\((x=7)->(Sm (some ([zT])))/\a e g n j l o p c r d)/\((x=8)->(Sm (some ([zT])))/\a e g n j l o p q c d)/\True))/\((x=7)->Cl prog 264 sP [I q,I 1] (λs=>∃c,(s=[I c])/\((0<=x)/\x<9)/\((x=0)->(Sm (some ([zT])))/\a c g n j l o p q r d)/\((x=1)->(Sm (some ([zT])))/\a e c n j l o p q r d)/\((x=2)->(Sm (some ([zT])))/\a e g c j l o p q r d)/\((x=3)->(Sm (some ([zT])))/\a e g n c l o p q r d)/\((x=4)->(Sm (some ([zT])))/\a e g n j c o p q r d)/\((x=5)->(Sm (some ([zT])))/\a e g n j l c p q r d)/\((x=6)->(Sm (some ([zT])))/\a e g n j l o c q r d)/\((x=7)->(Sm (some ([zT])))/\a e g n j l o p c r d)/\((x=8)->(Sm (some ([zT])))/\a e g n j l o p q c d)/\True))/\((x=8)->Cl prog 264 sP [I r,I 1] (λs=>∃c,(s=[I c])/\((0<=x)/\x<9)/\((x=0)->(Sm (some ([zT])))/\a c g n j l o p q r d)/\((x=1)->(Sm (some ([zT])))/\a e c n j l o p q r d)/\((x=2)->(Sm (some ([zT])))/\a e g c j l o p q r d)/\((x=3)->(Sm (some ([zT])))/\a e g n c l o p q r d)/\((x=4)->(Sm (some ([zT])))/\a e g n j c o p q r d)/\((x=5)->(Sm (some ([zT])))/\a e g n j l c p q r d)/\((x=6)->(Sm (some ([zT])))/\a e g n j l o c q r d)/\((x=7)->(Sm (some ([zT])))/\a e g n j l o p c r d)/\((x=8)->(Sm (some ([zT])))/\a e g n j l o p q c d)/\True))/\True)/\∀c w,∀y z,∀A C,∀D E,∀F t,(a c w y z A C D E F t)->Cl prog 264 sP [I t,I i] (λs=>∃u,(s=[I u])/\Q ([SV.agg [I c,I w,I y,I z,I A,I C,I D,I E,I F,I u]])))))):Ct prog 187 {} [his10 e g n j l o p q r d,I i] Q:=
 fO SgT SvT (λk=>bif Nat.beq k 1000004 then some {boxes:=[(256,[.int .i64,.int .i64,.int .i64,.int .i64,.int .i64,.int .i64,.int .i64,.int .i64,.int .i64,.int .i64])],fixed:=[512]}else none) func187 h
def Zzb{e g i j l n o p q r:Int}(h:∃s:Int->Prop,∃m:Int->Nat,(s 0)/\∀x,(s x)->ifB (ilt x 9) (∃c:Bool->Prop,∃t:Bool->Nat,(((0<=x)/\x<9)/\((x=0)->((0<=x)/\x<9)/\((x=0)->Cl prog 311 sP [I e] (λd=>∃a,(d=[I a])/\(Sm (some ([[I e,I g,I i,I j,I l,I n,I o,I p,I q,I r]])))/\c (ine e a)))/\((x=1)->Cl prog 311 sP [I g] (λd=>∃a,(d=[I a])/\(Sm (some ([[I e,I g,I i,I j,I l,I n,I o,I p,I q,I r]])))/\c (ine e a)))/\((x=2)->Cl prog 311 sP [I i] (λd=>∃a,(d=[I a])/\(Sm (some ([[I e,I g,I i,I j,I l,I n,I o,I p,I q,I r]])))/\c (ine e a)))/\((x=3)->Cl prog 311 sP [I j] (λd=>∃a,(d=[I a])/\(Sm (some ([[I e,I g,I i,I j,I l,I n,I o,I p,I q,I r]])))/\c (ine e a)))/\((x=4)->Cl prog 311 sP [I l] (λd=>∃a,(d=[I a])/\(Sm (some ([[I e,I g,I i,I j,I l,I n,I o,I p,I q,I r]])))/\c (ine e a)))/\((x=5)->Cl prog 311 sP [I n] (λd=>∃a,(d=[I a])/\(Sm (some ([[I e,I g,I i,I j,I l,I n,I o,I p,I q,I r]])))/\c (ine e a)))/\((x=6)->Cl prog 311 sP [I o] (λd=>∃a,(d=[I a])/\(Sm (some ([[I e,I g,I i,I j,I l,I n,I o,I p,I q,I r]])))/\c (ine e a)))/\((x=7)->Cl prog 311 sP [I p] (λd=>∃a,(d=[I a])/\(Sm (some ([[I e,I g,I i,I j,I l,I n,I o,I p,I q,I r]])))/\c (ine e a)))/\((x=8)->Cl prog 311 sP [I q] (λd=>∃a,(d=[I a])/\(Sm (some ([[I e,I g,I i,I j,I l,I n,I o,I p,I q,I r]])))/\c (ine e a)))/\True)/\((x=1)->((0<=x)/\x<9)/\((x=0)->Cl prog 311 sP [I e] (λd=>∃a,(d=[I a])/\(Sm (some ([[I e,I g,I i,I j,I l,I n,I o,I p,I q,I r]])))/\c (ine g a)))/\((x=1)->Cl prog 311 sP [I g] (λd=>∃a,(d=[I a])/\(Sm (some ([[I e,I g,I i,I j,I l,I n,I o,I p,I q,I r]])))/\c (ine g a)))/\((x=2)->Cl prog 311 sP [I i] (λd=>∃a,(d=[I a])/\(Sm (some ([[I e,I g,I i,I j,I l,I n,I o,I p,I q,I r]])))/\c (ine g a)))/\((x=3)->Cl prog 311 sP [I j] (λd=>∃a,(d=[I a])/\(Sm (some ([[I e,I g,I i,I j,I l,I n,I o,I p,I q,I r]])))/\c (ine g a)))/\((x=4)->Cl prog 311 sP [I l] (λd=>∃a,(d=[I a])/\(Sm (some ([[I e,I g,I i,I j,I l,I n,I o,I p,I q,I r]])))/\c (ine g a)))/\((x=5)->Cl prog 311 sP [I n] (λd=>∃a,(d=[I a])/\(Sm (some ([[I e,I g,I i,I j,I l,I n,I o,I p,I q,I r]])))/\c (ine g a)))/\((x=6)->Cl prog 311 sP [I o] (λd=>∃a,(d=[I a])/\(Sm (some ([[I e,I g,I i,I j,I l,I n,I o,I p,I q,I r]])))/\c (ine g a)))/\((x=7)->Cl prog 311 sP [I p] (λd=>∃a,(d=[I a])/\(Sm (some ([[I e,I g,I i,I j,I l,I n,I o,I p,I q,I r]])))/\c (ine g a)))/\((x=8)->Cl prog 311 sP [I q] (λd=>∃a,(d=[I a])/\(Sm (some ([[I e,I g,I i,I j,I l,I n,I o,I p,I q,I r]])))/\c (ine g a)))/\True)/\((x=2)->((0<=x)/\x<9)/\((x=0)->Cl prog 311 sP [I e] (λd=>∃a,(d=[I a])/\(Sm (some ([[I e,I g,I i,I j,I l,I n,I o,I p,I q,I r]])))/\c (ine i a)))/\((x=1)->Cl prog 311 sP [I g] (λd=>∃a,(d=[I a])/\(Sm (some ([[I e,I g,I i,I j,I l,I n,I o,I p,I q,I r]])))/\c (ine i a)))/\((x=2)->Cl prog 311 sP [I i] (λd=>∃a,(d=[I a])/\(Sm (some ([[I e,I g,I i,I j,I l,I n,I o,I p,I q,I r]])))/\c (ine i a)))/\((x=3)->Cl prog 311 sP [I j] (λd=>∃a,(d=[I a])/\(Sm (some ([[I e,I g,I i,I j,I l,I n,I o,I p,I q,I r]])))/\c (ine i a)))/\((x=4)->Cl prog 311 sP [I l] (λd=>∃a,(d=[I a])/\(Sm (some ([[I e,I g,I i,I j,I l,I n,I o,I p,I q,I r]])))/\c (ine i a)))/\((x=5)->Cl prog 311 sP [I n] (λd=>∃a,(d=[I a])/\(Sm (some ([[I e,I g,I i,I j,I l,I n,I o,I p,I q,I r]])))/\c (ine i a)))/\((x=6)->Cl prog 311 sP [I o] (λd=>∃a,(d=[I a])/\(Sm (some ([[I e,I g,I i,I j,I l,I n,I o,I p,I q,I r]])))/\c (ine i a)))/\((x=7)->Cl prog 311 sP [I p] (λd=>∃a,(d=[I a])/\(Sm (some ([[I e,I g,I i,I j,I l,I n,I o,I p,I q,I r]])))/\c (ine i a)))/\((x=8)->Cl prog 311 sP [I q] (λd=>∃a,(d=[I a])/\(Sm (some ([[I e,I g,I i,I j,I l,I n,I o,I p,I q,I r]])))/\c (ine i a)))/\True)/\((x=3)->((0<=x)/\x<9)/\((x=0)->Cl prog 311 sP [I e] (λd=>∃a,(d=[I a])/\(Sm (some ([[I e,I g,I i,I j,I l,I n,I o,I p,I q,I r]])))/\c (ine j a)))/\((x=1)->Cl prog 311 sP [I g] (λd=>∃a,(d=[I a])/\(Sm (some ([[I e,I g,I i,I j,I l,I n,I o,I p,I q,I r]])))/\c (ine j a)))/\((x=2)->Cl prog 311 sP [I i] (λd=>∃a,(d=[I a])/\(Sm (some ([[I e,I g,I i,I j,I l,I n,I o,I p,I q,I r]])))/\c (ine j a)))/\((x=3)->Cl prog 311 sP [I j] (λd=>∃a,(d=[I a])/\(Sm (some ([[I e,I g,I i,I j,I l,I n,I o,I p,I q,I r]])))/\c (ine j a)))/\((x=4)->Cl prog 311 sP [I l] (λd=>∃a,(d=[I a])/\(Sm (some ([[I e,I g,I i,I j,I l,I n,I o,I p,I q,I r]])))/\c (ine j a)))/\((x=5)->Cl prog 311 sP [I n] (λd=>∃a,(d=[I a])/\(Sm (some ([[I e,I g,I i,I j,I l,I n,I o,I p,I q,I r]])))/\c (ine j a)))/\((x=6)->Cl prog 311 sP [I o] (λd=>∃a,(d=[I a])/\(Sm (some ([[I e,I g,I i,I j,I l,I n,I o,I p,I q,I r]])))/\c (ine j a)))/\((x=7)->Cl prog 311 sP [I p] (λd=>∃a,(d=[I a])/\(Sm (some ([[I e,I g,I i,I j,I l,I n,I o,I p,I q,I r]])))/\c (ine j a)))/\((x=8)->Cl prog 311 sP [I q] (λd=>∃a,(d=[I a])/\(Sm (some ([[I e,I g,I i,I j,I l,I n,I o,I p,I q,I r]])))/\c (ine j a)))/\True)/\((x=4)->((0<=x)/\x<9)/\((x=0)->Cl prog 311 sP [I e] (λd=>∃a,(d=[I a])/\(Sm (some ([[I e,I g,I i,I j,I l,I n,I o,I p,I q,I r]])))/\c (ine l a)))/\((x=1)->Cl prog 311 sP [I g] (λd=>∃a,(d=[I a])/\(Sm (some ([[I e,I g,I i,I j,I l,I n,I o,I p,I q,I r]])))/\c (ine l a)))/\((x=2)->Cl prog 311 sP [I i] (λd=>∃a,(d=[I a])/\(Sm (some ([[I e,I g,I i,I j,I l,I n,I o,I p,I q,I r]])))/\c (ine l a)))/\((x=3)->Cl prog 311 sP [I j] (λd=>∃a,(d=[I a])/\(Sm (some ([[I e,I g,I i,I j,I l,I n,I o,I p,I q,I r]])))/\c (ine l a)))/\((x=4)->Cl prog 311 sP [I l] (λd=>∃a,(d=[I a])/\(Sm (some ([[I e,I g,I i,I j,I l,I n,I o,I p,I q,I r]])))/\c (ine l a)))/\((x=5)->Cl prog 311 sP [I n] (λd=>∃a,(d=[I a])/\(Sm (some ([[I e,I g,I i,I j,I l,I n,I o,I p,I q,I r]])))/\c (ine l a)))/\((x=6)->Cl prog 311 sP [I o] (λd=>∃a,(d=[I a])/\(Sm (some ([[I e,I g,I i,I j,I l,I n,I o,I p,I q,I r]])))/\c (ine l a)))/\((x=7)->Cl prog 311 sP [I p] (λd=>∃a,(d=[I a])/\(Sm (some ([[I e,I g,I i,I j,I l,I n,I o,I p,I q,I r]])))/\c (ine l a)))/\((x=8)->Cl prog 311 sP [I q] (λd=>∃a,(d=[I a])/\(Sm (some ([[I e,I g,I i,I j,I l,I n,I o,I p,I q,I r]])))/\c (ine l a)))/\True)/\((x=5)->((0<=x)/\x<9)/\((x=0)->Cl prog 311 sP [I e] (λd=>∃a,(d=[I a])/\(Sm (some ([[I e,I g,I i,I j,I l,I n,I o,I p,I q,I r]])))/\c (ine n a)))/\((x=1)->Cl prog 311 sP [I g] (λd=>∃a,(d=[I a])/\(Sm (some ([[I e,I g,I i,I j,I l,I n,I o,I p,I q,I r]])))/\c (ine n a)))/\((x=2)->Cl prog 311 sP [I i] (λd=>∃a,(d=[I a])/\(Sm (some ([[I e,I g,I i,I j,I l,I n,I o,I p,I q,I r]])))/\c (ine n a)))/\((x=3)->Cl prog 311 sP [I j] (λd=>∃a,(d=[I a])/\(Sm (some ([[I e,I g,I i,I j,I l,I n,I o,I p,I q,I r]])))/\c (ine n a)))/\((x=4)->Cl prog 311 sP [I l] (λd=>∃a,(d=[I a])/\(Sm (some ([[I e,I g,I i,I j,I l,I n,I o,I p,I q,I r]])))/\c (ine n a)))/\((x=5)->Cl prog 311 sP [I n] (λd=>∃a,(d=[I a])/\(Sm (some ([[I e,I g,I i,I j,I l,I n,I o,I p,I q,I r]])))/\c (ine n a)))/\((x=6)->Cl prog 311 sP [I o] (λd=>∃a,(d=[I a])/\(Sm (some ([[I e,I g,I i,I j,I l,I n,I o,I p,I q,I r]])))/\c (ine n a)))/\((x=7)->Cl prog 311 sP [I p] (λd=>∃a,(d=[I a])/\(Sm (some ([[I e,I g,I i,I j,I l,I n,I o,I p,I q,I r]])))/\c (ine n a)))/\((x=8)->Cl prog 311 sP [I q] (λd=>∃a,(d=[I a])/\(Sm (some ([[I e,I g,I i,I j,I l,I n,I o,I p,I q,I r]])))/\c (ine n a)))/\True)/\((x=6)->((0<=x)/\x<9)/\((x=0)->Cl prog 311 sP [I e] (λd=>∃a,(d=[I a])/\(Sm (some ([[I e,I g,I i,I j,I l,I n,I o,I p,I q,I r]])))/\c (ine o a)))/\((x=1)->Cl prog 311 sP [I g] (λd=>∃a,(d=[I a])/\(Sm (some ([[I e,I g,I i,I j,I l,I n,I o,I p,I q,I r]])))/\c (ine o a)))/\((x=2)->Cl prog 311 sP [I i] (λd=>∃a,(d=[I a])/\(Sm (some ([[I e,I g,I i,I j,I l,I n,I o,I p,I q,I r]])))/\c (ine o a)))/\((x=3)->Cl prog 311 sP [I j] (λd=>∃a,(d=[I a])/\(Sm (some ([[I e,I g,I i,I j,I l,I n,I o,I p,I q,I r]])))/\c (ine o a)))/\((x=4)->Cl prog 311 sP [I l] (λd=>∃a,(d=[I a])/\(Sm (some ([[I e,I g,I i,I j,I l,I n,I o,I p,I q,I r]])))/\c (ine o a)))/\((x=5)->Cl prog 311 sP [I n] (λd=>∃a,(d=[I a])/\(Sm (some ([[I e,I g,I i,I j,I l,I n,I o,I p,I q,I r]])))/\c (ine o a)))/\((x=6)->Cl prog 311 sP [I o] (λd=>∃a,(d=[I a])/\(Sm (some ([[I e,I g,I i,I j,I l,I n,I o,I p,I q,I r]])))/\c (ine o a)))/\((x=7)->Cl prog 311 sP [I p] (λd=>∃a,(d=[I a])/\(Sm (some ([[I e,I g,I i,I j,I l,I n,I o,I p,I q,I r]])))/\c (ine o a)))/\((x=8)->Cl prog 311 sP [I q] (λd=>∃a,(d=[I a])/\(Sm (some ([[I e,I g,I i,I j,I l,I n,I o,I p,I q,I r]])))/\c (ine o a)))/\True)/\((x=7)->((0<=x)/\x<9)/\((x=0)->Cl prog 311 sP [I e] (λd=>∃a,(d=[I a])/\(Sm (some ([[I e,I g,I i,I j,I l,I n,I o,I p,I q,I r]])))/\c (ine p a)))/\((x=1)->Cl prog 311 sP [I g] (λd=>∃a,(d=[I a])/\(Sm (some ([[I e,I g,I i,I j,I l,I n,I o,I p,I q,I r]])))/\c (ine p a)))/\((x=2)->Cl prog 311 sP [I i] (λd=>∃a,(d=[I a])/\(Sm (some ([[I e,I g,I i,I j,I l,I n,I o,I p,I q,I r]])))/\c (ine p a)))/\((x=3)->Cl prog 311 sP [I j] (λd=>∃a,(d=[I a])/\(Sm (some ([[I e,I g,I i,I j,I l,I n,I o,I p,I q,I r]])))/\c (ine p a)))/\((x=4)->Cl prog 311 sP [I l] (λd=>∃a,(d=[I a])/\(Sm (some ([[I e,I g,I i,I j,I l,I n,I o,I p,I q,I r]])))/\c (ine p a)))/\((x=5)->Cl prog 311 sP [I n] (λd=>∃a,(d=[I a])/\(Sm (some ([[I e,I g,I i,I j,I l,I n,I o,I p,I q,I r]])))/\c (ine p a)))/\((x=6)->Cl prog 311 sP [I o] (λd=>∃a,(d=[I a])/\(Sm (some ([[I e,I g,I i,I j,I l,I n,I o,I p,I q,I r]])))/\c (ine p a)))/\((x=7)->Cl prog 311 sP [I p] (λd=>∃a,(d=[I a])/\(Sm (some ([[I e,I g,I i,I j,I l,I n,I o,I p,I q,I r]])))/\c (ine p a)))/\((x=8)->Cl prog 311 sP [I q] (λd=>∃a,(d=[I a])/\(Sm (some ([[I e,I g,I i,I j,I l,I n,I o,I p,I q,I r]])))/\c (ine p a)))/\True)/\((x=8)->((0<=x)/\x<9)/\((x=0)->Cl prog 311 sP [I e] (λd=>∃a,(d=[I a])/\(Sm (some ([[I e,I g,I i,I j,I l,I n,I o,I p,I q,I r]])))/\c (ine q a)))/\((x=1)->Cl prog 311 sP [I g] (λd=>∃a,(d=[I a])/\(Sm (some ([[I e,I g,I i,I j,I l,I n,I o,I p,I q,I r]])))/\c (ine q a)))/\((x=2)->Cl prog 311 sP [I i] (λd=>∃a,(d=[I a])/\(Sm (some ([[I e,I g,I i,I j,I l,I n,I o,I p,I q,I r]])))/\c (ine q a)))/\((x=3)->Cl prog 311 sP [I j] (λd=>∃a,(d=[I a])/\(Sm (some ([[I e,I g,I i,I j,I l,I n,I o,I p,I q,I r]])))/\c (ine q a)))/\((x=4)->Cl prog 311 sP [I l] (λd=>∃a,(d=[I a])/\(Sm (some ([[I e,I g,I i,I j,I l,I n,I o,I p,I q,I r]])))/\c (ine q a)))/\((x=5)->Cl prog 311 sP [I n] (λd=>∃a,(d=[I a])/\(Sm (some ([[I e,I g,I i,I j,I l,I n,I o,I p,I q,I r]])))/\c (ine q a)))/\((x=6)->Cl prog 311 sP [I o] (λd=>∃a,(d=[I a])/\(Sm (some ([[I e,I g,I i,I j,I l,I n,I o,I p,I q,I r]])))/\c (ine q a)))/\((x=7)->Cl prog 311 sP [I p] (λd=>∃a,(d=[I a])/\(Sm (some ([[I e,I g,I i,I j,I l,I n,I o,I p,I q,I r]])))/\c (ine q a)))/\((x=8)->Cl prog 311 sP [I q] (λd=>∃a,(d=[I a])/\(Sm (some ([[I e,I g,I i,I j,I l,I n,I o,I p,I q,I r]])))/\c (ine q a)))/\True)/\True)/\∀b,(c b)->ifB b (Q [B false]) ((Sm (some ([[I e,I g,I i,I j,I l,I n,I o,I p,I q,I r]])))/\(s (wadd .i64 x 1))/\Nl (m (wadd .i64 x 1)) (m x))) (Cl prog 311 sP [I r] (λd=>∃a,(d=[I a])/\Q [B (ieq r a)]))):Ct prog 308 {} [his10 e g i j l n o p q r] Q:=
 fO SgT SvT (λk=>bif Nat.beq k 4 then some {slots:=[(3,false,[.int .i64])],fixed:=[128]}else bif Nat.beq k 1000004 then some {slots:=[(17,false,[.bool])],fixed:=[128]}else none) func308 h
def pright_nf{g A D n o p q r H t d e E F G:Int}(h:Cl prog 166 sP [S s] (λK=>∃b,(K=[B b])/\ifB (bnot b) (Q [B false]) (∃v:Int->Prop,∃m:Int->Nat,(v 0)/\∀x,(v x)->ifB (ilt x 3) (((0<=x)/\x<3)/\((x=0)->Cl prog 319 sP [I E] (λa=>∃w,(a=[I w])/\ifB (ine E w) (Q [B false]) ((Sm (some ([[S s,I z,I i,I j,I k,SL 2 l,I g,I A,I D,I n,I o,I p,I q,I r,I H,I t,I d,I e,I E,I F,I G]])))/\(v (wadd .i64 x 1))/\Nl (m (wadd .i64 x 1)) (m x))))/\((x=1)->Cl prog 319 sP [I F] (λa=>∃w,(a=[I w])/\ifB (ine F w) (Q [B false]) ((Sm (some ([[S s,I z,I i,I j,I k,SL 2 l,I g,I A,I D,I n,I o,I p,I q,I r,I H,I t,I d,I e,I E,I F,I G]])))/\(v (wadd .i64 x 1))/\Nl (m (wadd .i64 x 1)) (m x))))/\((x=2)->Cl prog 319 sP [I G] (λa=>∃w,(a=[I w])/\ifB (ine G w) (Q [B false]) ((Sm (some ([[S s,I z,I i,I j,I k,SL 2 l,I g,I A,I D,I n,I o,I p,I q,I r,I H,I t,I d,I e,I E,I F,I G]])))/\(v (wadd .i64 x 1))/\Nl (m (wadd .i64 x 1)) (m x))))/\True) (ifB (ieq z 1) (ifB (bpick (ige i 0) (ile i 2) false) (Cl prog 320 sP ([SV.agg [I j,I k,SL 2 l]]) (λa=>∃c,(a=[B c])/\ifB (bpick true c false) (Cl prog 265 sP ([SV.agg [I g,I A,I D,I n,I o,I p,I q,I r,I H,I t]]) (λu=>∃y,(u=[B y])/\Q [B (bpick (bpick true y false) (band (ieq d 0) (band (ieq e 0) true)) false)])) (Q [B (bpick false (band (ieq d 0) (band (ieq e 0) true)) false)]))) (Q [B (bpick false (band (ieq d 0) (band (ieq e 0) true)) false)])) (ifB (ieq z 2) (ifB (ieq i 0) (Cl prog 321 sP ([SV.agg [I j,I k,SL 2 l]]) (λa=>∃c,(a=[B c])/\ifB (bpick (bpick true c false) (band (band (ieq g 0) (band (ieq A 0) (band (ieq D 0) (band (ieq n 0) (band (ieq o 0) (band (ieq p 0) (band (ieq q 0) (band (ieq r 0) (band (ieq H 0) true))))))))) (band (ieq t 0) true)) false) (Cl prog 260 sP ([SV.agg [I d,I e]]) (λu=>∃y,(u=[B y])/\Q [B (bpick true y false)])) (Q [B false]))) (ifB (bpick false (band (band (ieq g 0) (band (ieq A 0) (band (ieq D 0) (band (ieq n 0) (band (ieq o 0) (band (ieq p 0) (band (ieq q 0) (band (ieq r 0) (band (ieq H 0) true))))))))) (band (ieq t 0) true)) false) (Cl prog 260 sP ([SV.agg [I d,I e]]) (λa=>∃c,(a=[B c])/\Q [B (bpick true c false)])) (Q [B false]))) (ifB (ieq z 3) (ifB (bpick (ige i 0) (ile i 2147483647) false) (Cl prog 321 sP ([SV.agg [I j,I k,SL 2 l]]) (λa=>∃c,(a=[B c])/\ifB (bpick true c false) (Cl prog 265 sP ([SV.agg [I g,I A,I D,I n,I o,I p,I q,I r,I H,I t]]) (λu=>∃y,(u=[B y])/\ifB (bpick true y false) (Cl prog 260 sP ([SV.agg [I d,I e]]) (λJ=>∃b3,(J=[B b3])/\Q [B (bpick true b3 false)])) (Q [B false]))) (Q [B false]))) (Q [B false])) (Q [B false]))))))):Ct prog 254 {} [cmp21 s z i j k l g A D n o p q r H t d e E F G] Q:=
 fO SgT SvT (λC=>bif Nat.beq C 12 then some {slots:=[(11,false,[.int .i64])],fixed:=[128]}else none) func254 h
def qright_nf(C:BA)(l c n o:Int)(p:LL)(q r s t u v w y z A d e g i j:Int)(Q:QQ)(h:ifB (bpick (ilt (slen C) 1) true (igt (slen C) 24)) (Q [B false]) (∃F:Int->Prop,∃m:Int->Nat,(F 0)/\∀x,(F x)->ifB (ilt x 3) (∃a:Bool->Prop,∃H:Bool->Nat,(((0<=x)/\x<3)/\((x=0)->ifB (ilt g 0) ((Sm (some ([[S C,I l,I c,I n,I o,SL 2 p,I q,I r,I s,I t,I u,I v,I w,I y,I z,I A,I d,I e,I g,I i,I j]])))/\a true) (((0<=x)/\x<3)/\((x=0)->(Sm (some ([[S C,I l,I c,I n,I o,SL 2 p,I q,I r,I s,I t,I u,I v,I w,I y,I z,I A,I d,I e,I g,I i,I j]])))/\a (bpick false true (igt g 1099511627776)))/\((x=1)->(Sm (some ([[S C,I l,I c,I n,I o,SL 2 p,I q,I r,I s,I t,I u,I v,I w,I y,I z,I A,I d,I e,I g,I i,I j]])))/\a (bpick false true (igt i 1099511627776)))/\((x=2)->(Sm (some ([[S C,I l,I c,I n,I o,SL 2 p,I q,I r,I s,I t,I u,I v,I w,I y,I z,I A,I d,I e,I g,I i,I j]])))/\a (bpick false true (igt j 1099511627776)))/\True))/\((x=1)->ifB (ilt i 0) ((Sm (some ([[S C,I l,I c,I n,I o,SL 2 p,I q,I r,I s,I t,I u,I v,I w,I y,I z,I A,I d,I e,I g,I i,I j]])))/\a true) (((0<=x)/\x<3)/\((x=0)->(Sm (some ([[S C,I l,I c,I n,I o,SL 2 p,I q,I r,I s,I t,I u,I v,I w,I y,I z,I A,I d,I e,I g,I i,I j]])))/\a (bpick false true (igt g 1099511627776)))/\((x=1)->(Sm (some ([[S C,I l,I c,I n,I o,SL 2 p,I q,I r,I s,I t,I u,I v,I w,I y,I z,I A,I d,I e,I g,I i,I j]])))/\a (bpick false true (igt i 1099511627776)))/\((x=2)->(Sm (some ([[S C,I l,I c,I n,I o,SL 2 p,I q,I r,I s,I t,I u,I v,I w,I y,I z,I A,I d,I e,I g,I i,I j]])))/\a (bpick false true (igt j 1099511627776)))/\True))/\((x=2)->ifB (ilt j 0) ((Sm (some ([[S C,I l,I c,I n,I o,SL 2 p,I q,I r,I s,I t,I u,I v,I w,I y,I z,I A,I d,I e,I g,I i,I j]])))/\a true) (((0<=x)/\x<3)/\((x=0)->(Sm (some ([[S C,I l,I c,I n,I o,SL 2 p,I q,I r,I s,I t,I u,I v,I w,I y,I z,I A,I d,I e,I g,I i,I j]])))/\a (bpick false true (igt g 1099511627776)))/\((x=1)->(Sm (some ([[S C,I l,I c,I n,I o,SL 2 p,I q,I r,I s,I t,I u,I v,I w,I y,I z,I A,I d,I e,I g,I i,I j]])))/\a (bpick false true (igt i 1099511627776)))/\((x=2)->(Sm (some ([[S C,I l,I c,I n,I o,SL 2 p,I q,I r,I s,I t,I u,I v,I w,I y,I z,I A,I d,I e,I g,I i,I j]])))/\a (bpick false true (igt j 1099511627776)))/\True))/\True)/\∀b,(a b)->ifB b (Q [B false]) ((Sm (some ([[S C,I l,I c,I n,I o,SL 2 p,I q,I r,I s,I t,I u,I v,I w,I y,I z,I A,I d,I e,I g,I i,I j]])))/\(F (wadd .i64 x 1))/\Nl (m (wadd .i64 x 1)) (m x))) (ifB (ieq l 1) (ifB (bpick (ige c 0) (ile c 2) false) (Cl prog 348 sP ([SV.agg [I n,I o,SL 2 p]]) (λD=>∃b,(D=[B b])/\ifB (bpick true b false) (Cl prog 308 sP ([SV.agg [I q,I r,I s,I t,I u,I v,I w,I y,I z,I A]]) (λE=>∃G,(E=[B G])/\Q [B (bpick (bpick true G false) (band (ieq d 0) (band (ieq e 0) true)) false)])) (Q [B (bpick false (band (ieq d 0) (band (ieq e 0) true)) false)]))) (Q [B (bpick false (band (ieq d 0) (band (ieq e 0) true)) false)])) (ifB (ieq l 2) (ifB (bpick (bpick (ieq c 0) (bpick (bpick (ieq n 0) (ieq o 0) false) (ieq (rlen p) 0) false) false) (band (band (ieq q 0) (band (ieq r 0) (band (ieq s 0) (band (ieq t 0) (band (ieq u 0) (band (ieq v 0) (band (ieq w 0) (band (ieq y 0) (band (ieq z 0) true))))))))) (band (ieq A 0) true)) false) (Cl prog 310 sP ([SV.agg [I d,I e]]) (λD=>∃b,(D=[B b])/\Q [B (bpick true b false)])) (Q [B false])) (ifB (bpick (bpick (bpick (ieq l 3) (ige c 0) false) (ile c 2147483647) false) (bpick (bpick (ieq n 0) (ieq o 0) false) (ieq (rlen p) 0) false) false) (Cl prog 308 sP ([SV.agg [I q,I r,I s,I t,I u,I v,I w,I y,I z,I A]]) (λD=>∃b,(D=[B b])/\ifB (bpick true b false) (Cl prog 310 sP ([SV.agg [I d,I e]]) (λE=>∃G,(E=[B G])/\Q [B (bpick true G false)])) (Q [B false]))) (Q [B false])))))):Ct prog 304 {} [cmp21 C l c n o p q r s t u v w y z A d e g i j] Q:=
 fO SgT SvT (λk=>bif Nat.beq k 17 then some {slots:=[(3,false,[.int .i64])],fixed:=[128]}else bif Nat.beq k 1000006 then some {slots:=[(32,false,[.bool])],fixed:=[128]}else none) func304 h
def pnew_nf(h:Cl prog 166 sP [S s] (λj=>∃b,(j=[B b])/\ifB (bnot b) (Q ([SV.agg (zC),I 3])) (ifB (bpick (ilt c 1) true (igt c 3)) (Q ([SV.agg (zC),I 4])) (ifB (bpick (ilt i 0) true (igt i 1099511627776)) (Q ([SV.agg (zC),I 5])) (ifB (ieq c 1) (Cl prog 178 sP [I 10,I 4,I i] (λd=>∃x e,∃l a,(d=[SV.agg [I x,I e,SL 2 l],I a])/\Q ([SV.agg [S s,I c,I 0,I x,I e,SL 2 l,I 0,I 0,I 0,I 0,I 0,I 0,I 0,I 0,I 0,I 0,I 0,I 0,I 0,I 0,I 0],I 0]))) (Cl prog 179 sP [I 10,I 10] (λd=>∃x e a,(d=[SV.agg [I x,I e],I a])/\Q ([SV.agg ([S s,I c,I 0,I 0,I 0,SL 2 [],I 0,I 0,I 0,I 0,I 0,I 0,I 0,I 0,I 0,I 0,I x,I e,I 0,I 0,I 0]),I 0])))))))):Ct prog 114 {} [S s,I c,I i] Q:=
 fN SgT SvT func114 h
def pmay_nf{o p q r a u v w A C D E F G H:Int}{x y n:Int}(h:Cl prog 254 sP ([SV.agg [S s,I i,I j,I k,I b,SL 2 l,I o,I p,I q,I r,I a,I u,I v,I w,I A,I C,I D,I E,I F,I G,I H]]) (λN=>∃m,(N=[B m])/\ifB (bnot m) (Q [I 1]) (Cl prog 176 sP ([SV.agg [I c,I e,I z,S t,I x,I y,I n]]) (λJ=>∃g,(J=[I g])/\ifB (ine g 0) (Q [I g]) (Cl prog 257 sP [I z] (λK=>∃d,(K=[I d])/\ifB (sne t s) (Q [I 6]) (ifB (ieq z 1) (Q [I 7]) (ifB (bpick (ine d 0) (ine d i) false) (Q [I 8]) (ifB (ieq z 2) (Cl prog 258 sP ([I i,SV.agg [I c,I e,I z,S t,I x,I y,I n]]) (λL=>∃M,(L=[B M])/\ifB (bpick true (bnot M) false) (Q [I 4]) (Q [I 0]))) (Q [I 0])))))))))):Ct prog 177 {} [cmp21 s i j k b l o p q r a u v w A C D E F G H,ev7 c e z t x y n] Q:=
 fN SgT SvT func177 h
def qmay_nf(e:BA)(d j l m:Int)(n:LL)(o p q r t u v w A C D E F G H:Int)(s a k:Int)(c:BA)(x y z:Int)(Q:QQ)(h:Cl prog 304 sP ([SV.agg [S e,I d,I j,I l,I m,SL 2 n,I o,I p,I q,I r,I t,I u,I v,I w,I A,I C,I D,I E,I F,I G,I H]]) (λL=>∃b,(L=[B b])/\ifB (bnot b) (Q [I 1]) (Cl prog 235 sP ([SV.agg [I s,I a,I k,S c,I x,I y,I z]]) (λJ=>∃g,(J=[I g])/\ifB (ine g 0) (Q [I g]) (ifB (sne c e) (Q [I 6]) (ifB (ieq k 1) (Q [I 7]) (Cl prog 306 sP [I k] (λK=>∃i,(K=[I i])/\ifB (bpick (igt i 0) (ine i d) false) (Q [I 8]) (ifB (ine k 2) (Q [I 0]) (ifB (bpick (ieq d 1) (bpick (bpick (bpick (ilt x 1) true (ilt y 1)) true (igt y 16)) true (igt z 0)) false) (Q [I 4]) (ifB (bpick (ieq d 2) (bpick (igt y x) true (igt z 0)) false) (Q [I 4]) (ifB (bpick (ieq d 3) (bpick (igt y 0) true (igt z 0)) false) (Q [I 4]) (Q [I 0]))))))))))))):Ct prog 236 {} [cmp21 e d j l m n o p q r t u v w A C D E F G H,ev7 s a k c x y z] Q:=
 fN SgT SvT func236 h
def config_nf{F m n o p q r g u v J K w A C:Int}{x y G:Int}(h:ifB (ieq b 1) (Cl prog 178 sP [I x,I y,I e] (λD=>∃d a,∃H E,(D=[SV.agg [I d,I a,SL 2 H],I E])/\Q ([SV.agg [S s,I b,I i,I d,I a,SL 2 H,I F,I m,I n,I o,I p,I q,I r,I g,I u,I v,I J,I K,I w,I A,I C]]))) (ifB (ieq b 2) (Cl prog 179 sP [I x,I y] (λD=>∃d a E,(D=[SV.agg [I d,I a],I E])/\Q ([SV.agg [S s,I b,I i,I j,I k,SL 2 l,I F,I m,I n,I o,I p,I q,I r,I g,I u,I v,I d,I a,I w,I A,I C]]))) (ifB (ieq b 3) (Cl prog 179 sP [I x,I x] (λD=>∃d a E,(D=[SV.agg [I d,I a],I E])/\Q ([SV.agg [S s,I b,I i,I j,I k,SL 2 l,I F,I m,I n,I o,I p,I q,I r,I g,I u,I v,I d,I a,I w,I A,I C]]))) (Q ([SV.agg [S s,I b,I i,I j,I k,SL 2 l,I F,I m,I n,I o,I p,I q,I r,I g,I u,I v,I J,I K,I w,I A,I C]]))))):Ct prog 185 {} [cmp21 s b i j k l F m n o p q r g u v J K w A C,ev7 c e z t x y G] Q:=
 fN SgT SvT func185 h
def qshort_nf(a:BA)(c d e g:Int)(b:LL)(i j k l m n o p q r s t u v w:Int)(Q:QQ)(h:Q [B (bpick (ile (slen a) 100) (ile (rlen b) 40) false)]):Ct prog 63 {} [cmp21 a c d e g b i j k l m n o p q r s t u v w] Q:=
 fN SgT SvT func63 h
def holdI(n:Int):Int:=max 0 (min n 1099511627776)
def upI(a b:Int):Int:=holdI (holdI a+holdI b)
def heldP(n:Int):Prop:=0<=n/\n<=1099511627776
instance (n:Int):Decidable (heldP n):=inferInstanceAs (Decidable (0<=n/\n<=1099511627776))
def Ziw(n:Int):0<=holdI n/\holdI n<=1099511627776:=by unfold holdI;omega
def Zdr{n:Int}:holdI n=n↔heldP n:=by unfold holdI heldP;omega
def Zo1{n:Int}(h:heldP n):holdI n=n:=Zdr.2 h
def Zg6(a b:Int):heldP (upI a b):=Ziw _
def Zg7(n:Int):Ct prog 319 {} [I n] (λr=>r=[I (holdI n)]):=by
 refine hold_nf ?_;simp[holdI]
def Zvn(n:Int):Ct prog 311 {} [I n] (λr=>r=[I (holdI n)]):=by
 refine rhold_nf (Zaa (λh=>?_) (λh=>Zaa (λa=>?_) (λa=>?_)))
 .simp at h;rw[show holdI n=0 by unfold holdI;omega]
 .simp at h a;rw[show holdI n=1099511627776 by unfold holdI;omega]
 .simp at h a;rw[show holdI n=n by unfold holdI;omega]
def up_fn(a b:Int):Ct prog 264 {} [I a,I b] (λr=>r=[I (upI a b)]):=by
 have c:=Ziw a;have d:=Ziw b;refine up_nf (Cl.of (Zg7 a) ⟨_,rfl,Cl.of (Zg7 b) ⟨_,rfl,?_⟩⟩);rw[Zac];exact Cl.of (Zg7 _) ⟨_,rfl,rfl⟩
def bktP(a b:Int):Prop:=0<=a/\a<=2147483647/\0<=b/\b<=a
instance (rm ha:Int):Decidable (bktP rm ha):=inferInstanceAs (Decidable (_/\_))
def Zfw(a b:Int):Ct prog 260 {} [bkt2 a b] (λr=>r=[B (decide (bktP a b))]):=by
 refine bright_nf ?_;have:bpick (bpick (bpick (ige a 0) (ile a 2147483647) false) (ige b 0) false) (ile b a) false=decide (bktP a b):=(by rw[Bool.eq_iff_iff,decide_eq_true_eq];unfold bktP;simp;omega);rw[this]
def Znb(a b:Int):Ct prog 310 {} [bkt2 a b] (λr=>r=[B (decide (bktP a b))]):=by
 refine Zyy ?_;have:bpick (bpick (ile a 2147483647) (ile b a) false) (ige b 0) false=decide (bktP a b):=(by rw[Bool.eq_iff_iff,decide_eq_true_eq];unfold bktP;simp;omega);rw[this]
def bnewR(a b:Int):List SV:=if bktP a b then[bkt2 a b,I 0]else[bkt2 0 0,I 1]
def Zs1(a b:Int):Ct prog 179 {} [I a,I b] (λr=>r=bnewR a b):=by
 refine bnew_nf (Cl.of (Zfw a b) ⟨_,rfl,Zaa (λh=>?_) (λh=>?_)⟩)
 .simp at h;simp[bnewR,h]
 .simp at h;simp[bnewR,h]
def takeH(b a n:Int):Int:=if bktP b a/\0<=n then a-min n a else a
def takeB(b a n:Int):Bool:=decide ((bktP b a/\0<=n)/\n<=a)
def Zvo(a b n:Int):Ct prog 189 {} [bkt2 a b,I n] (λr=>r=[bkt2 a (takeH a b n),B (takeB a b n)]):=by
 refine btake_nf (Cl.of (Zfw a b) ⟨_,rfl,Zaa (λh=>?_) (λh=>?_)⟩)
 .simp only[bor_t,bnot_eq,Yk,decide_eq_false_iff_not,ilt_eq,decide_eq_true_eq]at h;have c:¬(bktP a b/\0<=n):=λd=>h.elim (λh=>h d.1) (λh=>Vo);simp[takeH,takeB,c]
 .simp only[bor_f,bnot_eq,YA,decide_eq_true_eq,ilt_eq,decide_eq_false_iff_not]at h
  have c:bktP a b/\0<=n:=⟨h.1,Vo⟩
  have e:=c.1;unfold bktP at e;rw[imin_eq,Zap];simp[takeH,takeB,c]
def putH(b a n:Int):Int:=if bktP b a/\0<=n then a+min n (b-a)else a
def bput_fn(a b n:Int):Ct prog 190 {} [bkt2 a b,I n] (λr=>r=[bkt2 a (putH a b n)]):=by
 refine bput_nf (Cl.of (Zfw a b) ⟨_,rfl,Zaa (λh=>?_) (λh=>?_)⟩)
 .simp only[bor_t,bnot_eq,Yk,decide_eq_false_iff_not,ilt_eq,decide_eq_true_eq]at h;have c:¬(bktP a b/\0<=n):=λd=>h.elim (λh=>h d.1) (λh=>Vo);simp[putH,c]
 .simp only[bor_f,bnot_eq,YA,decide_eq_true_eq,ilt_eq,decide_eq_false_iff_not]at h
  have c:bktP a b/\0<=n:=⟨h.1,Vo⟩
  have e:=c.1;unfold bktP at e;rw[imin_eq,Zap,Zac];simp[putH,c]
def bndI(p:Int):Int:=if p=0 then 1 else if p=1 then 2 else if p=2 then 4 else if p=3 then 8 else if p=4 then 16 else if p=5 then 32 else if p=6 then 64 else if p=7 then 128 else 0
def hplI(n:Int):Int:=if n<=1 then 0 else if n<=2 then 1 else if n<=4 then 2 else if n<=8 then 3 else if n<=16 then 4 else if n<=32 then 5 else if n<=64 then 6 else if n<=128 then 7 else 8
def hpl_range(n:Int):0<=hplI n/\hplI n<9:=by
 unfold hplI;repeat' split
 all_goals omega
def c8{p:Int}(a:0<=p)(b:p<8):p=0\/p=1\/p=2\/p=3\/p=4\/p=5\/p=6\/p=7:=Vo
def hbound_fn(p:Int):Ct prog 324 {} [I p] (λr=>r=[I (bndI p)]):=by
 refine hbound_nf (Zaa (λh=>?_) (λh=>?_))
 .simp at h
  have:bndI p=0:=by
    unfold bndI;repeat' split
    all_goals omega
  rw[this]
 .simp at h;refine⟨Vo,?_⟩
  rcases c8 (p:=p) Vo Vo with rfl|rfl|rfl|rfl|rfl|rfl|rfl|rfl<;>rfl
def hpl_loop{f:FuncId}(i:∀p,Ct prog f {} [I p] (λr=>r=[I (bndI p)]))(n:Int):∃c:Int->Int->Prop,∃m:Int->Int->Nat,(c 0 0)/\(∀x:Int,∀a:Int,(c x a)->ifB (ilt a 8) (Cl prog f sP [I a] (λ(j:List SV)=>∃d:Int,(j=[I d])/\(ifB (ile n d) ([I a]=[I (hplI n)]) (((Option.some []:Option LL)=Option.some [])/\((c x (wadd IntKind.i64 a 1))/\(Nl (m x (wadd IntKind.i64 a 1)) (m x a))))))) ([I 8]=[I (hplI n)])):=by
 refine⟨λ_ x=>0<=x/\x<=8/\(1<=x->1<n)/\(2<=x->2<n)/\(3<=x->4<n)/\(4<=x->8<n)/\(5<=x->16<n)/\(6<=x->32<n)/\(7<=x->64<n)/\(8<=x->128<n),λ_ x=>(8-x).toNat,Vo,?_⟩;rintro _ x ⟨h0,h8,g⟩;refine Zaa (λh=>?_) (λh=>?_)
 .simp at h;rw[Zac];refine Cl.of (i x) ⟨_,rfl,Zaa (λb=>?_) (λb=>⟨rfl,?_,mlt (by dsimp only;omega)⟩)⟩
  .simp at b
   have e:hplI n=x:=by
    rcases c8 h0 h with rfl|rfl|rfl|rfl|rfl|rfl|rfl|rfl<;>simp[bndI]at b<;>(unfold hplI;repeat' split)<;>omega
   rw[e]
  .simp at b
   rcases c8 h0 h with rfl|rfl|rfl|rfl|rfl|rfl|rfl|rfl<;>simp[bndI]at b<;>omega
 .simp at h;obtain rfl:x=8:=Vo
  have:hplI n=8:=by
    unfold hplI;repeat' split
    all_goals omega
  rw[this]
def hplace_fn(n:Int):Ct prog 266 {} [I n] (λr=>r=[I (hplI n)]):=hplace_nf (hpl_loop hbound_fn n)
def hisP(a b c d e f g h i j:Int):Prop:=heldP a/\heldP b/\heldP c/\heldP d/\heldP e/\heldP f/\heldP g/\heldP h/\heldP i/\heldP j
instance (h0 h1 h2 h3 h4 h5 h6 h7 h8 hs:Int):Decidable (hisP h0 h1 h2 h3 h4 h5 h6 h7 h8 hs):=inferInstanceAs (Decidable (_/\_))
def hAt(a b c d e f g h i x:Int):Int:=if x=0 then a else if x=1 then b else if x=2 then c else if x=3 then d else if x=4 then e else if x=5 then f else if x=6 then g else if x=7 then h else i
def Zoa{c a b d f g j k l m:Int}:hisP c a b d f g j k l m↔(∀i,0<=i->i<9->heldP (hAt c a b d f g j k l i))/\heldP m:=by
 unfold hisP;constructor
 .rintro⟨n,e1,e2,o,p,q,r,s,t,e⟩;refine⟨λi a b=>?_,e⟩;have:i=0\/i=1\/i=2\/i=3\/i=4\/i=5\/i=6\/i=7\/i=8:=Vo
  rcases this with rfl|rfl|rfl|rfl|rfl|rfl|rfl|rfl|rfl<;>assumption
 .rintro⟨h,e⟩;exact⟨h 0 Vo Vo,h 1 Vo Vo,h 2 Vo Vo,h 3 Vo Vo,h 4 Vo Vo,h 5 Vo Vo,h 6 Vo Vo,h 7 Vo Vo,h 8 Vo Vo,e⟩
def Zp6{c a b d f g j k l x:Int}(h:∀i,0<=i->i<x->heldP (hAt c a b d f g j k l i))(hx:heldP (hAt c a b d f g j k l x)):∀i,0<=i->i<x+1->heldP (hAt c a b d f g j k l i):=by
 intro i a b;by_cases e:i=x
 .rw[e];exact hx
 .exact h i a Vo
def Zk0(d a c f g j k l m n:Int):Ct prog 265 {} [his10 d a c f g j k l m n] (λr=>r=[B (decide (hisP d a c f g j k l m n))]):=by
 have no:¬hisP d a c f g j k l m n->[B false]=[B (decide (hisP d a c f g j k l m n))]:=λh=>by simp[h]
 refine hright_nf ⟨λ_ x=>0<=x/\x<=9/\∀i,0<=i->i<x->heldP (hAt d a c f g j k l m i),λ_ x=>(9-x).toNat,⟨Vo,Vo,λi a c=>Vo⟩,?_⟩;rintro b x ⟨x0,x9,hi⟩;refine Zaa (λh=>?_) (λh=>?_)
 .simp at h;rw[Zac]
  have step:∀(v:Int) {p:Prop},p->hAt d a c f g j k l m x=v->Cl prog 319 sP [I v] (λ(u:List SV)=>∃q:Int,(u=[I q])/\(ifB (ine v q) ([B false]=[B (decide (hisP d a c f g j k l m n))]) (p/\((0<=x+1/\x+1<=9/\∀i,0<=i->i<x+1->heldP (hAt d a c f g j k l m i))/\(Nl (9-(x+1)).toNat (9-x).toNat))))):=by
   intro v p s t;refine Cl.of (Zg7 v) ⟨_,rfl,Zaa (λo=>no (λw=>?_)) (λo=>⟨s,⟨Vo,Vo,Zp6 hi ?_⟩,mlt Vo⟩)⟩
   .simp at o;have:=(Zoa.1 w).1 x x0 h;rw[t]at this;exact o (Zo1 this).symm
   .simp at o;rw[t];exact Zdr.1 o.symm
  exact⟨⟨x0,h⟩,λe=>step d rfl (by subst e;rfl),λe=>step a rfl (by subst e;rfl),λe=>step c rfl (by subst e;rfl),λe=>step f rfl (by subst e;rfl),λe=>step g rfl (by subst e;rfl),λe=>step j rfl (by subst e;rfl),λe=>step k rfl (by subst e;rfl),λe=>step l rfl (by subst e;rfl),λe=>step m rfl (by subst e;rfl),trivial⟩
 .simp at h;obtain rfl:x=9:=Vo
  refine Cl.of (Zg7 n) ⟨_,rfl,?_⟩;have e:ieq n (holdI n)=decide (hisP d a c f g j k l m n):=(by rw[Bool.eq_iff_iff,decide_eq_true_eq,Zoa];simp only[ieq_eq,decide_eq_true_eq];exact⟨λe=>⟨hi,Zdr.1 e.symm⟩,λe=>(Zo1 e.2).symm⟩);rw[e]
def Zmv(f c d g j k l m n o:Int):Ct prog 308 {} [his10 f c d g j k l m n o] (λr=>r=[B (decide (hisP f c d g j k l m n o))]):=by
 have no:¬hisP f c d g j k l m n o->[B false]=[B (decide (hisP f c d g j k l m n o))]:=λh=>by simp[h]
 refine Zzb ⟨λx=>0<=x/\x<=9/\∀i,0<=i->i<x->heldP (hAt f c d g j k l m n i),λx=>(9-x).toNat,⟨Vo,Vo,λi c d=>Vo⟩,?_⟩;rintro x ⟨x0,x9,hi⟩;refine Zaa (λh=>?_) (λh=>?_)
 .simp at h;rw[Zac];refine⟨λb=>b=!decide (heldP (hAt f c d g j k l m n x)),λ_=>0,?_,?_⟩
  .have step:∀(v p:Int) {t:Prop},t->hAt f c d g j k l m n x=v->hAt f c d g j k l m n x=p->Cl prog 311 sP [I p] (λ(z:List SV)=>∃u:Int,(z=[I u])/\(t/\((ine v u)=!decide (heldP (hAt f c d g j k l m n x))))):=(by intro v p t w y s;refine Cl.of (Zvn p) ⟨_,rfl,w,?_⟩;rw[y]at s;subst s;rw[y,Bool.eq_iff_iff];simp only[ine_eq,Yk,decide_eq_false_iff_not];rw[<-Zdr];exact⟨λh e=>h e.symm,λh e=>h e.symm⟩);exact⟨⟨x0,h⟩,λe=>⟨⟨x0,h⟩,λa=>step f f rfl (by rw[e];rfl) (by rw[a];rfl),λa=>step f c rfl (by rw[e];rfl) (by rw[a];rfl),λa=>step f d rfl (by rw[e];rfl) (by rw[a];rfl),λa=>step f g rfl (by rw[e];rfl) (by rw[a];rfl),λa=>step f j rfl (by rw[e];rfl) (by rw[a];rfl),λa=>step f k rfl (by rw[e];rfl) (by rw[a];rfl),λa=>step f l rfl (by rw[e];rfl) (by rw[a];rfl),λa=>step f m rfl (by rw[e];rfl) (by rw[a];rfl),λa=>step f n rfl (by rw[e];rfl) (by rw[a];rfl),trivial⟩,λe=>⟨⟨x0,h⟩,λa=>step c f rfl (by rw[e];rfl) (by rw[a];rfl),λa=>step c c rfl (by rw[e];rfl) (by rw[a];rfl),λa=>step c d rfl (by rw[e];rfl) (by rw[a];rfl),λa=>step c g rfl (by rw[e];rfl) (by rw[a];rfl),λa=>step c j rfl (by rw[e];rfl) (by rw[a];rfl),λa=>step c k rfl (by rw[e];rfl) (by rw[a];rfl),λa=>step c l rfl (by rw[e];rfl) (by rw[a];rfl),λa=>step c m rfl (by rw[e];rfl) (by rw[a];rfl),λa=>step c n rfl (by rw[e];rfl) (by rw[a];rfl),trivial⟩,λe=>⟨⟨x0,h⟩,λa=>step d f rfl (by rw[e];rfl) (by rw[a];rfl),λa=>step d c rfl (by rw[e];rfl) (by rw[a];rfl),λa=>step d d rfl (by rw[e];rfl) (by rw[a];rfl),λa=>step d g rfl (by rw[e];rfl) (by rw[a];rfl),λa=>step d j rfl (by rw[e];rfl) (by rw[a];rfl),λa=>step d k rfl (by rw[e];rfl) (by rw[a];rfl),λa=>step d l rfl (by rw[e];rfl) (by rw[a];rfl),λa=>step d m rfl (by rw[e];rfl) (by rw[a];rfl),λa=>step d n rfl (by rw[e];rfl) (by rw[a];rfl),trivial⟩,λe=>⟨⟨x0,h⟩,λa=>step g f rfl (by rw[e];rfl) (by rw[a];rfl),λa=>step g c rfl (by rw[e];rfl) (by rw[a];rfl),λa=>step g d rfl (by rw[e];rfl) (by rw[a];rfl),λa=>step g g rfl (by rw[e];rfl) (by rw[a];rfl),λa=>step g j rfl (by rw[e];rfl) (by rw[a];rfl),λa=>step g k rfl (by rw[e];rfl) (by rw[a];rfl),λa=>step g l rfl (by rw[e];rfl) (by rw[a];rfl),λa=>step g m rfl (by rw[e];rfl) (by rw[a];rfl),λa=>step g n rfl (by rw[e];rfl) (by rw[a];rfl),trivial⟩,λe=>⟨⟨x0,h⟩,λa=>step j f rfl (by rw[e];rfl) (by rw[a];rfl),λa=>step j c rfl (by rw[e];rfl) (by rw[a];rfl),λa=>step j d rfl (by rw[e];rfl) (by rw[a];rfl),λa=>step j g rfl (by rw[e];rfl) (by rw[a];rfl),λa=>step j j rfl (by rw[e];rfl) (by rw[a];rfl),λa=>step j k rfl (by rw[e];rfl) (by rw[a];rfl),λa=>step j l rfl (by rw[e];rfl) (by rw[a];rfl),λa=>step j m rfl (by rw[e];rfl) (by rw[a];rfl),λa=>step j n rfl (by rw[e];rfl) (by rw[a];rfl),trivial⟩,λe=>⟨⟨x0,h⟩,λa=>step k f rfl (by rw[e];rfl) (by rw[a];rfl),λa=>step k c rfl (by rw[e];rfl) (by rw[a];rfl),λa=>step k d rfl (by rw[e];rfl) (by rw[a];rfl),λa=>step k g rfl (by rw[e];rfl) (by rw[a];rfl),λa=>step k j rfl (by rw[e];rfl) (by rw[a];rfl),λa=>step k k rfl (by rw[e];rfl) (by rw[a];rfl),λa=>step k l rfl (by rw[e];rfl) (by rw[a];rfl),λa=>step k m rfl (by rw[e];rfl) (by rw[a];rfl),λa=>step k n rfl (by rw[e];rfl) (by rw[a];rfl),trivial⟩,λe=>⟨⟨x0,h⟩,λa=>step l f rfl (by rw[e];rfl) (by rw[a];rfl),λa=>step l c rfl (by rw[e];rfl) (by rw[a];rfl),λa=>step l d rfl (by rw[e];rfl) (by rw[a];rfl),λa=>step l g rfl (by rw[e];rfl) (by rw[a];rfl),λa=>step l j rfl (by rw[e];rfl) (by rw[a];rfl),λa=>step l k rfl (by rw[e];rfl) (by rw[a];rfl),λa=>step l l rfl (by rw[e];rfl) (by rw[a];rfl),λa=>step l m rfl (by rw[e];rfl) (by rw[a];rfl),λa=>step l n rfl (by rw[e];rfl) (by rw[a];rfl),trivial⟩,λe=>⟨⟨x0,h⟩,λa=>step m f rfl (by rw[e];rfl) (by rw[a];rfl),λa=>step m c rfl (by rw[e];rfl) (by rw[a];rfl),λa=>step m d rfl (by rw[e];rfl) (by rw[a];rfl),λa=>step m g rfl (by rw[e];rfl) (by rw[a];rfl),λa=>step m j rfl (by rw[e];rfl) (by rw[a];rfl),λa=>step m k rfl (by rw[e];rfl) (by rw[a];rfl),λa=>step m l rfl (by rw[e];rfl) (by rw[a];rfl),λa=>step m m rfl (by rw[e];rfl) (by rw[a];rfl),λa=>step m n rfl (by rw[e];rfl) (by rw[a];rfl),trivial⟩,λe=>⟨⟨x0,h⟩,λa=>step n f rfl (by rw[e];rfl) (by rw[a];rfl),λa=>step n c rfl (by rw[e];rfl) (by rw[a];rfl),λa=>step n d rfl (by rw[e];rfl) (by rw[a];rfl),λa=>step n g rfl (by rw[e];rfl) (by rw[a];rfl),λa=>step n j rfl (by rw[e];rfl) (by rw[a];rfl),λa=>step n k rfl (by rw[e];rfl) (by rw[a];rfl),λa=>step n l rfl (by rw[e];rfl) (by rw[a];rfl),λa=>step n m rfl (by rw[e];rfl) (by rw[a];rfl),λa=>step n n rfl (by rw[e];rfl) (by rw[a];rfl),trivial⟩,trivial⟩
  .rintro b rfl;refine Zaa (λq=>no (λA=>?_)) (λq=>⟨rfl,⟨Vo,Vo,Zp6 hi ?_⟩,mlt (by dsimp only;omega)⟩)
   .simp at q;exact q ((Zoa.1 A).1 x x0 h)
   .simpa using q
 .simp at h;obtain rfl:x=9:=Vo
  refine Cl.of (Zvn o) ⟨_,rfl,?_⟩;have e:ieq o (holdI o)=decide (hisP f c d g j k l m n o):=(by rw[Bool.eq_iff_iff,decide_eq_true_eq,Zoa];simp only[ieq_eq,decide_eq_true_eq];exact⟨λe=>⟨hi,Zdr.1 e.symm⟩,λe=>(Zo1 e.2).symm⟩);rw[e]
def hcI(n k v:Int):Int:=if hplI n=k then upI v 1 else v
def haddS(a b c d e f g h i j n:Int):SV:=if hisP a b c d e f g h i j/\0<=n then his10 (hcI n 0 a) (hcI n 1 b) (hcI n 2 c) (hcI n 3 d) (hcI n 4 e) (hcI n 5 f) (hcI n 6 g) (hcI n 7 h) (hcI n 8 i) (upI j n)else his10 a b c d e f g h i j
def hadd_fn(b c d f g i j k l m n:Int):Ct prog 187 {} [his10 b c d f g i j k l m,I n] (λr=>r=[haddS b c d f g i j k l m n]):=by
 have hx:=hpl_range n;refine hadd_nf (Cl.of (Zk0 b c d f g i j k l m) ⟨_,rfl,Zaa (λh=>?_) (λh=>?_)⟩)
 .simp only[bor_t,bnot_eq,Yk,decide_eq_false_iff_not,ilt_eq,decide_eq_true_eq]at h;have o:¬(hisP b c d f g i j k l m/\0<=n):=λp=>h.elim (λh=>h p.1) (λh=>Vo);simp[haddS,o]
 .simp only[bor_f,bnot_eq,YA,decide_eq_true_eq,ilt_eq,decide_eq_false_iff_not]at h
  have o:hisP b c d f g i j k l m/\0<=n:=⟨h.1,Vo⟩
  refine Cl.of (hplace_fn n) ⟨_,rfl,λq s t u v w x y z y9=>q=hcI n 0 b/\s=hcI n 1 c/\t=hcI n 2 d/\u=hcI n 3 f/\v=hcI n 4 g/\w=hcI n 5 i/\x=hcI n 6 j/\y=hcI n 7 k/\z=hcI n 8 l/\y9=m,λ_ _ _ _ _ _ _ _ _ _=>0,?_,?_⟩
  .refine⟨hx,λe=>Cl.of (up_fn b 1) ⟨_,rfl,hx,λ_=>⟨rfl,by rw[hcI,if_pos e],by rw[hcI,if_neg (by rw[e];decide)],by rw[hcI,if_neg (by rw[e];decide)],by rw[hcI,if_neg (by rw[e];decide)],by rw[hcI,if_neg (by rw[e];decide)],by rw[hcI,if_neg (by rw[e];decide)],by rw[hcI,if_neg (by rw[e];decide)],by rw[hcI,if_neg (by rw[e];decide)],by rw[hcI,if_neg (by rw[e];decide)],rfl⟩,λa=>absurd (e.symm.trans a) Vd,λa=>absurd (e.symm.trans a) Vd,λa=>absurd (e.symm.trans a) Vd,λa=>absurd (e.symm.trans a) Vd,λa=>absurd (e.symm.trans a) Vd,λa=>absurd (e.symm.trans a) Vd,λa=>absurd (e.symm.trans a) Vd,λa=>absurd (e.symm.trans a) Vd,trivial⟩,λe=>Cl.of (up_fn c 1) ⟨_,rfl,hx,λa=>absurd (e.symm.trans a) Vd,λ_=>⟨rfl,by rw[hcI,if_neg (by rw[e];decide)],by rw[hcI,if_pos e],by rw[hcI,if_neg (by rw[e];decide)],by rw[hcI,if_neg (by rw[e];decide)],by rw[hcI,if_neg (by rw[e];decide)],by rw[hcI,if_neg (by rw[e];decide)],by rw[hcI,if_neg (by rw[e];decide)],by rw[hcI,if_neg (by rw[e];decide)],by rw[hcI,if_neg (by rw[e];decide)],rfl⟩,λa=>absurd (e.symm.trans a) Vd,λa=>absurd (e.symm.trans a) Vd,λa=>absurd (e.symm.trans a) Vd,λa=>absurd (e.symm.trans a) Vd,λa=>absurd (e.symm.trans a) Vd,λa=>absurd (e.symm.trans a) Vd,λa=>absurd (e.symm.trans a) Vd,trivial⟩,λe=>Cl.of (up_fn d 1) ⟨_,rfl,hx,λa=>absurd (e.symm.trans a) Vd,λa=>absurd (e.symm.trans a) Vd,λ_=>⟨rfl,by rw[hcI,if_neg (by rw[e];decide)],by rw[hcI,if_neg (by rw[e];decide)],by rw[hcI,if_pos e],by rw[hcI,if_neg (by rw[e];decide)],by rw[hcI,if_neg (by rw[e];decide)],by rw[hcI,if_neg (by rw[e];decide)],by rw[hcI,if_neg (by rw[e];decide)],by rw[hcI,if_neg (by rw[e];decide)],by rw[hcI,if_neg (by rw[e];decide)],rfl⟩,λa=>absurd (e.symm.trans a) Vd,λa=>absurd (e.symm.trans a) Vd,λa=>absurd (e.symm.trans a) Vd,λa=>absurd (e.symm.trans a) Vd,λa=>absurd (e.symm.trans a) Vd,λa=>absurd (e.symm.trans a) Vd,trivial⟩,λe=>Cl.of (up_fn f 1) ⟨_,rfl,hx,λa=>absurd (e.symm.trans a) Vd,λa=>absurd (e.symm.trans a) Vd,λa=>absurd (e.symm.trans a) Vd,λ_=>⟨rfl,by rw[hcI,if_neg (by rw[e];decide)],by rw[hcI,if_neg (by rw[e];decide)],by rw[hcI,if_neg (by rw[e];decide)],by rw[hcI,if_pos e],by rw[hcI,if_neg (by rw[e];decide)],by rw[hcI,if_neg (by rw[e];decide)],by rw[hcI,if_neg (by rw[e];decide)],by rw[hcI,if_neg (by rw[e];decide)],by rw[hcI,if_neg (by rw[e];decide)],rfl⟩,λa=>absurd (e.symm.trans a) Vd,λa=>absurd (e.symm.trans a) Vd,λa=>absurd (e.symm.trans a) Vd,λa=>absurd (e.symm.trans a) Vd,λa=>absurd (e.symm.trans a) Vd,trivial⟩,λe=>Cl.of (up_fn g 1) ⟨_,rfl,hx,λa=>absurd (e.symm.trans a) Vd,λa=>absurd (e.symm.trans a) Vd,λa=>absurd (e.symm.trans a) Vd,λa=>absurd (e.symm.trans a) Vd,λ_=>⟨rfl,by rw[hcI,if_neg (by rw[e];decide)],by rw[hcI,if_neg (by rw[e];decide)],by rw[hcI,if_neg (by rw[e];decide)],by rw[hcI,if_neg (by rw[e];decide)],by rw[hcI,if_pos e],by rw[hcI,if_neg (by rw[e];decide)],by rw[hcI,if_neg (by rw[e];decide)],by rw[hcI,if_neg (by rw[e];decide)],by rw[hcI,if_neg (by rw[e];decide)],rfl⟩,λa=>absurd (e.symm.trans a) Vd,λa=>absurd (e.symm.trans a) Vd,λa=>absurd (e.symm.trans a) Vd,λa=>absurd (e.symm.trans a) Vd,trivial⟩,λe=>Cl.of (up_fn i 1) ⟨_,rfl,hx,λa=>absurd (e.symm.trans a) Vd,λa=>absurd (e.symm.trans a) Vd,λa=>absurd (e.symm.trans a) Vd,λa=>absurd (e.symm.trans a) Vd,λa=>absurd (e.symm.trans a) Vd,λ_=>⟨rfl,by rw[hcI,if_neg (by rw[e];decide)],by rw[hcI,if_neg (by rw[e];decide)],by rw[hcI,if_neg (by rw[e];decide)],by rw[hcI,if_neg (by rw[e];decide)],by rw[hcI,if_neg (by rw[e];decide)],by rw[hcI,if_pos e],by rw[hcI,if_neg (by rw[e];decide)],by rw[hcI,if_neg (by rw[e];decide)],by rw[hcI,if_neg (by rw[e];decide)],rfl⟩,λa=>absurd (e.symm.trans a) Vd,λa=>absurd (e.symm.trans a) Vd,λa=>absurd (e.symm.trans a) Vd,trivial⟩,λe=>Cl.of (up_fn j 1) ⟨_,rfl,hx,λa=>absurd (e.symm.trans a) Vd,λa=>absurd (e.symm.trans a) Vd,λa=>absurd (e.symm.trans a) Vd,λa=>absurd (e.symm.trans a) Vd,λa=>absurd (e.symm.trans a) Vd,λa=>absurd (e.symm.trans a) Vd,λ_=>⟨rfl,by rw[hcI,if_neg (by rw[e];decide)],by rw[hcI,if_neg (by rw[e];decide)],by rw[hcI,if_neg (by rw[e];decide)],by rw[hcI,if_neg (by rw[e];decide)],by rw[hcI,if_neg (by rw[e];decide)],by rw[hcI,if_neg (by rw[e];decide)],by rw[hcI,if_pos e],by rw[hcI,if_neg (by rw[e];decide)],by rw[hcI,if_neg (by rw[e];decide)],rfl⟩,λa=>absurd (e.symm.trans a) Vd,λa=>absurd (e.symm.trans a) Vd,trivial⟩,λe=>Cl.of (up_fn k 1) ⟨_,rfl,hx,λa=>absurd (e.symm.trans a) Vd,λa=>absurd (e.symm.trans a) Vd,λa=>absurd (e.symm.trans a) Vd,λa=>absurd (e.symm.trans a) Vd,λa=>absurd (e.symm.trans a) Vd,λa=>absurd (e.symm.trans a) Vd,λa=>absurd (e.symm.trans a) Vd,λ_=>⟨rfl,by rw[hcI,if_neg (by rw[e];decide)],by rw[hcI,if_neg (by rw[e];decide)],by rw[hcI,if_neg (by rw[e];decide)],by rw[hcI,if_neg (by rw[e];decide)],by rw[hcI,if_neg (by rw[e];decide)],by rw[hcI,if_neg (by rw[e];decide)],by rw[hcI,if_neg (by rw[e];decide)],by rw[hcI,if_pos e],by rw[hcI,if_neg (by rw[e];decide)],rfl⟩,λa=>absurd (e.symm.trans a) Vd,trivial⟩,λe=>Cl.of (up_fn l 1) ⟨_,rfl,hx,λa=>absurd (e.symm.trans a) Vd,λa=>absurd (e.symm.trans a) Vd,λa=>absurd (e.symm.trans a) Vd,λa=>absurd (e.symm.trans a) Vd,λa=>absurd (e.symm.trans a) Vd,λa=>absurd (e.symm.trans a) Vd,λa=>absurd (e.symm.trans a) Vd,λa=>absurd (e.symm.trans a) Vd,λ_=>⟨rfl,by rw[hcI,if_neg (by rw[e];decide)],by rw[hcI,if_neg (by rw[e];decide)],by rw[hcI,if_neg (by rw[e];decide)],by rw[hcI,if_neg (by rw[e];decide)],by rw[hcI,if_neg (by rw[e];decide)],by rw[hcI,if_neg (by rw[e];decide)],by rw[hcI,if_neg (by rw[e];decide)],by rw[hcI,if_neg (by rw[e];decide)],by rw[hcI,if_pos e],rfl⟩,trivial⟩,trivial⟩
  .rintro _ _ _ _ _ _ _ _ _ _ ⟨rfl,rfl,rfl,rfl,rfl,rfl,rfl,rfl,rfl,rfl⟩;refine Cl.of (up_fn _ n) ⟨_,rfl,?_⟩;simp[haddS,o]
abbrev cR(l:List (Int×Int)):LL:=l.map λc=>[I c.1,I c.2]
def ceAt(l:List (Int×Int))(i:Int):Int×Int:=l.getD i.toNat (0,0)
def Zk1{l:List (Int×Int)}(a:0<=i)(b:i<l.length):rget (cR l) i=[I (ceAt l i).1,I (ceAt l i).2]:=by
 have:i.toNat<l.length:=Vo;simp[rget,ceAt,this]
def Zus{l:List (Int×Int)}(a:0<=i)(b:i<l.length):ceAt l i∈l:=by
 have:i.toNat<l.length:=Vo;simp[ceAt,this]
def Zgz(l:List (Int×Int)):rlen (cR l)=(l.length:Int):=Vs
def Zr6(l:List (Int×Int))(i a b:Int):rset (cR l) i [I a,I b]=cR (l.set i.toNat (a,b)):=by
 simp[rset,cR,List.map_set]
def timP(n:Int):Prop:=0<=n/\n<=1099511627776
instance (n:Int):Decidable (timP n):=inferInstanceAs (Decidable (_/\_))
def Zff(l:List (Int×Int)):Prop:=∀c∈l,heldP c.1/\heldP c.2
instance (l:List (Int×Int)):Decidable (Zff l):=inferInstanceAs (Decidable (∀c∈l,heldP c.1/\heldP c.2))
def winP(b c:Int)(a:List (Int×Int)):Prop:=(1<=b/\b<=2147483647)/\timP c/\(1<=a.length/\a.length<=16)/\Zff a
instance (wd sl:Int) (cl:List (Int×Int)):Decidable (winP wd sl cl):=inferInstanceAs (Decidable (_/\_))
def Zk2(n:Int):Ct prog 259 {} [I n] (λr=>r=[B (decide (timP n))]):=by
 refine timely_nf ?_;have:bpick (ige n 0) (ile n 1099511627776) false=decide (timP n):=(by rw[Bool.eq_iff_iff,decide_eq_true_eq];unfold timP;simp);rw[this]
def rtime_fn(n:Int):Ct prog 237 {} [I n] (λr=>r=[B (decide (timP n))]):=by
 refine rtime_nf ?_;have:bpick (ige n 0) (ile n 1099511627776) false=decide (timP n):=(by rw[Bool.eq_iff_iff,decide_eq_true_eq];unfold timP;simp);rw[this]
def Zut(n:Int):Ct prog 359 {} [I n] (λr=>r=[B (decide (heldP n))]):=by
 refine wheld_nf (Cl.of (Zg7 n) ⟨_,rfl,?_⟩);have:ieq n (holdI n)=decide (heldP n):=(by rw[Bool.eq_iff_iff,decide_eq_true_eq,<-Zdr];simp[eq_comm]);rw[this]
def wwrong_fn(n m:Int):Ct prog 360 {} [.agg [I n,I m],.ref 0 [.clo 359 []]] (λr=>r=[B (!decide (heldP n/\heldP m))]):=by
 refine wwrong_nf (Cl.of (Zut n) ⟨_,rfl,Zaa (λh=>?_) (λh=>?_)⟩)
 .simp at h;simp[h]
 .simp at h;refine Cl.of (Zut m) ⟨_,rfl,?_⟩;simp[h]
def ccont_fn(l:List (Int×Int))(g:l.length<=1000000):Ct prog 361 {} [SL 2 (cR l),.clo 360 [.ref 0 [.clo 359 []]]] (λr=>r=[B (!decide (Zff l))]):=by
 have A:Ct prog 377 {} [SL 2 (cR l),.clo 360 [.ref 0 [.clo 359 []]]] (λr=>∃x:Int,r=[I x]/\(0<=x↔¬Zff l)):=by
  refine cindex_nf ⟨λ_ x=>0<=x/\x<=l.length/\∀i:Nat,i<x.toNat->heldP (l.getD i (0,0)).1/\heldP (l.getD i (0,0)).2,λ_ x=>(l.length-x).toNat,⟨Vo,Vo,Vs⟩,?_⟩;rintro _ x ⟨h0,h1,hp⟩;refine Zaa (λh=>?_) (λh=>?_)
  .simp at h;have w:wadd IntKind.i64 x 1=x+1:=Zac;refine⟨⟨h0,by simpa using h⟩,_,_,Zk1 h0 h,Cl.of (wwrong_fn _ _) ⟨_,rfl,Zaa (λa=>?_) (λa=>⟨rfl,?_,?_⟩)⟩⟩
   .simp only[Yk,decide_eq_false_iff_not]at a;exact⟨x,rfl,λ_ d=>a (d _ (Zus h0 h)),λ_=>h0⟩
   .simp only[YA,decide_eq_true_eq]at a;rw[w];refine⟨Vo,Vo,λi b=>?_⟩;by_cases hix:i<x.toNat
    .exact hp i hix
    .obtain rfl:i=x.toNat:=Vo
     exact a
   .rw[w];exact mlt (by dsimp only;omega)
  .simp at h;refine⟨-1,rfl,λh=>Vo,λe=>absurd (λc f=>?_) e⟩;obtain⟨i,b,rfl⟩:=YM f;have:=hp i Vo
   simpa[b]using this
 refine ccont_nf (Cl.ofQ A ?_);rintro r ⟨x,rfl,hx⟩;refine⟨_,rfl,?_⟩;have:ige x 0=!decide (Zff l):=(by rw[Bool.eq_iff_iff];simp[hx]);rw[this]
def Zqa(d c:Int)(b:List (Int×Int)):Ct prog 320 {} [win3 d c (cR b)] (λr=>r=[B (decide (winP d c b))]):=by
 have no:¬winP d c b->[B false]=[B (decide (winP d c b))]:=λh=>by simp[h]
 refine wright_nf (Zaa (λh=>?_) (λh=>?_))
 .simp only[bor_t,ilt_eq,igt_eq,decide_eq_true_eq]at h;exact no (λa=>by have:=a.1;omega)
 .simp only[bor_f,ilt_eq,igt_eq,decide_eq_false_iff_not]at h;refine Cl.of (Zk2 c) ⟨_,rfl,Zaa (λe=>?_) (λe=>Zaa (λf=>?_) (λf=>?_))⟩
  .simp at e;exact no (λa=>e a.2.1)
  .simp only[bor_t,ilt_eq,igt_eq,decide_eq_true_eq,Zgz]at f;exact no (λa=>by have:=a.2.2.1;omega)
  .simp at e;simp only[bor_f,ilt_eq,igt_eq,decide_eq_false_iff_not,Zgz]at f;refine Cl.of (ccont_fn b Vo) ⟨_,rfl,?_⟩;have:bnot (!decide (Zff b))=decide (winP d c b):=(by rw[bnot_eq,Bool.not_not];exact decide_eq_decide.2 ⟨λa=>⟨Vo,e,Vo,a⟩,λa=>a.2.2.2⟩);rw[this]
def Zqb(b e:Int)(a:List (Int×Int))(h:1<=b/\b<=2147483647)(q:timP e)(r:1<=a.length/\a.length<=16){n:Prop}(o:n):
  ∃f:Bool->Int->Prop,∃m:Bool->Int->Nat,(f false 0)/\(∀g:Bool,∀x:Int,(f g x)->ifB (ilt x (rlen (cR a))) (((0<=x)/\(x<(rlen (cR a))))/\(∃k:Int,∃l:Int,(rget (cR a) x=[I k,I l])/\(ifB (bpick (bpick (bpick (ilt k 0) true (igt k 1099511627776)) true (ilt l 0)) true (igt l 1099511627776)) ([B false]=[B (decide (winP b e a))]) (n/\((f g (wadd IntKind.i64 x 1))/\(Nl (m g (wadd IntKind.i64 x 1)) (m g x))))))) ([B true]=[B (decide (winP b e a))])):=by
 refine⟨λ_ x=>0<=x/\x<=a.length/\∀i:Nat,i<x.toNat->heldP (a.getD i (0,0)).1/\heldP (a.getD i (0,0)).2,λ_ x=>(a.length-x).toNat,⟨Vo,Vo,Vs⟩,?_⟩;rintro _ x ⟨h0,hx,hp⟩;refine Zaa (λd=>?_) (λd=>?_)
 .simp at d;have w:wadd IntKind.i64 x 1=x+1:=Zac;rw[w];refine⟨⟨h0,by simpa using d⟩,_,_,Zk1 h0 d,Zaa (λj=>?_) (λj=>⟨o,⟨Vo,Vo,λi p=>?_⟩,mlt (by dsimp only;omega)⟩)⟩
  .simp only[bor_t,ilt_eq,igt_eq,decide_eq_true_eq]at j;have:¬winP b e a:=λs=>by have:=s.2.2.2 _ (Zus h0 d);unfold heldP at this;omega
   simp[this]
  .simp only[bor_f,ilt_eq,igt_eq,decide_eq_false_iff_not]at j;by_cases hix:i<x.toNat
   .exact hp i hix
   .obtain rfl:i=x.toNat:=Vo
    have:heldP (ceAt a x).1/\heldP (ceAt a x).2:=(by unfold heldP;omega);exact this
 .simp at d
  have:winP b e a:=⟨h,q,r,λc t=>by
   obtain⟨i,p,rfl⟩:=YM t;have:=hp i Vo
   simpa[p]using this⟩
  simp[this]
def Zx0(c b:Int)(d:List (Int×Int)):Ct prog 348 {} [win3 c b (cR d)] (λr=>r=[B (decide (winP c b d))]):=by
 have no:¬winP c b d->[B false]=[B (decide (winP c b d))]:=λh=>by simp[h]
 refine Zyz (Zaa (λh=>?_) (λh=>?_))
 .refine Zaa (λ_=>no (λe=>?_)) (λf=>by simp at f);simp only[bor_t,ilt_eq,igt_eq,decide_eq_true_eq]at h;have:=e.1;omega
 .simp only[bor_f,ilt_eq,igt_eq,decide_eq_false_iff_not]at h;refine Cl.of (rtime_fn b) ⟨_,rfl,Zaa (λa=>no (λe=>?_)) (λa=>?_)⟩
  .simp only[bor_t,bnot_eq,Yk,decide_eq_false_iff_not,ilt_eq,igt_eq,decide_eq_true_eq,Zgz,Bool.false_eq_true,false_or]at a;have:=e.2.2.1
   rcases a with(a|a)|a
   .exact a e.2.1
   .omega
   .omega
  .simp only[bor_f,bnot_eq,YA,decide_eq_true_eq,ilt_eq,igt_eq,decide_eq_false_iff_not,Zgz,true_and]at a;exact Zqb c b d Vo a.1.1 Vo rfl
def Zuu{a b:Int}(c:0<=a:=by omega)(d:a<=9223372036854775807:=by omega)(e:1<=b:=by omega):wquo .i64 a b=a/b/\0<=a/b/\a/b<=a:=by
 have e1:0<=a/b:=Int.ediv_nonneg c Vo;have e2:a/b<=a:=Int.ediv_le_self b c;refine⟨?_,e1,e2⟩;unfold wquo;rw[Int.tdiv_eq_ediv_of_nonneg c];exact Zbj Vo Vo
def wnewR(b n a:Int):List SV:=if((1<=b/\b<=2147483647)/\(1<=n/\n<=16))/\timP a then[win3 b (a/b) (cR (List.replicate n.toNat (0,0))),I 0]else[win3 0 0 [],I 1]
def rrep_cR(n:Int):rrep n [I 0,I 0]=cR (List.replicate n.toNat (0,0)):=by simp[rrep,cR]
def Zr7(b n a:Int):Ct prog 178 {} [I b,I n,I a] (λr=>r=wnewR b n a):=by
 refine wnew_nf (Zaa (λh=>?_) (λh=>?_))
 .simp only[bor_t,ilt_eq,igt_eq,decide_eq_true_eq]at h;have:¬(((1<=b/\b<=2147483647)/\(1<=n/\n<=16))/\timP a):=λd=>Vo
  simp[wnewR,this]
 .simp only[bor_f,ilt_eq,igt_eq,decide_eq_false_iff_not]at h;refine Cl.of (Zk2 a) ⟨_,rfl,Zaa (λc=>?_) (λc=>?_)⟩
  .simp at c;simp[wnewR,c]
  .simp at c;have e:=c;unfold timP at e
   have d:((1<=b/\b<=2147483647)/\(1<=n/\n<=16))/\timP a:=⟨Vo,c⟩
   refine⟨Vo,⟨Vo,Vo,Vo⟩,?_⟩;rw[(Zuu).1,rrep_cR];simp[wnewR,d]
def Zqc(rows:LL)(h:rows.length<=2147483648):Ct prog 263 ⟨[],[.own]⟩ [SL 2 rows] (λr=>r=[SL 2 rows]):=by
 refine cclone_nf (λb a=>Zaa (λe=>?_) (λe=>⟨?_,?_⟩))
 .have:=a e;have:rows=[]:=(by simpa using this);rw[this]
 .simp;omega
 .simp[rapp]
def kk(slot n p:Int):Int:=slot-(slot-p)%n
def kk_range{slot n p:Int}(h:1<=n):slot-n<kk slot n p/\kk slot n p<=slot:=by
 unfold kk;have a:=Int.emod_nonneg (slot-p) (show n≠0 by omega);have b:=Int.emod_lt_of_pos (slot-p) (show 0<n by omega);omega
def kk_eq{slot n p x:Int}(h:1<=n)(b:n<=16)(c:0<=p)(d:p<n)(e:slot-n<x)(f:x<=slot):kk slot n p=x↔p=x%n:=by
 unfold kk;have a:n=1\/n=2\/n=3\/n=4\/n=5\/n=6\/n=7\/n=8\/n=9\/n=10\/n=11\/n=12\/n=13\/n=14\/n=15\/n=16:=Vo
 rcases a with rfl|rfl|rfl|rfl|rfl|rfl|rfl|rfl|rfl|rfl|rfl|rfl|rfl|rfl|rfl|rfl<;>omega
def mvL(b slot:Int)(a:List (Int×Int)):List (Int×Int):=(List.range a.length).map λp:Nat=>if b<kk slot a.length p then(0,0)else a.getD p (0,0)
def mvL_len(b slot:Int)(a:List (Int×Int)):(mvL b slot a).length=a.length:=by simp[mvL]
def Zob{n:Nat}{f a:Nat->Int×Int}{i:Nat}{v:Int×Int}(d:i<n)(h:∀p,p<n->a p=if p=i then v else f p):(List.range n).map a=((List.range n).map f).set i v:=by
 apply YY
 .simp
 .intro p b g;simp at b;rw[List.getElem_set];simp only[List.getElem_map,WG];rw[h p b];by_cases e:p=i
  .simp[e]
  .rw[if_neg e,if_neg (λc=>e c.symm)]
def Zht(b c:Int)(d:List (Int×Int))(a:Int):List SV:=
 if winP b c d/\timP a then(if a/b<=c then[win3 b c (cR d),I 0]else[win3 b (a/b) (cR (mvL c (a/b) d)),I 0])else[win3 b c (cR d),I 1]
def wmove_fn(i f:Int)(d:List (Int×Int))(a:Int):Ct prog 262 {} [win3 i f (cR d),I a] (λr=>r=Zht i f d a):=by
 refine wmove_nf (Cl.of (Zqa i f d) ⟨_,rfl,Zaa (λh=>?_) (λh=>?_)⟩)
 .simp at h;simp[Zht,h]
 .simp at h;refine Cl.of (Zk2 a) ⟨_,rfl,Zaa (λg=>?_) (λg=>?_)⟩
  .simp at g;simp[Zht,g]
  .simp at g;have l:=h;have w:=g;unfold winP at l;unfold timP at l w;obtain⟨v,H,J⟩:=Zuu (a:=a) (b:=i);rw[v];refine⟨Vo,Zaa (λj=>?_) (λj=>?_)⟩
   .simp at j;simp[Zht,h,g,j]
   .simp at j;have m:¬a/i<=f:=Vo;refine Cl.of (Zqc _ Vm) ⟨_,rfl,?_⟩;generalize hslot:a/i=slot at*;have y:(1:Int)<=d.length/\(d.length:Int)<=16:=Vo;rw[Zgz,Zac,Zap,Zac,imax_eq];generalize hlo:max (f+1) (slot-d.length+1)=lo;have z:lo<=slot:=Vo;have A:f<lo:=Vo;have C:slot-d.length<lo:=Vo;have D:0<=lo:=Vo;refine⟨λx q=>lo<=x/\x<=slot+1/\q=cR ((List.range d.length).map λp:Nat=>if lo<=kk slot d.length p/\kk slot d.length p<x then(0,0)else d.getD p (0,0)),λx _=>(slot+1-x).toNat,⟨Vo,Vo,?_⟩,?_⟩
    .congr 1;apply YY
     .simp
     .intro p u G;simp only[List.getElem_map,WG];rw[if_neg Vo];simp[u]
    .rintro x _ ⟨g1,g2,rfl⟩;refine Zaa (λk=>?_) (λk=>?_)
     .simp at k;have E:wrem x d.length=x%d.length:=by unfold wrem;exact Int.tmod_eq_emod_of_nonneg Vo
      have K:=Int.emod_nonneg x (show(d.length:Int)≠0 by omega);have L:=Int.emod_lt_of_pos x (show(0:Int)<d.length by omega);rw[E,Zac,Zr6];refine⟨Vo,⟨Vo,Vm⟩,⟨Vo,Vm⟩,rfl,⟨Vo,Vo,?_⟩,mlt (by dsimp only;omega)⟩;congr 1
      symm
      refine Zob Vo (λp s=>?_);have o:=kk_eq (slot:=slot) (n:=d.length) (p:=p) (x:=x) Vo Vo Vo Vo Vo Vo;by_cases e:p=(x%d.length).toNat
      .have F:kk slot d.length p=x:=o.2 Vo;rw[if_pos e,if_pos Vo]
      .have F:¬kk slot d.length p=x:=λt=>e (by have:=o.1 t;omega);rw[if_neg e];by_cases c:lo<=kk slot d.length p/\kk slot d.length p<x
       .rw[if_pos c,if_pos Vo]
       .rw[if_neg c,if_neg Vo]
     .simp at k;obtain rfl:x=slot+1:=Vo
      have:((List.range d.length).map λp:Nat=>if lo<=kk slot d.length p/\kk slot d.length p<slot+1 then((0,0):Int×Int)else d.getD p (0,0))=mvL f slot d:=by
       unfold mvL;apply List.map_congr_left;intro p s;have M:=kk_range (slot:=slot) (n:=d.length) (p:=p) Vo;by_cases c:f<kk slot d.length p
       .rw[if_pos c,if_pos Vo]
       .rw[if_neg c,if_neg Vo]
      rw[this];simp only[Zht];rw[if_pos ⟨h,g⟩,hslot,if_neg m]
def rem_nn{x n:Int}(a:0<=x:=by omega)(b:1<=n:=by omega):wrem x n=x%n/\0<=x%n/\x%n<n:=by
 refine⟨?_,Int.emod_nonneg x Vo,Int.emod_lt_of_pos x Vo⟩;unfold wrem;exact Int.tmod_eq_emod_of_nonneg a
def ceU(c:Int×Int)(ok:Bool):Int×Int:=if ok=true then(upI c.1 1,c.2)else(c.1,upI c.2 1)
def addL(a:List (Int×Int))(i:Int)(ok:Bool):List (Int×Int):=a.set i.toNat (ceU (ceAt a i) ok)
def wadS(b d:Int)(c:List (Int×Int))(a:Int)(ok:Bool):Int×List (Int×Int):=
 if a/b<=d then(if a/b<=d-c.length then(d,c)else(d,addL c ((a/b)%c.length) ok))else(a/b,addL (mvL d (a/b) c) ((a/b)%c.length) ok)
def waddR(b c:Int)(d:List (Int×Int))(a:Int)(ok:Bool):List SV:=
 if winP b c d/\timP a then[win3 b (wadS b c d a ok).1 (cR (wadS b c d a ok).2),I 0]else[win3 b c (cR d),I 1]
def mv_shape{d g:Int}{f:List (Int×Int)}{a:Int}(h:winP d g f/\timP a):∃(e:Int) (i:List (Int×Int)),Zht d g f a=[win3 d e (cR i),I 0]/\i.length=f.length/\a/d<=e/\0<=e/\e<=1099511627776/\
  ∀ok,wadS d g f a ok=if a/d<=e-f.length then(e,i)else(e,addL i ((a/d)%f.length) ok):=by
 have j:=h.1;have k:=h.2;unfold winP at j;unfold timP at j k;obtain⟨l,m,n⟩:=Zuu (a:=a) (b:=d);unfold Zht;rw[if_pos h];by_cases c:a/d<=g
 .rw[if_pos c];exact⟨_,_,rfl,rfl,c,Vo,Vo,λok=>by unfold wadS;rw[if_pos c]⟩
 .rw[if_neg c];exact⟨_,_,rfl,mvL_len _ _ _,Vo,Vo,Vo,λok=>by unfold wadS;rw[if_neg c,if_neg Vo]⟩
def wadd_fn(c f:Int)(d:List (Int×Int))(a:Int)(ok:Bool):Ct prog 186 {} [win3 c f (cR d),I a,B ok] (λr=>r=waddR c f d a ok):=by
 have i:=wmove_fn c f d a;by_cases h:winP c f d/\timP a
 .obtain⟨y,p,e,s,z,A,C,t⟩:=mv_shape h;rw[e]at i;have q:=h.1;have w:=h.2;unfold winP at q;unfold timP at q w;obtain⟨u,D,E⟩:=Zuu (a:=a) (b:=c);refine Zvi (Cl.of i ⟨_,_,_,_,rfl,Zaa (λh=>by simp at h) (λ_=>⟨Vo,?_⟩)⟩);obtain⟨v,o,F⟩:=rem_nn (x:=a/c) (n:=d.length);rw[u,Zgz,s,Zap,v];unfold waddR;rw[if_pos h,t];refine Zaa (λg=>?_) (λg=>?_)
  .simp at g;rw[if_pos g]
  .simp at g;rw[if_neg Vo];refine Cl.of (Zqc _ Vm) ⟨_,rfl,Vo,⟨o,Vm⟩,?_⟩
   have j:(0:Int)<=(a/c)%d.length/\(a/c)%d.length<rlen (cR p):=⟨o,Vm⟩
   have k:=Zk1 (l:=p) o Vo;refine Zaa (λm=>?_) (λm=>?_)
   .refine⟨j,_,_,k,Cl.of (up_fn _ _) ⟨_,rfl,j,_,_,k,?_⟩⟩;rw[Zr6];simp[addL,ceU,m]
   .refine⟨j,_,_,k,Cl.of (up_fn _ _) ⟨_,rfl,j,_,_,k,?_⟩⟩;rw[Zr6];simp[addL,ceU,m]
 .have e:Zht c f d a=[win3 c f (cR d),I 1]:=(by unfold Zht;rw[if_neg h]);rw[e]at i;refine Zvi (Cl.of i ⟨_,_,_,_,rfl,Zaa (λ_=>?_) (λh=>by simp at h)⟩);unfold waddR;rw[if_neg h]
def Zxf(l m:List (Int×Int))(w:l.length=m.length)(y:l.length<=1000000){d:Prop}(f:d){g j:Prop}(t:¬l=m->g)(u:l=m->j):
  ∃c:Bool->Int->Prop,∃k:Bool->Int->Nat,(c false 0)/\(∀b:Bool,∀x:Int,(c b x)->ifB (ilt x (rlen (cR l))) (((0<=x)/\(x<(rlen (cR l))))/\(∃n:Int,∃o:Int,(rget (cR l) x=[I n,I o])/\(((0<=x)/\(x<(rlen (cR m))))/\(∃p:Int,∃q:Int,(rget (cR m) x=[I p,I q])/\(ifB (bnot (band (ieq n p) (band (ieq o q) true))) g (d/\((c b (wadd IntKind.i64 x 1))/\(Nl (k b (wadd IntKind.i64 x 1)) (k b x))))))))) j):=by
 refine⟨λ_ x=>0<=x/\x<=l.length/\∀i:Nat,i<x.toNat->l[i]?=m[i]?,λ_ x=>(l.length-x).toNat,⟨Vo,Vo,Vs⟩,?_⟩;rintro _ x ⟨h0,h1,hp⟩;refine Zaa (λh=>?_) (λh=>?_)
 .simp at h;rw[Zac];have r:x.toNat<l.length:=Vo;have s:x.toNat<m.length:=Vo;refine⟨⟨h0,by simpa using h⟩,_,_,Zk1 h0 h,⟨h0,Vm⟩,_,_,Zk1 h0 Vo,Zaa (λa=>t (λe=>?_)) (λa=>⟨f,⟨Vo,Vo,λi v=>?_⟩,mlt (by dsimp only;omega)⟩)⟩
  .subst e;simp at a
  .by_cases hix:i<x.toNat
   .exact hp i hix
   .obtain rfl:i=x.toNat:=Vo
    simp[ceAt,r,s]at a;rw[List.getElem?_eq_getElem r,List.getElem?_eq_getElem s];exact congrArg some (Prod.ext a.1 a.2)
 .simp at h;refine u (List.ext_getElem? (λi=>?_));by_cases v:i<l.length
  .exact hp i Vo
  .rw[Wi Vo,Wi Vo]
def Zzj(l m:List (Int×Int))(b:l.length<=1000000):Ct prog 164 {} [SL 2 (cR l),SL 2 (cR m)] (λr=>r=[B (decide (l=m))]):=by
 refine cequal_nf (Zaa (λh=>?_) (λh=>?_))
 .simp at h;have:¬l=m:=λe=>by subst e;omega
  simp[this]
 .simp at h;exact Zxf l m Vo b rfl (λa=>by simp[a]) (λa=>by simp[a])
def Zzk(a b:Int)(c:List (Int×Int)):Ct prog 321 {} [win3 a b (cR c)] (λr=>r=[B (decide (a=0/\b=0/\c=[]))]):=by
 refine bare_nf ?_;have:bpick (bpick (ieq a 0) (ieq b 0) false) (ieq (rlen (cR c)) 0) false=decide (a=0/\b=0/\c=[]):=(by rw[Bool.eq_iff_iff];simp[and_assoc]);rw[this]
structure CoD where
 nm:BA
 ro:Int
 mo:Int
 wd:Int
 sl:Int
 cl:List (Int×Int)
 h0:Int
 h1:Int
 h2:Int
 h3:Int
 h4:Int
 h5:Int
 h6:Int
 h7:Int
 h8:Int
 hs:Int
 rm:Int
 ha:Int
 c0:Int
 c1:Int
 c2:Int
abbrev CoD.sv(c:CoD):SV:=cmp21 c.nm c.ro c.mo c.wd c.sl (cR c.cl) c.h0 c.h1 c.h2 c.h3 c.h4 c.h5 c.h6 c.h7 c.h8 c.hs c.rm c.ha c.c0 c.c1 c.c2
structure EvD where
 s:Int
 a:Int
 k:Int
 c:BA
 x:Int
 y:Int
 z:Int
abbrev EvD.sv(e:EvD):SV:=ev7 e.s e.a e.k e.c e.x e.y e.z
def CoD.his(c:CoD):Prop:=hisP c.h0 c.h1 c.h2 c.h3 c.h4 c.h5 c.h6 c.h7 c.h8 c.hs
instance (c:CoD):Decidable c.his:=inferInstanceAs (Decidable (hisP _ _ _ _ _ _ _ _ _ _))
def CoD.his0(c:CoD):Prop:=(c.h0=0/\c.h1=0/\c.h2=0/\c.h3=0/\c.h4=0/\c.h5=0/\c.h6=0/\c.h7=0/\c.h8=0)/\c.hs=0
instance (c:CoD):Decidable c.his0:=inferInstanceAs (Decidable (_/\_))
def CoD.bare(c:CoD):Prop:=c.wd=0/\c.sl=0/\c.cl=[]
instance (c:CoD):Decidable c.bare:=inferInstanceAs (Decidable (_/\_))
def CoD.roleP(c:CoD):Prop:=
 if c.ro=1 then((0<=c.mo/\c.mo<=2)/\winP c.wd c.sl c.cl)/\c.his/\(c.rm=0/\c.ha=0)
 else if c.ro=2 then((c.mo=0/\c.bare)/\c.his0)/\bktP c.rm c.ha
 else c.ro=3/\((0<=c.mo/\c.mo<=2147483647)/\c.bare)/\c.his/\bktP c.rm c.ha
instance (c:CoD):Decidable c.roleP:=by unfold CoD.roleP;infer_instance
def CoD.cntP(c:CoD):Prop:=heldP c.c0/\heldP c.c1/\heldP c.c2
instance (c:CoD):Decidable c.cntP:=inferInstanceAs (Decidable (_/\_))
def CoD.P(c:CoD):Prop:=(namB c.nm=true/\c.cntP)/\c.roleP
instance (c:CoD):Decidable c.P:=inferInstanceAs (Decidable (_/\_))
def ctAt(a b c x:Int):Int:=if x=0 then a else if x=1 then b else c
def Zow{c:CoD}:c.cntP↔∀i,0<=i->i<3->heldP (ctAt c.c0 c.c1 c.c2 i):=by
 unfold CoD.cntP;constructor
 .rintro⟨h0,h1,h2⟩ i i0 i3;have:i=0\/i=1\/i=2:=Vo
  rcases this with rfl|rfl|rfl<;>assumption
 .intro h;exact⟨h 0 Vo Vo,h 1 Vo Vo,h 2 Vo Vo⟩
def ct_step(h:∀a,0<=a->a<j->heldP (ctAt i b c a))(hx:heldP (ctAt i b c j)):∀a,0<=a->a<j+1->heldP (ctAt i b c a):=by
 intro a d f;by_cases e:a=j
 .rw[e];exact hx
 .exact h a d Vo
def Zqw(c:CoD):Ct prog 254 {} [c.sv] (λr=>r=[B (decide c.P)]):=by
 have no:¬c.P->[B false]=[B (decide c.P)]:=λh=>by simp[h]
 refine pright_nf (Cl.of (named_fn c.nm) ⟨_,rfl,Zaa (λh=>no (λa=>?_)) (λh=>?_)⟩)
 .simp at h;rw[a.1.1]at h;cases h
 simp at h;refine⟨λx=>0<=x/\x<=3/\∀i,0<=i->i<x->heldP (ctAt c.c0 c.c1 c.c2 i),λx=>(3-x).toNat,⟨Vo,Vo,λi g j=>Vo⟩,?_⟩;rintro x ⟨x0,x3,hi⟩;refine Zaa (λhx=>?_) (λhx=>?_)
 .simp at hx;rw[Zac]
  have step:∀(v:Int) {m:Prop},m->ctAt c.c0 c.c1 c.c2 x=v->Cl prog 319 sP [I v] (λ(s:List SV)=>∃o:Int,(s=[I o])/\(ifB (ine v o) ([B false]=[B (decide c.P)]) (m/\((0<=x+1/\x+1<=3/\∀i,0<=i->i<x+1->heldP (ctAt c.c0 c.c1 c.c2 i))/\(Nl (3-(x+1)).toNat (3-x).toNat))))):=by
   intro v m p q;refine Cl.of (Zg7 v) ⟨_,rfl,Zaa (λd=>no (λa=>?_)) (λd=>⟨p,⟨Vo,Vo,ct_step hi ?_⟩,mlt Vo⟩)⟩
   .simp at d;have:=Zow.1 a.1.2 x x0 hx;rw[q]at this;exact d (Zo1 this).symm
   .simp at d;rw[q];exact Zdr.1 d.symm
  exact⟨⟨x0,hx⟩,λe=>step c.c0 rfl (by subst e;rfl),λe=>step c.c1 rfl (by subst e;rfl),λe=>step c.c2 rfl (by subst e;rfl),trivial⟩
 .simp at hx;obtain rfl:x=3:=Vo
  have n:=Zow.2 hi;have fin:∀b:Bool,(b=true↔c.roleP)->[B b]=[B (decide c.P)]:=λb d=>by have:b=decide c.P:=(by rw[Bool.eq_iff_iff,decide_eq_true_eq,d];exact⟨λa=>⟨⟨h,n⟩,a⟩,λa=>a.2⟩);rw[this]
  refine Zaa (λg=>?_) (λg=>Zaa (λj=>?_) (λj=>Zaa (λk=>?_) (λk=>?_)))
  .simp at g;refine Zaa (λf=>?_) (λf=>?_)
   .refine Cl.of (Zqa c.wd c.sl c.cl) ⟨_,rfl,Zaa (λl=>?_) (λl=>?_)⟩
    .refine Cl.of (Zk0 _ _ _ _ _ _ _ _ _ _) ⟨_,rfl,fin _ ?_⟩;simp at f l;unfold CoD.roleP CoD.his;rw[if_pos g];simp[f,l]
    .simp at l;refine fin _ ?_;unfold CoD.roleP;rw[if_pos g];simp[l]
   .refine fin _ ?_;unfold CoD.roleP;rw[if_pos g];simp at f;have:¬(0<=c.mo/\c.mo<=2):=Vo;simp[this]
  .simp at g j;unfold CoD.roleP at fin;rw[if_neg g,if_pos j]at fin;refine Zaa (λf=>?_) (λf=>?_)
   .simp at f;refine Cl.of (Zzk c.wd c.sl c.cl) ⟨_,rfl,Zaa (λd=>?_) (λd=>?_)⟩
    .refine Cl.of (Zfw c.rm c.ha) ⟨_,rfl,fin _ ?_⟩;simp at d;have e1:c.bare:=d.1;have e2:c.his0:=by unfold CoD.his0;omega
     simp[f,e1,e2]
    .refine fin _ ?_;simp at d;have:¬(c.bare/\c.his0):=λa=>by have e1:=a.1;have e2:=a.2;unfold CoD.bare at e1;unfold CoD.his0 at e2;simp[e1,e2]at d
     simp only[Bool.false_eq_true,false_iff];exact λa=>this ⟨a.1.1.2,a.1.2⟩
   .simp at f;exact Zaa (λd=>by simp at d) (λ_=>fin _ (by simp[f]))
  .simp at g j k;unfold CoD.roleP at fin;rw[if_neg g,if_neg j]at fin;refine Zaa (λf=>?_) (λf=>?_)
   .simp at f;refine Cl.of (Zzk c.wd c.sl c.cl) ⟨_,rfl,Zaa (λd=>?_) (λd=>?_)⟩
    .simp at d;have e1:c.bare:=d;refine Cl.of (Zk0 _ _ _ _ _ _ _ _ _ _) ⟨_,rfl,Zaa (λa=>?_) (λa=>?_)⟩
     .simp at a;have e2:c.his:=a;refine Cl.of (Zfw c.rm c.ha) ⟨_,rfl,fin _ ?_⟩;simp[k,f,e1,e2]
     .simp at a;have e2:¬c.his:=a;exact fin _ (by simp[e2])
    .simp at d;have e1:¬c.bare:=λa=>by unfold CoD.bare at a;exact d a.1 a.2.1 a.2.2
     exact fin _ (by simp[e1])
   .simp at f;have:¬(0<=c.mo/\c.mo<=2147483647):=Vo;exact fin _ (by simp[this])
  .simp at g j k;unfold CoD.roleP at fin;rw[if_neg g,if_neg j]at fin;exact fin _ (by simp[k])
def bare_b(c:CoD):bpick (bpick (ieq c.wd 0) (ieq c.sl 0) false) (ieq (rlen (cR c.cl)) 0) false=decide c.bare:=by
 rw[Bool.eq_iff_iff,decide_eq_true_eq];unfold CoD.bare;simp[and_assoc]
def his0_b(c:CoD):band (band (ieq c.h0 0) (band (ieq c.h1 0) (band (ieq c.h2 0) (band (ieq c.h3 0) (band (ieq c.h4 0) (band (ieq c.h5 0) (band (ieq c.h6 0) (band (ieq c.h7 0) (band (ieq c.h8 0) true))))))))) (band (ieq c.hs 0) true)=decide c.his0:=by
 rw[Bool.eq_iff_iff,decide_eq_true_eq];unfold CoD.his0;simp
def qright_fn(c:CoD):Ct prog 304 {} [c.sv] (λr=>r=[B (decide c.P)]):=by
 have no:¬c.P->[B false]=[B (decide c.P)]:=λh=>by simp[h]
 refine qright_nf _ _ _ _ _ _ _ _ _ _ _ _ _ _ _ _ _ _ _ _ _ _ (Zaa (λh=>no (λa=>?_)) (λh=>?_))
 .simp only[bor_t,ilt_eq,igt_eq,decide_eq_true_eq,slen_eq]at h;have:=a.1.1;simp[namB]at this;omega
 simp only[bor_f,ilt_eq,igt_eq,decide_eq_false_iff_not,slen_eq]at h;have h:namB c.nm=true:=by simp[namB];omega
 rw[bare_b,his0_b];refine⟨λx=>0<=x/\x<=3/\∀i,0<=i->i<x->heldP (ctAt c.c0 c.c1 c.c2 i),λx=>(3-x).toNat,⟨Vo,Vo,λi l n=>Vo⟩,?_⟩;rintro x ⟨x0,x3,hi⟩;refine Zaa (λhx=>?_) (λhx=>?_)
 .simp at hx;rw[Zac];refine⟨λb=>b=!decide (heldP (ctAt c.c0 c.c1 c.c2 x)),λ_=>0,?_,?_⟩
  .have q:∀{v:Int} {m:Prop},m->ctAt c.c0 c.c1 c.c2 x=v->ilt v 0=true->(m/\true=!decide (heldP (ctAt c.c0 c.c1 c.c2 x))):=by
    intro v m p s d;refine⟨p,?_⟩;rw[s];simp at d;have:¬heldP v:=by unfold heldP;omega
    simp[this]
   have j:∀{v u:Int} {m:Prop},m->ctAt c.c0 c.c1 c.c2 x=v->ilt v 0=false->ctAt c.c0 c.c1 c.c2 x=u->(m/\bpick false true (igt u 1099511627776)=!decide (heldP (ctAt c.c0 c.c1 c.c2 x))):=by
    intro v u m p s d t;refine⟨p,?_⟩;rw[s]at t;subst t;rw[s];simp at d;by_cases k:v<=1099511627776
    .have:heldP v:=⟨d,k⟩
     simp[this,k]
    .have:¬heldP v:=λa=>k a.2;simp[this];omega
   refine⟨⟨x0,hx⟩,λe=>Zaa (λd=>q rfl (by rw[e];rfl) d) (λd=>⟨⟨x0,hx⟩,λf=>j rfl (by rw[e];rfl) d (by rw[f];rfl),λf=>j rfl (by rw[e];rfl) d (by rw[f];rfl),λf=>j rfl (by rw[e];rfl) d (by rw[f];rfl),trivial⟩),
    λe=>Zaa (λd=>q rfl (by rw[e];rfl) d) (λd=>⟨⟨x0,hx⟩,λf=>j rfl (by rw[e];rfl) d (by rw[f];rfl),λf=>j rfl (by rw[e];rfl) d (by rw[f];rfl),λf=>j rfl (by rw[e];rfl) d (by rw[f];rfl),trivial⟩),
    λe=>Zaa (λd=>q rfl (by rw[e];rfl) d) (λd=>⟨⟨x0,hx⟩,λf=>j rfl (by rw[e];rfl) d (by rw[f];rfl),λf=>j rfl (by rw[e];rfl) d (by rw[f];rfl),λf=>j rfl (by rw[e];rfl) d (by rw[f];rfl),trivial⟩),trivial⟩
  .rintro b rfl;refine Zaa (λk=>no (λa=>?_)) (λk=>⟨rfl,⟨Vo,Vo,ct_step hi (by simpa using k)⟩,mlt (by dsimp only;omega)⟩);simp at k;exact k (Zow.1 a.1.2 x x0 hx)
 .simp at hx;obtain rfl:x=3:=Vo
  have w:=Zow.2 hi;have fin:∀b:Bool,(b=true↔c.roleP)->[B b]=[B (decide c.P)]:=λb k=>by have:b=decide c.P:=(by rw[Bool.eq_iff_iff,decide_eq_true_eq,k];exact⟨λa=>⟨⟨h,w⟩,a⟩,λa=>a.2⟩);rw[this]
  unfold CoD.roleP at fin;refine Zaa (λl=>?_) (λl=>Zaa (λn=>?_) (λn=>?_))
  .simp at l;rw[if_pos l]at fin;refine Zaa (λg=>?_) (λg=>?_)
   .simp at g;refine Cl.of (Zx0 c.wd c.sl c.cl) ⟨_,rfl,Zaa (λo=>?_) (λo=>?_)⟩
    .simp at o;refine Cl.of (Zmv _ _ _ _ _ _ _ _ _ _) ⟨_,rfl,fin _ ?_⟩;unfold CoD.his;simp[g,o]
    .simp at o;exact fin _ (by simp[o])
   .simp at g;have:¬(0<=c.mo/\c.mo<=2):=Vo;exact fin _ (by simp[this])
  .simp at l n;rw[if_neg l,if_pos n]at fin;refine Zaa (λg=>?_) (λg=>?_)
   .simp at g;refine Cl.of (Znb c.rm c.ha) ⟨_,rfl,fin _ ?_⟩;simp[g]
   .refine fin _ ?_;simp only[Bool.false_eq_true,false_iff];intro a;simp[a.1.1.1,a.1.1.2,a.1.2]at g
  .simp at l n;rw[if_neg l,if_neg n]at fin;refine Zaa (λg=>?_) (λg=>?_)
   .simp at g;refine Cl.of (Zmv _ _ _ _ _ _ _ _ _ _) ⟨_,rfl,Zaa (λa=>?_) (λa=>?_)⟩
    .simp at a;have e2:c.his:=a;refine Cl.of (Znb c.rm c.ha) ⟨_,rfl,fin _ ?_⟩;simp[g,e2]
    .simp at a;have e2:¬c.his:=a;exact fin _ (by simp[e2])
   .refine fin _ ?_;simp only[Bool.false_eq_true,false_iff];intro a;simp[a.1,a.2.1.1,a.2.1.2]at g
def co0:CoD:=⟨bA [],0,0,0,0,[],0,0,0,0,0,0,0,0,0,0,0,0,0,0,0⟩
def newC(c:BA)(b a:Int):CoD×Int:=
 if namB c=false then(co0,3)else if¬(1<=b/\b<=3)then(co0,4)else if¬timP a then(co0,5)
 else if b=1 then({co0 with nm:=c,ro:=b,wd:=10,sl:=a/10,cl:=[(0,0),(0,0),(0,0),(0,0)]},0)else({co0 with nm:=c,ro:=b,rm:=10,ha:=10},0)
def wnew4(h:timP i):wnewR 10 4 i=[win3 10 (i/10) (cR [(0,0),(0,0),(0,0),(0,0)]),I 0]:=by
 unfold wnewR;rw[if_pos ⟨Vo,h⟩];rfl
def pnew_fn(d:BA)(b a:Int):Ct prog 114 {} [S d,I b,I a] (λr=>r=[(newC d b a).1.sv,I (newC d b a).2]):=by
 refine pnew_nf (Cl.of (named_fn d) ⟨_,rfl,Zaa (λh=>?_) (λh=>Zaa (λe=>?_) (λe=>Zaa (λf=>?_) (λf=>?_)))⟩)
 .simp at h;simp[newC,h,co0]
 .simp at h;simp only[bor_t,ilt_eq,igt_eq,decide_eq_true_eq]at e;have:¬(1<=b/\b<=3):=Vo;simp only[newC,h,W8,if_false,this,not_false_eq_true,if_true];rfl
 .simp at h;simp only[bor_f,ilt_eq,igt_eq,decide_eq_false_iff_not]at e;simp only[bor_t,ilt_eq,igt_eq,decide_eq_true_eq]at f;have e1:(1<=b/\b<=3):=Vo;have e2:¬timP a:=by unfold timP;omega
  simp only[newC,h,W8,if_false,e1,e2,not_true_eq_false,not_false_eq_true,if_true,and_self];rfl
 .simp at h;simp only[bor_f,ilt_eq,igt_eq,decide_eq_false_iff_not]at e f;have e1:(1<=b/\b<=3):=Vo;have e2:timP a:=by unfold timP;omega
  refine Zaa (λc=>?_) (λc=>?_)
  .simp at c;have g:=Zr7 10 4 a;rw[wnew4 e2]at g;refine Cl.of g ⟨_,_,_,_,rfl,?_⟩;rw[c]at e1|-;simp only[newC,h,W8,if_false,e1,e2,not_true_eq_false,if_true];rfl
  .simp at c;refine Cl.of (Zs1 10 10) ⟨_,_,_,rfl,?_⟩;simp only[newC,h,W8,if_false,e1,e2,not_true_eq_false,c,and_self];rfl
def chkE(e:EvD):Int:=chkI e.s e.a e.k e.c e.x e.y e.z
def cfgP(a:Int)(e:EvD):Prop:=if a=1 then((1<=e.x/\1<=e.y)/\e.y<=16)/\e.z=0 else if a=2 then e.y<=e.x/\e.z=0 else e.y=0/\e.z=0
instance (ro:Int) (e:EvD):Decidable (cfgP ro e):=by unfold cfgP;infer_instance
def mayI(c:CoD)(e:EvD):Int:=
 if¬c.P then 1 else if chkE e≠0 then chkE e else if e.c≠c.nm then 6 else if e.k=1 then 7 else if roleI e.k≠0/\roleI e.k≠c.ro then 8 else if e.k=2/\¬cfgP c.ro e then 4 else 0
def Zx1(a:Int)(e:EvD):Ct prog 258 {} [I a,e.sv] (λr=>r=[B (decide (cfgP a e))]):=by
 refine Zy0 (Zaa (λh=>?_) (λh=>Zaa (λb=>?_) (λb=>?_)))
 .simp at h;have:bpick (bpick (bpick (ige e.x 1) (ige e.y 1) false) (ile e.y 16) false) (ieq e.z 0) false=decide (cfgP a e):=(by rw[Bool.eq_iff_iff,decide_eq_true_eq];unfold cfgP;rw[if_pos h];simp);rw[this]
 .simp at h b;have:bpick (ile e.y e.x) (ieq e.z 0) false=decide (cfgP a e):=(by rw[Bool.eq_iff_iff,decide_eq_true_eq];unfold cfgP;rw[if_neg h,if_pos b];simp);rw[this]
 .simp at h b;have:bpick (ieq e.y 0) (ieq e.z 0) false=decide (cfgP a e):=(by rw[Bool.eq_iff_iff,decide_eq_true_eq];unfold cfgP;rw[if_neg h,if_neg b];simp);rw[this]
def pmay_fn(c:CoD)(e:EvD):Ct prog 177 {} [c.sv,e.sv] (λr=>r=[I (mayI c e)]):=by
 refine pmay_nf (Cl.of (Zqw c) ⟨_,rfl,Zaa (λh=>?_) (λh=>?_)⟩)
 .simp at h;simp[mayI,h]
 simp at h;refine Cl.of (Znx e.s e.a e.k e.c e.x e.y e.z) ⟨_,rfl,Zaa (λb=>?_) (λb=>?_)⟩
 .simp at b;have b:chkE e≠0:=b;simp only[mayI,h,b,not_true_eq_false,if_false,ne_eq,not_false_eq_true,if_true];rfl
 simp at b;have b:chkE e=0:=b;refine Cl.of (role_fn e.k) ⟨_,rfl,?_⟩;rw[sne_d];refine Zaa (λd=>?_) (λd=>Zaa (λg=>?_) (λg=>Zaa (λj=>?_) (λj=>Zaa (λi=>?_) (λi=>?_))))
 .simp at d;simp[mayI,h,b,d]
 .simp at d g;simp[mayI,h,b,d,g]
 .simp at d g j;simp[mayI,h,b,d,g,j]
 .simp at d g i;have f:¬(¬roleI e.k=0/\¬roleI e.k=c.ro):=λl=>by simp[l.1,l.2]at j
  refine Cl.of (Zx1 c.ro e) ⟨_,rfl,Zaa (λm=>?_) (λm=>?_)⟩
  .simp at m;have n:(2:Int)≠1:=Vo;rw[i]at f;simp only[mayI,h,b,d,i,m,f,not_true_eq_false,if_false,ne_eq,not_false_eq_true,if_true,and_self,n]
  .simp at m;rw[i]at f;have n:¬(2:Int)=1:=Vo;simp only[mayI,h,b,d,i,m,f,not_true_eq_false,if_false,ne_eq,and_false,n]
 .simp at d g i;have f:¬(¬roleI e.k=0/\¬roleI e.k=c.ro):=λl=>by simp[l.1,l.2]at j
  simp only[mayI,h,b,d,g,i,f,not_true_eq_false,if_false,ne_eq,false_and]
def ptell_nf{O P R T U V W X Y Z rm ha c0 c1 c2:Int}{x y M:Int}(h:Cl prog 177 sP ([SV.agg [S s,I i,I j,I k,I b,SL 2 l,I O,I P,I R,I T,I U,I V,I W,I X,I Y,I Z,I rm,I ha,I c0,I c1,I c2],SV.agg [I c,I e,I z,S t,I x,I y,I M]]) (λrs=>∃x1,(rs=[I x1])/\ifB (ine x1 0) (Q ([SV.agg [S s,I i,I j,I k,I b,SL 2 l,I O,I P,I R,I T,I U,I V,I W,I X,I Y,I Z,I rm,I ha,I c0,I c1,I c2],I x1])) (ifB (ieq z 2) (Cl prog 185 sP ([SV.agg [S s,I i,I j,I k,I b,SL 2 l,I O,I P,I R,I T,I U,I V,I W,I X,I Y,I Z,I rm,I ha,I c0,I c1,I c2],SV.agg [I c,I e,I z,S t,I x,I y,I M]]) (λK=>∃A u,∃v w,∃C N,∃D E,∃F G,∃d a,∃g L,∃mo m,∃n o,∃p q r,(K=[SV.agg [S A,I u,I v,I w,I C,SL 2 N,I D,I E,I F,I G,I d,I a,I g,I L,I mo,I m,I n,I o,I p,I q,I r]])/\Q ([SV.agg [S A,I u,I v,I w,I C,SL 2 N,I D,I E,I F,I G,I d,I a,I g,I L,I mo,I m,I n,I o,I p,I q,I r],I 0]))) (ifB (ieq z 3) (Cl prog 186 sP ([SV.agg [I k,I b,SL 2 l],I e,B (ieq x 0)]) (λK=>∃u v,∃N w,(K=[SV.agg [I u,I v,SL 2 N],I w])/\Cl prog 187 sP ([SV.agg [I O,I P,I R,I T,I U,I V,I W,I X,I Y,I Z],I y]) (λa0=>∃C D,∃E F,∃G d,∃a g,∃L mo,(a0=[SV.agg [I C,I D,I E,I F,I G,I d,I a,I g,I L,I mo]])/\Cl prog 188 sP ([SV.agg [S s,I i,I j,I u,I v,SL 2 N,I C,I D,I E,I F,I G,I d,I a,I g,I L,I mo,I rm,I ha,I c0,I c1,I c2],I x]) (λac=>∃A m,∃n o,∃p l1,∃q r,∃H J,∃a1 a2,∃a3 a4,∃a5 a6,∃a7 a8,∃a9 aa ab,(ac=[SV.agg [S A,I m,I n,I o,I p,SL 2 l1,I q,I r,I H,I J,I a1,I a2,I a3,I a4,I a5,I a6,I a7,I a8,I a9,I aa,I ab]])/\Q ([SV.agg [S A,I m,I n,I o,I p,SL 2 l1,I q,I r,I H,I J,I a1,I a2,I a3,I a4,I a5,I a6,I a7,I a8,I a9,I aa,I ab],I 0]))))) (ifB (ieq z 4) (ifB (ieq x 0) (Cl prog 178 sP [I k,I (rlen l),I e] (λK=>∃u v,∃N w,(K=[SV.agg [I u,I v,SL 2 N],I w])/\Q ([SV.agg [S s,I i,I x,I u,I v,SL 2 N,I O,I P,I R,I T,I U,I V,I W,I X,I Y,I Z,I rm,I ha,I c0,I c1,I c2],I 0]))) (Q ([SV.agg [S s,I i,I x,I k,I b,SL 2 l,I O,I P,I R,I T,I U,I V,I W,I X,I Y,I Z,I rm,I ha,I c0,I c1,I c2],I 0]))) (ifB (ieq z 5) (Cl prog 189 sP ([SV.agg [I rm,I ha],I x]) (λK=>∃u v sl,(K=[SV.agg [I u,I v],B sl])/\Cl prog 188 sP ([SV.agg [S s,I i,I j,I k,I b,SL 2 l,I O,I P,I R,I T,I U,I V,I W,I X,I Y,I Z,I u,I v,I c0,I c1,I c2],I 0]) (λa0=>∃A w,∃C D,∃E N,∃F G,∃d a,∃g L,∃mo m,∃n o,∃p q,∃r H J,(a0=[SV.agg [S A,I w,I C,I D,I E,SL 2 N,I F,I G,I d,I a,I g,I L,I mo,I m,I n,I o,I p,I q,I r,I H,I J]])/\Q ([SV.agg [S A,I w,I C,I D,I E,SL 2 N,I F,I G,I d,I a,I g,I L,I mo,I m,I n,I o,I p,I q,I r,I H,I J],I 0])))) (ifB (ieq z 6) (Cl prog 188 sP ([SV.agg [S s,I i,I j,I k,I b,SL 2 l,I O,I P,I R,I T,I U,I V,I W,I X,I Y,I Z,I rm,I ha,I c0,I c1,I c2],I 1]) (λK=>∃A u,∃v w,∃C N,∃D E,∃F G,∃d a,∃g L,∃mo m,∃n o,∃p q r,(K=[SV.agg [S A,I u,I v,I w,I C,SL 2 N,I D,I E,I F,I G,I d,I a,I g,I L,I mo,I m,I n,I o,I p,I q,I r]])/\Q ([SV.agg [S A,I u,I v,I w,I C,SL 2 N,I D,I E,I F,I G,I d,I a,I g,I L,I mo,I m,I n,I o,I p,I q,I r],I 0]))) (ifB (ieq z 7) (Cl prog 190 sP ([SV.agg [I rm,I ha],I x]) (λK=>∃u v,(K=[SV.agg [I u,I v]])/\Cl prog 188 sP ([SV.agg [S s,I i,I j,I k,I b,SL 2 l,I O,I P,I R,I T,I U,I V,I W,I X,I Y,I Z,I u,I v,I c0,I c1,I c2],I 2]) (λa0=>∃A w,∃C D,∃E N,∃F G,∃d a,∃g L,∃mo m,∃n o,∃p q,∃r H J,(a0=[SV.agg [S A,I w,I C,I D,I E,SL 2 N,I F,I G,I d,I a,I g,I L,I mo,I m,I n,I o,I p,I q,I r,I H,I J]])/\Q ([SV.agg [S A,I w,I C,I D,I E,SL 2 N,I F,I G,I d,I a,I g,I L,I mo,I m,I n,I o,I p,I q,I r,I H,I J],I 0])))) (ifB (ieq z 8) (Cl prog 189 sP ([SV.agg [I rm,I ha],I 1]) (λK=>∃u v sl,(K=[SV.agg [I u,I v],B sl])/\Cl prog 188 sP ([SV.agg [S s,I i,I x,I k,I b,SL 2 l,I O,I P,I R,I T,I U,I V,I W,I X,I Y,I Z,I u,I v,I c0,I c1,I c2],I 0]) (λa0=>∃A w,∃C D,∃E N,∃F G,∃d a,∃g L,∃mo m,∃n o,∃p q,∃r H J,(a0=[SV.agg [S A,I w,I C,I D,I E,SL 2 N,I F,I G,I d,I a,I g,I L,I mo,I m,I n,I o,I p,I q,I r,I H,I J]])/\Q ([SV.agg [S A,I w,I C,I D,I E,SL 2 N,I F,I G,I d,I a,I g,I L,I mo,I m,I n,I o,I p,I q,I r,I H,I J],I 0])))) (ifB (ieq z 9) (Cl prog 187 sP ([SV.agg [I O,I P,I R,I T,I U,I V,I W,I X,I Y,I Z],I x]) (λK=>∃u v,∃w C,∃D E,∃F G,∃d a,(K=[SV.agg [I u,I v,I w,I C,I D,I E,I F,I G,I d,I a]])/\Cl prog 188 sP ([SV.agg [S s,I i,I j,I k,I b,SL 2 l,I u,I v,I w,I C,I D,I E,I F,I G,I d,I a,I rm,I ha,I c0,I c1,I c2],I 1]) (λa0=>∃A g,∃L mo,∃m N,∃n o,∃p q,∃r H,∃J a1,∃a2 a3,∃a4 a5,∃a6 a7 a8,(a0=[SV.agg [S A,I g,I L,I mo,I m,SL 2 N,I n,I o,I p,I q,I r,I H,I J,I a1,I a2,I a3,I a4,I a5,I a6,I a7,I a8]])/\Q ([SV.agg [S A,I g,I L,I mo,I m,SL 2 N,I n,I o,I p,I q,I r,I H,I J,I a1,I a2,I a3,I a4,I a5,I a6,I a7,I a8],I 0])))) (ifB (ieq z 10) (Cl prog 188 sP ([SV.agg [S s,I i,I 0,I k,I b,SL 2 l,I O,I P,I R,I T,I U,I V,I W,I X,I Y,I Z,I rm,I ha,I c0,I c1,I c2],I 2]) (λK=>∃A u,∃v w,∃C N,∃D E,∃F G,∃d a,∃g L,∃mo m,∃n o,∃p q r,(K=[SV.agg [S A,I u,I v,I w,I C,SL 2 N,I D,I E,I F,I G,I d,I a,I g,I L,I mo,I m,I n,I o,I p,I q,I r]])/\Q ([SV.agg [S A,I u,I v,I w,I C,SL 2 N,I D,I E,I F,I G,I d,I a,I g,I L,I mo,I m,I n,I o,I p,I q,I r],I 0]))) (Q ([SV.agg [S s,I i,I j,I k,I b,SL 2 l,I O,I P,I R,I T,I U,I V,I W,I X,I Y,I Z,I rm,I ha,I c0,I c1,I c2],I 0]))))))))))))):Ct prog 120 {} [cmp21 s i j k b l O P R T U V W X Y Z rm ha c0 c1 c2,ev7 c e z t x y M] Q:=
 fN SgT SvT func120 h
def psame_nf{U m n o p q R N d u v w x y z:Int}{e g O P:Int}{A C D E F G H J K L a c M e1 e2:Int}(h:ifB (bpick (bpick (bpick (bpick (seq s t) (ieq i e) false) (ieq j g) false) (ieq k O) false) (ieq b P) false) (Cl prog 164 sP [SL 2 l,SL 2 r] (λV=>∃T,(V=[B T])/\Q [B (bpick (bpick (bpick (bpick true T false) (band (band (ieq U A) (band (ieq m C) (band (ieq n D) (band (ieq o E) (band (ieq p F) (band (ieq q G) (band (ieq R H) (band (ieq N J) (band (ieq d K) true))))))))) (band (ieq u L) true)) false) (band (ieq v a) (band (ieq w c) true)) false) (band (ieq x M) (band (ieq y e1) (band (ieq z e2) true))) false)])) (Q [B (bpick (bpick (bpick false (band (band (ieq U A) (band (ieq m C) (band (ieq n D) (band (ieq o E) (band (ieq p F) (band (ieq q G) (band (ieq R H) (band (ieq N J) (band (ieq d K) true))))))))) (band (ieq u L) true)) false) (band (ieq v a) (band (ieq w c) true)) false) (band (ieq x M) (band (ieq y e1) (band (ieq z e2) true))) false)])):Ct prog 102 {} [cmp21 s i j k b l U m n o p q R N d u v w x y z,cmp21 t e g O P r A C D E F G H J K L a c M e1 e2] Q:=
 fN SgT SvT func102 h
def cntC(c:CoD)(i:Int):CoD:={c with c0:=if i=0 then upI c.c0 1 else c.c0,c1:=if i=1 then upI c.c1 1 else c.c1,c2:=if i=2 then upI c.c2 1 else c.c2}
def hadC(c:CoD)(n:Int):CoD:=if c.his/\0<=n then{c with h0:=hcI n 0 c.h0,h1:=hcI n 1 c.h1,h2:=hcI n 2 c.h2,h3:=hcI n 3 c.h3,h4:=hcI n 4 c.h4,h5:=hcI n 5 c.h5,h6:=hcI n 6 c.h6,h7:=hcI n 7 c.h7,h8:=hcI n 8 c.h8,hs:=upI c.hs n}else c
def Zvd(c:CoD)(n:Int):haddS c.h0 c.h1 c.h2 c.h3 c.h4 c.h5 c.h6 c.h7 c.h8 c.hs n=his10 (hadC c n).h0 (hadC c n).h1 (hadC c n).h2 (hadC c n).h3 (hadC c n).h4 (hadC c n).h5 (hadC c n).h6 (hadC c n).h7 (hadC c n).h8 (hadC c n).hs:=by
 unfold haddS hadC CoD.his
 split<;>rfl
def Zdq(c:CoD)(n:Int):(hadC c n).nm=c.nm/\(hadC c n).ro=c.ro/\(hadC c n).mo=c.mo/\(hadC c n).wd=c.wd/\(hadC c n).sl=c.sl/\(hadC c n).cl=c.cl/\(hadC c n).rm=c.rm/\(hadC c n).ha=c.ha/\(hadC c n).c0=c.c0/\(hadC c n).c1=c.c1/\(hadC c n).c2=c.c2:=by
 unfold hadC
 split<;>exact⟨rfl,rfl,rfl,rfl,rfl,rfl,rfl,rfl,rfl,rfl,rfl⟩
def Zcq(c:CoD)(i:Int)(b:0<=i)(d:i<3):Ct prog 188 {} [c.sv,I i] (λr=>r=[(cntC c i).sv]):=by
 refine Zy1 ⟨⟨b,d⟩,λe=>?_,λe=>?_,λe=>?_,trivial⟩
 .refine Cl.of (up_fn _ _) ⟨_,rfl,⟨b,d⟩,λ_=>?_,λa=>absurd (e.symm.trans a) Vd,λa=>absurd (e.symm.trans a) Vd,trivial⟩;subst e;rfl
 .refine Cl.of (up_fn _ _) ⟨_,rfl,⟨b,d⟩,λa=>absurd (e.symm.trans a) Vd,λ_=>?_,λa=>absurd (e.symm.trans a) Vd,trivial⟩;subst e;rfl
 .refine Cl.of (up_fn _ _) ⟨_,rfl,⟨b,d⟩,λa=>absurd (e.symm.trans a) Vd,λa=>absurd (e.symm.trans a) Vd,λ_=>?_,trivial⟩;subst e;rfl
def winC(c:CoD)(e:EvD):CoD:={c with sl:=(wadS c.wd c.sl c.cl e.a (ieq e.x 0)).1,cl:=(wadS c.wd c.sl c.cl e.a (ieq e.x 0)).2}
def zer(n:Nat):List (Int×Int):=List.replicate n (0,0)
def tellC(c:CoD)(e:EvD):CoD:=
 if e.k=2 then(if c.ro=1 then{c with wd:=e.x,sl:=e.a/e.x,cl:=zer e.y.toNat}else if c.ro=2 then{c with rm:=e.x,ha:=e.y}else{c with rm:=e.x,ha:=e.x})
 else if e.k=3 then cntC (hadC (winC c e) e.y) e.x
 else if e.k=4 then(if e.x=0 then{c with mo:=e.x,sl:=e.a/c.wd,cl:=zer c.cl.length}else{c with mo:=e.x})
 else if e.k=5 then cntC {c with ha:=takeH c.rm c.ha e.x} 0
 else if e.k=6 then cntC c 1
 else if e.k=7 then cntC {c with ha:=putH c.rm c.ha e.x} 2
 else if e.k=8 then cntC {c with mo:=e.x,ha:=takeH c.rm c.ha 1} 0
 else if e.k=9 then cntC (hadC c e.x) 1
 else cntC {c with mo:=0} 2
def tellR(c:CoD)(e:EvD):List SV:=if mayI c e=0 then[(tellC c e).sv,I 0]else[c.sv,I (mayI c e)]
structure MayOK(c:CoD)(e:EvD):Prop where
 right:c.P
 chk:chkE e=0
 name:e.c=c.nm
 k1:e.k≠1
 role:roleI e.k=0\/roleI e.k=c.ro
 cfg:e.k=2->cfgP c.ro e
def Zot{c:CoD}{e:EvD}:mayI c e=0↔MayOK c e:=by
 unfold mayI;constructor
 .intro h
  split at h
  .simp at h
  .split at h
   next d b=>exact absurd h b
   .split at h
    .simp at h
    .split at h
     .simp at h
     .split at h
      .simp at h
      .split at h
       .simp at h
       .rename_i d b g i j l;refine⟨Yw.1 d,Yw.1 b,Yw.1 g,i,?_,λm=>Yw.1 (λf=>l ⟨m,f⟩)⟩;by_cases hr:roleI e.k=0
        .exact .inl hr
        .exact .inr (Yw.1 (λf=>j ⟨hr,f⟩))
 .rintro⟨d,b,g,i,j,l⟩;rw[if_neg (by simp[d]),if_neg (by simp[b]),if_neg (by simp[g]),if_neg i,if_neg (λa=>j.elim a.1 a.2),if_neg (λa=>a.2 (l a.1))]
def chkE_zero{e:EvD}(h:chkE e=0):(1<=e.k/\e.k<=10)/\(1<=e.c.size/\e.c.size<=24)/\(lo1 e.k<=e.x/\e.x<=hi1 e.k/\0<=e.y/\e.y<=hi2 e.k/\0<=e.z/\e.z<=hi3 e.k)/\timP e.a/\(0<=e.s/\e.s<=4294967296):=by
 obtain⟨f,b,d,i,j⟩:=chk0 h;have f:¬(e.k<1\/10<e.k):=λg=>f ((many0 _).2 g);have b:1<=e.c.size/\e.c.size<=24:=(by simpa[namB]using b);have d:lo1 e.k<=e.x/\e.x<=hi1 e.k/\0<=e.y/\e.y<=hi2 e.k/\0<=e.z/\e.z<=hi3 e.k:=(by simpa[valB]using d);exact⟨Vo,b,d,by unfold timP;omega,Vo⟩
def hi_le(k:Int):0<=lo1 k/\hi1 k<=2147483647/\hi2 k<=2147483647/\hi3 k<=2147483647:=by
 unfold lo1 hi1 hi2 hi3;refine⟨?_,?_,?_,?_⟩<;>repeat' split
 all_goals omega
def role_of{c:CoD}{e:EvD}(ok:MayOK c e):(e.k=3\/e.k=4->c.ro=1)/\(e.k=5\/e.k=6\/e.k=7->c.ro=2)/\(e.k=8\/e.k=9\/e.k=10->c.ro=3):=by
 have h:=ok.role;refine⟨λa=>?_,λa=>?_,λa=>?_⟩
 .rcases a with a|a<;>rw[a]at h<;>simp[roleI]at h<;>omega
 .rcases a with a|a|a<;>rw[a]at h<;>simp[roleI]at h<;>omega
 .rcases a with a|a|a<;>rw[a]at h<;>simp[roleI]at h<;>omega
def Zou{c:CoD}(h:c.P):c.ro=1\/c.ro=2\/c.ro=3:=by
 have:=h.2;unfold CoD.roleP at this;by_cases h1:c.ro=1
 .exact .inl h1
 .by_cases h2:c.ro=2
  .exact .inr (.inl h2)
  .rw[if_neg h1,if_neg h2]at this;exact .inr (.inr this.1)
def Zqs{c:CoD}(h:c.P)(a:c.ro=1):((0<=c.mo/\c.mo<=2)/\winP c.wd c.sl c.cl)/\c.his/\(c.rm=0/\c.ha=0):=by
 have:=h.2;unfold CoD.roleP at this;rwa[if_pos a]at this
def right2{c:CoD}(h:c.P)(a:c.ro=2):((c.mo=0/\c.bare)/\c.his0)/\bktP c.rm c.ha:=by
 have:=h.2;unfold CoD.roleP at this;rwa[if_neg Vo,if_pos a]at this
def Zve{c:CoD}(h:c.P)(a:c.ro=3):((0<=c.mo/\c.mo<=2147483647)/\c.bare)/\c.his/\bktP c.rm c.ha:=by
 have:=h.2;unfold CoD.roleP at this;rw[if_neg Vo,if_neg Vo]at this;exact this.2
def wnew_cfg{c:CoD}{e:EvD}(ok:MayOK c e)(d:e.k=2)(f:c.ro=1):wnewR e.x e.y e.a=[win3 e.x (e.a/e.x) (cR (zer e.y.toNat)),I 0]:=by
 obtain⟨h,i,c3,g,j⟩:=chkE_zero ok.chk;have b:=ok.cfg d;unfold cfgP at b;rw[if_pos f]at b;have:=hi_le e.k;unfold wnewR;rw[if_pos ⟨Vo,g⟩];rfl
def wnew_trip{c:CoD}{e:EvD}(ok:MayOK c e)(d:c.ro=1):wnewR c.wd c.cl.length e.a=[win3 c.wd (e.a/c.wd) (cR (zer c.cl.length)),I 0]:=by
 obtain⟨g,h,c3,f,i⟩:=chkE_zero ok.chk;have b:=(Zqs ok.right d).1.2;unfold wnewR;rw[if_pos ⟨⟨b.1,by have:=b.2.2.1;omega⟩,f⟩];rfl
def bnew_ok(h:bktP i b):bnewR i b=[bkt2 i b,I 0]:=by unfold bnewR;rw[if_pos h]
def config_fn(c:CoD)(e:EvD)(ok:MayOK c e)(g:e.k=2):Ct prog 185 {} [c.sv,e.sv] (λr=>r=[(tellC c e).sv]):=by
 obtain⟨l,m,c3,n,o⟩:=chkE_zero ok.chk;have i:=ok.cfg g;have j:=hi_le e.k;unfold tellC;rw[if_pos g];refine config_nf (Zaa (λb=>?_) (λb=>Zaa (λf=>?_) (λf=>Zaa (λh=>?_) (λh=>?_))))
 .simp at b;have d:=Zr7 e.x e.y e.a;rw[wnew_cfg ok g b]at d;refine Cl.of d ⟨_,_,_,_,rfl,?_⟩;rw[if_pos b]
 .simp at b f;unfold cfgP at i;rw[if_neg b,if_pos f]at i;have d:=Zs1 e.x e.y;rw[bnew_ok (by unfold bktP;omega)]at d;refine Cl.of d ⟨_,_,_,rfl,?_⟩;rw[if_neg b,if_pos f]
 .simp at b f h;have d:=Zs1 e.x e.x;rw[bnew_ok (by unfold bktP;omega)]at d;refine Cl.of d ⟨_,_,_,rfl,?_⟩;rw[if_neg b,if_neg f]
 .simp at b f h;have:=Zou ok.right;omega

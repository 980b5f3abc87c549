import Derived.Test.YtaenkbbfockfgaaGreatDoorK10
import Derived.Test.YtaenkbbfockfgaaGreatDoorProg
import Derived.Laws.Externs
set_option linter.all false
set_option maxRecDepth 100000
variable{b c e i j k:Int}{n:Nat}{l r:Go.Px.LL}{Q:Go.Px.QQ}{s t:BA}{x:List Int}{o:Bool}{C:List Go.Px.SV}{g:Go.Proofs.YtaenkbbfockfgaaGreatDoor.Sx.StD}
namespace Go.Proofs.YtaenkbbfockfgaaGreatDoor
namespace Row
open Go Go.Px Go.Proofs Cmp Sx Cod Tryz
def rng(n:Int):Prop:=0<=n/\n<=9223372036854775807
def encN(l:List Int):List Int:=l.flatMap λn=>leb n.toNat
def Zpl(l m:List Int):encN (l++m)=encN l++encN m:=by simp[encN]
def Zwn(n:Int):encN [n]=leb n.toNat:=by simp[encN]
def Zwo:encN []=[]:=rfl
def flat(a:List (Int×Int)):List Int:=a.flatMap λp=>[p.1,p.2]
def Zpm(l:List (Int×Int)):(flat l).length=2*l.length:=by
 induction l with
 |nil=>rfl
 |cons x l a=>simp only[flat,Yg,List.length_append,List.length_cons,Y9]at a|-;omega
def flat_inj:∀{l m:List (Int×Int)},flat l=flat m->l=m
 | [],[],_=>rfl
 | [],y::m,h=>by simp[flat]at h
 |x::l,[],h=>by simp[flat]at h
 |x::l,y::m,h=>by simp only[flat,Yg,Y2,Y5,List.cons.injEq]at h;obtain⟨a,b,c⟩:=h;rw[flat_inj (l:=l) (m:=m) c];congr 1;exact Prod.ext a b
def bas(a c d e:Int)(b:List (Int×Int)):List Int:=[a,c]++(if a=1 then[d,e,(b.length:Int)]++flat b else[])
def hst(a:Int)(b:List Int):List Int:=if a=1\/a=3 then b else[]
def bck(a:Int)(bs:List Int):List Int:=if a=2\/a=3 then bs else[]
def numC(c:CoD):List Int:=bas c.ro c.mo c.wd c.sl c.cl++(hst c.ro [c.h0,c.h1,c.h2,c.h3,c.h4,c.h5,c.h6,c.h7,c.h8,c.hs]++(bck c.ro [c.rm,c.ha]++[c.c0,c.c1,c.c2]))
def encC(c:CoD):List Int:=leb c.nm.size++(txB c.nm++encN (numC c))
def encS(d:StD):List Int:=leb d.cs.length++(d.cs.flatMap encC++(leb d.q.toNat++leb d.t.toNat))
def zro(c:CoD):Prop:=(c.ro≠1->c.wd=0/\c.sl=0/\c.cl=[])/\(c.ro≠1->c.ro≠3->c.h0=0/\c.h1=0/\c.h2=0/\c.h3=0/\c.h4=0/\c.h5=0/\c.h6=0/\c.h7=0/\c.h8=0/\c.hs=0)/\(c.ro≠2->c.ro≠3->c.rm=0/\c.ha=0)
structure shp(c:CoD):Prop where
 z:zro c
 r:1<=c.ro/\c.ro<=3
 nm:c.nm.size<=24
 cl:c.cl.length<=16
 n:∀n∈numC c,rng n
def shp_of{c:CoD}(h:c.P):shp c/\∀n∈numC c,0<=n/\n<=1099511627776:=by
 obtain⟨⟨l,r⟩,f⟩:=h;simp only[namB,decide_eq_true_eq]at l;obtain⟨s,t,u⟩:=r;unfold heldP at s t u
 have d:zro c/\(1<=c.ro/\c.ro<=3)/\c.cl.length<=16/\∀n∈numC c,0<=n/\n<=1099511627776:=by
  unfold CoD.roleP at f
  split at f
  .rename_i j;obtain⟨⟨m,w1,w2,w3,w4⟩,b,g⟩:=f;simp only[CoD.his,hisP,heldP]at b;refine⟨⟨λe=>absurd j e,λe=>absurd j e,λ_ _=>g⟩,Vo,w3.2,λn a=>?_⟩;simp only[numC,bas,hst,bck,j,if_true,List.mem_append]at a;unfold timP at w2
   rcases a with a|a|a|a
   .simp only[List.mem_cons,YX,or_false]at a
    rcases a with(rfl|rfl)|(rfl|rfl|rfl)|a<;>try omega
    simp only[flat,List.mem_flatMap,List.mem_cons,YX,or_false]at a;obtain⟨p,o,rfl|rfl⟩:=a
    .have:=w4 p o;unfold heldP at this;omega
    .have:=w4 p o;unfold heldP at this;omega
   .simp at a
    rcases a with rfl|rfl|rfl|rfl|rfl|rfl|rfl|rfl|rfl|rfl<;>omega
   .simp at a
   .simp at a;rcases a with rfl|rfl|rfl<;>omega
  next j=>
   split at f
   .rename_i k;obtain⟨⟨⟨m,w1,w2,w3⟩,b,q⟩,g⟩:=f;unfold bktP at g;refine⟨⟨λ_=>⟨w1,w2,w3⟩,λ_ _=>⟨b.1,b.2.1,b.2.2.1,b.2.2.2.1,b.2.2.2.2.1,b.2.2.2.2.2.1,b.2.2.2.2.2.2.1,b.2.2.2.2.2.2.2.1,b.2.2.2.2.2.2.2.2,q⟩,λe=>absurd k e⟩,Vo,by rw[w3];simp,λn a=>?_⟩;simp only[numC,bas,hst,bck,k,List.mem_append]at a;simp at a
    rcases a with(rfl|rfl)|(rfl|rfl)|rfl|rfl|rfl<;>omega
   .obtain⟨i,⟨m,w1,w2,w3⟩,b,g⟩:=f;simp only[CoD.his,hisP,heldP]at b;unfold bktP at g;refine⟨⟨λ_=>⟨w1,w2,w3⟩,λ_ e=>absurd i e,λ_ e=>absurd i e⟩,Vo,by rw[w3];simp,λn a=>?_⟩;simp only[numC,bas,hst,bck,i,List.mem_append]at a;simp at a
    rcases a with(rfl|rfl)|(rfl|rfl|rfl|rfl|rfl|rfl|rfl|rfl|rfl|rfl)|(rfl|rfl)|rfl|rfl|rfl<;>omega
 exact⟨⟨d.1,d.2.1,l.2,d.2.2.1,λn a=>⟨(d.2.2.2 n a).1,by have:=(d.2.2.2 n a).2;omega⟩⟩,d.2.2.2⟩
def Ztm(a c d e:Int)(b:List (Int×Int)):(bas a c d e b).length=if a=1 then 5+2*b.length else 2:=by
 unfold bas;split
 .simp[Zpm];omega
 .rfl
def Zhc(a:Int)(l:List Int):(hst a l).length=if a=1\/a=3 then l.length else 0:=by unfold hst;split<;>simp
def Zi0(a:Int)(l:List Int):(bck a l).length=if a=2\/a=3 then l.length else 0:=by unfold bck;split<;>simp
def pre_ro{c:CoD}{x:List Int}(h:([i,b]++x)<+:numC c):c.ro=i/\c.mo=b:=by
 obtain⟨t,h⟩:=h;simp only[numC,bas,Y2,Y5,List.cons.injEq]at h;exact⟨h.1.symm,h.2.1.symm⟩
def pre_win{c:CoD}{x:List Int}(h:([1,i,j,b,k]++x)<+:numC c):c.ro=1/\c.mo=i/\c.wd=j/\c.sl=b/\(c.cl.length:Int)=k:=by
 have e:=(pre_ro (x:=[j,b,k]++x) (by simpa using h)).1;obtain⟨t,h⟩:=h;simp only[numC,bas,e,if_true,Y2,Y5,List.cons.injEq]at h;exact⟨e,h.2.1.symm,h.2.2.1.symm,h.2.2.2.1.symm,h.2.2.2.2.1.symm⟩
def pre_bas{c:CoD}{b:List (Int×Int)}{x:List Int}(h:(bas i j k e b++x)<+:numC c):
  c.ro=i/\(numC c).length=(bas i j k e b).length+((if i=1\/i=3 then 10 else 0)+((if i=2\/i=3 then 2 else 0)+3)):=by
 have g:=(pre_ro (x:=(if i=1 then[k,e,(b.length:Int)]++flat b else[])++x) (by simpa[bas]using h)).1;refine⟨g,?_⟩;simp only[numC,List.length_append,Ztm,Zhc,Zi0,g];by_cases h1:i=1
 .subst h1;have:=(pre_win (x:=flat b++x) (by simpa[bas]using h)).2.2.2.2;simp;omega
 .simp[h1]
def Zid{c:CoD}:5<=(numC c).length:=by
 simp only[numC,bas,List.length_append,List.length_cons,Y9];omega
def Ztn{a b x y:List Int}(h:(a++x)<+:(b++y))(c:a.length=b.length):a=b/\x<+:y:=by
 obtain⟨t,h⟩:=h;rw[List.append_assoc]at h;obtain⟨d,e⟩:=List.append_inj h c;exact⟨d,⟨t,e⟩⟩
def Zpn{c d:CoD}(o:zro c)(hd:zro d)(V:c.nm=d.nm)(h:numC c<+:numC d):c=d:=by
 have P:=pre_bas (c:=d) (by simpa[numC]using h);obtain⟨f,p⟩:=P;have Q:(bas c.ro c.mo c.wd c.sl c.cl).length=(bas d.ro d.mo d.wd d.sl d.cl).length:=(by have:(numC d).length=(bas d.ro d.mo d.wd d.sl d.cl).length+((if d.ro=1\/d.ro=3 then 10 else 0)+((if d.ro=2\/d.ro=3 then 2 else 0)+3)):=(by simp only[numC,List.length_append,Zhc,Zi0,List.length_cons,Y9]);rw[f]at this|-;omega);obtain⟨e1,q⟩:=Ztn h Q;have R:(hst c.ro [c.h0,c.h1,c.h2,c.h3,c.h4,c.h5,c.h6,c.h7,c.h8,c.hs]).length=(hst d.ro [d.h0,d.h1,d.h2,d.h3,d.h4,d.h5,d.h6,d.h7,d.h8,d.hs]).length:=(by simp only[Zhc,f];rfl);obtain⟨e2,r⟩:=Ztn q R;have T:(bck c.ro [c.rm,c.ha]).length=(bck d.ro [d.rm,d.ha]).length:=(by simp only[Zi0,f];rfl);obtain⟨m,g⟩:=Ztn r T;have e4:c.c0=d.c0/\c.c1=d.c1/\c.c2=d.c2:=(by obtain⟨t,g⟩:=g;simp at g;exact⟨g.1,g.2.1,g.2.2.1⟩);obtain⟨s,u,v⟩:=o;obtain⟨x,y,z⟩:=hd
 have w:c.mo=d.mo/\c.wd=d.wd/\c.sl=d.sl/\c.cl=d.cl:=by
  simp only[bas,f]at e1;by_cases hr:c.ro=1
  .simp only[hr,if_true,Y2,Y5,List.cons.injEq]at e1;exact⟨e1.2.1,e1.2.2.1,e1.2.2.2.1,flat_inj e1.2.2.2.2.2⟩
  .rw[if_neg hr,if_neg hr]at e1;obtain⟨i,j,n⟩:=s hr;obtain⟨k,l,b3⟩:=x Vo;simp at e1;exact⟨e1,by rw[i,k],by rw[j,l],by rw[n,b3]⟩
 have U:c.h0=d.h0/\c.h1=d.h1/\c.h2=d.h2/\c.h3=d.h3/\c.h4=d.h4/\c.h5=d.h5/\c.h6=d.h6/\c.h7=d.h7/\c.h8=d.h8/\c.hs=d.hs:=by
  by_cases hr:c.ro=1\/c.ro=3
  .simp only[hst,f,if_pos hr,List.cons.injEq]at e2;exact⟨e2.1,e2.2.1,e2.2.2.1,e2.2.2.2.1,e2.2.2.2.2.1,e2.2.2.2.2.2.1,e2.2.2.2.2.2.2.1,e2.2.2.2.2.2.2.2.1,e2.2.2.2.2.2.2.2.2.1,e2.2.2.2.2.2.2.2.2.2.1⟩
  .have a:=u (λe=>hr (.inl e)) (λe=>hr (.inr e));have b:=y (λe=>hr (.inl Vo)) (λe=>hr (.inr Vo));obtain⟨A,i,j,n,C,D,E,F,G,H⟩:=a;obtain⟨J,k,l,b3,K,b5,L,M,N,O⟩:=b;exact⟨by rw[A,J],by rw[i,k],by rw[j,l],by rw[n,b3],by rw[C,K],by rw[D,b5],by rw[E,L],by rw[F,M],by rw[G,N],by rw[H,O]⟩
 have hb:c.rm=d.rm/\c.ha=d.ha:=by
  by_cases hr:c.ro=2\/c.ro=3
  .simp only[bck,f,if_pos hr,List.cons.injEq]at m;exact⟨m.1,m.2.1⟩
  .obtain⟨i,j⟩:=v (λe=>hr (.inl e)) (λe=>hr (.inr e));obtain⟨k,l⟩:=z (λe=>hr (.inl Vo)) (λe=>hr (.inr Vo));exact⟨by rw[i,k],by rw[j,l]⟩
 obtain⟨w1,w2,w3,w4⟩:=w;obtain⟨W,X,Y,Z,g4,g5,g6,g7,g8,g9⟩:=U
 cases c;cases d
 simp_all
def Zwp{p x l:List Int}(b:i=p.length)(h:p++x<+:l):∃t,l.drop i.toNat=x++t:=by
 obtain⟨t,rfl⟩:=h;refine⟨t,?_⟩;rw[b,Int.toNat_natCast,List.append_assoc,Wc]
def Zwq{p x l t:List Int}(b:i=p.length)(c:p<+:l)(h:l.drop i.toNat=x++t):p++x<+:l:=by
 obtain⟨s,rfl⟩:=c;rw[b,Int.toNat_natCast,Wc]at h;exact⟨t,by rw[h,List.append_assoc]⟩
def pre_more{p x y l:List Int}(h:p++(x++y)<+:l):p++x<+:l:=by
 obtain⟨t,h⟩:=h;exact⟨y++t,by rw[<-h];simp⟩
theorem leb_small{n:Nat}(h:n<18446744073709551616:=by omega):(leb n).length<=10:=Zee 9 _ (Nat.lt_of_lt_of_le h Vd)
def byts_encN(l:List Int):Byts (encN l):=λx hx=>by
 obtain⟨n,_,h⟩:=List.mem_flatMap.1 hx;exact Zwl _ _ h
def byts_encC(c:CoD):Byts (encC c):=(Zat _).app ((Zzh _).app (byts_encN _))
def byts_encS(d:StD):Byts (encS d):=
 (Zat _).app (Byts.app (λx hx=>by obtain⟨c,_,h⟩:=List.mem_flatMap.1 hx;exact byts_encC c x h) ((Zat _).app (Zat _)))
def encN_len(h:∀n∈x,rng n):(encN x).length<=10*x.length:=by
 induction x with
 |nil=>simp[encN]
 |cons l x d=>have c:=d λn b=>h n (by simp[b]);have a:=h l Vs;have e:(leb l.toNat).length<=10:=leb_small (by have:=a.2;have:=a.1;omega);simp only[encN,Yg,List.length_append,List.length_cons]at c|-;omega
def encC_len{c:CoD}(h:shp c):(encC c).length<=600:=by
 have a:=encN_len h.n;have b:(leb c.nm.size).length<=10:=leb_small (by have:=h.nm;omega)
 have d:(numC c).length<=52:=by
  simp only[numC,List.length_append,Ztm,Zhc,Zi0,List.length_cons,Y9];have:=h.cl
  split<;>split<;>split<;>omega
 have e:=h.nm;simp only[encC,List.length_append,Zcj];omega
def Zrd:∀{l:List CoD},(∀c∈l,shp c)->(l.flatMap encC).length<=600*l.length
 | [],_=>Vs
 |c::l,h=>by have a:=encC_len (h c Vs);have b:=Zrd (l:=l) λx hx=>h x (by simp[hx]);simp only[Yg,List.length_append,List.length_cons];omega
end Row
namespace Row
open Go Go.Px Go.Proofs Cmp Sx Tryz
abbrev st3(rows:LL)(s a:Int):SV:=.agg [SL 21 rows,I s,I a]
abbrev cu3(bs:LL)(a e:Int):SV:=.agg [SL 1 bs,I a,I e]
abbrev rd4(bs:LL)(a e:Int)(b:Bool):SV:=.agg [SL 1 bs,I a,I e,B b]
abbrev sL:Sig:=⟨[.lend [false,false,false,false]],[]⟩
def SgT:FuncId->Sig:=(λf=>bif Nat.beq f 70 then⟨[],[.own]⟩else bif Nat.beq f 224 then⟨[],[.own]⟩else bif Nat.beq f 91 then⟨[],[.own]⟩else bif Nat.beq f 158 then⟨[],[.own]⟩else bif Nat.beq f 140 then⟨[],[.own]⟩else bif Nat.beq f 316 then sL else bif Nat.beq f 357 then sL else bif Nat.beq f 317 then sL else bif Nat.beq f 358 then sL else{})
def SvT:TypeId->Sig:=λ_=>{}
def rnum_nf{bad:Bool}(h:Cl prog 128 sP ([SV.agg [SL 1 l,I b,I i]]) (λd=>∃bs x,∃a c,(d=[SV.agg [SL 1 bs,I x,I a],U64 c])/\ifB (bpick (ine a 0) true (igt c 9223372036854775807)) (Q ([I 0,SV.agg [SL 1 bs,I x,I a,B true]])) (Q ([I (wcv .i64 c),SV.agg [SL 1 bs,I x,I a,B bad]])))):Ct prog 316 ⟨[.lend [false,false,false,false]],[]⟩ [rd4 l b i bad] Q:=
 fN SgT SvT func316 h
def rtxt_nf{bad:Bool}(h:Cl prog 367 sP ([SV.agg [SL 1 l,I b,I i],I 24]) (λc=>∃bs x,∃a s,(c=[SV.agg [SL 1 bs,I x,I a],S s])/\ifB (ine a 0) (Q ([S (bA []),SV.agg [SL 1 bs,I x,I a,B true]])) (Q ([S s,SV.agg [SL 1 bs,I x,I a,B bad]])))):Ct prog 357 ⟨[.lend [false,false,false,false]],[]⟩ [rd4 l b i bad] Q:=
 fN SgT SvT func357 h
def rwin_nf{bad:Bool}(h:Cl prog 316 (Sig.mk ([Md.lend [false,false,false,false]]) []) ([SV.agg [SL 1 l,I i,I j,B bad]]) (λT=>∃x bs,∃H J b,(T=[I x,SV.agg [SL 1 bs,I H,I J,B b]])/\Cl prog 316 (Sig.mk ([Md.lend [false,false,false,false]]) []) ([SV.agg [SL 1 bs,I H,I J,B b]]) (λD=>∃v K,∃L M N,(D=[I v,SV.agg [SL 1 K,I L,I M,B N]])/\Cl prog 316 (Sig.mk ([Md.lend [false,false,false,false]]) []) ([SV.agg [SL 1 K,I L,I M,B N]]) (λE=>∃w y,∃z A O,(E=[I w,SV.agg [SL 1 y,I z,I A,B O]])/\ifB (igt w 16) (Q ([SV.agg ([I x,I v,SL 2 []]),SV.agg [SL 1 y,I z,I A,B true]])) (∃n:Int->LL->Int->Int->Bool->Int->Int->LL->Prop,∃m:Int->LL->Int->Int->Bool->Int->Int->LL->Nat,(n 0 y z A O x v [])/\∀o r,∀d e,∀b3 a,∀c er,(n o r d e b3 a c er)->ifB (ilt o w) (Cl prog 316 (Sig.mk ([Md.lend [false,false,false,false]]) []) ([SV.agg [SL 1 r,I d,I e,B b3]]) (λF=>∃g P,∃t u R,(F=[I g,SV.agg [SL 1 P,I t,I u,B R]])/\Cl prog 316 (Sig.mk ([Md.lend [false,false,false,false]]) []) ([SV.agg [SL 1 P,I t,I u,B R]]) (λG=>∃s C,∃p q b5,(G=[I s,SV.agg [SL 1 C,I p,I q,B b5]])/\((lsum (rlen er) (rlen ([[I g,I s]])))<=2147483648)/\(Sm (some ([[I 0,I 0,SV.slice 2 [] 1]])))/\(n (wadd .i64 o 1) C p q b5 a c (rapp er ([[I g,I s]])))/\Nl (m (wadd .i64 o 1) C p q b5 a c (rapp er ([[I g,I s]]))) (m o r d e b3 a c er)))) (Q ([SV.agg [I a,I c,SL 2 er],SV.agg [SL 1 r,I d,I e,B b3]]))))))):Ct prog 358 ⟨[.lend [false,false,false,false]],[]⟩ [rd4 l i j bad] Q:=
 fO SgT SvT (λk=>bif Nat.beq k 23 then some {slots:=[(22,false,[.int .i64])],boxes:=[(1048576,[.sl 1,.int .i64,.int .i64,.bool]),(384,[.int .i64,.int .i64,.own 2])],fixed:=[256]}else none) func358 h
def rcomp_nf{bad:Bool}(h:Cl prog 357 (Sig.mk ([Md.lend [false,false,false,false]]) []) ([SV.agg [SL 1 l,I i,I j,B bad]]) (λrs=>∃s bs,∃x x1 b,(rs=[S s,SV.agg [SL 1 bs,I x,I x1,B b]])/\Cl prog 316 (Sig.mk ([Md.lend [false,false,false,false]]) []) ([SV.agg [SL 1 bs,I x,I x1,B b]]) (λbw=>∃x2 l1,∃x3 x4 b1,(bw=[I x2,SV.agg [SL 1 l1,I x3,I x4,B b1]])/\ifB (bpick (ilt x2 1) true (igt x2 3)) (Q ([SV.agg ([S s,I 0,I 0,I 0,I 0,SL 2 [],I 0,I 0,I 0,I 0,I 0,I 0,I 0,I 0,I 0,I 0,I 0,I 0,I 0,I 0,I 0]),SV.agg [SL 1 l1,I x3,I x4,B true]])) (Cl prog 316 (Sig.mk ([Md.lend [false,false,false,false]]) []) ([SV.agg [SL 1 l1,I x3,I x4,B b1]]) (λbx=>∃x5 l2,∃x6 x7 b2,(bx=[I x5,SV.agg [SL 1 l2,I x6,I x7,B b2]])/\∃ao:LL->Int->Int->Bool->BA->Int->Int->Int->Int->LL->Int->Int->Int->Int->Int->Int->Int->Int->Int->Int->Int->Int->Int->Int->Int->Prop,∃m:LL->Int->Int->Bool->BA->Int->Int->Int->Int->LL->Int->Int->Int->Int->Int->Int->Int->Int->Int->Int->Int->Int->Int->Int->Int->Nat,(ifB (ieq x2 1) (Cl prog 358 (Sig.mk ([Md.lend [false,false,false,false]]) []) ([SV.agg [SL 1 l2,I x6,I x7,B b2]]) (λa8=>∃x8 x9,∃l3 l4,∃ac ai b3,(a8=[SV.agg [I x8,I x9,SL 2 l3],SV.agg [SL 1 l4,I ac,I ai,B b3]])/\(Sm (some ([[S (bA []),I 0,I 0,I 0,I 0,SV.slice 2 [] 1,I 0,I 0,I 0,I 0,I 0,I 0,I 0,I 0,I 0,I 0,I 0,I 0,I 0,I 0,I 0]])))/\ao l4 ac ai b3 s x2 x5 x8 x9 l3 0 0 0 0 0 0 0 0 0 0 0 0 0 0 0)) ((Sm (some ([[S (bA []),I 0,I 0,I 0,I 0,SV.slice 2 [] 1,I 0,I 0,I 0,I 0,I 0,I 0,I 0,I 0,I 0,I 0,I 0,I 0,I 0,I 0,I 0]])))/\ao l2 x6 x7 b2 s x2 x5 0 0 [] 0 0 0 0 0 0 0 0 0 0 0 0 0 0 0))/\∀l3 x8,∀x9 b3,∀s1 ac,∀ai ap,∀aq l4,∀ar au,∀av aw,∀ax ay,∀az b0,∀b8 b9,∀ba bb,∀bc bd be,(ao l3 x8 x9 b3 s1 ac ai ap aq l4 ar au av aw ax ay az b0 b8 b9 ba bb bc bd be)->∃an:LL->Int->Int->Bool->BA->Int->Int->Int->Int->LL->Int->Int->Int->Int->Int->Int->Int->Int->Int->Int->Int->Int->Int->Int->Int->Prop,∃m1:LL->Int->Int->Bool->BA->Int->Int->Int->Int->LL->Int->Int->Int->Int->Int->Int->Int->Int->Int->Int->Int->Int->Int->Int->Int->Nat,(ifB (bpick (ieq ac 1) true (ieq ac 3)) (∃J:Int->LL->Int->Int->Bool->BA->Int->Int->Int->Int->LL->Int->Int->Int->Int->Int->Int->Int->Int->Int->Int->Int->Int->Int->Int->Int->Prop,∃O:Int->LL->Int->Int->Bool->BA->Int->Int->Int->Int->LL->Int->Int->Int->Int->Int->Int->Int->Int->Int->Int->Int->Int->Int->Int->Int->Nat,(J 0 l3 x8 x9 b3 s1 ac ai ap aq l4 ar au av aw ax ay az b0 b8 b9 ba bb bc bd be)/\∀a l5,∀M L,∀b4 G,∀d e,∀g bf,∀H q,∀r t,∀u v,∀w y,∀z A,∀C p,∀er n,∀o c,(J a l5 M L b4 G d e g bf H q r t u v w y z A C p er n o c)->ifB (ilt a 9) (Cl prog 316 (Sig.mk ([Md.lend [false,false,false,false]]) []) ([SV.agg [SL 1 l5,I M,I L,B b4]]) (λa8=>∃D K,∃E F b5,(a8=[I D,SV.agg [SL 1 K,I E,I F,B b5]])/\((0<=a)/\a<9)/\((a=0)->(Sm (some ([[S (bA []),I 0,I 0,I 0,I 0,SV.slice 2 [] 1,I 0,I 0,I 0,I 0,I 0,I 0,I 0,I 0,I 0,I 0,I 0,I 0,I 0,I 0,I 0]])))/\(J (wadd .i64 a 1) K E F b5 G d e g bf H D r t u v w y z A C p er n o c)/\Nl (O (wadd .i64 a 1) K E F b5 G d e g bf H D r t u v w y z A C p er n o c) (O a l5 M L b4 G d e g bf H q r t u v w y z A C p er n o c))/\((a=1)->(Sm (some ([[S (bA []),I 0,I 0,I 0,I 0,SV.slice 2 [] 1,I 0,I 0,I 0,I 0,I 0,I 0,I 0,I 0,I 0,I 0,I 0,I 0,I 0,I 0,I 0]])))/\(J (wadd .i64 a 1) K E F b5 G d e g bf H q D t u v w y z A C p er n o c)/\Nl (O (wadd .i64 a 1) K E F b5 G d e g bf H q D t u v w y z A C p er n o c) (O a l5 M L b4 G d e g bf H q r t u v w y z A C p er n o c))/\((a=2)->(Sm (some ([[S (bA []),I 0,I 0,I 0,I 0,SV.slice 2 [] 1,I 0,I 0,I 0,I 0,I 0,I 0,I 0,I 0,I 0,I 0,I 0,I 0,I 0,I 0,I 0]])))/\(J (wadd .i64 a 1) K E F b5 G d e g bf H q r D u v w y z A C p er n o c)/\Nl (O (wadd .i64 a 1) K E F b5 G d e g bf H q r D u v w y z A C p er n o c) (O a l5 M L b4 G d e g bf H q r t u v w y z A C p er n o c))/\((a=3)->(Sm (some ([[S (bA []),I 0,I 0,I 0,I 0,SV.slice 2 [] 1,I 0,I 0,I 0,I 0,I 0,I 0,I 0,I 0,I 0,I 0,I 0,I 0,I 0,I 0,I 0]])))/\(J (wadd .i64 a 1) K E F b5 G d e g bf H q r t D v w y z A C p er n o c)/\Nl (O (wadd .i64 a 1) K E F b5 G d e g bf H q r t D v w y z A C p er n o c) (O a l5 M L b4 G d e g bf H q r t u v w y z A C p er n o c))/\((a=4)->(Sm (some ([[S (bA []),I 0,I 0,I 0,I 0,SV.slice 2 [] 1,I 0,I 0,I 0,I 0,I 0,I 0,I 0,I 0,I 0,I 0,I 0,I 0,I 0,I 0,I 0]])))/\(J (wadd .i64 a 1) K E F b5 G d e g bf H q r t u D w y z A C p er n o c)/\Nl (O (wadd .i64 a 1) K E F b5 G d e g bf H q r t u D w y z A C p er n o c) (O a l5 M L b4 G d e g bf H q r t u v w y z A C p er n o c))/\((a=5)->(Sm (some ([[S (bA []),I 0,I 0,I 0,I 0,SV.slice 2 [] 1,I 0,I 0,I 0,I 0,I 0,I 0,I 0,I 0,I 0,I 0,I 0,I 0,I 0,I 0,I 0]])))/\(J (wadd .i64 a 1) K E F b5 G d e g bf H q r t u v D y z A C p er n o c)/\Nl (O (wadd .i64 a 1) K E F b5 G d e g bf H q r t u v D y z A C p er n o c) (O a l5 M L b4 G d e g bf H q r t u v w y z A C p er n o c))/\((a=6)->(Sm (some ([[S (bA []),I 0,I 0,I 0,I 0,SV.slice 2 [] 1,I 0,I 0,I 0,I 0,I 0,I 0,I 0,I 0,I 0,I 0,I 0,I 0,I 0,I 0,I 0]])))/\(J (wadd .i64 a 1) K E F b5 G d e g bf H q r t u v w D z A C p er n o c)/\Nl (O (wadd .i64 a 1) K E F b5 G d e g bf H q r t u v w D z A C p er n o c) (O a l5 M L b4 G d e g bf H q r t u v w y z A C p er n o c))/\((a=7)->(Sm (some ([[S (bA []),I 0,I 0,I 0,I 0,SV.slice 2 [] 1,I 0,I 0,I 0,I 0,I 0,I 0,I 0,I 0,I 0,I 0,I 0,I 0,I 0,I 0,I 0]])))/\(J (wadd .i64 a 1) K E F b5 G d e g bf H q r t u v w y D A C p er n o c)/\Nl (O (wadd .i64 a 1) K E F b5 G d e g bf H q r t u v w y D A C p er n o c) (O a l5 M L b4 G d e g bf H q r t u v w y z A C p er n o c))/\((a=8)->(Sm (some ([[S (bA []),I 0,I 0,I 0,I 0,SV.slice 2 [] 1,I 0,I 0,I 0,I 0,I 0,I 0,I 0,I 0,I 0,I 0,I 0,I 0,I 0,I 0,I 0]])))/\(J (wadd .i64 a 1) K E F b5 G d e g bf H q r t u v w y z D C p er n o c)/\Nl (O (wadd .i64 a 1) K E F b5 G d e g bf H q r t u v w y z D C p er n o c) (O a l5 M L b4 G d e g bf H q r t u v w y z A C p er n o c))/\True)) (Cl prog 316 (Sig.mk ([Md.lend [false,false,false,false]]) []) ([SV.agg [SL 1 l5,I M,I L,B b4]]) (λa8=>∃D K,∃E F b5,(a8=[I D,SV.agg [SL 1 K,I E,I F,B b5]])/\(Sm (some ([[S (bA []),I 0,I 0,I 0,I 0,SV.slice 2 [] 1,I 0,I 0,I 0,I 0,I 0,I 0,I 0,I 0,I 0,I 0,I 0,I 0,I 0,I 0,I 0]])))/\an K E F b5 G d e g bf H q r t u v w y z A D p er n o c))) ((Sm (some ([[S (bA []),I 0,I 0,I 0,I 0,SV.slice 2 [] 1,I 0,I 0,I 0,I 0,I 0,I 0,I 0,I 0,I 0,I 0,I 0,I 0,I 0,I 0,I 0]])))/\an l3 x8 x9 b3 s1 ac ai ap aq l4 ar au av aw ax ay az b0 b8 b9 ba bb bc bd be))/\∀l5 a,∀M b4,∀G L,∀d e,∀g H,∀bf q,∀r t,∀u v,∀w y,∀z A,∀C p,∀er n o,(an l5 a M b4 G L d e g H bf q r t u v w y z A C p er n o)->∃J:LL->Int->Int->Bool->BA->Int->Int->Int->Int->LL->Int->Int->Int->Int->Int->Int->Int->Int->Int->Int->Int->Int->Int->Int->Int->Prop,∃O:LL->Int->Int->Bool->BA->Int->Int->Int->Int->LL->Int->Int->Int->Int->Int->Int->Int->Int->Int->Int->Int->Int->Int->Int->Int->Nat,(ifB (bpick (ieq L 2) true (ieq L 3)) (Cl prog 316 (Sig.mk ([Md.lend [false,false,false,false]]) []) ([SV.agg [SL 1 l5,I a,I M,B b4]]) (λa8=>∃c K,∃D E b5,(a8=[I c,SV.agg [SL 1 K,I D,I E,B b5]])/\Cl prog 316 (Sig.mk ([Md.lend [false,false,false,false]]) []) ([SV.agg [SL 1 K,I D,I E,B b5]]) (λbz=>∃F l8,∃al am b6,(bz=[I F,SV.agg [SL 1 l8,I al,I am,B b6]])/\(Sm (some ([[S (bA []),I 0,I 0,I 0,I 0,SV.slice 2 [] 1,I 0,I 0,I 0,I 0,I 0,I 0,I 0,I 0,I 0,I 0,I 0,I 0,I 0,I 0,I 0]])))/\J l8 al am b6 G L d e g H bf q r t u v w y z A c F er n o))) ((Sm (some ([[S (bA []),I 0,I 0,I 0,I 0,SV.slice 2 [] 1,I 0,I 0,I 0,I 0,I 0,I 0,I 0,I 0,I 0,I 0,I 0,I 0,I 0,I 0,I 0]])))/\J l5 a M b4 G L d e g H bf q r t u v w y z A C p er n o))/\∀K c,∀D b5,∀s3 E,∀F al,∀am l8,∀bg bh,∀bi bj,∀bk bl,∀bm bn,∀bo bp,∀bq br,∀bt bu bv,(J K c D b5 s3 E F al am l8 bg bh bi bj bk bl bm bn bo bp bq br bt bu bv)->∃ad:Int->LL->Int->Int->Bool->BA->Int->Int->Int->Int->LL->Int->Int->Int->Int->Int->Int->Int->Int->Int->Int->Int->Int->Int->Int->Int->Prop,∃m3:Int->LL->Int->Int->Bool->BA->Int->Int->Int->Int->LL->Int->Int->Int->Int->Int->Int->Int->Int->Int->Int->Int->Int->Int->Int->Int->Nat,(ad 0 K c D b5 s3 E F al am l8 bg bh bi bj bk bl bm bn bo bp bq br bt bu bv)/\∀N l9,∀aj ak,∀b6 s4,∀P R,∀T U,∀V W,∀X Y,∀Z a0,∀a1 a2,∀a3 a4,∀a5 a6,∀a7 a9,∀aa ab,(ad N l9 aj ak b6 s4 P R T U V W X Y Z a0 a1 a2 a3 a4 a5 a6 a7 a9 aa ab)->ifB (ilt N 3) (Cl prog 316 (Sig.mk ([Md.lend [false,false,false,false]]) []) ([SV.agg [SL 1 l9,I aj,I ak,B b6]]) (λa8=>∃ae af,∃ag ah b7,(a8=[I ae,SV.agg [SL 1 af,I ag,I ah,B b7]])/\((0<=N)/\N<3)/\((N=0)->(Sm (some ([[S (bA []),I 0,I 0,I 0,I 0,SV.slice 2 [] 1,I 0,I 0,I 0,I 0,I 0,I 0,I 0,I 0,I 0,I 0,I 0,I 0,I 0,I 0,I 0]])))/\(ad (wadd .i64 N 1) af ag ah b7 s4 P R T U V W X Y Z a0 a1 a2 a3 a4 a5 a6 a7 ae aa ab)/\Nl (m3 (wadd .i64 N 1) af ag ah b7 s4 P R T U V W X Y Z a0 a1 a2 a3 a4 a5 a6 a7 ae aa ab) (m3 N l9 aj ak b6 s4 P R T U V W X Y Z a0 a1 a2 a3 a4 a5 a6 a7 a9 aa ab))/\((N=1)->(Sm (some ([[S (bA []),I 0,I 0,I 0,I 0,SV.slice 2 [] 1,I 0,I 0,I 0,I 0,I 0,I 0,I 0,I 0,I 0,I 0,I 0,I 0,I 0,I 0,I 0]])))/\(ad (wadd .i64 N 1) af ag ah b7 s4 P R T U V W X Y Z a0 a1 a2 a3 a4 a5 a6 a7 a9 ae ab)/\Nl (m3 (wadd .i64 N 1) af ag ah b7 s4 P R T U V W X Y Z a0 a1 a2 a3 a4 a5 a6 a7 a9 ae ab) (m3 N l9 aj ak b6 s4 P R T U V W X Y Z a0 a1 a2 a3 a4 a5 a6 a7 a9 aa ab))/\((N=2)->(Sm (some ([[S (bA []),I 0,I 0,I 0,I 0,SV.slice 2 [] 1,I 0,I 0,I 0,I 0,I 0,I 0,I 0,I 0,I 0,I 0,I 0,I 0,I 0,I 0,I 0]])))/\(ad (wadd .i64 N 1) af ag ah b7 s4 P R T U V W X Y Z a0 a1 a2 a3 a4 a5 a6 a7 a9 aa ae)/\Nl (m3 (wadd .i64 N 1) af ag ah b7 s4 P R T U V W X Y Z a0 a1 a2 a3 a4 a5 a6 a7 a9 aa ae) (m3 N l9 aj ak b6 s4 P R T U V W X Y Z a0 a1 a2 a3 a4 a5 a6 a7 a9 aa ab))/\True)) (Q ([SV.agg [S s4,I P,I R,I T,I U,SL 2 V,I W,I X,I Y,I Z,I a0,I a1,I a2,I a3,I a4,I a5,I a6,I a7,I a9,I aa,I ab],SV.agg [SL 1 l9,I aj,I ak,B b6]]))))))):Ct prog 317 ⟨[.lend [false,false,false,false]],[]⟩ [rd4 l i j bad] Q:=
 fO SgT SvT (λk=>bif Nat.beq k 42 then some {slots:=[(41,false,[.int .i64])],boxes:=[(1048576,[.sl 1,.int .i64,.int .i64,.bool]),(384,[.str,.int .i64,.int .i64,.int .i64,.int .i64,.sl 2,.int .i64,.int .i64,.int .i64,.int .i64,.int .i64,.int .i64,.int .i64,.int .i64,.int .i64,.int .i64,.int .i64,.int .i64,.int .i64,.int .i64,.int .i64])],fixed:=[256]}else bif Nat.beq k 72 then some {slots:=[(71,false,[.int .i64])],boxes:=[(1048576,[.sl 1,.int .i64,.int .i64,.bool]),(384,[.str,.int .i64,.int .i64,.int .i64,.int .i64,.sl 2,.int .i64,.int .i64,.int .i64,.int .i64,.int .i64,.int .i64,.int .i64,.int .i64,.int .i64,.int .i64,.int .i64,.int .i64,.int .i64,.int .i64,.int .i64])],fixed:=[256]}else bif Nat.beq k 4000029 then some {boxes:=[(1048576,[.sl 1,.int .i64,.int .i64,.bool]),(384,[.str,.int .i64,.int .i64,.int .i64,.int .i64,.sl 2,.int .i64,.int .i64,.int .i64,.int .i64,.int .i64,.int .i64,.int .i64,.int .i64,.int .i64,.int .i64,.int .i64,.int .i64,.int .i64,.int .i64,.int .i64])],fixed:=[256]}else bif Nat.beq k 4000040 then some {boxes:=[(1048576,[.sl 1,.int .i64,.int .i64,.bool]),(384,[.str,.int .i64,.int .i64,.int .i64,.int .i64,.sl 2,.int .i64,.int .i64,.int .i64,.int .i64,.int .i64,.int .i64,.int .i64,.int .i64,.int .i64,.int .i64,.int .i64,.int .i64,.int .i64,.int .i64,.int .i64])],fixed:=[256]}else bif Nat.beq k 4000062 then some {boxes:=[(1048576,[.sl 1,.int .i64,.int .i64,.bool]),(384,[.str,.int .i64,.int .i64,.int .i64,.int .i64,.sl 2,.int .i64,.int .i64,.int .i64,.int .i64,.int .i64,.int .i64,.int .i64,.int .i64,.int .i64,.int .i64,.int .i64,.int .i64,.int .i64,.int .i64,.int .i64])],fixed:=[256]}else none) func317 h
def rdec_nf(h:Cl prog 129 sP [SL 1 l] (λrs=>∃bs x Z,(rs=[SV.agg [SL 1 bs,I x,I Z]])/\Cl prog 316 (Sig.mk ([Md.lend [false,false,false,false]]) []) ([SV.agg [SL 1 bs,I x,I Z,B false]]) (λV=>∃U l1,∃x3 x4 b,(V=[I U,SV.agg [SL 1 l1,I x3,I x4,B b]])/\ifB (igt U 12) (Q ([SV.agg ([SL 21 [],I 0,I 0]),I 11])) (∃H:Int->LL->Int->Int->Bool->LL->Int->Int->Prop,∃m:Int->LL->Int->Int->Bool->LL->Int->Int->Nat,(H 0 l1 x3 x4 b [] 0 0)/\∀J M,∀N O,∀P n,∀R T,(H J M N O P n R T)->ifB (ilt J U) (Cl prog 317 (Sig.mk ([Md.lend [false,false,false,false]]) []) ([SV.agg [SL 1 M,I N,I O,B P]]) (λG=>∃s a,∃d e,∃c o,∃g i,∃j p,∃q r,∃t u,∃v w,∃y z,∃A C,∃D E,∃K L F,(G=[SV.agg [S s,I a,I d,I e,I c,SL 2 o,I g,I i,I j,I p,I q,I r,I t,I u,I v,I w,I y,I z,I A,I C,I D],SV.agg [SL 1 E,I K,I L,B F]])/\((lsum (rlen n) (rlen ([[S s,I a,I d,I e,I c,SL 2 o,I g,I i,I j,I p,I q,I r,I t,I u,I v,I w,I y,I z,I A,I C,I D]])))<=2147483648)/\(Sm (some ([[SV.slice 21 [] 1,I 0,I 0]])))/\(H (wadd .i64 J 1) E K L F (rapp n ([[S s,I a,I d,I e,I c,SL 2 o,I g,I i,I j,I p,I q,I r,I t,I u,I v,I w,I y,I z,I A,I C,I D]])) R T)/\Nl (m (wadd .i64 J 1) E K L F (rapp n ([[S s,I a,I d,I e,I c,SL 2 o,I g,I i,I j,I p,I q,I r,I t,I u,I v,I w,I y,I z,I A,I C,I D]])) R T) (m J M N O P n R T))) (Cl prog 316 (Sig.mk ([Md.lend [false,false,false,false]]) []) ([SV.agg [SL 1 M,I N,I O,B P]]) (λG=>∃a o,∃d e F,(G=[I a,SV.agg [SL 1 o,I d,I e,B F]])/\Cl prog 316 (Sig.mk ([Md.lend [false,false,false,false]]) []) ([SV.agg [SL 1 o,I d,I e,B F]]) (λW=>∃c E,∃g i b3,(W=[I c,SV.agg [SL 1 E,I g,I i,B b3]])/\ifB b3 (Q ([SV.agg ([SL 21 [],I 0,I 0]),I 11])) (Cl prog 289 sP ([SV.agg [SL 1 E,I g,I i]]) (λX=>∃j,(X=[I j])/\ifB (ine j 0) (Q ([SV.agg ([SL 21 [],I 0,I 0]),I 11])) (Cl prog 175 sP ([SV.agg [SL 21 n,I a,I c]]) (λY=>∃b4,(Y=[B b4])/\ifB (bnot b4) (Q ([SV.agg ([SL 21 [],I 0,I 0]),I 11])) (Q ([SV.agg [SL 21 n,I a,I c],I 0]))))))))))))):Ct prog 247 {} [SL 1 l] Q:=
 fO SgT SvT (λk=>bif Nat.beq k 18 then some {slots:=[(17,false,[.int .i64])],boxes:=[(1280,[.sl 1,.int .i64,.int .i64,.bool]),(640,[.own 21,.int .i64,.int .i64])],fixed:=[256]}else none) func247 h
end Row
namespace Row
open Go Go.Px Go.Proofs Cmp Sx Cod Tryz
def Gd(l pre:List Int)(a er:Int)(b:Bool):Prop:=b=false/\er=0/\a=pre.length/\pre<+:l
structure NR(l:List Int)(a er:Int)(b:Bool)(n a' er':Int)(b':Bool):Prop where
 rg:rng n
 snd:b'=false->b=false/\∀pre,Gd l pre a er b->Gd l (pre++leb n.toNat) a' er' b'
 cmp:∀pre (m:Int),rng m->Gd l pre a er b->pre++leb m.toNat<+:l->b'=false/\n=m
def num_fn(l:List Int)(a er:Int)(b:Bool)(v:l.length<=100000)(w:Byts l):Ct prog 316 sL [rd4 (bR l) a er b] (λr=>∃n p i q,r=[I n,rd4 (bR l) p i q]/\NR l a er b n p i q):=by
 refine rnum_nf (Cl.ofQ (Ze2 l a er v w) ?_);rintro r ⟨a1,er1,n,rfl,ho,hs⟩;have E:=ho.n0;have j:∀pre (m:Int),rng m->Gd l pre a er b->pre++leb m.toNat<+:l->er1=0/\n=m/\b=false:=(by rintro pre m c ⟨k,u,o,g⟩ f;obtain⟨t,x⟩:=Zwp o f;unfold rng at c;obtain⟨F,y,G⟩:=ho.good u Vo m.toNat t x Vo;exact⟨y,Vo,k⟩);refine⟨_,_,_,_,rfl,Zaa (λh=>?_) (λh=>?_)⟩
 .simp at h;refine⟨0,a1,er1,true,rfl,⟨by unfold rng;omega,(λe=>nomatch e),λpre m c d f=>?_⟩⟩;obtain⟨z,s,_⟩:=j pre m c d f;unfold rng at c;omega
 .simp at h;rw[Zh1];refine⟨n,a1,er1,b,rfl,⟨⟨E,Vo⟩,λe=>⟨e,λpre d=>?_⟩,λpre m c d f=>?_⟩⟩
  .obtain⟨k,u,o,g⟩:=d;obtain⟨H,J,A,C,s4⟩:=hs h.1;exact⟨k,h.1,Vm,Zwq o g C⟩
  .obtain⟨z,s,D⟩:=j pre m c d f;exact⟨D,s⟩
structure PS(l:List Int)(a0 er0:Int)(b0:Bool)(s:BA)(ns:List Int)(a er:Int)(b:Bool):Prop where
 rg:∀n∈ns,rng n
 snd:b=false->b0=false/\s.size<=24/\∀pre,Gd l pre a0 er0 b0->Gd l (pre++(leb s.size++(txB s++encN ns))) a er b
 cmp:∀pre c0,shp c0->Gd l pre a0 er0 b0->pre++encC c0<+:l->b=false/\c0.nm=s/\ns<+:numC c0
def PS.num{l:List Int}{u i:Int}{v:Bool}{s:BA}{f:List Int}{a er:Int}{b:Bool}{n a' er':Int}{w:Bool}(p:PS l u i v s f a er b)(q:NR l a er b n a' er' w)
  (h:∀c,shp c->f<+:numC c->f.length<(numC c).length):PS l u i v s (f++[n]) a' er' w:=by
 refine⟨λx hx=>?_,λe=>?_,λpre c k g o=>?_⟩
 .rcases List.mem_append.1 hx with hx|hx
  .exact p.rg x hx
  .simp at hx;rw[hx];exact q.rg
 .obtain⟨e1,y⟩:=q.snd e;obtain⟨e2,d,z⟩:=p.snd e1;refine⟨e2,d,λpre g=>?_⟩;have:=y _ (z pre g);rw[Zpl,Zwn]
  simpa using this
 .obtain⟨e1,e2,⟨t,d⟩⟩:=p.cmp pre c k g o;have j:=h c k ⟨t,d⟩
  cases t with
  |nil=>rw[<-d]at j;simp at j
  |cons m t=>
   have D:rng m:=k.n m (by rw[<-d];simp)
   have r:pre++(leb s.size++(txB s++encN f))++leb m.toNat<+:l:=by
    have:encC c=(leb s.size++(txB s++encN f)++leb m.toNat)++encN t:=(by rw[encC,<-d,e2,Zpl,show m::t=[m]++t from rfl,Zpl,Zwn];simp);rw[this]at o;have:=pre_more o
    simpa using this
   obtain⟨A,C⟩:=q.cmp _ m D ((p.snd e1).2.2 pre g) r;exact⟨A,e2,⟨t,by rw[<-d,C];simp⟩⟩
def PS.bad{l:List Int}{f d:Int}{g:Bool}{s s':BA}{i ns':List Int}{a er:Int}{b:Bool}{a' er':Int}(p:PS l f d g s i a er b)
  (h:∀c,shp c->i<+:numC c->False) (k:∀n∈ns',rng n):PS l f d g s' ns' a' er' true:=
 ⟨k,(λe=>nomatch e),λpre c j m o=>(h c j (p.cmp pre c j m o).2.2).elim⟩
def rtxt_fn(l:List Int)(a er:Int)(b:Bool)(v:l.length<=100000)(w:Byts l):Ct prog 357 sL [rd4 (bR l) a er b] (λr=>∃s p j q,r=[S s,rd4 (bR l) p j q]/\PS l a er b s [] p j q):=by
 refine rtxt_nf (Cl.ofQ (textS_fn l a er v w) ?_);rintro r ⟨a1,er1,s,rfl,ho,hs⟩;have k:∀pre c,shp c->Gd l pre a er b->pre++encC c<+:l->er1=0/\s=c.nm/\b=false:=(by rintro pre c d ⟨n,u,o,i⟩ g;obtain⟨t,y⟩:=Zwp o g;obtain⟨G,z,A⟩:=ho.good u Vo c.nm (encN (numC c)++t) (by rw[y,encC];simp) d.nm;exact⟨z,A,n⟩);refine⟨_,_,_,_,rfl,Zaa (λh=>?_) (λh=>?_)⟩
 .simp at h;refine⟨_,_,_,_,rfl,⟨Vs,(λe=>nomatch e),λpre c d f g=>?_⟩⟩;exact absurd (k pre c d f g).1 h
 .simp at h;obtain⟨H,J,C,m,D,s4⟩:=hs h;refine⟨_,_,_,_,rfl,⟨Vs,λe=>⟨e,C,λpre f=>?_⟩,λpre c d f g=>?_⟩⟩
  .obtain⟨n,u,o,i⟩:=f;refine⟨n,h,by simp[Zwo,Zcj];omega,?_⟩;have:=Zwq (x:=leb s.size++txB s) (t:=m) o i (by rw[D,List.append_assoc])
   simpa[Zwo]using this
  .obtain⟨K,E,F⟩:=k pre c d f g;exact⟨F,E.symm,W6⟩
def WR(l:List Int)(a er:Int)(b:Bool)(i j:Int)(d:List (Int×Int))(k e:Int)(m:Bool):Prop:=
 d.length<=16/\∀f c g s h,PS l f c g s [1,h] a er b->PS l f c g s (bas 1 h i j d) k e m
def bas1(b c d:Int)(a:List (Int×Int)):bas 1 b c d a=[1,b,c,d,(a.length:Int)]++flat a:=by simp[bas]
def Zrp{a:CoD}(b:shp a){x:List Int}(h:([1,c,i,e,k]++x)<+:numC a):(numC a).length=18+2*k.toNat/\0<=k/\k<=16:=by
 obtain⟨f,g,d,j,l⟩:=pre_win h;have:=b.cl;refine⟨?_,Vo,Vo⟩;simp only[numC,List.length_append,Ztm,Zhc,Zi0,f,List.length_cons,Y9];simp;omega
def rwin_fn(l:List Int)(a er:Int)(b:Bool)(C:l.length<=100000)(D:Byts l):Ct prog 358 sL [rd4 (bR l) a er b] (λr=>∃u v m F z G,r=[.agg [I u,I v,SL 2 (cR m)],rd4 (bR l) F z G]/\WR l a er b u v m F z G):=by
 refine rwin_nf (Cl.ofQ (num_fn l a er b C D) ?_);rintro r ⟨u,a1,er1,b1,rfl,h1⟩;refine⟨_,_,_,_,_,rfl,Cl.ofQ (num_fn l a1 er1 b1 C D) ?_⟩;rintro r ⟨v,a2,er2,b2,rfl,h2⟩;refine⟨_,_,_,_,_,rfl,Cl.ofQ (num_fn l a2 er2 b2 C D) ?_⟩;rintro r ⟨k,a3,er3,b3,rfl,h3⟩
 have P:∀f d g s j,PS l f d g s [1,j] a er b->PS l f d g s [1,j,u,v,k] a3 er3 b3:=by
  intro f d g s j p;have K:=p.num h1 (λt _ _=>by have:=Zid (c:=t);simp;omega);have L:=K.num h2 (λt _ _=>by have:=Zid (c:=t);simp;omega)
  have U:=L.num h3 (λt A o=>by
   have:=Zid (c:=t);simp;omega)
  simpa using U
 have V:=h3.rg;unfold rng at V;refine⟨_,_,_,_,_,rfl,Zaa (λh=>?_) (λh=>?_)⟩
 .simp at h;refine⟨u,v,[],a3,er3,true,rfl,Vs,λf d g s j p=>?_⟩;have o:=P f d g s j p;refine o.bad (λt A E=>?_) (λn H=>?_)
  .have:=Zrp (x:=[]) A (by simpa using E);omega
  .rw[bas1]at H;simp[flat]at H
   rcases H with rfl|rfl|rfl|rfl|rfl
   .exact o.rg _ Vs
   .exact o.rg _ Vs
   .exact o.rg _ Vs
   .exact o.rg _ Vs
   .unfold rng;omega
 .simp at h
  refine⟨λi Q F z G M N rows=>Q=bR l/\M=u/\N=v/\0<=i/\i<=k/\∃m,rows=cR m/\(m.length:Int)=i/\∀f d g s j,PS l f d g s [1,j] a er b->PS l f d g s ([1,j,u,v,k]++flat m) F z G,
   λi _ _ _ _ _ _ _=>(k-i).toNat,⟨rfl,rfl,rfl,Vo,Vo,[],rfl,rfl,λf d g s j p=>by simpa[flat]using P f d g s j p⟩,?_⟩
  rintro i _ R O T _ _ _ ⟨rfl,rfl,rfl,i0,i1,m,rfl,hcl,o⟩;refine Zaa (λJ=>?_) (λJ=>?_)
  .simp at J;refine Cl.ofQ (num_fn l R O T C D) ?_;rintro r ⟨x,a5,er5,b5,rfl,h5⟩;refine⟨_,_,_,_,_,rfl,Cl.ofQ (num_fn l a5 er5 b5 C D) ?_⟩;rintro r ⟨y,a6,er6,b6,rfl,h6⟩;have w:wadd IntKind.i64 i 1=i+1:=Zac;rw[w];refine⟨_,_,_,_,_,rfl,?_,rfl,⟨rfl,rfl,rfl,Vo,Vo,m++[(x,y)],by simp[rapp],Vm,λf d g s j p=>?_⟩,?_⟩
   .simp[lsum,rlen];omega
   .have q:=o f d g s j p
    have K:=q.num h5 (λt A E=>by
     have:=Zrp A E
     simp[Zpm];omega)
    have L:=K.num h6 (λt A E=>by
     have:=Zrp (x:=flat m++[x]) A (by simpa using E)
     simp[Zpm];omega)
    have e:flat (m++[(x,y)])=flat m++[x]++[y]:=(by simp[flat]);rw[e]
    simpa using L
   .show Nat.succ (k-(i+1)).toNat<=(k-i).toNat;omega
  .simp at J;have:i=k:=Vo;subst this;refine⟨_,_,m,_,_,_,rfl,Vo,λf d g s j p=>?_⟩;rw[bas1,hcl];exact o f d g s j p
structure CR(l:List Int)(a er:Int)(b:Bool)(c:CoD)(a' er':Int)(b':Bool):Prop where
 cl:c.cl.length<=16
 snd:b'=false->shp c/\b=false/\∀pre,Gd l pre a er b->Gd l (pre++encC c) a' er' b'
 cmp:∀pre c0,shp c0->Gd l pre a er b->pre++encC c0<+:l->b'=false/\c=c0
def CR.ofPS{l:List Int}{a er:Int}{b:Bool}{c:CoD}{i d:Int}{j:Bool}(p:PS l a er b c.nm (numC c) i d j)(k:zro c)(o:1<=c.ro/\c.ro<=3)(m:c.cl.length<=16):CR l a er b c i d j:=by
 refine⟨m,λe=>?_,λpre q n r s=>?_⟩
 .obtain⟨f,g,h⟩:=p.snd e;exact⟨⟨k,o,g,m,p.rg⟩,f,h⟩
 .obtain⟨f,g,h⟩:=p.cmp pre q n r s;exact⟨f,Zpn k n.z g.symm h⟩
def Zur{b:CoD}{f:List (Int×Int)}{x:List Int}(h:(bas i c j e f++x)<+:numC b)
  (hx:x.length<(if i=1\/i=3 then 10 else 0)+((if i=2\/i=3 then 2 else 0)+3)):(bas i c j e f++x).length<(numC b).length:=by
 rw[(pre_bas h).2,List.length_append];omega
def rcomp_fn(l:List Int)(a er:Int)(b:Bool)(Y:l.length<=100000)(Z:Byts l):Ct prog 317 sL [rd4 (bR l) a er b] (λr=>∃c a' er' L,r=[CoD.sv c,rd4 (bR l) a' er' L]/\CR l a er b c a' er' L):=by
 refine rcomp_nf (Cl.ofQ (rtxt_fn l a er b Y Z) ?_);rintro r ⟨s,a1,er1,b1,rfl,p1⟩;refine⟨_,_,_,_,_,rfl,Cl.ofQ (num_fn l a1 er1 b1 Y Z) ?_⟩;rintro r ⟨d,a2,er2,b2,rfl,n2⟩;have p2:=p1.num n2 (λp _ _=>by have:=Zid (c:=p);simp;omega);simp only[Y5]at p2;refine⟨_,_,_,_,_,rfl,Zaa (λh=>?_) (λh=>?_)⟩
 .simp at h
  have p3:PS l a er b s [] a2 er2 true:=p2.bad (s':=s) (ns':=[]) (a':=a2) (er':=er2) (λp g H=>by
   obtain⟨t,H⟩:=H;have:p.ro=d:=by simp only[numC,bas,Y2,Y5,List.cons.injEq]at H;exact H.1.symm
   have:=g.r
   omega) Vs
  refine⟨⟨s,0,0,0,0,[],0,0,0,0,0,0,0,0,0,0,0,0,0,0,0⟩,a2,er2,true,rfl,⟨Vs,(λe=>nomatch e),λpre p g hg hp=>?_⟩⟩;exact absurd (p3.cmp pre p g hg hp).1 Vd
 simp at h;refine Cl.ofQ (num_fn l a2 er2 b2 Y Z) ?_;rintro r ⟨f,a3,er3,b3,rfl,n3⟩;have p3:=p2.num n3 (λp _ _=>by have:=Zid (c:=p);simp;omega);simp only[Y2,Y5]at p3
 refine⟨_,_,_,_,_,rfl,
  λl' a' er' L s' J K i j rows u y z A C D E F G g n o p c1 c2=>l'=bR l/\s'=s/\J=d/\K=f/\(u=0/\y=0/\z=0/\A=0/\C=0/\D=0/\E=0/\F=0/\G=0/\g=0)/\(n=0/\o=0)/\
   ∃m,rows=cR m/\m.length<=16/\(d≠1->i=0/\j=0/\m=[])/\PS l a er b s (bas d f i j m) a' er' L,
  λ_ _ _ _ _ _ _ _ _ _ _ _ _ _ _ _ _ _ _ _ _ _ _ _ _=>0,Zaa (λe=>?_) (λe=>?_),?_⟩
 .simp at e;subst e;refine Cl.ofQ (rwin_fn l a3 er3 b3 Y Z) ?_;rintro r ⟨i,j,m,a4,ae,b4,rfl,hw⟩;exact⟨_,_,_,_,_,_,_,rfl,rfl,rfl,rfl,rfl,rfl,⟨rfl,rfl,rfl,rfl,rfl,rfl,rfl,rfl,rfl,rfl⟩,⟨rfl,rfl⟩,m,rfl,hw.1,(λh=>absurd rfl h),hw.2 _ _ _ _ _ p3⟩
 .simp at e;refine⟨rfl,rfl,rfl,rfl,rfl,⟨rfl,rfl,rfl,rfl,rfl,rfl,rfl,rfl,rfl,rfl⟩,⟨rfl,rfl⟩,[],rfl,Vs,λ_=>⟨rfl,rfl,rfl⟩,?_⟩;have:bas d f 0 0 []=[d,f]:=(by simp[bas,e]);rw[this];exact p3
 rintro _ a4 ae b4 s d f i j _ u y z A C D E F G g n o p c1 c2 ⟨rfl,rfl,rfl,rfl,hz,hz2,m,rfl,hcl,hcz,p4⟩
 refine⟨λl' a' er' L s' J K W X rows M N O P Q R T U V gs n o p c1 c2=>l'=bR l/\s'=s/\J=d/\K=f/\W=i/\X=j/\rows=cR m/\(n=0/\o=0)/\
   (d≠1->d≠3->M=0/\N=0/\O=0/\P=0/\Q=0/\R=0/\T=0/\U=0/\V=0/\gs=0)/\
   PS l a er b s (bas d f i j m++hst d [M,N,O,P,Q,R,T,U,V,gs]) a' er' L,
  λ_ _ _ _ _ _ _ _ _ _ _ _ _ _ _ _ _ _ _ _ _ _ _ _ _=>0,Zaa (λe=>?_) (λe=>?_),?_⟩
 .simp at e
  refine⟨λx l' a' er' L s' J K W X rows M N O P Q R T U V gs n o p c1 c2=>0<=x/\x<=9/\l'=bR l/\s'=s/\J=d/\K=f/\W=i/\X=j/\rows=cR m/\(n=0/\o=0)/\
    PS l a er b s (bas d f i j m++[M,N,O,P,Q,R,T,U,V].take x.toNat) a' er' L,
   λx _ _ _ _ _ _ _ _ _ _ _ _ _ _ _ _ _ _ _ _ _ _ _ _ _=>(9-x).toNat,⟨Vo,Vo,rfl,rfl,rfl,rfl,rfl,rfl,rfl,hz2,by simpa using p4⟩,?_⟩
  rintro x _ a5 a9 b5 s d f i j _ M N O P Q R T U V gs n o p c1 c2 ⟨x0,x9,rfl,rfl,rfl,rfl,rfl,rfl,rfl,hz3,p5⟩;refine Zaa (λhx=>?_) (λhx=>?_)
  .simp at hx;refine Cl.ofQ (num_fn l a5 a9 b5 Y Z) ?_;rintro r ⟨v,a6,a0,b6,rfl,n6⟩;have p6:=p5.num n6 (λp g H=>Zur H (by rw[if_pos e];simp;omega));have w:wadd IntKind.i64 x 1=x+1:=Zac;rw[w]
   have step:∀(k:Nat) (f0 f1 f2 f3 f4 f5 f6 f7 f8:Int),x=(k:Int)->[f0,f1,f2,f3,f4,f5,f6,f7,f8].take (k+1)=[M,N,O,P,Q,R,T,U,V].take k++[v]->
     (0<=x+1/\x+1<=9/\bR l=bR l/\s=s/\d=d/\f=f/\i=i/\j=j/\cR m=cR m/\(n=0/\o=0)/\
      PS l a er b s (bas d f i j m++[f0,f1,f2,f3,f4,f5,f6,f7,f8].take (x+1).toNat) a6 a0 b6)/\Nl (9-(x+1)).toNat (9-x).toNat:=by
    intro k f0 f1 f2 f3 f4 f5 f6 f7 f8 hk hf;refine⟨⟨Vo,Vo,rfl,rfl,rfl,rfl,rfl,rfl,rfl,hz3,?_⟩,by show Nat.succ _<=_;omega⟩;have e1:(x+1).toNat=k+1:=Vo;have e2:x.toNat=k:=Vo;rw[e1,hf,<-List.append_assoc,<-e2];exact p6
   exact⟨_,_,_,_,_,rfl,⟨x0,hx⟩,λe=>⟨rfl,step 0 _ _ _ _ _ _ _ _ _ e rfl⟩,λe=>⟨rfl,step 1 _ _ _ _ _ _ _ _ _ e rfl⟩,λe=>⟨rfl,step 2 _ _ _ _ _ _ _ _ _ e rfl⟩,λe=>⟨rfl,step 3 _ _ _ _ _ _ _ _ _ e rfl⟩,
    λe=>⟨rfl,step 4 _ _ _ _ _ _ _ _ _ e rfl⟩,λe=>⟨rfl,step 5 _ _ _ _ _ _ _ _ _ e rfl⟩,λe=>⟨rfl,step 6 _ _ _ _ _ _ _ _ _ e rfl⟩,λe=>⟨rfl,step 7 _ _ _ _ _ _ _ _ _ e rfl⟩,λe=>⟨rfl,step 8 _ _ _ _ _ _ _ _ _ e rfl⟩,trivial⟩
  .simp at hx;have:x=9:=Vo;subst this;refine Cl.ofQ (num_fn l a5 a9 b5 Y Z) ?_;rintro r ⟨v,a6,a0,b6,rfl,n6⟩;have p6:=p5.num n6 (λp g H=>Zur H (by rw[if_pos e];simp;omega));refine⟨_,_,_,_,_,rfl,rfl,rfl,rfl,rfl,rfl,rfl,rfl,rfl,hz3,λq1 q2=>(e.elim q1 q2).elim,?_⟩;have:hst d [M,N,O,P,Q,R,T,U,V,v]=[M,N,O,P,Q,R,T,U,V].take (9:Int).toNat++[v]:=by unfold hst;rw[if_pos e];rfl
   rw[this,<-List.append_assoc];exact p6
 .simp at e;refine⟨rfl,rfl,rfl,rfl,rfl,rfl,rfl,rfl,hz2,λ_ _=>hz,?_⟩;have:hst d [u,y,z,A,C,D,E,F,G,g]=[]:=by unfold hst;rw[if_neg Vo]
  rw[this,List.append_nil];exact p4
 rintro _ a5 a9 b5 s d f i j _ u y z A C D E F G g n o p c1 c2 ⟨rfl,rfl,rfl,rfl,rfl,rfl,rfl,hz4,hz5,p5⟩
 have aa:∀{p:CoD} {x:List Int},(bas d f i j m++(hst d [u,y,z,A,C,D,E,F,G,g]++x))<+:numC p->x.length<(if d=2\/d=3 then 2 else 0)+3->
   (bas d f i j m++(hst d [u,y,z,A,C,D,E,F,G,g]++x)).length<(numC p).length:=λH hx=>
  Zur H (by
   simp only[List.length_append,Zhc,List.length_cons,Y9]
   by_cases q:d=1\/d=3<;>simp only[q,if_true,if_false]<;>omega)
 refine⟨λl' a' er' L s' J K W X rows M N O P Q R T U V gs n o p c1 c2=>l'=bR l/\s'=s/\J=d/\K=f/\W=i/\X=j/\rows=cR m/\(M=u/\N=y/\O=z/\P=A/\Q=C/\R=D/\T=E/\U=F/\V=G/\gs=g)/\
   (d≠2->d≠3->n=0/\o=0)/\PS l a er b s (bas d f i j m++(hst d [u,y,z,A,C,D,E,F,G,g]++bck d [n,o])) a' er' L,
  λ_ _ _ _ _ _ _ _ _ _ _ _ _ _ _ _ _ _ _ _ _ _ _ _ _=>0,Zaa (λe=>?_) (λe=>?_),?_⟩
 .simp at e;refine Cl.ofQ (num_fn l a5 a9 b5 Y Z) ?_;rintro r ⟨v,a6,a0,b6,rfl,n6⟩;refine⟨_,_,_,_,_,rfl,Cl.ofQ (num_fn l a6 a0 b6 Y Z) ?_⟩;rintro r ⟨v2,a7,ab,b7,rfl,n7⟩;have p6:=p5.num n6 (λp g H=>by have:=aa (x:=[]) (by simpa using H) Vs;simpa using this);have p7:=p6.num n7 (λp g H=>by have:=aa (x:=[v]) (by simpa using H) (by rw[if_pos e];simp);simpa using this);refine⟨_,_,_,_,_,rfl,rfl,rfl,rfl,rfl,rfl,rfl,rfl,rfl,⟨rfl,rfl,rfl,rfl,rfl,rfl,rfl,rfl,rfl,rfl⟩,λq1 q2=>(e.elim q1 q2).elim,?_⟩;have:bck d [v,v2]=[v]++[v2]:=by unfold bck;rw[if_pos e];rfl
  rw[this,<-List.append_assoc,<-List.append_assoc];exact p7
 .simp at e;refine⟨rfl,rfl,rfl,rfl,rfl,rfl,rfl,rfl,⟨rfl,rfl,rfl,rfl,rfl,rfl,rfl,rfl,rfl,rfl⟩,λ_ _=>hz4,?_⟩;have:bck d [n,o]=[]:=by unfold bck;rw[if_neg Vo]
  rw[this,List.append_nil];exact p5
 rintro _ a6 a0 b6 s d f i j _ u y z A C D E F G g n o p c1 c2 ⟨rfl,rfl,rfl,rfl,rfl,rfl,rfl,⟨rfl,rfl,rfl,rfl,rfl,rfl,rfl,rfl,rfl,rfl⟩,hz6,p6⟩
 refine⟨λx l' a' er' L s' J K W X rows M N O P Q R T U V gs ac ad k0 k1 k2=>0<=x/\x<=3/\l'=bR l/\s'=s/\J=d/\K=f/\W=i/\X=j/\rows=cR m/\(M=u/\N=y/\O=z/\P=A/\Q=C/\R=D/\T=E/\U=F/\V=G/\gs=g)/\
   (ac=n/\ad=o)/\PS l a er b s ((bas d f i j m++(hst d [u,y,z,A,C,D,E,F,G,g]++bck d [n,o]))++[k0,k1,k2].take x.toNat) a' er' L,
  λx _ _ _ _ _ _ _ _ _ _ _ _ _ _ _ _ _ _ _ _ _ _ _ _ _=>(3-x).toNat,⟨Vo,Vo,rfl,rfl,rfl,rfl,rfl,rfl,rfl,⟨rfl,rfl,rfl,rfl,rfl,rfl,rfl,rfl,rfl,rfl⟩,⟨rfl,rfl⟩,by simpa using p6⟩,?_⟩
 rintro x _ a7 ab b7 s d f i j _ u y z A C D E F G g n o k0 k1 k2 ⟨x0,x3,rfl,rfl,rfl,rfl,rfl,rfl,rfl,⟨rfl,rfl,rfl,rfl,rfl,rfl,rfl,rfl,rfl,rfl⟩,⟨rfl,rfl⟩,p7⟩;refine Zaa (λhx=>?_) (λhx=>?_)
 .simp at hx;refine Cl.ofQ (num_fn l a7 ab b7 Y Z) ?_;rintro r ⟨v,a8,er8,b8,rfl,n8⟩
  have p8:=p7.num n8 (λp af H=>by
   have:=Zur (x:=(hst d [u,y,z,A,C,D,E,F,G,g]++bck d [n,o])++[k0,k1,k2].take x.toNat) (by simpa using H) (by
    simp only[List.length_append,Zhc,Zi0,List.length_take,List.length_cons,Y9]
    by_cases q:d=1\/d=3<;>by_cases q2:d=2\/d=3<;>simp only[q,q2,if_true,if_false]<;>omega)
   simpa using this)
  have w:wadd IntKind.i64 x 1=x+1:=Zac;rw[w]
  have step:∀(k:Nat) (f0 f1 f2:Int),x=(k:Int)->[f0,f1,f2].take (k+1)=[k0,k1,k2].take k++[v]->
    (0<=x+1/\x+1<=3/\bR l=bR l/\s=s/\d=d/\f=f/\i=i/\j=j/\cR m=cR m/\(u=u/\y=y/\z=z/\A=A/\C=C/\D=D/\E=E/\F=F/\G=G/\g=g)/\
     (n=n/\o=o)/\PS l a er b s ((bas d f i j m++(hst d [u,y,z,A,C,D,E,F,G,g]++bck d [n,o]))++[f0,f1,f2].take (x+1).toNat) a8 er8 b8)/\Nl (3-(x+1)).toNat (3-x).toNat:=by
   intro k f0 f1 f2 hk hf;refine⟨⟨Vo,Vo,rfl,rfl,rfl,rfl,rfl,rfl,rfl,⟨rfl,rfl,rfl,rfl,rfl,rfl,rfl,rfl,rfl,rfl⟩,⟨rfl,rfl⟩,?_⟩,by show Nat.succ _<=_;omega⟩;have e1:(x+1).toNat=k+1:=Vo;have e2:x.toNat=k:=Vo;rw[e1,hf,<-List.append_assoc,<-e2];exact p8
  exact⟨_,_,_,_,_,rfl,⟨x0,hx⟩,λe=>⟨rfl,step 0 _ _ _ e rfl⟩,λe=>⟨rfl,step 1 _ _ _ e rfl⟩,λe=>⟨rfl,step 2 _ _ _ e rfl⟩,trivial⟩
 .simp at hx;have:x=3:=Vo;subst this;refine⟨⟨s,d,f,i,j,m,u,y,z,A,C,D,E,F,G,g,n,o,k0,k1,k2⟩,_,_,_,rfl,CR.ofPS ?_ ⟨hcz,hz5,hz6⟩ Vo hcl⟩;have:numC ⟨s,d,f,i,j,m,u,y,z,A,C,D,E,F,G,g,n,o,k0,k1,k2⟩=(bas d f i j m++(hst d [u,y,z,A,C,D,E,F,G,g]++bck d [n,o]))++[k0,k1,k2].take (3:Int).toNat:=(by simp[numC]);rw[this];exact p7
abbrev st0:StD:=⟨[],0,0⟩
def DSt(l:List Int)(d:StD)(e:Int):Prop:=(d.P/\encS d=l/\e=0)\/((∀a:StD,a.P->encS a≠l)/\d=st0/\e=11)
def P_shp(h:g.P):∀c∈g.cs,shp c:=λc a=>(shp_of (h.2.1 c a)).1
def take_step{l:List CoD}{a:List CoD}(hx:n<l.length)(h:a=l.take n):a++[l[n]]=l.take (n+1):=by
 rw[h];simp
def rdec_fn(l:List Int)(p:l.length<=100000)(A:Byts l):Ct prog 247 {} [SL 1 (bR l)] (λr=>∃d e,r=[StD.sv d,I e]/\DSt l d e):=by
 refine rdec_nf (Cl.of (Zju l) ⟨_,_,_,rfl,Cl.ofQ (num_fn l 0 0 false p A) ?_⟩);rintro r ⟨k,a1,er1,b1,rfl,n1⟩
 have W:Gd l [] 0 0 false:=⟨rfl,rfl,rfl,W6⟩
 have none:(∀a:StD,a.P->encS a≠l)->∃d e,([SV.agg [SL 21 [],I (0),I (0)],I 11]:List SV)=[StD.sv d,I e]/\DSt l d e:=λh=>⟨st0,11,rfl,.inr ⟨h,rfl,rfl⟩⟩
 have D:∀a:StD,a.P->encS a=l->b1=false/\k=a.cs.length:=(by intro a b f;refine n1.cmp [] a.cs.length ⟨Vo,by have:=b.1.1;omega⟩ W ?_;rw[<-f];exact⟨a.cs.flatMap encC++(leb a.q.toNat++leb a.t.toNat),by simp[encS]⟩);have k0:=n1.rg;unfold rng at k0;refine⟨_,_,_,_,_,rfl,Zaa (λh=>?_) (λh=>?_)⟩
 .simp at h;exact none λa b f=>by have:=(D a b f).2;have:=b.1.1;omega
 simp at h
 refine⟨λx l' a' O H rows q t=>l'=bR l/\0<=x/\x<=k/\∃g,rows=coR g/\(g.length:Int)=x/\(∀c∈g,c.cl.length<=16)/\
   (H=false->(∀c∈g,shp c)/\Gd l (leb k.toNat++g.flatMap encC) a' O H)/\(∀a:StD,a.P->encS a=l->H=false/\g=a.cs.take x.toNat),
  λx _ _ _ _ _ _ _=>(k-x).toNat,⟨rfl,Vo,Vo,[],rfl,rfl,Vs,λe=>⟨Vs,?_⟩,λa b f=>⟨(D a b f).1,Vs⟩⟩,?_⟩
 .have:=(n1.snd e).2 [] W
  simpa using this
 rintro x _ Q F R _ q t ⟨rfl,x0,x1,g,rfl,hcs,hcl,hsn,hcm⟩;refine Zaa (λhx=>?_) (λhx=>?_)
 .simp at hx;refine Cl.ofQ (rcomp_fn l Q F R p A) ?_;rintro r ⟨c,a3,er3,b3,rfl,hc⟩;have w:wadd IntKind.i64 x 1=x+1:=Zac;rw[w];refine⟨_,_,_,_,_,_,_,_,_,_,_,_,_,_,_,_,_,_,_,_,_,_,_,_,_,rfl,?_,rfl,⟨rfl,Vo,Vo,g++[c],by simp[rapp],Vm,?_,?_,?_⟩,?_⟩
  .simp[lsum,rlen];omega
  .intro J s
   rcases List.mem_append.1 s with i|i
   .exact hcl J i
   .simp at i;rw[i];exact hc.cl
  .intro e;obtain⟨e1,e2,n⟩:=hc.snd e;obtain⟨K,o⟩:=hsn e2;refine⟨λJ s=>?_,?_⟩
   .rcases List.mem_append.1 s with i|i
    .exact K J i
    .simp at i;rw[i];exact e1
   .have:=n _ o
    simpa using this
  .intro a b f;obtain⟨e1,e2⟩:=hcm a b f;have G:=(D a b f).2;have v:x.toNat<a.cs.length:=Vo;obtain⟨K,o⟩:=hsn e1
   have M:(leb k.toNat++g.flatMap encC)++encC a.cs[x.toNat]<+:l:=by
    have:a.cs=g++(a.cs[x.toNat]::a.cs.drop (x.toNat+1)):=by
     rw[e2]
     conv=>lhs;rw[<-List.take_append_drop x.toNat a.cs]
     congr 1;exact List.drop_eq_getElem_cons v
    have X:k.toNat=a.cs.length:=Vo;refine⟨(a.cs.drop (x.toNat+1)).flatMap encC++(leb a.q.toNat++leb a.t.toNat),?_⟩
    have Y:a.cs.flatMap encC=g.flatMap encC++(encC a.cs[x.toNat]++(a.cs.drop (x.toNat+1)).flatMap encC):=by
     conv=>lhs;rw[this]
     rw[List.flatMap_append,Yg]
    rw[<-f,encS,<-X,Y];simp only[List.append_assoc]
   obtain⟨L,C⟩:=hc.cmp _ _ (P_shp b _ (List.getElem_mem v)) o M;refine⟨L,?_⟩;rw[C,show(x+1).toNat=x.toNat+1 by omega];exact take_step v e2
  .show Nat.succ (k-(x+1)).toNat<=(k-x).toNat;omega
 .simp at hx;have Z:x=k:=Vo;subst Z;refine Cl.ofQ (num_fn l Q F R p A) ?_;rintro r ⟨q',a3,er3,b3,rfl,n3⟩;refine⟨_,_,_,_,_,rfl,Cl.ofQ (num_fn l a3 er3 b3 p A) ?_⟩;rintro r ⟨t',a4,er4,b4,rfl,n4⟩
  have y:∀a:StD,a.P->encS a=l->b4=false/\g=a.cs/\q'=a.q/\t'=a.t/\Gd l l a4 er4 b4:=(by intro a b f;obtain⟨e1,e2⟩:=hcm a b f;have G:=(D a b f).2;obtain⟨K,o⟩:=hsn e1;have n:g=a.cs:=(by rw[e2,List.take_of_length_le Vo]);have z:l=((leb x.toNat++g.flatMap encC)++leb a.q.toNat)++leb a.t.toNat:=(by rw[<-f,encS,n,G];simp);obtain⟨P0,_⟩:=b;obtain⟨L,C⟩:=n3.cmp _ a.q ⟨P0.2.1,Vo⟩ o ⟨leb a.t.toNat,z.symm⟩;have N:=(n3.snd L).2 _ o;rw[C]at N;obtain⟨T,U⟩:=n4.cmp _ a.t ⟨Vo,Vo⟩ N ⟨[],by rw[List.append_nil];exact z.symm⟩;have s4:=(n4.snd T).2 _ N;rw[U,<-z]at s4;exact⟨T,n,C,U,s4⟩);refine⟨_,_,_,_,_,rfl,Zaa (λj=>?_) (λj=>?_)⟩
  .exact none λa b f=>by rw[(y a b f).1]at j;cases j
  refine Cl.of (Zkb l a4 er4 p) ⟨_,rfl,Zaa (λm=>?_) (λm=>?_)⟩
  .refine none λa b f=>?_;obtain⟨_,_,_,_,i,h2,h3,h4⟩:=y a b f;simp at m;omega
  refine Cl.of (Zqd ⟨g,q',t'⟩) ⟨_,rfl,Zaa (λu=>?_) (λu=>?_)⟩
  .refine none λa b f=>?_;obtain⟨_,e1,e2,n,_⟩:=y a b f;simp at u;apply u;have:(⟨g,q',t'⟩:StD)=a:=(by rw[e1,e2,n]);rw[this];exact b
  .simp at u;refine⟨⟨g,q',t'⟩,0,rfl,.inl ⟨u,?_,rfl⟩⟩;obtain⟨u1,u2⟩:=n4.snd j;obtain⟨v1,v2⟩:=n3.snd u1;obtain⟨w1,w2⟩:=hsn v1;obtain⟨y1,y2,y3,V⟩:=u2 _ (v2 _ w2);simp at m;have a0:rgtC l a4 er4=true:=(by have:=V.length_le;simp only[rgtC,decide_eq_true_eq];omega);have a5:=m a0;have E:=V.eq_of_length Vo;rw[<-E,encS,<-hcs];simp
end Row
namespace Row
open Go Go.Px Go.Proofs Cmp Sx Tryz
end Row
namespace Row
open Go Go.Px Go.Proofs Cmp Sx Cod Tryz
def G3(l pre:List Int)(a er:Int):Prop:=er=0/\a=pre.length/\pre<+:l
def rg40(n:Int):Prop:=0<=n/\n<=1099511627776
structure TK(l:List Int)(a er n:Int)(ns:List Int)(a' er':Int):Prop where
 len:ns.length=n.toNat
 rg:∀m∈ns,-1<=m/\m<=1099511627776
 cmp:∀pre ms,G3 l pre a er->pre++encN ms<+:l->ms.length=n.toNat->(∀m∈ms,rg40 m)->G3 l (pre++encN ms) a' er'/\ns=ms
def pre_or:∀(a b r c:List Int),(∀n∈a,0<=n)->(∀n∈b,0<=n)->encN a++r=encN b++c->a<+:b\/b<+:a
 | [],b,r,c,_,_,_=>.inl W6
 |n::a,[],r,c,_,_,_=>.inr W6
 |n::a,m::b,r,c,h1,h2,h=>by
  simp only[encN,Yg,List.append_assoc]at h;obtain⟨e1,e2⟩:=Zck _ _ _ _ h;have:=h1 n Vs;have:=h2 m Vs;have e:n=m:=Vo
  rcases pre_or a b r c (λx hx=>h1 x (by simp[hx])) (λx hx=>h2 x (by simp[hx])) e2 with⟨t,d⟩|⟨t,d⟩
  .exact .inl ⟨t,by rw[e,<-d];rfl⟩
  .exact .inr ⟨t,by rw[e,<-d];rfl⟩
def tx_inj(h:txB s=txB t):s=t:=by
 have:=congrArg (λl=>bstr (bR l)) h
 simpa[Zon]using this
def encC_inj{c d:CoD}(b:shp c)(hd:shp d){r e:List Int}(h:encC c++r=encC d++e):c=d/\r=e:=by
 simp only[encC,List.append_assoc]at h;obtain⟨e1,e2⟩:=Zck _ _ _ _ h;obtain⟨g,f⟩:=List.append_inj e2 (by rw[Zcj,Zcj];exact e1);have a:=tx_inj g
 have:c=d:=by
  rcases pre_or _ _ _ _ (λn a=>(b.n n a).1) (λn a=>(hd.n n a).1) f with h1|h1
  .exact Zpn b.z hd.z a h1
  .exact(Zpn hd.z b.z a.symm h1).symm
 subst this;exact⟨rfl,List.append_cancel_left f⟩
def Zpy:∀(l m:List CoD) (r a:List Int),(∀c∈l,shp c)->(∀c∈m,shp c)->l.length=m.length->l.flatMap encC++r=m.flatMap encC++a->l=m/\r=a
 | [],[],r,a,_,_,_,h=>⟨rfl,by simpa using h⟩
 | [],y::m,r,a,_,_,hl,_=>by simp at hl
 |x::l,[],r,a,_,_,hl,_=>by simp at hl
 |x::l,y::m,r,a,h1,h2,hl,h=>by simp only[Yg,List.append_assoc]at h;obtain⟨e1,e2⟩:=encC_inj (h1 x Vs) (h2 y Vs) h;obtain⟨d,e⟩:=Zpy l m r a (λc b=>h1 c (by simp[b])) (λc b=>h2 c (by simp[b])) (by simpa using hl) e2;exact⟨by rw[e1,d],e⟩
def encS_pre{d c:StD}(h:d.P)(f:c.P){r r':List Int}(e:encS d++r=encS c++r'):d=c:=by
 simp only[encS,List.append_assoc]at e;obtain⟨e1,e2⟩:=Zck _ _ _ _ e;obtain⟨g,i⟩:=Zpy _ _ _ _ (P_shp h) (P_shp f) e1 e2;obtain⟨k,j⟩:=Zck _ _ _ _ i;obtain⟨l,_⟩:=Zck _ _ _ _ j;have a:=h.1;have b:=f.1
 cases d;cases c
 simp only[StD.mk.injEq]
 dsimp only at*
 exact⟨g,Vo,Vo⟩
def encS_inj{d a:StD}(h:d.P)(b:a.P)(e:encS d=encS a):d=a:=encS_pre h b (r:=[]) (r':=[]) (by rw[e])
def encS_len{d:StD}(h:d.P):(encS d).length<=8000/\0<(encS d).length:=by
 have b:=Zrd (P_shp h);have a:=h.1;have c:(leb d.cs.length).length<=10:=leb_small;have e:(leb d.q.toNat).length<=10:=leb_small;have f:(leb d.t.toNat).length<=10:=leb_small;have g:=Zf0 d.cs.length;simp only[encS,List.length_append];omega
end Row
namespace Dsk
open Go Go.Px Go.Proofs Tryz
abbrev dsk4(rows:LL)(b a:Int)(c:Bool):SV:=.agg [SL 3 rows,I b,I a,B c]
abbrev fil3(c:BA)(a b:LL):SV:=.agg [S c,SL 1 a,SL 1 b]
def SgT:FuncId->Sig:=(λf=>bif Nat.beq f 328 then⟨[.own],[.own]⟩else bif Nat.beq f 133 then⟨[],[.own]⟩else bif Nat.beq f 318 then⟨[],[.own]⟩else bif Nat.beq f 276 then⟨[.own],[.own]⟩else bif Nat.beq f 275 then⟨[.own],[.own]⟩else bif Nat.beq f 253 then⟨[.own],[.own]⟩else bif Nat.beq f 249 then⟨[.own],[.own]⟩else bif Nat.beq f 250 then⟨[.own],[.own]⟩else bif Nat.beq f 212 then⟨[.own],[.own]⟩else bif Nat.beq f 331 then⟨[.own],[.own]⟩else bif Nat.beq f 140 then⟨[],[.own]⟩else{})
def SvT:TypeId->Sig:=(λf=>bif Nat.beq f 22 then⟨[.own],[.own]⟩else{})
def grow_nf{rows:LL}(h:ifB (ilt i 0) False (∀x,((rlen rows)<=x)->(x<=9223372036854775807)->ifB (igt (wsub .i64 i (wsub .i64 x (isub (rlen rows) 0))) 0) ((((0:Int)<=0)/\(0<=(isub x 0))/\(isub x 0)<=(isub x 0))/\(((0<=(wsub .i64 i (wsub .i64 x (isub (rlen rows) 0))))/\(wsub .i64 i (wsub .i64 x (isub (rlen rows) 0)))<=2147483648)/\(x<(lsum (lsum 0 (isub x 0)) (wsub .i64 i (wsub .i64 x (isub (rlen rows) 0)))))/\(lsum (isub (lsum 0 (isub x 0)) 0) (wsub .i64 i (wsub .i64 x (isub (rlen rows) 0))))<=2147483648)/\(((lsum 0 (isub x 0))<=(rlen rows))->∀a,((lsum (isub (lsum 0 (isub x 0)) 0) (wsub .i64 i (wsub .i64 x (isub (rlen rows) 0))))<=a)->(a<=9223372036854775807)->(((0:Int)<=0)/\(0<=(isub (rlen rows) 0))/\(isub (rlen rows) 0)<=(isub a 0))/\((lsum 0 (isub (rlen rows) 0))<=(rlen (rapp (rsub rows 0 (lsum 0 (isub x 0))) (rrep (wsub .i64 i (wsub .i64 x (isub (rlen rows) 0))) [U8 0]))))/\Q ([SV.slice 1 (rsub (rapp (rsub rows 0 (lsum 0 (isub x 0))) (rrep (wsub .i64 i (wsub .i64 x (isub (rlen rows) 0))) [U8 0])) 0 (lsum 0 (isub (rlen rows) 0))) 0]))/\(((rlen rows)<(lsum 0 (isub x 0)))->∀a,((lsum (isub (lsum 0 (isub x 0)) 0) (wsub .i64 i (wsub .i64 x (isub (rlen rows) 0))))<=a)->(a<=9223372036854775807)->(((0:Int)<=0)/\(0<=(isub (rlen rows) 0))/\(isub (rlen rows) 0)<=(isub a 0))/\((lsum 0 (isub (rlen rows) 0))<=(rlen (rsub rows 0 (rlen rows))))/\Q [SV.slice 1 (rsub (rsub rows 0 (rlen rows)) 0 (lsum 0 (isub (rlen rows) 0))) 0])) (((rlen rows)<=(rlen rows))/\Q [SL 1 (rsub rows 0 (rlen rows))]))):Ct prog 212 ⟨[.own],[.own]⟩ [SL 1 rows,I i] Q:=
 fO SgT SvT (λk=>bif Nat.beq k 3000000 then some ({}:LoopSpec)else none) func212 h
def concat_nf{rows:LL}(h:∃e:Int->Int->Prop,∃m:Int->Int->Nat,(e 0 0)/\∀x a,(e x a)->ifB (ilt a (rlen rows)) (((0<=a)/\a<(rlen rows))/\∃l,(rget rows a=[SL 1 l])/\ifB (ilt (wadd .i64 x (rlen l)) 0) False (((Option.some []:Option LL)=Option.some [])/\(e (wadd .i64 x (rlen l)) (wadd .i64 a 1))/\Nl (m (wadd .i64 x (rlen l)) (wadd .i64 a 1)) (m x a))) (Cl prog 212 (Sig.mk [Md.own] [Md.own]) ([SL 1 [],I x]) (λj=>∃l,(j=[SL 1 l])/\∃c:LL->Int->Prop,∃i:LL->Int->Nat,(c l 0)/\∀d b,(c d b)->ifB (ilt b (rlen rows)) (((0<=b)/\b<(rlen rows))/\∃g,(rget rows b=[SL 1 g])/\((lsum (rlen d) (rlen g))<=2147483648)/\((Option.some []:Option LL)=Option.some [])/\(c (rapp d g) (wadd .i64 b 1))/\Nl (i (rapp d g) (wadd .i64 b 1)) (i d b)) (Q [SL 1 d])))):Ct prog 133 ⟨[],[.own]⟩ [SL 1 rows] Q:=
 fN SgT SvT func133 h
def dsize_nf(h:Q [I (wadd .i64 (rlen l) (rlen r))]):Ct prog 126 {} [fil3 s l r] Q:=
 fN SgT SvT func126 h
def dused_nf{rows:LL}(h:∃e:Int->Int->Prop,∃m:Int->Int->Nat,(e 0 0)/\∀x a,(e x a)->ifB (ilt a (rlen rows)) (((0<=a)/\a<(rlen rows))/\∃s l i,(rget rows a=[S s,SL 1 l,SL 1 i])/\Cl prog 126 sP ([SV.agg [S s,SL 1 l,SL 1 i]]) (λj=>∃g,(j=[I g])/\(Sm (some ([[SL 3 rows,I c,I b,B o]])))/\(e (wadd .i64 x g) (wadd .i64 a 1))/\Nl (m (wadd .i64 x g) (wadd .i64 a 1)) (m x a))) (Q [I x])):Ct prog 61 {} [dsk4 rows c b o] Q:=
 fN SgT SvT func61 h
def dlist_nf{rows:LL}(h:(((0:Int)<=0)/\(0<=(rlen rows))/\(rlen rows)<=2147483648)/\∃d:LL->Int->Prop,∃m:LL->Int->Nat,(d (rrep 0 ([S (bA [])])) 0)/\∀l x,(d l x)->ifB (ilt x (rlen rows)) (((0<=x)/\x<(rlen rows))/\∃s e g,(rget rows x=[S s,SL 1 e,SL 1 g])/\((lsum (rlen l) (rlen ([[S s]])))<=2147483648)/\(Sm (some ([[SL 3 rows,I b,I i,B o]])))/\(d (rapp l ([[S s]])) (wadd .i64 x 1))/\Nl (m (rapp l ([[S s]])) (wadd .i64 x 1)) (m l x)) (Q [SL 1 l])):Ct prog 159 {} [dsk4 rows b i o] Q:=
 fN SgT SvT func159 h
def dnamed_nf(h:ifB (bpick (ilt (slen s) 1) true (igt (slen s) 16)) (Q [B false]) (∃a:Bool->Int->Prop,∃m:Bool->Int->Nat,(a false 0)/\∀b x,(a b x)->ifB (ilt x (slen s)) (((0<=x)/\x<(slen s))/\ifB (ige (sbyte s x) 97) (((0<=x)/\x<(slen s))/\((0<=x)/\x<(slen s))/\ifB (ige (sbyte s x) 48) (((0<=x)/\x<(slen s))/\ifB (bpick (bnot (bpick true (ile (sbyte s x) 122) false)) (bnot (bpick true (ile (sbyte s x) 57) false)) false) (((0<=x)/\x<(slen s))/\ifB (bpick true (ine (sbyte s x) 46) false) (Q [B false]) (((Option.some []:Option LL)=Option.some [])/\(a b (wadd .i64 x 1))/\Nl (m b (wadd .i64 x 1)) (m b x))) (ifB (bpick false true false) (Q [B false]) (((Option.some []:Option LL)=Option.some [])/\(a b (wadd .i64 x 1))/\Nl (m b (wadd .i64 x 1)) (m b x)))) (ifB (bpick (bnot (bpick true (ile (sbyte s x) 122) false)) (bnot (bpick false true false)) false) (((0<=x)/\x<(slen s))/\ifB (bpick true (ine (sbyte s x) 46) false) (Q [B false]) (((Option.some []:Option LL)=Option.some [])/\(a b (wadd .i64 x 1))/\Nl (m b (wadd .i64 x 1)) (m b x))) (ifB (bpick false true false) (Q [B false]) (((Option.some []:Option LL)=Option.some [])/\(a b (wadd .i64 x 1))/\Nl (m b (wadd .i64 x 1)) (m b x))))) (((0<=x)/\x<(slen s))/\ifB (ige (sbyte s x) 48) (((0<=x)/\x<(slen s))/\ifB (bpick (bnot (bpick false true false)) (bnot (bpick true (ile (sbyte s x) 57) false)) false) (((0<=x)/\x<(slen s))/\ifB (bpick true (ine (sbyte s x) 46) false) (Q [B false]) (((Option.some []:Option LL)=Option.some [])/\(a b (wadd .i64 x 1))/\Nl (m b (wadd .i64 x 1)) (m b x))) (ifB (bpick false true false) (Q [B false]) (((Option.some []:Option LL)=Option.some [])/\(a b (wadd .i64 x 1))/\Nl (m b (wadd .i64 x 1)) (m b x)))) (ifB (bpick (bnot (bpick false true false)) (bnot (bpick false true false)) false) (((0<=x)/\x<(slen s))/\ifB (bpick true (ine (sbyte s x) 46) false) (Q [B false]) (((Option.some []:Option LL)=Option.some [])/\(a b (wadd .i64 x 1))/\Nl (m b (wadd .i64 x 1)) (m b x))) (ifB (bpick false true false) (Q [B false]) (((Option.some []:Option LL)=Option.some [])/\(a b (wadd .i64 x 1))/\Nl (m b (wadd .i64 x 1)) (m b x)))))) (Q [B true]))):Ct prog 96 {} [S s] Q:=
 fN SgT SvT func96 h
def dright_nf{rows:LL}(h:ifB (bpick (bpick (bpick (igt (rlen rows) 64) true (ilt i 0)) true (igt i 65536)) true (ilt c ((-1:Int)))) (Q [B false]) (∃e:Bool->Int->Prop,∃m:Bool->Int->Nat,(e false 0)/\∀b x,(e b x)->ifB (ilt x (rlen rows)) (((0<=x)/\x<(rlen rows))/\∃s l n,(rget rows x=[S s,SL 1 l,SL 1 n])/\Cl prog 96 sP [S s] (λg=>∃a,(g=[B a])/\ifB (bnot a) (ifB (bpick true true (bpick (igt x 0) true false)) (Q [B false]) ((Sm (some ([[SL 3 rows,I i,I c,B o]])))/\(e b (wadd .i64 x 1))/\Nl (m b (wadd .i64 x 1)) (m b x))) (ifB (igt x 0) (((0<=(wsub .i64 x 1))/\(wsub .i64 x 1)<(rlen rows))/\∃j d p,(rget rows (wsub .i64 x 1)=[S j,SL 1 d,SL 1 p])/\ifB (bpick false true (bpick true (sge j s) false)) (Q [B false]) ((Sm (some ([[SL 3 rows,I i,I c,B o]])))/\(e b (wadd .i64 x 1))/\Nl (m b (wadd .i64 x 1)) (m b x))) (ifB (bpick false true (bpick false true false)) (Q [B false]) ((Sm (some ([[SL 3 rows,I i,I c,B o]])))/\(e b (wadd .i64 x 1))/\Nl (m b (wadd .i64 x 1)) (m b x)))))) (Cl prog 61 sP ([SV.agg [SL 3 rows,I i,I c,B o]]) (λg=>∃k,(g=[I k])/\Q [B (ile k i)])))):Ct prog 39 {} [dsk4 rows i c o] Q:=
 fN SgT SvT func39 h
def dready_nf{rows:LL}(h:Cl prog 39 sP ([SV.agg [SL 3 rows,I e,I c,B o]]) (λj=>∃b,(j=[B b])/\ifB (bnot b) (Q [I 1]) (ifB o (Q [I 16]) (Cl prog 208 sP ([SL 1 l,SV.clo 209 []]) (λg=>∃i,(g=[B i])/\ifB i (Q [I 1]) (Q [I 0])))))):Ct prog 131 {} [dsk4 rows e c o,SL 1 l] Q:=
 fN SgT SvT func131 h
def Zxr(h:Cl prog 96 sP [S s] (λa=>∃b,(a=[B b])/\Q [B (bnot b)])):Ct prog 209 {} [S s] Q:=
 fN SgT SvT func209 h
def dplace_nf{rows:LL}(h:Cl prog 210 sP ([SL 3 rows,SV.clo 211 ([SV.ref 0 [S s]])]) (λd=>∃x,(d=[I x])/\Q [I x])):Ct prog 132 {} [dsk4 rows b i o,S s] Q:=
 fN SgT SvT func132 h
def Zxs(h:Q [B (seq s t)]):Ct prog 211 {} [fil3 s l r,.ref 0 [S t]] Q:=
 fN SgT SvT func211 h
def dsplit_nf(h:(((0:Int)<=0)/\(0<=i)/\(i=i)/\i<=(rlen l))/\((0<=i)/\(i<=(rlen l))/\(rlen l=rlen l)/\(rlen l)<=(rlen l))/\Q ([SV.agg [S s,SL 1 (rsub l 0 i),SL 1 (rsub l i (rlen l))]])):Ct prog 252 {} [S s,SL 1 l,I i] Q:=
 fN SgT SvT func252 h
def Zrx{rows:LL}{f:FuncId}(h:ifB (ieq i 0) (Q ([SV.agg [SL 3 rows,I b,I i,B true],I 16])) (ifB (igt i 0) (Cl prog 318 sO [SL 3 rows] (λa=>∃l,(a=[SL 3 l])/\Cl prog f (Sig.mk [Md.own] [Md.own]) ((SL 3 l)::C) (λd=>∃e,(d=[SL 3 e])/\Q ([SV.agg [SL 3 e,I b,I (wsub .i64 i 1),B o],I 0])))) (Cl prog 318 sO [SL 3 rows] (λa=>∃l,(a=[SL 3 l])/\Cl prog f (Sig.mk [Md.own] [Md.own]) ((SL 3 l)::C) (λd=>∃e,(d=[SL 3 e])/\Q ([SV.agg [SL 3 e,I b,I i,B o],I 0])))))):Ct prog 248 {} [dsk4 rows b i o,.clo f C] Q:=
 fN SgT SvT func248 h
def dread_nf{rows:LL}(h:Cl prog 131 sP ([SV.agg [SL 3 rows,I c,I i,B o],SL 1 ([[S s]])]) (λk=>∃x,(k=[I x])/\ifB (ine x 0) (Q ([SL 1 [],I x])) (Cl prog 132 sP ([SV.agg [SL 3 rows,I c,I i,B o],S s]) (λe=>∃b,(e=[I b])/\ifB (ieq b ((-1:Int))) (Q ([SL 1 [],I 14])) (((0<=b)/\b<(rlen rows))/\∃m l n,(rget rows b=[S m,SL 1 l,SL 1 n])/\((0<=b)/\b<(rlen rows))/\∃d p a,(rget rows b=[S d,SL 1 p,SL 1 a])/\Cl prog 133 sO ([SL 1 ([[SV.slice 1 l 0],[SV.slice 1 a 0]])]) (λg=>∃j,(g=[SL 1 j])/\Q [SL 1 j,I 0])))))):Ct prog 67 {} [dsk4 rows c i o,S s] Q:=
 fN SgT SvT func67 h
def Zxt{rows:LL}(h:Cl prog 131 sP ([SV.agg [SL 3 rows,I c,I i,B o],SL 1 ([[S s]])]) (λn=>∃x,(n=[I x])/\ifB (ine x 0) (Q ([SV.agg [SL 3 rows,I c,I i,B o],I x])) (Cl prog 132 sP ([SV.agg [SL 3 rows,I c,I i,B o],S s]) (λe=>∃a,(e=[I a])/\ifB (ine a ((-1:Int))) (Q ([SV.agg [SL 3 rows,I c,I i,B o],I 7])) (ifB (ieq (rlen rows) 64) (Q ([SV.agg [SL 3 rows,I c,I i,B o],I 13])) (Cl prog 248 sP ([SV.agg [SL 3 rows,I c,I i,B o],SV.clo 275 ([SV.ref 0 [S s]])]) (λg=>∃l j,∃k b m,(g=[SV.agg [SL 3 l,I j,I k,B b],I m])/\Q ([SV.agg [SL 3 l,I j,I k,B b],I m])))))))):Ct prog 197 {} [dsk4 rows c i o,S s] Q:=
 fN SgT SvT func197 h
def Zxu{rows:LL}(h:Cl prog 131 sP ([SV.agg [SL 3 rows,I c,I i,B o],SL 1 ([[S s]])]) (λv=>∃a,(v=[I a])/\ifB (ine a 0) (Q ([SV.agg [SL 3 rows,I c,I i,B o],I a])) (Cl prog 132 sP ([SV.agg [SL 3 rows,I c,I i,B o],S s]) (λm=>∃e,(m=[I e])/\ifB (ieq e ((-1:Int))) (Q ([SV.agg [SL 3 rows,I c,I i,B o],I 14])) (Cl prog 61 sP ([SV.agg [SL 3 rows,I c,I i,B o]]) (λn=>∃r,(n=[I r])/\ifB (igt (rlen l) (wsub .i64 c r)) (Q ([SV.agg [SL 3 rows,I c,I i,B o],I 13])) (Cl prog 248 sP ([SV.agg [SL 3 rows,I c,I i,B o],SV.clo 328 ([SV.ref 0 [I e],SV.ref 0 [S s],SV.ref 0 [SL 1 l]])]) (λd=>∃x j,∃k b g,(d=[SV.agg [SL 3 x,I j,I k,B b],I g])/\ifB (ieq g 16) (Cl prog 318 sO [SL 3 rows] (λp=>∃t,(p=[SL 3 t])/\Cl prog 328 (Sig.mk [Md.own] [Md.own]) ([SL 3 t,SV.ref 0 [I e],SV.ref 0 [S s],SV.ref 0 [SL 1 l]]) (λq=>∃u,(q=[SL 3 u])/\Q ([SV.agg [SL 3 u,I j,I k,B b],I g])))) (Q ([SV.agg [SL 3 x,I j,I k,B b],I g])))))))))):Ct prog 274 {} [dsk4 rows c i o,S s,SL 1 l] Q:=
 fN SgT SvT func274 h
def dsync_nf{rows:LL}(h:Cl prog 131 sP ([SV.agg [SL 3 rows,I c,I i,B o],SL 1 ([[S s]])]) (λn=>∃x,(n=[I x])/\ifB (ine x 0) (Q ([SV.agg [SL 3 rows,I c,I i,B o],I x])) (Cl prog 132 sP ([SV.agg [SL 3 rows,I c,I i,B o],S s]) (λg=>∃e,(g=[I e])/\ifB (ieq e ((-1:Int))) (Q ([SV.agg [SL 3 rows,I c,I i,B o],I 14])) (Cl prog 248 sP ([SV.agg [SL 3 rows,I c,I i,B o],SV.clo 253 ([SV.ref 0 [I e],SV.ref 0 [S s]])]) (λa=>∃l j,∃k b m,(a=[SV.agg [SL 3 l,I j,I k,B b],I m])/\Q ([SV.agg [SL 3 l,I j,I k,B b],I m]))))))):Ct prog 174 {} [dsk4 rows c i o,S s] Q:=
 fN SgT SvT func174 h
def Zxv{rows:LL}(h:Cl prog 131 sP ([SV.agg [SL 3 rows,I c,I i,B o],SL 1 ([[S s]])]) (λn=>∃x,(n=[I x])/\ifB (ine x 0) (Q ([SV.agg [SL 3 rows,I c,I i,B o],I x])) (Cl prog 132 sP ([SV.agg [SL 3 rows,I c,I i,B o],S s]) (λg=>∃e,(g=[I e])/\ifB (ieq e ((-1:Int))) (Q ([SV.agg [SL 3 rows,I c,I i,B o],I 14])) (Cl prog 248 sP ([SV.agg [SL 3 rows,I c,I i,B o],SV.clo 249 ([SV.ref 0 [I e]])]) (λa=>∃l j,∃k b m,(a=[SV.agg [SL 3 l,I j,I k,B b],I m])/\Q ([SV.agg [SL 3 l,I j,I k,B b],I m]))))))):Ct prog 169 {} [dsk4 rows c i o,S s] Q:=
 fN SgT SvT func169 h
def dapp1_nf{rows:LL}(h:((0<=i)/\i<(rlen rows))/\((0<=i)/\i<(rlen rows))/\∃k x c,(rget rows i=[S k,SL 1 x,SL 1 c])/\Cl prog 133 sO ([SL 1 ([[SV.slice 1 x 0],[SV.slice 1 c 0],[SV.slice 1 l 0]])]) (λj=>∃d,(j=[SL 1 d])/\Cl prog 252 sP [S s,SL 1 d,I (rlen x)] (λb=>∃e g a,(b=[SV.agg [S e,SL 1 g,SL 1 a]])/\((0<=i)/\i<(rlen rows))/\((0<=i)/\i<(rlen rows))/\Q ([SL 3 (rset rows i [S e,SV.slice 1 g 0,SV.slice 1 a 0])])))):Ct prog 328 ⟨[.own],[.own]⟩ [SL 3 rows,.ref 0 [I i],.ref 0 [S s],.ref 0 [SL 1 l]] Q:=
 fN SgT SvT func328 h
def dcre1_nf{rows:LL}(h:Cl prog 276 (Sig.mk [Md.own] [Md.own]) ([SL 3 rows,SV.agg ([S s,SL 1 [],SL 1 []])]) (λa=>∃l,(a=[SL 3 l])/\Q [SL 3 l])):Ct prog 275 ⟨[.own],[.own]⟩ [SL 3 rows,.ref 0 [S s]] Q:=
 fN SgT SvT func275 h
def dsyn1_nf{rows:LL}(h:((0<=i)/\i<(rlen rows))/\((0<=i)/\i<(rlen rows))/\∃e l b,(rget rows i=[S e,SL 1 l,SL 1 b])/\Cl prog 133 sO ([SL 1 ([[SV.slice 1 l 0],[SV.slice 1 b 0]])]) (λm=>∃g,(m=[SL 1 g])/\Cl prog 126 sP ([SV.agg [S e,SL 1 l,SL 1 b]]) (λc=>∃x,(c=[I x])/\Cl prog 252 sP [S s,SL 1 g,I x] (λd=>∃a j k,(d=[SV.agg [S a,SL 1 j,SL 1 k]])/\((0<=i)/\i<(rlen rows))/\((0<=i)/\i<(rlen rows))/\Q ([SL 3 (rset rows i [S a,SV.slice 1 j 0,SV.slice 1 k 0])]))))):Ct prog 253 ⟨[.own],[.own]⟩ [SL 3 rows,.ref 0 [I i],.ref 0 [S s]] Q:=
 fN SgT SvT func253 h
def drem1_nf{rows:LL}(h:Cl prog 250 (Sig.mk [Md.own] [Md.own]) [SL 3 rows,I i,I (wadd .i64 i 1)] (λb=>∃l,(b=[SL 3 l])/\Q [SL 3 l])):Ct prog 249 ⟨[.own],[.own]⟩ [SL 3 rows,.ref 0 [I i]] Q:=
 fN SgT SvT func249 h
def Zxw{rows:LL}(h:Cl prog 329 sP ([SL 3 rows,S s,SV.clo 330 []]) (λe=>∃x g,(e=[I x,B g])/\Cl prog 331 (Sig.mk [Md.own] [Md.own]) ([SL 3 rows,I x,SL 3 ([[S s,SV.slice 1 l 0,SV.slice 1 r 0]])]) (λd=>∃a,(d=[SL 3 a])/\Q [SL 3 a]))):Ct prog 276 ⟨[.own],[.own]⟩ [SL 3 rows,fil3 s l r] Q:=
 fN SgT SvT func276 h
def fclone_nf{rows:LL}(h:∀b,((b=true)->rlen rows=0)->ifB b (Q ([SL 3 []])) (((lsum (rlen []) (rlen rows))<=2147483648)/\Q ([SL 3 (rapp [] rows)]))):Ct prog 318 ⟨[],[.own]⟩ [SL 3 rows] Q:=
 fN SgT SvT func318 h
def Zxx{rows:LL}{f:FuncId}(h:∃b:Int->Int->Prop,∃m:Int->Int->Nat,(b 0 (rlen rows))/\∀x a,(b x a)->ifB (ilt x a) (((0:Int)<=1)/\((0<=(wcv .i64 (wshr .u64 (wcv .u64 (wadd .i64 x a)) 1)))/\(wcv .i64 (wshr .u64 (wcv .u64 (wadd .i64 x a)) 1))<(rlen rows))/\∃c l d,(rget rows (wcv .i64 (wshr .u64 (wcv .u64 (wadd .i64 x a)) 1))=[S c,SL 1 l,SL 1 d])/\Cl prog f sP ((SV.agg [S c,SL 1 l,SL 1 d])::((S s)::C)) (λi=>∃e,(i=[I e])/\ifB (ilt e 0) (((Option.some []:Option LL)=Option.some [])/\(b (wadd .i64 (wcv .i64 (wshr .u64 (wcv .u64 (wadd .i64 x a)) 1)) 1) a)/\Nl (m (wadd .i64 (wcv .i64 (wshr .u64 (wcv .u64 (wadd .i64 x a)) 1)) 1) a) (m x a)) (((Option.some []:Option LL)=Option.some [])/\(b x (wcv .i64 (wshr .u64 (wcv .u64 (wadd .i64 x a)) 1)))/\Nl (m x (wcv .i64 (wshr .u64 (wcv .u64 (wadd .i64 x a)) 1))) (m x a)))) (ifB (ilt x (rlen rows)) (((0<=x)/\x<(rlen rows))/\∃c l d,(rget rows x=[S c,SL 1 l,SL 1 d])/\Cl prog f sP ((SV.agg [S c,SL 1 l,SL 1 d])::((S s)::C)) (λi=>∃e,(i=[I e])/\Q [I x,B (bpick true (ieq e 0) false)])) (Q [I x,B (bpick false true false)]))):Ct prog 329 {} [SL 3 rows,S s,.clo f C] Q:=
 fN SgT SvT func329 h
def scont_nf{rows:LL}{f:FuncId}(h:Cl prog 280 sP [SL 1 rows,SV.clo f C] (λb=>∃x,(b=[I x])/\Q [B (ige x 0)])):Ct prog 208 {} [SL 1 rows,.clo f C] Q:=
 fN SgT SvT func208 h
def sindex_nf{rows:LL}{f:FuncId}(h:∃c:Int->Int->Prop,∃m:Int->Int->Nat,(c 0 0)/\∀x a,(c x a)->ifB (ilt a (rlen rows)) (((0<=a)/\a<(rlen rows))/\∃s,(rget rows a=[S s])/\Cl prog f sP ((S s)::C) (λe=>∃b,(e=[B b])/\ifB b (Q [I a]) (((Option.some []:Option LL)=Option.some [])/\(c x (wadd .i64 a 1))/\Nl (m x (wadd .i64 a 1)) (m x a)))) (Q [I (-1)])):Ct prog 280 {} [SL 1 rows,.clo f C] Q:=
 fN SgT SvT func280 h
def Zry(h:Cl prog 180 sP [S s] (λd=>∃b,(d=[B b])/\Cl prog 180 sP [S t] (λc=>∃a,(c=[B a])/\ifB b (ifB a (Q [I 0]) (Q [I (-1)])) (ifB a (Q [I 1]) (ifB (slt s t) (Q [I (-1)]) (ifB (sgt s t) (Q [I 1]) (Q [I 0]))))))):Ct prog 117 {} [S s,S t] Q:=
 fN SgT SvT func117 h
def cnan_nf(h:Q [B (sne s s)]):Ct prog 180 {} [S s] Q:=
 fN SgT SvT func180 h
def dins1_nf(h:Cl prog 117 sP [S s,S t] (λd=>∃x,(d=[I x])/\Q [I x])):Ct prog 330 {} [fil3 s l r,S t] Q:=
 fN SgT SvT func330 h
def dcut_nf{rows:LL}(h:Cl prog 131 sP ([SV.agg [SL 3 rows,I c,I i,B o],SL 1 ([[S s]])]) (λu=>∃x,(u=[I x])/\ifB (ine x 0) (Q ([SV.agg [SL 3 rows,I c,I i,B o],I x])) (Cl prog 132 sP ([SV.agg [SL 3 rows,I c,I i,B o],S s]) (λm=>∃e,(m=[I e])/\ifB (ieq e ((-1:Int))) (Q ([SV.agg [SL 3 rows,I c,I i,B o],I 14])) (ifB (ilt j 0) (ifB (bpick true true true) (Q ([SV.agg [SL 3 rows,I c,I i,B o],I 1])) (Cl prog 248 sP ([SV.agg [SL 3 rows,I c,I i,B o],SV.clo 251 ([SV.ref 0 [I e],SV.ref 0 [S s],SV.ref 0 [I j]])]) (λg=>∃l a,∃n b k,(g=[SV.agg [SL 3 l,I a,I n,B b],I k])/\Q ([SV.agg [SL 3 l,I a,I n,B b],I k])))) (((0<=e)/\e<(rlen rows))/\∃p l q,(rget rows e=[S p,SL 1 l,SL 1 q])/\Cl prog 126 sP ([SV.agg [S p,SL 1 l,SL 1 q]]) (λg=>∃a,(g=[I a])/\ifB (bpick false true (igt j a)) (Q ([SV.agg [SL 3 rows,I c,I i,B o],I 1])) (Cl prog 248 sP ([SV.agg [SL 3 rows,I c,I i,B o],SV.clo 251 ([SV.ref 0 [I e],SV.ref 0 [S s],SV.ref 0 [I j]])]) (λd=>∃r n,∃k b t,(d=[SV.agg [SL 3 r,I n,I k,B b],I t])/\Q ([SV.agg [SL 3 r,I n,I k,B b],I t])))))))))):Ct prog 172 {} [dsk4 rows c i o,S s,I j] Q:=
 fN SgT SvT func172 h
def dcut1_nf{rows:LL}(h:((0<=i)/\i<(rlen rows))/\((0<=i)/\i<(rlen rows))/\∃k l d,(rget rows i=[S k,SL 1 l,SL 1 d])/\Cl prog 133 sO ([SL 1 ([[SV.slice 1 l 0],[SV.slice 1 d 0]])]) (λn=>∃b,(n=[SL 1 b])/\(((0:Int)<=0)/\(0<=j)/\j<=(rlen b))/\Cl prog 252 sP [S s,SL 1 (rsub b 0 j),I (imin j (rlen l))] (λc=>∃e g a,(c=[SV.agg [S e,SL 1 g,SL 1 a]])/\((0<=i)/\i<(rlen rows))/\((0<=i)/\i<(rlen rows))/\Q ([SL 3 (rset rows i [S e,SV.slice 1 g 0,SV.slice 1 a 0])])))):Ct prog 251 ⟨[.own],[.own]⟩ [SL 3 rows,.ref 0 [I i],.ref 0 [S s],.ref 0 [I j]] Q:=
 fN SgT SvT func251 h
def qshort_nf(rows:LL)(d a:Int)(e:Bool)(Q:QQ)(h:ifB (igt (rlen rows) 70) (ifB (bpick true true true) (Q [B false]) (∃c:Bool->Int->Prop,∃m:Bool->Int->Nat,(c false 0)/\∀b x,(c b x)->ifB (ilt x (rlen rows)) (((0<=x)/\x<(rlen rows))/\∃s l i,(rget rows x=[S s,SL 1 l,SL 1 i])/\ifB (igt (slen s) 100) (Q [B false]) ((Sm (some ([[SL 3 rows,I d,I a,B e]])))/\(c b (wadd .i64 x 1))/\Nl (m b (wadd .i64 x 1)) (m b x))) (Q [B true]))) (Cl prog 62 sP ([SV.agg [SL 3 rows,I d,I a,B e]]) (λj=>∃x,(j=[I x])/\ifB (bpick false true (igt x 70000)) (Q [B false]) (∃c:Bool->Int->Prop,∃m:Bool->Int->Nat,(c false 0)/\∀b g,(c b g)->ifB (ilt g (rlen rows)) (((0<=g)/\g<(rlen rows))/\∃s l i,(rget rows g=[S s,SL 1 l,SL 1 i])/\ifB (igt (slen s) 100) (Q [B false]) ((Sm (some ([[SL 3 rows,I d,I a,B e]])))/\(c b (wadd .i64 g 1))/\Nl (m b (wadd .i64 g 1)) (m b g))) (Q [B true]))))):Ct prog 21 {} [dsk4 rows d a e] Q:=
 fN SgT SvT func21 h
def qright_nf(rows:LL)(c a:Int)(e:Bool)(Q:QQ)(h:ifB (bpick (bpick (bpick (igt (rlen rows) 64) true (ilt c 0)) true (igt c 65536)) true (ilt a ((-1:Int)))) (ifB (bpick true true true) (Q [B false]) (∃g:Bool->Int->Prop,∃m:Bool->Int->Nat,(g false 0)/\∀b x,(g b x)->ifB (ilt x (rlen rows)) (((0<=x)/\x<(rlen rows))/\∃s l o,(rget rows x=[S s,SL 1 l,SL 1 o])/\Cl prog 76 sP [S s] (λn=>∃i,(n=[B i])/\ifB (bnot i) (ifB (bpick true true (bpick (igt x 0) true false)) (Q [B false]) ((Sm (some ([[SL 3 rows,I c,I a,B e]])))/\(g b (wadd .i64 x 1))/\Nl (m b (wadd .i64 x 1)) (m b x))) (ifB (igt x 0) (((0<=x)/\x<(rlen rows))/\∃j p q,(rget rows x=[S j,SL 1 p,SL 1 q])/\((0<=(wsub .i64 x 1))/\(wsub .i64 x 1)<(rlen rows))/\∃k r t,(rget rows (wsub .i64 x 1)=[S k,SL 1 r,SL 1 t])/\ifB (bpick false true (bpick true (sle j k) false)) (Q [B false]) ((Sm (some ([[SL 3 rows,I c,I a,B e]])))/\(g b (wadd .i64 x 1))/\Nl (m b (wadd .i64 x 1)) (m b x))) (ifB (bpick false true (bpick false true false)) (Q [B false]) ((Sm (some ([[SL 3 rows,I c,I a,B e]])))/\(g b (wadd .i64 x 1))/\Nl (m b (wadd .i64 x 1)) (m b x)))))) (Q [B true]))) (Cl prog 62 sP ([SV.agg [SL 3 rows,I c,I a,B e]]) (λn=>∃x,(n=[I x])/\ifB (bpick false true (igt x c)) (Q [B false]) (∃g:Bool->Int->Prop,∃m:Bool->Int->Nat,(g false 0)/\∀b d,(g b d)->ifB (ilt d (rlen rows)) (((0<=d)/\d<(rlen rows))/\∃s l o,(rget rows d=[S s,SL 1 l,SL 1 o])/\Cl prog 76 sP [S s] (λu=>∃i,(u=[B i])/\ifB (bnot i) (ifB (bpick true true (bpick (igt d 0) true false)) (Q [B false]) ((Sm (some ([[SL 3 rows,I c,I a,B e]])))/\(g b (wadd .i64 d 1))/\Nl (m b (wadd .i64 d 1)) (m b d))) (ifB (igt d 0) (((0<=d)/\d<(rlen rows))/\∃j p q,(rget rows d=[S j,SL 1 p,SL 1 q])/\((0<=(wsub .i64 d 1))/\(wsub .i64 d 1)<(rlen rows))/\∃k r t,(rget rows (wsub .i64 d 1)=[S k,SL 1 r,SL 1 t])/\ifB (bpick false true (bpick true (sle j k) false)) (Q [B false]) ((Sm (some ([[SL 3 rows,I c,I a,B e]])))/\(g b (wadd .i64 d 1))/\Nl (m b (wadd .i64 d 1)) (m b d))) (ifB (bpick false true (bpick false true false)) (Q [B false]) ((Sm (some ([[SL 3 rows,I c,I a,B e]])))/\(g b (wadd .i64 d 1))/\Nl (m b (wadd .i64 d 1)) (m b d)))))) (Q [B true]))))):Ct prog 29 {} [dsk4 rows c a e] Q:=
 fN SgT SvT func29 h
def qused_nf{rows:LL}(h:∃e:Int->Int->Prop,∃m:Int->Int->Nat,(e 0 0)/\∀x a,(e x a)->ifB (ilt a (rlen rows)) (((0<=a)/\a<(rlen rows))/\∃s l i,(rget rows a=[S s,SL 1 l,SL 1 i])/\((0<=a)/\a<(rlen rows))/\∃j k g,(rget rows a=[S j,SL 1 k,SL 1 g])/\(Sm (some ([[SL 3 rows,I c,I b,B o]])))/\(e (wadd .i64 (wadd .i64 x (rlen l)) (rlen g)) (wadd .i64 a 1))/\Nl (m (wadd .i64 (wadd .i64 x (rlen l)) (rlen g)) (wadd .i64 a 1)) (m x a)) (Q [I x])):Ct prog 62 {} [dsk4 rows c b o] Q:=
 fN SgT SvT func62 h
def qnamed_nf(h:ifB (bpick (ilt (slen s) 1) true (igt (slen s) 16)) (Q [B false]) (∃a:Bool->Int->Prop,∃m:Bool->Int->Nat,(a false 0)/\∀b x,(a b x)->ifB (ilt x (slen s)) (((0<=x)/\x<(slen s))/\ifB (ine (sbyte s x) 46) (((0<=x)/\x<(slen s))/\ifB (ilt (sbyte s x) 48) (ifB (bpick true (bpick true true true) false) (((0<=x)/\x<(slen s))/\ifB (ilt (sbyte s x) 97) (ifB (bpick true (bpick true true true) false) (Q [B false]) (((Option.some []:Option LL)=Option.some [])/\(a b (wadd .i64 x 1))/\Nl (m b (wadd .i64 x 1)) (m b x))) (((0<=x)/\x<(slen s))/\ifB (bpick true (bpick false true (igt (sbyte s x) 122)) false) (Q [B false]) (((Option.some []:Option LL)=Option.some [])/\(a b (wadd .i64 x 1))/\Nl (m b (wadd .i64 x 1)) (m b x)))) (ifB (bpick false (bpick true true true) false) (Q [B false]) (((Option.some []:Option LL)=Option.some [])/\(a b (wadd .i64 x 1))/\Nl (m b (wadd .i64 x 1)) (m b x)))) (((0<=x)/\x<(slen s))/\ifB (bpick true (bpick false true (igt (sbyte s x) 57)) false) (((0<=x)/\x<(slen s))/\ifB (ilt (sbyte s x) 97) (ifB (bpick true (bpick true true true) false) (Q [B false]) (((Option.some []:Option LL)=Option.some [])/\(a b (wadd .i64 x 1))/\Nl (m b (wadd .i64 x 1)) (m b x))) (((0<=x)/\x<(slen s))/\ifB (bpick true (bpick false true (igt (sbyte s x) 122)) false) (Q [B false]) (((Option.some []:Option LL)=Option.some [])/\(a b (wadd .i64 x 1))/\Nl (m b (wadd .i64 x 1)) (m b x)))) (ifB (bpick false (bpick true true true) false) (Q [B false]) (((Option.some []:Option LL)=Option.some [])/\(a b (wadd .i64 x 1))/\Nl (m b (wadd .i64 x 1)) (m b x))))) (ifB (bpick false (bpick true true true) false) (((0<=x)/\x<(slen s))/\ifB (ilt (sbyte s x) 97) (ifB (bpick true (bpick true true true) false) (Q [B false]) (((Option.some []:Option LL)=Option.some [])/\(a b (wadd .i64 x 1))/\Nl (m b (wadd .i64 x 1)) (m b x))) (((0<=x)/\x<(slen s))/\ifB (bpick true (bpick false true (igt (sbyte s x) 122)) false) (Q [B false]) (((Option.some []:Option LL)=Option.some [])/\(a b (wadd .i64 x 1))/\Nl (m b (wadd .i64 x 1)) (m b x)))) (ifB (bpick false (bpick true true true) false) (Q [B false]) (((Option.some []:Option LL)=Option.some [])/\(a b (wadd .i64 x 1))/\Nl (m b (wadd .i64 x 1)) (m b x))))) (Q [B true]))):Ct prog 76 {} [S s] Q:=
 fN SgT SvT func76 h
def qall_nf(c:BA)(a b:LL)(Q:QQ)(h:((lsum (rlen []) (rlen a))<=2147483648)/\((lsum (rlen (rapp [] a)) (rlen b))<=2147483648)/\Q ([SL 1 (rapp (rapp [] a) b)])):Ct prog 145 {} [fil3 c a b] Q:=
 fN SgT SvT func145 h
end Dsk
namespace Dsk
open Go Go.Px Go.Proofs Ins Tryz
def ovl_file:fovl prog 362 22:=by
 refine⟨#[4],λx y w=>?_⟩;rw[run_callFunc_extern func362 Vk Vk Vk (e:=Extern.SlicesOverlaps.overlaps #[22,22] #[4]) Vk]
def grow_fn(n:Nat)(g:n<=2147483648):Ct prog 212 ⟨[.own],[.own]⟩ [SL 1 [],I n] (λr=>r=[SL 1 []]):=by
 refine grow_nf (Zaa (λh=>by simp at h;omega) (λ_ x hx f=>?_));simp only[rlen_eq,Y9,isub_d,lsum_eq,WQ,Wr]at hx|-;have hx:(0:Int)<=x:=hx;have w:wsub .i64 (n:Int) (wsub .i64 x ((0:Nat):Int))=n-x:=(by rw[Zap (a:=x)];rw[Zap];omega);rw[w];refine Zaa (λh=>?_) (λh=>⟨Yd _,by simp[rsub]⟩);simp at h;refine⟨⟨Vo,hx,Vo⟩,⟨⟨Vo,Vo⟩,Vo,Vo⟩,λb c d e=>⟨⟨Vo,Vo,Vo⟩,Vo,by simp[rsub]⟩,λb c d e=>⟨⟨Vo,Vo,Vo⟩,Vo,by simp[rsub]⟩⟩
def catL:List (List UInt8)->List UInt8:=List.flatten
abbrev sR(a:List (List UInt8)):LL:=a.map λl=>[SL 1 (uR l)]
def Zvy(a:List (List UInt8))(i:Nat)(h:i<a.length):catL (a.take (i+1))=catL (a.take i)++a[i]:=by
 rw[take_s _ _ h];unfold catL;rw[List.flatten_append,List.flatten_singleton]
def cat_le(a:List (List UInt8))(i:Nat):(catL (a.take i)).length<=(catL a).length:=by
 conv=>rhs;rw[<-List.take_append_drop i a]
 simp only[catL,List.flatten_append,List.length_append];omega
def Zq3(a:List (List UInt8))(d:a.length<=1000)(b:(catL a).length<=2147483648):Ct prog 133 ⟨[],[.own]⟩ [SL 1 (sR a)] (λr=>r=[SL 1 (uR (catL a))]):=by
 refine concat_nf ⟨λx y=>∃i:Nat,y=i/\i<=a.length/\x=(catL (a.take i)).length,λ_ y=>a.length-y.toNat,⟨0,rfl,Vo,by simp[catL]⟩,?_⟩;rintro _ _ ⟨i,rfl,hi,rfl⟩;refine Zaa (λh=>?_) (λh=>?_)
 .simp at h;have e:=Zvy a i h;have e2:=cat_le a (i+1);rw[e,List.length_append]at e2;refine⟨⟨Vo,by simpa using h⟩,uR a[i],by rw[Zah _ _ _ h],?_⟩;rw[rlen_eq,Zi8,Zkf _ _ Vo];refine Zaa (λc=>by simp at c;omega) (λ_=>⟨rfl,?_,?_⟩)
  .rw[waddN _];exact⟨i+1,rfl,Vo,by rw[e,List.length_append]⟩
  .rw[waddN _];exact stepL Vm
 .simp at h;have:i=a.length:=Vo;subst this;rw[Y7];refine Cl.of (grow_fn _ b) ⟨_,rfl,λl y=>∃i:Nat,y=i/\i<=a.length/\l=uR (catL (a.take i)),λ_ y=>a.length-y.toNat,⟨0,rfl,Vo,by simp[catL]⟩,?_⟩;rintro _ _ ⟨i,rfl,hi,rfl⟩;refine Zaa (λh=>?_) (λh=>?_)
  .simp at h;have e:=Zvy a i h;have e2:=cat_le a (i+1);rw[e,List.length_append]at e2;refine⟨⟨Vo,by simpa using h⟩,uR a[i],by rw[Zah _ _ _ h],Vm,rfl,?_,?_⟩
   .rw[waddN _];exact⟨i+1,rfl,Vo,by rw[e,Zjy]⟩
   .rw[waddN _];exact stepL Vm
  .simp at h;have:i=a.length:=Vo;subst this;rw[Y7]
def Zs7(a b:List UInt8)(h:a.length+b.length<=2147483648):Ct prog 133 ⟨[],[.own]⟩ [SL 1 [[SL 1 (uR a)],[SL 1 (uR b)]]] (λr=>r=[SL 1 (uR (a++b))]):=by
 have:=Zq3 [a,b] Vs (by simpa[catL]using h)
 simpa[catL]using this
def concat3(a b c:List UInt8)(h:a.length+b.length+c.length<=2147483648):Ct prog 133 ⟨[],[.own]⟩ [SL 1 [[SL 1 (uR a)],[SL 1 (uR b)],[SL 1 (uR c)]]] (λr=>r=[SL 1 (uR (a++b++c))]):=by
 have:=Zq3 [a,b,c] Vs (by simp[catL];omega)
 simpa[catL]using this
def Zo2(f:FiD)(h:f.len<=72057594037927936):Ct prog 126 {} [.agg f.row] (λr=>r=[I f.len]):=by
 refine dsize_nf ?_;unfold FiD.len at h|-;rw[rlen_eq,rlen_eq,Zi8,Zi8,Zkf _ _ Vo]
def _root_.Go.Px.DiD.ok(d:DiD):Prop:=usedL d.fs<=72057594037927936/\d.fs.length<=72057594037927936/\d.st<=9223372036854775807
def Zq4(l:List FiD)(i:Nat)(h:i<l.length):usedL (l.take (i+1))=usedL (l.take i)+l[i].len:=by
 rw[take_s _ _ h,Zen];simp[usedL]
def used_le(l:List FiD)(i:Nat):usedL (l.take i)<=usedL l:=by
 have:=congrArg usedL (List.take_append_drop i l);rw[Zen]at this;omega
def Zo3(d:DiD)(h:d.ok):Ct prog 61 {} [d.sv] (λr=>r=[I (usedL d.fs)]):=by
 obtain⟨a,b,_⟩:=h;refine dused_nf ⟨λx y=>∃i:Nat,y=i/\i<=d.fs.length/\x=usedL (d.fs.take i),λ_ y=>d.fs.length-y.toNat,⟨0,rfl,Vo,by simp[usedL]⟩,?_⟩;rintro _ _ ⟨i,rfl,hi,rfl⟩;refine Zaa (λh=>?_) (λh=>?_)
 .simp at h;have e:=Zq4 d.fs i h;have e2:=used_le d.fs (i+1);refine⟨⟨Vo,by simpa using h⟩,_,_,_,Zah _ _ _ h,Cl.of (Zo2 d.fs[i] (by have:=Zfu (List.getElem_mem h);omega)) ⟨_,rfl,rfl,?_,?_⟩⟩
  .rw[waddN _,Zkf _ _ Vo];exact⟨i+1,rfl,Vo,by rw[e]⟩
  .rw[waddN _];exact stepL Vm
 .simp at h;have:i=d.fs.length:=Vo;subst this;rw[Y7]
def Zvz(d:DiD)(h:d.fs.length<=2147483648):Ct prog 159 {} [d.sv] (λr=>r=[SL 1 (nR (d.fs.map FiD.nm))]):=by
 refine dlist_nf ⟨⟨Vo,Vs,Vm⟩,λl y=>∃i:Nat,y=i/\i<=d.fs.length/\l=nR ((d.fs.take i).map FiD.nm),λ_ y=>d.fs.length-y.toNat,⟨0,rfl,Vo,by simp[rrep]⟩,?_⟩;rintro _ _ ⟨i,rfl,hi,rfl⟩;refine Zaa (λh=>?_) (λh=>?_)
 .simp at h;refine⟨⟨Vo,by simpa using h⟩,_,_,_,Zah _ _ _ h,Vm,rfl,?_,?_⟩
  .rw[waddN _];exact⟨i+1,rfl,Vo,by rw[take_s _ _ h,List.map_append];exact Zjy _ _ [d.fs[i].nm]⟩
  .rw[waddN _];exact stepL Vm
 .simp at h;have:i=d.fs.length:=Vo;subst this;rw[Y7]
def Ziy:fnB s=true↔(1<=s.size/\s.size<=16)/\∀i:Nat,∀h:i<s.size,fchr (s.data.toList[i]'(by rw[<-Zb0];exact h))=true:=by
 unfold fnB;rw[Bool.and_eq_true,decide_eq_true_eq,List.all_eq_true];refine and_congr Iff.rfl ⟨λh i a=>h _ (List.getElem_mem _),λh b c=>?_⟩;obtain⟨i,a,rfl⟩:=List.mem_iff_getElem.1 c;exact h i (by rw[Zb0];exact a)
def Zq5(s:BA):Ct prog 96 {} [S s] (λr=>r=[B (fnB s)]):=by
 refine dnamed_nf (Zaa (λh=>?_) (λh=>?_))
 .simp at h;have:fnB s=false:=(by rw[YK];intro k;have:=(Ziy.1 k).1;omega);rw[this]
 .simp at h;refine⟨λ_ y=>∃i:Nat,y=i/\i<=s.size/\∀j:Nat,∀a:j<s.size,j<i->fchr (s.data.toList[j]'(by rw[<-Zb0];exact a))=true,λ_ y=>s.size-y.toNat,⟨0,rfl,Vo,λj _ a=>Vo⟩,?_⟩;rintro _ _ ⟨i,rfl,hi,hall⟩;refine Zaa (λd=>?_) (λd=>?_)
  .simp at d;rw[Zro _ _ d,waddN _];generalize hb:s.data.toList[i]'(by rw[<-Zb0];exact d)=b
   have o:fchr b=true->∃k:Nat,((i+1:Nat):Int)=k/\k<=s.size/\∀j:Nat,∀a:j<s.size,j<k->fchr (s.data.toList[j]'(by rw[<-Zb0];exact a))=true:=λf=>
    ⟨i+1,rfl,Vo,λj a v=>by
     by_cases e:j=i
     .subst e;rw[hb];exact f
     .exact hall j a Vo⟩
   have no:fchr b=false->[B false]=[B (fnB s)]:=λf=>by have:fnB s=false:=(by rw[YK];intro k;have:=(Ziy.1 k).2 i d;rw[hb,f]at this;cases this);rw[this]
   have u:Nl (s.size-((i+1:Nat):Int).toNat) (s.size-((i:Nat):Int).toNat):=stepL Vm
   have rng:(0:Int)<=(i:Int)/\(i:Int)<slen s:=⟨Vo,by simpa using d⟩
   have w:∀{p:Prop},(p↔fchr b=true)->p->fchr b=true:=λh=>h.1;have q:fchr b=true↔(97<=b.toNat/\b.toNat<=122)\/(48<=b.toNat/\b.toNat<=57)\/b.toNat=46:=(by unfold fchr;rw[decide_eq_true_eq]);have t:fchr b=false↔¬((97<=b.toNat/\b.toNat<=122)\/(48<=b.toNat/\b.toNat<=57)\/b.toNat=46):=by rw[<-q];simp
   have fin:∀(g:Bool),(g=true↔fchr b=false)->ifB g ([B false]=[B (fnB s)]) ((some []:Option LL)=some []/\(∃k:Nat,((i+1:Nat):Int)=k/\k<=s.size/\∀j:Nat,∀a:j<s.size,j<k->fchr (s.data.toList[j]'(by rw[<-Zb0];exact a))=true)/\Nl (s.size-((i+1:Nat):Int).toNat) (s.size-((i:Nat):Int).toNat)):=λg n=>
    Zaa (λh=>no (n.1 h)) (λh=>⟨rfl,o (by cases f:fchr b with|true=>rfl|false=>rw[n.2 f]at h;cases h),u⟩)
   refine⟨rng,Zaa (λm=>⟨rng,rng,Zaa (λl=>⟨rng,Zaa (λc=>⟨rng,fin _ ?_⟩) (λc=>fin _ ?_)⟩) (λl=>Zaa (λc=>⟨rng,fin _ ?_⟩) (λc=>fin _ ?_))⟩) (λm=>⟨rng,Zaa (λl=>⟨rng,Zaa (λc=>⟨rng,fin _ ?_⟩) (λc=>fin _ ?_)⟩) (λl=>Zaa (λc=>⟨rng,fin _ ?_⟩) (λc=>fin _ ?_))⟩)⟩
   all_goals first|(simp at m l c;done)|(simp at m l c;rw[t];first|(simp;done)|(simp;omega))
  .simp at d;have:fnB s=true:=Ziy.2 ⟨Vo,λj a=>hall j a Vo⟩;rw[this]
def adj_srt{l:List FiD}(h:∀i:Nat,∀a:i<l.length,0<i->nlt (l[i-1]'Vo).nm l[i].nm):srt FiD.nm l:=
 srt_adj λi a=>by have:=h (i+1) a Vo;simpa using this
def Zep(d:DiD)(h:d.ok):Ct prog 39 {} [d.sv] (λr=>r=[B (decide d.P)]):=by
 have no:¬d.P->[B false]=[B (decide d.P)]:=λh=>by simp[h]
 refine dright_nf (Zaa (λq=>no (λp=>?_)) (λq=>?_))
 .have:=p.1;simp at q;omega
 .simp at q;refine⟨λ_ y=>∃i:Nat,y=i/\i<=d.fs.length/\∀j:Nat,∀c:j<d.fs.length,j<i->fnB d.fs[j].nm=true/\(0<j->nlt (d.fs[j-1]'Vo).nm d.fs[j].nm),λ_ y=>d.fs.length-y.toNat,⟨0,rfl,Vo,λj _ c=>Vo⟩,?_⟩;rintro b _ ⟨i,rfl,hi,hall⟩;refine Zaa (λl=>?_) (λl=>?_)
  .simp at l;have s:Nl (d.fs.length-((i+1:Nat):Int).toNat) (d.fs.length-((i:Nat):Int).toNat):=stepL Vm
   have o:fnB d.fs[i].nm=true->(0<i->nlt (d.fs[i-1]'Vo).nm d.fs[i].nm)->∃k:Nat,((i+1:Nat):Int)=k/\k<=d.fs.length/\∀j:Nat,∀c:j<d.fs.length,j<k->fnB d.fs[j].nm=true/\(0<j->nlt (d.fs[j-1]'Vo).nm d.fs[j].nm):=λa b=>
    ⟨i+1,rfl,Vo,λj c x=>by
     by_cases e:j=i
     .subst e;exact⟨a,b⟩
     .exact hall j c Vo⟩
   rw[waddN _];refine⟨⟨Vo,by simpa using l⟩,_,_,_,Zah _ _ _ l,Cl.of (Zq5 _) ⟨_,rfl,Zaa (λm=>?_) (λm=>?_)⟩⟩
   .simp at m;refine Zaa (λ_=>no (λp=>?_)) (λn=>by simp at n);have:=p.2.2.1 _ (List.getElem_mem l);rw[this]at m;cases m
   .simp at m;refine Zaa (λn=>?_) (λn=>?_)
    .simp at n;have w:wsub .i64 (i:Int) 1=((i-1:Nat):Int):=by rw[Zap];omega
     rw[w];have hi1:i-1<d.fs.length:=Vo;refine⟨⟨Vo,Vm⟩,_,_,_,Zah _ _ _ hi1,?_⟩;rw[sge_d];refine Zaa (λg=>no (λp=>?_)) (λg=>⟨rfl,o m (λ_=>?_),s⟩)
     .simp at g;exact g (Zlr p.2.2.2 Vo l)
     .simp at g;exact g
    .simp at n;refine Zaa (λg=>by simp at g) (λg=>⟨rfl,o m (λ_=>Vo),s⟩)
  .simp at l;have u:srt FiD.nm d.fs:=adj_srt λj c=>(hall j c Vo).2;have v:∀f∈d.fs,fnB f.nm=true:=λf t=>by obtain⟨j,c,rfl⟩:=List.mem_iff_getElem.1 t;exact(hall j c Vo).1
   refine Cl.of (Zo3 d h) ⟨_,rfl,?_⟩;have:ile (usedL d.fs:Int) d.rm=decide d.P:=(by rw[ile_eq,decide_eq_decide];exact⟨λk=>⟨⟨Vo,Vo,Vo,Vo⟩,k,v,u⟩,λp=>p.2.1⟩);rw[this]
def Zx6(s:BA):Ct prog 209 {} [S s] (λr=>r=[B (!fnB s)]):=
 Zxr (Cl.of (Zq5 s) ⟨_,rfl,rfl⟩)
def sindex_fn(l:List BA)(f:FuncId)(c:List SV)(p:BA->Bool)(d:l.length<=1000000)(g:∀s∈l,Ct prog f sP (S s::c) (λx=>x=[B (p s)])):
  Ct prog 280 {} [SL 1 (nR l),.clo f c] (λr=>∃x:Int,r=[I x]/\((x= -1/\∀s∈l,p s=false)\/(0<=x/\∃s∈l,p s=true))):=by
 refine sindex_nf ⟨λ_ y=>∃i:Nat,y=i/\i<=l.length/\∀j:Nat,∀a:j<l.length,j<i->p l[j]=false,λ_ y=>l.length-y.toNat,⟨0,rfl,Vo,λj _ a=>Vo⟩,?_⟩;rintro _ _ ⟨i,rfl,hi,hall⟩;refine Zaa (λh=>?_) (λh=>?_)
 .simp at h;rw[waddN _];refine⟨⟨Vo,by simpa using h⟩,_,Zah _ _ _ h,Cl.of (g _ (List.getElem_mem h)) ⟨_,rfl,Zaa (λb=>⟨_,rfl,.inr ⟨Vo,_,List.getElem_mem h,b⟩⟩) (λb=>⟨rfl,⟨i+1,rfl,Vo,λj a m=>?_⟩,stepL Vm⟩)⟩⟩;by_cases e:j=i
  .subst e;exact b
  .exact hall j a Vo
 .simp at h;refine⟨-1,rfl,.inl ⟨rfl,λs k=>?_⟩⟩;obtain⟨j,a,rfl⟩:=List.mem_iff_getElem.1 k;exact hall j a Vo
def scont_fn(l:List BA)(f:FuncId)(a:List SV)(p:BA->Bool)(b:l.length<=1000000)(d:∀s∈l,Ct prog f sP (S s::a) (λx=>x=[B (p s)])):
  Ct prog 208 {} [SL 1 (nR l),.clo f a] (λr=>r=[B (l.any p)]):=by
 refine scont_nf (Cl.ofQ (sindex_fn l f a p b d) ?_);rintro _ ⟨x,rfl,hx⟩;refine⟨x,rfl,?_⟩
 rcases hx with⟨rfl,h⟩|⟨h0,s,c,h⟩
 .have:l.any p=false:=(by rw[YR];intro s c;simp[h s c]);rw[this];simp
 .have:l.any p=true:=List.any_eq_true.2 ⟨s,c,h⟩;rw[this];simp;omega
def dready_fn(d:DiD)(h:d.ok)(l:List BA)(e:l.length<=1000):Ct prog 131 {} [d.sv,SL 1 (nR l)] (λr=>r=[I (if d.P then(if d.dn=true then 16 else if l.any (λs=>!fnB s)=true then 1 else 0)else 1)]):=by
 refine dready_nf (Cl.of (Zep d h) ⟨_,rfl,Zaa (λa=>?_) (λa=>Zaa (λb=>?_) (λb=>Cl.of (scont_fn l 209 [] (λs=>!fnB s) Vo (λs _=>Zx6 s)) ⟨_,rfl,Zaa (λc=>?_) (λc=>?_)⟩))⟩)
 .simp at a;rw[if_neg a]
 .simp at a;rw[if_pos a,if_pos b]
 .simp at a;rw[if_pos a,if_neg (by simp[b]),if_pos c]
 .simp at a;rw[if_pos a,if_neg (by simp[b]),if_neg (by simp[c])]
def Zmy(d:DiD)(h:d.ok)(s:BA):Ct prog 131 {} [d.sv,SL 1 [[S s]]] (λr=>r=[I (d.er s s)]):=by
 have:=dready_fn d h [s] Vs
 have e:(if d.P then(if d.dn=true then(16:Int)else if[s].any (λs=>!fnB s)=true then 1 else 0)else 1)=d.er s s:=by
  unfold DiD.er
  cases h1:fnB s<;>simp[h1]
 rw[e]at this;exact this
def Zx7(f:FiD)(s:BA):Ct prog 211 {} [.agg f.row,.ref 0 [S s]] (λr=>r=[B (decide (f.nm=s))]):=
 Zxs (by rw[seq_d])
def isFil_row(f:FiD):isFil f.row:=⟨_,_,_,rfl⟩
def rnm(r:List SV):BA:=match r with| .val (.string s)::_=>s|_=>ByteArray.empty
def rnm_row(f:FiD):rnm f.row=f.nm:=rfl
def Zek(d:DiD)(b:d.fs.length<=1000000)(s:BA):Ct prog 132 {} [d.sv,S s] (λr=>r=[I (fAt FiD.nm d.fs s)]):=by
 refine dplace_nf (Cl.ofQ (findex_fn (fR d.fs) 211 [.ref 0 [S s]] (λr=>decide (rnm r=s)) (by simpa using b) (λr c=>?_)) ?_)
 .obtain⟨f,_,rfl⟩:=Ya.1 c;exact⟨isFil_row f,Zx7 f s⟩
 .rintro _ ⟨x,rfl,hx⟩;refine⟨x,rfl,?_⟩
  have:x=fAt FiD.nm d.fs s:=by
   rcases hx with⟨rfl,h⟩|⟨h0,h1,h2,h3⟩
   .refine(Zgc.2 λf g=>?_).symm;have:=h f.row (Yb g);exact of_decide_eq_false (this:decide (f.nm=s)=false)
   .obtain⟨i,rfl⟩:∃i:Nat,x=i:=⟨x.toNat,Vo⟩
    have a:i<d.fs.length:=(by simpa using h1);rw[Zah _ _ _ a,rnm_row]at h3
    have e:fnd FiD.nm d.fs s=some i:=Zo4.2 ⟨a,by simpa using h3,λj l=>by
     have k:j<d.fs.length:=Vo
     have:=h2 d.fs[j].row (by
      rw[<-List.map_take]
      exact Yb (List.mem_take_iff_getElem.2 ⟨j,Vm,rfl⟩))
     exact of_decide_eq_false (this:decide (d.fs[j].nm=s)=false)⟩
    simp[fAt,e]
  rw[this]
def dsplit_fn(s:BA)(l:List UInt8)(n:Nat)(h:n<=l.length):Ct prog 252 {} [S s,SL 1 (uR l),I n] (λr=>r=[.agg (FiD.row ⟨s,l.take n,l.drop n⟩)]):=by
 refine dsplit_nf ⟨⟨Vo,Vo,rfl,by simpa using h⟩,⟨Vo,by simpa using h,rfl,Yd _⟩,?_⟩;rw[Zjx,Zjx];simp[FiD.row]
def Zla(s:BA)(a b:List UInt8):Ct prog 252 {} [S s,SL 1 (uR (a++b)),I (a.length:Nat)] (λr=>r=[.agg (FiD.row ⟨s,a,b⟩)]):=by
 have:=dsplit_fn s (a++b) a.length Vs;rw[YV,Wc]at this;exact this
def Zx8(s:BA)(a:List UInt8):Ct prog 252 {} [S s,SL 1 (uR a),I (a.length:Nat)] (λr=>r=[.agg (FiD.row ⟨s,a,[]⟩)]):=by
 have:=Zla s a [];rw[List.append_nil]at this;exact this
def Zlb(l:List FiD)(h:l.length<=2147483648):Ct prog 318 ⟨[],[.own]⟩ [SL 3 (fR l)] (λr=>r=[SL 3 (fR l)]):=by
 refine fclone_nf (λb c=>Zaa (λe=>?_) (λe=>⟨Vm,by simp[rapp]⟩));have:=c e;have:l=[]:=(by have a:(fR l).length=0:=(by simp only[rlen_eq]at this;omega);rw[List.length_map]at a;exact Y6 a);rw[this];rfl
def Zdl(d:DiD)(i:d.fs.length<=1000000)(j: -1<=d.st)(hst:d.st<=9223372036854775807)(f:FuncId)(c:List SV)(a:List FiD)(g:d.st≠0->Ct prog f OO (SL 3 (fR d.fs)::c) (λr=>r=[SL 3 (fR a)])):
  Ct prog 248 {} [d.sv,.clo f c] (λr=>r=[(d.perf a).1.sv,I (d.perf a).2]):=by
 refine Zrx (Zaa (λh=>?_) (λh=>?_))
 .simp at h;unfold DiD.perf;rw[if_pos h]
 .simp at h;have e:d.perf a=({d.tick with fs:=a},0):=by unfold DiD.perf;rw[if_neg h]
  rw[e];refine Zaa (λb=>Cl.of (Zlb d.fs Vo) ⟨_,rfl,Cl.of (g h) ⟨_,rfl,?_⟩⟩) (λb=>Cl.of (Zlb d.fs Vo) ⟨_,rfl,Cl.of (g h) ⟨_,rfl,?_⟩⟩)
  .simp at b;have:wsub .i64 d.st 1=d.st-1:=Zap;rw[this];simp[DiD.tick,b,DiD.sv]
  .simp at b;have:¬0<d.st:=Vo;simp[DiD.tick,this,DiD.sv]

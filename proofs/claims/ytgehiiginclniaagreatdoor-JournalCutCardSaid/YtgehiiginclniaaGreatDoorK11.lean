import Derived.Test.YtgehiiginclniaaGreatDoorK10
import Derived.Test.YtgehiiginclniaaGreatDoorProg
import Derived.Laws.Externs
set_option linter.all false
set_option maxRecDepth 100000
namespace Go.Proofs.YtgehiiginclniaaGreatDoor
namespace Row
open Go Go.Px Go.Proofs Cmp Sx Cod Tryz
def Gd(l pre:List Int)(a er:Int)(b:Bool):Prop:=b=false∧er=0∧a=pre.length∧pre<+:l
structure NR(l:List Int)(a er:Int)(b:Bool)(n a' er':Int)(b':Bool):Prop where
 rg:rng n
 snd:b'=false→b=false∧∀pre,Gd l pre a er b→Gd l (pre++leb n.toNat) a' er' b'
 cmp:∀pre (m:Int),rng m→Gd l pre a er b→pre++leb m.toNat<+:l→b'=false∧n=m
def Zdo(l:List Int)(a er:Int)(b:Bool)(v:l.length≤100000)(w:Byts l):Ct prog 321 sL [rd4 (bR l) a er b] (λr=>∃n p i q,r=[I n,rd4 (bR l) p i q]∧NR l a er b n p i q):=by
 refine rnum_nf (Cl.ofQ (Zgn l a er v w) ?_);rintro r ⟨a1,er1,n,rfl,ho,hs⟩;have E:=ho.n0;have j:∀pre (m:Int),rng m→Gd l pre a er b→pre++leb m.toNat<+:l→er1=0∧n=m∧b=false:=(by rintro pre m c ⟨k,u,o,g⟩ f;obtain⟨t,x⟩:=Zwj o f;unfold rng at c;obtain⟨F,y,G⟩:=ho.good u (by omega) m.toNat t x (by omega);exact⟨y,by omega,k⟩);refine⟨_,_,_,_,rfl,Zaa (λh=>?_) (λh=>?_)⟩
 ·simp at h;refine⟨0,a1,er1,true,rfl,⟨by unfold rng;omega,(λe=>nomatch e),λpre m c d f=>?_⟩⟩;obtain⟨z,s,_⟩:=j pre m c d f;unfold rng at c;omega
 ·simp at h;rw[Zjt (by omega) (by omega)];refine⟨n,a1,er1,b,rfl,⟨⟨E,by omega⟩,λe=>⟨e,λpre d=>?_⟩,λpre m c d f=>?_⟩⟩
  ·obtain⟨k,u,o,g⟩:=d;obtain⟨H,J,A,C,s4⟩:=hs h.1;exact⟨k,h.1,by simp;omega,Zwk o g C⟩
  ·obtain⟨z,s,D⟩:=j pre m c d f;exact⟨D,s⟩
structure PS(l:List Int)(a0 er0:Int)(b0:Bool)(s:BA)(ns:List Int)(a er:Int)(b:Bool):Prop where
 rg:∀n∈ns,rng n
 snd:b=false→b0=false∧s.size≤24∧∀pre,Gd l pre a0 er0 b0→Gd l (pre++(leb s.size++(txB s++encN ns))) a er b
 cmp:∀pre c0,shp c0→Gd l pre a0 er0 b0→pre++encC c0<+:l→b=false∧c0.nm=s∧ns<+:numC c0
def PS.num{l:List Int}{v j:Int}{w:Bool}{s:BA}{f:List Int}{a er:Int}{b:Bool}{n a' er':Int}{y:Bool}(p:PS l v j w s f a er b)(q:NR l a er b n a' er' y)
  (h:∀c,shp c→f<+:numC c→f.length<(numC c).length):PS l v j w s (f++[n]) a' er' y:=by
 refine⟨λx g=>?_,λe=>?_,λpre c o i r=>?_⟩
 ·rcases List.mem_append.1 g with g|g
  ·exact p.rg x g
  ·simp at g;rw[g];exact q.rg
 ·obtain⟨e1,z⟩:=q.snd e;obtain⟨e2,d,A⟩:=p.snd e1;refine⟨e2,d,λpre i=>?_⟩;have:=z _ (A pre i);rw[Zgw,Zwh]
  simpa using this
 ·obtain⟨e1,e2,⟨t,d⟩⟩:=p.cmp pre c o i r;have k:=h c o ⟨t,d⟩
  cases t with
  |nil=>rw[←d]at k;simp at k
  |cons m t=>
   have E:rng m:=o.n m (by rw[←d];simp)
   have u:pre++(leb s.size++(txB s++encN f))++leb m.toNat<+:l:=by
    have:encC c=(leb s.size++(txB s++encN f)++leb m.toNat)++encN t:=(by rw[encC,←d,e2,Zgw,show m::t=[m]++t from rfl,Zgw,Zwh];simp);rw[this]at r;have:=Zwl r
    simpa using this
   obtain⟨C,D⟩:=q.cmp _ m E ((p.snd e1).2.2 pre i) u;exact⟨C,e2,⟨t,by rw[←d,D];simp⟩⟩
def PS.bad{l:List Int}{f d:Int}{g:Bool}{s s':BA}{i ns':List Int}{a er:Int}{b:Bool}{a' er':Int}(p:PS l f d g s i a er b)
  (h:∀c,shp c→i<+:numC c→False) (k:∀n∈ns',rng n):PS l f d g s' ns' a' er' true:=
 ⟨k,(λe=>nomatch e),λpre c j m o=>(h c j (p.cmp pre c j m o).2.2).elim⟩
def rtxt_fn(l:List Int)(a er:Int)(b:Bool)(v:l.length≤100000)(w:Byts l):Ct prog 355 sL [rd4 (bR l) a er b] (λr=>∃s p j q,r=[S s,rd4 (bR l) p j q]∧PS l a er b s [] p j q):=by
 refine rtxt_nf (Cl.ofQ (textS_fn l a er v w) ?_);rintro r ⟨a1,er1,s,rfl,ho,hs⟩;have k:∀pre c,shp c→Gd l pre a er b→pre++encC c<+:l→er1=0∧s=c.nm∧b=false:=(by rintro pre c d ⟨n,u,o,i⟩ g;obtain⟨t,y⟩:=Zwj o g;obtain⟨G,z,A⟩:=ho.good u (by omega) c.nm (encN (numC c)++t) (by rw[y,encC];simp) d.nm;exact⟨z,A,n⟩);refine⟨_,_,_,_,rfl,Zaa (λh=>?_) (λh=>?_)⟩
 ·simp at h;refine⟨_,_,_,_,rfl,⟨by simp,(λe=>nomatch e),λpre c d f g=>?_⟩⟩;exact absurd (k pre c d f g).1 h
 ·simp at h;obtain⟨H,J,C,m,D,s4⟩:=hs h;refine⟨_,_,_,_,rfl,⟨by simp,λe=>⟨e,C,λpre f=>?_⟩,λpre c d f g=>?_⟩⟩
  ·obtain⟨n,u,o,i⟩:=f;refine⟨n,h,by simp[Zwi,Zcl];omega,?_⟩;have:=Zwk (x:=leb s.size++txB s) (t:=m) o i (by rw[D,List.append_assoc])
   simpa[Zwi]using this
  ·obtain⟨K,E,F⟩:=k pre c d f g;exact⟨F,E.symm,YN⟩
def WR(l:List Int)(a er:Int)(b:Bool)(i j:Int)(d:List (Int×Int))(k e:Int)(m:Bool):Prop:=
 d.length≤16∧∀f c g s h,PS l f c g s [1,h] a er b→PS l f c g s (bas 1 h i j d) k e m
def bas1(b c d:Int)(a:List (Int×Int)):bas 1 b c d a=[1,b,c,d,(a.length:Int)]++flat a:=by simp[bas]
def Zrx{a:CoD}(b:shp a){c d e k:Int}{x:List Int}(h:([1,c,d,e,k]++x)<+:numC a):(numC a).length=18+2*k.toNat∧0≤k∧k≤16:=by
 obtain⟨f,g,i,j,l⟩:=pre_win h;have:=b.cl;refine⟨?_,by omega,by omega⟩;simp only[numC,List.length_append,Ztt,Zhl,Zjd,f,List.length_cons,Y5];simp;omega
def rwin_fn(l:List Int)(a er:Int)(b:Bool)(C:l.length≤100000)(D:Byts l):Ct prog 356 sL [rd4 (bR l) a er b] (λr=>∃u v m F z G,r=[.agg [I u,I v,SL 2 (cR m)],rd4 (bR l) F z G]∧WR l a er b u v m F z G):=by
 refine rwin_nf (Cl.ofQ (Zdo l a er b C D) ?_);rintro r ⟨u,a1,er1,b1,rfl,h1⟩;refine⟨_,_,_,_,_,rfl,Cl.ofQ (Zdo l a1 er1 b1 C D) ?_⟩;rintro r ⟨v,a2,er2,b2,rfl,h2⟩;refine⟨_,_,_,_,_,rfl,Cl.ofQ (Zdo l a2 er2 b2 C D) ?_⟩;rintro r ⟨k,a3,er3,b3,rfl,h3⟩
 have P:∀f d g s j,PS l f d g s [1,j] a er b→PS l f d g s [1,j,u,v,k] a3 er3 b3:=by
  intro f d g s j p;have K:=p.num h1 (λt _ _=>by have:=Zio (c:=t);simp;omega);have L:=K.num h2 (λt _ _=>by have:=Zio (c:=t);simp;omega)
  have U:=L.num h3 (λt A o=>by
   have:=Zio (c:=t);simp;omega)
  simpa using U
 have V:=h3.rg;unfold rng at V;refine⟨_,_,_,_,_,rfl,Zaa (λh=>?_) (λh=>?_)⟩
 ·simp at h;refine⟨u,v,[],a3,er3,true,rfl,by simp,λf d g s j p=>?_⟩;have o:=P f d g s j p;refine o.bad (λt A E=>?_) (λn H=>?_)
  ·have:=Zrx (x:=[]) A (by simpa using E);omega
  ·rw[bas1]at H;simp[flat]at H
   rcases H with rfl|rfl|rfl|rfl|rfl
   ·exact o.rg _ (by simp)
   ·exact o.rg _ (by simp)
   ·exact o.rg _ (by simp)
   ·exact o.rg _ (by simp)
   ·unfold rng;omega
 ·simp at h
  refine⟨λi Q F z G M N rows=>Q=bR l∧M=u∧N=v∧0≤i∧i≤k∧∃m,rows=cR m∧(m.length:Int)=i∧∀f d g s j,PS l f d g s [1,j] a er b→PS l f d g s ([1,j,u,v,k]++flat m) F z G,
   λi _ _ _ _ _ _ _=>(k-i).toNat,⟨rfl,rfl,rfl,by omega,by omega,[],rfl,rfl,λf d g s j p=>by simpa[flat]using P f d g s j p⟩,?_⟩
  rintro i _ R O T _ _ _ ⟨rfl,rfl,rfl,i0,i1,m,rfl,hcl,o⟩;refine Zaa (λJ=>?_) (λJ=>?_)
  ·simp at J;refine Cl.ofQ (Zdo l R O T C D) ?_;rintro r ⟨x,a5,er5,b5,rfl,h5⟩;refine⟨_,_,_,_,_,rfl,Cl.ofQ (Zdo l a5 er5 b5 C D) ?_⟩;rintro r ⟨y,a6,er6,b6,rfl,h6⟩;have w:wadd IntKind.i64 i 1=i+1:=Zac (by omega) (by omega);rw[w];refine⟨_,_,_,_,_,rfl,?_,rfl,⟨rfl,rfl,rfl,by omega,by omega,m++[(x,y)],by simp[rapp],by simp;omega,λf d g s j p=>?_⟩,?_⟩
   ·simp[lsum,rlen];omega
   ·have q:=o f d g s j p
    have K:=q.num h5 (λt A E=>by
     have:=Zrx A E
     simp[Zpq];omega)
    have L:=K.num h6 (λt A E=>by
     have:=Zrx (x:=flat m++[x]) A (by simpa using E)
     simp[Zpq];omega)
    have e:flat (m++[(x,y)])=flat m++[x]++[y]:=(by simp[flat]);rw[e]
    simpa using L
   ·show Nat.succ (k-(i+1)).toNat≤(k-i).toNat;omega
  ·simp at J;have:i=k:=(by omega);subst this;refine⟨_,_,m,_,_,_,rfl,by omega,λf d g s j p=>?_⟩;rw[bas1,hcl];exact o f d g s j p
structure CR(l:List Int)(a er:Int)(b:Bool)(c:CoD)(a' er':Int)(b':Bool):Prop where
 cl:c.cl.length≤16
 snd:b'=false→shp c∧b=false∧∀pre,Gd l pre a er b→Gd l (pre++encC c) a' er' b'
 cmp:∀pre c0,shp c0→Gd l pre a er b→pre++encC c0<+:l→b'=false∧c=c0
def CR.ofPS{l:List Int}{a er:Int}{b:Bool}{c:CoD}{i d:Int}{j:Bool}(p:PS l a er b c.nm (numC c) i d j)(k:zro c)(o:1≤c.ro∧c.ro≤3)(m:c.cl.length≤16):CR l a er b c i d j:=by
 refine⟨m,λe=>?_,λpre q n r s=>?_⟩
 ·obtain⟨f,g,h⟩:=p.snd e;exact⟨⟨k,o,g,m,p.rg⟩,f,h⟩
 ·obtain⟨f,g,h⟩:=p.cmp pre q n r s;exact⟨f,Zpr k n.z g.symm h⟩
def Zut{b:CoD}{a c d e:Int}{f:List (Int×Int)}{x:List Int}(h:(bas a c d e f++x)<+:numC b)
  (g:x.length<(if a=1∨a=3 then 10 else 0)+((if a=2∨a=3 then 2 else 0)+3)):(bas a c d e f++x).length<(numC b).length:=by
 rw[(pre_bas h).2,List.length_append];omega
def rcomp_fn(l:List Int)(a er:Int)(b:Bool)(Z:l.length≤100000)(hb:Byts l):Ct prog 322 sL [rd4 (bR l) a er b] (λr=>∃c a' er' L,r=[CoD.sv c,rd4 (bR l) a' er' L]∧CR l a er b c a' er' L):=by
 refine rcomp_nf (Cl.ofQ (rtxt_fn l a er b Z hb) ?_);rintro r ⟨s,a1,er1,b1,rfl,p1⟩;refine⟨_,_,_,_,_,rfl,Cl.ofQ (Zdo l a1 er1 b1 Z hb) ?_⟩;rintro r ⟨d,a2,er2,b2,rfl,n2⟩;have p2:=p1.num n2 (λp _ _=>by have:=Zio (c:=p);simp;omega);simp only[List.nil_append]at p2;refine⟨_,_,_,_,_,rfl,Zaa (λh=>?_) (λh=>?_)⟩
 ·simp at h
  have p3:PS l a er b s [] a2 er2 true:=p2.bad (s':=s) (ns':=[]) (a':=a2) (er':=er2) (λp g H=>by
   obtain⟨t,H⟩:=H;have:p.ro=d:=by simp only[numC,bas,List.cons_append,List.nil_append,List.cons.injEq]at H;exact H.1.symm
   have:=g.r
   omega) (by simp)
  refine⟨⟨s,0,0,0,0,[],0,0,0,0,0,0,0,0,0,0,0,0,0,0,0⟩,a2,er2,true,rfl,⟨by simp,(λe=>nomatch e),λpre p g hg hp=>?_⟩⟩;exact absurd (p3.cmp pre p g hg hp).1 (by decide)
 simp at h;refine Cl.ofQ (Zdo l a2 er2 b2 Z hb) ?_;rintro r ⟨f,a3,er3,b3,rfl,n3⟩;have p3:=p2.num n3 (λp _ _=>by have:=Zio (c:=p);simp;omega);simp only[List.cons_append,List.nil_append]at p3
 refine⟨_,_,_,_,_,rfl,
  λl' a' er' L s' J K i j rows u y z A C D E F G g n o p c1 c2=>l'=bR l∧s'=s∧J=d∧K=f∧(u=0∧y=0∧z=0∧A=0∧C=0∧D=0∧E=0∧F=0∧G=0∧g=0)∧(n=0∧o=0)∧
   ∃m,rows=cR m∧m.length≤16∧(d≠1→i=0∧j=0∧m=[])∧PS l a er b s (bas d f i j m) a' er' L,
  λ_ _ _ _ _ _ _ _ _ _ _ _ _ _ _ _ _ _ _ _ _ _ _ _ _=>0,Zaa (λe=>?_) (λe=>?_),?_⟩
 ·simp at e;subst e;refine Cl.ofQ (rwin_fn l a3 er3 b3 Z hb) ?_;rintro r ⟨i,j,m,a4,ae,b4,rfl,hw⟩;exact⟨_,_,_,_,_,_,_,rfl,rfl,rfl,rfl,rfl,rfl,⟨rfl,rfl,rfl,rfl,rfl,rfl,rfl,rfl,rfl,rfl⟩,⟨rfl,rfl⟩,m,rfl,hw.1,(λh=>absurd rfl h),hw.2 _ _ _ _ _ p3⟩
 ·simp at e;refine⟨rfl,rfl,rfl,rfl,rfl,⟨rfl,rfl,rfl,rfl,rfl,rfl,rfl,rfl,rfl,rfl⟩,⟨rfl,rfl⟩,[],rfl,by simp,λ_=>⟨rfl,rfl,rfl⟩,?_⟩;have:bas d f 0 0 []=[d,f]:=(by simp[bas,e]);rw[this];exact p3
 rintro _ a4 ae b4 s d f i j _ u y z A C D E F G g n o p c1 c2 ⟨rfl,rfl,rfl,rfl,hz,hz2,m,rfl,hcl,hcz,p4⟩
 refine⟨λl' a' er' L s' J K W X rows M N O P Q R T U V gs n o p c1 c2=>l'=bR l∧s'=s∧J=d∧K=f∧W=i∧X=j∧rows=cR m∧(n=0∧o=0)∧
   (d≠1→d≠3→M=0∧N=0∧O=0∧P=0∧Q=0∧R=0∧T=0∧U=0∧V=0∧gs=0)∧
   PS l a er b s (bas d f i j m++hst d [M,N,O,P,Q,R,T,U,V,gs]) a' er' L,
  λ_ _ _ _ _ _ _ _ _ _ _ _ _ _ _ _ _ _ _ _ _ _ _ _ _=>0,Zaa (λe=>?_) (λe=>?_),?_⟩
 ·simp at e
  refine⟨λx l' a' er' L s' J K W X rows M N O P Q R T U V gs n o p c1 c2=>0≤x∧x≤9∧l'=bR l∧s'=s∧J=d∧K=f∧W=i∧X=j∧rows=cR m∧(n=0∧o=0)∧
    PS l a er b s (bas d f i j m++[M,N,O,P,Q,R,T,U,V].take x.toNat) a' er' L,
   λx _ _ _ _ _ _ _ _ _ _ _ _ _ _ _ _ _ _ _ _ _ _ _ _ _=>(9-x).toNat,⟨by omega,by omega,rfl,rfl,rfl,rfl,rfl,rfl,rfl,hz2,by simpa using p4⟩,?_⟩
  rintro x _ a5 a9 b5 s d f i j _ M N O P Q R T U V gs n o p c1 c2 ⟨x0,x9,rfl,rfl,rfl,rfl,rfl,rfl,rfl,hz3,p5⟩;refine Zaa (λY=>?_) (λY=>?_)
  ·simp at Y;refine Cl.ofQ (Zdo l a5 a9 b5 Z hb) ?_;rintro r ⟨v,a6,a0,b6,rfl,n6⟩;have p6:=p5.num n6 (λp g H=>Zut H (by rw[if_pos e];simp;omega));have w:wadd IntKind.i64 x 1=x+1:=Zac (by omega) (by omega);rw[w]
   have step:∀(k:Nat) (f0 f1 f2 f3 f4 f5 f6 f7 f8:Int),x=(k:Int)→[f0,f1,f2,f3,f4,f5,f6,f7,f8].take (k+1)=[M,N,O,P,Q,R,T,U,V].take k++[v]→
     (0≤x+1∧x+1≤9∧bR l=bR l∧s=s∧d=d∧f=f∧i=i∧j=j∧cR m=cR m∧(n=0∧o=0)∧
      PS l a er b s (bas d f i j m++[f0,f1,f2,f3,f4,f5,f6,f7,f8].take (x+1).toNat) a6 a0 b6)∧Nat.le (Nat.succ (9-(x+1)).toNat) (9-x).toNat:=by
    intro k f0 f1 f2 f3 f4 f5 f6 f7 f8 hk hf;refine⟨⟨by omega,by omega,rfl,rfl,rfl,rfl,rfl,rfl,rfl,hz3,?_⟩,by show Nat.succ _≤_;omega⟩;have e1:(x+1).toNat=k+1:=(by omega);have e2:x.toNat=k:=(by omega);rw[e1,hf,←List.append_assoc,←e2];exact p6
   exact⟨_,_,_,_,_,rfl,⟨x0,Y⟩,λe=>⟨rfl,step 0 _ _ _ _ _ _ _ _ _ e rfl⟩,λe=>⟨rfl,step 1 _ _ _ _ _ _ _ _ _ e rfl⟩,λe=>⟨rfl,step 2 _ _ _ _ _ _ _ _ _ e rfl⟩,λe=>⟨rfl,step 3 _ _ _ _ _ _ _ _ _ e rfl⟩,
    λe=>⟨rfl,step 4 _ _ _ _ _ _ _ _ _ e rfl⟩,λe=>⟨rfl,step 5 _ _ _ _ _ _ _ _ _ e rfl⟩,λe=>⟨rfl,step 6 _ _ _ _ _ _ _ _ _ e rfl⟩,λe=>⟨rfl,step 7 _ _ _ _ _ _ _ _ _ e rfl⟩,λe=>⟨rfl,step 8 _ _ _ _ _ _ _ _ _ e rfl⟩,trivial⟩
  ·simp at Y;have:x=9:=(by omega);subst this;refine Cl.ofQ (Zdo l a5 a9 b5 Z hb) ?_;rintro r ⟨v,a6,a0,b6,rfl,n6⟩;have p6:=p5.num n6 (λp g H=>Zut H (by rw[if_pos e];simp;omega));refine⟨_,_,_,_,_,rfl,rfl,rfl,rfl,rfl,rfl,rfl,rfl,rfl,hz3,λq1 q2=>(e.elim q1 q2).elim,?_⟩;have:hst d [M,N,O,P,Q,R,T,U,V,v]=[M,N,O,P,Q,R,T,U,V].take (9:Int).toNat++[v]:=by unfold hst;rw[if_pos e];rfl
   rw[this,←List.append_assoc];exact p6
 ·simp at e;refine⟨rfl,rfl,rfl,rfl,rfl,rfl,rfl,rfl,hz2,λ_ _=>hz,?_⟩;have:hst d [u,y,z,A,C,D,E,F,G,g]=[]:=by unfold hst;rw[if_neg (by omega)]
  rw[this,List.append_nil];exact p4
 rintro _ a5 a9 b5 s d f i j _ u y z A C D E F G g n o p c1 c2 ⟨rfl,rfl,rfl,rfl,rfl,rfl,rfl,hz4,hz5,p5⟩
 have aa:∀{p:CoD} {x:List Int},(bas d f i j m++(hst d [u,y,z,A,C,D,E,F,G,g]++x))<+:numC p→x.length<(if d=2∨d=3 then 2 else 0)+3→
   (bas d f i j m++(hst d [u,y,z,A,C,D,E,F,G,g]++x)).length<(numC p).length:=λH Y=>
  Zut H (by
   simp only[List.length_append,Zhl,List.length_cons,Y5]
   by_cases q:d=1∨d=3<;>simp only[q,if_true,if_false]<;>omega)
 refine⟨λl' a' er' L s' J K W X rows M N O P Q R T U V gs n o p c1 c2=>l'=bR l∧s'=s∧J=d∧K=f∧W=i∧X=j∧rows=cR m∧(M=u∧N=y∧O=z∧P=A∧Q=C∧R=D∧T=E∧U=F∧V=G∧gs=g)∧
   (d≠2→d≠3→n=0∧o=0)∧PS l a er b s (bas d f i j m++(hst d [u,y,z,A,C,D,E,F,G,g]++bck d [n,o])) a' er' L,
  λ_ _ _ _ _ _ _ _ _ _ _ _ _ _ _ _ _ _ _ _ _ _ _ _ _=>0,Zaa (λe=>?_) (λe=>?_),?_⟩
 ·simp at e;refine Cl.ofQ (Zdo l a5 a9 b5 Z hb) ?_;rintro r ⟨v,a6,a0,b6,rfl,n6⟩;refine⟨_,_,_,_,_,rfl,Cl.ofQ (Zdo l a6 a0 b6 Z hb) ?_⟩;rintro r ⟨v2,a7,ab,b7,rfl,n7⟩;have p6:=p5.num n6 (λp g H=>by have:=aa (x:=[]) (by simpa using H) (by simp);simpa using this);have p7:=p6.num n7 (λp g H=>by have:=aa (x:=[v]) (by simpa using H) (by rw[if_pos e];simp);simpa using this);refine⟨_,_,_,_,_,rfl,rfl,rfl,rfl,rfl,rfl,rfl,rfl,rfl,⟨rfl,rfl,rfl,rfl,rfl,rfl,rfl,rfl,rfl,rfl⟩,λq1 q2=>(e.elim q1 q2).elim,?_⟩;have:bck d [v,v2]=[v]++[v2]:=by unfold bck;rw[if_pos e];rfl
  rw[this,←List.append_assoc,←List.append_assoc];exact p7
 ·simp at e;refine⟨rfl,rfl,rfl,rfl,rfl,rfl,rfl,rfl,⟨rfl,rfl,rfl,rfl,rfl,rfl,rfl,rfl,rfl,rfl⟩,λ_ _=>hz4,?_⟩;have:bck d [n,o]=[]:=by unfold bck;rw[if_neg (by omega)]
  rw[this,List.append_nil];exact p5
 rintro _ a6 a0 b6 s d f i j _ u y z A C D E F G g n o p c1 c2 ⟨rfl,rfl,rfl,rfl,rfl,rfl,rfl,⟨rfl,rfl,rfl,rfl,rfl,rfl,rfl,rfl,rfl,rfl⟩,hz6,p6⟩
 refine⟨λx l' a' er' L s' J K W X rows M N O P Q R T U V gs ac ad k0 k1 k2=>0≤x∧x≤3∧l'=bR l∧s'=s∧J=d∧K=f∧W=i∧X=j∧rows=cR m∧(M=u∧N=y∧O=z∧P=A∧Q=C∧R=D∧T=E∧U=F∧V=G∧gs=g)∧
   (ac=n∧ad=o)∧PS l a er b s ((bas d f i j m++(hst d [u,y,z,A,C,D,E,F,G,g]++bck d [n,o]))++[k0,k1,k2].take x.toNat) a' er' L,
  λx _ _ _ _ _ _ _ _ _ _ _ _ _ _ _ _ _ _ _ _ _ _ _ _ _=>(3-x).toNat,⟨by omega,by omega,rfl,rfl,rfl,rfl,rfl,rfl,rfl,⟨rfl,rfl,rfl,rfl,rfl,rfl,rfl,rfl,rfl,rfl⟩,⟨rfl,rfl⟩,by simpa using p6⟩,?_⟩
 rintro x _ a7 ab b7 s d f i j _ u y z A C D E F G g n o k0 k1 k2 ⟨x0,x3,rfl,rfl,rfl,rfl,rfl,rfl,rfl,⟨rfl,rfl,rfl,rfl,rfl,rfl,rfl,rfl,rfl,rfl⟩,⟨rfl,rfl⟩,p7⟩;refine Zaa (λY=>?_) (λY=>?_)
 ·simp at Y;refine Cl.ofQ (Zdo l a7 ab b7 Z hb) ?_;rintro r ⟨v,a8,er8,b8,rfl,n8⟩
  have p8:=p7.num n8 (λp af H=>by
   have:=Zut (x:=(hst d [u,y,z,A,C,D,E,F,G,g]++bck d [n,o])++[k0,k1,k2].take x.toNat) (by simpa using H) (by
    simp only[List.length_append,Zhl,Zjd,List.length_take,List.length_cons,Y5]
    by_cases q:d=1∨d=3<;>by_cases q2:d=2∨d=3<;>simp only[q,q2,if_true,if_false]<;>omega)
   simpa using this)
  have w:wadd IntKind.i64 x 1=x+1:=Zac (by omega) (by omega);rw[w]
  have step:∀(k:Nat) (f0 f1 f2:Int),x=(k:Int)→[f0,f1,f2].take (k+1)=[k0,k1,k2].take k++[v]→
    (0≤x+1∧x+1≤3∧bR l=bR l∧s=s∧d=d∧f=f∧i=i∧j=j∧cR m=cR m∧(u=u∧y=y∧z=z∧A=A∧C=C∧D=D∧E=E∧F=F∧G=G∧g=g)∧
     (n=n∧o=o)∧PS l a er b s ((bas d f i j m++(hst d [u,y,z,A,C,D,E,F,G,g]++bck d [n,o]))++[f0,f1,f2].take (x+1).toNat) a8 er8 b8)∧Nat.le (Nat.succ (3-(x+1)).toNat) (3-x).toNat:=by
   intro k f0 f1 f2 hk hf;refine⟨⟨by omega,by omega,rfl,rfl,rfl,rfl,rfl,rfl,rfl,⟨rfl,rfl,rfl,rfl,rfl,rfl,rfl,rfl,rfl,rfl⟩,⟨rfl,rfl⟩,?_⟩,by show Nat.succ _≤_;omega⟩;have e1:(x+1).toNat=k+1:=(by omega);have e2:x.toNat=k:=(by omega);rw[e1,hf,←List.append_assoc,←e2];exact p8
  exact⟨_,_,_,_,_,rfl,⟨x0,Y⟩,λe=>⟨rfl,step 0 _ _ _ e rfl⟩,λe=>⟨rfl,step 1 _ _ _ e rfl⟩,λe=>⟨rfl,step 2 _ _ _ e rfl⟩,trivial⟩
 ·simp at Y;have:x=3:=(by omega);subst this;refine⟨⟨s,d,f,i,j,m,u,y,z,A,C,D,E,F,G,g,n,o,k0,k1,k2⟩,_,_,_,rfl,CR.ofPS ?_ ⟨hcz,hz5,hz6⟩ (by omega) hcl⟩;have:numC ⟨s,d,f,i,j,m,u,y,z,A,C,D,E,F,G,g,n,o,k0,k1,k2⟩=(bas d f i j m++(hst d [u,y,z,A,C,D,E,F,G,g]++bck d [n,o]))++[k0,k1,k2].take (3:Int).toNat:=(by simp[numC]);rw[this];exact p7
abbrev st0:StD:=⟨[],0,0⟩
def DSt(l:List Int)(d:StD)(e:Int):Prop:=(d.P∧encS d=l∧e=0)∨((∀a:StD,a.P→encS a≠l)∧d=st0∧e=11)
def P_shp{d:StD}(h:d.P):∀c∈d.cs,shp c:=λc a=>(shp_of (h.2.1 c a)).1
def take_step{l:List CoD}{a:List CoD}{x:Nat}(b:x<l.length)(h:a=l.take x):a++[l[x]]=l.take (x+1):=by
 rw[h];simp
def rdec_fn(l:List Int)(p:l.length≤100000)(A:Byts l):Ct prog 259 {} [SL 1 (bR l)] (λr=>∃d e,r=[StD.sv d,I e]∧DSt l d e):=by
 refine rdec_nf (Cl.of (Znv l) ⟨_,_,_,rfl,Cl.ofQ (Zdo l 0 0 false p A) ?_⟩);rintro r ⟨k,a1,er1,b1,rfl,n1⟩
 have X:Gd l [] 0 0 false:=⟨rfl,rfl,rfl,YN⟩
 have none:(∀a:StD,a.P→encS a≠l)→∃d e,([SV.agg [SL 21 [],I (0),I (0)],I 11]:List SV)=[StD.sv d,I e]∧DSt l d e:=λh=>⟨st0,11,rfl,.inr ⟨h,rfl,rfl⟩⟩
 have D:∀a:StD,a.P→encS a=l→b1=false∧k=a.cs.length:=(by intro a b f;refine n1.cmp [] a.cs.length ⟨by omega,by have:=b.1.1;omega⟩ X ?_;rw[←f];exact⟨a.cs.flatMap encC++(leb a.q.toNat++leb a.t.toNat),by simp[encS]⟩);have k0:=n1.rg;unfold rng at k0;refine⟨_,_,_,_,_,rfl,Zaa (λh=>?_) (λh=>?_)⟩
 ·simp at h;exact none λa b f=>by have:=(D a b f).2;have:=b.1.1;omega
 simp at h
 refine⟨λx l' a' Q H rows q t=>l'=bR l∧0≤x∧x≤k∧∃g,rows=coR g∧(g.length:Int)=x∧(∀c∈g,c.cl.length≤16)∧
   (H=false→(∀c∈g,shp c)∧Gd l (leb k.toNat++g.flatMap encC) a' Q H)∧(∀a:StD,a.P→encS a=l→H=false∧g=a.cs.take x.toNat),
  λx _ _ _ _ _ _ _=>(k-x).toNat,⟨rfl,by omega,by omega,[],rfl,rfl,by simp,λe=>⟨by simp,?_⟩,λa b f=>⟨(D a b f).1,by simp⟩⟩,?_⟩
 ·have:=(n1.snd e).2 [] X
  simpa using this
 rintro x _ R F T _ q t ⟨rfl,x0,x1,g,rfl,hcs,hcl,hsn,hcm⟩;refine Zaa (λJ=>?_) (λJ=>?_)
 ·simp at J;refine Cl.ofQ (rcomp_fn l R F T p A) ?_;rintro r ⟨c,a3,er3,b3,rfl,hc⟩;have w:wadd IntKind.i64 x 1=x+1:=Zac (by omega) (by omega);rw[w];refine⟨_,_,_,_,_,_,_,_,_,_,_,_,_,_,_,_,_,_,_,_,_,_,_,_,_,rfl,?_,rfl,⟨rfl,by omega,by omega,g++[c],by simp[rapp],by simp;omega,?_,?_,?_⟩,?_⟩
  ·simp[lsum,rlen];omega
  ·intro K s
   rcases List.mem_append.1 s with i|i
   ·exact hcl K i
   ·simp at i;rw[i];exact hc.cl
  ·intro e;obtain⟨e1,e2,n⟩:=hc.snd e;obtain⟨L,o⟩:=hsn e2;refine⟨λK s=>?_,?_⟩
   ·rcases List.mem_append.1 s with i|i
    ·exact L K i
    ·simp at i;rw[i];exact e1
   ·have:=n _ o
    simpa using this
  ·intro a b f;obtain⟨e1,e2⟩:=hcm a b f;have G:=(D a b f).2;have v:x.toNat<a.cs.length:=(by omega);obtain⟨L,o⟩:=hsn e1
   have N:(leb k.toNat++g.flatMap encC)++encC a.cs[x.toNat]<+:l:=by
    have:a.cs=g++(a.cs[x.toNat]::a.cs.drop (x.toNat+1)):=by
     rw[e2]
     conv=>lhs;rw[←List.take_append_drop x.toNat a.cs]
     congr 1;exact List.drop_eq_getElem_cons v
    have Y:k.toNat=a.cs.length:=(by omega);refine⟨(a.cs.drop (x.toNat+1)).flatMap encC++(leb a.q.toNat++leb a.t.toNat),?_⟩
    have Z:a.cs.flatMap encC=g.flatMap encC++(encC a.cs[x.toNat]++(a.cs.drop (x.toNat+1)).flatMap encC):=by
     conv=>lhs;rw[this]
     rw[List.flatMap_append,List.flatMap_cons]
    rw[←f,encS,←Y,Z];simp only[List.append_assoc]
   obtain⟨M,C⟩:=hc.cmp _ _ (P_shp b _ (List.getElem_mem v)) o N;refine⟨M,?_⟩;rw[C,show(x+1).toNat=x.toNat+1 by omega];exact take_step v e2
  ·show Nat.succ (k-(x+1)).toNat≤(k-x).toNat;omega
 ·simp at J;have a0:x=k:=(by omega);subst a0;refine Cl.ofQ (Zdo l R F T p A) ?_;rintro r ⟨q',a3,er3,b3,rfl,n3⟩;refine⟨_,_,_,_,_,rfl,Cl.ofQ (Zdo l a3 er3 b3 p A) ?_⟩;rintro r ⟨t',a4,er4,b4,rfl,n4⟩
  have y:∀a:StD,a.P→encS a=l→b4=false∧g=a.cs∧q'=a.q∧t'=a.t∧Gd l l a4 er4 b4:=(by intro a b f;obtain⟨e1,e2⟩:=hcm a b f;have G:=(D a b f).2;obtain⟨L,o⟩:=hsn e1;have n:g=a.cs:=(by rw[e2,List.take_of_length_le (by omega)]);have z:l=((leb x.toNat++g.flatMap encC)++leb a.q.toNat)++leb a.t.toNat:=(by rw[←f,encS,n,G];simp);obtain⟨P0,_⟩:=b;obtain⟨M,C⟩:=n3.cmp _ a.q ⟨P0.2.1,by omega⟩ o ⟨leb a.t.toNat,z.symm⟩;have O:=(n3.snd M).2 _ o;rw[C]at O;obtain⟨U,V⟩:=n4.cmp _ a.t ⟨by omega,by omega⟩ O ⟨[],by rw[List.append_nil];exact z.symm⟩;have s4:=(n4.snd U).2 _ O;rw[V,←z]at s4;exact⟨U,n,C,V,s4⟩);refine⟨_,_,_,_,_,rfl,Zaa (λj=>?_) (λj=>?_)⟩
  ·exact none λa b f=>by rw[(y a b f).1]at j;cases j
  refine Cl.of (Zkm l a4 er4 p) ⟨_,rfl,Zaa (λm=>?_) (λm=>?_)⟩
  ·refine none λa b f=>?_;obtain⟨_,_,_,_,i,h2,h3,h4⟩:=y a b f;simp at m;omega
  refine Cl.of (Zqh ⟨g,q',t'⟩) ⟨_,rfl,Zaa (λu=>?_) (λu=>?_)⟩
  ·refine none λa b f=>?_;obtain⟨_,e1,e2,n,_⟩:=y a b f;simp at u;apply u;have:(⟨g,q',t'⟩:StD)=a:=(by rw[e1,e2,n]);rw[this];exact b
  ·simp at u;refine⟨⟨g,q',t'⟩,0,rfl,.inl ⟨u,?_,rfl⟩⟩;obtain⟨u1,u2⟩:=n4.snd j;obtain⟨v1,v2⟩:=n3.snd u1;obtain⟨w1,w2⟩:=hsn v1;obtain⟨y1,y2,y3,W⟩:=u2 _ (v2 _ w2);simp at m;have a5:rgtC l a4 er4=true:=(by have:=W.length_le;simp only[rgtC,decide_eq_true_eq];omega);have a6:=m a5;have E:=W.eq_of_length (by omega);rw[←E,encS,←hcs];simp
abbrev nI(l:List Int):LL:=l.map λn=>[I n]
def encI(d:StD):List Int×Int:=if d.P then(encS d,0)else([],1)
end Row
namespace Row
open Go Go.Px Go.Proofs Cmp Sx Tryz
end Row
namespace Row
open Go Go.Px Go.Proofs Cmp Sx Cod Tryz
def G3(l pre:List Int)(a er:Int):Prop:=er=0∧a=pre.length∧pre<+:l
def rg40(n:Int):Prop:=0≤n∧n≤1099511627776
structure TK(l:List Int)(a er n:Int)(ns:List Int)(a' er':Int):Prop where
 len:ns.length=n.toNat
 rg:∀m∈ns,-1≤m∧m≤1099511627776
 cmp:∀pre ms,G3 l pre a er→pre++encN ms<+:l→ms.length=n.toNat→(∀m∈ms,rg40 m)→G3 l (pre++encN ms) a' er'∧ns=ms
def KS(l:List Int)(e c:Int)(s:BA)(d:List Int)(a er:Int):Prop:=
 ∀pre b,b.P→G3 l pre e c→pre++encC b<+:l→G3 l (pre++(leb s.size++(txB s++encN d))) a er∧b.nm=s∧d<+:numC b
def KS.take{l:List Int}{p f:Int}{s:BA}{d:List Int}{a er:Int}{n:Int}{q:List Int}{r g:Int}(k:KS l p f s d a er)(t:TK l a er n q r g)
  (h:∀b,b.P→d<+:numC b→d.length+n.toNat≤(numC b).length):KS l p f s (d++q) r g:=by
 intro pre b j z c;obtain⟨A,v,⟨u,e⟩⟩:=k pre b j z c;have x:=h b j ⟨u,e⟩;have E:n.toNat≤u.length:=by rw[←e,List.length_append]at x;omega
 have o:=(shp_of j).2;have i:∀m∈u.take n.toNat,rg40 m:=λm i=>o m (by rw[←e];exact List.mem_append.2 (.inr (List.mem_of_mem_take i)));have D:encC b=(leb s.size++(txB s++encN d))++(encN (u.take n.toNat)++encN (u.drop n.toNat)):=(by have y:encN u=encN (u.take n.toNat)++encN (u.drop n.toNat):=(by rw[←Zgw,List.take_append_drop]);rw[encC,←e,v,Zgw,y];simp only[List.append_assoc]);rw[D,←List.append_assoc]at c;obtain⟨C,w⟩:=t.cmp _ (u.take n.toNat) A (Zwl c) (by simp;omega) i;refine⟨?_,v,?_⟩
 ·rw[Zgw,w];simpa using C
 ·rw[w,←e];exact⟨u.drop n.toNat,by rw[List.append_assoc,List.take_append_drop]⟩
def DRf(l:List Int)(d:StD)(b:Bool):Prop:=(d.P∧encS d=l∧b=true)∨((∀a:StD,a.P→encS a≠l)∧d=st0∧b=false)
def pre_or:∀(a b r c:List Int),(∀n∈a,0≤n)→(∀n∈b,0≤n)→encN a++r=encN b++c→a<+:b∨b<+:a
 | [],b,r,c,_,_,_=>.inl YN
 |n::a,[],r,c,_,_,_=>.inr YN
 |n::a,m::b,r,c,h1,h2,h=>by
  simp only[encN,List.flatMap_cons,List.append_assoc]at h;obtain⟨e1,e2⟩:=Zcm _ _ _ _ h;have:=h1 n (by simp);have:=h2 m (by simp);have f:n=m:=by omega
  rcases pre_or a b r c (λx d=>h1 x (by simp[d])) (λx d=>h2 x (by simp[d])) e2 with⟨t,e⟩|⟨t,e⟩
  ·exact .inl ⟨t,by rw[f,←e];rfl⟩
  ·exact .inr ⟨t,by rw[f,←e];rfl⟩
def tx_inj{s t:BA}(h:txB s=txB t):s=t:=by
 have:=congrArg (λl=>bstr (bR l)) h
 simpa[Zov]using this
def encC_inj{c d:CoD}(b:shp c)(e:shp d){r f:List Int}(h:encC c++r=encC d++f):c=d∧r=f:=by
 simp only[encC,List.append_assoc]at h;obtain⟨e1,e2⟩:=Zcm _ _ _ _ h;obtain⟨i,g⟩:=List.append_inj e2 (by rw[Zcl,Zcl];exact e1);have a:=tx_inj i
 have:c=d:=by
  rcases pre_or _ _ _ _ (λn a=>(b.n n a).1) (λn a=>(e.n n a).1) g with h1|h1
  ·exact Zpr b.z e.z a h1
  ·exact(Zpr e.z b.z a.symm h1).symm
 subst this;exact⟨rfl,List.append_cancel_left g⟩
def Zp7:∀(l m:List CoD) (r a:List Int),(∀c∈l,shp c)→(∀c∈m,shp c)→l.length=m.length→l.flatMap encC++r=m.flatMap encC++a→l=m∧r=a
 | [],[],r,a,_,_,_,h=>⟨rfl,by simpa using h⟩
 | [],y::m,r,a,_,_,hl,_=>by simp at hl
 |x::l,[],r,a,_,_,hl,_=>by simp at hl
 |x::l,y::m,r,a,h1,h2,hl,h=>by simp only[List.flatMap_cons,List.append_assoc]at h;obtain⟨e1,e2⟩:=encC_inj (h1 x (by simp)) (h2 y (by simp)) h;obtain⟨d,e⟩:=Zp7 l m r a (λc b=>h1 c (by simp[b])) (λc b=>h2 c (by simp[b])) (by simpa using hl) e2;exact⟨by rw[e1,d],e⟩
def encS_pre{d c:StD}(h:d.P)(f:c.P){r r':List Int}(e:encS d++r=encS c++r'):d=c:=by
 simp only[encS,List.append_assoc]at e;obtain⟨e1,e2⟩:=Zcm _ _ _ _ e;obtain⟨g,i⟩:=Zp7 _ _ _ _ (P_shp h) (P_shp f) e1 e2;obtain⟨k,j⟩:=Zcm _ _ _ _ i;obtain⟨l,_⟩:=Zcm _ _ _ _ j;have a:=h.1;have b:=f.1
 cases d;cases c
 simp only[StD.mk.injEq]
 dsimp only at*
 exact⟨g,by omega,by omega⟩
def Zug{d a:StD}(h:d.P)(b:a.P)(e:encS d=encS a):d=a:=encS_pre h b (r:=[]) (r':=[]) (by rw[e])
def encS_len{d:StD}(h:d.P):(encS d).length≤8000∧0<(encS d).length:=by
 have b:=Zri (P_shp h);have a:=h.1;have c:(leb d.cs.length).length≤10:=leb_small (by omega);have e:(leb d.q.toNat).length≤10:=leb_small (by omega);have f:(leb d.t.toNat).length≤10:=leb_small (by omega);have g:=Zjc d.cs.length;simp only[encS,List.length_append];omega
def DSt.own{d u:StD}{g:Int}(h:d.P)(b:DSt (encS d) u g):u=d∧g=0:=by
 rcases b with⟨a,c,e⟩|⟨a,_⟩
 ·exact⟨Zug a h c,e⟩
 ·exact absurd rfl (a d h)
def DSt.lim{l:List Int}{u:StD}{g:Int}(b:DSt l u g):u.cs.length≤12∧∀c∈u.cs,c.cl.length≤16:=by
 rcases b with⟨a,e,f⟩|⟨a,rfl,_⟩
 ·exact⟨a.1.1,λc d=>(P_shp a c d).cl⟩
 ·exact⟨by simp,by simp⟩
def awS:StD×Int:=appS ⟨[],0,0⟩ ⟨1,300,1,⟨#[113]⟩,2,0,0⟩
end Row
namespace Dsk
open Go Go.Px Go.Proofs Tryz
abbrev dsk4(rows:LL)(b a:Int)(c:Bool):SV:=.agg [SL 3 rows,I b,I a,B c]
abbrev fil3(nm:BA)(a b:LL):SV:=.agg [S nm,SL 1 a,SL 1 b]
abbrev do5(k f t n:Int)(x:LL):SV:=.agg [U8 k,U8 f,U8 t,U8 n,SL 1 x]
def SgT:FuncId→Sig:=(λf=>bif Nat.beq f 246 then⟨[.own],[.own]⟩else bif Nat.beq f 48 then⟨[],[.own]⟩else bif Nat.beq f 47 then⟨[],[.own]⟩else bif Nat.beq f 247 then⟨[.own],[.own]⟩else bif Nat.beq f 248 then⟨[.own],[.own]⟩else bif Nat.beq f 245 then⟨[.own],[.own]⟩else bif Nat.beq f 244 then⟨[.own],[.own]⟩else bif Nat.beq f 221 then⟨[.own],[.own]⟩else bif Nat.beq f 176 then⟨[.own],[.own]⟩else bif Nat.beq f 177 then⟨[.own],[.own]⟩else bif Nat.beq f 111 then⟨[.own],[.own]⟩else bif Nat.beq f 311 then⟨[.own],[.own]⟩else bif Nat.beq f 307 then⟨[],[.own]⟩else{})
def SvT:TypeId→Sig:=(λf=>bif Nat.beq f 22 then⟨[.own],[.own]⟩else{})
def grow_nf{rows:LL}{n:Int}{Q:QQ}(h:ifB (ilt n 0) False (∀x,((rlen rows)≤x)→(x≤9223372036854775807)→ifB (igt (wsub .i64 n (wsub .i64 x (isub (rlen rows) 0))) 0) ((((0:Int)≤0)∧((0:Int)≤(isub x 0))∧(isub x 0)≤(isub x 0))∧((((0:Int)≤(wsub .i64 n (wsub .i64 x (isub (rlen rows) 0))))∧(wsub .i64 n (wsub .i64 x (isub (rlen rows) 0)))≤2147483648)∧(x<(lsum (lsum 0 (isub x 0)) (wsub .i64 n (wsub .i64 x (isub (rlen rows) 0)))))∧(lsum (isub (lsum 0 (isub x 0)) 0) (wsub .i64 n (wsub .i64 x (isub (rlen rows) 0))))≤2147483648)∧(((lsum 0 (isub x 0))≤(rlen rows))→∀a,((lsum (isub (lsum 0 (isub x 0)) 0) (wsub .i64 n (wsub .i64 x (isub (rlen rows) 0))))≤a)→(a≤9223372036854775807)→(((0:Int)≤0)∧((0:Int)≤(isub (rlen rows) 0))∧(isub (rlen rows) 0)≤(isub a 0))∧((lsum 0 (isub (rlen rows) 0))≤(rlen (rapp (rsub rows 0 (lsum 0 (isub x 0))) (rrep (wsub .i64 n (wsub .i64 x (isub (rlen rows) 0))) [U8 0]))))∧Q ([SV.slice 1 (rsub (rapp (rsub rows 0 (lsum 0 (isub x 0))) (rrep (wsub .i64 n (wsub .i64 x (isub (rlen rows) 0))) [U8 0])) 0 (lsum 0 (isub (rlen rows) 0))) 0]))∧(((rlen rows)<(lsum 0 (isub x 0)))→∀a,((lsum (isub (lsum 0 (isub x 0)) 0) (wsub .i64 n (wsub .i64 x (isub (rlen rows) 0))))≤a)→(a≤9223372036854775807)→(((0:Int)≤0)∧((0:Int)≤(isub (rlen rows) 0))∧(isub (rlen rows) 0)≤(isub a 0))∧((lsum 0 (isub (rlen rows) 0))≤(rlen (rsub rows 0 (rlen rows))))∧Q [SV.slice 1 (rsub (rsub rows 0 (rlen rows)) 0 (lsum 0 (isub (rlen rows) 0))) 0])) (((rlen rows)≤(rlen rows))∧Q [SL 1 (rsub rows 0 (rlen rows))]))):Ct prog 111 ⟨[.own],[.own]⟩ [SL 1 rows,I n] Q:=
 fO SgT SvT (λk=>bif Nat.beq k 3000000 then some ({}:LoopSpec)else none) func111 h
def Zz4{rows:LL}{Q:QQ}(h:∃e:Int→Int→Prop,∃m:Int→Int→Nat,(e 0 0)∧∀x a,(e x a)→ifB (ilt a (rlen rows)) ((((0:Int)≤a)∧a<(rlen rows))∧∃l,(rget rows a=[SL 1 l])∧ifB (ilt (wadd .i64 x (rlen l)) 0) False (((Option.some []:Option LL)=Option.some [])∧(e (wadd .i64 x (rlen l)) (wadd .i64 a 1))∧Nat.le (Nat.succ (m (wadd .i64 x (rlen l)) (wadd .i64 a 1))) (m x a))) (Cl prog 111 (Sig.mk [Md.own] [Md.own]) ([SL 1 [],I x]) (λj=>∃l,(j=[SL 1 l])∧∃c:LL→Int→Prop,∃i:LL→Int→Nat,(c l 0)∧∀d b,(c d b)→ifB (ilt b (rlen rows)) ((((0:Int)≤b)∧b<(rlen rows))∧∃g,(rget rows b=[SL 1 g])∧((lsum (rlen d) (rlen g))≤2147483648)∧((Option.some []:Option LL)=Option.some [])∧(c (rapp d g) (wadd .i64 b 1))∧Nat.le (Nat.succ (i (rapp d g) (wadd .i64 b 1))) (i d b)) (Q [SL 1 d])))):Ct prog 48 ⟨[],[.own]⟩ [SL 1 rows] Q:=
 fN SgT SvT func48 h
def dsize_nf{nm:BA}{a b:LL}{Q:QQ}(h:Q [I (wadd .i64 (rlen a) (rlen b))]):Ct prog 94 {} [fil3 nm a b] Q:=
 fN SgT SvT func94 h
def dused_nf{rows:LL}{c b:Int}{d:Bool}{Q:QQ}(h:∃e:Int→Int→Prop,∃m:Int→Int→Nat,(e 0 0)∧∀x a,(e x a)→ifB (ilt a (rlen rows)) ((((0:Int)≤a)∧a<(rlen rows))∧∃s l i,(rget rows a=[S s,SL 1 l,SL 1 i])∧Cl prog 94 sP ([SV.agg [S s,SL 1 l,SL 1 i]]) (λj=>∃g,(j=[I g])∧(Sm (some ([[SL 3 rows,I c,I b,B d]])))∧(e (wadd .i64 x g) (wadd .i64 a 1))∧Nat.le (Nat.succ (m (wadd .i64 x g) (wadd .i64 a 1))) (m x a))) (Q [I x])):Ct prog 77 {} [dsk4 rows c b d] Q:=
 fN SgT SvT func77 h
def dlist_nf{rows:LL}{b a:Int}{c:Bool}{Q:QQ}(h:(((0:Int)≤0)∧((0:Int)≤(rlen rows))∧(rlen rows)≤2147483648)∧∃d:LL→Int→Prop,∃m:LL→Int→Nat,(d (rrep 0 ([S (bA [])])) 0)∧∀l x,(d l x)→ifB (ilt x (rlen rows)) ((((0:Int)≤x)∧x<(rlen rows))∧∃s e g,(rget rows x=[S s,SL 1 e,SL 1 g])∧((lsum (rlen l) (rlen ([[S s]])))≤2147483648)∧(Sm (some ([[SL 3 rows,I b,I a,B c]])))∧(d (rapp l ([[S s]])) (wadd .i64 x 1))∧Nat.le (Nat.succ (m (rapp l ([[S s]])) (wadd .i64 x 1))) (m l x)) (Q [SL 1 l])):Ct prog 107 {} [dsk4 rows b a c] Q:=
 fN SgT SvT func107 h
def Zz5{s:BA}{Q:QQ}(h:ifB (bpick (ilt (slen s) 1) true (igt (slen s) 16)) (Q [B false]) (∃a:Bool→Int→Prop,∃m:Bool→Int→Nat,(a false 0)∧∀b x,(a b x)→ifB (ilt x (slen s)) ((((0:Int)≤x)∧x<(slen s))∧ifB (ige (sbyte s x) 97) ((((0:Int)≤x)∧x<(slen s))∧(((0:Int)≤x)∧x<(slen s))∧ifB (ige (sbyte s x) 48) ((((0:Int)≤x)∧x<(slen s))∧ifB (bpick (bnot (bpick true (ile (sbyte s x) 122) false)) (bnot (bpick true (ile (sbyte s x) 57) false)) false) ((((0:Int)≤x)∧x<(slen s))∧ifB (bpick true (ine (sbyte s x) 46) false) (Q [B false]) (((Option.some []:Option LL)=Option.some [])∧(a b (wadd .i64 x 1))∧Nat.le (Nat.succ (m b (wadd .i64 x 1))) (m b x))) (ifB (bpick false true false) (Q [B false]) (((Option.some []:Option LL)=Option.some [])∧(a b (wadd .i64 x 1))∧Nat.le (Nat.succ (m b (wadd .i64 x 1))) (m b x)))) (ifB (bpick (bnot (bpick true (ile (sbyte s x) 122) false)) (bnot (bpick false true false)) false) ((((0:Int)≤x)∧x<(slen s))∧ifB (bpick true (ine (sbyte s x) 46) false) (Q [B false]) (((Option.some []:Option LL)=Option.some [])∧(a b (wadd .i64 x 1))∧Nat.le (Nat.succ (m b (wadd .i64 x 1))) (m b x))) (ifB (bpick false true false) (Q [B false]) (((Option.some []:Option LL)=Option.some [])∧(a b (wadd .i64 x 1))∧Nat.le (Nat.succ (m b (wadd .i64 x 1))) (m b x))))) ((((0:Int)≤x)∧x<(slen s))∧ifB (ige (sbyte s x) 48) ((((0:Int)≤x)∧x<(slen s))∧ifB (bpick (bnot (bpick false true false)) (bnot (bpick true (ile (sbyte s x) 57) false)) false) ((((0:Int)≤x)∧x<(slen s))∧ifB (bpick true (ine (sbyte s x) 46) false) (Q [B false]) (((Option.some []:Option LL)=Option.some [])∧(a b (wadd .i64 x 1))∧Nat.le (Nat.succ (m b (wadd .i64 x 1))) (m b x))) (ifB (bpick false true false) (Q [B false]) (((Option.some []:Option LL)=Option.some [])∧(a b (wadd .i64 x 1))∧Nat.le (Nat.succ (m b (wadd .i64 x 1))) (m b x)))) (ifB (bpick (bnot (bpick false true false)) (bnot (bpick false true false)) false) ((((0:Int)≤x)∧x<(slen s))∧ifB (bpick true (ine (sbyte s x) 46) false) (Q [B false]) (((Option.some []:Option LL)=Option.some [])∧(a b (wadd .i64 x 1))∧Nat.le (Nat.succ (m b (wadd .i64 x 1))) (m b x))) (ifB (bpick false true false) (Q [B false]) (((Option.some []:Option LL)=Option.some [])∧(a b (wadd .i64 x 1))∧Nat.le (Nat.succ (m b (wadd .i64 x 1))) (m b x)))))) (Q [B true]))):Ct prog 110 {} [S s] Q:=
 fN SgT SvT func110 h
def Zz6{rows:LL}{a c:Int}{d:Bool}{Q:QQ}(h:ifB (bpick (bpick (bpick (igt (rlen rows) 64) true (ilt a 0)) true (igt a 65536)) true (ilt c ((-1:Int)))) (Q [B false]) (∃e:Bool→Int→Prop,∃m:Bool→Int→Nat,(e false 0)∧∀b x,(e b x)→ifB (ilt x (rlen rows)) ((((0:Int)≤x)∧x<(rlen rows))∧∃s l n,(rget rows x=[S s,SL 1 l,SL 1 n])∧Cl prog 110 sP [S s] (λg=>∃i,(g=[B i])∧ifB (bnot i) (ifB (bpick true true (bpick (igt x 0) true false)) (Q [B false]) ((Sm (some ([[SL 3 rows,I a,I c,B d]])))∧(e b (wadd .i64 x 1))∧Nat.le (Nat.succ (m b (wadd .i64 x 1))) (m b x))) (ifB (igt x 0) ((((0:Int)≤(wsub .i64 x 1))∧(wsub .i64 x 1)<(rlen rows))∧∃j o p,(rget rows (wsub .i64 x 1)=[S j,SL 1 o,SL 1 p])∧ifB (bpick false true (bpick true (sge j s) false)) (Q [B false]) ((Sm (some ([[SL 3 rows,I a,I c,B d]])))∧(e b (wadd .i64 x 1))∧Nat.le (Nat.succ (m b (wadd .i64 x 1))) (m b x))) (ifB (bpick false true (bpick false true false)) (Q [B false]) ((Sm (some ([[SL 3 rows,I a,I c,B d]])))∧(e b (wadd .i64 x 1))∧Nat.le (Nat.succ (m b (wadd .i64 x 1))) (m b x)))))) (Cl prog 77 sP ([SV.agg [SL 3 rows,I a,I c,B d]]) (λg=>∃k,(g=[I k])∧Q [B (ile k a)])))):Ct prog 46 {} [dsk4 rows a c d] Q:=
 fN SgT SvT func46 h
def Zz7{rows:LL}{e c:Int}{a:Bool}{d:LL}{Q:QQ}(h:Cl prog 46 sP ([SV.agg [SL 3 rows,I e,I c,B a]]) (λj=>∃b,(j=[B b])∧ifB (bnot b) (Q [I 1]) (ifB a (Q [I 16]) (Cl prog 157 sP ([SL 1 d,SV.clo 158 []]) (λg=>∃i,(g=[B i])∧ifB i (Q [I 1]) (Q [I 0])))))):Ct prog 92 {} [dsk4 rows e c a,SL 1 d] Q:=
 fN SgT SvT func92 h
def Zxc{s:BA}{Q:QQ}(h:Cl prog 110 sP [S s] (λa=>∃b,(a=[B b])∧Q [B (bnot b)])):Ct prog 158 {} [S s] Q:=
 fN SgT SvT func158 h
def Zz8{rows:LL}{b a:Int}{c:Bool}{s:BA}{Q:QQ}(h:Cl prog 159 sP ([SL 3 rows,SV.clo 160 ([SV.ref 0 [S s]])]) (λd=>∃x,(d=[I x])∧Q [I x])):Ct prog 93 {} [dsk4 rows b a c,S s] Q:=
 fN SgT SvT func93 h
def Zxd{nm:BA}{a b:LL}{s:BA}{Q:QQ}(h:Q [B (seq nm s)]):Ct prog 160 {} [fil3 nm a b,.ref 0 [S s]] Q:=
 fN SgT SvT func160 h
def Zz9{s:BA}{b:LL}{n:Int}{Q:QQ}(h:(((0:Int)≤0)∧((0:Int)≤n)∧(n=n)∧n≤(rlen b))∧(((0:Int)≤n)∧(n≤(rlen b))∧(rlen b=rlen b)∧(rlen b)≤(rlen b))∧Q ([SV.agg [S s,SL 1 (rsub b 0 n),SL 1 (rsub b n (rlen b))]])):Ct prog 49 {} [S s,SL 1 b,I n] Q:=
 fN SgT SvT func49 h
def Zr5{rows:LL}{b a:Int}{c:Bool}{f:FuncId}{g:List SV}{Q:QQ}(h:ifB (ieq a 0) (Q ([SV.agg [SL 3 rows,I b,I a,B true],I 16])) (ifB (igt a 0) (Cl prog 47 sO [SL 3 rows] (λi=>∃l,(i=[SL 3 l])∧Cl prog f (Sig.mk [Md.own] [Md.own]) ((SL 3 l)::g) (λd=>∃e,(d=[SL 3 e])∧Q ([SV.agg [SL 3 e,I b,I (wsub .i64 a 1),B c],I 0])))) (Cl prog 47 sO [SL 3 rows] (λi=>∃l,(i=[SL 3 l])∧Cl prog f (Sig.mk [Md.own] [Md.own]) ((SL 3 l)::g) (λd=>∃e,(d=[SL 3 e])∧Q ([SV.agg [SL 3 e,I b,I a,B c],I 0])))))):Ct prog 95 {} [dsk4 rows b a c,.clo f g] Q:=
 fN SgT SvT func95 h
def dread_nf{rows:LL}{c a:Int}{d:Bool}{s:BA}{Q:QQ}(h:Cl prog 92 sP ([SV.agg [SL 3 rows,I c,I a,B d],SL 1 ([[S s]])]) (λk=>∃x,(k=[I x])∧ifB (ine x 0) (Q ([SL 1 [],I x])) (Cl prog 93 sP ([SV.agg [SL 3 rows,I c,I a,B d],S s]) (λe=>∃b,(e=[I b])∧ifB (ieq b ((-1:Int))) (Q ([SL 1 [],I 14])) ((((0:Int)≤b)∧b<(rlen rows))∧∃m l n,(rget rows b=[S m,SL 1 l,SL 1 n])∧(((0:Int)≤b)∧b<(rlen rows))∧∃o p i,(rget rows b=[S o,SL 1 p,SL 1 i])∧Cl prog 48 sO ([SL 1 ([[SV.slice 1 l 0],[SV.slice 1 i 0]])]) (λg=>∃j,(g=[SL 1 j])∧Q [SL 1 j,I 0])))))):Ct prog 32 {} [dsk4 rows c a d,S s] Q:=
 fN SgT SvT func32 h
def Zxe{rows:LL}{c a:Int}{d:Bool}{s:BA}{Q:QQ}(h:Cl prog 92 sP ([SV.agg [SL 3 rows,I c,I a,B d],SL 1 ([[S s]])]) (λn=>∃x,(n=[I x])∧ifB (ine x 0) (Q ([SV.agg [SL 3 rows,I c,I a,B d],I x])) (Cl prog 93 sP ([SV.agg [SL 3 rows,I c,I a,B d],S s]) (λe=>∃i,(e=[I i])∧ifB (ine i ((-1:Int))) (Q ([SV.agg [SL 3 rows,I c,I a,B d],I 7])) (ifB (ieq (rlen rows) 64) (Q ([SV.agg [SL 3 rows,I c,I a,B d],I 13])) (Cl prog 95 sP ([SV.agg [SL 3 rows,I c,I a,B d],SV.clo 244 ([SV.ref 0 [S s]])]) (λg=>∃l j,∃k b m,(g=[SV.agg [SL 3 l,I j,I k,B b],I m])∧Q ([SV.agg [SL 3 l,I j,I k,B b],I m])))))))):Ct prog 168 {} [dsk4 rows c a d,S s] Q:=
 fN SgT SvT func168 h
def Zxf{rows:LL}{c a:Int}{d:Bool}{s:BA}{x:LL}{Q:QQ}(h:Cl prog 92 sP ([SV.agg [SL 3 rows,I c,I a,B d],SL 1 ([[S s]])]) (λv=>∃i,(v=[I i])∧ifB (ine i 0) (Q ([SV.agg [SL 3 rows,I c,I a,B d],I i])) (Cl prog 93 sP ([SV.agg [SL 3 rows,I c,I a,B d],S s]) (λm=>∃e,(m=[I e])∧ifB (ieq e ((-1:Int))) (Q ([SV.agg [SL 3 rows,I c,I a,B d],I 14])) (Cl prog 77 sP ([SV.agg [SL 3 rows,I c,I a,B d]]) (λn=>∃r,(n=[I r])∧ifB (igt (rlen x) (wsub .i64 c r)) (Q ([SV.agg [SL 3 rows,I c,I a,B d],I 13])) (Cl prog 95 sP ([SV.agg [SL 3 rows,I c,I a,B d],SV.clo 246 ([SV.ref 0 [I e],SV.ref 0 [S s],SV.ref 0 [SL 1 x]])]) (λo=>∃l j,∃k b g,(o=[SV.agg [SL 3 l,I j,I k,B b],I g])∧ifB (ieq g 16) (Cl prog 47 sO [SL 3 rows] (λp=>∃t,(p=[SL 3 t])∧Cl prog 246 (Sig.mk [Md.own] [Md.own]) ([SL 3 t,SV.ref 0 [I e],SV.ref 0 [S s],SV.ref 0 [SL 1 x]]) (λq=>∃u,(q=[SL 3 u])∧Q ([SV.agg [SL 3 u,I j,I k,B b],I g])))) (Q ([SV.agg [SL 3 l,I j,I k,B b],I g])))))))))):Ct prog 169 {} [dsk4 rows c a d,S s,SL 1 x] Q:=
 fN SgT SvT func169 h
def dsync_nf{rows:LL}{c a:Int}{d:Bool}{s:BA}{Q:QQ}(h:Cl prog 92 sP ([SV.agg [SL 3 rows,I c,I a,B d],SL 1 ([[S s]])]) (λn=>∃x,(n=[I x])∧ifB (ine x 0) (Q ([SV.agg [SL 3 rows,I c,I a,B d],I x])) (Cl prog 93 sP ([SV.agg [SL 3 rows,I c,I a,B d],S s]) (λg=>∃e,(g=[I e])∧ifB (ieq e ((-1:Int))) (Q ([SV.agg [SL 3 rows,I c,I a,B d],I 14])) (Cl prog 95 sP ([SV.agg [SL 3 rows,I c,I a,B d],SV.clo 221 ([SV.ref 0 [I e],SV.ref 0 [S s]])]) (λi=>∃l j,∃k b m,(i=[SV.agg [SL 3 l,I j,I k,B b],I m])∧Q ([SV.agg [SL 3 l,I j,I k,B b],I m]))))))):Ct prog 151 {} [dsk4 rows c a d,S s] Q:=
 fN SgT SvT func151 h
def Zxg{rows:LL}{c a:Int}{d:Bool}{s:BA}{Q:QQ}(h:Cl prog 92 sP ([SV.agg [SL 3 rows,I c,I a,B d],SL 1 ([[S s]])]) (λn=>∃x,(n=[I x])∧ifB (ine x 0) (Q ([SV.agg [SL 3 rows,I c,I a,B d],I x])) (Cl prog 93 sP ([SV.agg [SL 3 rows,I c,I a,B d],S s]) (λg=>∃e,(g=[I e])∧ifB (ieq e ((-1:Int))) (Q ([SV.agg [SL 3 rows,I c,I a,B d],I 14])) (Cl prog 95 sP ([SV.agg [SL 3 rows,I c,I a,B d],SV.clo 176 ([SV.ref 0 [I e]])]) (λi=>∃l j,∃k b m,(i=[SV.agg [SL 3 l,I j,I k,B b],I m])∧Q ([SV.agg [SL 3 l,I j,I k,B b],I m]))))))):Ct prog 106 {} [dsk4 rows c a d,S s] Q:=
 fN SgT SvT func106 h
def dapp1_nf{rows:LL}{a:Int}{s:BA}{x:LL}{Q:QQ}(h:(((0:Int)≤a)∧a<(rlen rows))∧(((0:Int)≤a)∧a<(rlen rows))∧∃k l c,(rget rows a=[S k,SL 1 l,SL 1 c])∧Cl prog 48 sO ([SL 1 ([[SV.slice 1 l 0],[SV.slice 1 c 0],[SV.slice 1 x 0]])]) (λj=>∃d,(j=[SL 1 d])∧Cl prog 49 sP [S s,SL 1 d,I (rlen l)] (λb=>∃e g i,(b=[SV.agg [S e,SL 1 g,SL 1 i]])∧(((0:Int)≤a)∧a<(rlen rows))∧(((0:Int)≤a)∧a<(rlen rows))∧Q ([SL 3 (rset rows a [S e,SV.slice 1 g 0,SV.slice 1 i 0])])))):Ct prog 246 ⟨[.own],[.own]⟩ [SL 3 rows,.ref 0 [I a],.ref 0 [S s],.ref 0 [SL 1 x]] Q:=
 fN SgT SvT func246 h
def dcre1_nf{rows:LL}{s:BA}{Q:QQ}(h:Cl prog 245 (Sig.mk [Md.own] [Md.own]) ([SL 3 rows,SV.agg ([S s,SL 1 [],SL 1 []])]) (λa=>∃l,(a=[SL 3 l])∧Q [SL 3 l])):Ct prog 244 ⟨[.own],[.own]⟩ [SL 3 rows,.ref 0 [S s]] Q:=
 fN SgT SvT func244 h
def dsyn1_nf{rows:LL}{a:Int}{s:BA}{Q:QQ}(h:(((0:Int)≤a)∧a<(rlen rows))∧(((0:Int)≤a)∧a<(rlen rows))∧∃e l b,(rget rows a=[S e,SL 1 l,SL 1 b])∧Cl prog 48 sO ([SL 1 ([[SV.slice 1 l 0],[SV.slice 1 b 0]])]) (λm=>∃g,(m=[SL 1 g])∧Cl prog 94 sP ([SV.agg [S e,SL 1 l,SL 1 b]]) (λc=>∃x,(c=[I x])∧Cl prog 49 sP [S s,SL 1 g,I x] (λd=>∃i j k,(d=[SV.agg [S i,SL 1 j,SL 1 k]])∧(((0:Int)≤a)∧a<(rlen rows))∧(((0:Int)≤a)∧a<(rlen rows))∧Q ([SL 3 (rset rows a [S i,SV.slice 1 j 0,SV.slice 1 k 0])]))))):Ct prog 221 ⟨[.own],[.own]⟩ [SL 3 rows,.ref 0 [I a],.ref 0 [S s]] Q:=
 fN SgT SvT func221 h
def drem1_nf{rows:LL}{a:Int}{Q:QQ}(h:Cl prog 177 (Sig.mk [Md.own] [Md.own]) [SL 3 rows,I a,I (wadd .i64 a 1)] (λb=>∃l,(b=[SL 3 l])∧Q [SL 3 l])):Ct prog 176 ⟨[.own],[.own]⟩ [SL 3 rows,.ref 0 [I a]] Q:=
 fN SgT SvT func176 h
def Zxh{rows:LL}{nm:BA}{a b:LL}{Q:QQ}(h:Cl prog 309 sP ([SL 3 rows,S nm,SV.clo 310 []]) (λd=>∃x e,(d=[I x,B e])∧Cl prog 311 (Sig.mk [Md.own] [Md.own]) ([SL 3 rows,I x,SL 3 ([[S nm,SV.slice 1 a 0,SV.slice 1 b 0]])]) (λc=>∃l,(c=[SL 3 l])∧Q [SL 3 l]))):Ct prog 245 ⟨[.own],[.own]⟩ [SL 3 rows,fil3 nm a b] Q:=
 fN SgT SvT func245 h
def fclone_nf{rows:LL}{Q:QQ}(h:∀b,((b=true)→rlen rows=0)→ifB b (Q ([SL 3 []])) (((lsum (rlen []) (rlen rows))≤2147483648)∧Q ([SL 3 (rapp [] rows)]))):Ct prog 47 ⟨[],[.own]⟩ [SL 3 rows] Q:=
 fN SgT SvT func47 h
def Zxi{rows:LL}{s:BA}{f:FuncId}{g:List SV}{Q:QQ}(h:∃b:Int→Int→Prop,∃m:Int→Int→Nat,(b 0 (rlen rows))∧∀x a,(b x a)→ifB (ilt x a) (((0:Int)≤1)∧(((0:Int)≤(wcv .i64 (wshr .u64 (wcv .u64 (wadd .i64 x a)) 1)))∧(wcv .i64 (wshr .u64 (wcv .u64 (wadd .i64 x a)) 1))<(rlen rows))∧∃c l d,(rget rows (wcv .i64 (wshr .u64 (wcv .u64 (wadd .i64 x a)) 1))=[S c,SL 1 l,SL 1 d])∧Cl prog f sP ((SV.agg [S c,SL 1 l,SL 1 d])::((S s)::g)) (λi=>∃e,(i=[I e])∧ifB (ilt e 0) (((Option.some []:Option LL)=Option.some [])∧(b (wadd .i64 (wcv .i64 (wshr .u64 (wcv .u64 (wadd .i64 x a)) 1)) 1) a)∧Nat.le (Nat.succ (m (wadd .i64 (wcv .i64 (wshr .u64 (wcv .u64 (wadd .i64 x a)) 1)) 1) a)) (m x a)) (((Option.some []:Option LL)=Option.some [])∧(b x (wcv .i64 (wshr .u64 (wcv .u64 (wadd .i64 x a)) 1)))∧Nat.le (Nat.succ (m x (wcv .i64 (wshr .u64 (wcv .u64 (wadd .i64 x a)) 1)))) (m x a)))) (ifB (ilt x (rlen rows)) ((((0:Int)≤x)∧x<(rlen rows))∧∃c l d,(rget rows x=[S c,SL 1 l,SL 1 d])∧Cl prog f sP ((SV.agg [S c,SL 1 l,SL 1 d])::((S s)::g)) (λi=>∃e,(i=[I e])∧Q [I x,B (bpick true (ieq e 0) false)])) (Q [I x,B (bpick false true false)]))):Ct prog 309 {} [SL 3 rows,S s,.clo f g] Q:=
 fN SgT SvT func309 h
def scont_nf{rows:LL}{f:FuncId}{a:List SV}{Q:QQ}(h:Cl prog 234 sP [SL 1 rows,SV.clo f a] (λb=>∃x,(b=[I x])∧Q [B (ige x 0)])):Ct prog 157 {} [SL 1 rows,.clo f a] Q:=
 fN SgT SvT func157 h
def sindex_nf{rows:LL}{f:FuncId}{d:List SV}{Q:QQ}(h:∃c:Int→Int→Prop,∃m:Int→Int→Nat,(c 0 0)∧∀x a,(c x a)→ifB (ilt a (rlen rows)) ((((0:Int)≤a)∧a<(rlen rows))∧∃s,(rget rows a=[S s])∧Cl prog f sP ((S s)::d) (λe=>∃b,(e=[B b])∧ifB b (Q [I a]) (((Option.some []:Option LL)=Option.some [])∧(c x (wadd .i64 a 1))∧Nat.le (Nat.succ (m x (wadd .i64 a 1))) (m x a)))) (Q [I ((-1:Int))])):Ct prog 234 {} [SL 1 rows,.clo f d] Q:=
 fN SgT SvT func234 h
def Zr6{s t:BA}{Q:QQ}(h:Cl prog 190 sP [S s] (λd=>∃b,(d=[B b])∧Cl prog 190 sP [S t] (λc=>∃a,(c=[B a])∧ifB b (ifB a (Q [I 0]) (Q [I ((-1:Int))])) (ifB a (Q [I 1]) (ifB (slt s t) (Q [I ((-1:Int))]) (ifB (sgt s t) (Q [I 1]) (Q [I 0]))))))):Ct prog 134 {} [S s,S t] Q:=
 fN SgT SvT func134 h
def cnan_nf{s:BA}{Q:QQ}(h:Q [B (sne s s)]):Ct prog 190 {} [S s] Q:=
 fN SgT SvT func190 h
def dins1_nf{nm:BA}{a b:LL}{s:BA}{Q:QQ}(h:Cl prog 134 sP [S nm,S s] (λc=>∃x,(c=[I x])∧Q [I x])):Ct prog 310 {} [fil3 nm a b,S s] Q:=
 fN SgT SvT func310 h
def dcut_nf{rows:LL}{c a:Int}{d:Bool}{s:BA}{n:Int}{Q:QQ}(h:Cl prog 92 sP ([SV.agg [SL 3 rows,I c,I a,B d],SL 1 ([[S s]])]) (λu=>∃x,(u=[I x])∧ifB (ine x 0) (Q ([SV.agg [SL 3 rows,I c,I a,B d],I x])) (Cl prog 93 sP ([SV.agg [SL 3 rows,I c,I a,B d],S s]) (λm=>∃e,(m=[I e])∧ifB (ieq e ((-1:Int))) (Q ([SV.agg [SL 3 rows,I c,I a,B d],I 14])) (ifB (ilt n 0) (ifB (bpick true true true) (Q ([SV.agg [SL 3 rows,I c,I a,B d],I 1])) (Cl prog 95 sP ([SV.agg [SL 3 rows,I c,I a,B d],SV.clo 96 ([SV.ref 0 [I e],SV.ref 0 [S s],SV.ref 0 [I n]])]) (λg=>∃l i,∃j b k,(g=[SV.agg [SL 3 l,I i,I j,B b],I k])∧Q ([SV.agg [SL 3 l,I i,I j,B b],I k])))) ((((0:Int)≤e)∧e<(rlen rows))∧∃p l q,(rget rows e=[S p,SL 1 l,SL 1 q])∧Cl prog 94 sP ([SV.agg [S p,SL 1 l,SL 1 q]]) (λg=>∃i,(g=[I i])∧ifB (bpick false true (igt n i)) (Q ([SV.agg [SL 3 rows,I c,I a,B d],I 1])) (Cl prog 95 sP ([SV.agg [SL 3 rows,I c,I a,B d],SV.clo 96 ([SV.ref 0 [I e],SV.ref 0 [S s],SV.ref 0 [I n]])]) (λo=>∃r j,∃k b t,(o=[SV.agg [SL 3 r,I j,I k,B b],I t])∧Q ([SV.agg [SL 3 r,I j,I k,B b],I t])))))))))):Ct prog 33 {} [dsk4 rows c a d,S s,I n] Q:=
 fN SgT SvT func33 h
def dcut1_nf{rows:LL}{a:Int}{s:BA}{n:Int}{Q:QQ}(h:(((0:Int)≤a)∧a<(rlen rows))∧(((0:Int)≤a)∧a<(rlen rows))∧∃k l d,(rget rows a=[S k,SL 1 l,SL 1 d])∧Cl prog 48 sO ([SL 1 ([[SV.slice 1 l 0],[SV.slice 1 d 0]])]) (λj=>∃b,(j=[SL 1 b])∧(((0:Int)≤0)∧((0:Int)≤n)∧n≤(rlen b))∧Cl prog 49 sP [S s,SL 1 (rsub b 0 n),I (imin n (rlen l))] (λc=>∃e g i,(c=[SV.agg [S e,SL 1 g,SL 1 i]])∧(((0:Int)≤a)∧a<(rlen rows))∧(((0:Int)≤a)∧a<(rlen rows))∧Q ([SL 3 (rset rows a [S e,SV.slice 1 g 0,SV.slice 1 i 0])])))):Ct prog 96 ⟨[.own],[.own]⟩ [SL 3 rows,.ref 0 [I a],.ref 0 [S s],.ref 0 [I n]] Q:=
 fN SgT SvT func96 h
def qsame_nf(rows:LL)(i d:Int)(j:Bool)(c:LL)(e a:Int)(g:Bool)(Q:QQ)(h:ifB (bpick (bpick (bpick (ine (rlen rows) (rlen c)) true (ine i e)) true (ine d a)) true (bnot (beqB j g))) (Q [B false]) (∃k:Bool→Int→Prop,∃m:Bool→Int→Nat,(k false 0)∧∀b x,(k b x)→ifB (ilt x (rlen rows)) ((((0:Int)≤x)∧x<(rlen rows))∧∃s l n,(rget rows x=[S s,SL 1 l,SL 1 n])∧(((0:Int)≤x)∧x<(rlen c))∧∃q p o,(rget c x=[S q,SL 1 p,SL 1 o])∧(ifB (sne s q) (ifB (bpick true true true) (ifB (bpick true true true) (Q [B false]) ((Sm (some ([[SL 3 c,I e,I a,B g],[SL 3 rows,I i,I d,B j]])))∧(k b (wadd .i64 x 1))∧Nat.le (Nat.succ (m b (wadd .i64 x 1))) (m b x))) ((Zaq n)∧(Zaq o)∧ifB (bpick false true (sne (bstr n) (bstr o))) (Q [B false]) ((Sm (some ([[SL 3 c,I e,I a,B g],[SL 3 rows,I i,I d,B j]])))∧(k b (wadd .i64 x 1))∧Nat.le (Nat.succ (m b (wadd .i64 x 1))) (m b x)))) ((Zaq l)∧(Zaq p)∧ifB (bpick false true (sne (bstr l) (bstr p))) (ifB (bpick true true true) (Q [B false]) ((Sm (some ([[SL 3 c,I e,I a,B g],[SL 3 rows,I i,I d,B j]])))∧(k b (wadd .i64 x 1))∧Nat.le (Nat.succ (m b (wadd .i64 x 1))) (m b x))) ((Zaq n)∧(Zaq o)∧ifB (bpick false true (sne (bstr n) (bstr o))) (Q [B false]) ((Sm (some ([[SL 3 c,I e,I a,B g],[SL 3 rows,I i,I d,B j]])))∧(k b (wadd .i64 x 1))∧Nat.le (Nat.succ (m b (wadd .i64 x 1))) (m b x)))))∧ifB (sne s q) (ifB (bpick true true true) (ifB (bpick true true true) (Q [B false]) ((Sm (some ([[SL 3 c,I e,I a,B g],[SL 3 rows,I i,I d,B j]])))∧(k b (wadd .i64 x 1))∧Nat.le (Nat.succ (m b (wadd .i64 x 1))) (m b x))) ((Zaq n)∧(Zaq o)∧ifB (bpick false true (sne (bstr n) (bstr o))) (Q [B false]) ((Sm (some ([[SL 3 c,I e,I a,B g],[SL 3 rows,I i,I d,B j]])))∧(k b (wadd .i64 x 1))∧Nat.le (Nat.succ (m b (wadd .i64 x 1))) (m b x)))) ((Zaq l)∧(Zaq p)∧ifB (bpick false true (sne (bstr l) (bstr p))) (ifB (bpick true true true) (Q [B false]) ((Sm (some ([[SL 3 c,I e,I a,B g],[SL 3 rows,I i,I d,B j]])))∧(k b (wadd .i64 x 1))∧Nat.le (Nat.succ (m b (wadd .i64 x 1))) (m b x))) ((Zaq n)∧(Zaq o)∧ifB (bpick false true (sne (bstr n) (bstr o))) (Q [B false]) ((Sm (some ([[SL 3 c,I e,I a,B g],[SL 3 rows,I i,I d,B j]])))∧(k b (wadd .i64 x 1))∧Nat.le (Nat.succ (m b (wadd .i64 x 1))) (m b x))))) (Q [B true]))):Ct prog 14 {} [dsk4 rows i d j,dsk4 c e a g] Q:=
 fN SgT SvT func14 h
end Dsk
namespace Dsk
open Go Go.Px Go.Proofs Ins Tryz
def ovl_file:fovl prog 346 22:=by
 refine⟨#[4],λx y w=>?_⟩;rw[run_callFunc_extern func346 (by kernel_rfl) (by kernel_rfl) (by kernel_rfl) (e:=Extern.SlicesOverlaps.overlaps #[22,22] #[4]) (by kernel_rfl)]
def grow_fn(n:Nat)(i:n≤2147483648):Ct prog 111 ⟨[.own],[.own]⟩ [SL 1 [],I n] (λr=>r=[SL 1 []]):=by
 refine grow_nf (Zaa (λh=>by simp at h;omega) (λ_ x b g=>?_));simp only[rlen_eq,Y5,isub_d,lsum_eq,WM,Int.zero_add]at b⊢;have b:(0:Int)≤x:=b;have w:wsub .i64 (n:Int) (wsub .i64 x ((0:Nat):Int))=n-x:=(by rw[Zar (a:=x) (by omega) (by omega)];rw[Zar (by omega) (by omega)];omega);rw[w];refine Zaa (λh=>?_) (λh=>⟨Int.le_refl _,by simp[rsub]⟩);simp at h;refine⟨⟨by omega,b,by omega⟩,⟨⟨by omega,by omega⟩,by omega,by omega⟩,λc d e f=>⟨⟨by omega,by omega,by omega⟩,by omega,by simp[rsub]⟩,λc d e f=>⟨⟨by omega,by omega,by omega⟩,by omega,by simp[rsub]⟩⟩
def catL:List (List UInt8)→List UInt8:=List.flatten
abbrev sR(a:List (List UInt8)):LL:=a.map λl=>[SL 1 (uR l)]
def Zv2(a:List (List UInt8))(i:Nat)(h:i<a.length):catL (a.take (i+1))=catL (a.take i)++a[i]:=by
 rw[Zzo _ _ h];unfold catL;rw[List.flatten_append,List.flatten_singleton]
def cat_le(a:List (List UInt8))(i:Nat):(catL (a.take i)).length≤(catL a).length:=by
 conv=>rhs;rw[←List.take_append_drop i a]
 simp only[catL,List.flatten_append,List.length_append];omega
def Zq8(a:List (List UInt8))(d:a.length≤1000)(b:(catL a).length≤2147483648):Ct prog 48 ⟨[],[.own]⟩ [SL 1 (sR a)] (λr=>r=[SL 1 (uR (catL a))]):=by
 refine Zz4 ⟨λx y=>∃i:Nat,y=i∧i≤a.length∧x=(catL (a.take i)).length,λ_ y=>a.length-y.toNat,⟨0,rfl,by omega,by simp[catL]⟩,?_⟩;rintro _ _ ⟨i,rfl,hi,rfl⟩;refine Zaa (λh=>?_) (λh=>?_)
 ·simp at h;have e:=Zv2 a i h;have e2:=cat_le a (i+1);rw[e,List.length_append]at e2;refine⟨⟨by omega,by simpa using h⟩,uR a[i],by rw[Zao _ _ _ h],?_⟩;rw[rlen_eq,Zms,Zp6 _ _ (by omega)];refine Zaa (λc=>by simp at c;omega) (λ_=>⟨rfl,?_,?_⟩)
  ·rw[waddN _ (by omega)];exact⟨i+1,rfl,by omega,by rw[e,List.length_append]⟩
  ·rw[waddN _ (by omega)];exact stepL (by simp;omega)
 ·simp at h;have:i=a.length:=(by omega);subst this;rw[Yd];refine Cl.of (grow_fn _ b) ⟨_,rfl,λl y=>∃i:Nat,y=i∧i≤a.length∧l=uR (catL (a.take i)),λ_ y=>a.length-y.toNat,⟨0,rfl,by omega,by simp[catL]⟩,?_⟩;rintro _ _ ⟨i,rfl,hi,rfl⟩;refine Zaa (λh=>?_) (λh=>?_)
  ·simp at h;have e:=Zv2 a i h;have e2:=cat_le a (i+1);rw[e,List.length_append]at e2;refine⟨⟨by omega,by simpa using h⟩,uR a[i],by rw[Zao _ _ _ h],by simp;omega,rfl,?_,?_⟩
   ·rw[waddN _ (by omega)];exact⟨i+1,rfl,by omega,by rw[e,Zj8]⟩
   ·rw[waddN _ (by omega)];exact stepL (by simp;omega)
  ·simp at h;have:i=a.length:=(by omega);subst this;rw[Yd]
def Ztc(a b:List UInt8)(h:a.length+b.length≤2147483648):Ct prog 48 ⟨[],[.own]⟩ [SL 1 [[SL 1 (uR a)],[SL 1 (uR b)]]] (λr=>r=[SL 1 (uR (a++b))]):=by
 have:=Zq8 [a,b] (by simp) (by simpa[catL]using h)
 simpa[catL]using this
def concat3(a b c:List UInt8)(h:a.length+b.length+c.length≤2147483648):Ct prog 48 ⟨[],[.own]⟩ [SL 1 [[SL 1 (uR a)],[SL 1 (uR b)],[SL 1 (uR c)]]] (λr=>r=[SL 1 (uR (a++b++c))]):=by
 have:=Zq8 [a,b,c] (by simp) (by simp[catL];omega)
 simpa[catL]using this
def Zo5(f:FiD)(h:f.len≤72057594037927936):Ct prog 94 {} [.agg f.row] (λr=>r=[I f.len]):=by
 refine dsize_nf ?_;unfold FiD.len at h⊢;rw[rlen_eq,rlen_eq,Zms,Zms,Zp6 _ _ (by omega)]
def _root_.Go.Px.DiD.ok(d:DiD):Prop:=usedL d.fs≤72057594037927936∧d.fs.length≤72057594037927936∧d.st≤9223372036854775807
def _root_.Go.Px.DiD.P.ok{d:DiD}(h:d.P)(a:d.st≤9223372036854775807):d.ok:=by
 have b:=h.1;have c:=h.2.1;exact⟨by omega,by omega,a⟩
def used_take(l:List FiD)(i:Nat)(h:i<l.length):usedL (l.take (i+1))=usedL (l.take i)+l[i].len:=by
 rw[Zzo _ _ h,Zew];simp[usedL]
def used_le(l:List FiD)(i:Nat):usedL (l.take i)≤usedL l:=by
 have:=congrArg usedL (List.take_append_drop i l);rw[Zew]at this;omega
def Zkh(d:DiD)(h:d.ok):Ct prog 77 {} [d.sv] (λr=>r=[I (usedL d.fs)]):=by
 obtain⟨a,b,_⟩:=h;refine dused_nf ⟨λx y=>∃i:Nat,y=i∧i≤d.fs.length∧x=usedL (d.fs.take i),λ_ y=>d.fs.length-y.toNat,⟨0,rfl,by omega,by simp[usedL]⟩,?_⟩;rintro _ _ ⟨i,rfl,hi,rfl⟩;refine Zaa (λh=>?_) (λh=>?_)
 ·simp at h;have e:=used_take d.fs i h;have e2:=used_le d.fs (i+1);refine⟨⟨by omega,by simpa using h⟩,_,_,_,Zao _ _ _ h,Cl.of (Zo5 d.fs[i] (by have:=Zf7 (List.getElem_mem h);omega)) ⟨_,rfl,rfl,?_,?_⟩⟩
  ·rw[waddN _ (by omega),Zp6 _ _ (by omega)];exact⟨i+1,rfl,by omega,by rw[e]⟩
  ·rw[waddN _ (by omega)];exact stepL (by simp;omega)
 ·simp at h;have:i=d.fs.length:=(by omega);subst this;rw[Yd]
def Zv3(d:DiD)(h:d.fs.length≤2147483648):Ct prog 107 {} [d.sv] (λr=>r=[SL 1 (nR (d.fs.map FiD.nm))]):=by
 refine dlist_nf ⟨⟨by omega,by simp,by simp;omega⟩,λl y=>∃i:Nat,y=i∧i≤d.fs.length∧l=nR ((d.fs.take i).map FiD.nm),λ_ y=>d.fs.length-y.toNat,⟨0,rfl,by omega,by simp[rrep]⟩,?_⟩;rintro _ _ ⟨i,rfl,hi,rfl⟩;refine Zaa (λh=>?_) (λh=>?_)
 ·simp at h;refine⟨⟨by omega,by simpa using h⟩,_,_,_,Zao _ _ _ h,by simp;omega,rfl,?_,?_⟩
  ·rw[waddN _ (by omega)];exact⟨i+1,rfl,by omega,by rw[Zzo _ _ h,List.map_append];exact Zj8 _ _ [d.fs[i].nm]⟩
  ·rw[waddN _ (by omega)];exact stepL (by simp;omega)
 ·simp at h;have:i=d.fs.length:=(by omega);subst this;rw[Yd]
def Ztd{s:BA}:fnB s=true↔(1≤s.size∧s.size≤16)∧∀i:Nat,∀h:i<s.size,fchr (s.data.toList[i]'(by rw[←Zc5];exact h))=true:=by
 unfold fnB;rw[Bool.and_eq_true,decide_eq_true_eq,List.all_eq_true];refine and_congr Iff.rfl ⟨λh i a=>h _ (List.getElem_mem _),λh b c=>?_⟩;obtain⟨i,a,rfl⟩:=List.mem_iff_getElem.1 c;exact h i (by rw[Zc5];exact a)
def Zq9(s:BA):Ct prog 110 {} [S s] (λr=>r=[B (fnB s)]):=by
 refine Zz5 (Zaa (λh=>?_) (λh=>?_))
 ·simp at h;have:fnB s=false:=(by rw[Wf];intro k;have:=(Ztd.1 k).1;omega);rw[this]
 ·simp at h;refine⟨λ_ y=>∃i:Nat,y=i∧i≤s.size∧∀j:Nat,∀a:j<s.size,j<i→fchr (s.data.toList[j]'(by rw[←Zc5];exact a))=true,λ_ y=>s.size-y.toNat,⟨0,rfl,by omega,λj _ a=>by omega⟩,?_⟩;rintro _ _ ⟨i,rfl,hi,hall⟩;refine Zaa (λd=>?_) (λd=>?_)
  ·simp at d;rw[Zzp _ _ d,waddN _ (by omega)];generalize hb:s.data.toList[i]'(by rw[←Zc5];exact d)=b
   have o:fchr b=true→∃k:Nat,((i+1:Nat):Int)=k∧k≤s.size∧∀j:Nat,∀a:j<s.size,j<k→fchr (s.data.toList[j]'(by rw[←Zc5];exact a))=true:=λf=>
    ⟨i+1,rfl,by omega,λj a v=>by
     by_cases e:j=i
     ·subst e;rw[hb];exact f
     ·exact hall j a (by omega)⟩
   have no:fchr b=false→[B false]=[B (fnB s)]:=λf=>by have:fnB s=false:=(by rw[Wf];intro k;have:=(Ztd.1 k).2 i d;rw[hb,f]at this;cases this);rw[this]
   have u:Nat.le (Nat.succ (s.size-((i+1:Nat):Int).toNat)) (s.size-((i:Nat):Int).toNat):=stepL (by simp;omega)
   have rng:(0:Int)≤(i:Int)∧(i:Int)<slen s:=⟨by omega,by simpa using d⟩
   have w:∀{p:Prop},(p↔fchr b=true)→p→fchr b=true:=λh=>h.1;have q:fchr b=true↔(97≤b.toNat∧b.toNat≤122)∨(48≤b.toNat∧b.toNat≤57)∨b.toNat=46:=(by unfold fchr;rw[decide_eq_true_eq]);have t:fchr b=false↔¬((97≤b.toNat∧b.toNat≤122)∨(48≤b.toNat∧b.toNat≤57)∨b.toNat=46):=by rw[←q];simp
   have fin:∀(g:Bool),(g=true↔fchr b=false)→ifB g ([B false]=[B (fnB s)]) ((some []:Option LL)=some []∧(∃k:Nat,((i+1:Nat):Int)=k∧k≤s.size∧∀j:Nat,∀a:j<s.size,j<k→fchr (s.data.toList[j]'(by rw[←Zc5];exact a))=true)∧Nat.le (Nat.succ (s.size-((i+1:Nat):Int).toNat)) (s.size-((i:Nat):Int).toNat)):=λg n=>
    Zaa (λh=>no (n.1 h)) (λh=>⟨rfl,o (by cases f:fchr b with|true=>rfl|false=>rw[n.2 f]at h;cases h),u⟩)
   refine⟨rng,Zaa (λm=>⟨rng,rng,Zaa (λl=>⟨rng,Zaa (λc=>⟨rng,fin _ ?_⟩) (λc=>fin _ ?_)⟩) (λl=>Zaa (λc=>⟨rng,fin _ ?_⟩) (λc=>fin _ ?_))⟩) (λm=>⟨rng,Zaa (λl=>⟨rng,Zaa (λc=>⟨rng,fin _ ?_⟩) (λc=>fin _ ?_)⟩) (λl=>Zaa (λc=>⟨rng,fin _ ?_⟩) (λc=>fin _ ?_))⟩)⟩
   all_goals first|(simp at m l c;done)|(simp at m l c;rw[t];first|(simp;done)|(simp;omega))
  ·simp at d;have:fnB s=true:=Ztd.2 ⟨by omega,λj a=>hall j a (by omega)⟩;rw[this]
def adj_srt{l:List FiD}(h:∀i:Nat,∀a:i<l.length,0<i→nlt (l[i-1]'(by omega)).nm l[i].nm):srt FiD.nm l:=
 srt_adj λi a=>by have:=h (i+1) a (by omega);simpa using this
def Zgc(d:DiD)(h:d.ok):Ct prog 46 {} [d.sv] (λr=>r=[B (decide d.P)]):=by
 have no:¬d.P→[B false]=[B (decide d.P)]:=λh=>by simp[h]
 refine Zz6 (Zaa (λq=>no (λp=>?_)) (λq=>?_))
 ·have:=p.1;simp at q;omega
 ·simp at q;refine⟨λ_ y=>∃i:Nat,y=i∧i≤d.fs.length∧∀j:Nat,∀c:j<d.fs.length,j<i→fnB d.fs[j].nm=true∧(0<j→nlt (d.fs[j-1]'(by omega)).nm d.fs[j].nm),λ_ y=>d.fs.length-y.toNat,⟨0,rfl,by omega,λj _ c=>by omega⟩,?_⟩;rintro b _ ⟨i,rfl,hi,hall⟩;refine Zaa (λl=>?_) (λl=>?_)
  ·simp at l;have s:Nat.le (Nat.succ (d.fs.length-((i+1:Nat):Int).toNat)) (d.fs.length-((i:Nat):Int).toNat):=stepL (by simp;omega)
   have o:fnB d.fs[i].nm=true→(0<i→nlt (d.fs[i-1]'(by omega)).nm d.fs[i].nm)→∃k:Nat,((i+1:Nat):Int)=k∧k≤d.fs.length∧∀j:Nat,∀c:j<d.fs.length,j<k→fnB d.fs[j].nm=true∧(0<j→nlt (d.fs[j-1]'(by omega)).nm d.fs[j].nm):=λa b=>
    ⟨i+1,rfl,by omega,λj c x=>by
     by_cases e:j=i
     ·subst e;exact⟨a,b⟩
     ·exact hall j c (by omega)⟩
   rw[waddN _ (by omega)];refine⟨⟨by omega,by simpa using l⟩,_,_,_,Zao _ _ _ l,Cl.of (Zq9 _) ⟨_,rfl,Zaa (λm=>?_) (λm=>?_)⟩⟩
   ·simp at m;refine Zaa (λ_=>no (λp=>?_)) (λn=>by simp at n);have:=p.2.2.1 _ (List.getElem_mem l);rw[this]at m;cases m
   ·simp at m;refine Zaa (λn=>?_) (λn=>?_)
    ·simp at n;have w:wsub .i64 (i:Int) 1=((i-1:Nat):Int):=by rw[Zar (by omega) (by omega)];omega
     rw[w];have hi1:i-1<d.fs.length:=(by omega);refine⟨⟨by omega,by simp;omega⟩,_,_,_,Zao _ _ _ hi1,?_⟩;rw[sge_d];refine Zaa (λg=>no (λp=>?_)) (λg=>⟨rfl,o m (λ_=>?_),s⟩)
     ·simp at g;exact g (Zo7 p.2.2.2 (by omega) l)
     ·simp at g;exact g
    ·simp at n;refine Zaa (λg=>by simp at g) (λg=>⟨rfl,o m (λ_=>by omega),s⟩)
  ·simp at l;have u:srt FiD.nm d.fs:=adj_srt λj c=>(hall j c (by omega)).2;have v:∀f∈d.fs,fnB f.nm=true:=λf t=>by obtain⟨j,c,rfl⟩:=List.mem_iff_getElem.1 t;exact(hall j c (by omega)).1
   refine Cl.of (Zkh d h) ⟨_,rfl,?_⟩;have:ile (usedL d.fs:Int) d.rm=decide d.P:=(by rw[ile_eq,decide_eq_decide];exact⟨λk=>⟨⟨by omega,by omega,by omega,by omega⟩,k,v,u⟩,λp=>p.2.1⟩);rw[this]
def Zxs(s:BA):Ct prog 158 {} [S s] (λr=>r=[B (!fnB s)]):=
 Zxc (Cl.of (Zq9 s) ⟨_,rfl,rfl⟩)
def sindex_fn(l:List BA)(f:FuncId)(c:List SV)(p:BA→Bool)(d:l.length≤1000000)(g:∀s∈l,Ct prog f sP (S s::c) (λx=>x=[B (p s)])):
  Ct prog 234 {} [SL 1 (nR l),.clo f c] (λr=>∃x:Int,r=[I x]∧((x= -1∧∀s∈l,p s=false)∨(0≤x∧∃s∈l,p s=true))):=by
 refine sindex_nf ⟨λ_ y=>∃i:Nat,y=i∧i≤l.length∧∀j:Nat,∀a:j<l.length,j<i→p l[j]=false,λ_ y=>l.length-y.toNat,⟨0,rfl,by omega,λj _ a=>by omega⟩,?_⟩;rintro _ _ ⟨i,rfl,hi,hall⟩;refine Zaa (λh=>?_) (λh=>?_)
 ·simp at h;rw[waddN _ (by omega)];refine⟨⟨by omega,by simpa using h⟩,_,Zao _ _ _ h,Cl.of (g _ (List.getElem_mem h)) ⟨_,rfl,Zaa (λb=>⟨_,rfl,.inr ⟨by omega,_,List.getElem_mem h,b⟩⟩) (λb=>⟨rfl,⟨i+1,rfl,by omega,λj a m=>?_⟩,stepL (by simp;omega)⟩)⟩⟩;by_cases e:j=i
  ·subst e;exact b
  ·exact hall j a (by omega)
 ·simp at h;refine⟨-1,rfl,.inl ⟨rfl,λs k=>?_⟩⟩;obtain⟨j,a,rfl⟩:=List.mem_iff_getElem.1 k;exact hall j a (by omega)
def scont_fn(l:List BA)(f:FuncId)(a:List SV)(p:BA→Bool)(b:l.length≤1000000)(d:∀s∈l,Ct prog f sP (S s::a) (λx=>x=[B (p s)])):
  Ct prog 157 {} [SL 1 (nR l),.clo f a] (λr=>r=[B (l.any p)]):=by
 refine scont_nf (Cl.ofQ (sindex_fn l f a p b d) ?_);rintro _ ⟨x,rfl,hx⟩;refine⟨x,rfl,?_⟩
 rcases hx with⟨rfl,h⟩|⟨h0,s,c,h⟩
 ·have:l.any p=false:=(by rw[YP];intro s c;simp[h s c]);rw[this];simp
 ·have:l.any p=true:=List.any_eq_true.2 ⟨s,c,h⟩;rw[this];simp;omega
def dready_fn(d:DiD)(h:d.ok)(l:List BA)(e:l.length≤1000):Ct prog 92 {} [d.sv,SL 1 (nR l)] (λr=>r=[I (if d.P then(if d.dn=true then 16 else if l.any (λs=>!fnB s)=true then 1 else 0)else 1)]):=by
 refine Zz7 (Cl.of (Zgc d h) ⟨_,rfl,Zaa (λa=>?_) (λa=>Zaa (λb=>?_) (λb=>Cl.of (scont_fn l 158 [] (λs=>!fnB s) (by omega) (λs _=>Zxs s)) ⟨_,rfl,Zaa (λc=>?_) (λc=>?_)⟩))⟩)
 ·simp at a;rw[if_neg a]
 ·simp at a;rw[if_pos a,if_pos b]
 ·simp at a;rw[if_pos a,if_neg (by simp[b]),if_pos c]
 ·simp at a;rw[if_pos a,if_neg (by simp[b]),if_neg (by simp[c])]
def Zm5(d:DiD)(h:d.ok)(s:BA):Ct prog 92 {} [d.sv,SL 1 [[S s]]] (λr=>r=[I (d.er s s)]):=by
 have:=dready_fn d h [s] (by simp)
 have e:(if d.P then(if d.dn=true then(16:Int)else if[s].any (λs=>!fnB s)=true then 1 else 0)else 1)=d.er s s:=by
  unfold DiD.er
  cases h1:fnB s<;>simp[h1]
 rw[e]at this;exact this
def Zxt(f:FiD)(s:BA):Ct prog 160 {} [.agg f.row,.ref 0 [S s]] (λr=>r=[B (decide (f.nm=s))]):=
 Zxd (by rw[seq_d])
def isFil_row(f:FiD):isFil f.row:=⟨_,_,_,rfl⟩
def rnm(r:List SV):BA:=match r with| .val (.string s)::_=>s|_=>ByteArray.empty
def rnm_row(f:FiD):rnm f.row=f.nm:=rfl
def Zes(d:DiD)(b:d.fs.length≤1000000)(s:BA):Ct prog 93 {} [d.sv,S s] (λr=>r=[I (fAt FiD.nm d.fs s)]):=by
 refine Zz8 (Cl.ofQ (findex_fn (fR d.fs) 160 [.ref 0 [S s]] (λr=>decide (rnm r=s)) (by simpa using b) (λr c=>?_)) ?_)
 ·obtain⟨f,_,rfl⟩:=Y4.1 c;exact⟨isFil_row f,Zxt f s⟩
 ·rintro _ ⟨x,rfl,hx⟩;refine⟨x,rfl,?_⟩
  have:x=fAt FiD.nm d.fs s:=by
   rcases hx with⟨rfl,h⟩|⟨h0,h1,h2,h3⟩
   ·refine(Zgs.2 λf g=>?_).symm;have:=h f.row (Yf g);exact of_decide_eq_false (this:decide (f.nm=s)=false)
   ·obtain⟨i,rfl⟩:∃i:Nat,x=i:=⟨x.toNat,by omega⟩
    have a:i<d.fs.length:=(by simpa using h1);rw[Zao _ _ _ a,rnm_row]at h3
    have e:fnd FiD.nm d.fs s=some i:=Zo6.2 ⟨a,by simpa using h3,λj l=>by
     have k:j<d.fs.length:=by omega
     have:=h2 d.fs[j].row (by
      rw[←List.map_take]
      exact Yf (List.mem_take_iff_getElem.2 ⟨j,by simp;omega,rfl⟩))
     exact of_decide_eq_false (this:decide (d.fs[j].nm=s)=false)⟩
    simp[fAt,e]
  rw[this]
def dsplit_fn(s:BA)(l:List UInt8)(n:Nat)(h:n≤l.length):Ct prog 49 {} [S s,SL 1 (uR l),I n] (λr=>r=[.agg (FiD.row ⟨s,l.take n,l.drop n⟩)]):=by
 refine Zz9 ⟨⟨by omega,by omega,rfl,by simpa using h⟩,⟨by omega,by simpa using h,rfl,Int.le_refl _⟩,?_⟩;rw[Zj7,Zj7];simp[FiD.row]
def Zlg(s:BA)(a b:List UInt8):Ct prog 49 {} [S s,SL 1 (uR (a++b)),I (a.length:Nat)] (λr=>r=[.agg (FiD.row ⟨s,a,b⟩)]):=by
 have:=dsplit_fn s (a++b) a.length (by simp);rw[YI,Wc]at this;exact this
def Zxu(s:BA)(a:List UInt8):Ct prog 49 {} [S s,SL 1 (uR a),I (a.length:Nat)] (λr=>r=[.agg (FiD.row ⟨s,a,[]⟩)]):=by
 have:=Zlg s a [];rw[List.append_nil]at this;exact this
def Zlh(l:List FiD)(h:l.length≤2147483648):Ct prog 47 ⟨[],[.own]⟩ [SL 3 (fR l)] (λr=>r=[SL 3 (fR l)]):=by
 refine fclone_nf (λb c=>Zaa (λe=>?_) (λe=>⟨by simp;omega,by simp[rapp]⟩));have:=c e;have:l=[]:=(by have a:(fR l).length=0:=(by simp only[rlen_eq]at this;omega);rw[List.length_map]at a;exact Y8 a);rw[this];rfl
def Zds(d:DiD)(i:d.fs.length≤1000000)(j: -1≤d.st)(hst:d.st≤9223372036854775807)(f:FuncId)(c:List SV)(a:List FiD)(g:d.st≠0→Ct prog f OO (SL 3 (fR d.fs)::c) (λr=>r=[SL 3 (fR a)])):
  Ct prog 95 {} [d.sv,.clo f c] (λr=>r=[(d.perf a).1.sv,I (d.perf a).2]):=by
 refine Zr5 (Zaa (λh=>?_) (λh=>?_))
 ·simp at h;unfold DiD.perf;rw[if_pos h]
 ·simp at h;have e:d.perf a=({d.tick with fs:=a},0):=by unfold DiD.perf;rw[if_neg h]
  rw[e];refine Zaa (λb=>Cl.of (Zlh d.fs (by omega)) ⟨_,rfl,Cl.of (g h) ⟨_,rfl,?_⟩⟩) (λb=>Cl.of (Zlh d.fs (by omega)) ⟨_,rfl,Cl.of (g h) ⟨_,rfl,?_⟩⟩)
  ·simp at b;have:wsub .i64 d.st 1=d.st-1:=Zar (by omega) (by omega);rw[this];simp[DiD.tick,b,DiD.sv]
  ·simp at b;have:¬0<d.st:=(by omega);simp[DiD.tick,this,DiD.sv]
def cnan_fn(s:BA):Ct prog 190 {} [S s] (λr=>r=[B false]):=by
 refine cnan_nf ?_;simp
def Zsk(s t:BA):Ct prog 134 {} [S s,S t] (λr=>r=[I (if nlt s t then-1 else if nlt t s then 1 else 0)]):=by
 refine Zr6 (Cl.of (cnan_fn s) ⟨_,rfl,Cl.of (cnan_fn t) ⟨_,rfl,?_⟩⟩);show ifB (slt s t) _ _;rw[slt_d,sgt_d];exact ifB_d (λh=>by rw[if_pos h]) (λh=>ifB_d (λk=>by rw[if_neg h,if_pos k]) (λk=>by rw[if_neg h,if_neg k]))
def Zu1(f:FiD)(s:BA):Ct prog 310 {} [.agg f.row,S s] (λr=>r=[I (if nlt f.nm s then-1 else if nlt s f.nm then 1 else 0)]):=
 dins1_nf (Cl.of (Zsk _ _) ⟨_,rfl,rfl⟩)
def half{i j:Nat}(h:i+j≤9223372036854775807):wcv .i64 (wshr .u64 (wcv .u64 (wadd .i64 (i:Int) (j:Int))) 1)=(((i+j)/2:Nat):Int):=by
 rw[Zp6 _ _ h];have e1:wcv .u64 ((i+j:Nat):Int)=((i+j:Nat):Int):=(by simp only[wcv,IntKind.wrap,IntKind.signed,IntKind.bits];simp;omega);rw[e1];have e2:wshr .u64 ((i+j:Nat):Int) 1=(((i+j)/2:Nat):Int):=(by simp only[wshr,IntKind.bits];simp;rw[Int.fdiv_eq_ediv_of_nonneg _ (by omega)]);rw[e2];unfold wcv;exact Zbd (by omega) (by omega)
def Zxq(l:List FiD)(g:srt FiD.nm l)(m:l.length≤1000000)(s:BA):Ct prog 309 {} [SL 3 (fR l),S s,.clo 310 []] (λr=>∃b:Bool,r=[I ((ahd FiD.nm l s).length:Nat),B b]):=by
 refine Zxi ⟨λx y=>∃i j:Nat,x=i∧y=j∧i≤(ahd FiD.nm l s).length∧(ahd FiD.nm l s).length≤j∧j≤l.length,λx y=>y.toNat-x.toNat,⟨0,l.length,rfl,by simp,by omega,Zpb,by omega⟩,?_⟩;rintro _ _ ⟨i,j,rfl,rfl,h1,h2,h3⟩;refine Zaa (λh=>?_) (λh=>?_)
 ·simp at h;rw[half (by omega)];have f:(i+j)/2<l.length:=(by omega);refine⟨by omega,⟨by omega,by simp;omega⟩,_,_,_,Zao _ _ _ f,Cl.of (Zu1 _ s) ⟨_,rfl,Zaa (λa=>⟨rfl,?_,?_⟩) (λa=>⟨rfl,⟨i,(i+j)/2,rfl,rfl,h1,?_,by omega⟩,stepL (by simp;omega)⟩)⟩⟩
  ·rw[waddN _ (by omega)];refine⟨(i+j)/2+1,j,rfl,rfl,?_,h2,h3⟩
   have:nlt l[(i+j)/2].nm s:=by
    refine W4 λc=>?_;rw[if_neg c]at a
    split at a<;>simp at a
   have:=(Zpa (s:=s) g f).2 this;omega
  ·rw[waddN _ (by omega)];exact stepL (by simp;omega)
  ·have c:¬nlt l[(i+j)/2].nm s:=λc=>by rw[if_pos c]at a;simp at a
   have:¬((i+j)/2<(ahd FiD.nm l s).length):=λk=>c ((Zpa (s:=s) g f).1 k);omega
 ·simp at h;have e:i=(ahd FiD.nm l s).length:=(by omega);refine Zaa (λa=>?_) (λa=>⟨_,by rw[←e]⟩);have a:i<l.length:=(by simpa using a);exact⟨⟨by omega,by simpa using a⟩,_,_,_,Zao _ _ _ a,Cl.of (Zu1 _ s) ⟨_,rfl,_,by rw[←e]⟩⟩
def Zxr(l:List FiD)(c:srt FiD.nm l)(a:l.length≤1000000)(f:FiD):Ct prog 245 OO [SL 3 (fR l),.agg f.row] (λr=>r=[SL 3 (fR (insB FiD.nm l f))]):=by
 refine Zxh (Cl.ofQ (Zxq l c a f.nm) ?_);rintro _ ⟨b,rfl⟩;refine⟨_,_,rfl,Cl.of (Zx3 (fR l) (ahd FiD.nm l f.nm).length f.row (by simpa using Zpb) (by simpa using a) ovl_file) ⟨_,rfl,?_⟩⟩;rw[insB_at];simp[List.map_take,List.map_drop]
section
variable{d:DiD}(hp:d.P)
include hp
def flen{i:Nat}(a:i<d.fs.length):d.fs[i].len≤65536:=by
 have:=Zf7 (List.getElem_mem a);have:=hp.2.1;have:=hp.1.2.2.1;omega
def set_eq{i:Nat}(a:i<d.fs.length)(f:FiD)(e:f.nm=d.fs[i].nm):rset (fR d.fs) (i:Nat) f.row=fR (withB FiD.nm d.fs f):=by
 rw[Zud,Zgd hp.2.2.2 a e]
def dapp1_fn{i:Nat}(a:i<d.fs.length)(x:List UInt8)(e:x.length≤65536):
  Ct prog 246 OO [SL 3 (fR d.fs),.ref 0 [I (i:Nat)],.ref 0 [S d.fs[i].nm],.ref 0 [SL 1 (uR x)]] (λr=>r=[SL 3 (fR (withB FiD.nm d.fs ⟨d.fs[i].nm,d.fs[i].su,d.fs[i].lo++x⟩))]):=by
 have b:(0:Int)≤(i:Nat)∧((i:Nat):Int)<rlen (fR d.fs):=⟨by omega,by simpa using a⟩
 have c:=flen hp a;refine dapp1_nf ⟨b,b,_,_,_,Zao _ _ _ a,Cl.of (concat3 _ _ x (by unfold FiD.len at c;omega)) ⟨_,rfl,?_⟩⟩;rw[List.append_assoc,rlen_eq,Zms];refine Cl.of (Zlg _ _ _) ⟨_,_,_,rfl,b,b,?_⟩;exact congrArg (λz=>[SL 3 z]) (set_eq hp a _ rfl)
def dsyn1_fn{i:Nat}(a:i<d.fs.length):
  Ct prog 221 OO [SL 3 (fR d.fs),.ref 0 [I (i:Nat)],.ref 0 [S d.fs[i].nm]] (λr=>r=[SL 3 (fR (withB FiD.nm d.fs ⟨d.fs[i].nm,d.fs[i].su++d.fs[i].lo,[]⟩))]):=by
 have b:(0:Int)≤(i:Nat)∧((i:Nat):Int)<rlen (fR d.fs):=⟨by omega,by simpa using a⟩
 have c:=flen hp a;refine dsyn1_nf ⟨b,b,_,_,_,Zao _ _ _ a,Cl.of (Ztc _ _ (by unfold FiD.len at c;omega)) ⟨_,rfl,Cl.of (Zo5 _ (by omega)) ⟨_,rfl,?_⟩⟩⟩;have:=Zxu d.fs[i].nm (d.fs[i].su++d.fs[i].lo);rw[show(d.fs[i].su++d.fs[i].lo).length=d.fs[i].len by simp[FiD.len]]at this;refine Cl.of this ⟨_,_,_,rfl,b,b,?_⟩;exact congrArg (λz=>[SL 3 z]) (set_eq hp a _ rfl)
def drem1_fn{i:Nat}(a:i<d.fs.length):Ct prog 176 OO [SL 3 (fR d.fs),.ref 0 [I (i:Nat)]] (λr=>r=[SL 3 (fR (wout FiD.nm d.fs d.fs[i].nm))]):=by
 have b:=hp.1.1;refine drem1_nf ?_;rw[waddN _ (by omega)];refine Cl.of (Zxo (fR d.fs) i (i+1) (by omega) (by simp;omega)) ⟨_,rfl,?_⟩;rw[Zjb hp.2.2.2 a];simp[List.map_take,List.map_drop]
def dcre1_fn(s:BA)(a:∀f∈d.fs,f.nm≠s):Ct prog 244 OO [SL 3 (fR d.fs),.ref 0 [S s]] (λr=>r=[SL 3 (fR (withB FiD.nm d.fs ⟨s,[],[]⟩))]):=by
 have b:=hp.1.1;refine dcre1_nf (Cl.of (Zxr d.fs hp.2.2.2 (by omega) ⟨s,[],[]⟩) ⟨_,rfl,?_⟩);rw[Zdx a]
def dcut1_fn{i:Nat}(a:i<d.fs.length)(n:Nat)(e:n≤d.fs[i].len):
  Ct prog 96 OO [SL 3 (fR d.fs),.ref 0 [I (i:Nat)],.ref 0 [S d.fs[i].nm],.ref 0 [I (n:Nat)]] (λr=>r=[SL 3 (fR (withB FiD.nm d.fs ⟨d.fs[i].nm,d.fs[i].su.take n,d.fs[i].lo.take (n-d.fs[i].su.length)⟩))]):=by
 have b:(0:Int)≤(i:Nat)∧((i:Nat):Int)<rlen (fR d.fs):=⟨by omega,by simpa using a⟩
 have c:=flen hp a;refine dcut1_nf ⟨b,b,_,_,_,Zao _ _ _ a,Cl.of (Ztc _ _ (by unfold FiD.len at c;omega)) ⟨_,rfl,⟨by omega,by omega,by simp[FiD.len]at e⊢;omega⟩,?_⟩⟩;rw[Zj7];have e1:List.drop (Int.toNat 0) (List.take ((n:Int)).toNat (d.fs[i].su++d.fs[i].lo))=d.fs[i].su.take n++d.fs[i].lo.take (n-d.fs[i].su.length):=(by simp[List.take_append]);have e2:imin (n:Int) (rlen (uR d.fs[i].su))=((d.fs[i].su.take n).length:Nat):=(by rw[imin_eq,rlen_eq,Zms,List.length_take];omega);rw[e1,e2];refine Cl.of (Zlg _ _ _) ⟨_,_,_,rfl,b,b,?_⟩;exact congrArg (λz=>[SL 3 z]) (set_eq hp a _ rfl)
end
section
variable(d:DiD)(h:d.ok)
include h
def Zn7(s:BA):Ct prog 32 {} [d.sv,S s] (λr=>r=[SL 1 (uR (Zf6 d s).1),I (Zf6 d s).2]):=by
 refine dread_nf (Cl.of (Zm5 d h s) ⟨_,rfl,Zaa (λa=>?_) (λa=>?_)⟩)
 ·simp at a;simp[Zf6,a]
 ·simp at a;have b:=(Zct.1 a).1;have g:=b.1.1;refine Cl.of (Zes d (by omega) s) ⟨_,rfl,?_⟩
  rcases d.get_cases s with⟨e1,e2,f⟩|⟨i,hi,e2,e1,f⟩
  ·rw[e2];refine Zaa (λ_=>by simp[Zf6,a,e1]) (λk=>by simp at k)
  ·rw[e2]
   have c:(0:Int)≤(i:Nat)∧((i:Nat):Int)<rlen (fR d.fs):=⟨by omega,by simpa using hi⟩
   have e:=flen b hi;refine Zaa (λk=>by simp at k) (λ_=>⟨c,_,_,_,Zao _ _ _ hi,c,_,_,_,Zao _ _ _ hi,Cl.of (Ztc _ _ (by unfold FiD.len at e;omega)) ⟨_,rfl,by simp[Zf6,a,e1]⟩⟩)
def Zw9(s:BA):Ct prog 168 {} [d.sv,S s] (λr=>r=[(Za9 d s).1.sv,I (Za9 d s).2]):=by
 refine Zxe (Cl.of (Zm5 d h s) ⟨_,rfl,Zaa (λa=>?_) (λa=>?_)⟩)
 ·simp at a;simp[Za9,a]
 ·simp at a;have b:=(Zct.1 a).1;have f:=b.1.1;refine Cl.of (Zes d (by omega) s) ⟨_,rfl,?_⟩
  rcases d.get_cases s with⟨e1,e2,c⟩|⟨i,hi,e2,e1,c⟩
  ·rw[e2];refine Zaa (λk=>by simp at k) (λ_=>Zaa (λk=>?_) (λk=>?_))
   ·have k:d.fs.length=64:=(by simp at k;omega);simp[Za9,a,e1,k]
   ·have k:¬d.fs.length=64:=λe=>by simp[e]at k
    refine Cl.of (Zds d (by omega) b.1.2.2.2 h.2.2 244 _ _ (λ_=>dcre1_fn b s c)) ⟨_,_,_,_,_,rfl,?_⟩;simp[Za9,a,e1,k]
  ·rw[e2];refine Zaa (λ_=>by simp[Za9,a,e1]) (λk=>by simp at k)
def Zxa(s:BA)(x:List UInt8)(l:x.length≤9223372036854775807):Ct prog 169 {} [d.sv,S s,SL 1 (uR x)] (λr=>r=[(Zau d s x).1.sv,I (Zau d s x).2]):=by
 refine Zxf (Cl.of (Zm5 d h s) ⟨_,rfl,Zaa (λa=>?_) (λa=>?_)⟩)
 ·simp at a;simp[Zau,a]
 ·simp at a;have b:=(Zct.1 a).1;have m:=b.1.1;refine Cl.of (Zes d (by omega) s) ⟨_,rfl,?_⟩
  rcases d.get_cases s with⟨e1,e2,c⟩|⟨i,hi,e2,e1,c⟩
  ·rw[e2];refine Zaa (λ_=>by simp[Zau,a,e1]) (λk=>by simp at k)
  ·rw[e2];refine Zaa (λk=>by simp at k) (λ_=>Cl.of (Zkh d h) ⟨_,rfl,?_⟩);have n:=b.2.1;have j:=b.1.2.2.1;have g:=b.1.2.1;rw[Zar (by omega) (by omega),rlen_eq,Zms];refine Zaa (λk=>?_) (λk=>?_)
   ·simp at k;simp[Zau,a,e1,k]
   ·simp at k;have e:¬d.rm-usedL d.fs<x.length:=(by omega);subst c;have f:=dapp1_fn b hi x (by omega);refine Cl.of (Zds d (by omega) b.1.2.2.2 h.2.2 246 _ _ (λ_=>f)) ⟨_,_,_,_,_,rfl,?_⟩;by_cases hz:d.st=0
    ·have:d.perf (withB FiD.nm d.fs ⟨d.fs[i].nm,d.fs[i].su,d.fs[i].lo++x⟩)=({d with dn:=true},16):=(by unfold DiD.perf;rw[if_pos hz]);rw[this];refine Zaa (λ_=>Cl.of (Zlh d.fs (by omega)) ⟨_,rfl,Cl.of f ⟨_,rfl,?_⟩⟩) (λk=>by simp at k);simp[Zau,a,e1,e,hz]
    ·have:d.perf (withB FiD.nm d.fs ⟨d.fs[i].nm,d.fs[i].su,d.fs[i].lo++x⟩)=({d.tick with fs:=withB FiD.nm d.fs ⟨d.fs[i].nm,d.fs[i].su,d.fs[i].lo++x⟩},0):=(by unfold DiD.perf;rw[if_neg hz]);rw[this];refine Zaa (λk=>by simp at k) (λ_=>?_);simp[Zau,a,e1,e,hz]
def dsync_fn(s:BA):Ct prog 151 {} [d.sv,S s] (λr=>r=[(Zaz d s).1.sv,I (Zaz d s).2]):=by
 refine dsync_nf (Cl.of (Zm5 d h s) ⟨_,rfl,Zaa (λa=>?_) (λa=>?_)⟩)
 ·simp at a;simp[Zaz,a]
 ·simp at a;have b:=(Zct.1 a).1;have e:=b.1.1;refine Cl.of (Zes d (by omega) s) ⟨_,rfl,?_⟩
  rcases d.get_cases s with⟨e1,e2,c⟩|⟨i,hi,e2,e1,c⟩
  ·rw[e2];refine Zaa (λ_=>by simp[Zaz,a,e1]) (λk=>by simp at k)
  ·rw[e2];subst c;refine Zaa (λk=>by simp at k) (λ_=>Cl.of (Zds d (by omega) b.1.2.2.2 h.2.2 221 _ _ (λ_=>dsyn1_fn b hi)) ⟨_,_,_,_,_,rfl,?_⟩);simp[Zaz,a,e1]
def Zz0(s:BA)(n:Int):Ct prog 33 {} [d.sv,S s,I n] (λr=>r=[(opCut d s n).1.sv,I (opCut d s n).2]):=by
 refine dcut_nf (Cl.of (Zm5 d h s) ⟨_,rfl,Zaa (λa=>?_) (λa=>?_)⟩)
 ·simp at a;simp[opCut,a]
 ·simp at a;have c:=(Zct.1 a).1;have l:=c.1.1;refine Cl.of (Zes d (by omega) s) ⟨_,rfl,?_⟩
  rcases d.get_cases s with⟨e1,e2,e⟩|⟨i,hi,e2,e1,e⟩
  ·rw[e2];refine Zaa (λ_=>by simp[opCut,a,e1]) (λk=>by simp at k)
  ·rw[e2];subst e
   have f:(0:Int)≤(i:Nat)∧((i:Nat):Int)<rlen (fR d.fs):=⟨by omega,by simpa using hi⟩
   have j:=flen c hi;refine Zaa (λk=>by simp at k) (λ_=>Zaa (λk=>?_) (λk=>⟨f,_,_,_,Zao _ _ _ hi,Cl.of (Zo5 _ (by omega)) ⟨_,rfl,Zaa (λb=>?_) (λb=>?_)⟩⟩))
   ·simp at k;refine Zaa (λ_=>by simp[opCut,a,e1,k]) (λb=>by simp at b)
   ·simp at b;simp[opCut,a,e1,b]
   ·simp at k b
    obtain⟨m,rfl⟩:∃m:Nat,n=m:=⟨n.toNat,by omega⟩
    have g:¬((m:Int)<0∨(d.fs[i].len:Int)<m):=(by omega);refine Cl.of (Zds d (by omega) c.1.2.2.2 h.2.2 96 _ _ (λ_=>dcut1_fn c hi m (by omega))) ⟨_,_,_,_,_,rfl,?_⟩;simp only[opCut,a,e1,ne_eq,not_true,if_false,g,Int.toNat_natCast]
def Zxb(s:BA):Ct prog 106 {} [d.sv,S s] (λr=>r=[(Za5 d s).1.sv,I (Za5 d s).2]):=by
 refine Zxg (Cl.of (Zm5 d h s) ⟨_,rfl,Zaa (λa=>?_) (λa=>?_)⟩)
 ·simp at a;simp[Za5,a]
 ·simp at a;have b:=(Zct.1 a).1;have e:=b.1.1;refine Cl.of (Zes d (by omega) s) ⟨_,rfl,?_⟩
  rcases d.get_cases s with⟨e1,e2,c⟩|⟨i,hi,e2,e1,c⟩
  ·rw[e2];refine Zaa (λ_=>by simp[Za5,a,e1]) (λk=>by simp at k)
  ·rw[e2];subst c;refine Zaa (λk=>by simp at k) (λ_=>Cl.of (Zds d (by omega) b.1.2.2.2 h.2.2 176 _ _ (λ_=>drem1_fn b hi)) ⟨_,_,_,_,_,rfl,?_⟩);simp[Za5,a,e1]
end
def stepQ(d:DiD):DiD×Bool:=if d.st=0 then({d with dn:=true},false)else(d.tick,true)
section
variable(d:DiD)(h:d.ok)
include h
end
def sne_u(a b:List UInt8):sne (bstr (uR a)) (bstr (uR b))=!decide (a=b):=by
 rw[sne_d];congr 1;rw[decide_eq_decide];exact bstr_inj
def qsame_fn(d e:DiD)(C:d.fs.length≤9223372036854775806):Ct prog 14 {} [d.sv,e.sv] (λr=>r=[B (decide (d=e))]):=by
 have no:¬d=e→[B false]=[B (decide (d=e))]:=λh=>by simp[h]
 refine qsame_nf _ _ _ _ _ _ _ _ _ (Zaa (λf=>no (λq=>?_)) (λf=>?_))
 ·subst q;simp at f
 ·simp at f;obtain⟨⟨⟨o,x⟩,hst⟩,A⟩:=f;have o:d.fs.length=e.fs.length:=(by omega);refine⟨λ_ y=>∃i:Nat,y=i∧i≤d.fs.length∧∀j:Nat,∀c:j<d.fs.length,j<i→d.fs[j]=e.fs[j]'(by omega),λ_ y=>d.fs.length-y.toNat,⟨0,rfl,by omega,λj _ c=>by omega⟩,?_⟩;rintro _ _ ⟨i,rfl,hi,hall⟩;refine Zaa (λk=>?_) (λk=>?_)
  ·have k:i<d.fs.length:=(by simpa using k);have t:i<e.fs.length:=(by omega);rw[waddN _ (by omega)]
   have u:d.fs[i]=e.fs[i]→∃m:Nat,((i+1:Nat):Int)=m∧m≤d.fs.length∧∀j:Nat,∀c:j<d.fs.length,j<m→d.fs[j]=e.fs[j]'(by omega):=λq=>
    ⟨i+1,rfl,by omega,λj c w=>by
     by_cases z:j=i
     ·subst z;exact q
     ·exact hall j c (by omega)⟩
   have ne:∀{p:Prop},¬d.fs[i]=e.fs[i]→[B false]=[B (decide (d=e))]:=λq=>no (λz=>q (by subst z;rfl));refine⟨⟨by omega,by simpa using k⟩,_,_,_,Zao _ _ _ k,⟨by omega,by simpa using t⟩,_,_,_,Zao _ _ _ t,?_⟩
   have s:ifB (sne d.fs[i].nm e.fs[i].nm) (ifB (bpick true true true) (ifB (bpick true true true) ([B false]=[B (decide (d=e))]) ((some [[SL 3 (fR e.fs),I e.rm,I e.st,B e.dn],[SL 3 (fR d.fs),I d.rm,I d.st,B d.dn]]=some [[SL 3 (fR e.fs),I e.rm,I e.st,B e.dn],[SL 3 (fR d.fs),I d.rm,I d.st,B d.dn]])∧(∃m:Nat,((i+1:Nat):Int)=m∧m≤d.fs.length∧∀j:Nat,∀c:j<d.fs.length,j<m→d.fs[j]=e.fs[j]'(by omega))∧Nat.le (Nat.succ (d.fs.length-((i+1:Nat):Int).toNat)) (d.fs.length-((i:Nat):Int).toNat))) (Zaq (uR d.fs[i].lo)∧Zaq (uR e.fs[i].lo)∧ifB (bpick false true (sne (bstr (uR d.fs[i].lo)) (bstr (uR e.fs[i].lo)))) ([B false]=[B (decide (d=e))]) ((some [[SL 3 (fR e.fs),I e.rm,I e.st,B e.dn],[SL 3 (fR d.fs),I d.rm,I d.st,B d.dn]]=some [[SL 3 (fR e.fs),I e.rm,I e.st,B e.dn],[SL 3 (fR d.fs),I d.rm,I d.st,B d.dn]])∧(∃m:Nat,((i+1:Nat):Int)=m∧m≤d.fs.length∧∀j:Nat,∀c:j<d.fs.length,j<m→d.fs[j]=e.fs[j]'(by omega))∧Nat.le (Nat.succ (d.fs.length-((i+1:Nat):Int).toNat)) (d.fs.length-((i:Nat):Int).toNat))))
     (Zaq (uR d.fs[i].su)∧Zaq (uR e.fs[i].su)∧ifB (bpick false true (sne (bstr (uR d.fs[i].su)) (bstr (uR e.fs[i].su)))) (ifB (bpick true true true) ([B false]=[B (decide (d=e))]) ((some [[SL 3 (fR e.fs),I e.rm,I e.st,B e.dn],[SL 3 (fR d.fs),I d.rm,I d.st,B d.dn]]=some [[SL 3 (fR e.fs),I e.rm,I e.st,B e.dn],[SL 3 (fR d.fs),I d.rm,I d.st,B d.dn]])∧(∃m:Nat,((i+1:Nat):Int)=m∧m≤d.fs.length∧∀j:Nat,∀c:j<d.fs.length,j<m→d.fs[j]=e.fs[j]'(by omega))∧Nat.le (Nat.succ (d.fs.length-((i+1:Nat):Int).toNat)) (d.fs.length-((i:Nat):Int).toNat))) (Zaq (uR d.fs[i].lo)∧Zaq (uR e.fs[i].lo)∧ifB (bpick false true (sne (bstr (uR d.fs[i].lo)) (bstr (uR e.fs[i].lo)))) ([B false]=[B (decide (d=e))]) ((some [[SL 3 (fR e.fs),I e.rm,I e.st,B e.dn],[SL 3 (fR d.fs),I d.rm,I d.st,B d.dn]]=some [[SL 3 (fR e.fs),I e.rm,I e.st,B e.dn],[SL 3 (fR d.fs),I d.rm,I d.st,B d.dn]])∧(∃m:Nat,((i+1:Nat):Int)=m∧m≤d.fs.length∧∀j:Nat,∀c:j<d.fs.length,j<m→d.fs[j]=e.fs[j]'(by omega))∧Nat.le (Nat.succ (d.fs.length-((i+1:Nat):Int).toNat)) (d.fs.length-((i:Nat):Int).toNat)))):=by
    have v:Nat.le (Nat.succ (d.fs.length-((i+1:Nat):Int).toNat)) (d.fs.length-((i:Nat):Int).toNat):=stepL (by simp;omega);rw[sne_d,sne_u,sne_u];refine Zaa (λg=>Zaa (λ_=>Zaa (λ_=>ne (p:=True) (λq=>?_)) (λz=>by simp at z)) (λz=>by simp at z)) (λg=>⟨Zhs _,Zhs _,Zaa (λl=>Zaa (λ_=>ne (p:=True) (λq=>?_)) (λz=>by simp at z)) (λl=>⟨Zhs _,Zhs _,Zaa (λn=>ne (p:=True) (λq=>?_)) (λn=>⟨rfl,u ?_,v⟩)⟩)⟩)
    ·simp at g;exact g (by rw[q])
    ·simp at l;exact l (by rw[q])
    ·simp at n;exact n (by rw[q])
    ·simp at g l n;generalize d.fs[i]=a at g l n;generalize e.fs[i]=b at g l n
     cases a;cases b;simp_all
   exact⟨s,s⟩
  ·have k:¬i<d.fs.length:=by simpa using k
   have:d=e:=by
    have E:d.fs=e.fs:=Yu o λj f D=>hall j f (by omega)
    cases d;cases e;simp_all
   simp[this]
end Dsk
namespace Snp
open Go Go.Px Go.Proofs  Tryz
abbrev dk4(rows:LL)(b a:Int)(c:Bool):SV:=.agg [SL 3 rows,I b,I a,B c]
abbrev st3(rows:LL)(s a:Int):SV:=.agg [SL 21 rows,I s,I a]
abbrev U32(n:Int):SV:=SV.int .u32 n
abbrev U16(n:Int):SV:=SV.int .u16 n
def SgT:FuncId→Sig:=(λf=>bif Nat.beq f 242 then⟨[],[.own]⟩else bif Nat.beq f 220 then⟨[],[.own]⟩else bif Nat.beq f 307 then⟨[],[.own]⟩else bif Nat.beq f 287 then⟨[],[.own]⟩else{})
def SvT:TypeId→Sig:=(λf=>{})
def nnum_nf{s:BA}{Q:QQ}(h:Cl prog 178 sP ([S s,S (bA [115,110,97,112,46])]) (λi=>∃c b,(i=[S c,B b])∧ifB (bpick (bnot b) true (ine (slen c) 10)) (Q [I 0,B false]) (∃e:Int→Bool→Int→Int→Prop,∃m:Int→Bool→Int→Int→Nat,(e 0 false 0 0)∧∀x g,∀d a,(e x g d a)→ifB (ilt a (slen c)) ((((0:Int)≤a)∧a<(slen c))∧ifB (ilt (sbyte c a) 48) (Q [I 0,B false]) ((((0:Int)≤a)∧a<(slen c))∧ifB (igt (sbyte c a) 57) (Q [I 0,B false]) ((((0:Int)≤a)∧a<(slen c))∧((Option.some []:Option LL)=Option.some [])∧(e x g (wadd .i64 (wmul .i64 d 10) (wcv .i64 (wsub .u8 (sbyte c a) 48))) (wadd .i64 a 1))∧Nat.le (Nat.succ (m x g (wadd .i64 (wmul .i64 d 10) (wcv .i64 (wsub .u8 (sbyte c a) 48))) (wadd .i64 a 1))) (m x g d a)))) (ifB (igt d 4294967296) (Q [I 0,B false]) (Q [I d,B true]))))):Ct prog 108 {} [S s] Q:=
 fN SgT SvT func108 h
def ndec_nf{rows:LL}{Q:QQ}(h:Cl prog 243 sP [] (λn=>∃a,(n=[SV.arr .u32 256 a])∧Cl prog 257 sP [SV.arr .u32 256 a,SL 1 rows] (λc=>∃l x,(c=[SL 1 l,I x])∧ifB (ine x 0) (Q ([SV.agg ([SL 21 [],I 0,I 0]),I x])) ((0<(rlen ([[U8 102],[U8 98],[U8 115],[U8 49]])))∧Cl prog 258 sP ([SL 1 l,SL 1 ([[U8 102],[U8 98],[U8 115],[U8 49]])]) (λd=>∃g b,(d=[SL 1 g,B b])∧ifB (bnot b) (Q ([SV.agg ([SL 21 [],I 0,I 0]),I 11])) (Cl prog 259 sP [SL 1 g] (λe=>∃i j,∃k m,(e=[SV.agg [SL 21 i,I j,I k],I m])∧ifB (ine m 0) (Q ([SV.agg ([SL 21 [],I 0,I 0]),I 11])) (Q ([SV.agg [SL 21 i,I j,I k],I 0]))))))))):Ct prog 182 {} [SL 1 rows] Q:=
 fN SgT SvT func182 h
def nnew_nf{rows:LL}{d a:Int}{c:Bool}{Q:QQ}(h:Cl prog 46 sP ([SV.agg [SL 3 rows,I d,I a,B c]]) (λC=>∃b,(C=[B b])∧ifB (bnot b) (Q ([SV.agg ([SL 21 [],I 0,I 0]),I 1])) (ifB c (Q ([SV.agg ([SL 21 [],I 0,I 0]),I 16])) (Cl prog 107 sP ([SV.agg [SL 3 rows,I d,I a,B c]]) (λr=>∃l,(r=[SL 1 l])∧∃j:Int→LL→Int→Int→Prop,∃m:Int→LL→Int→Int→Nat,(j 0 [] ((-1:Int)) 0)∧∀x g,∀e i,(j x g e i)→ifB (ilt x (rlen l)) ((((0:Int)≤x)∧x<(rlen l))∧∃s,(rget l x=[S s])∧Cl prog 108 sP [S s] (λt=>∃o w,(t=[I o,B w])∧ifB (bpick (bnot w) true (ile o e)) ((Sm (some ([[SL 3 rows,I d,I a,B c],[SV.slice 21 [] 1,I 0,I 0]])))∧(j (wadd .i64 x 1) g e i)∧Nat.le (Nat.succ (m (wadd .i64 x 1) g e i)) (m x g e i)) (Cl prog 32 sP ([SV.agg [SL 3 rows,I d,I a,B c],S s]) (λu=>∃y z,(u=[SL 1 y,I z])∧ifB (ine z 0) ((Sm (some ([[SL 3 rows,I d,I a,B c],[SV.slice 21 [] 1,I 0,I 0]])))∧(j (wadd .i64 x 1) g e i)∧Nat.le (Nat.succ (m (wadd .i64 x 1) g e i)) (m x g e i)) (Cl prog 182 sP [SL 1 y] (λv=>∃p n,∃q A,(v=[SV.agg [SL 21 p,I n,I q],I A])∧ifB (bpick (ieq A 0) (ieq n o) false) ((Sm (some ([[SL 3 rows,I d,I a,B c],[SV.slice 21 [] 1,I 0,I 0]])))∧(j (wadd .i64 x 1) p n q)∧Nat.le (Nat.succ (m (wadd .i64 x 1) p n q)) (m x g e i)) ((Sm (some ([[SL 3 rows,I d,I a,B c],[SV.slice 21 [] 1,I 0,I 0]])))∧(j (wadd .i64 x 1) g e i)∧Nat.le (Nat.succ (m (wadd .i64 x 1) g e i)) (m x g e i)))))))) (ifB (ilt e 0) (Q ([SV.agg ([SL 21 [],I 0,I 0]),I 14])) (Q ([SV.agg [SL 21 g,I e,I i],I 0])))))))):Ct prog 113 {} [dk4 rows d a c] Q:=
 fO SgT SvT (λk=>bif Nat.beq k 24 then some {slots:=[(23,false,[.int .i64])],boxes:=[(512,[.sl 21,.int .i64,.int .i64])],fixed:=[128,256]}else none) func113 h
def Zt5{s t:BA}{Q:QQ}(h:Cl prog 252 sP [S s,S t] (λc=>∃a b,(c=[S a,B b])∧Q [S a,B b])):Ct prog 178 {} [S s,S t] Q:=
 fN SgT SvT func178 h
def Zp1(s t:BA)(Q:QQ)(h:Cl prog 295 sP [S s,S t] (λa=>∃b,(a=[B b])∧ifB (bnot b) (Q [S s,B false]) ((((0:Int)≤(slen t))∧((slen t)≤(slen s))∧(slen s)≤(slen s))∧Q [S (ssub s (slen t) (slen s)),B true]))):Ct prog 252 {} [S s,S t] Q:=
 fN SgT SvT func252 h
end Snp
namespace Snp
open Go Go.Px Go.Proofs Cod Seg Sgr Sx Row Tryz
abbrev pre:List UInt8:=[115,110,97,112,46]
def snNm(q:Int):BA:=⟨(pre++dgs 10 q.toNat).toArray⟩
def inQ(q:Int):Prop:=0≤q∧q≤4294967296
instance (q:Int):Decidable (inQ q):=inferInstanceAs (Decidable (_∧_))
def isD(c:UInt8):Prop:=48≤c.toNat∧c.toNat≤57
def vD(l:List UInt8):Nat:=l.foldl (λn c=>10*n+(c.toNat-48)) 0
def Zto(l:List UInt8)(c:UInt8):vD (l++[c])=10*vD l+(c.toNat-48):=by simp[vD]
def Ztp:∀(k n:Nat),∀c∈dgs k n,isD c
 |0,_,c,h=>by cases h
 |k+1,n,c,h=>by
  rw[dgs,List.mem_append]at h
  rcases h with h|h
  ·exact Ztp k _ c h
  ·simp at h;subst h;unfold isD;rw[show(48:UInt8)+UInt8.ofNat (n%10)=UInt8.ofNat (48+n%10) by simp];have:(UInt8.ofNat (48+n%10)).toNat=48+n%10:=by simp[UInt8.toNat_ofNat'];omega
   omega
def Zre:∀(k n:Nat),n<10^k→vD (dgs k n)=n
 |0,n,h=>by simp at h;subst h;rfl
 |k+1,n,h=>by have e:(UInt8.ofNat (48+n%10)).toNat=48+n%10:=(by simp[UInt8.toNat_ofNat'];omega);rw[dgs,Zto,Zre k (n/10) (by rw[Nat.pow_succ]at h;omega),e];omega
def dgs_vDr:∀(r:List UInt8),(∀c∈r,isD c)→dgs r.length (vD r.reverse)=r.reverse∧vD r.reverse<10^r.length
 | [],_=>⟨rfl,by decide⟩
 |c::r,h=>by
  obtain⟨b,e⟩:=dgs_vDr r λx a=>h x (by simp[a]);have d:=h c (by simp);unfold isD at d;rw[List.reverse_cons,Zto,List.length_cons];constructor
  ·rw[dgs,show(10*vD r.reverse+(c.toNat-48))/10=vD r.reverse by omega,b,show(10*vD r.reverse+(c.toNat-48))%10=c.toNat-48 by omega,show 48+(c.toNat-48)=c.toNat by omega,UInt8.ofNat_toNat]
  ·rw[Nat.pow_succ];omega
def dgs_vD(l:List UInt8)(h:∀c∈l,isD c):dgs l.length (vD l)=l∧vD l<10^l.length:=by
 have:=dgs_vDr l.reverse λc a=>h c (by simpa using a)
 simpa using this
def Zwc{a b:Int}(c:inQ a)(d:inQ b)(h:snNm a=snNm b):a=b:=by
 have e:(pre++dgs 10 a.toNat)=pre++dgs 10 b.toNat:=by
  have:=congrArg (λs:BA=>s.data.toList) h
  simpa[snNm]using this
 have f:=congrArg vD (List.append_cancel_left e);unfold inQ at c d;rw[Zre 10 _ (by omega),Zre 10 _ (by omega)]at f;omega
def NumR(s:BA)(n:Int)(b:Bool):Prop:=(∃q,inQ q∧s=snNm q∧n=q∧b=true)∨((∀q,inQ q→s≠snNm q)∧n=0∧b=false)
def NumR.eq{s:BA}{n m:Int}{b c:Bool}(h:NumR s n b)(k:NumR s m c):n=m∧b=c:=by
 rcases h with⟨q,a,e,rfl,rfl⟩|⟨a,rfl,rfl⟩<;>rcases k with⟨p,d,f,rfl,rfl⟩|⟨d,rfl,rfl⟩
 ·exact⟨Zwc a d (e.symm.trans f),rfl⟩
 ·exact absurd e (d _ a)
 ·exact absurd f (a _ d)
 ·exact⟨rfl,rfl⟩
def NumR.no{s:BA}(h:∀q,inQ q→s≠snNm q):NumR s 0 false:=.inr ⟨h,rfl,rfl⟩
def Ze1(q:Int):(snNm q).data.toList=pre++dgs 10 q.toNat:=by simp[snNm]
def Zwd{s:BA}{i:Nat}(c:i+5<s.data.toList.length)(h:¬isD (s.data.toList[i+5])):∀q,inQ q→s≠snNm q:=by
 rintro q d rfl;apply h;have a:=Ze1 q;have b:(snNm q).data.toList.length=15:=by rw[a];simp[Zdn]
 have:(snNm q).data.toList[i+5]=(dgs 10 q.toNat)[i]'(by rw[Zdn];omega):=(by simp only[a];rw[WG (by simp)];simp);rw[this];exact Ztp _ _ _ (List.getElem_mem _)
structure Dig(s:BA)(i:Nat)(n:Int):Prop where
 len:s.data.toList.length=15
 pre:s.data.toList.take 5=pre
 ds:∀j (h:j<i) (h2:i≤10),isD (s.data.toList[j+5]'(by omega))
 val:n=(vD ((s.data.toList.drop 5).take i):Nat)
def Dig.step{s:BA}{i:Nat}{n:Int}(h:Dig s i n)(d:i<10)(a:isD (s.data.toList[i+5]'(by have:=h.len;omega))):Dig s (i+1) (10*n+((s.data.toList[i+5]'(by have:=h.len;omega)).toNat-48)):=by
 have c:=h.len;refine⟨h.len,h.pre,λj f g=>?_,?_⟩
 ·by_cases e:j=i
  ·subst e;exact a
  ·exact h.ds j (by omega) (by omega)
 ·have b:i<(s.data.toList.drop 5).length:=(by simp at c⊢;omega);rw[List.take_succ_eq_append_getElem b,Zto];have k:=h.val;unfold isD at a;have e:(s.data.toList.drop 5)[i]=s.data.toList[i+5]'(by omega):=(by rw[List.getElem_drop];congr 1;omega);rw[e];omega
def vD_lt(l:List UInt8)(h:∀c∈l,isD c):vD l<10^l.length:=(dgs_vD l h).2
def Dig.lt{s:BA}{i:Nat}{n:Int}(h:Dig s i n)(d:i≤10):0≤n∧n<10000000000:=by
 have l:=h.len
 have g:∀c∈(s.data.toList.drop 5).take i,isD c:=by
  intro c f;obtain⟨j,a,e⟩:=YX f;have b:j<i:=by simp at a;omega
  have:=h.ds j b d;rw[List.getElem_take,List.getElem_drop]at e;rw[←e];have e2:s.data.toList[5+j]'(by simp at a;omega)=s.data.toList[j+5]'(by omega):=(by congr 1;omega);rw[e2];exact this
 have m:=vD_lt _ g;have k:((s.data.toList.drop 5).take i).length≤10:=(by simp;omega);have o:10^((s.data.toList.drop 5).take i).length≤10^10:=Nat.pow_le_pow_right (by omega) k;have:=h.val;have p:(10:Nat)^10=10000000000:=(by decide);omega
def Dig.done{s:BA}{n:Int}(h:Dig s 10 n):s=snNm n:=by
 have a:=h.len
 have m:∀c∈s.data.toList.drop 5,isD c:=by
  intro c k;obtain⟨j,l,e⟩:=YX k;have d:j<10:=by simp at l a;omega
  have:=h.ds j d (by omega);rw[List.getElem_drop]at e;rw[←e];have e2:s.data.toList[5+j]'(by omega)=s.data.toList[j+5]'(by omega):=(by congr 1;omega);rw[e2];exact this
 obtain⟨b,o⟩:=dgs_vD _ m;have f:=h.val;have g:(s.data.toList.drop 5).take 10=s.data.toList.drop 5:=List.take_of_length_le (by simp at a⊢;omega);rw[g]at f;have i:(s.data.toList.drop 5).length=10:=by simp at a⊢;omega
 rw[i]at b;have e:s.data.toList=Snp.pre++dgs 10 n.toNat:=(by rw[f,Int.toNat_natCast,b,←h.pre,List.take_append_drop]);exact(Zev _ _).1 (by rw[ByteArray.toList_eq,ByteArray.toList_eq,Ze1,e])

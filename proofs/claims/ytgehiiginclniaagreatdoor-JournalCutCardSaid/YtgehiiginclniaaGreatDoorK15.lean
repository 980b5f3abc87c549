import Derived.Test.YtgehiiginclniaaGreatDoorK14
set_option linter.all false
set_option maxRecDepth 100000
namespace Go.Proofs.YtgehiiginclniaaGreatDoor
namespace Jou
open Go Go.Px Go.Proofs Cod Tryz
abbrev en0(r:List SV)(K:LL→Int→Int→Bool→Int→Int→LL→Int→Int→LL→LL→Int→Int→Int→Int→Bool→Int→Prop):Prop:=∃h:LL,∃i:Int,∃j:Int,∃k:Bool,∃l:Int,∃m:Int,∃n:LL,∃o:Int,∃p:Int,∃q:LL,∃a:LL,∃b:Int,∃c:Int,∃d:Int,∃e:Int,∃f:Bool,∃g:Int,(r=[jr16 h i j k l m n o p q a b c d e f,I g])∧K h i j k l m n o p q a b c d e f g
abbrev en1(r:List SV)(K:LL→Prop):Prop:=∃a:LL,(r=[SL 7 a])∧K a
abbrev en2(r:List SV)(K:Int→Int→Int→BA→Int→Int→Int→Prop):Prop:=∃a:Int,∃b:Int,∃c:Int,∃d:BA,∃e:Int,∃f:Int,∃g:Int,(r=[I a,I b,I c,S d,I e,I f,I g])∧K a b c d e f g
abbrev en3(r:List SV)(K:Int→Int→Int→Int→Int→Int→Bool→Prop):Prop:=∃a:Int,∃b:Int,∃c:Int,∃d:Int,∃e:Int,∃f:Int,∃g:Bool,(r=[I a,I b,I c,I d,I e,I f,B g])∧K a b c d e f g
abbrev en4(r:List SV)(K:Bool→Prop):Prop:=∃a:Bool,(r=[B a])∧K a
abbrev en5(r:List SV)(K:BA→Prop):Prop:=∃a:BA,(r=[S a])∧K a
abbrev en6(r:List SV)(K:LL→Int→Int→Bool→Int→Prop):Prop:=∃a:LL,∃b:Int,∃c:Int,∃d:Bool,∃e:Int,(r=[dk4 a b c d,I e])∧K a b c d e
def Zzt{Q:QQ}(h:Cl prog 13 sP ([dk4 [] 900 ((-1:Int)) false,SV.agg [I 64,I 99]]) (λrs=>en0 rs λl x x1 b x2 x3 l1 x4 x5 l2 l3 x6 x7 x8 x9 b1 w=>(Cl prog 20 sP ([jr16 l x x1 b x2 x3 l1 x4 x5 l2 l3 x6 x7 x8 x9 b1,ev7 0 3 1 (bA [98]) 1 0 0]) (λy=>en0 y λl4 z A b2 C D l5 E F l6 l7 G H J K b3 L=>(Cl prog 22 sP ([jr16 l4 z A b2 C D l5 E F l6 l7 G H J K b3]) (λM=>en0 M λl8 N O b4 P R l9 T U V W X Y Z a0 b5 a1=>(Cl prog 20 sP ([jr16 l8 N O b4 P R l9 T U V W X Y Z a0 b5,ev7 0 4 3 (bA [98]) 1 9 0]) (λa2=>en0 a2 λa3 a4 a5 b6 a6 a7 a8 a9 aa ab ac ad ae af ag b7 ah=>(Cl prog 20 sP ([jr16 a3 a4 a5 b6 a6 a7 a8 a9 aa ab ac ad ae af ag b7,ev7 0 4 3 (bA [98]) 1 900000 0]) (λai=>en0 ai λaj ak al b8 am an ao ap aq ar au av aw ax ay b9 az=>(Cl prog 20 sP ([jr16 aj ak al b8 am an ao ap aq ar au av aw ax ay b9,ev7 0 4 3 (bA [98]) 1 9 0]) (λb0=>en0 b0 λg i j k m n a o p q r c t d u v ba=>(Cl prog 15 sP ([jr16 g i j k m n a o p q r c t d u v]) (λbb=>en1 bb λe=>(ifB (bpick (bpick (bpick (bpick (bpick (bpick (ieq w 0) (ieq L 0) false) (ieq a1 0) false) (ieq ah 0) false) (ieq az 0) false) (ieq ba 0) false) (ieq (rlen e) 4) false) ((inR 3 e)∧en2 (rget e 3) λbc bg bh s bi bj bk=>(ifB (bpick (ieq bc 4) (igt (rlen a) 1) false) ((inR 0 a)∧en3 (rget a 0) λbl bm bn bo bp bq bd=>(ifB (bpick (bpick bd (ige d 1) false) (ieq c 4) false) (Cl prog 17 sP ([jr16 g i j k m n a o p q r c t d u v]) (λbe=>en4 be λbf=>(Q [B bf]))) (Q [B false]))) (Q [B false]))) (Q [B false])))))))))))))))):Ct prog 10 {} [] Q:=
 fN SgT SvT func10 h
end Jou
namespace Jou
open Go Go.Px Go.Proofs Cod Seg Sgr Snp Sx Row Tryz
def ok_of{j:JoD}(h:RightJ j)(hst:j.dk.st≤9223372036854775807):j.ok:=by
 have F:=h.fct;have L:=lim_P F.st;have b:j.cx.m.length≤32:=(Zdd.1 (Zbg.1 F.cx).2).1;have d:=h.dk.2.1;have e:=h.dk.1.2.2.1;have f:=F.fs;have g:=F.len;exact⟨⟨by omega,by omega,hst⟩,by omega,by omega,by have:=L.1;omega,λc a=>by have:=L.2 c a;omega⟩
def Zvg{j:JoD}(a:RightJ j)(e:Cod.EvD):appP j e=appQ j e:=by unfold appP;rw[if_neg (by rw[Zcg.2 a];simp)]
def synJ_q{j:JoD}(a:RightJ j):synJ j=synQ j:=by unfold synJ;rw[if_neg (by rw[Zcg.2 a];simp)]
abbrev wD:DiD:=⟨[],900,-1,false⟩
abbrev wA0:JoD:=⟨wD,64,99,[],⟨0,0,[]⟩,st0,0,0,false⟩
abbrev wE(a k y:Int):Cod.EvD:=⟨0,a,k,⟨#[98]⟩,1,y,0⟩
def wA1:=(appQ wA0 (wE 3 1 0)).1
def wA2:=(synQ wA1).1
def wA3:=(appQ wA2 (wE 4 3 9)).1
def wA4:=(appQ wA3 (wE 4 3 900000)).1
def wA5:=(appQ wA4 (wE 4 3 9)).1
def w_ok:((appQ wA0 (wE 3 1 0)).2=0∧(synQ wA1).2=0∧(appQ wA2 (wE 4 3 9)).2=0)∧((appQ wA3 (wE 4 3 900000)).2=0∧(appQ wA4 (wE 4 3 9)).2=0)∧((wA1.dk.st= -1∧wA2.dk.st= -1∧wA3.dk.st= -1∧wA4.dk.st= -1∧wA5.dk.st= -1)∧wA5.st.q=4∧1≤wA5.sure∧1<wA5.sg.length∧(wA5.sg.head?.map (·.sl))=some true)∧(evN wA4 (wE 4 3 9)).k=3∧((evN wA0 (wE 3 1 0)).s=1∧(evN wA2 (wE 4 3 9)).s=2∧(evN wA3 (wE 4 3 900000)).s=3∧(evN wA4 (wE 4 3 9)).s=4):=by decide+kernel
def dk_nil:DkR [] []:=⟨by simp[Go.Px.srt],rfl,by simp[inRow],by simp⟩
def new_nil:newF []=none:=Zpt (by simp[Go.Px.srt]) (λf a=>by obtain⟨_,h,_⟩:=a;cases h)
def w_open:openP wD 64 99=(wA0,0)∧evsJ wA0=[]:=by
 have b:rowK wD.fs=([],[]):=Zcq dk_nil;have c:keptF wD.fs=0:=(by unfold keptF;rw[show wD.fs=[]from rfl,new_nil]);have f:baseF wD.fs=st0:=(by unfold baseF;rw[show wD.fs=[]from rfl,new_nil]);have g:GoodR (rowK wD.fs).1 (keptF wD.fs) (baseF wD.fs):=(by rw[b,c,f];exact⟨λp a=>(by cases a),λp a=>(by cases a),by decide,λp a=>(by cases a)⟩);have h:menD wD=(wD,0):=(by unfold menD;rw[b];rfl);have i:stR (rowK wD.fs).1 (keptF wD.fs) (baseF wD.fs)=st0:=(by rw[b,c,f];rfl);have e:=Zrs (d:=wD) (cb:=64) (cg:=99) (by decide) (by unfold mayC;omega) rfl g h;have j:anewJ wD 64 99 (stR (rowK wD.fs).1 (keptF wD.fs) (baseF wD.fs)).q false=wA0:=(by unfold anewJ;rw[i,c,b];rfl);rw[j]at e;refine⟨e,?_⟩;rw[Zgg (Znz e).right];rfl
def jawake_fn:Ct prog 10 {} [] (λr=>r=[B true]):=by
 obtain⟨⟨j,m,n⟩,⟨o,q⟩,⟨⟨u,v,w,s4,x⟩,y,J,s,a⟩,z,e1,e2,K,L⟩:=w_ok;have h:=(Znz w_open.1).right;have b:=Zim h (k:=wA1) (Yz rfl j);obtain⟨f,_,A,_⟩:=Zpz b.right (k:=wA2) (Yz rfl m);have c:=Zim f (k:=wA3) (Yz rfl n);have d:=Zim c.right (k:=wA4) (Yz rfl o);have i:=Zim d.right (k:=wA5) (Yz rfl q);have C:evsJ wA5=[evN wA0 (wE 3 1 0),evN wA2 (wE 4 3 9),evN wA3 (wE 4 3 900000),evN wA4 (wE 4 3 9)]:=(by rw[i.ev,d.ev,c.ev,A,b.ev,w_open.2];rfl);have D:appP wA0 (wE 3 1 0)=(wA1,0):=(by rw[Zvg h];exact Yz rfl j);have E:synJ wA1=(wA2,0):=(by rw[synJ_q b.right];exact Yz rfl m);have F:appP wA2 (wE 4 3 9)=(wA3,0):=(by rw[Zvg f];exact Yz rfl n);have G:appP wA3 (wE 4 3 900000)=(wA4,0):=(by rw[Zvg c.right];exact Yz rfl o);have H:appP wA4 (wE 4 3 9)=(wA5,0):=(by rw[Zvg d.right];exact Yz rfl q);have e:=ok_of i.right (by rw[x];decide);refine Zzt (Cl.of (Zn1 wD ⟨by decide,by decide,by decide⟩ 64 99) ?_);rw[w_open.1];refine⟨_,_,_,_,_,_,_,_,_,_,_,_,_,_,_,_,_,rfl,Cl.of (Zls wA0 (ok_of h (by decide)) (wE 3 1 0) (by decide)) ?_⟩;rw[D];refine⟨_,_,_,_,_,_,_,_,_,_,_,_,_,_,_,_,_,rfl,Cl.of (jsyn_fn wA1 (ok_of b.right (by rw[u];decide))) ?_⟩;rw[E];refine⟨_,_,_,_,_,_,_,_,_,_,_,_,_,_,_,_,_,rfl,Cl.of (Zls wA2 (ok_of f (by rw[v];decide)) (wE 4 3 9) (by decide)) ?_⟩;rw[F];refine⟨_,_,_,_,_,_,_,_,_,_,_,_,_,_,_,_,_,rfl,Cl.of (Zls wA3 (ok_of c.right (by rw[w];decide)) (wE 4 3 900000) (by decide)) ?_⟩;rw[G];refine⟨_,_,_,_,_,_,_,_,_,_,_,_,_,_,_,_,_,rfl,Cl.of (Zls wA4 (ok_of d.right (by rw[s4];decide)) (wE 4 3 9) (by decide)) ?_⟩;rw[H];refine⟨_,_,_,_,_,_,_,_,_,_,_,_,_,_,_,_,_,rfl,Cl.of (Zi0 wA5 e) ⟨_,rfl,?_⟩⟩;rw[C];have t:∀l:List SgD,rlen (sgR l)=l.length:=λl=>by simp
 refine Zaa (λ_=>⟨⟨by omega,by simp⟩,_,_,_,_,_,_,_,rfl,?_⟩) (λg=>by simp at g)
 obtain⟨p,l,hsg⟩:∃p l,wA5.sg=p::l:=by
  cases hw:wA5.sg with
  |nil=>rw[hw]at s;simp at s
  |cons p l=>exact⟨p,l,rfl⟩
 have a:p.sl=true:=(by rw[hsg]at a;simpa using a);refine Zaa (λ_=>⟨⟨by omega,by dsimp only;rw[t];omega⟩,p.num,p.fi,p.la,p.fr,p.ti,p.sz,p.sl,by dsimp only;rw[hsg];rfl,?_⟩) (λg=>?_)
 ·refine Zaa (λ_=>Cl.of (Zft wA5 e) ⟨_,rfl,?_⟩) (λg=>?_)
  ·rw[Zd7.2 i.right]
  ·exfalso
   dsimp only at g
   rw[y]at g;simp[a]at g;omega
 ·exfalso
  dsimp only at g
  rw[t]at g;simp[z]at g;omega
end Jou
namespace Jou
open Go Go.Px Go.Proofs Cod Seg Sgr Snp Sx Row Dsk Tryz
def DiD.Sz(d:DiD):Prop:=d.fs.length≤140737488351232∧(∀f∈d.fs,f.su.length≤140737488351232∧f.lo.length≤140737488351232)∧d.st≤9223372036854775807
def Sz.ok{d:DiD}(h:DiD.Sz d)(i:d.fs.length≤70):d.ok:=by
 obtain⟨_,c,e⟩:=h
 have:∀l:List FiD,(∀f∈l,f.su.length≤140737488351232∧f.lo.length≤140737488351232)→usedL l≤l.length*281474976702464:=by
  intro l
  induction l with
  |nil=>intro _;simp[usedL]
  |cons a l g=>intro h;have:=g (λf b=>h f (by simp[b]));have:=h a (by simp);rw[Zdk];simp only[FiD.len,List.length_cons];omega
 have:=this d.fs c;exact⟨by omega,by omega,e⟩
deriving instance DecidableEq for JoD
end Jou
namespace Jou
open Go Go.Px Go.Proofs Cod Seg Sgr Snp Sx Row Tryz
def effW(l:List FiD):Stp→List FiD
 | .cre s=>withB FiD.nm l ⟨s,[],[]⟩
 | .wri s x=>match l.find? (λf=>decide (f.nm=s))with|none=>l|some f=>withB FiD.nm l ⟨s,f.su,f.lo++x⟩
 | .syn s=>match l.find? (λf=>decide (f.nm=s))with|none=>l|some f=>withB FiD.nm l ⟨s,f.su++f.lo,[]⟩
 |_=>l
def effL(l:List FiD)(p:List Stp):List FiD:=p.foldl effW l
def Nms(d:DiD)(N:List BA):Prop:=(∀s,s∈N↔∃f∈d.fs,f.nm=s)∧N.length=d.fs.length
def nms(d:DiD):Nms d (d.fs.map FiD.nm):=⟨λs=>by simp,by simp⟩
def Zt8{d:DiD}{s:BA}(h:∃f∈d.fs,f.nm=s):∃i,∃a:i<d.fs.length,d.get s=some d.fs[i]∧d.fs[i].nm=s:=by
 rcases d.get_cases s with⟨b,c,g⟩|⟨i,a,_,b,c⟩
 ·obtain⟨f,j,e⟩:=h;exact absurd e (g f j)
 ·exact⟨i,a,b,c⟩
def can(a:Int):List BA→Nat→List Stp→Prop
 |_,_,[]=>True
 |N,u,.wri s x::l=>fnB s=true∧s∈N∧(u:Int)+x.length≤a∧can a N (u+x.length) l
 |N,u,.syn s::l=>fnB s=true∧s∈N∧can a N u l
 |N,u,.cre s::l=>fnB s=true∧s∉N∧N.length<64∧numS s≠0∧can a (s::N) u l
 |_,_,.rem _::_=>False
 |_,_,.cut _ _::_=>False
structure Ends(d:DiD)(l:List Stp)(d':DiD)(c:Int):Prop where
 run:runP d l=(d',c)
 P:d'.P
 rm:d'.rm=d.rm
 nm:(∀f∈d.fs,numS f.nm≠0)→∀f∈d'.fs,numS f.nm≠0
 how:(c=0∧d'.dn=false∧d'.fs=effL d.fs l∧(d.st= -1→d'.st= -1))∨(c=16∧d.st≠-1∧d'.dn=true∧∃p,p<+:l∧d'.fs=effL d.fs p)
def Zkq{s:Stp}{l:List Stp}{d:DiD}{x:Int}(r:d.st=0→∃a,s.run d=(a,16)∧a.P∧a.dn=true∧a.rm=d.rm∧(a.fs=d.fs∨a.fs=effW d.fs s))
  (u:d.st≠0→s.run d=({d.tick with fs:=effW d.fs s},0)∧({d.tick with fs:=effW d.fs s}:DiD).P) (z:d.dn=false) (m:(∀f∈d.fs,numS f.nm≠0)→∀f∈effW d.fs s,numS f.nm≠0)
  (v:({d.tick with fs:=effW d.fs s}:DiD).P→∃a c,Ends {d.tick with fs:=effW d.fs s} l a c):∃a c,Ends d (s::l) a c:=by
 by_cases hs:d.st=0
 ·obtain⟨a,b,g,w,y,n⟩:=r hs;refine⟨a,16,⟨by rw[runP,b,if_pos (show(16:Int)≠0 by decide)],g,y,λq=>?_,.inr ⟨rfl,by rw[hs];decide,w,?_⟩⟩⟩
  ·rcases n with e|e
   ·rw[e];exact q
   ·rw[e];exact m q
  ·rcases n with e|e
   ·exact⟨[],YN,e⟩
   ·exact⟨[s],⟨l,rfl⟩,e⟩
 ·obtain⟨b,g⟩:=u hs;obtain⟨a,c,E⟩:=v g;have o:d.st= -1↔d.tick.st= -1:=by unfold DiD.tick;dsimp only;split<;>omega
  refine⟨a,c,⟨by rw[runP,b,if_neg (by simp)];exact E.run,E.P,E.rm,λq=>E.nm (m q),?_⟩⟩
  rcases E.how with⟨h,i,j,k⟩|⟨h,i,j,p,k,a5⟩
  ·exact .inl ⟨h,i,j,λq=>k (o.1 q)⟩
  ·refine .inr ⟨h,λq=>i (o.1 q),j,s::p,?_,a5⟩;obtain⟨t,e⟩:=k;exact⟨t,by rw[←e];rfl⟩
def Ziy:∀(l:List Stp) {d:DiD} {N:List BA},d.P→d.dn=false→Nms d N→can d.rm N (usedL d.fs) l→∃y c,Ends d l y c
 | [],d,N,h,hd,hN,hc=>⟨d,0,rfl,h,rfl,λh=>h,.inl ⟨rfl,hd,rfl,λh=>h⟩⟩
 | .wri s x::l,d,N,h,hd,hN,⟨hf,hs,hr,hc⟩=>by
  obtain⟨i,n,j,o⟩:=Zt8 ((hN.1 s).1 hs);have b:=Zi7 (s:=s) (x:=x) h;have k:effW d.fs (.wri s x)=withB FiD.nm d.fs ⟨s,d.fs[i].su,d.fs[i].lo++x⟩:=by show(match d.get s with|none=>_|some f=>_)=_;rw[j]
  have e:Zau d s x=if d.st=0 then({d with dn:=true,fs:=effW d.fs (.wri s x)},16)else({d.tick with fs:=effW d.fs (.wri s x)},0):=by
   unfold Zau;rw[er_of h hd hf hf,if_neg (by simp),j,k]
   dsimp only
   rw[if_neg (by omega)]
  rw[e]at b;have u:=Zdw (f:=⟨s,d.fs[i].su,d.fs[i].lo++x⟩) h.2.2.2 n o.symm;have v:=Zb1 (nm:=FiD.nm) (f:=⟨s,d.fs[i].su,d.fs[i].lo++x⟩) h.2.2.2 n o.symm;have p:usedL (effW d.fs (.wri s x))=usedL d.fs+x.length:=(by rw[k];simp only[FiD.len,List.length_append]at u;omega);refine Zkq (x:=0) (λm=>?_) (λm=>?_) hd (λq f a=>?_) λr=>?_
  ·rw[if_pos m]at e b;exact⟨_,e,b,rfl,rfl,.inr rfl⟩
  ·rw[if_neg m]at e b;exact⟨e,b⟩
  ·rw[k]at a
   rcases Zav.1 a with rfl|⟨a,_⟩
   ·have:=q _ (List.getElem_mem n);rw[o]at this;exact this
   ·exact q f a
  ·refine Ziy l (N:=N) r hd ⟨λt=>(hN.1 t).trans ⟨λ⟨f,a,q⟩=>?_,λ⟨f,a,q⟩=>?_⟩,?_⟩ (by show can d.rm N (usedL (effW d.fs (.wri s x))) l;rw[p];exact hc)
   ·show∃f∈effW d.fs (.wri s x),_;rw[k];by_cases z:t=s
    ·exact⟨_,Zav.2 (.inl rfl),z.symm⟩
    ·exact⟨f,Zav.2 (.inr ⟨a,by rw[q];exact z⟩),q⟩
   ·have a:f∈effW d.fs (.wri s x):=a;rw[k]at a
    rcases Zav.1 a with rfl|⟨a,_⟩
    ·exact⟨d.fs[i],List.getElem_mem n,by rw[o];exact q⟩
    ·exact⟨f,a,q⟩
   ·show _=(effW d.fs (.wri s x)).length;rw[k,hN.2];exact v.symm
 | .syn s::l,d,N,h,hd,hN,⟨hf,hs,hc⟩=>by
  obtain⟨i,n,j,o⟩:=Zt8 ((hN.1 s).1 hs);have b:=Zib (s:=s) h;have k:effW d.fs (.syn s)=withB FiD.nm d.fs ⟨s,d.fs[i].su++d.fs[i].lo,[]⟩:=by show(match d.get s with|none=>_|some f=>_)=_;rw[j]
  have e:Zaz d s=if d.st=0 then({d with dn:=true},16)else({d.tick with fs:=effW d.fs (.syn s)},0):=(by unfold Zaz;rw[er_of h hd hf hf,if_neg (by simp),j,k];rfl);rw[e]at b;have u:=Zdw (f:=⟨s,d.fs[i].su++d.fs[i].lo,[]⟩) h.2.2.2 n o.symm;have v:=Zb1 (nm:=FiD.nm) (f:=⟨s,d.fs[i].su++d.fs[i].lo,[]⟩) h.2.2.2 n o.symm
  have p:usedL (effW d.fs (.syn s))=usedL d.fs:=(by rw[k];simp only[FiD.len,List.length_append,Y5]at u;omega);refine Zkq (x:=0) (λm=>?_) (λm=>?_) hd (λq f a=>?_) λr=>?_
  ·rw[if_pos m]at e b;exact⟨_,e,b,rfl,rfl,.inl rfl⟩
  ·rw[if_neg m]at e b;exact⟨e,b⟩
  ·rw[k]at a
   rcases Zav.1 a with rfl|⟨a,_⟩
   ·have:=q _ (List.getElem_mem n);rw[o]at this;exact this
   ·exact q f a
  ·refine Ziy l (N:=N) r hd ⟨λt=>(hN.1 t).trans ⟨λ⟨f,a,q⟩=>?_,λ⟨f,a,q⟩=>?_⟩,?_⟩ (by show can d.rm N (usedL (effW d.fs (.syn s))) l;rw[p];exact hc)
   ·show∃f∈effW d.fs (.syn s),_;rw[k];by_cases z:t=s
    ·exact⟨_,Zav.2 (.inl rfl),z.symm⟩
    ·exact⟨f,Zav.2 (.inr ⟨a,by rw[q];exact z⟩),q⟩
   ·have a:f∈effW d.fs (.syn s):=a;rw[k]at a
    rcases Zav.1 a with rfl|⟨a,_⟩
    ·exact⟨d.fs[i],List.getElem_mem n,by rw[o];exact q⟩
    ·exact⟨f,a,q⟩
   ·show _=(effW d.fs (.syn s)).length;rw[k,hN.2];exact v.symm
 | .cre s::l,d,N,h,hd,hN,⟨hf,hs,hlt,hnum,hc⟩=>by
  have hno:∀g∈d.fs,g.nm≠s:=λg j q=>hs ((hN.1 s).2 ⟨g,j,q⟩);have j:d.get s=none:=(by unfold DiD.get;rw[List.find?_eq_none];intro g j;simp[hno g j]);have b:=Zi6 (s:=s) h
  have e:Za9 d s=if d.st=0 then({d with dn:=true},16)else({d.tick with fs:=effW d.fs (.cre s)},0):=by
   unfold Za9;rw[er_of h hd hf hf,if_neg (by simp),j]
   dsimp only
   rw[if_neg (by have:=hN.2;omega)];rfl
  rw[e]at b;have w:effW d.fs (.cre s)=insB FiD.nm d.fs ⟨s,[],[]⟩:=Zdx (λg j=>hno g j);have p:usedL (effW d.fs (.cre s))=usedL d.fs:=by rw[w,Zi5];simp[FiD.len]
  refine Zkq (x:=0) (λm=>?_) (λm=>?_) hd (λq f a=>?_) λr=>?_
  ·rw[if_pos m]at e b;exact⟨_,e,b,rfl,rfl,.inl rfl⟩
  ·rw[if_neg m]at e b;exact⟨e,b⟩
  ·rcases Zav.1 (show f∈withB FiD.nm d.fs _ from a)with rfl|⟨a,_⟩
   ·exact hnum
   ·exact q f a
  ·refine Ziy l (N:=s::N) r hd ⟨λt=>?_,?_⟩ (by show can d.rm (s::N) (usedL (effW d.fs (.cre s))) l;rw[p];exact hc)
   ·rw[List.mem_cons];constructor
    ·rintro(rfl|q)
     ·exact⟨_,Zav.2 (.inl rfl),rfl⟩
     ·obtain⟨f,a,q⟩:=(hN.1 t).1 q;exact⟨f,Zav.2 (.inr ⟨a,hno f a⟩),q⟩
    ·rintro⟨f,a,q⟩
     rcases Zav.1 (show f∈withB FiD.nm d.fs _ from a)with rfl|⟨a,_⟩
     ·exact .inl q.symm
     ·exact .inr ((hN.1 t).2 ⟨f,a,q⟩)
   ·show(s::N).length=(effW d.fs (.cre s)).length;rw[w,Zo8,List.length_cons,hN.2]
structure Fre(j:JoD):Prop where
 right:RightJ j
 st:j.dk.st= -1
def Zfs(b:List Int):(bys b).length=b.length:=by simp[bys]
def fn_nm{n:Int}(h:inN n):fnB (nmG n)=true:=by rw[Zep h];exact Zo4 _
def num_nm{n:Int}(h:inN n):numS (nmG n)≠0:=by rw[Zep h,Zkb h];unfold inN at h;omega
def Zy4{b:Int}{N:List BA}{u:Nat}{n:Int}{x y:List UInt8}(a:inN n)(c:nmG n∉N)(d:N.length<64)(e:(u:Int)+x.length+y.length≤b):can b N u [.cre (nmG n),.wri (nmG n) x,.wri (nmG n) y]:=
 ⟨fn_nm a,c,d,num_nm a,fn_nm a,List.mem_cons_self,by omega,fn_nm a,List.mem_cons_self,by omega,trivial⟩
def seg_no{l:List FiD}{n:Int}(a:inN n)(b:∀f∈segs l,numS f.nm<n):nmG n∉l.map FiD.nm:=by
 intro h;obtain⟨f,c,e⟩:=Y4.1 h;have d:numS f.nm=n:=by rw[e,Zep a];exact Zkb a
 have g:f∈segs l:=List.mem_filter.2 ⟨c,by unfold inN at a;simp only[isSeg,d,decide_eq_true_eq];omega⟩;have:=b f g;omega
def nxt_snoc{v:WrD}{l:List SgD}{p:SgD}(h:v.j.sg=l++[p]):nxtN v=p.num+1:=by unfold nxtN;rw[h,Zae]
inductive Tds(j:JoD)(e:Cod.EvD):List Stp→Int→Int→Prop
 |rcd (gs g) (hs:segs j.dk.fs=gs++[g]) (hp:Par j (gs++[g])) (hl:(scF g).sl=false) (he:encE j.cx.s j.cx.a j.cx.m e=0):Tds j e [.wri (nmG (scF g).num) (bys (recL' j e))] (0+(recL' j e).length) j.sure
 |nws (n) (hn:inN n) (h64:j.dk.fs.length<64) (hb:∀f∈segs j.dk.fs,numS f.nm<n) (hl:∀g,(segs j.dk.fs).getLast?=some g→(scF g).sl=true∧n=(scF g).num+1) (h1:segs j.dk.fs=[]→n=1) (he:encE j.st.q j.st.t [] e=0):
   Tds j e [.cre (nmG n),.wri (nmG n) (bys (hedB j n)),.wri (nmG n) (bys (fr 2 (encL j.st.q j.st.t [] e)))] (0+(hedB j n).length+(fr 2 (encL j.st.q j.st.t [] e)).length) j.sure
 |sld (gs g) (hs:segs j.dk.fs=gs++[g]) (hp:Par j (gs++[g])) (hl:(scF g).sl=false) (hn:inN ((scF g).num+1)) (h64:j.dk.fs.length<64) (he:encE j.st.q j.st.t [] e=0):
   Tds j e [.wri (nmG (scF g).num) (bys (selB j (sgOf ⟨scF g,g.len⟩))),.syn (nmG (scF g).num),.cre (nmG ((scF g).num+1)),.wri (nmG ((scF g).num+1)) (bys (hedB j ((scF g).num+1))),.wri (nmG ((scF g).num+1)) (bys (fr 2 (encL j.st.q j.st.t [] e)))]
    (0+(selB j (sgOf ⟨scF g,g.len⟩)).length+(hedB j ((scF g).num+1)).length+(fr 2 (encL j.st.q j.st.t [] e)).length) j.st.q
def Zrr{a v w:WrD}{e:Cod.EvD}(c:begW a=some v)(b:recW v e=some w):inN (nxtN a)∧a.j.dk.fs.length<64∧encE a.j.st.q a.j.st.t [] e=0∧
  w.td=a.td++[.cre (nmG (nxtN a)),.wri (nmG (nxtN a)) (bys (hedB a.j (nxtN a))),.wri (nmG (nxtN a)) (bys (fr 2 (encL a.j.st.q a.j.st.t [] e)))]∧w.sz=a.sz+(hedB a.j (nxtN a)).length+(fr 2 (encL a.j.st.q a.j.st.t [] e)).length∧w.j.sure=a.j.sure:=by
 unfold begW at c
 split at c
 ·cases c
 rename_i hno;have f:inN (nxtN a):=Classical.byContradiction λq=>hno (.inl q);have c:=Option.some.inj c;unfold recW at b;rw[←c]at b
 dsimp only at b
 rw[Zae]at b
 dsimp only at b
 split at b
 ·cases b
 rename_i d;have d:encE a.j.st.q a.j.st.t [] e=0:=(by simpa using d);have b:=Option.some.inj b;exact⟨f,by omega,d,by rw[←b];simp[recL'],by rw[←b];rfl,by rw[←b]⟩
def td_cases{j:JoD}(A:RightJ j){e:Cod.EvD}{w:WrD}(d:w3 j e=some w):Tds j e w.td w.sz w.j.sure:=by
 unfold w3 at d
 cases b:w2 j e with
 |none=>rw[b]at d;cases d
 |some v=>
 rw[b]at d;have d:recW v e=some w:=d;unfold w2 at b
 rcases Ze2 j A with⟨h,c⟩|⟨gs,g,h,hp,c⟩
 ·have e1:w1 j e=w0 j:=(by unfold w1;rw[c];rfl);have n:opnW (w1 j e)=false:=(by rw[e1];unfold opnW;rw[show(w0 j).j.sg=[]from c];rfl);rw[if_neg (by simp[n]),e1]at b;obtain⟨i,p,r,k,l,t⟩:=Zrr b d;have u:nxtN (w0 j)=1:=(by unfold nxtN;rw[show(w0 j).j.sg=[]from c];rfl);rw[u]at i k l;rw[k,l,t];exact .nws 1 i p (by rw[h];simp) (by rw[h];simp) (λ_=>rfl) r
 ·by_cases f:(scF g).sl=true
  ·have e1:w1 j e=w0 j:=by
    unfold w1;rw[c,Zae];have:ovrB j e=false:=by unfold ovrB;rw[c,Zae];simp[sgOf,f]
    simp[this]
   have n:opnW (w1 j e)=false:=(by rw[e1];unfold opnW;rw[show(w0 j).j.sg=_ from c,Zae];simp[sgOf,f]);rw[if_neg (by simp[n]),e1]at b;obtain⟨i,p,r,k,l,t⟩:=Zrr b d;have u:nxtN (w0 j)=(scF g).num+1:=nxt_snoc (show(w0 j).j.sg=_ from c);rw[u]at i k l;rw[k,l,t];exact .nws _ i p (by rw[h];exact hp.big) (λx z=>by rw[h,List.getLast?_concat]at z;cases z;exact⟨f,rfl⟩) (λq=>by rw[h]at q;simp at q) r
  ·have f:(scF g).sl=false:=(by simpa using f);by_cases o:ovrB j e=true
   ·have e1:w1 j e=sealW (w0 j) ((gs.map (ptF scF)).map sgOf) (sgOf ⟨scF g,g.len⟩):=(by unfold w1;rw[c,Zae];simp[o]);have n:opnW (w1 j e)=false:=(by rw[e1];unfold opnW sealW;dsimp only;rw[Zae];rfl);rw[if_neg (by simp[n]),e1]at b;obtain⟨i,p,r,k,l,t⟩:=Zrr b d;have u:nxtN (sealW (w0 j) ((gs.map (ptF scF)).map sgOf) (sgOf ⟨scF g,g.len⟩))=(scF g).num+1:=(by unfold nxtN sealW;dsimp only;rw[Zae];rfl);rw[u]at i k l;rw[k,l,t];exact .sld gs g h hp f i p r
   ·have o:ovrB j e=false:=(by simpa using o);have e1:w1 j e=w0 j:=(by unfold w1;rw[c,Zae];simp[o]);have n:opnW (w1 j e)=true:=(by rw[e1];unfold opnW;rw[show(w0 j).j.sg=_ from c,Zae];simp[sgOf,f]);rw[if_pos n,e1]at b;have b:=Option.some.inj b;subst b;unfold recW at d;rw[show(w0 j).j.sg=_ from c,Zae]at d
    dsimp only at d
    split at d
    ·cases d
    rename_i y;have y:encE j.cx.s j.cx.a j.cx.m e=0:=Yj.1 y;have d:=Option.some.inj d;rw[←d];exact .rcd gs g h hp f y
def app_can{j:JoD}{e:Cod.EvD}{k:List Stp}{l p:Int}(q:Tds j e k l p)(w:(usedL j.dk.fs:Int)+l≤j.dk.rm):can j.dk.rm (j.dk.fs.map FiD.nm) (usedL j.dk.fs) k:=by
 cases q with
 |rcd u g d f m o=>obtain⟨r,s,b3,i,b5,t⟩:=f.in_;have a:g∈j.dk.fs:=(List.mem_filter.1 (show g∈segs j.dk.fs by rw[d];simp)).1;exact⟨fn_nm b5,Y4.2 ⟨g,a,i⟩,by rw[Zfs];omega,trivial⟩
 |nws n b c v m x o=>refine Zy4 b (seg_no b v) (by simpa using c) ?_;rw[Zfs,Zfs];omega
 |sld u g d f m b c o=>obtain⟨r,s,b3,i,b5,t⟩:=f.in_;have a:g∈j.dk.fs:=(List.mem_filter.1 (show g∈segs j.dk.fs by rw[d];simp)).1;have h:nmG (scF g).num∈j.dk.fs.map FiD.nm:=Y4.2 ⟨g,a,i⟩;refine⟨fn_nm b5,h,by rw[Zfs];omega,fn_nm b5,h,Zy4 b (seg_no b (by rw[d];exact f.big)) (by simpa using c) ?_⟩;rw[Zfs,Zfs,Zfs];omega
def Zpy(s:List SgD):(s=[]∧lasS s=none)∨∃l p,s=l++[p]∧lasS s=some (l,p):=by
 rcases Y1 s with rfl|⟨l,p,rfl⟩
 ·exact .inl ⟨rfl,rfl⟩
 ·rw[List.concat_eq_append];exact .inr ⟨l,p,rfl,Zae l p⟩
def Fr0(l:List SgD):Prop:=∀p∈l.head?,p.fr=0
def Znx{l:List SgD}{p q:SgD}(h:Fr0 (l++[p]))(e:q.fr=p.fr):Fr0 (l++[q]):=by
 cases l with
 |nil=>intro x b;cases b;rw[e];exact h p rfl
 |cons a l=>exact h
def fr0_app{l:List SgD}{q:SgD}(h:Fr0 l)(e:l=[]→q.fr=0):Fr0 (l++[q]):=by
 cases l with
 |nil=>intro x b;cases b;exact e rfl
 |cons a l=>exact h
def recW_fr{v w:WrD}{e:Cod.EvD}(h:recW v e=some w)(a:Fr0 v.j.sg):Fr0 w.j.sg:=by
 unfold recW at h
 rcases Zpy v.j.sg with⟨_,q⟩|⟨l,p,hs,q⟩
 ·rw[q]at h;cases h
 rw[q]at h
 dsimp only at h
 split at h
 ·cases h
 have h:=Option.some.inj h;rw[←h];rw[hs]at a;exact Znx a rfl
def begW_fr{v w:WrD}(h:begW v=some w)(a:Fr0 v.j.sg)(b:v.j.sg=[]→v.j.st.t=0):Fr0 w.j.sg:=by
 unfold begW at h
 split at h
 ·cases h
 have h:=Option.some.inj h;rw[←h];exact fr0_app a b
def w1_fr{j:JoD}(e:Cod.EvD)(a:Fr0 j.sg):Fr0 (w1 j e).j.sg∧((w1 j e).j.sg=[]→j.sg=[])∧(w1 j e).j.st=j.st:=by
 unfold w1
 rcases Zpy j.sg with⟨_,q⟩|⟨l,p,hs,q⟩
 ·rw[q];exact⟨a,λh=>h,rfl⟩
 rw[q]
 dsimp only
 split
 ·rw[hs]at a;exact⟨Znx a rfl,λh=>by simp[sealW]at h,rfl⟩
 ·exact⟨a,λh=>h,rfl⟩
def w3_fr{j:JoD}{e:Cod.EvD}{w:WrD}(h:w3 j e=some w)(d:Fr0 j.sg)(f:j.sg=[]→j.st.t=0):Fr0 w.j.sg:=by
 obtain⟨a,b,c⟩:=w1_fr e d;unfold w3 at h
 cases h2:w2 j e with
 |none=>rw[h2]at h;cases h
 |some v=>
  rw[h2]at h;refine recW_fr h ?_;unfold w2 at h2
  split at h2
  ·rw[←Option.some.inj h2];exact a
  ·exact begW_fr h2 a λq=>by rw[c];exact f (b q)
def New(j:JoD):Prop:=(∀f∈j.dk.fs,numS f.nm≠0)∧Fr0 j.sg
def Zj5{l:List FiD}(b:Go.Px.srt FiD.nm l)(h:∀f∈l,numS f.nm≠0):keptF l=0∧baseF l=st0:=by
 have a:newF l=none:=Zpt b λt c=>by obtain⟨f,d,_,a,_⟩:=c;exact Zee (h f d) _ a
 unfold keptF baseF;rw[a];exact⟨rfl,rfl⟩
def New.t{j:JoD}(h:New j)(b:RightJ j)(e:j.sg=[]):j.st.t=0:=by
 have p:=b.par;have a:=p.sg;rw[e]at a;have a:segs j.dk.fs=[]:=(by simpa using a.symm);rw[p.st,a,(Zj5 b.dk.2.2.2 h.1).2];rfl
structure Kp(j k:JoD):Prop where
 fre:Fre k
 cb:k.cb=j.cb
 cg:k.cg=j.cg
 kept:k.kept=j.kept
 rm:k.dk.rm=j.dk.rm
 sure:j.sure≤k.sure
 nm:New j→New k
theorem Kp.refl{j:JoD}(h:Fre j):Kp j j:=⟨h,rfl,rfl,rfl,rfl,Int.le_refl _,λh=>h⟩
def Kp.trans{a b c:JoD}(h:Kp a b)(k:Kp b c):Kp a c:=⟨k.fre,k.cb.trans h.cb,k.cg.trans h.cg,k.kept.trans h.kept,k.rm.trans h.rm,Int.le_trans h.sure k.sure,λq=>k.nm (h.nm q)⟩
def Ziv{j:JoD}(h:RightJ j)(b:Bool):RightJ {j with shut:=b}:=⟨h.cfg,h.dk,h.up,h.out,h.good,h.all,by have:=h.eq;exact congrArg (λx:JoD=>{x with shut:=b}) this,h.sure.1,h.sure.2⟩
def Kp.shut{j:JoD}(h:Fre j)(b:Bool):Kp j {j with shut:=b}:=⟨⟨Ziv h.right b,h.st⟩,rfl,rfl,rfl,rfl,Int.le_refl _,λh=>h⟩
def app_any{j:JoD}(a:RightJ j)(e:Cod.EvD):
  ((appS j.st (toE (evN j e))).2≠0∧appP j e=(j,(appS j.st (toE (evN j e))).2))∨
  ((appS j.st (toE (evN j e))).2=0∧appP j e=({j with shut:=true},13))∨
  ((appS j.st (toE (evN j e))).2=0∧j.shut=false∧∃w b c,w3 j (evN j e)=some w∧(usedL j.dk.fs:Int)+w.sz≤j.dk.rm∧Ends j.dk w.td b c∧
   ((c=0∧∃k,appP j e=(k,0)∧k.dk=b∧k.sure=w.j.sure∧Took j k (evN j e)∧(New j→New k))∨(c=16∧appP j e=({j with dk:=b},16)))):=by
 have m:appP j e=appQ j e:=(by unfold appP;rw[if_neg (by rw[Zcg.2 a];simp)]);rw[m]
 obtain⟨l,hk⟩:∃l,appQ j e=l:=⟨_,rfl⟩
 rw[hk];have n:=hk;unfold appQ at hk
 split at hk
 next g=>exact .inl ⟨g,hk.symm⟩
 rename_i g;have h:(appS j.st (toE (evN j e))).2=0:=(by simpa using g);refine .inr ?_
 split at hk
 next d=>refine .inl ⟨h,?_⟩;rw[←hk];show(j,(13:Int))=_;rw[←d]
 rename_i d;have d:j.shut=false:=by simpa using d
 split at hk
 ·exact .inl ⟨h,hk.symm⟩
 rename_i w i;unfold endJ at hk
 split at hk
 ·exact .inl ⟨h,hk.symm⟩
 rename_i o;obtain⟨b,c,E⟩:=Ziy w.td a.dk a.up (nms j.dk) (app_can (td_cases a i) (by omega));refine .inr ⟨h,d,w,b,c,i,by omega,E,?_⟩;rw[E.run]at hk
 rcases E.how with⟨f,_⟩|⟨f,_⟩
 ·rw[f]at hk;simp only[ne_eq,not_true_eq_false,if_false]at hk;refine .inl ⟨f,_,hk.symm,rfl,rfl,?_⟩;rw[←hk]at n;exact⟨Zim a n,λq=>⟨E.nm q.1,w3_fr i q.2 (q.t a)⟩⟩
 ·rw[f,if_pos (show(16:Int)≠0 by decide)]at hk;exact .inr ⟨f,hk.symm⟩
def app_well{j:JoD}(h:Fre j)(e:Cod.EvD):
  ((appS j.st (toE (evN j e))).2≠0∧appP j e=(j,(appS j.st (toE (evN j e))).2))∨
  ((appS j.st (toE (evN j e))).2=0∧appP j e=({j with shut:=true},13))∨
  ((appS j.st (toE (evN j e))).2=0∧j.shut=false∧∃k,appP j e=(k,0)∧Took j k (evN j e)∧Kp j k):=by
 rcases app_any h.right e with h1|h1|⟨h1,h2,w,d',c,h3,_,E,h4⟩
 ·exact .inl h1
 ·exact .inr (.inl h1)
 ·refine .inr (.inr ⟨h1,h2,?_⟩)
  rcases h4 with⟨b,k,d,f,_,T,g⟩|⟨b,_⟩
  ·rcases E.how with⟨_,_,_,a⟩|⟨a,_⟩
   ·exact⟨k,d,T,⟨T.right,by rw[f];exact a h.st⟩,T.cfg.1,T.cfg.2,T.kept,T.rm,T.sure,g⟩
   ·rw[a]at b;cases b
  ·rcases E.how with⟨a,_⟩|⟨_,a,_⟩
   ·rw[a]at b;cases b
   ·exact absurd h.st a
def syn_any{j:JoD}(d:RightJ j):∃l a c,Ends j.dk l a c∧((l=[]∧∀g,(segs j.dk.fs).getLast?=some g→(scF g).sl=true)∨∃o g,segs j.dk.fs=o++[g]∧l=[.syn g.nm])∧
  ((c=0∧∃k,synJ j=(k,0)∧k.dk=a∧RightJ k∧k.st=j.st∧evsJ k=evsJ j∧k.sure=j.st.q∧k.cb=j.cb∧k.cg=j.cg∧k.shut=j.shut∧k.kept=j.kept∧(New j→New k))∨(c=16∧synJ j=({j with dk:=a},16))):=by
 have s:synJ j=synQ j:=(by unfold synJ;rw[if_neg (by rw[Zcg.2 d];simp)]);rw[s];have fin:∀l a,Ends j.dk l a 0→synQ j=({j with dk:=a,sure:=j.st.q},0)→∃k,synQ j=(k,0)∧k.dk=a∧RightJ k∧k.st=j.st∧evsJ k=evsJ j∧k.sure=j.st.q∧k.cb=j.cb∧k.cg=j.cg∧k.shut=j.shut∧k.kept=j.kept∧(New j→New k):=λl a E h=>by obtain⟨R,u,v,w,y,z,A,C,D⟩:=Zpz d h;exact⟨_,h,rfl,R,u,v,w,y,z,A,C,λq=>⟨E.nm q.1,q.2⟩⟩
 have b:Ends j.dk [] j.dk 0:=⟨rfl,d.dk,rfl,λh=>h,.inl ⟨rfl,d.up,rfl,λh=>h⟩⟩
 rcases Ze2 j d with⟨f,e⟩|⟨o,g,f,hp,e⟩
 ·exact⟨[],_,0,b,.inl ⟨rfl,by rw[f];simp⟩,.inl ⟨rfl,fin [] _ b (by unfold synQ;rw[e];rfl)⟩⟩
 ·obtain⟨F,G,b3,r,b5,H⟩:=hp.in_;by_cases hsl:(scF g).sl=true
  ·exact⟨[],_,0,b,.inl ⟨rfl,λx p=>by rw[f,List.getLast?_concat]at p;cases p;exact hsl⟩,.inl ⟨rfl,fin [] _ b (by unfold synQ;rw[e,Zae];dsimp only;rw[if_pos (show(sgOf ⟨scF g,g.len⟩).sl=true from hsl)])⟩⟩
  ·have t:g∈j.dk.fs:=(List.mem_filter.1 (show g∈segs j.dk.fs by rw[f];simp)).1;obtain⟨a,c,E⟩:=Ziy [.syn (nmG (scF g).num)] d.dk d.up (nms j.dk) ⟨fn_nm b5,Y4.2 ⟨g,t,r⟩,trivial⟩;have m:=E.run;rw[run1]at m;have m:Zaz j.dk (nmG (sgOf ⟨scF g,g.len⟩).num)=(a,c):=m;refine⟨_,a,c,E,.inr ⟨o,g,f,by rw[r]⟩,?_⟩
   have n:synQ j=if c≠0 then({j with dk:=a},c)else({j with dk:=a,sure:=j.st.q},0):=by
    unfold synQ;rw[e,Zae]
    dsimp only
    rw[if_neg (show¬(sgOf ⟨scF g,g.len⟩).sl=true from hsl),m]
   rcases E.how with⟨i,_⟩|⟨i,_⟩
   ·rw[i]at E n;exact .inl ⟨i,fin _ _ E n⟩
   ·rw[i,if_pos (show(16:Int)≠0 by decide)]at n;exact .inr ⟨i,n⟩
def syn_well{j:JoD}(h:Fre j):∃k,synJ j=(k,0)∧Kp j k∧k.st=j.st∧evsJ k=evsJ j∧k.sure=j.st.q∧k.shut=j.shut:=by
 obtain⟨l,u,c,E,_,f⟩:=syn_any h.right
 rcases f with⟨b,k,g,d,R,i,m,e,n,o,p,r,s⟩|⟨b,_⟩
 ·rcases E.how with⟨_,_,_,a⟩|⟨a,_⟩
  ·have t:j.sure≤j.st.q:=(Zil h.right).2.1;exact⟨k,g,⟨⟨R,by rw[d];exact a h.st⟩,n,o,r,by rw[d];exact E.rm,by rw[e];exact t,s⟩,i,m,e,p⟩
  ·rw[a]at b;cases b
 ·rcases E.how with⟨a,_⟩|⟨_,a,_⟩
  ·rw[a]at b;cases b
  ·exact absurd h.st a
def rot_any{j:JoD}(e:RightJ j):rotJ j=(j,14)∨rotJ j=({j with shut:=true},13)∨∃d g a c,segs j.dk.fs=d++[g]∧Par j (d++[g])∧(scF g).sl=false∧(usedL j.dk.fs:Int)+(selB j (sgOf ⟨scF g,g.len⟩)).length≤j.dk.rm∧Ends j.dk [.wri (nmG (scF g).num) (bys (selB j (sgOf ⟨scF g,g.len⟩))),.syn (nmG (scF g).num)] a c∧
  ((c=0∧∃k,rotJ j=(k,0)∧k.dk=a∧RightJ k∧k.st=j.st∧evsJ k=evsJ j∧k.sure=j.st.q∧k.cb=j.cb∧k.cg=j.cg∧k.shut=j.shut∧k.kept=j.kept∧(New j→New k))∨(c=16∧rotJ j=({j with dk:=a},16))):=by
 have x:rotJ j=rotQ j:=(by unfold rotJ;rw[if_neg (by rw[Zcg.2 e];simp)]);rw[x]
 obtain⟨v,hk⟩:∃v,rotQ j=v:=⟨_,rfl⟩
 rw[hk];unfold rotQ at hk
 rcases Ze2 j e with⟨o,b⟩|⟨d,g,o,hp,b⟩
 ·rw[b]at hk;exact .inl hk.symm
 ·obtain⟨J,K,b3,A,b5,L⟩:=hp.in_;have y:g∈j.dk.fs:=(List.mem_filter.1 (show g∈segs j.dk.fs by rw[o];simp)).1;rw[b,Zae]at hk
  dsimp only at hk
  split at hk
  ·exact .inl hk.symm
  rename_i hno
  have r:(scF g).sl=false:=by
   cases hq:(scF g).sl with
   |false=>rfl
   |true=>exact absurd (.inl hq) hno
  refine .inr ?_;unfold endJ at hk
  split at hk
  ·exact .inl hk.symm
  rename_i n;have s:nmG (scF g).num∈j.dk.fs.map FiD.nm:=Y4.2 ⟨g,y,A⟩;have F:(sealW (w0 j) ((d.map (ptF scF)).map sgOf) (sgOf ⟨scF g,g.len⟩)).sz=0+(selB j (sgOf ⟨scF g,g.len⟩)).length:=rfl;have G:(sealW (w0 j) ((d.map (ptF scF)).map sgOf) (sgOf ⟨scF g,g.len⟩)).td=[.wri (nmG (scF g).num) (bys (selB j (sgOf ⟨scF g,g.len⟩))),.syn (nmG (scF g).num)]:=rfl;rw[F]at n;obtain⟨a,c,E⟩:=Ziy [.wri (nmG (scF g).num) (bys (selB j (sgOf ⟨scF g,g.len⟩))),.syn (nmG (scF g).num)] e.dk e.up (nms j.dk) ⟨fn_nm b5,s,by rw[Zfs];omega,fn_nm b5,s,trivial⟩;rw[G,E.run]at hk;refine .inr ⟨d,g,a,c,o,hp,r,by omega,E,?_⟩
  rcases E.how with⟨h,C,_⟩|⟨h,_⟩
  ·refine .inl ⟨h,?_⟩;have i:=E.run;rw[h]at i hk;simp only[ne_eq,not_true_eq_false,if_false]at hk;refine⟨_,hk.symm,?_⟩;obtain⟨p,f,w,D,M,N⟩:=Zrf hp r i j.cb j.cg j.st.q j.shut;have l:(anewJ a j.cb j.cg j.st.q j.shut).st=j.st:=(by rw[p]);have m:(anewJ a j.cb j.cg j.st.q j.shut).kept=j.kept:=(by rw[p]);obtain⟨O,Q,R⟩:=Zil e;have t:RightJ (anewJ a j.cb j.cg j.st.q j.shut):=Zpl w e.cfg E.P C (by rw[show keptF a.fs=j.kept from m];omega) (by rw[l];exact Int.le_refl _);have u:=b;have b:segs a.fs=d++[f]:=w.dkr.eq;have z:evsJ (anewJ a j.cb j.cg j.st.q j.shut)=evsJ j:=(by rw[Zgg t,Zgg e,o];show evG (segs a.fs)=_;rw[b,Zcz,Zcz,D]);have H:({(sealW (w0 j) ((d.map (ptF scF)).map sgOf) (sgOf ⟨scF g,g.len⟩)).j with dk:=a,st:=j.st}:JoD)=anewJ a j.cb j.cg j.st.q j.shut:=(by rw[p];rfl);rw[H];refine⟨rfl,t,l,z,rfl,rfl,rfl,rfl,m,λq=>⟨E.nm q.1,?_⟩⟩;rw[p];have:=q.2;rw[u]at this;exact Znx this rfl
  ·refine .inr ⟨h,?_⟩;rw[h,if_pos (show(16:Int)≠0 by decide)]at hk;exact hk.symm
def rot_well{j:JoD}(h:Fre j):rotJ j=(j,14)∨rotJ j=({j with shut:=true},13)∨∃k,rotJ j=(k,0)∧Kp j k∧k.st=j.st∧evsJ k=evsJ j∧k.sure=j.st.q∧k.shut=j.shut:=by
 rcases rot_any h.right with h1|h1|⟨gs,g,d',c,_,_,_,_,E,h4⟩
 ·exact .inl h1
 ·exact .inr (.inl h1)
 ·refine .inr (.inr ?_)
  rcases h4 with⟨b,k,f,d,R,i,l,e,m,n,o,p,r⟩|⟨b,_⟩
  ·rcases E.how with⟨_,_,_,a⟩|⟨a,_⟩
   ·have s:j.sure≤j.st.q:=(Zil h.right).2.1;exact⟨k,f,⟨⟨R,by rw[d];exact a h.st⟩,m,n,p,by rw[d];exact E.rm,by rw[e];exact s,r⟩,i,l,e,o⟩
   ·rw[a]at b;cases b
  ·rcases E.how with⟨a,_⟩|⟨_,a,_⟩
   ·rw[a]at b;cases b
   ·exact absurd h.st a
structure DeD where
 k:Int
 e:Cod.EvD
noncomputable def oneP(j:JoD)(d:DeD):JoD×Int:=if d.k%8<6 then appP j d.e else if d.k%8=6 then synJ j else rotJ j
noncomputable def allP:JoD→List DeD→JoD
 |j,[]=>j
 |j,d::l=>allP (oneP j d).1 l
def one_kp{j:JoD}(h:Fre j)(d:DeD):Kp j (oneP j d).1:=by
 unfold oneP
 split
 ·rcases app_well h d.e with⟨_,e⟩|⟨_,e⟩|⟨_,_,k,e,_,q⟩
  ·rw[e];exact .refl h
  ·rw[e];exact .shut h _
  ·rw[e];exact q
 split
 ·obtain⟨k,e,q,_⟩:=syn_well h;rw[e];exact q
 ·rcases rot_well h with e|e|⟨k,e,q,_⟩
  ·rw[e];exact .refl h
  ·rw[e];exact .shut h _
  ·rw[e];exact q
end Jou
namespace Jou
open Go Go.Px Go.Proofs Cod Tryz
abbrev ec0(r:List SV)(K:LL→Int→Int→Bool→Int→Int→LL→Int→Int→LL→LL→Int→Int→Int→Int→Bool→Int→Prop):Prop:=∃h:LL,∃i:Int,∃j:Int,∃k:Bool,∃l:Int,∃m:Int,∃n:LL,∃o:Int,∃p:Int,∃q:LL,∃a:LL,∃b:Int,∃c:Int,∃d:Int,∃e:Int,∃f:Bool,∃g:Int,(r=[jr16 h i j k l m n o p q a b c d e f,I g])∧K h i j k l m n o p q a b c d e f g
abbrev ec1(r:List SV)(K:Bool→Prop):Prop:=∃a:Bool,(r=[B a])∧K a
abbrev ec2(r:List SV)(K:LL→Int→Int→Bool→Int→Int→LL→Int→Int→LL→LL→Int→Int→Int→Int→Bool→Bool→Prop):Prop:=∃h:LL,∃i:Int,∃j:Int,∃k:Bool,∃l:Int,∃m:Int,∃n:LL,∃o:Int,∃p:Int,∃q:LL,∃a:LL,∃b:Int,∃c:Int,∃d:Int,∃e:Int,∃f:Bool,∃g:Bool,(r=[jr16 h i j k l m n o p q a b c d e f,B g])∧K h i j k l m n o p q a b c d e f g
abbrev ec3(r:List SV)(K:Int→Int→Int→Int→BA→Int→Int→Int→Prop):Prop:=∃a:Int,∃b:Int,∃c:Int,∃d:Int,∃e:BA,∃f:Int,∃g:Int,∃h:Int,(r=[U8 a,I b,I c,I d,S e,I f,I g,I h])∧K a b c d e f g h
abbrev ec4(r:List SV)(K:LL→Prop):Prop:=∃a:LL,(r=[SL 7 a])∧K a
abbrev ec5(r:List SV)(K:BA→LL→LL→Prop):Prop:=∃a:BA,∃b:LL,∃c:LL,(r=[S a,SL 1 b,SL 1 c])∧K a b c
abbrev ec6(r:List SV)(K:LL→Int→Prop):Prop:=∃a:LL,∃b:Int,(r=[SL 1 a,I b])∧K a b
abbrev ec7(r:List SV)(K:LL→Int→Int→Bool→Int→Prop):Prop:=∃a:LL,∃b:Int,∃c:Int,∃d:Bool,∃e:Int,(r=[dk4 a b c d,I e])∧K a b c d e
abbrev ec8(r:List SV)(K:LL→Int→Int→Int→Int→Prop):Prop:=∃a:LL,∃b:Int,∃c:Int,∃d:Int,∃e:Int,(r=[st3 a b c,I d,I e])∧K a b c d e
def Zz1{a t c:Int}{Q:QQ}(h:Cl prog 13 sP ([dk4 [] (wcv .i64 a) ((-1:Int)) false,SV.agg [I (wadd .i64 64 (wcv .i64 t)),I (wadd .i64 (wcv .i64 c) 1)]]) (λw=>ec0 w λl x d b e g i j k m n o p q r s u=>(ifB (ieq u 0) (Cl prog 17 sP ([jr16 l x d b e g i j k m n o p q r s]) (λv=>ec1 v λy=>(Q ([jr16 l x d b e g i j k m n o p q r s,B y])))) (Q ([jr16 l x d b e g i j k m n o p q r s,B false]))))):Ct prog 30 {} [.val (.int .u16 a),U8 t,.val (.int .u16 c)] Q:=
 fN SgT SvT func30 h
def lone_nf{rows:LL}{d a:Int}{e:Bool}{F G:Int}{segs:LL}{H J:Int}{K L:LL}{M N g i:Int}{shut:Bool}{k:Int}{O P R:Int}{c:BA}{x y z:Int}{Q:QQ}(h:(((8:Int)=0)→False)∧ifB (ilt (wrem k 8) 6) (Cl prog 20 sP ([jr16 rows d a e F G segs H J K L M N g i shut,ev7 O P R c x y z]) (λn=>ec0 n λl o p b q r s t u v w A C D j E m=>(Q ([jr16 l o p b q r s t u v w A C D j E,I m])))) ((((8:Int)=0)→False)∧ifB (ieq (wrem k 8) 6) (Cl prog 22 sP ([jr16 rows d a e F G segs H J K L M N g i shut]) (λn=>ec0 n λl o p b q r s t u v w A C D j E m=>(Q ([jr16 l o p b q r s t u v w A C D j E,I m])))) (Cl prog 24 sP ([jr16 rows d a e F G segs H J K L M N g i shut]) (λn=>ec0 n λl o p b q r s t u v w A C D j E m=>(Q ([jr16 l o p b q r s t u v w A C D j E,I m])))))):Ct prog 31 {} [jr16 rows d a e F G segs H J K L M N g i shut,.agg [U8 k,I O,I P,I R,S c,I x,I y,I z]] Q:=
 fN SgT SvT func31 h
def lcut_nf{bt ae a2:Int}{l:LL}{Q:QQ}(h:Cl prog 10 sP [] (λrs=>ec1 rs λb=>(ifB (bnot b) (Q [B false]) (ifB (igt (rlen l) 40) (Q [B true]) (Cl prog 30 sP [SV.int .u16 60000,U8 bt,SV.int .u16 ae] (λaj=>ec2 aj λl1 x x1 b1 x2 x3 l2 x4 x5 l3 l4 x6 x7 x8 x9 b2 b3=>(ifB (bnot b3) (Q [B false]) (∃ad:Int→LL→Int→Int→Bool→Int→Int→LL→Int→Int→LL→LL→Int→Int→Int→Int→Bool→Prop,∃m:Int→LL→Int→Int→Bool→Int→Int→LL→Int→Int→LL→LL→Int→Int→Int→Int→Bool→Nat,(ad 0 l1 x x1 b1 x2 x3 l2 x4 x5 l3 l4 x6 x7 x8 x9 b2)∧∀A e,∀a c,∀M j,∀n W,∀C D,∀X Y,∀E F,∀G H b5,(ad A e a c M j n W C D X Y E F G H b5)→ifB (ilt A (rlen l)) ((inR A l)∧ec3 (rget l A) λaf N O P s a3 a4 a5=>(ifB (igt (slen s) 100) (Q [B true]) (∃o:Int→LL→Int→Int→Bool→Int→Int→LL→Int→Int→LL→LL→Int→Int→Int→Int→Bool→Prop,∃m1:Int→LL→Int→Int→Bool→Int→Int→LL→Int→Int→LL→LL→Int→Int→Int→Int→Bool→Nat,((inR A l)∧ec3 (rget l A) λR p q g s1 i r t=>((Cl prog 31 sP ([jr16 e a c M j n W C D X Y E F G H b5,SV.agg [U8 R,I p,I q,I g,S s1,I i,I r,I t]]) (λZ=>ec0 Z λL u v w y z J a0 a6 K d a7 a8 a9 aa U ab=>((sm ([[SL 3 e,I a,I c,B M,I j,I n,SL 7 W,I C,I D,SL 1 X,SL 21 Y,I E,I F,I G,I H,B b5]]))∧o ab L u v w y z J a0 a6 K d a7 a8 a9 aa U)))∧Cl prog 31 sP ([jr16 e a c M j n W C D X Y E F G H b5,SV.agg [U8 R,I p,I q,I g,S s1,I i,I r,I t]]) (λZ=>ec0 Z λL u v w y z J a0 a6 K d a7 a8 a9 aa U ab=>((sm ([[SL 3 e,I a,I c,B M,I j,I n,SL 7 W,I C,I D,SL 1 X,SL 21 Y,I E,I F,I G,I H,B b5]]))∧o ab L u v w y z J a0 a6 K d a7 a8 a9 aa U))))∧∀R L,∀p q,∀w g,∀i J,∀r t,∀K d,∀u v,∀y z U,(o R L p q w g i J r t K d u v y z U)→((Option.some []:Option LL)=Option.some [])∧(ad (wadd .i64 A 1) L p q w g i J r t K d u v y z U)∧Nat.le (Nat.succ (m (wadd .i64 A 1) L p q w g i J r t K d u v y z U)) (m A e a c M j n W C D X Y E F G H b5)))) (Cl prog 15 sP ([jr16 e a c M j n W C D X Y E F G H b5]) (λZ=>ec4 Z λL=>(ifB (ieq (rlen e) 0) (Q [B (ieq (rlen L) 0)]) ((inR (wsub .i64 (rlen e) 1) e)∧ec5 (rget e (wsub .i64 (rlen e) 1)) λs J K=>(Cl prog 32 sP ([dk4 e a c M,S s]) (λak=>ec6 ak λd af=>(∃o:Int→LL→Int→Int→Bool→Prop,∃m1:Int→LL→Int→Int→Bool→Nat,(((wadd .i64 (rlen d) 1=0)→False)∧(Cl prog 33 sP ([dk4 e a c M,S s,I (wrem (wcv .i64 a2) (wadd .i64 (rlen d) 1))]) (λa1=>ec7 a1 λV N O w P=>((sm ([[SL 3 e,I a,I c,B M,I j,I n,SL 7 W,I C,I D,SL 1 X,SL 21 Y,I E,I F,I G,I H,B b5]]))∧o P V N O w)))∧Cl prog 33 sP ([dk4 e a c M,S s,I (wrem (wcv .i64 a2) (wadd .i64 (rlen d) 1))]) (λa1=>ec7 a1 λV N O w P=>((sm ([[SL 3 e,I a,I c,B M,I j,I n,SL 7 W,I C,I D,SL 1 X,SL 21 Y,I E,I F,I G,I H,B b5]]))∧o P V N O w)))∧∀N V,∀O P w,(o N V O P w)→Cl prog 13 sP ([dk4 V O P w,SV.agg [I j,I n]]) (λa1=>ec0 a1 λag a3 a4 U a5 R ah p q ai ac g i r t b8 u=>(Cl prog 15 sP ([jr16 ag a3 a4 U a5 R ah p q ai ac g i r t b8]) (λal=>ec4 al λT=>(Cl prog 34 sP ([st3 [] 0 0,SL 7 T]) (λam=>ec8 am λan v y z a0=>(ifB (bpick (bpick (ieq af 0) (ieq N 0) false) (ieq u 0) false) (Cl prog 17 sP ([jr16 ag a3 a4 U a5 R ah p q ai ac g i r t b8]) (λao=>ec1 ao λb9=>(ifB (bpick b9 (ile (rlen T) (rlen L)) false) ((((0:Int)≤0)∧((0:Int)≤(rlen T))∧(rlen T)≤(rlen L))∧Cl prog 27 sP [SL 7 T,SL 7 (rsub L 0 (rlen T))] (λap=>ec1 ap λaq=>(ifB (bpick (bpick aq (ieq a0 0) false) (ieq z (rlen T)) false) (Cl prog 35 sP ([st3 an v y,st3 ac g i]) (λar=>ec1 ar λau=>(Q [B au]))) (Q [B false])))) (Q [B false])))) (Q [B false])))))))))))))))))))))):Ct prog 5 {} [U8 bt,.val (.int .u16 ae),SL 8 l,.val (.int .u16 a2)] Q:=
 fO SgT SvT (λk=>bif Nat.beq k 40 then some {slots:=[(11,false,[.int .i64])],boxes:=[(1152,[.sl 3,.int .i64,.int .i64,.bool,.int .i64,.int .i64,.sl 7,.int .i64,.int .i64,.sl 1,.sl 21,.int .i64,.int .i64,.int .i64,.int .i64,.bool])],fixed:=[]}else bif Nat.beq k 1000013 then some {slots:=[(13,false,[.int .i64])],boxes:=[(1536,[.sl 3,.int .i64,.int .i64,.bool,.int .i64,.int .i64,.sl 7,.int .i64,.int .i64,.sl 1,.sl 21,.int .i64,.int .i64,.int .i64,.int .i64,.bool])],fixed:=[1152],ptrs:=[(12,1536)]}else bif Nat.beq k 1000021 then some {slots:=[(20,false,[.int .i64])],boxes:=[(2432,[.sl 3,.int .i64,.int .i64,.bool])],fixed:=[1152],ptrs:=[(19,2432)]}else none) func5 h
end Jou
namespace Jou
open Go Go.Px Go.Proofs Cod Seg Sgr Snp Sx Row Tryz
def lasA(a:Int)(l:List Cod.EvD):Int:=(l.getLast?.map (·.a)).getD a
def lasA_app(a:Int)(l m:List Cod.EvD):lasA a (l++m)=lasA (lasA a l) m:=by
 unfold lasA
 rcases Y1 m with rfl|⟨m,e,rfl⟩
 ·simp
 ·simp
def fin_a(l:List Cod.EvD)(s a:Int)(m:List BA):(fin3 s a m l).2.1=lasA a l:=by
 unfold lasA
 rcases Y1 l with rfl|⟨l,e,rfl⟩
 ·rfl
 ·rw[List.concat_eq_append,Zfy];simp
def fin_s(l:List Cod.EvD)(s a:Int)(m:List BA):(fin3 s a m l).1=(l.getLast?.map (·.s)).getD s:=by
 rcases Y1 l with rfl|⟨l,e,rfl⟩
 ·rfl
 ·rw[List.concat_eq_append,Zfy];simp
def Zvc:∀{l:List Cmp.EvD} {a b:Int},Cns a l b→b=(l.getLast?.map (·.s)).getD a
 | [],a,b,h=>h.symm
 |e::l,a,b,h=>by
  have:=Zvc h.2;rw[this,WC]
  cases l.getLast?<;>rfl
def cns_pre:∀(l:List Cmp.EvD) {m:List Cmp.EvD} {a c:Int},Cns a (l++m) c→∃b,Cns a l b
 | [],m,a,c,h=>⟨a,rfl⟩
 |e::l,m,a,c,h=>by obtain⟨b,d⟩:=cns_pre l h.2;exact⟨b,h.1,d⟩
def Zs0:∀{l:List Cmp.EvD} {a b:Int},Cns a l b→0≤a→l.filter (λe=>decide (0<e.s))=l
 | [],a,b,h,h0=>rfl
 |e::l,a,b,h,h0=>by have c:=h.1;rw[List.filter_cons,decide_eq_true (show(0:Int)<e.s by omega),if_pos rfl,Zs0 h.2 (by omega)]
def Zvd:∀(l:List Cmp.EvD) (d:StD),(foldS d l).2.2=0→(foldS d l).1.t=(l.getLast?.map (·.a)).getD d.t∧(foldS d l).2.1=l.length
 | [],d,h=>⟨rfl,rfl⟩
 |e::l,d,h=>by
  rw[foldS]at h⊢;by_cases c:(appS d e).2≠0
  ·rw[if_pos c]at h;exact absurd h c
  ·rw[if_neg c]at h⊢;obtain⟨a,b⟩:=Zvd l _ h;have c:(appS d e).2=0:=(by simpa using c);refine⟨?_,by show _+1=_;rw[b];rfl⟩;show(foldS (appS d e).1 l).1.t=_;rw[a,(Zrk c).2,WC]
   cases l.getLast?<;>rfl
def row_a:∀(b:List FiD) (p:Option Sc) (a:Int),inRow scF p b→(∀f∈b,ScOK (scF f)∧(scF f).num≠0)→(match p with|none=>∀f∈b.head?,(scF f).ba=a|some x=>x.a=a)→lasA a (evG b)=(b.getLast?.map λg=>(scF g).a).getD a
 | [],p,a,_,_,_=>rfl
 |f::l,p,a,hi,hn,hp=>by
  obtain⟨m,d,e⟩:=hi
  have j:(scF f).ba=a:=by
   cases p with
   |none=>exact hp f rfl
   |some x=>exact d.2.2.2.trans hp
  obtain⟨h,i⟩:=hn f (by simp);have k:lasA a (scF f).ev=(scF f).a:=(by have:=h.fin i;simp only[Wt]at this;rw[this.2.1,fin_a,j]);rw[show evG (f::l)=(scF f).ev++evG l from rfl,lasA_app,k,row_a l (some (scF f)) (scF f).a e (λg c=>hn g (by simp[c])) rfl,WC]
  cases l.getLast?<;>rfl
def Zve(a:List FiD):evsR (a.map (ptF scF))=(evG a).map toE:=by
 unfold evsR evG;rw[List.flatMap_map,List.map_flatMap]
def las_toE(l:List Cod.EvD):((l.map toE).getLast?.map (·.a)).getD 0=lasA 0 l:=by
 unfold lasA;rw[List.getLast?_map]
 cases l.getLast?<;>rfl
def goodR_fst{b:List FiD}(k:inRow scF none b)(n:∀f∈b,numS f.nm≠0)(o:∀f∈b,ScOK (scF f)∧(scF f).num≠0)(h:∀f∈b,((scF f).ev.length:Int)=(scF f).s-(scF f).bs)(m:∀f∈b.head?,(scF f).bs=0∧(scF f).ba=0)
  (i:(foldS st0 ((evG b).map toE)).2.2=0):GoodR (b.map (ptF scF)) 0 st0∧stR (b.map (ptF scF)) 0 st0=(foldS st0 ((evG b).map toE)).1:=by
 have j:(evsR (b.map (ptF scF))).filter (λe=>decide (0<e.s))=(evG b).map toE:=by
  rw[Zve]
  rcases Y1 b with rfl|⟨l,g,rfl⟩
  ·rfl
  ·rw[List.concat_eq_append]at*;obtain⟨f,c⟩:∃f,(l++[g]).head?=some f:=by cases l<;>exact⟨_,rfl⟩
   have q:=Zsj l g k n (λp d=>by obtain⟨f,c,rfl⟩:=Y4.1 d;exact h f c) (ptF scF f) (by rw[List.head?_map,c];rfl);rw[Zve]at q;exact Zs0 q (by have:=(m f c).1;show 0≤(scF f).bs;omega)
 have hst:stR (b.map (ptF scF)) 0 st0=(foldS st0 ((evG b).map toE)).1:=(by unfold stR;rw[j]);refine⟨⟨λp d=>?_,λp d=>?_,by rw[j];exact i,λp d=>?_⟩,hst⟩
 ·rw[List.head?_map]at d;obtain⟨f,c,rfl⟩:=Option.map_eq_some_iff.1 d;have:=(m f c).1;show(scF f).bs≤0;omega
 ·obtain⟨f,c,rfl⟩:=Y4.1 d;exact h f c
 ·rw[List.getLast?_map]at d;obtain⟨f,c,rfl⟩:=Option.map_eq_some_iff.1 d;have r:=row_a b none 0 k o (λf c=>(m f c).2);rw[c]at r;have u:=(Zvd _ _ i).1;have v:((evG b).map toE|>.getLast?.map (·.a)).getD st0.t=_:=las_toE (evG b);rw[v,r]at u;show(scF f).a=(stR (b.map (ptF scF)) 0 st0).t;rw[hst,u];rfl
def New.par{j:JoD}(h:New j)(n:RightJ j):segs j.dk.fs=j.dk.fs∧j.kept=0∧(∀f∈j.dk.fs.head?,(scF f).bs=0∧(scF f).ba=0)∧(foldS st0 ((evG j.dk.fs).map toE)).2.2=0∧j.st=(foldS st0 ((evG j.dk.fs).map toE)).1:=by
 have p:=n.par;have q:segs j.dk.fs=j.dk.fs:=List.filter_eq_self.2 λf a=>by simpa[isSeg]using h.1 f a
 rw[q]at p;obtain⟨i,o⟩:=Zj5 n.dk.2.2.2 h.1;have b:=p.good;rw[i,o]at b;have k:=p.dkr.bytes p.all;have m:∀f∈j.dk.fs.head?,(scF f).bs=0∧(scF f).ba=0:=λf a=>by have u:f∈j.dk.fs:=List.mem_of_head? a;obtain⟨r,_,b3,t⟩:=k f u;have d:=(r.head (by rw[b3];exact t)).2;unfold ctxOK at d;have w:(scF f).bs≤0:=b.bs (ptF scF f) (by rw[List.head?_map,a];rfl);have v:=h.2 (sgOf (ptF scF f)) (by rw[p.sg,List.head?_map,List.head?_map,a];rfl);exact⟨by omega,v⟩
 have c:(evsR (j.dk.fs.map (ptF scF))).filter (λe=>decide (0<e.s))=(evG j.dk.fs).map toE:=by
  rw[Zve]
  rcases Y1 j.dk.fs with e|⟨l,g,e⟩
  ·rw[e];rfl
  ·rw[List.concat_eq_append]at e;rw[e]at m k b p⊢;obtain⟨f,a⟩:∃f,(l++[g]).head?=some f:=by cases l<;>exact⟨_,rfl⟩
   have d:=Zsj l g p.dkr.inr (λf a=>(k f a).2.2.2) b.cnt (ptF scF f) (by rw[List.head?_map,a];rfl);rw[Zve]at d;exact Zs0 d (by have:=(m f a).1;show 0≤(scF f).bs;omega)
 refine⟨q,by rw[p.kept,i],m,by have:=b.app;rw[c]at this;exact this,?_⟩;rw[p.st,i,o];unfold stR;rw[c]
def fold_pre{l m:List Cmp.EvD}{d:StD}(h:(foldS d (l++m)).2.2=0):(foldS d l).2.2=0:=Classical.byContradiction λq=>Zhz l m d q h
structure Whl(gs:List FiD):Prop where
 inr:inRow scF none gs
 nm:∀f∈gs,numS f.nm≠0
 ok:∀f∈gs,ScOK (scF f)∧(scF f).num≠0
 cnt:∀f∈gs,((scF f).ev.length:Int)=(scF f).s-(scF f).bs
 fst:∀f∈gs.head?,(scF f).bs=0∧(scF f).ba=0
structure Tgt(gs:List FiD)(s:BA)(t:Sc):Prop where
 ok:ScOK t
 num:t.num=numS s
 cnt:(t.ev.length:Int)=t.s-t.bs
 fol:match gs.getLast? with|none=>t.bs=0∧t.ba=0|some a=>foll t (scF a)
def New.whl{j:JoD}(b:New j)(c:RightJ j):Whl j.dk.fs:=by
 obtain⟨d,l,e,g,hst⟩:=b.par c;have p:=c.par;rw[d]at p;have k:=p.dkr.bytes p.all;refine⟨p.dkr.inr,b.1,λf a=>?_,λf a=>p.good.cnt (ptF scF f) (Y4.2 ⟨f,a,rfl⟩),e⟩;obtain⟨h,_,c3,i⟩:=k f a;exact⟨h,by rw[c3];exact i⟩
def Whl.pre{c:List FiD}{g:FiD}(h:Whl (c++[g])):Whl c∧Tgt c g.nm (scF g):=by
 have d:=h.inr;rw[Zcv]at d;refine⟨⟨d.1,λf b=>h.nm f (by simp[b]),λf b=>h.ok f (by simp[b]),λf b=>h.cnt f (by simp[b]),λf b=>?_⟩,⟨(h.ok g (by simp)).1,d.2.1,h.cnt g (by simp),?_⟩⟩
 ·cases c with
  |nil=>cases b
  |cons a l=>exact h.fst f b
 ·have e:=d.2.2
  cases hl:c.getLast? with
  |none=>have:c=[]:=WI.1 hl;subst this;exact h.fst g rfl
  |some a=>rw[hl]at e;exact e
def Whl.snoc{c:List FiD}{g:FiD}(h:Whl c)(d:numS g.nm≠0)(t:Tgt c g.nm (scF g)):Whl (c++[g]):=by
 refine⟨?_,λf b=>?_,λf b=>?_,λf b=>?_,λf b=>?_⟩
 ·rw[Zcv];refine⟨h.inr,t.num,?_⟩;have:=t.fol
  cases hl:c.getLast? with
  |none=>trivial
  |some a=>rw[hl]at this;exact this
 ·rcases List.mem_append.1 b with b|b
  ·exact h.nm f b
  ·rw[List.mem_singleton.1 b];exact d
 ·rcases List.mem_append.1 b with b|b
  ·exact h.ok f b
  ·rw[List.mem_singleton.1 b];exact⟨t.ok,by rw[t.num];exact d⟩
 ·rcases List.mem_append.1 b with b|b
  ·exact h.cnt f b
  ·rw[List.mem_singleton.1 b];exact t.cnt
 ·cases c with
  |nil=>cases b;exact t.fol
  |cons a l=>exact h.fst f b
def tgt_read{l:List FiD}{g:FiD}{t:Sc}(c:Tgt l g.nm t)(p:numS g.nm≠0)(q:byF g<+:segL t)(d:(scF g).num≠0):Tgt l g.nm (scF g)∧∃u,t.ev=(scF g).ev++u:=by
 obtain⟨e,r⟩:=Zf2 d;have j:t.num≠0:=by rw[c.num];exact p
 obtain⟨x,m⟩:=r.trans q
 have w:Beg (scF g) t:=by
  rcases Ztv e c.ok (x:=x) (y:=[]) (by rw[m,List.append_nil])with h|h
  ·exact h
  ·obtain⟨A,v⟩:=h.len c.ok e;have f:=congrArg List.length m;rw[List.length_append]at f;have:=v (by omega);rw[←this];exact .inr ⟨j,rfl,rfl,rfl,⟨[],by simp,λ_=>rfl⟩,λh=>h⟩
 rcases w with h|⟨_,h1,h2,h3,⟨u,h4,_⟩,_⟩
 ·rw[h]at d;exact absurd rfl d
 refine⟨⟨e,h1.trans c.num,?_,?_⟩,u,h4⟩
 ·have k:=Zol c.ok j c.cnt;rw[h4,List.map_append]at k;obtain⟨b,i⟩:=cns_pre _ k;have n:=e.fin d;simp only[Wt]at n;have o:=n.1;rw[fin_s]at o;have e1:=Zvc i;have e2:=cns_le i;rw[List.getLast?_map]at e1;rw[List.length_map]at e2
  have z:(scF g).s=b:=by
   rw[e1,o,h2]
   cases(scF g).ev.getLast?<;>rfl
  rw[z,h2];omega
 ·have:=c.fol
  cases f:l.getLast? with
  |none=>rw[f]at this;rw[h2,h3];exact this
  |some a=>rw[f]at this;exact(Zqk h1 h2 h3).2 this
def run_nm:∀(l:List Stp) {d c:DiD},(∀s∈l,s.men)→(∀f∈d.fs,numS f.nm≠0)→runP d l=(c,0)→∀f∈c.fs,numS f.nm≠0
 | [],d,c,hm,hn,h=>by cases h;exact hn
 |s::l,d,c,hm,hn,h=>by
  obtain⟨o,i,m⟩:=Zgu h;have j:=hm s (by simp);refine run_nm l (λt k=>hm t (by simp[k])) (λf a=>?_) m
  cases s with
  |cre s=>cases j
  |wri s x=>cases j
  |syn s=>
   obtain⟨_,g,b,e,_⟩:=Zf4 i;rw[e]at a
   rcases Zav.1 a with rfl|⟨a,_⟩
   ·have:=hn g (Zoo b).1;rw[(Zoo b).2]at this;exact this
   ·exact hn f a
  |rem s=>obtain⟨_,_,e,_⟩:=Zfb i;rw[e]at a;exact hn f (List.mem_filter.1 a).1
  |cut s n=>
   obtain⟨_,g,b,_,_,e,_⟩:=Zkd i;rw[e]at a
   rcases Zav.1 a with rfl|⟨a,_⟩
   ·have:=hn g (Zoo b).1;rw[(Zoo b).2]at this;exact this
   ·exact hn f a
def end_open{d:DiD}(l:d.P)(w:d.dn=false)(x:d.st= -1){cb cg:Int}(U:mayC cb cg){b:List FiD}{g:FiD}(C:d.fs=b++[g])(y:numS g.nm≠0)(z:Whl b){t:Sc}(V:Tgt b g.nm t)(W:byF g<+:segL t)(A:(foldS st0 ((evG b++t.ev).map toE)).2.2=0):
  ∃k,openP d cb cg=(k,0)∧RightJ k∧k.dk.st= -1∧(∃u,evG b++t.ev=evsJ k++u)∧(evsJ k=evG (b++[g])∨(evsJ k=evG b∧(scF g).num=0))∧k.st=(foldS st0 ((evsJ k).map toE)).1∧(foldS st0 ((evsJ k).map toE)).2.2=0∧New k:=by
 have m:∀f∈d.fs,numS f.nm≠0:=λf i=>by
  rw[C]at i
  rcases List.mem_append.1 i with i|i
  ·exact z.nm f i
  ·rw[List.mem_singleton.1 i];exact y
 have F:segs d.fs=b++[g]:=(by rw[←C];exact List.filter_eq_self.2 λf i=>by simpa[isSeg]using m f i);obtain⟨E,J⟩:=Zj5 l.2.2.2 m;have D:rowsD scF d.fs=rstep scF (b.map (ptF scF),[]) g:=by unfold rowsD;rw[Zca,F,List.foldl_append,Zob scF b [] z.nm z.inr];rfl
 have L:∃R o,rowsD scF d.fs=(R.map (ptF scF),o)∧Whl R∧(∃u,evG b++t.ev=evG R++u)∧(R=b++[g]∨(R=b∧(scF g).num=0)):=by
  rw[D];unfold rstep;rw[if_neg y];by_cases h0:(scF g).num=0
  ·rw[if_neg (λc=>y (by have:=c.2.1;rw[h0]at this;exact this.symm))];exact⟨b,[g.nm],rfl,z,⟨t.ev,rfl⟩,.inr ⟨rfl,h0⟩⟩
  ·obtain⟨q,u,X⟩:=tgt_read V y W h0
   have c:mayR scF (b.map (ptF scF)) [] g:=by
    refine⟨rfl,q.num,?_⟩;have:=q.fol;rw[List.getLast?_map]
    cases hl:b.getLast? with
    |none=>trivial
    |some a=>rw[hl]at this;exact this
   rw[if_pos c];exact⟨b++[g],[],by simp,z.snoc y q,⟨u,by rw[Zcz,X,List.append_assoc]⟩,.inl rfl⟩
 obtain⟨R,o,e1,e2,⟨u,K⟩,Y⟩:=L;have M:(foldS st0 ((evG R).map toE)).2.2=0:=(by rw[K,List.map_append]at A;exact fold_pre A);obtain⟨Z,q2⟩:=goodR_fst e2.inr e2.nm e2.ok e2.cnt e2.fst M
 have h:rowK d.fs=(R.map (ptF scF),o):=by
  unfold rowK;rw[e1,E]
  dsimp only
  rw[List.getLast?_map]
  cases hq:R.getLast? with
  |none=>rfl
  |some f=>show(if(scF f).s<0 then _ else _)=_;have c:=e2.ok f (List.mem_of_getLast? hq);have:=(Zns c.1 c.2).2.1;unfold ctxOK at this;rw[if_neg (by omega)]
 obtain⟨v,c⟩:∃v,menD d=(v,0):=⟨_,Yz rfl (mend_well l w x)⟩
 have G:GoodR (rowK d.fs).1 (keptF d.fs) (baseF d.fs):=(by rw[h,E,J];exact Z);have N:=Zrs l U w G c;have O:=Znz N;have H:v.st= -1:=(Zyw l w x G (by rw[←Zm6];exact c)).2.2.1
 have n:evsJ (anewJ v cb cg (stR (rowK d.fs).1 (keptF d.fs) (baseF d.fs)).q false)=evG R:=by
  unfold evsJ;rw[if_pos O.right];have:=(men_row l.2.2.2 c).1;rw[h]at this;show(rowK v.fs).1.flatMap (·.d.ev)=_;have h2:∀r:List Pt,r.flatMap (·.d.ev)=(r.map (·.d)).flatMap (·.ev):=λr=>by rw[List.flatMap_map]
  rw[h2,this,List.map_map];unfold evG;rw[List.flatMap_map];rfl
 have Q:=c;rw[Zm6]at Q;have T:=congrArg JoD.sg (Zps l.2.2.2 G Q cb cg (stR (rowK d.fs).1 (keptF d.fs) (baseF d.fs)).q false).1;refine⟨_,N,O.right,H,⟨u,by rw[n];exact K⟩,?_,?_,by rw[n];exact M,run_nm _ (λs C=>(Zlj l.2.2.1 s C).1) m (show runP d (mendP (rowK d.fs).1 (rowK d.fs).2)=(v,0)from c),?_⟩
 ·rw[n]
  rcases Y with e|⟨e,e'⟩
  ·rw[e];exact .inl rfl
  ·rw[e];exact .inr ⟨rfl,e'⟩
 ·rw[n,O.st,h,E,J];exact q2
 ·intro p j;rw[T]at j;have j:p∈(((rowK d.fs).1).map sgOf).head?:=j;rw[h,List.head?_map,List.head?_map]at j
  cases hq:R.head? with
  |none=>rw[hq]at j;cases j
  |some f=>rw[hq]at j;cases j;exact(e2.fst f hq).2
def New.q{j:JoD}(d:New j)(b:RightJ j):j.st.q=(evsJ j).length:=by
 obtain⟨c,e,f,a,hst⟩:=d.par b;rw[Zgg b,c,hst];have:=(fold_P ((evG j.dk.fs).map toE) (show st0.P by decide)).2.1;rw[(Zvd _ _ a).2,List.length_map]at this;rw[this];show(0:Int)+_=_;omega
def cutN(g:FiD)(n:Nat):FiD:=⟨g.nm,g.su.take n,g.lo.take (n-g.su.length)⟩
def cut_open{j:JoD}(c:Fre j)(e:New j){r:List FiD}{g:FiD}(h:j.dk.fs=r++[g]){n:Nat}(K:n≤g.len):
  ∃d k,opCut j.dk g.nm n=(d,0)∧d.P∧d.st= -1∧openP d j.cb j.cg=(k,0)∧RightJ k∧k.dk.st= -1∧(∃u,evsJ j=evsJ k++u)∧k.st=(foldS st0 ((evsJ k).map toE)).1∧(foldS st0 ((evsJ k).map toE)).2.2=0:=by
 have a:=c.right;obtain⟨i,J,L,l,hst⟩:=e.par a;have p:=a.par;have m:=e.whl a;rw[h]at m;obtain⟨m,y⟩:=m.pre;have b:g∈j.dk.fs:=(by rw[h];simp);have o:fnB g.nm=true:=a.dk.2.2.1 g b
 have q:opCut j.dk g.nm n=({j.dk with fs:=withB FiD.nm j.dk.fs (cutN g n)},0):=by
  unfold opCut;rw[er_of a.dk a.up o o,if_neg (by simp),Zg6 a.dk.2.2.2 b]
  dsimp only
  rw[if_neg (by omega)];have e1:(⟨g.nm,g.su.take (n:Int).toNat,g.lo.take ((n:Int).toNat-g.su.length)⟩:FiD)=cutN g n:=by rw[Int.toNat_natCast];rfl
  rw[e1];unfold DiD.perf DiD.tick;rw[if_neg (by rw[c.st];decide),if_neg (by rw[c.st];decide)]
 have v:({j.dk with fs:=withB FiD.nm j.dk.fs (cutN g n)}:DiD).P:=by have:=Zo2 (s:=g.nm) (n:=n) a.dk;rw[q]at this;exact this
 have w:withB FiD.nm j.dk.fs (cutN g n)=r++[cutN g n]:=by
  have G:segs (withB FiD.nm j.dk.fs (cutN g n))=r++[cutN g n]:=Zl4 (g:=g) a.dk.2.2.2 (by rw[i,h]) rfl;rw[←G];refine(List.filter_eq_self.2 λf t=>?_).symm
  rcases Zav.1 t with rfl|⟨t,_⟩
  ·show decide (numS g.nm≠0)=true
   simpa using e.1 g b
  ·simpa[isSeg]using e.1 f t
 have H:byF (cutN g n)<+:segL (scF g):=(by have x:g∈segs j.dk.fs:=(by rw[i];exact b);rw[←(p.dkr.bytes p.all g x).2.1];unfold cutN;rw[byF_cut];exact List.take_prefix ..);rw[h,Zcz]at l;obtain⟨k,z,A,C,D,M,E,F,_⟩:=end_open v a.up c.st a.cfg (cb:=j.cb) (cg:=j.cg) w (e.1 g b) m y H l;exact⟨_,k,q,v,c.st,z,A,C,by rw[Zgg a,i,h,Zcz];exact D,E,F⟩
structure Sim(j:JoD)(m:Li.LiD):Prop where
 fre:Fre j
 ev:m.ev=(evsJ j).map toE
 s:m.s=j.st
 sh:m.sh=j.shut
 fr:m.fr=0
 P:m.P
def evs_shut{j:JoD}(h:RightJ j)(b:Bool):evsJ {j with shut:=b}=evsJ j:=by
 rw[Zgg h,Zgg (Ziv h b)]
def Sim.shut{j:JoD}{m:Li.LiD}(h:Sim j m):Sim {j with shut:=true} (Li.shutL m):=
 ⟨⟨Ziv h.fre.right true,h.fre.st⟩,by rw[evs_shut h.fre.right];exact h.ev,h.s,rfl,h.fr,h.P⟩
def open_nil{rm cb cg:Int}(b:0≤rm∧rm≤65536)(f:mayC cb cg):openP ⟨[],rm,-1,false⟩ cb cg=(⟨⟨[],rm,-1,false⟩,cb,cg,[],⟨0,0,[]⟩,st0,0,0,false⟩,0)∧Sim ⟨⟨[],rm,-1,false⟩,cb,cg,[],⟨0,0,[]⟩,st0,0,0,false⟩ ⟨[],st0,0,false⟩:=by
 have g:(⟨[],rm,-1,false⟩:DiD).P:=⟨⟨by simp,b.1,b.2,by show(-1:Int)≤-1;decide⟩,by show((usedL []:Nat):Int)≤rm;rw[usedL_nil];exact b.1,by simp,by simp[Go.Px.srt]⟩
 have h:DkR [] []:=⟨by simp[Go.Px.srt],rfl,by simp[inRow],by simp⟩
 have e:rowK []=([],[]):=Zcq h;obtain⟨c,d⟩:=Zj5 (l:=[]) (by simp[Go.Px.srt]) (by simp);have i:GoodR (rowK []).1 (keptF []) (baseF []):=(by rw[e,c,d];exact⟨by simp,by simp,rfl,by simp⟩);have j:menD ⟨[],rm,-1,false⟩=(⟨[],rm,-1,false⟩,0):=(by unfold menD;rw[show(rowK (⟨[],rm,-1,false⟩:DiD).fs)=([],[])from e];rfl);have a:=Zrs g f rfl i j
 have k:anewJ ⟨[],rm,-1,false⟩ cb cg (stR (rowK []).1 (keptF []) (baseF [])).q false=⟨⟨[],rm,-1,false⟩,cb,cg,[],⟨0,0,[]⟩,st0,0,0,false⟩:=by
  unfold anewJ;rw[show(rowK (⟨[],rm,-1,false⟩:DiD).fs)=([],[])from e,show keptF (⟨[],rm,-1,false⟩:DiD).fs=0 from c,show baseF (⟨[],rm,-1,false⟩:DiD).fs=st0 from d]
  first|rfl|(rw[c,d];rfl)
 have a:openP ⟨[],rm,-1,false⟩ cb cg=(anewJ ⟨[],rm,-1,false⟩ cb cg (stR (rowK []).1 (keptF []) (baseF [])).q false,0):=a;rw[k]at a;have R:=(Znz a).right;refine⟨a,⟨⟨R,rfl⟩,?_,rfl,rfl,rfl,by decide+kernel⟩⟩;rw[Zgg R];rfl
end Jou
namespace Jou
open Go Go.Px Go.Proofs Cod Seg Sgr Snp Sx Row Dsk Tryz
abbrev U16(n:Int):SV:=.val (.int .u16 n)
abbrev DeD.row(d:DeD):List SV:=[U8 d.k,I d.e.s,I d.e.a,I d.e.k,S d.e.c,I d.e.x,I d.e.y,I d.e.z]
abbrev deR(l:List DeD):LL:=l.map DeD.row
structure DeD.ok(d:DeD):Prop where
 k:0≤d.k∧d.k≤255
 a: -9223372036854775808≤d.e.a∧d.e.a≤9223372036854775807
def rem_8{k:Int}(h:0≤k):wrem k 8=k%8:=Int.tmod_eq_emod_of_nonneg h
def lone_fn(j:JoD)(c:j.ok)(d:DeD)(f:d.ok):Ct prog 31 {} [j.sv,.agg d.row] (λr=>r=[(oneP j d).1.sv,I (oneP j d).2]):=by
 have e:=rem_8 f.k.1;refine lone_nf ⟨by decide,Zaa (λh=>?_) (λh=>⟨by decide,Zaa (λb=>?_) (λb=>?_)⟩)⟩
 ·have h:d.k%8<6:=(by rw[e]at h;simpa using h);rw[show oneP j d=appP j d.e from by unfold oneP;rw[if_pos h]];exact Cl.of (Zls j c d.e f.a) ⟨_,_,_,_,_,_,_,_,_,_,_,_,_,_,_,_,_,rfl,rfl⟩
 ·have h:¬d.k%8<6:=(by rw[e]at h;simpa using h);have b:d.k%8=6:=(by rw[e]at b;simpa using b);rw[show oneP j d=synJ j from by unfold oneP;rw[if_neg h,if_pos b]];exact Cl.of (jsyn_fn j c) ⟨_,_,_,_,_,_,_,_,_,_,_,_,_,_,_,_,_,rfl,rfl⟩
 ·have h:¬d.k%8<6:=(by rw[e]at h;simpa using h);have b:¬d.k%8=6:=(by rw[e]at b;simpa using b);rw[show oneP j d=rotJ j from by unfold oneP;rw[if_neg h,if_neg b]];exact Cl.of (jrot_fn j c) ⟨_,_,_,_,_,_,_,_,_,_,_,_,_,_,_,_,_,rfl,rfl⟩
abbrev begP(a c b:Int):JoD:=⟨⟨[],a,-1,false⟩,64+c,b+1,[],⟨0,0,[]⟩,st0,0,0,false⟩
def Zp4{room b a:Int}(f:0≤room∧room≤65535)(g:0≤b∧b≤255)(h:0≤a∧a≤65535):openP ⟨[],room,-1,false⟩ (64+b) (a+1)=(begP room b a,0)∧Sim (begP room b a) ⟨[],st0,0,false⟩∧New (begP room b a):=by
 obtain⟨d,e⟩:=open_nil (rm:=room) (cb:=64+b) (cg:=a+1) (by omega) ⟨by omega,by omega,by omega,by omega⟩;exact⟨d,e,by simp,by intro p c;cases c⟩
def fre_ok{j:JoD}(h:Fre j):j.ok:=ok_of h.right (by rw[h.st];decide)
def Zzc{room b a:Int}(e:0≤room∧room≤65535)(f:0≤b∧b≤255)(g:0≤a∧a≤65535):Ct prog 30 {} [U16 room,U8 b,U16 a] (λr=>r=[(begP room b a).sv,B true]):=by
 obtain⟨i,c,_⟩:=Zp4 e f g;have e1:wcv IntKind.i64 room=room:=Zbd (by omega) (by omega);have e2:wcv IntKind.i64 b=b:=Zbd (by omega) (by omega);have j:wcv IntKind.i64 a=a:=Zbd (by omega) (by omega);refine Zz1 ?_;rw[e1,e2,j,Zac (by omega) (by omega),Zac (by omega) (by omega)];have d:(begP room b a).ok:=fre_ok c.fre;refine Cl.of (Zn1 ⟨[],room,-1,false⟩ d.dk (64+b) (a+1)) ?_;rw[i];refine⟨_,_,_,_,_,_,_,_,_,_,_,_,_,_,_,_,_,rfl,Zaa (λ_=>?_) (λh=>by simp at h)⟩;exact Cl.of (Zft _ d) ⟨_,rfl,by rw[Zd7.2 c.fre.right];rfl⟩
abbrev isJ(j:JoD)(b:LL)(c d:Int)(e:Bool)(f g:Int)(h:LL)(i k:Int)(l n:LL)(q t o p:Int)(r:Bool):Prop:=
 b=fR j.dk.fs∧c=j.dk.rm∧d=j.dk.st∧e=j.dk.dn∧f=j.cb∧g=j.cg∧h=sgR j.sg∧i=j.cx.s∧k=j.cx.a∧l=nR j.cx.m∧n=coR j.st.cs∧q=j.st.q∧t=j.st.t∧o=j.sure∧p=j.kept∧r=j.shut
def ev_eR(l:List Cod.EvD):evR l=eR (l.map toE):=by
 show _=(l.map toE).map _;rw[List.map_map];rfl
def evs_len{j:JoD}(h:RightJ j)(a:New j):(evsJ j).length≤4294967296:=by
 have:=a.q h;have:=(Zu3 h.fct.st).2.1;omega
def Zzd{d:DiD}{e:List FiD}{g:FiD}(a:d.P)(f:d.dn=false)(h:d.fs=e++[g]):Zf6 d g.nm=(g.su++g.lo,0):=by
 have b:g∈d.fs:=(by rw[h];simp);have c:=a.2.2.1 g b;unfold Zf6;rw[er_of a f c c,if_neg (by simp),Zg6 a.2.2.2 b]
def lcut_fn(y i a:Int)(V:0≤y∧y≤255)(W:0≤i∧i≤65535)(X:0≤a∧a≤65535)(l:List DeD)(hl:∀d∈l,d.ok)(a7:l.length≤140737488351232):
  Ct prog 5 {} [U8 y,U16 i,SL 8 (deR l),U16 a] (λr=>r=[B true]):=by
 obtain⟨b1,b2,b3⟩:=Zp4 (room:=60000) (by omega) V W;refine lcut_nf (Cl.of jawake_fn ⟨_,rfl,Zaa (λh=>by simp at h) (λ_=>Zaa (λ_=>rfl) (λz=>?_))⟩);have z:l.length≤40:=by simp at z;omega
 refine Cl.of (Zzc (room:=60000) (by omega) V W) ⟨_,_,_,_,_,_,_,_,_,_,_,_,_,_,_,_,_,rfl,Zaa (λh=>by simp at h) (λ_=>?_)⟩
 refine⟨λx p s v w D E F G H J L q t M N O=>∃j,isJ j p s v w D E F G H J L q t M N O∧Fre j∧New j∧0≤x∧x≤l.length,λx _ _ _ _ _ _ _ _ _ _ _ _ _ _ _ _=>(l.length-x).toNat,
  ⟨begP 60000 y i,⟨rfl,rfl,rfl,rfl,rfl,rfl,rfl,rfl,rfl,rfl,rfl,rfl,rfl,rfl,rfl,rfl⟩,b2.fre,b3,by omega,by omega⟩,?_⟩
 rintro x _ _ _ _ _ _ _ _ _ _ _ _ _ _ _ _ ⟨j,⟨rfl,rfl,rfl,rfl,rfl,rfl,rfl,rfl,rfl,rfl,rfl,rfl,rfl,rfl,rfl,rfl⟩,hF,hN,x0,hx⟩;have m:=fre_ok hF;refine Zaa (λb=>?_) (λb=>?_)
 ·have b:x<l.length:=(by simpa using b);have hd:=hl l[x.toNat] (List.getElem_mem _);have c:=lone_fn j m l[x.toNat] hd;have K:=one_kp hF l[x.toNat];refine⟨inM _ x0 b,_,_,_,_,_,_,_,_,Zbb _ l x x0 b,Zaa (λ_=>rfl) (λ_=>?_)⟩
  refine⟨λ_ p s v w D E F G H J L q t M N O=>isJ (oneP j l[x.toNat]).1 p s v w D E F G H J L q t M N O,λ_ _ _ _ _ _ _ _ _ _ _ _ _ _ _ _ _=>0,
   ⟨inM _ x0 b,_,_,_,_,_,_,_,_,Zbb _ l x x0 b,Cl.of c ⟨_,_,_,_,_,_,_,_,_,_,_,_,_,_,_,_,_,rfl,rfl,rfl,rfl,rfl,rfl,rfl,rfl,rfl,rfl,rfl,rfl,rfl,rfl,rfl,rfl,rfl,rfl⟩,Cl.of c ⟨_,_,_,_,_,_,_,_,_,_,_,_,_,_,_,_,_,rfl,rfl,rfl,rfl,rfl,rfl,rfl,rfl,rfl,rfl,rfl,rfl,rfl,rfl,rfl,rfl,rfl,rfl⟩⟩,?_⟩
  rintro _ _ _ _ _ _ _ _ _ _ _ _ _ _ _ _ _ h;rw[Zac (by omega) (by omega)];exact⟨rfl,⟨_,h,K.fre,K.nm hN,by omega,by omega⟩,mlt (by first|omega|(dsimp only;omega))⟩
 have R:=hF.right;refine Cl.of (Zi0 j m) ⟨_,rfl,Zaa (λP=>?_) (λP=>?_)⟩
 ·have Q:j.dk.fs=[]:=(by simpa using P);rw[Zgg R,Q];rfl
 have Q:j.dk.fs≠[]:=by simpa using P
 obtain⟨f,g,hs⟩:∃f g,j.dk.fs=f++[g]:=by
  rcases Y1 j.dk.fs with e|⟨f,g,e⟩
  ·exact absurd e Q
  ·exact⟨f,g,by rw[e,List.concat_eq_append]⟩
 have A:rlen (fR j.dk.fs)=f.length+1:=(by rw[hs];simp);have C:=R.dk.1.1;have a8:f.length≤64:=(by rw[hs]at C;simp at C;omega);have hw:wsub IntKind.i64 (rlen (fR j.dk.fs)) 1=(f.length:Int):=(by rw[A,Zar (by omega) (by omega)];omega);have a0:rget (fR j.dk.fs) (f.length:Int)=g.row:=(by rw[hs];simp[rget]);rw[hw];refine⟨⟨by omega,by rw[A];omega⟩,_,_,_,a0,Cl.of (Zn7 j.dk m.dk g.nm) ⟨_,_,rfl,?_⟩⟩;have a1:=Zzd R.dk R.up hs;rw[a1];have a2:g∈j.dk.fs:=(by rw[hs];simp);have a9:=Zf7 a2;have hu:=R.dk.2.1;have aa:=R.dk.1.2.2.1;have T:rlen (uR (g.su++g.lo))=g.len:=(by simp[FiD.len]);have U:wcv IntKind.i64 a=a:=Zbd (by omega) (by omega);have a3:wadd IntKind.i64 (rlen (uR (g.su++g.lo))) 1=(g.len:Int)+1:=(by rw[T,Zac (by omega) (by omega)]);obtain⟨n,hn,hnl⟩:∃n:Nat,wrem a ((g.len:Int)+1)=(n:Int)∧n≤g.len:=(by have h1:wrem a ((g.len:Int)+1)=a%((g.len:Int)+1):=Int.tmod_eq_emod_of_nonneg X.1;have h2:=Int.emod_nonneg a (show(g.len:Int)+1≠0 by omega);have h3:=Int.emod_lt_of_pos a (show(0:Int)<(g.len:Int)+1 by omega);exact⟨(a%((g.len:Int)+1)).toNat,by rw[h1];omega,by omega⟩);obtain⟨d,k,o1,o2,o3,o4,Y,o6,⟨u,Z⟩,o8,o9⟩:=cut_open hF hN hs hnl
 dsimp only
 rw[U,a3,hn];have c:=Zz0 j.dk m.dk g.nm (n:Int);rw[o1]at c;refine⟨λe p s v w=>e=0∧p=fR d.fs∧s=d.rm∧v=d.st∧w=d.dn,λ_ _ _ _ _=>0,⟨by omega,Cl.of c ⟨_,_,_,_,_,rfl,rfl,rfl,rfl,rfl,rfl,rfl⟩,Cl.of c ⟨_,_,_,_,_,rfl,rfl,rfl,rfl,rfl,rfl,rfl⟩⟩,?_⟩;rintro _ _ _ _ _ ⟨rfl,rfl,rfl,rfl,rfl⟩;refine Cl.of (Zn1 d (o2.ok (by rw[o3];decide)) j.cb j.cg) ?_;rw[o4];refine⟨_,_,_,_,_,_,_,_,_,_,_,_,_,_,_,_,_,rfl,?_⟩;have o:k.ok:=ok_of Y (by rw[o6];decide);have ab:=evs_len R hN;have ac:(evsJ k).length≤(evsJ j).length:=by rw[Z,List.length_append];omega
 have a4:(foldS st0 ((evsJ k).map toE)).2.1=(evsJ k).length:=(by rw[(Zvd _ _ o9).2,List.length_map]);refine Cl.of (Zi0 k o) ⟨_,rfl,?_⟩;have cF:=sfold_fn st0 ⟨by decide,by decide⟩ ((evsJ k).map toE) (by rw[List.length_map];omega);rw[←ev_eR,o9,a4,←o8]at cF;refine Cl.of cF ⟨_,_,_,_,_,rfl,Zaa (λ_=>?_) (λh=>by simp at h)⟩;have a5:rlen (evR (evsJ k))=(evsJ k).length:=(by simp);have a6:rlen (evR (evsJ j))=(evsJ j).length:=(by simp);refine Cl.of (Zft k o) ⟨_,rfl,?_⟩;rw[Zd7.2 Y,a5,a6];refine Zaa (λ_=>⟨⟨by omega,by omega,by omega⟩,?_⟩) (λh=>by simp at h;omega);rw[evR_take,Z,YI];have cE:=Li.esame_fn ((evsJ k).map toE) ((evsJ k).map toE) (by rw[List.length_map];omega);rw[←ev_eR]at cE;refine Cl.of cE ⟨_,rfl,Zaa (λ_=>?_) (λh=>by simp at h)⟩;exact Cl.of (srsame_fn k.st k.st (by have:=o.cs;omega) o.cl) ⟨_,rfl,by simp⟩

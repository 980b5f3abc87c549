import Derived.Test.YtgehiiginclniaaGreatDoorK14
set_option linter.all false
set_option maxRecDepth 100000
namespace Go.Proofs.YtgehiiginclniaaGreatDoor
namespace Jou
open Go Go.Px Go.Proofs Cod Seg Sgr Snp Sx Row Tryz
structure Fre(j:JoD):Prop where
 right:RightJ j
 st:j.dk.st= -1
theorem Zds(b:List Int):(bys b).length=b.length:=by simp[bys]
def fn_nm{n:Int}(h:inN n):fnB (nmG n)=true:=by rw[Zed h];exact Zpt _
def Zux{n:Int}(h:inN n):numS (nmG n)≠0:=by rw[Zed h,Zh6 h];unfold inN at h;omega
theorem Zsg{b:Int}{N:List BA}{u:Nat}{n:Int}{x y:List UInt8}(a:inN n)(c:nmG n∉N)(d:N.length<64)(e:(u:Int)+x.length+y.length≤b):can b N u [.cre (nmG n),.wri (nmG n) x,.wri (nmG n) y]:=
 ⟨fn_nm a,c,d,Zux a,fn_nm a,List.mem_cons_self,by omega,fn_nm a,List.mem_cons_self,by omega,trivial⟩
theorem Zuy{l:List FiD}{n:Int}(a:inN n)(b:∀f∈segs l,numS f.nm<n):nmG n∉l.map FiD.nm:=by
 grind [isSeg,inN,numS,Zed,Zh6,segs]
def nxt_snoc{v:WrD}{l:List SgD}{p:SgD}(h:v.j.sg=l++[p]):nxtN v=p.num+1:=by unfold nxtN;rw[h,Zae]
inductive Tds(j:JoD)(e:Cod.EvD):List Stp→Int→Int→Prop
 |rcd (gs g) (hs:segs j.dk.fs=gs++[g]) (hp:Par j (gs++[g])) (hl:(scF g).sl=false) (he:encE j.cx.s j.cx.a j.cx.m e=0):Tds j e [.wri (nmG (scF g).num) (bys (recL' j e))] (0+(recL' j e).length) j.sure
 |nws (n) (hn:inN n) (h64:j.dk.fs.length<64) (hb:∀f∈segs j.dk.fs,numS f.nm<n) (hl:∀g,(segs j.dk.fs).getLast?=some g→(scF g).sl=true∧n=(scF g).num+1) (h1:segs j.dk.fs=[]→n=1) (he:encE j.st.q j.st.t [] e=0):
   Tds j e [.cre (nmG n),.wri (nmG n) (bys (hedB j n)),.wri (nmG n) (bys (fr 2 (encL j.st.q j.st.t [] e)))] (0+(hedB j n).length+(fr 2 (encL j.st.q j.st.t [] e)).length) j.sure
 |sld (gs g) (hs:segs j.dk.fs=gs++[g]) (hp:Par j (gs++[g])) (hl:(scF g).sl=false) (hn:inN ((scF g).num+1)) (h64:j.dk.fs.length<64) (he:encE j.st.q j.st.t [] e=0):
   Tds j e [.wri (nmG (scF g).num) (bys (selB j (sgOf ⟨scF g,g.len⟩))),.syn (nmG (scF g).num),.cre (nmG ((scF g).num+1)),.wri (nmG ((scF g).num+1)) (bys (hedB j ((scF g).num+1))),.wri (nmG ((scF g).num+1)) (bys (fr 2 (encL j.st.q j.st.t [] e)))]
    (0+(selB j (sgOf ⟨scF g,g.len⟩)).length+(hedB j ((scF g).num+1)).length+(fr 2 (encL j.st.q j.st.t [] e)).length) j.st.q
def Zsh{a v w:WrD}{e:Cod.EvD}(b:begW a=some v)(d:recW v e=some w):inN (nxtN a)∧a.j.dk.fs.length<64∧encE a.j.st.q a.j.st.t [] e=0∧
  w.td=a.td++[.cre (nmG (nxtN a)),.wri (nmG (nxtN a)) (bys (hedB a.j (nxtN a))),.wri (nmG (nxtN a)) (bys (fr 2 (encL a.j.st.q a.j.st.t [] e)))]∧w.sz=a.sz+(hedB a.j (nxtN a)).length+(fr 2 (encL a.j.st.q a.j.st.t [] e)).length∧w.j.sure=a.j.sure:=by
 unfold begW at b
 split at b
 ·cases b
 rename_i hno;have c:inN (nxtN a):=Classical.byContradiction λq=>hno (.inl q)
 grind [Zae,recL',recW,encE]
def Zuz{j:JoD}(A:RightJ j){e:Cod.EvD}{w:WrD}(c:w3 j e=some w):Tds j e w.td w.sz w.j.sure:=by
 unfold w3 at c
 cases b:w2 j e with
 |none=>rw[b]at c;cases c
 |some v=>
 rw[b]at c;have c:recW v e=some w:=c;unfold w2 at b
 rcases Ze9 j A with⟨f,d⟩|⟨gs,g,f,hp,d⟩
 ·have e1:w1 j e=w0 j:=(by unfold w1;rw[d];rfl);have l:opnW (w1 j e)=false:=(by rw[e1];unfold opnW;rw[show(w0 j).j.sg=[]from d];rfl);rw[if_neg (by simp[l]),e1]at b;obtain⟨h,o,p,i,k,r⟩:=Zsh b c;have t:nxtN (w0 j)=1:=(by unfold nxtN;rw[show(w0 j).j.sg=[]from d];rfl);rw[t]at h i k;rw[i,k,r];exact .nws 1 h o (by rw[f];simp) (by rw[f];simp) (λ_=>rfl) p
 ·by_cases n:(scF g).sl=true
  ·have e1:w1 j e=w0 j:=by
    grind [Zae,sgOf,w1,ovrB]
   have l:opnW (w1 j e)=false:=(by grind [e1,Zae,sgOf,opnW,w0]);rw[if_neg (by simp[l]),e1]at b;obtain⟨h,o,p,i,k,r⟩:=Zsh b c;have t:nxtN (w0 j)=(scF g).num+1:=nxt_snoc (show(w0 j).j.sg=_ from d);rw[t]at h i k;rw[i,k,r];exact .nws _ h o (by rw[f];exact hp.big) (λx y=>by rw[f,List.getLast?_concat]at y;cases y;exact⟨n,rfl⟩) (λq=>by rw[f]at q;simp at q) p
  ·have n:(scF g).sl=false:=(by grind);by_cases z:ovrB j e=true
   ·have e1:w1 j e=sealW (w0 j) ((gs.map (ptF scF)).map sgOf) (sgOf ⟨scF g,g.len⟩):=by
     grind [Zae,w1]
    have l:opnW (w1 j e)=false:=(by grind [e1,Zae,opnW,sealW]);rw[if_neg (by simp[l]),e1]at b;obtain⟨h,o,p,i,k,r⟩:=Zsh b c;have t:nxtN (sealW (w0 j) ((gs.map (ptF scF)).map sgOf) (sgOf ⟨scF g,g.len⟩))=(scF g).num+1:=(by unfold nxtN sealW;dsimp only;rw[Zae];rfl);rw[t]at h i k;rw[i,k,r];exact .sld gs g f hp n h o p
   ·have z:ovrB j e=false:=by grind
    have e1:w1 j e=w0 j:=by
     grind [Zae,w1]
    have l:opnW (w1 j e)=true:=(by grind [e1,Zae,sgOf,opnW,w0]);rw[if_pos l,e1]at b;have b:=Option.some.inj b;subst b;unfold recW at c;rw[show(w0 j).j.sg=_ from d,Zae]at c
    dsimp only at c
    split at c
    ·cases c
    rename_i u;have u:encE j.cx.s j.cx.a j.cx.m e=0:=Yk.1 u;have c:=Option.some.inj c;rw[←c];exact .rcd gs g f hp n u
def Zz7{j:JoD}{e:Cod.EvD}{k:List Stp}{l p:Int}(q:Tds j e k l p)(v:(usedL j.dk.fs:Int)+l≤j.dk.rm):can j.dk.rm (j.dk.fs.map FiD.nm) (usedL j.dk.fs) k:=by
 cases q with
 |rcd u g b c m o=>obtain⟨r,s,b3,h,b5,t⟩:=c.in_;have a:g∈j.dk.fs:=(List.mem_filter.1 (show g∈segs j.dk.fs by rw[b];simp)).1;exact⟨fn_nm b5,Y3.2 ⟨g,a,h⟩,by rw[Zds];omega,trivial⟩
 |nws n i f w m x o=>
  grind [Zds,Zsg,Zuy]
 |sld u g b c m i f o=>obtain⟨r,s,b3,h,b5,t⟩:=c.in_;have a:g∈j.dk.fs:=(List.mem_filter.1 (show g∈segs j.dk.fs by rw[b];simp)).1;have d:nmG (scF g).num∈j.dk.fs.map FiD.nm:=Y3.2 ⟨g,a,h⟩;refine⟨fn_nm b5,d,by rw[Zds];omega,fn_nm b5,d,Zsg i (Zuy i (by rw[b];exact c.big)) (by simpa using f) ?_⟩;rw[Zds,Zds,Zds];omega
theorem Zqo(s:List SgD):(s=[]∧lasS s=none)∨∃l p,s=l++[p]∧lasS s=some (l,p):=by
 rcases Y1 s with rfl|⟨l,p,rfl⟩
 ·exact .inl ⟨rfl,rfl⟩
 grind [Zae]
def Fr0(l:List SgD):Prop:=∀p∈l.head?,p.fr=0
theorem Zhr{l:List SgD}{p q:SgD}(h:Fr0 (l++[p]))(e:q.fr=p.fr):Fr0 (l++[q]):=by
 cases l with
 |nil=>intro x b;cases b;rw[e];exact h p rfl
 |cons a l=>exact h
theorem Zz8{l:List SgD}{q:SgD}(h:Fr0 l)(e:l=[]→q.fr=0):Fr0 (l++[q]):=by
 cases l with
 |nil=>intro x b;cases b;exact e rfl
 |cons a l=>exact h
theorem recW_fr{v w:WrD}{e:Cod.EvD}(h:recW v e=some w)(a:Fr0 v.j.sg):Fr0 w.j.sg:=by
 grind [recW,Zqo,Zhr]
theorem begW_fr{v w:WrD}(h:begW v=some w)(a:Fr0 v.j.sg)(b:v.j.sg=[]→v.j.st.t=0):Fr0 w.j.sg:=by
 grind [begW,Zz8]
theorem w1_fr{j:JoD}(e:Cod.EvD)(a:Fr0 j.sg):Fr0 (w1 j e).j.sg∧((w1 j e).j.sg=[]→j.sg=[])∧(w1 j e).j.st=j.st:=by
 unfold w1
 rcases Zqo j.sg with⟨_,q⟩|⟨l,p,hs,q⟩
 ·rw[q];exact⟨a,λh=>h,rfl⟩
 rw[q]
 dsimp only
 split
 ·rw[hs]at a;exact⟨Zhr a rfl,λh=>by simp[sealW]at h,rfl⟩
 ·exact⟨a,λh=>h,rfl⟩
def w3_fr{j:JoD}{e:Cod.EvD}{w:WrD}(h:w3 j e=some w)(a:Fr0 j.sg)(b:j.sg=[]→j.st.t=0):Fr0 w.j.sg:=by
 grind [w3,w2,w1_fr,recW_fr,begW_fr]
def New(j:JoD):Prop:=(∀f∈j.dk.fs,numS f.nm≠0)∧Fr0 j.sg
def Zkh{l:List FiD}(a:Go.Px.srt FiD.nm l)(h:∀f∈l,numS f.nm≠0):keptF l=0∧baseF l=st0:=by
 have c:newF l=none:=Zqj a λt b=>by
  obtain⟨f,d,_,c,_⟩:=b
  grind [Zel]
 grind [keptF,baseF]
def New.t{j:JoD}(h:New j)(b:RightJ j)(e:j.sg=[]):j.st.t=0:=by
 have p:=b.par;have a:=p.sg;rw[e]at a;have a:segs j.dk.fs=[]:=(by simp_all);rw[p.st,a,(Zkh b.dk.2.2.2 h.1).2];rfl
structure Kp(j k:JoD):Prop where
 fre:Fre k
 cb:k.cb=j.cb
 cg:k.cg=j.cg
 kept:k.kept=j.kept
 rm:k.dk.rm=j.dk.rm
 sure:j.sure≤k.sure
 nm:New j→New k
theorem Kp.refl{j:JoD}(h:Fre j):Kp j j:=⟨h,rfl,rfl,rfl,rfl,Int.le_refl _,λh=>h⟩
def Kp.trans{a b c:JoD}(h:Kp a b)(k:Kp b c):Kp a c:=⟨k.fre,k.cb.trans h.cb,k.cg.trans h.cg,k.kept.trans h.kept,k.rm.trans h.rm,Int.le_trans h.sure k.sure,λq=>k.nm (h.nm q)⟩
def Zi6{j:JoD}(h:RightJ j)(b:Bool):RightJ {j with shut:=b}:=⟨h.cfg,h.dk,h.up,h.out,h.good,h.all,by have:=h.eq;exact congrArg (λx:JoD=>{x with shut:=b}) this,h.sure.1,h.sure.2⟩
def app_any{j:JoD}(a:RightJ j)(e:Cod.EvD):
  ((appS j.st (toE (evN j e))).2≠0∧appP j e=(j,(appS j.st (toE (evN j e))).2))∨
  ((appS j.st (toE (evN j e))).2=0∧appP j e=({j with shut:=true},13))∨
  ((appS j.st (toE (evN j e))).2=0∧j.shut=false∧∃w b c,w3 j (evN j e)=some w∧(usedL j.dk.fs:Int)+w.sz≤j.dk.rm∧Ends j.dk w.td b c∧
   ((c=0∧∃k,appP j e=(k,0)∧k.dk=b∧k.sure=w.j.sure∧Took j k (evN j e)∧(New j→New k))∨(c=16∧appP j e=({j with dk:=b},16)))):=by
 have m:appP j e=appQ j e:=(by unfold appP;rw[if_neg (by rw[Zcm.2 a];simp)]);rw[m]
 obtain⟨l,hk⟩:∃l,appQ j e=l:=⟨_,rfl⟩
 rw[hk];have n:=hk;unfold appQ at hk
 split at hk
 ·grind
 rename_i g;have f:(appS j.st (toE (evN j e))).2=0:=(by simpa using g);refine .inr ?_
 split at hk
 next d=>refine .inl ⟨f,?_⟩;rw[←hk];show(j,(13:Int))=_;rw[←d]
 rename_i d;have d:j.shut=false:=by grind
 split at hk
 ·exact .inl ⟨f,hk.symm⟩
 rename_i w h;unfold endJ at hk
 split at hk
 ·exact .inl ⟨f,hk.symm⟩
 rename_i o;obtain⟨b,c,E⟩:=Zfe w.td a.dk a.up (nms j.dk) (Zz7 (Zuz a h) (by omega));refine .inr ⟨f,d,w,b,c,h,by omega,E,?_⟩;rw[E.run]at hk
 rcases E.how with⟨i,_⟩|⟨i,_⟩
 ·rw[i]at hk;simp only[ne_eq,not_true_eq_false,if_false]at hk;refine .inl ⟨i,_,hk.symm,rfl,rfl,?_⟩;rw[←hk]at n;exact⟨Zix a n,λq=>⟨E.nm q.1,w3_fr h q.2 (q.t a)⟩⟩
 ·grind
def syn_any{j:JoD}(d:RightJ j):∃l a c,Ends j.dk l a c∧((l=[]∧∀g,(segs j.dk.fs).getLast?=some g→(scF g).sl=true)∨∃o g,segs j.dk.fs=o++[g]∧l=[.syn g.nm])∧
  ((c=0∧∃k,synJ j=(k,0)∧k.dk=a∧RightJ k∧k.st=j.st∧evsJ k=evsJ j∧k.sure=j.st.q∧k.cb=j.cb∧k.cg=j.cg∧k.shut=j.shut∧k.kept=j.kept∧(New j→New k))∨(c=16∧synJ j=({j with dk:=a},16))):=by
 have s:synJ j=synQ j:=(by unfold synJ;rw[if_neg (by rw[Zcm.2 d];simp)]);rw[s];have fin:∀l a,Ends j.dk l a 0→synQ j=({j with dk:=a,sure:=j.st.q},0)→∃k,synQ j=(k,0)∧k.dk=a∧RightJ k∧k.st=j.st∧evsJ k=evsJ j∧k.sure=j.st.q∧k.cb=j.cb∧k.cg=j.cg∧k.shut=j.shut∧k.kept=j.kept∧(New j→New k):=λl a E h=>by obtain⟨R,u,v,w,y,z,A,C,D⟩:=Zqp d h;exact⟨_,h,rfl,R,u,v,w,y,z,A,C,λq=>⟨E.nm q.1,q.2⟩⟩
 have b:Ends j.dk [] j.dk 0:=⟨rfl,d.dk,rfl,λh=>h,.inl ⟨rfl,d.up,rfl,λh=>h⟩⟩
 rcases Ze9 j d with⟨f,e⟩|⟨o,g,f,hp,e⟩
 ·exact⟨[],_,0,b,.inl ⟨rfl,by rw[f];simp⟩,.inl ⟨rfl,fin [] _ b (by unfold synQ;rw[e];rfl)⟩⟩
 ·obtain⟨F,G,b3,r,b5,H⟩:=hp.in_;by_cases hsl:(scF g).sl=true
  ·exact⟨[],_,0,b,.inl ⟨rfl,λx p=>by rw[f,List.getLast?_concat]at p;cases p;exact hsl⟩,.inl ⟨rfl,fin [] _ b (by unfold synQ;rw[e,Zae];dsimp only;rw[if_pos (show(sgOf ⟨scF g,g.len⟩).sl=true from hsl)])⟩⟩
  ·have t:g∈j.dk.fs:=(List.mem_filter.1 (show g∈segs j.dk.fs by rw[f];simp)).1;obtain⟨a,c,E⟩:=Zfe [.syn (nmG (scF g).num)] d.dk d.up (nms j.dk) ⟨fn_nm b5,Y3.2 ⟨g,t,r⟩,trivial⟩;have m:=E.run;rw[run1]at m;have m:Za0 j.dk (nmG (sgOf ⟨scF g,g.len⟩).num)=(a,c):=m;refine⟨_,a,c,E,.inr ⟨o,g,f,by rw[r]⟩,?_⟩
   have n:synQ j=if c≠0 then({j with dk:=a},c)else({j with dk:=a,sure:=j.st.q},0):=by
    unfold synQ;rw[e,Zae]
    dsimp only
    rw[if_neg (show¬(sgOf ⟨scF g,g.len⟩).sl=true from hsl),m]
   rcases E.how with⟨i,_⟩|⟨i,_⟩
   ·rw[i]at E n;exact .inl ⟨i,fin _ _ E n⟩
   ·rw[i,if_pos (show(16:Int)≠0 by decide)]at n;exact .inr ⟨i,n⟩
def rot_any{j:JoD}(e:RightJ j):rotJ j=(j,14)∨rotJ j=({j with shut:=true},13)∨∃d g a c,segs j.dk.fs=d++[g]∧Par j (d++[g])∧(scF g).sl=false∧(usedL j.dk.fs:Int)+(selB j (sgOf ⟨scF g,g.len⟩)).length≤j.dk.rm∧Ends j.dk [.wri (nmG (scF g).num) (bys (selB j (sgOf ⟨scF g,g.len⟩))),.syn (nmG (scF g).num)] a c∧
  ((c=0∧∃k,rotJ j=(k,0)∧k.dk=a∧RightJ k∧k.st=j.st∧evsJ k=evsJ j∧k.sure=j.st.q∧k.cb=j.cb∧k.cg=j.cg∧k.shut=j.shut∧k.kept=j.kept∧(New j→New k))∨(c=16∧rotJ j=({j with dk:=a},16))):=by
 have x:rotJ j=rotQ j:=(by unfold rotJ;rw[if_neg (by rw[Zcm.2 e];simp)]);rw[x]
 obtain⟨v,hk⟩:∃v,rotQ j=v:=⟨_,rfl⟩
 rw[hk];unfold rotQ at hk
 rcases Ze9 j e with⟨n,b⟩|⟨d,g,n,hp,b⟩
 ·rw[b]at hk;exact .inl hk.symm
 ·obtain⟨J,K,b3,A,b5,L⟩:=hp.in_;have y:g∈j.dk.fs:=(List.mem_filter.1 (show g∈segs j.dk.fs by rw[n];simp)).1;rw[b,Zae]at hk
  dsimp only at hk
  split at hk
  ·grind
  rename_i hno
  have p:(scF g).sl=false:=by
   cases hq:(scF g).sl with
   |false=>rfl
   |true=>exact absurd (.inl hq) hno
  refine .inr ?_;unfold endJ at hk
  split at hk
  ·exact .inl hk.symm
  rename_i m;have r:nmG (scF g).num∈j.dk.fs.map FiD.nm:=Y3.2 ⟨g,y,A⟩;have F:(sealW (w0 j) ((d.map (ptF scF)).map sgOf) (sgOf ⟨scF g,g.len⟩)).sz=0+(selB j (sgOf ⟨scF g,g.len⟩)).length:=rfl;have G:(sealW (w0 j) ((d.map (ptF scF)).map sgOf) (sgOf ⟨scF g,g.len⟩)).td=[.wri (nmG (scF g).num) (bys (selB j (sgOf ⟨scF g,g.len⟩))),.syn (nmG (scF g).num)]:=rfl;rw[F]at m;obtain⟨a,c,E⟩:=Zfe [.wri (nmG (scF g).num) (bys (selB j (sgOf ⟨scF g,g.len⟩))),.syn (nmG (scF g).num)] e.dk e.up (nms j.dk) ⟨fn_nm b5,r,by rw[Zds];omega,fn_nm b5,r,trivial⟩;rw[G,E.run]at hk;refine .inr ⟨d,g,a,c,n,hp,p,by omega,E,?_⟩
  rcases E.how with⟨t,C,_⟩|⟨t,_⟩
  ·refine .inl ⟨t,?_⟩;have h:=E.run;rw[t]at h hk;simp only[ne_eq,not_true_eq_false,if_false]at hk;refine⟨_,hk.symm,?_⟩;obtain⟨o,f,w,D,M,N⟩:=Zmz hp p h j.cb j.cg j.st.q j.shut;have i:(anewJ a j.cb j.cg j.st.q j.shut).st=j.st:=(by rw[o]);have l:(anewJ a j.cb j.cg j.st.q j.shut).kept=j.kept:=(by rw[o]);obtain⟨O,Q,R⟩:=Zek e;have s:RightJ (anewJ a j.cb j.cg j.st.q j.shut):=Zky w e.cfg E.P C (by rw[show keptF a.fs=j.kept from l];omega) (by rw[i];exact Int.le_refl _);have u:=b;have b:segs a.fs=d++[f]:=w.dkr.eq;have z:evsJ (anewJ a j.cb j.cg j.st.q j.shut)=evsJ j:=(by rw[Zb8 s,Zb8 e,n];show evG (segs a.fs)=_;rw[b,Za6,Za6,D]);have H:({(sealW (w0 j) ((d.map (ptF scF)).map sgOf) (sgOf ⟨scF g,g.len⟩)).j with dk:=a,st:=j.st}:JoD)=anewJ a j.cb j.cg j.st.q j.shut:=(by rw[o];rfl);rw[H];refine⟨rfl,s,i,z,rfl,rfl,rfl,rfl,l,λq=>⟨E.nm q.1,?_⟩⟩;rw[o];have:=q.2;rw[u]at this;exact Zhr this rfl
  grind
structure DeD where
 k:Int
 e:Cod.EvD
noncomputable def oneP(j:JoD)(d:DeD):JoD×Int:=if d.k%8<6 then appP j d.e else if d.k%8=6 then synJ j else rotJ j
end Jou
namespace Jou
open Go Go.Px Go.Proofs Cod Tryz
abbrev ec0(r:List SV)(K:LL→Int→Int→Bool→Int→Int→LL→Int→Int→LL→LL→Int→Int→Int→Int→Bool→Int→Prop):Prop:=∃h:LL,∃i:Int,∃j:Int,∃k:Bool,∃l:Int,∃m:Int,∃n:LL,∃o:Int,∃p:Int,∃q:LL,∃a:LL,∃b:Int,∃c:Int,∃d:Int,∃e:Int,∃f:Bool,∃g:Int,(r=[jr16 h i j k l m n o p q a b c d e f,I g])∧K h i j k l m n o p q a b c d e f g
abbrev ec1(r:List SV)(K:Bool→Prop):Prop:=∃a:Bool,(r=[B a])∧K a
def lbegin_nf{a t c:Int}{Q:QQ}(h:Cl prog 13 sP ([dk4 [] (wcv .i64 a) ((-1:Int)) false,SV.agg [I (wadd .i64 64 (wcv .i64 t)),I (wadd .i64 (wcv .i64 c) 1)]]) (λw=>ec0 w λl x d b e g i j k m n o p q r s u=>(ifB (ieq u 0) (Cl prog 17 sP ([jr16 l x d b e g i j k m n o p q r s]) (λv=>ec1 v λy=>(Q ([jr16 l x d b e g i j k m n o p q r s,B y])))) (Q ([jr16 l x d b e g i j k m n o p q r s,B false]))))):Ct prog 30 {} [.val (.int .u16 a),U8 t,.val (.int .u16 c)] Q:=
 fN SgT SvT func30 h
def lone_nf{rows:LL}{d a:Int}{e:Bool}{G H:Int}{segs:LL}{J K:Int}{L M:LL}{N O g i:Int}{j:Bool}{k:Int}{P R T:Int}{c:BA}{x y z:Int}{Q:QQ}(h:(((8:Int)=0)→False)∧ifB (ilt (wrem k 8) 6) (Cl prog 20 sP ([jr16 rows d a e G H segs J K L M N O g i j,ev7 P R T c x y z]) (λo=>ec0 o λl p q b r s t u v w A C D E m F n=>(Q ([jr16 l p q b r s t u v w A C D E m F,I n])))) ((((8:Int)=0)→False)∧ifB (ieq (wrem k 8) 6) (Cl prog 22 sP ([jr16 rows d a e G H segs J K L M N O g i j]) (λo=>ec0 o λl p q b r s t u v w A C D E m F n=>(Q ([jr16 l p q b r s t u v w A C D E m F,I n])))) (Cl prog 24 sP ([jr16 rows d a e G H segs J K L M N O g i j]) (λo=>ec0 o λl p q b r s t u v w A C D E m F n=>(Q ([jr16 l p q b r s t u v w A C D E m F,I n])))))):Ct prog 31 {} [jr16 rows d a e G H segs J K L M N O g i j,.agg [U8 k,I P,I R,I T,S c,I x,I y,I z]] Q:=
 fN SgT SvT func31 h
end Jou
namespace Jou
open Go Go.Px Go.Proofs Cod Seg Sgr Snp Sx Row Tryz
def lasA(a:Int)(l:List Cod.EvD):Int:=(l.getLast?.map (·.a)).getD a
def lasA_app(a:Int)(l m:List Cod.EvD):lasA a (l++m)=lasA (lasA a l) m:=by
 grind [lasA]
def fin_a(l:List Cod.EvD)(s a:Int)(m:List BA):(fin3 s a m l).2.1=lasA a l:=by
 unfold lasA
 rcases Y1 l with rfl|⟨l,e,rfl⟩
 ·rfl
 grind [Zf5]
def fin_s(l:List Cod.EvD)(s a:Int)(m:List BA):(fin3 s a m l).1=(l.getLast?.map (·.s)).getD s:=by
 rcases Y1 l with rfl|⟨l,e,rfl⟩
 ·rfl
 grind [Zf5]
def Zwd:∀{l:List Cmp.EvD} {a b:Int},Cns a l b→b=(l.getLast?.map (·.s)).getD a
 | [],a,b,h=>h.symm
 |e::l,a,b,h=>by
  have:=Zwd h.2
  grind
def cns_pre:∀(l:List Cmp.EvD) {m:List Cmp.EvD} {a c:Int},Cns a (l++m) c→∃b,Cns a l b
 | [],m,a,c,h=>⟨a,rfl⟩
 |e::l,m,a,c,h=>by obtain⟨b,d⟩:=cns_pre l h.2;exact⟨b,h.1,d⟩
theorem Zts:∀{l:List Cmp.EvD} {a b:Int},Cns a l b→0≤a→l.filter (λe=>decide (0<e.s))=l
 | [],a,b,h,h0=>rfl
 |e::l,a,b,h,h0=>by have c:=h.1;rw[List.filter_cons,decide_eq_true (show(0:Int)<e.s by omega),if_pos rfl,Zts h.2 (by omega)]
def Zwe:∀(l:List Cmp.EvD) (d:StD),(foldS d l).2.2=0→(foldS d l).1.t=(l.getLast?.map (·.a)).getD d.t∧(foldS d l).2.1=l.length
 | [],d,h=>⟨rfl,rfl⟩
 |e::l,d,h=>by
  rw[foldS]at h⊢;by_cases h2:(appS d e).2≠0
  ·grind
  ·rw[if_neg h2]at h⊢;obtain⟨a,b⟩:=Zwe l _ h
   grind [List.getLast?_cons,appS,foldS,Zsa]
def row_a:∀(b:List FiD) (p:Option Sc) (a:Int),inRow scF p b→(∀f∈b,ScOK (scF f)∧(scF f).num≠0)→(match p with|none=>∀f∈b.head?,(scF f).ba=a|some x=>x.a=a)→lasA a (evG b)=(b.getLast?.map λg=>(scF g).a).getD a
 | [],p,a,_,_,_=>rfl
 |f::l,p,a,hi,hn,hp=>by
  obtain⟨m,d,e⟩:=hi
  have j:(scF f).ba=a:=by
   cases p with
   |none=>exact hp f rfl
   |some x=>exact d.2.2.2.trans hp
  obtain⟨h,i⟩:=hn f (by simp);have k:lasA a (scF f).ev=(scF f).a:=(by have:=h.fin i;simp only[Wq]at this;rw[this.2.1,fin_a,j]);rw[show evG (f::l)=(scF f).ev++evG l from rfl,lasA_app,k,row_a l (some (scF f)) (scF f).a e (λg c=>hn g (by simp[c])) rfl,List.getLast?_cons]
  cases l.getLast?<;>rfl
theorem Zwf(a:List FiD):evsR (a.map (ptF scF))=(evG a).map toE:=by
 grind [List.flatMap_map,List.map_flatMap,evsR,evG]
def las_toE(l:List Cod.EvD):((l.map toE).getLast?.map (·.a)).getD 0=lasA 0 l:=by
 unfold lasA;rw[List.getLast?_map]
 cases l.getLast?<;>rfl
def goodR_fst{b:List FiD}(i:inRow scF none b)(m:∀f∈b,numS f.nm≠0)(n:∀f∈b,ScOK (scF f)∧(scF f).num≠0)(j:∀f∈b,((scF f).ev.length:Int)=(scF f).s-(scF f).bs)(o:∀f∈b.head?,(scF f).bs=0∧(scF f).ba=0)
  (h:(foldS st0 ((evG b).map toE)).2.2=0):GoodR (b.map (ptF scF)) 0 st0∧stR (b.map (ptF scF)) 0 st0=(foldS st0 ((evG b).map toE)).1:=by
 have k:(evsR (b.map (ptF scF))).filter (λe=>decide (0<e.s))=(evG b).map toE:=by
  rw[Zwf]
  rcases Y1 b with rfl|⟨l,g,rfl⟩
  ·rfl
  ·rw[List.concat_eq_append]at*;obtain⟨f,d⟩:∃f,(l++[g]).head?=some f:=by grind
   have r:=Zs9 l g i m (λp c=>by obtain⟨f,d,rfl⟩:=Y3.1 c;exact j f d) (ptF scF f) (by rw[List.head?_map,d];rfl)
   grind [Zwf,Zts,scF]
 have hst:stR (b.map (ptF scF)) 0 st0=(foldS st0 ((evG b).map toE)).1:=(by grind [stR]);refine⟨⟨λp c=>?_,λp c=>?_,by rw[k];exact h,λp c=>?_⟩,hst⟩
 ·rw[List.head?_map]at c;obtain⟨f,d,rfl⟩:=Option.map_eq_some_iff.1 c
  grind
 ·grind
 ·rw[List.getLast?_map]at c;obtain⟨f,d,rfl⟩:=Option.map_eq_some_iff.1 c;have q:=row_a b none 0 i n (λf d=>(o f d).2);rw[d]at q;have u:=(Zwe _ _ h).1;have v:((evG b).map toE|>.getLast?.map (·.a)).getD st0.t=_:=las_toE (evG b)
  grind
def New.par{j:JoD}(c:New j)(i:RightJ j):segs j.dk.fs=j.dk.fs∧j.kept=0∧(∀f∈j.dk.fs.head?,(scF f).bs=0∧(scF f).ba=0)∧(foldS st0 ((evG j.dk.fs).map toE)).2.2=0∧j.st=(foldS st0 ((evG j.dk.fs).map toE)).1:=by
 have p:=i.par;have m:segs j.dk.fs=j.dk.fs:=List.filter_eq_self.2 λf a=>by simpa[isSeg]using c.1 f a
 rw[m]at p;obtain⟨k,q⟩:=Zkh i.dk.2.2.2 c.1;have b:=p.good;rw[k,q]at b;have d:=p.dkr.bytes p.all;have n:∀f∈j.dk.fs.head?,(scF f).bs=0∧(scF f).ba=0:=λf a=>by have u:f∈j.dk.fs:=List.mem_of_head? a;obtain⟨r,_,b3,t⟩:=d f u;have o:=(r.head (by rw[b3];exact t)).2;unfold ctxOK at o;have w:(scF f).bs≤0:=b.bs (ptF scF f) (by rw[List.head?_map,a];rfl);have v:=c.2 (sgOf (ptF scF f)) (by rw[p.sg,List.head?_map,List.head?_map,a];rfl);exact⟨by omega,v⟩
 have h:(evsR (j.dk.fs.map (ptF scF))).filter (λe=>decide (0<e.s))=(evG j.dk.fs).map toE:=by
  rw[Zwf]
  rcases Y1 j.dk.fs with e|⟨l,g,e⟩
  ·rw[e];rfl
  ·rw[List.concat_eq_append]at e;rw[e]at n d b p⊢;obtain⟨f,a⟩:∃f,(l++[g]).head?=some f:=by grind
   have o:=Zs9 l g p.dkr.inr (λf a=>(d f a).2.2.2) b.cnt (ptF scF f) (by rw[List.head?_map,a];rfl)
   grind [Zwf,Zts,scF]
 refine⟨m,by rw[p.kept,k],n,by have:=b.app;rw[h]at this;exact this,?_⟩
 grind [p.st,stR]
def fold_pre{l m:List Cmp.EvD}{d:StD}(h:(foldS d (l++m)).2.2=0):(foldS d l).2.2=0:=Classical.byContradiction λq=>Zh2 l m d q h
structure Whl(gs:List FiD):Prop where
 inr:inRow scF none gs
 nm:∀f∈gs,numS f.nm≠0
 ok:∀f∈gs,ScOK (scF f)∧(scF f).num≠0
 cnt:∀f∈gs,((scF f).ev.length:Int)=(scF f).s-(scF f).bs
 fst:∀f∈gs.head?,(scF f).bs=0∧(scF f).ba=0
structure Tgt(gs:List FiD)(s:BA)(t:Sc):Prop where
 ok:ScOK t
 num:t.num=numS s
 cnt:(t.ev.length:Int)=t.s-t.bs
 fol:match gs.getLast? with|none=>t.bs=0∧t.ba=0|some a=>foll t (scF a)
def New.whl{j:JoD}(a:New j)(b:RightJ j):Whl j.dk.fs:=by
 obtain⟨d,h,e,g,hst⟩:=a.par b;have p:=b.par;rw[d]at p;have i:=p.dkr.bytes p.all;refine⟨p.dkr.inr,a.1,λf c=>?_,λf c=>p.good.cnt (ptF scF f) (Y3.2 ⟨f,c,rfl⟩),e⟩
 grind
def Whl.pre{c:List FiD}{g:FiD}(h:Whl (c++[g])):Whl c∧Tgt c g.nm (scF g):=by
 have d:=h.inr;rw[Zc2]at d;refine⟨⟨d.1,λf b=>h.nm f (by simp[b]),λf b=>h.ok f (by simp[b]),λf b=>h.cnt f (by simp[b]),λf b=>?_⟩,⟨(h.ok g (by simp)).1,d.2.1,h.cnt g (by simp),?_⟩⟩
 ·cases c with
  |nil=>cases b
  |cons a l=>exact h.fst f b
 ·have e:=d.2.2
  cases hl:c.getLast? with
  |none=>have:c=[]:=WG.1 hl;subst this;exact h.fst g rfl
  |some a=>rw[hl]at e;exact e
def Whl.snoc{c:List FiD}{g:FiD}(h:Whl c)(d:numS g.nm≠0)(t:Tgt c g.nm (scF g)):Whl (c++[g]):=by
 refine⟨?_,λf b=>?_,λf b=>?_,λf b=>?_,λf b=>?_⟩
 ·rw[Zc2];refine⟨h.inr,t.num,?_⟩;have:=t.fol
  grind
 ·rcases List.mem_append.1 b with b|b
  ·exact h.nm f b
  grind
 ·rcases List.mem_append.1 b with b|b
  ·exact h.ok f b
  ·rw[List.mem_singleton.1 b];exact⟨t.ok,by rw[t.num];exact d⟩
 ·rcases List.mem_append.1 b with b|b
  ·exact h.cnt f b
  ·rw[List.mem_singleton.1 b];exact t.cnt
 ·cases c with
  |nil=>cases b;exact t.fol
  |cons a l=>exact h.fst f b
def tgt_read{i:List FiD}{g:FiD}{t:Sc}(a:Tgt i g.nm t)(q:numS g.nm≠0)(m:byF g<+:segL t)(c:(scF g).num≠0):Tgt i g.nm (scF g)∧∃u,t.ev=(scF g).ev++u:=by
 obtain⟨d,n⟩:=Zga c;have j:t.num≠0:=(by grind [a.num]);obtain⟨x,o⟩:=n.trans m
 have p:Beg (scF g) t:=by
  rcases seg_cmp d a.ok (x:=x) (y:=[]) (by rw[o,List.append_nil])with h|h
  ·exact h
  ·obtain⟨r,v⟩:=h.len a.ok d
   grind
 rcases p with h|⟨_,h1,h2,h3,⟨u,h4,_⟩,_⟩
 ·rw[h]at c;exact absurd rfl c
 refine⟨⟨d,h1.trans a.num,?_,?_⟩,u,h4⟩
 ·have f:=Zpc a.ok j a.cnt;rw[h4,List.map_append]at f;obtain⟨b,e⟩:=cns_pre _ f;have k:=d.fin c;simp only[Wq]at k;have l:=k.1;rw[fin_s]at l;have e1:=Zwd e;have e2:=cns_le e;rw[List.getLast?_map]at e1;rw[List.length_map]at e2
  have w:(scF g).s=b:=by
   rw[e1,l,h2]
   cases(scF g).ev.getLast?<;>rfl
  omega
 ·have:=a.fol
  grind [Zrd]
def run_nm:∀(l:List Stp) {d c:DiD},(∀s∈l,s.men)→(∀f∈d.fs,numS f.nm≠0)→runP d l=(c,0)→∀f∈c.fs,numS f.nm≠0
 | [],d,c,hm,hn,h=>by cases h;exact hn
 |s::l,d,c,hm,hn,h=>by
  obtain⟨o,i,m⟩:=Zfq h;have j:=hm s (by simp);refine run_nm l (λt k=>hm t (by simp[k])) (λf a=>?_) m
  cases s with
  |cre s=>cases j
  |wri s x=>cases j
  |syn s=>
   obtain⟨_,g,b,e,_⟩:=Zgc i;rw[e]at a
   rcases Zas.1 a with rfl|⟨a,_⟩
   ·have:=hn g (Zpd b).1;rw[(Zpd b).2]at this;exact this
   grind
  |rem s=>obtain⟨_,_,e,_⟩:=Zfh i;rw[e]at a;exact hn f (List.mem_filter.1 a).1
  |cut s n=>
   obtain⟨_,g,b,_,_,e,_⟩:=Zkq i;rw[e]at a
   rcases Zas.1 a with rfl|⟨a,_⟩
   ·have:=hn g (Zpd b).1;rw[(Zpd b).2]at this;exact this
   grind
def end_open{d:DiD}(l:d.P)(w:d.dn=false)(x:d.st= -1){C D:Int}(W:mayC C D){b:List FiD}{g:FiD}(E:d.fs=b++[g])(y:numS g.nm≠0)(z:Whl b){t:Sc}(X:Tgt b g.nm t)(Y:byF g<+:segL t)(A:(foldS st0 ((evG b++t.ev).map toE)).2.2=0):
  ∃k,openP d C D=(k,0)∧RightJ k∧k.dk.st= -1∧(∃u,evG b++t.ev=evsJ k++u)∧(evsJ k=evG (b++[g])∨(evsJ k=evG b∧(scF g).num=0))∧k.st=(foldS st0 ((evsJ k).map toE)).1∧(foldS st0 ((evsJ k).map toE)).2.2=0∧New k:=by
 have m:∀f∈d.fs,numS f.nm≠0:=λf i=>by
  rw[E]at i
  rcases List.mem_append.1 i with i|i
  ·exact z.nm f i
  ·rw[List.mem_singleton.1 i];exact y
 have H:segs d.fs=b++[g]:=(by rw[←E];exact List.filter_eq_self.2 λf i=>by simpa[isSeg]using m f i);obtain⟨G,L⟩:=Zkh l.2.2.2 m;have F:rowsD scF d.fs=rstep scF (b.map (ptF scF),[]) g:=by unfold rowsD;rw[Zcg,H,List.foldl_append,Zoz scF b [] z.nm z.inr];rfl
 have N:∃R o,rowsD scF d.fs=(R.map (ptF scF),o)∧Whl R∧(∃u,evG b++t.ev=evG R++u)∧(R=b++[g]∨(R=b∧(scF g).num=0)):=by
  rw[F];unfold rstep;rw[if_neg y];by_cases h0:(scF g).num=0
  ·rw[if_neg (λc=>y (by have:=c.2.1;rw[h0]at this;exact this.symm))];exact⟨b,[g.nm],rfl,z,⟨t.ev,rfl⟩,.inr ⟨rfl,h0⟩⟩
  ·obtain⟨q,u,Z⟩:=tgt_read X y Y h0
   have c:mayR scF (b.map (ptF scF)) [] g:=by
    refine⟨rfl,q.num,?_⟩;have:=q.fol;rw[List.getLast?_map]
    cases hl:b.getLast? with
    |none=>trivial
    |some a=>rw[hl]at this;exact this
   rw[if_pos c];exact⟨b++[g],[],by simp,z.snoc y q,⟨u,by rw[Za6,Z,List.append_assoc]⟩,.inl rfl⟩
 obtain⟨R,o,e1,e2,⟨u,M⟩,e4⟩:=N;have Q:(foldS st0 ((evG R).map toE)).2.2=0:=(by rw[M,List.map_append]at A;exact fold_pre A);obtain⟨q1,q2⟩:=goodR_fst e2.inr e2.nm e2.ok e2.cnt e2.fst Q
 have h:rowK d.fs=(R.map (ptF scF),o):=by
  unfold rowK;rw[e1,G]
  dsimp only
  rw[List.getLast?_map]
  cases hq:R.getLast? with
  |none=>rfl
  |some f=>show(if(scF f).s<0 then _ else _)=_;have c:=e2.ok f (List.mem_of_getLast? hq);have:=(Zoh c.1 c.2).2.1;unfold ctxOK at this;rw[if_neg (by omega)]
 obtain⟨v,c⟩:∃v,menD d=(v,0):=⟨_,YA rfl (mend_well l w x)⟩
 have J:GoodR (rowK d.fs).1 (keptF d.fs) (baseF d.fs):=(by rw[h,G,L];exact q1);have T:=Zon l W w J c;have O:=Zi7 T;have K:v.st= -1:=(Zn8 l w x J (by rw[←Zid];exact c)).2.2.1
 have n:evsJ (anewJ v C D (stR (rowK d.fs).1 (keptF d.fs) (baseF d.fs)).q false)=evG R:=by
  unfold evsJ;rw[if_pos O.right];have:=(men_row l.2.2.2 c).1;rw[h]at this;show(rowK v.fs).1.flatMap (·.d.ev)=_;have h2:∀r:List Pt,r.flatMap (·.d.ev)=(r.map (·.d)).flatMap (·.ev):=λr=>by rw[List.flatMap_map]
  rw[h2,this,List.map_map];unfold evG;rw[List.flatMap_map];rfl
 have U:=c;rw[Zid]at U;have V:=congrArg JoD.sg (Zqi l.2.2.2 J U C D (stR (rowK d.fs).1 (keptF d.fs) (baseF d.fs)).q false).1;refine⟨_,T,O.right,K,⟨u,by rw[n];exact M⟩,?_,?_,by rw[n];exact Q,run_nm _ (λs E=>(Zie l.2.2.1 s E).1) m (show runP d (mendP (rowK d.fs).1 (rowK d.fs).2)=(v,0)from c),?_⟩
 ·rw[n]
  rcases e4 with e|⟨e,e'⟩
  ·rw[e];exact .inl rfl
  ·rw[e];exact .inr ⟨rfl,e'⟩
 ·rw[n,O.st,h,G,L];exact q2
 ·intro p j;rw[V]at j;have j:p∈(((rowK d.fs).1).map sgOf).head?:=j;rw[h,List.head?_map,List.head?_map]at j
  cases hq:R.head? with
  |none=>rw[hq]at j;cases j
  |some f=>rw[hq]at j;cases j;exact(e2.fst f hq).2
def New.q{j:JoD}(d:New j)(b:RightJ j):j.st.q=(evsJ j).length:=by
 obtain⟨c,e,f,a,hst⟩:=d.par b;rw[Zb8 b,c,hst];have:=(fold_P ((evG j.dk.fs).map toE) (show st0.P by decide)).2.1;rw[(Zwe _ _ a).2,List.length_map]at this;rw[this];show(0:Int)+_=_;omega
structure Sim(j:JoD)(m:Li.LiD):Prop where
 fre:Fre j
 ev:m.ev=(evsJ j).map toE
 s:m.s=j.st
 sh:m.sh=j.shut
 fr:m.fr=0
 P:m.P
def Zvj{j:JoD}(h:RightJ j)(b:Bool):evsJ {j with shut:=b}=evsJ j:=by
 rw[Zb8 h,Zb8 (Zi6 h b)]
def Zvk{rm cb cg:Int}(b:0≤rm∧rm≤65536)(f:mayC cb cg):openP ⟨[],rm,-1,false⟩ cb cg=(⟨⟨[],rm,-1,false⟩,cb,cg,[],⟨0,0,[]⟩,st0,0,0,false⟩,0)∧Sim ⟨⟨[],rm,-1,false⟩,cb,cg,[],⟨0,0,[]⟩,st0,0,0,false⟩ ⟨[],st0,0,false⟩:=by
 have g:(⟨[],rm,-1,false⟩:DiD).P:=⟨⟨by simp,b.1,b.2,by show(-1:Int)≤-1;decide⟩,by show((usedL []:Nat):Int)≤rm;rw[Zrq];exact b.1,by simp,by simp[Go.Px.srt]⟩
 have h:DkR [] []:=⟨by simp[Go.Px.srt],rfl,by simp[inRow],by simp⟩
 have e:rowK []=([],[]):=Zcx h;obtain⟨c,d⟩:=Zkh (l:=[]) (by simp[Go.Px.srt]) (by simp);have i:GoodR (rowK []).1 (keptF []) (baseF []):=(by rw[e,c,d];exact⟨by simp,by simp,rfl,by simp⟩);have j:menD ⟨[],rm,-1,false⟩=(⟨[],rm,-1,false⟩,0):=(by unfold menD;rw[show(rowK (⟨[],rm,-1,false⟩:DiD).fs)=([],[])from e];rfl);have a:=Zon g f rfl i j
 have k:anewJ ⟨[],rm,-1,false⟩ cb cg (stR (rowK []).1 (keptF []) (baseF [])).q false=⟨⟨[],rm,-1,false⟩,cb,cg,[],⟨0,0,[]⟩,st0,0,0,false⟩:=by
  unfold anewJ;rw[show(rowK (⟨[],rm,-1,false⟩:DiD).fs)=([],[])from e,show keptF (⟨[],rm,-1,false⟩:DiD).fs=0 from c,show baseF (⟨[],rm,-1,false⟩:DiD).fs=st0 from d]
  first|rfl|(rw[c,d];rfl)
 have a:openP ⟨[],rm,-1,false⟩ cb cg=(anewJ ⟨[],rm,-1,false⟩ cb cg (stR (rowK []).1 (keptF []) (baseF [])).q false,0):=a;rw[k]at a;have R:=(Zi7 a).right;refine⟨a,⟨⟨R,rfl⟩,?_,rfl,rfl,rfl,by decide+kernel⟩⟩;rw[Zb8 R];rfl
end Jou
namespace Jou
open Go Go.Px Go.Proofs Cod Seg Sgr Snp Sx Row Dsk Tryz
abbrev U16(n:Int):SV:=.val (.int .u16 n)
abbrev DeD.row(d:DeD):List SV:=[U8 d.k,I d.e.s,I d.e.a,I d.e.k,S d.e.c,I d.e.x,I d.e.y,I d.e.z]
abbrev deR(l:List DeD):LL:=l.map DeD.row
structure DeD.ok(d:DeD):Prop where
 k:0≤d.k∧d.k≤255
 a: -9223372036854775808≤d.e.a∧d.e.a≤9223372036854775807
def rem_8{k:Int}(h:0≤k):wrem k 8=k%8:=Int.tmod_eq_emod_of_nonneg h
def lone_fn(j:JoD)(c:j.ok)(d:DeD)(f:d.ok):Ct prog 31 {} [j.sv,.agg d.row] (λr=>r=[(oneP j d).1.sv,I (oneP j d).2]):=by
 have e:=rem_8 f.k.1;refine lone_nf ⟨by decide,Zaa (λh=>?_) (λh=>⟨by decide,Zaa (λb=>?_) (λb=>?_)⟩)⟩
 ·have h:d.k%8<6:=(by rw[e]at h;simpa using h);rw[show oneP j d=appP j d.e from by unfold oneP;rw[if_pos h]];exact Cl.of (Zme j c d.e f.a) ⟨_,_,_,_,_,_,_,_,_,_,_,_,_,_,_,_,_,rfl,rfl⟩
 ·have h:¬d.k%8<6:=(by rw[e]at h;simpa using h);have b:d.k%8=6:=(by rw[e]at b;simpa using b);rw[show oneP j d=synJ j from by unfold oneP;rw[if_neg h,if_pos b]];exact Cl.of (jsyn_fn j c) ⟨_,_,_,_,_,_,_,_,_,_,_,_,_,_,_,_,_,rfl,rfl⟩
 ·have h:¬d.k%8<6:=(by rw[e]at h;simpa using h);have b:¬d.k%8=6:=(by rw[e]at b;simpa using b);rw[show oneP j d=rotJ j from by unfold oneP;rw[if_neg h,if_neg b]];exact Cl.of (jrot_fn j c) ⟨_,_,_,_,_,_,_,_,_,_,_,_,_,_,_,_,_,rfl,rfl⟩
abbrev begP(a c b:Int):JoD:=⟨⟨[],a,-1,false⟩,64+c,b+1,[],⟨0,0,[]⟩,st0,0,0,false⟩
def Zk7{room b a:Int}(f:0≤room∧room≤65535)(g:0≤b∧b≤255)(h:0≤a∧a≤65535):openP ⟨[],room,-1,false⟩ (64+b) (a+1)=(begP room b a,0)∧Sim (begP room b a) ⟨[],st0,0,false⟩∧New (begP room b a):=by
 obtain⟨d,e⟩:=Zvk (rm:=room) (cb:=64+b) (cg:=a+1) (by omega) ⟨by omega,by omega,by omega,by omega⟩;exact⟨d,e,by simp,by intro p c;cases c⟩
def fre_ok{j:JoD}(h:Fre j):j.ok:=ok_of h.right (by rw[h.st];decide)
def lbegin_fn{room b a:Int}(e:0≤room∧room≤65535)(f:0≤b∧b≤255)(g:0≤a∧a≤65535):Ct prog 30 {} [U16 room,U8 b,U16 a] (λr=>r=[(begP room b a).sv,B true]):=by
 obtain⟨i,c,_⟩:=Zk7 e f g;have e1:wcv IntKind.i64 room=room:=Zbe (by omega) (by omega);have e2:wcv IntKind.i64 b=b:=Zbe (by omega) (by omega);have j:wcv IntKind.i64 a=a:=Zbe (by omega) (by omega);refine lbegin_nf ?_;rw[e1,e2,j,Zac,Zac];have d:(begP room b a).ok:=fre_ok c.fre;refine Cl.of (Zkk ⟨[],room,-1,false⟩ d.dk (64+b) (a+1)) ?_;rw[i];refine⟨_,_,_,_,_,_,_,_,_,_,_,_,_,_,_,_,_,rfl,Zaa (λ_=>?_) (λh=>by simp at h)⟩;exact Cl.of (Zf0 _ d) ⟨_,rfl,by rw[Zec.2 c.fre.right];rfl⟩
abbrev isJ(j:JoD)(b:LL)(c d:Int)(e:Bool)(f g:Int)(h:LL)(i k:Int)(l n:LL)(q t o p:Int)(r:Bool):Prop:=
 b=fR j.dk.fs∧c=j.dk.rm∧d=j.dk.st∧e=j.dk.dn∧f=j.cb∧g=j.cg∧h=sgR j.sg∧i=j.cx.s∧k=j.cx.a∧l=nR j.cx.m∧n=coR j.st.cs∧q=j.st.q∧t=j.st.t∧o=j.sure∧p=j.kept∧r=j.shut
def ev_eR(l:List Cod.EvD):evR l=eR (l.map toE):=by
 show _=(l.map toE).map _;rw[List.map_map];rfl
end Jou
namespace Jou
open Go Go.Px Go.Proofs Cod Tryz
abbrev eq0(r:List SV)(K:Bool→Prop):Prop:=∃a:Bool,(r=[B a])∧K a
abbrev eq1(r:List SV)(K:LL→Int→Int→Bool→Int→Int→LL→Int→Int→LL→LL→Int→Int→Int→Int→Bool→Bool→Prop):Prop:=∃h:LL,∃i:Int,∃j:Int,∃k:Bool,∃l:Int,∃m:Int,∃n:LL,∃o:Int,∃p:Int,∃q:LL,∃a:LL,∃b:Int,∃c:Int,∃d:Int,∃e:Int,∃f:Bool,∃g:Bool,(r=[jr16 h i j k l m n o p q a b c d e f,B g])∧K h i j k l m n o p q a b c d e f g
abbrev eq2(r:List SV)(K:LL→Prop):Prop:=∃a:LL,(r=[SL 8 a])∧K a
abbrev eq3(r:List SV)(K:Int→Prop):Prop:=∃a:Int,(r=[U8 a])∧K a
abbrev eq4(r:List SV)(K:Int→Int→Int→Int→BA→Int→Int→Int→Prop):Prop:=∃a:Int,∃b:Int,∃c:Int,∃d:Int,∃e:BA,∃f:Int,∃g:Int,∃h:Int,(r=[U8 a,I b,I c,I d,S e,I f,I g,I h])∧K a b c d e f g h
abbrev eq5(r:List SV)(K:LL→Int→Int→Bool→Int→Int→LL→Int→Int→LL→LL→Int→Int→Int→Int→Bool→Int→Prop):Prop:=∃h:LL,∃i:Int,∃j:Int,∃k:Bool,∃l:Int,∃m:Int,∃n:LL,∃o:Int,∃p:Int,∃q:LL,∃a:LL,∃b:Int,∃c:Int,∃d:Int,∃e:Int,∃f:Bool,∃g:Int,(r=[jr16 h i j k l m n o p q a b c d e f,I g])∧K h i j k l m n o p q a b c d e f g
abbrev eq6(r:List SV)(K:LL→Int→Int→Bool→Int→Prop):Prop:=∃a:LL,∃b:Int,∃c:Int,∃d:Bool,∃e:Int,(r=[dk4 a b c d,I e])∧K a b c d e
abbrev eq7(r:List SV)(K:LL→Prop):Prop:=∃a:LL,(r=[SL 7 a])∧K a
abbrev eq8(r:List SV)(K:LL→Int→Int→Int→Int→Prop):Prop:=∃a:LL,∃b:Int,∃c:Int,∃d:Int,∃e:Int,(r=[st3 a b c,I d,I e])∧K a b c d e
def llasts_nf{bt ax:Int}{a X ab:LL}{Q:QQ}(h:Cl prog 10 sP [] (λrs=>eq0 rs λb=>(ifB (bnot b) (Q [B false]) (ifB (bpick (igt (rlen a) 6) true (igt (rlen ab) 9)) (Q [B true]) (Cl prog 30 sP [SV.int .u16 60000,U8 bt,SV.int .u16 ax] (λbu=>eq1 bu λl x x1 b1 x2 x3 l1 x4 x5 l2 l3 x6 x7 x8 x9 b2 b3=>(ifB (bnot b3) (Q [B false]) (∃av:LL→Int→LL→Int→Int→Bool→Int→Int→LL→Int→Int→LL→LL→Int→Int→Int→Int→Bool→Prop,∃m:LL→Int→LL→Int→Int→Bool→Int→Int→LL→Int→Int→LL→LL→Int→Int→Int→Int→Bool→Nat,(av [] 0 l x x1 b1 x2 x3 l1 x4 x5 l2 l3 x6 x7 x8 x9 b2)∧∀l4 c,∀l5 ak,∀aw b4,∀al am,∀l6 an,∀ao l7,∀l8 ap,∀aq ar,∀au b5,(av l4 c l5 ak aw b4 al am l6 an ao l7 l8 ap aq ar au b5)→ifB (ilt c (rlen a)) ((inR c a)∧eq2 (rget a c) λl9=>(ifB (igt (rlen l9) 20) (Q [B true]) (∃ac:LL→Int→Int→Bool→Int→Int→LL→Int→Int→LL→LL→Int→Int→Int→Int→Bool→Prop,∃m1:LL→Int→Int→Bool→Int→Int→LL→Int→Int→LL→LL→Int→Int→Int→Int→Bool→Nat,(ifB (ilt c (rlen X)) ((inR c X)∧eq3 (rget X c) λag=>((((60:Int)=0)→False)∧(sm ([[SV.gd 0 true (SL 7 l4)]]))∧ac l5 ak (wrem (wcv .i64 ag) 60) b4 al am l6 an ao l7 l8 ap aq ar au b5)) ((sm ([[SV.gd 0 true (SL 7 l4)]]))∧ac l5 ak aw b4 al am l6 an ao l7 l8 ap aq ar au b5))∧∀bf ag,∀bg b6,∀bh bi,∀bj bk,∀bl bm,∀bn bo,∀bp bq,∀br b7,(ac bf ag bg b6 bh bi bj bk bl bm bn bo bp bq br b7)→∃ad:LL→Int→LL→Int→Int→Bool→Int→Int→LL→Int→Int→LL→LL→Int→Int→Int→Int→Bool→Prop,∃m2:LL→Int→LL→Int→Int→Bool→Int→Int→LL→Int→Int→LL→LL→Int→Int→Int→Int→Bool→Nat,(ad l4 0 bf ag bg b6 bh bi bj bk bl bm bn bo bp bq br b7)∧∀E u,∀J K,∀L b8,∀F G,∀O P,∀R T,∀U H,∀V M,∀W b9,(ad E u J K L b8 F G O P R T U H V M W b9)→(inR c a)∧eq2 (rget a c) λbv=>(ifB (bpick (ilt u (rlen bv)) (bnot b8) false) ((inR c a)∧eq2 (rget a c) λah=>((inR u ah)∧eq4 (rget ah u) λay az b0 Y s Z a1 a2=>(ifB (igt (slen s) 100) (Q [B true]) (∃ae:Int→LL→Int→Int→Bool→Int→Int→LL→Int→Int→LL→LL→Int→Int→Int→Int→Bool→Prop,∃m3:Int→LL→Int→Int→Bool→Int→Int→LL→Int→Int→LL→LL→Int→Int→Int→Int→Bool→Nat,((inR c a)∧eq2 (rget a c) λi=>((inR u i)∧eq4 (rget i u) λv r j n s1 o t D=>((Cl prog 31 sP ([jr16 J K L b8 F G O P R T U H V M W b9,SV.agg [U8 v,I r,I j,I n,S s1,I o,I t,I D]]) (λa9=>eq5 a9 λp w y z A C q a0 a3 e d a4 a5 a6 a7 g a8=>((sm ([[SL 3 J,I K,I L,B b8,I F,I G,SL 7 O,I P,I R,SL 1 T,SL 21 U,I H,I V,I M,I W,B b9],[SV.gd 0 true (SL 7 E)]]))∧ae a8 p w y z A C q a0 a3 e d a4 a5 a6 a7 g)))∧Cl prog 31 sP ([jr16 J K L b8 F G O P R T U H V M W b9,SV.agg [U8 v,I r,I j,I n,S s1,I o,I t,I D]]) (λa9=>eq5 a9 λp w y z A C q a0 a3 e d a4 a5 a6 a7 g a8=>((sm ([[SL 3 J,I K,I L,B b8,I F,I G,SL 7 O,I P,I R,SL 1 T,SL 21 U,I H,I V,I M,I W,B b9],[SV.gd 0 true (SL 7 E)]]))∧ae a8 p w y z A C q a0 a3 e d a4 a5 a6 a7 g)))))∧∀v i,∀r j,∀z n,∀o p,∀t D,∀q e,∀w y,∀A C g,(ae v i r j z n o p t D q e w y A C g)→(inR c a)∧eq2 (rget a c) λd=>((inR u d)∧eq4 (rget d u) λa0 a3 a4 a5 s1 a6 a7 a8=>((((8:Int)=0)→False)∧∃af:LL→Prop,∃m4:LL→Nat,(ifB (bpick (ilt (wrem a0 8) 6) (bpick (ieq v 0) true (ieq v 16)) false) ((inR c a)∧eq2 (rget a c) λN=>((inR u N)∧eq4 (rget N u) λba bb ai aj s2 bc bd be=>(((lsum (rlen E) (rlen ([[I (wadd .i64 H 1),I ai,I aj,S s2,I bc,I bd,I be]])))≤2147483648)∧(sm ([[SL 3 J,I K,I L,B b8,I F,I G,SL 7 O,I P,I R,SL 1 T,SL 21 U,I H,I V,I M,I W,B b9],[SL 3 i,I r,I j,B z,I n,I o,SL 7 p,I t,I D,SL 1 q,SL 21 e,I w,I y,I A,I C,B g]]))∧af (rapp E ([[I (wadd .i64 H 1),I ai,I aj,S s2,I bc,I bd,I be]]))))) ((sm ([[SL 3 J,I K,I L,B b8,I F,I G,SL 7 O,I P,I R,SL 1 T,SL 21 U,I H,I V,I M,I W,B b9],[SL 3 i,I r,I j,B z,I n,I o,SL 7 p,I t,I D,SL 1 q,SL 21 e,I w,I y,I A,I C,B g]]))∧af E))∧∀N,(af N)→((Option.some []:Option LL)=Option.some [])∧(ad N (wadd .i64 u 1) i r j z n o p t D q e w y A C g)∧Nl (m2 N (wadd .i64 u 1) i r j z n o p t D q e w y A C g) (m2 E u J K L b8 F G O P R T U H V M W b9))))))) (Cl prog 12 sP ([dk4 J K L b8,SL 1 ab,I (-1)]) (λa9=>eq6 a9 λah ay az z b0=>(Cl prog 13 sP ([dk4 ah ay az z,SV.agg [I F,I G]]) (λbw=>eq5 bw λi Y Z g a1 a2 p v r q e j n o t aa D=>(Cl prog 15 sP ([jr16 i Y Z g a1 a2 p v r q e j n o t aa]) (λbx=>eq7 bx λd=>(ifB (bpick (ine b0 0) true (ine D 0)) (Q [B false]) (Cl prog 17 sP ([jr16 i Y Z g a1 a2 p v r q e j n o t aa]) (λbz=>eq0 bz λc0=>(ifB (bpick (bpick (bnot c0) true (ilt (rlen d) M)) true (igt (rlen d) (rlen E))) (Q [B false]) ((((0:Int)≤0)∧(0≤(rlen d))∧(rlen d)≤(rlen E))∧Cl prog 27 sP [SL 7 d,SL 7 (rsub E 0 (rlen d))] (λc1=>eq0 c1 λc2=>(ifB (bnot c2) (Q [B false]) (Cl prog 34 sP ([st3 [] 0 0,SL 7 d]) (λc4=>eq8 c4 λN w y A C=>(Cl prog 13 sP ([dk4 i Y Z g,SV.agg [I F,I G]]) (λc5=>eq5 c5 λc6 a0 a3 c7 a4 a5 c9 a6 a7 ca cb a8 ba bb ai cc aj=>(ifB (bpick (ine C 0) true (ine A (rlen d))) (Q [B false]) (Cl prog 36 sP ([st3 N w y,st3 e j n]) (λcd=>eq0 cd λce=>(ifB (bpick (bpick (bnot ce) true (ine o w)) true (ine aj 0)) (Q [B false]) (Cl prog 16 sP ([jr16 i Y Z g a1 a2 p v r q e j n o t aa,jr16 c6 a0 a3 c7 a4 a5 c9 a6 a7 ca cb a8 ba bb ai cc]) (λbs=>eq0 bs λcf=>(ifB (bnot cf) (Q [B false]) (((lsum (rlen []) (rlen d))≤2147483648)∧((Option.some []:Option LL)=Option.some [])∧(av (rapp [] d) (wadd .i64 c 1) i Y Z g a1 a2 p v r q e j n o t aa)∧Nl (m (rapp [] d) (wadd .i64 c 1) i Y Z g a1 a2 p v r q e j n o t aa) (m l4 c l5 ak aw b4 al am l6 an ao l7 l8 ap aq ar au b5)))))))))))))))))))))))))))))) (Q [B true]))))))))):Ct prog 6 {} [U8 bt,.val (.int .u16 ax),SL 1 a,SL 1 X,SL 1 ab] Q:=
 fO SgT SvT (λk=>bif Nat.beq k 48 then some {slots:=[(13,false,[.own 7]),(14,false,[.int .i64])],boxes:=[(1408,[.sl 3,.int .i64,.int .i64,.bool,.int .i64,.int .i64,.sl 7,.int .i64,.int .i64,.sl 1,.sl 21,.int .i64,.int .i64,.int .i64,.int .i64,.bool])],fixed:=[]}else bif Nat.beq k 4000063 then some {slots:=[],boxes:=[(1408,[.sl 3,.int .i64,.int .i64,.bool,.int .i64,.int .i64,.sl 7,.int .i64,.int .i64,.sl 1,.sl 21,.int .i64,.int .i64,.int .i64,.int .i64,.bool])],fixed:=[1760]}else bif Nat.beq k 72 then some {slots:=[(13,false,[.own 7]),(15,false,[.int .i64])],boxes:=[(1408,[.sl 3,.int .i64,.int .i64,.bool,.int .i64,.int .i64,.sl 7,.int .i64,.int .i64,.sl 1,.sl 21,.int .i64,.int .i64,.int .i64,.int .i64,.bool])],fixed:=[]}else bif Nat.beq k 1000021 then some {slots:=[(17,false,[.int .i64])],boxes:=[(2048,[.sl 3,.int .i64,.int .i64,.bool,.int .i64,.int .i64,.sl 7,.int .i64,.int .i64,.sl 1,.sl 21,.int .i64,.int .i64,.int .i64,.int .i64,.bool])],fixed:=[1408,1760],ptrs:=[(16,2048)]}else bif Nat.beq k 4000127 then some {slots:=[(13,false,[.own 7])],fixed:=[1408,2048]}else none) func6 h
end Jou
namespace Jou
open Go Go.Px Go.Proofs Cod Seg Sgr Snp Sx Row Tryz
def rd_go(l:List Int)(A:Byts l):∀(n:Nat) (d:Sc),ScOK d→segL d<+:l→l.length≤(segL d).length+n→∃d D,RdO l d D:=by
 intro n
 induction n with
 |zero=>intro d h g E;have:l.drop (segL d).length=[]:=List.drop_eq_nil_of_le (by omega);exact⟨d,_,h,g,.inl ⟨1,0,[],0,by decide,by rw[this];rfl,rfl⟩⟩
 |succ n H=>
  intro d h g E
  obtain⟨w,k,p,m,hw⟩:∃w k p m,nextR (l.drop (segL d).length)=(w,k,p,m):=⟨_,_,_,_,rfl⟩
  by_cases i:w≠0
  ·exact⟨d,_,h,g,.inl ⟨w,k,p,m,i,hw,rfl⟩⟩
  have i:w=0:=(by simpa using i);rw[i]at hw;by_cases f:∃j,TakeO d k p true j
  ·obtain⟨j,F⟩:=f;obtain⟨G,o,J⟩:=F.ok h rfl;have v:Byts (l.drop (segL d).length):=A.sub λx f=>List.mem_of_mem_drop f;obtain⟨_,_,_,t,r⟩:=Zln v hw;obtain⟨y,u⟩:=g;have z:l.drop (segL d).length=y:=by rw[←u];simp
   rw[z]at r;refine H j G ⟨t,by rw[o,←u,r,List.append_assoc]⟩ ?_;rw[o,List.length_append,Zfy];omega
  ·exact⟨d,_,h,g,.inr ⟨k,p,m,hw,.no (λa b c n s C ok e=>f ⟨_,.head n s C a b c ok e⟩) (λa b c e ok q=>f ⟨_,.record e a b c ok q⟩) (λa b c e=>f ⟨_,.last a b c e⟩),rfl⟩⟩
def sc0_ok:ScOK sc0:=⟨λ_=>rfl,λh=>absurd rfl h,λh=>absurd rfl h,λh=>absurd rfl h⟩
def rd_ex{l:List Int}(a:Byts l):∃d b,RdO l d b:=rd_go l a l.length sc0 sc0_ok Yw (by omega)
def byF_by(f:FiD):Byts (byF f):=λx a=>by
 obtain⟨b,_,rfl⟩:=Y3.1 a;have:=b.toNat_lt;omega
def scF_far{f:FiD}{t:Sc}(c:ScOK t)(a:t.num≠0)(e:segL t<+:byF f):(scF f).num≠0∧t.ev.length≤(scF f).ev.length:=by
 obtain⟨d,g,b⟩:=rd_ex (byF_by f);rw[Zw9 b]
 rcases b.far c e with h|⟨h0,h1,_,_,⟨u,h4,_⟩,_⟩
 ·rw[h]at a;exact absurd rfl a
 ·exact⟨by rw[←h1];exact h0,by rw[h4,List.length_append];omega⟩
structure Saf(l:List FiD)(E:List Cod.EvD)(k:Int):Prop where
 nm:∀f∈l,numS f.nm≠0
 is:(l=[]∧k≤0)∨∃gs g t,l=gs++[g]∧Whl gs∧(∀f∈gs,f.lo=[])∧Tgt gs g.nm t∧byF g<+:segL t∧(∃u,E=(evG gs++t.ev)++u)∧(foldS st0 ((evG gs++t.ev).map toE)).2.2=0∧
  (k≤(evG gs).length∨∃t0,ScOK t0∧t0.num≠0∧segL t0<+:byF ⟨g.nm,g.su,[]⟩∧k≤(evG gs).length+t0.ev.length)
def Zzz(a:List Int)(l:List FiD)(g:FiD):wakeL a (l++[g])=wakeL a l++[wakeF a l.length g]:=by
 unfold wakeL;rw[List.mapIdx_append];simp
def wakeL_id(a:List Int)(l:List FiD)(h:Lst l):wakeL a l=l:=by
 unfold wakeL;refine List.ext_getElem (by simp) λi b c=>?_;rw[List.getElem_mapIdx];have:=h l[i] (List.getElem_mem _);unfold wakeF;rw[this];simp only[List.take_nil,List.append_nil]
 cases hh:l[i]
 rw[hh]at this
 dsimp only at this
 rw[this]
def byF_wake(a:List Int)(i:Nat)(g:FiD):byF ⟨g.nm,g.su,[]⟩<+:byF (wakeF a i g)∧byF (wakeF a i g)<+:byF g:=by
 have b:byF (wakeF a i g)=byF ⟨g.nm,g.su,g.lo.take (more a i g.lo.length)⟩:=(by unfold wakeF byF;simp);rw[b];unfold byF;simp only[List.append_nil];exact⟨(List.prefix_append _ _).map _,((List.prefix_append_right_inj _).2 (List.take_prefix ..)).map _⟩
def saf_open{d:DiD}{E:List Cod.EvD}{k:Int}(h:Saf d.fs E k)(f:d.P){cb cg:Int}(m:mayC cb cg)(ks:List Int):
  ∃a,openP (Zcc d ks (-1)).1 cb cg=(a,0)∧(Zcc d ks (-1)).2=0∧RightJ a∧(∃u,E=evsJ a++u)∧k≤(evsJ a).length∧a.st=(foldS st0 ((evsJ a).map toE)).1∧(foldS st0 ((evsJ a).map toE)).2.2=0∧
   (openP a.dk cb cg=(a,0)∧Lst a.dk.fs∧a.dk.st= -1)∧New a:=by
 have G:Zcc d ks (-1)=(⟨wakeL ks d.fs,d.rm,-1,false⟩,0):=(by unfold Zcc;rw[if_neg (by simp[f])]);have l:=Zws (ks:=ks) (n:=-1) f;rw[G]at l⊢;have fin:∀a,openP ⟨wakeL ks d.fs,d.rm,-1,false⟩ cb cg=(a,0)→openP a.dk cb cg=(a,0)∧Lst a.dk.fs∧a.dk.st= -1:=λa r=>by obtain⟨w,x,y,_⟩:=again_bnd (d:=⟨wakeL ks d.fs,d.rm,-1,false⟩) rfl (wakeL_lst _ _) r;exact⟨w,x,y⟩
 rcases h.is with⟨e,b⟩|⟨gs,g,t,hs,hW,hl,ht,hb,⟨u,hE⟩,happ,b⟩
 ·rw[e]at fin l⊢;obtain⟨c,j⟩:=Zvk (rm:=d.rm) (cb:=cb) (cg:=cg) ⟨f.1.2.1,f.1.2.2.1⟩ m;have R:=j.fre.right;have i:evsJ ⟨⟨[],d.rm,-1,false⟩,cb,cg,[],⟨0,0,[]⟩,st0,0,0,false⟩=[]:=by rw[Zb8 R];rfl
  exact⟨_,c,rfl,R,⟨E,by rw[i];rfl⟩,by rw[i];exact b,by rw[i];rfl,by rw[i];rfl,fin _ c,by simp,by intro p s;cases s⟩
 ·have H:numS g.nm≠0:=h.nm g (by rw[hs];simp);have q:wakeL ks d.fs=gs++[wakeF ks gs.length g]:=(by rw[hs,Zzz,wakeL_id ks gs hl]);obtain⟨w1,w2⟩:=byF_wake ks gs.length g;obtain⟨a,c,j,J,⟨v,z⟩,o,A,C,D⟩:=end_open (d:=⟨wakeL ks d.fs,d.rm,-1,false⟩) l rfl rfl m q H hW (t:=t) ht (w2.trans hb) happ;refine⟨a,c,rfl,j,⟨v++u,by rw[hE,z,List.append_assoc]⟩,?_,A,C,fin _ c,D⟩
  rcases b with b|⟨t0,q1,q2,q3,q4⟩
  ·rcases o with e|⟨e,_⟩
   ·rw[e,Za6,List.length_append];omega
   ·rw[e];exact b
  ·obtain⟨F,K⟩:=scF_far q1 q2 (q3.trans w1)
   rcases o with e|⟨_,e⟩
   ·rw[e,Za6,List.length_append];omega
   ·exact absurd e F
structure Lvs(j:JoD):Prop where
 right:RightJ j
 new:New j
 syn:∀gs g,j.dk.fs=gs++[g]→(∀f∈gs,f.lo=[])∧((scF g).sl=true→g.lo=[])∧(j.sure≤(evG gs).length∨∃t0,ScOK t0∧t0.num≠0∧segL t0<+:byF ⟨g.nm,g.su,[]⟩∧j.sure≤(evG gs).length+t0.ev.length)
def Lvs.sure0{j:JoD}(h:Lvs j)(e:j.dk.fs=[]):j.sure≤0:=by
 have b:=(Zek h.right).2.1;have a:=h.new.q h.right;rw[Zb8 h.right,(h.new.par h.right).1,e]at a;have:j.st.q=0:=a;omega
def Lvs.saf{j:JoD}(h:Lvs j)(u:List Cod.EvD):Saf j.dk.fs (evsJ j++u) j.sure:=by
 obtain⟨c,l,m,a,hst⟩:=h.new.par h.right;have p:=h.right.par;rw[c]at p;refine⟨h.new.1,?_⟩
 rcases Y1 j.dk.fs with e|⟨gs,g,e⟩
 ·exact .inl ⟨e,h.sure0 e⟩
 ·rw[List.concat_eq_append]at e;obtain⟨d,n,f⟩:=h.syn gs g e;have b:=h.new.whl h.right;rw[e]at b;obtain⟨b,i⟩:=b.pre;have k:=(p.dkr.bytes p.all g (by rw[e];simp)).2.1;rw[e,Za6]at a;exact .inr ⟨gs,g,scF g,e,b,d,i,by rw[k];exact List.prefix_rfl,⟨u,by rw[Zb8 h.right,c,e,Za6]⟩,a,f⟩
def Zbt{l:List FiD}(a:∀f∈l,numS f.nm≠0):segs l=l:=List.filter_eq_self.2 λf b=>by simpa[isSeg]using a f b
def Zvq{l:List FiD}{f:FiD}(b:∀f∈l,numS f.nm≠0)(c:numS f.nm≠0):segs (withB FiD.nm l f)=withB FiD.nm l f:=Zbt λx a=>by
 rcases Zas.1 a with rfl|⟨a,_⟩
 ·exact c
 ·exact b x a
def Zq2{l b:List FiD}{g f:FiD}(c:Go.Px.srt FiD.nm l)(a:∀f∈l,numS f.nm≠0)(e:l=b++[g])(q:g.nm=f.nm):withB FiD.nm l f=b++[f]:=by
 rw[←Zvq a (by rw[←q];exact a g (by rw[e];simp))];exact Zmr c (by rw[Zbt a,e]) q
def Zq3{l a:List FiD}{g:FiD}(b:Go.Px.srt FiD.nm l)(e:l=a++[g]):l.find? (λf=>decide (f.nm=g.nm))=some g:=Zif (d:=⟨l,0,0,false⟩) b (show g∈l by rw[e];simp)
def Zo2{l a:List FiD}{g:FiD}(b:Go.Px.srt FiD.nm l)(c:∀f∈l,numS f.nm≠0)(e:l=a++[g])(x:List UInt8):effW l (.wri g.nm x)=a++[⟨g.nm,g.su,g.lo++x⟩]:=by
 show(match l.find? (λf=>decide (f.nm=g.nm))with|none=>l|some f=>withB FiD.nm l ⟨g.nm,f.su,f.lo++x⟩)=_;rw[Zq3 b e];exact Zq2 b c e rfl
def eff_syn{l a:List FiD}{g:FiD}(b:Go.Px.srt FiD.nm l)(c:∀f∈l,numS f.nm≠0)(e:l=a++[g]):effW l (.syn g.nm)=a++[⟨g.nm,g.su++g.lo,[]⟩]:=by
 show(match l.find? (λf=>decide (f.nm=g.nm))with|none=>l|some f=>withB FiD.nm l ⟨g.nm,f.su++f.lo,[]⟩)=_;rw[Zq3 b e];exact Zq2 b c e rfl
def eff_cre{l:List FiD}{n:Int}(h:Go.Px.srt FiD.nm l)(c:∀f∈l,numS f.nm≠0)(a:inN n)(d:∀f∈segs l,numS f.nm<n):effW l (.cre (nmG n))=l++[⟨nmG n,[],[]⟩]:=by
 have e:=Zux a;show withB FiD.nm l _=_;rw[←Zvq c (f:=⟨nmG n,[],[]⟩) e];have hno:=Zuy a d;have i:numS (nmG n)=n:=(by rw[Zed a];exact Zh6 a);rw[Zw8 h (λg b q=>hno (Y3.2 ⟨g,b,q⟩)) e (λg b=>by rw[i];exact d g b),Zbt c]
def effL1(l:List FiD)(a:Stp):effL l [a]=effW l a:=rfl
def effL2(l:List FiD)(a b:Stp):effL l [a,b]=effW (effW l a) b:=rfl
def eff_ok{l:List FiD}{s:Stp}(a:Go.Px.srt FiD.nm l):Go.Px.srt FiD.nm (effW l s):=by
 cases s with
 |cre s=>exact Zba a
 |wri s x=>
  show Go.Px.srt FiD.nm (match l.find? (λf=>decide (f.nm=s))with|none=>l|some f=>withB FiD.nm l ⟨s,f.su,f.lo++x⟩)
  cases l.find? (λf=>decide (f.nm=s))<;>first|exact a|exact Zba a
 |syn s=>
  show Go.Px.srt FiD.nm (match l.find? (λf=>decide (f.nm=s))with|none=>l|some f=>withB FiD.nm l ⟨s,f.su++f.lo,[]⟩)
  cases l.find? (λf=>decide (f.nm=s))<;>first|exact a|exact Zba a
 |rem s=>exact a
 |cut s n=>exact a
def Saf.mono{l:List FiD}{E u:List Cod.EvD}{k k':Int}(h:Saf l E k)(c:k'≤k):Saf l (E++u) k':=by
 refine⟨h.nm,?_⟩
 rcases h.is with⟨a,b⟩|⟨gs,g,t,a1,a2,a3,a4,a5,⟨v,a6⟩,a7,a8⟩
 ·exact .inl ⟨a,by omega⟩
 ·refine .inr ⟨gs,g,t,a1,a2,a3,a4,a5,⟨v++u,by rw[a6,List.append_assoc]⟩,a7,?_⟩
  rcases a8 with q|⟨t0,q1,q2,q3,q4⟩
  ·exact .inl (by omega)
  ·exact .inr ⟨t0,q1,q2,q3,by omega⟩
def Zo3{j:JoD}(h:RightJ j)(m:New j){a:List FiD}{f g:FiD}(e:j.dk.fs=a++[f])(q:∀f∈a,f.lo=[])(n:g.nm=f.nm)(r:byF g<+:byF f){k:Int}
  (s:k≤(evG a).length∨∃i,ScOK i∧i.num≠0∧segL i<+:byF ⟨g.nm,g.su,[]⟩∧k≤(evG a).length+i.ev.length):Saf (a++[g]) (evsJ j) k:=by
 obtain⟨l,u,v,c,hst⟩:=m.par h;have p:=h.par;rw[l]at p;have d:=m.whl h;rw[e]at d;obtain⟨d,t⟩:=d.pre;have o:=(p.dkr.bytes p.all f (by rw[e];simp)).2.1;rw[e,Za6]at c;refine⟨λx b=>?_,.inr ⟨a,g,scF f,rfl,d,q,by rw[n];exact t,by rw[←o];exact r,⟨[],by rw[Zb8 h,l,e,Za6,List.append_nil]⟩,c,s⟩⟩
 rcases List.mem_append.1 b with b|b
 ·exact d.nm x b
 ·rw[List.mem_singleton.1 b,n];exact m.1 f (by rw[e];simp)
def unb(j:JoD):JoD:={j with dk:={j.dk with st:=-1}}
def Zo4{j:JoD}(h:RightJ j):Fre (unb j):=by
 refine⟨⟨h.cfg,⟨⟨h.dk.1.1,h.dk.1.2.1,h.dk.1.2.2.1,by show(-1:Int)≤-1;decide⟩,h.dk.2⟩,h.up,h.out,h.good,h.all,?_,h.sure.1,h.sure.2⟩,rfl⟩;have:=h.eq;exact congrArg (λx:JoD=>{x with dk:={j.dk with st:=-1}}) this
def Zsz{j:JoD}{a:List FiD}(h:Par j a):Par (unb j) a:=⟨h.dkr,h.good,h.all,h.st,h.sg,h.cx,h.kept⟩
def unb_ev{j:JoD}(h:RightJ j):evsJ (unb j)=evsJ j:=by rw[Zb8 h,Zb8 (Zo4 h).right];rfl
def Zco{c:Type}{p l:List c}{a:c}(h:p<+:a::l):p=[]∨∃q,p=a::q∧q<+:l:=by
 cases p with
 |nil=>exact .inl rfl
 |cons b p=>obtain⟨t,e⟩:=h;cases e;exact .inr ⟨p,rfl,t,rfl⟩
def Lvs.lst{j:JoD}(h:Lvs j)(b:∀g,(segs j.dk.fs).getLast?=some g→(scF g).sl=true):Lst j.dk.fs:=by
 rcases Y1 j.dk.fs with e|⟨gs,g,e⟩
 ·rw[e];intro f a;cases a
 ·rw[List.concat_eq_append]at e;obtain⟨c,d,_⟩:=h.syn gs g e;have i:=b g (by rw[Zbt h.new.1,e];simp);rw[e];intro f a
  rcases List.mem_append.1 a with a|a
  ·exact c f a
  ·rw[List.mem_singleton.1 a];exact d i
def Zko{c:Type}{a b:List c}{x y:c}(h:a++[x]=b++[y]):a=b∧x=y:=by
 have:=List.append_inj' h rfl;exact⟨this.1,by simpa using this.2⟩
def lvs_of{k:JoD}(d:RightJ k)(h:New k){a:List FiD}{g:FiD}(e:k.dk.fs=a++[g])(i:∀f∈a,f.lo=[])(j:(scF g).sl=true→g.lo=[])(l:k.sure≤(evG a).length∨∃b,ScOK b∧b.num≠0∧segL b<+:byF ⟨g.nm,g.su,[]⟩∧k.sure≤(evG a).length+b.ev.length):Lvs k:=by
 refine⟨d,h,λm n c=>?_⟩;rw[e]at c;obtain⟨rfl,rfl⟩:=Zko c;exact⟨i,j,l⟩
def Zlo{k:JoD}(a:RightJ k)(c:New k)(d:Lst k.dk.fs):Lvs k:=by
 refine⟨a,c,λo g e=>?_⟩;rw[e]at d;have h:g.lo=[]:=d g (by simp);refine⟨λf i=>d f (by simp[i]),λ_=>h,.inr ⟨scF g,?_⟩⟩;obtain⟨b,_⟩:=c.par a;have p:=a.par;rw[b]at p;obtain⟨j,l,b3,m⟩:=p.dkr.bytes p.all g (by rw[e];simp);refine⟨j,by rw[b3];exact m,?_,?_⟩
 ·rw[←l]
  cases g
  dsimp only at h
  rw[h];exact List.prefix_rfl
 ·have r:=(Zek a).2.1;have n:=c.q a;rw[Zb8 a,b,e,Za6,List.length_append]at n;omega
def Lvs.sure_le{j:JoD}(h:Lvs j):j.sure≤(evG j.dk.fs).length:=by
 have b:=(Zek h.right).2.1;have a:=h.new.q h.right;rw[Zb8 h.right,Zbt h.new.1]at a;omega
def new_saf{j:JoD}(h:Lvs j){n:Int}(b:inN n)(C:j.dk.fs.length<64)(D:∀f∈segs j.dk.fs,numS f.nm<n)(F:∀g,(segs j.dk.fs).getLast?=some g→(scF g).sl=true∧n=(scF g).num+1)(W:segs j.dk.fs=[]→n=1){e:Cod.EvD}(X:encE j.st.q j.st.t [] e=0)(u:e.s=j.st.q+1)(G:(appS j.st (toE e)).2=0)
  (Y:(usedL j.dk.fs:Int)+(hedB j n).length+(fr 2 (encL j.st.q j.st.t [] e)).length≤j.dk.rm):
  (∀p,p<+:[.cre (nmG n),.wri (nmG n) (bys (hedB j n)),.wri (nmG n) (bys (fr 2 (encL j.st.q j.st.t [] e)))]→Saf (effL j.dk.fs p) (evsJ j++[e]) j.sure)∧
  ∃f,effL j.dk.fs [.cre (nmG n),.wri (nmG n) (bys (hedB j n)),.wri (nmG n) (bys (fr 2 (encL j.st.q j.st.t [] e)))]=j.dk.fs++[f]∧Lst j.dk.fs∧(scF f).sl=false:=by
 have l:=h.right;have U:=Zo4 l;have L:=l.dk.2.2.2;have r:=h.new.1;have M:=Zbt r;have O:=l.par;have Q:=h.lst λg Z=>(F g Z).1;generalize hx:bys (hedB j n)=x;generalize hy:bys (fr 2 (encL j.st.q j.st.t [] e))=y;have e1:=eff_cre L r b D;have w:=eff_ok (s:=.cre (nmG n)) L;rw[e1]at w
 have n1:∀f∈j.dk.fs++[(⟨nmG n,[],[]⟩:FiD)],numS f.nm≠0:=λf a=>by
  rcases List.mem_append.1 a with a|a
  ·exact r f a
  ·rw[List.mem_singleton.1 a];exact Zux b
 have e2:effW (j.dk.fs++[⟨nmG n,[],[]⟩]) (.wri (nmG n) x)=j.dk.fs++[⟨nmG n,[],[]++x⟩]:=Zo2 (g:=⟨nmG n,[],[]⟩) w n1 rfl x;have R:=eff_ok (s:=.wri (nmG n) x) w;rw[e2]at R
 have n2:∀f∈j.dk.fs++[(⟨nmG n,[],[]++x⟩:FiD)],numS f.nm≠0:=λf a=>by
  rcases List.mem_append.1 a with a|a
  ·exact r f a
  ·rw[List.mem_singleton.1 a];exact Zux b
 have e3:effW (j.dk.fs++[⟨nmG n,[],[]++x⟩]) (.wri (nmG n) y)=j.dk.fs++[⟨nmG n,[],[]++x++y⟩]:=Zo2 (g:=⟨nmG n,[],[]++x⟩) R n2 rfl y;have d:effL j.dk.fs [.cre (nmG n),.wri (nmG n) x,.wri (nmG n) y]=j.dk.fs++[⟨nmG n,[],[]++x++y⟩]:=by show effW (effW (effW j.dk.fs (.cre (nmG n))) (.wri (nmG n) x)) (.wri (nmG n) y)=_;rw[e1,e2,e3]
 have A:can (unb j).dk.rm ((unb j).dk.fs.map FiD.nm) (usedL (unb j).dk.fs) [.cre (nmG n),.wri (nmG n) x,.wri (nmG n) y]:=(by refine Zsg b (Zuy b D) (by rw[List.length_map];exact C) ?_;rw[←hx,←hy,Zds,Zds];exact Y);obtain⟨o,c,E⟩:=Zfe _ U.right.dk U.right.up (nms (unb j).dk) A
 rcases E.how with⟨c0,J,i,a0⟩|⟨_,q,_⟩
 case inr=>exact absurd rfl q
 have run:=E.run;rw[c0,←hx,←hy]at run;obtain⟨v,f,K,v1,v2⟩:=Zxi (Zsz O) (n:=n) F b W (l.fct).st u X G run j.cb j.cg j.sure j.shut;have T:=Zqc (j:=unb j) (k:=anewJ o j.cb j.cg j.sure j.shut) U.right G u rfl (by rw[v]) (by rw[v]) K (by rw[Za6,v1];rfl) (.inl rfl) E.P ⟨J.trans l.up.symm,E.rm⟩;have i:o.fs=effL j.dk.fs [.cre (nmG n),.wri (nmG n) x,.wri (nmG n) y]:=i;rw[d]at i;have N:New (anewJ o j.cb j.cg j.sure j.shut):=(by refine⟨E.nm r,?_⟩;rw[v];rw[←O.sg];exact Zz8 h.new.2 λq=>h.new.t l q);have V:evsJ (anewJ o j.cb j.cg j.sure j.shut)=evsJ j++[e]:=(by rw[T.ev,unb_ev l]);have ff:f=⟨nmG n,[],[]++x++y⟩:=(by have:=K.dkr.eq;rw[show(anewJ o j.cb j.cg j.sure j.shut).dk.fs=o.fs from rfl,Zbt (E.nm r),i,M]at this;exact(Zko this).2.symm);have m:∀z:List UInt8,z<+:x++y→Saf (j.dk.fs++[⟨nmG n,[],z⟩]) (evsJ j++[e]) j.sure:=λz hz=>by rw[←V];refine Zo3 (g:=⟨nmG n,[],z⟩) T.right N i Q rfl ?_ (.inl h.sure_le);unfold byF;simp only[List.nil_append];exact hz.map _
 refine⟨λp H=>?_,_,d,Q,by rw[←ff];exact v2⟩
 rcases Zco H with rfl|⟨p,rfl,hq1⟩
 ·exact h.saf [e]
 rcases Zco hq1 with rfl|⟨p,rfl,hq2⟩
 ·rw[effL1,e1];exact m [] Yw
 rcases Zco hq2 with rfl|⟨p,rfl,hq3⟩
 ·rw[effL2,e1,e2];exact m _ (List.prefix_append _ _)
 ·have:p=[]:=List.prefix_nil.1 hq3;subst this;rw[d];exact m _ (by simp)
def Zvr{j:JoD}(h:Lvs j){e:List FiD}{g:FiD}(i:segs j.dk.fs=e++[g])(F:Par j (e++[g]))(V:(scF g).sl=false)
  (W:(usedL j.dk.fs:Int)+(selB j (sgOf ⟨scF g,g.len⟩)).length≤j.dk.rm):
  (∀p,p<+:[.wri (nmG (scF g).num) (bys (selB j (sgOf ⟨scF g,g.len⟩))),.syn (nmG (scF g).num)]→Saf (effL j.dk.fs p) (evsJ j) j.sure)∧
  ∃k f,Lvs k∧k.dk.fs=effL j.dk.fs [.wri (nmG (scF g).num) (bys (selB j (sgOf ⟨scF g,g.len⟩))),.syn (nmG (scF g).num)]∧k.st=j.st∧evsJ k=evsJ j∧k.sure=j.st.q∧k.dk.rm=j.dk.rm∧k.dk.fs=e++[f]∧(scF f).sl=true∧(scF f).num=(scF g).num∧usedL k.dk.fs=usedL j.dk.fs+(selB j (sgOf ⟨scF g,g.len⟩)).length:=by
 have r:=h.right;have U:=Zo4 r;have z:=r.dk.2.2.2;have l:=h.new.1;have A:=Zbt l;rw[A]at i;obtain⟨b1,b2,b3,G,b5,b6⟩:=F.in_;obtain⟨M,y2,X⟩:=h.syn e g i;have C:nmG (scF g).num∈(unb j).dk.fs.map FiD.nm:=Y3.2 ⟨g,by show g∈j.dk.fs;rw[i];simp,G⟩;obtain⟨b,c,E⟩:=Zfe [.wri (nmG (scF g).num) (bys (selB j (sgOf ⟨scF g,g.len⟩))),.syn (nmG (scF g).num)] U.right.dk U.right.up (nms (unb j).dk) ⟨fn_nm b5,C,by rw[Zds];exact W,fn_nm b5,C,trivial⟩
 rcases E.how with⟨Y,N,o,a0⟩|⟨_,q,_⟩
 case inr=>exact absurd rfl q
 have run:=E.run;rw[Y]at run;obtain⟨H,f,O,Z,v2,v3⟩:=Zmz (Zsz F) V run j.cb j.cg j.st.q j.shut;have t:(anewJ b j.cb j.cg j.st.q j.shut).st=j.st:=(by rw[H];rfl);have J:(anewJ b j.cb j.cg j.st.q j.shut).kept=j.kept:=(by rw[H];rfl);obtain⟨q1,q2,q3⟩:=Zek r;have K:RightJ (anewJ b j.cb j.cg j.st.q j.shut):=Zky O r.cfg E.P N (by rw[show keptF b.fs=j.kept from J];omega) (by rw[t];exact Int.le_refl _);have Q:New (anewJ b j.cb j.cg j.st.q j.shut):=(by refine⟨E.nm l,?_⟩;rw[H];have:=h.new.2;rw[Zuk F]at this;exact Zhr this rfl);have d:b.fs=e++[f]:=(by rw[←Zbt (E.nm l)];exact O.dkr.eq);have v:evsJ (anewJ b j.cb j.cg j.st.q j.shut)=evsJ j:=(by rw[Zb8 K,Zb8 r,A,i];show evG (segs b.fs)=_;rw[Zbt (E.nm l),d,Za6,Za6,Z]);generalize hx:bys (selB j (sgOf ⟨scF g,g.len⟩))=x at*;have R:x.length=(selB j (sgOf ⟨scF g,g.len⟩)).length:=(by rw[←hx];exact Zds _);have e1:effW j.dk.fs (.wri (nmG (scF g).num) x)=e++[⟨g.nm,g.su,g.lo++x⟩]:=(by rw[←G];exact Zo2 z l i x);have T:=eff_ok (s:=.wri (nmG (scF g).num) x) z;rw[e1]at T
 have n1:∀f∈e++[(⟨g.nm,g.su,g.lo++x⟩:FiD)],numS f.nm≠0:=λf m=>by
  rcases List.mem_append.1 m with m|m
  ·exact l f (by rw[i];simp[m])
  ·rw[List.mem_singleton.1 m];exact l g (by rw[i];simp)
 have e2:effW (e++[(⟨g.nm,g.su,g.lo++x⟩:FiD)]) (.syn (nmG (scF g).num))=e++[⟨g.nm,g.su++(g.lo++x),[]⟩]:=(by rw[←G];exact eff_syn (g:=⟨g.nm,g.su,g.lo++x⟩) T n1 rfl);have w:f=⟨g.nm,g.su++(g.lo++x),[]⟩:=by have y:b.fs=effL j.dk.fs [.wri (nmG (scF g).num) x,.syn (nmG (scF g).num)]:=o;rw[effL2,e1,e2,d]at y;exact(Zko y).2
 have hL:Lst b.fs:=by
  rw[d];intro a n
  rcases List.mem_append.1 n with n|n
  ·exact M a n
  ·rw[List.mem_singleton.1 n,w]
 have D:Lvs (anewJ b j.cb j.cg j.st.q j.shut):=Zlo K Q hL;refine⟨λp L=>?_,_,f,D,o,t,v,rfl,E.rm,d,v2,v3,?_⟩
 ·rcases Zco L with rfl|⟨p,rfl,hq1⟩
  ·have:=h.saf [];rw[List.append_nil]at this;exact this
  rcases Zco hq1 with rfl|⟨p,rfl,hq2⟩
  ·rw[effL1,e1,←v];refine Zo3 K Q d M (by rw[w]) ?_ X;rw[w];unfold byF;simp only[List.append_nil];exact List.prefix_rfl
  ·have:p=[]:=List.prefix_nil.1 hq2;subst this;have:=(D.saf []).mono (u:=[]) (k':=j.sure) q2;rw[List.append_nil,List.append_nil,v]at this;have y:b.fs=effL j.dk.fs [.wri (nmG (scF g).num) x,.syn (nmG (scF g).num)]:=o;rw[←y];exact this
 ·show usedL b.fs=_;rw[←R,d,i,w,Zc9,Zc9,Zb4,Zb4,Zrq];simp only[FiD.len,List.length_append,Y6];omega
def app_saf{j:JoD}(h:Lvs j){e:Cod.EvD}(l:e.s=j.st.q+1)(L:(appS j.st (toE e)).2=0){V:List Stp}{sz su:Int}(hT:Tds j e V sz su)(hr:(usedL j.dk.fs:Int)+sz≤j.dk.rm):
  (∀p,p<+:V→Saf (effL j.dk.fs p) (evsJ j++[e]) j.sure)∧∀k,RightJ k→New k→k.dk.fs=effL j.dk.fs V→k.sure=su→evsJ k=evsJ j++[e]→Lvs k:=by
 have C:=h.right;have U:=Zo4 C;have Q:=h.new.1;have D:=Zbt Q;have a4:=C.dk.2.2.2;have Y:=Zz7 hT hr
 cases hT with
 |rcd F g i G H J=>
  rw[D]at i;obtain⟨b1,b2,b3,b4,b5,b6⟩:=G.in_;obtain⟨y1,y2,y3⟩:=h.syn F g i;obtain⟨y,c,E⟩:=Zfe [.wri (nmG (scF g).num) (bys (recL' j e))] U.right.dk U.right.up (nms (unb j).dk) Y
  rcases E.how with⟨c0,a2,b,a8⟩|⟨_,q,_⟩
  case inr=>exact absurd rfl q
  have run:=E.run;rw[c0,run1]at run;obtain⟨W,f,p1,v1,v2⟩:=Zxh (Zsz G) H l J L run j.cb j.cg j.sure j.shut;have T:=Zqc (j:=unb j) (k:=anewJ y j.cb j.cg j.sure j.shut) U.right L l rfl (by rw[W]) (by rw[W]) p1 (by rw[Za6,v1,show segs (unb j).dk.fs=F++[g]from D.trans i,Za6,List.append_assoc]) (.inl rfl) E.P ⟨a2.trans C.up.symm,E.rm⟩;have N:New (anewJ y j.cb j.cg j.sure j.shut):=(by refine⟨E.nm Q,?_⟩;rw[W];have:=h.new.2;rw[Zuk G]at this;exact Zhr this rfl);have a5:evsJ (anewJ y j.cb j.cg j.sure j.shut)=evsJ j++[e]:=(by rw[T.ev,unb_ev C]);have m:y.fs=F++[f]:=(by rw[←Zbt (E.nm Q)];exact p1.dkr.eq);have b:y.fs=effL j.dk.fs [.wri (nmG (scF g).num) (bys (recL' j e))]:=b;rw[effL1]at b;have e1:effW j.dk.fs (.wri (nmG (scF g).num) (bys (recL' j e)))=F++[⟨g.nm,g.su,g.lo++bys (recL' j e)⟩]:=(by rw[←b4];exact Zo2 a4 Q i _);have ff:f=⟨g.nm,g.su,g.lo++bys (recL' j e)⟩:=(by rw[e1,m]at b;exact(Zko b).2);refine⟨λp v=>?_,λk d t a w M=>?_⟩
  ·rcases Zco v with rfl|⟨p,rfl,hq1⟩
   ·exact h.saf [e]
   ·have:p=[]:=List.prefix_nil.1 hq1;subst this;rw[effL1,←b,m,←a5];exact Zo3 T.right N m y1 rfl List.prefix_rfl (by rw[ff];exact y3)
  ·rw[effL1,←b,m]at a;exact lvs_of d t a y1 (λq=>by rw[v2]at q;cases q) (by rw[w,ff];exact y3)
 |nws n K r hb H h1 J=>obtain⟨X,f,c2,c3,c4⟩:=new_saf h K r hb H h1 J l L (by omega);refine⟨X,λk d t a w M=>?_⟩;rw[c2]at a;exact lvs_of d t a c3 (λq=>by rw[c4]at q;cases q) (.inl (by rw[w];exact h.sure_le))
 |sld F g i G H K r J=>
  obtain⟨X,z,f,d,t,a,w,M,k6,A,k8,k9,a3⟩:=Zvr h i G H (by omega);have Z:z.dk.fs.length<64:=by rw[A];rw[D]at i;rw[i]at r;simpa using r
  have R:=d.right.par;have o:=Zbt d.new.1
  have a6:∀x,(segs z.dk.fs).getLast?=some x→(scF x).sl=true∧(scF g).num+1=(scF x).num+1:=λx hx=>by
   rw[o,A,List.getLast?_concat]at hx
   cases hx
   exact⟨k8,by rw[k9]⟩
  have a0:∀x∈segs z.dk.fs,numS x.nm<(scF g).num+1:=(by rw[o,A,←k9];rw[o,A]at R;exact R.big);have hh:hedB z ((scF g).num+1)=hedB j ((scF g).num+1):=(by unfold hedB;rw[a]);obtain⟨m1,f2,m2,m3,m4⟩:=new_saf d (n:=(scF g).num+1) K Z a0 a6 (λq=>by rw[o,A]at q;simp at q) (e:=e) (by rw[a];exact J) (by rw[a];exact l) (by rw[a];exact L) (by rw[hh,a,k6,a3];omega);rw[hh,a,w]at m1;rw[hh,a]at m2;have a7:j.sure≤z.sure:=(by rw[M];exact(Zek C).2.1);refine⟨λp v=>?_,λk q1 q2 O q4 q5=>?_⟩
  ·rcases Zco v with rfl|⟨p,rfl,hq2⟩
   ·exact h.saf [e]
   rcases Zco hq2 with rfl|⟨p,rfl,hq3⟩
   ·exact(X _ ⟨[.syn (nmG (scF g).num)],rfl⟩).mono (Int.le_refl _)
   ·have:=m1 p hq3;rw[t]at this;have:=this.mono (u:=[]) a7;rw[List.append_nil]at this;exact this
  ·have O:k.dk.fs=effL (effL j.dk.fs [.wri (nmG (scF g).num) (bys (selB j (sgOf ⟨scF g,g.len⟩))),.syn (nmG (scF g).num)]) _:=O;rw[←t,m2]at O;refine lvs_of q1 q2 O m3 (λq=>by rw[m4]at q;cases q) (.inl ?_);have h3:=d.sure_le;rw[q4];rw[M]at h3;exact h3
def app_lvs{j:JoD}(h:Lvs j)(e:Cod.EvD):
  (Lvs (appP j e).1∧(appP j e).1.cb=j.cb∧(appP j e).1.cg=j.cg∧((appP j e).2=(appS j.st (toE (evN j e))).2∧(appP j e).2≠0∧evsJ (appP j e).1=evsJ j∨(appP j e).2=13∧evsJ (appP j e).1=evsJ j∨(appP j e).2=0∧evsJ (appP j e).1=evsJ j++[evN j e]))∨
  ((appP j e).2=16∧∃a,(appP j e).1={j with dk:=a}∧a.P∧a.dn=true∧Saf a.fs (evsJ j++[evN j e]) j.sure):=by
 rcases app_any h.right e with⟨f,g⟩|⟨f,g⟩|⟨f,g,w,a,c,h3,h3r,E,h4⟩
 ·rw[g];exact .inl ⟨h,rfl,rfl,.inl ⟨rfl,f,rfl⟩⟩
 ·rw[g];exact .inl ⟨⟨Zi6 h.right true,h.new,h.syn⟩,rfl,rfl,.inr (.inl ⟨rfl,Zvj h.right true⟩)⟩
 ·obtain⟨l,m⟩:=app_saf h rfl f (Zuz h.right h3) h3r
  rcases h4 with⟨b,k,i,n,o,T,r⟩|⟨b,i⟩
  ·rcases E.how with⟨_,_,d,_⟩|⟨q,_⟩
   ·rw[i];exact .inl ⟨m k T.right (r h.new) (by rw[n];exact d) o T.ev,T.cfg.1,T.cfg.2,.inr (.inr ⟨rfl,T.ev⟩)⟩
   ·rw[q]at b;cases b
  ·rcases E.how with⟨q,_⟩|⟨_,_,dn,p,hp,d⟩
   ·rw[q]at b;cases b
   ·rw[i];exact .inr ⟨rfl,a,rfl,E.P,dn,by rw[d];exact l p hp⟩
def syn_lvs{j:JoD}(h:Lvs j):(Lvs (synJ j).1∧(synJ j).1.cb=j.cb∧(synJ j).1.cg=j.cg∧(synJ j).2=0∧evsJ (synJ j).1=evsJ j)∨
  ((synJ j).2=16∧∃b,(synJ j).1={j with dk:=b}∧b.P∧b.dn=true∧Saf b.fs (evsJ j) j.sure):=by
 have m:=h.right;have u:=h.new.1;have n:=Zbt u;have v:Saf j.dk.fs (evsJ j) j.sure:=(by have:=h.saf [];rw[List.append_nil]at this;exact this);obtain⟨l,b,c,E,r,w⟩:=syn_any m
 have o:Lst (effL j.dk.fs l)∧∀p,p<+:l→Saf (effL j.dk.fs p) (evsJ j) j.sure:=by
  rcases r with⟨rfl,r⟩|⟨gs,g,hs,rfl⟩
  ·exact⟨h.lst r,λp d=>by rw[List.prefix_nil.1 d];exact v⟩
  ·rw[n]at hs;obtain⟨t,H,J⟩:=h.syn gs g hs;have e1:effL j.dk.fs [.syn g.nm]=gs++[⟨g.nm,g.su++g.lo,[]⟩]:=eff_syn m.dk.2.2.2 u hs;refine⟨?_,λp d=>?_⟩
   ·rw[e1];intro a e
    rcases List.mem_append.1 e with e|e
    ·exact t a e
    ·rw[List.mem_singleton.1 e]
   ·rcases Zco d with rfl|⟨p,rfl,hq1⟩
    ·exact v
    ·have:p=[]:=List.prefix_nil.1 hq1;subst this;rw[e1];have p:=m.par;rw[n]at p;obtain⟨x,y,b3,z⟩:=p.dkr.bytes p.all g (by rw[hs];simp);refine Zo3 (g:=⟨g.nm,g.su++g.lo,[]⟩) m h.new hs t rfl (by unfold byF;simp) (.inr ⟨scF g,x,by rw[b3];exact z,?_,?_⟩)
     ·rw[←y];unfold byF;simp
     ·have:=h.sure_le;rw[hs,Za6,List.length_append]at this;omega
 rcases w with⟨f,k,s,A,R,K,C,L,D,F,M,N,G⟩|⟨f,s⟩
 ·rcases E.how with⟨_,_,i,_⟩|⟨q,_⟩
  ·rw[s];exact .inl ⟨Zlo R (G h.new) (by rw[A,i];exact o.1),D,F,rfl,C⟩
  ·rw[q]at f;cases f
 ·rcases E.how with⟨q,_⟩|⟨_,_,dn,p,d,i⟩
  ·rw[q]at f;cases f
  ·rw[s];exact .inr ⟨rfl,b,rfl,E.P,dn,by rw[i];exact o.2 p d⟩
def rot_lvs{j:JoD}(h:Lvs j):(Lvs (rotJ j).1∧(rotJ j).1.cb=j.cb∧(rotJ j).1.cg=j.cg∧evsJ (rotJ j).1=evsJ j)∨
  ((rotJ j).2=16∧∃a,(rotJ j).1={j with dk:=a}∧a.P∧a.dn=true∧Saf a.fs (evsJ j) j.sure):=by
 rcases rot_any h.right with h1|h1|⟨gs,g,a,c,hs,hp,hl,hr,E,h4⟩
 ·rw[h1];exact .inl ⟨h,rfl,rfl,rfl⟩
 ·rw[h1];exact .inl ⟨⟨Zi6 h.right true,h.new,h.syn⟩,rfl,rfl,Zvj h.right true⟩
 ·obtain⟨m,z,f,l,n,A,C,D,F,o,r,G,y⟩:=Zvr h hs hp hl hr
  rcases h4 with⟨b,k,e,s,R,H,t,J,u,v,K,L,w⟩|⟨b,e⟩
  ·rcases E.how with⟨_,_,d,_⟩|⟨q,_⟩
   ·rw[e];refine .inl ⟨Zlo R (w h.new) ?_,u,v,t⟩;rw[s,d,←n]
    exact l.lst λx i=>by
     rw[Zbt l.new.1,o,List.getLast?_concat]at i
     cases i
     exact r
   ·rw[q]at b;cases b
  ·rcases E.how with⟨q,_⟩|⟨_,_,dn,p,hp,d⟩
   ·rw[q]at b;cases b
   ·rw[e];exact .inr ⟨rfl,a,rfl,E.P,dn,by rw[d];exact m p hp⟩
def Life(j:JoD)(a:List Cod.EvD):Prop:=(j.dk.dn=false∧Lvs j∧a=evsJ j)∨(j.dk.dn=true∧j.dk.P∧Saf j.dk.fs a j.sure)
def Life.saf{j:JoD}{a:List Cod.EvD}(h:Life j a):j.dk.P∧Saf j.dk.fs a j.sure:=by
 rcases h with⟨_,h,rfl⟩|⟨_,h1,h2⟩
 ·have:=h.saf [];rw[List.append_nil]at this;exact⟨h.right.dk,this⟩
 ·exact⟨h1,h2⟩
def life_one{j:JoD}{l:List Cod.EvD}(h:Life j l)(m:j.dk.dn=false)(d:DeD)(n:∀e,(appS j.st e).2≠16):
  Life (oneP j d).1 (if d.k%8<6∧((oneP j d).2=0∨(oneP j d).2=16)then l++[evN j d.e]else l)∧(oneP j d).1.cb=j.cb∧(oneP j d).1.cg=j.cg:=by
 rcases h with⟨_,h,rfl⟩|⟨h,_⟩
 case inr=>rw[h]at m;cases m
 by_cases hk:d.k%8<6
 ·rw[show oneP j d=appP j d.e from by unfold oneP;rw[if_pos hk]]
  rcases app_lvs h d.e with⟨a,b,c,⟨f,i,g⟩|⟨f,g⟩|⟨f,g⟩⟩|⟨a,d',b,c,f,i⟩
  ·rw[if_neg (by rw[f]at i⊢;have:=n (toE (evN j d.e));exact λq=>q.2.elim i this)];exact⟨.inl ⟨a.right.up,a,g.symm⟩,b,c⟩
  ·rw[if_neg (by rw[f];simp)];exact⟨.inl ⟨a.right.up,a,g.symm⟩,b,c⟩
  ·rw[if_pos ⟨hk,.inl f⟩];exact⟨.inl ⟨a.right.up,a,g.symm⟩,b,c⟩
  ·rw[if_pos ⟨hk,.inr a⟩,b];exact⟨.inr ⟨f,c,i⟩,rfl,rfl⟩
 rw[if_neg (λq=>hk q.1)];by_cases g:d.k%8=6
 ·rw[show oneP j d=synJ j from by unfold oneP;rw[if_neg hk,if_pos g]]
  rcases syn_lvs h with⟨a,b,c,f,g⟩|⟨a,d',b,c,f,i⟩
  ·exact⟨.inl ⟨a.right.up,a,g.symm⟩,b,c⟩
  ·rw[b];exact⟨.inr ⟨f,c,i⟩,rfl,rfl⟩
 ·rw[show oneP j d=rotJ j from by unfold oneP;rw[if_neg hk,if_neg g]]
  rcases rot_lvs h with⟨a,b,c,g⟩|⟨a,d',b,c,f,i⟩
  ·exact⟨.inl ⟨a.right.up,a,g.symm⟩,b,c⟩
  ·rw[b];exact⟨.inr ⟨f,c,i⟩,rfl,rfl⟩
def life_next{j:JoD}{b:List Cod.EvD}(h:Life j b)(i:mayC j.cb j.cg)(ks:List Int):
  ∃a,openP (Zcc j.dk ks (-1)).1 j.cb j.cg=(a,0)∧(Zcc j.dk ks (-1)).2=0∧RightJ a∧(∃u,b=evsJ a++u)∧j.sure≤(evsJ a).length∧a.st=(foldS st0 ((evsJ a).map toE)).1∧(foldS st0 ((evsJ a).map toE)).2.2=0∧
   openP a.dk j.cb j.cg=(a,0)∧a.dk.st= -1∧Lvs a∧a.sure=a.st.q∧a.cb=j.cb∧a.cg=j.cg:=by
 obtain⟨k,l⟩:=h.saf;obtain⟨a,d,m,e,n,o,p,r,⟨s,t,f⟩,g⟩:=saf_open l k i ks;have O:=Zi7 d;have c:=O.eq;exact⟨a,d,m,e,n,o,p,r,s,f,Zlo e g t,by have:=congrArg JoD.sure c;exact this,by have:=congrArg JoD.cb c;exact this,by have:=congrArg JoD.cg c;exact this⟩
end Jou
namespace Jou
open Go Go.Px Go.Proofs Cod Seg Sgr Snp Sx Row Dsk Tryz
abbrev liR(l:List (List DeD)):LL:=l.map λa=>[SL 8 (deR a)]
def chk_16(e:Cmp.EvD):Cmp.chkE e≠16:=by
 unfold Cmp.chkE chkI
 repeat' split
 all_goals decide
def tell_16(c:Cmp.CoD)(e:Cmp.EvD):Cmp.mayI c e≠16:=by
 unfold Cmp.mayI
 repeat' split
 all_goals first|decide|exact chk_16 _
def mayS_16(d:StD)(e:Cmp.EvD):(appS d e).2≠16:=by
 have a:=chk_16 e;unfold appS
 split
 ·show mayS d e≠16;unfold mayS
  repeat' split
  all_goals first|decide|exact a|exact tell_16 _ _
 ·show(0:Int)≠16;decide
def step_st(s:Stp)(d:DiD):(s.run d).1.st≤d.st:=by
 cases s
 ·exact Zmb
 ·exact Zmc
 ·exact Zil
 ·exact Zhh
 ·exact Zpr
def Zt8:∀(l:List Stp) (d:DiD),(runP d l).1.st≤d.st
 | [],d=>Int.le_refl _
 |s::l,d=>by
  rw[runP]
  split
  ·exact step_st s d
  ·exact Int.le_trans (Zt8 l _) (step_st s d)
def endJ_st(j:JoD)(s:StD)(w:WrD):(endJ j s w).1.dk.st≤j.dk.st:=by
 unfold endJ
 split
 ·exact Int.le_refl _
 split
 ·exact Zt8 _ _
 ·exact Zt8 _ _
def one_st(j:JoD)(d:DeD):(oneP j d).1.dk.st≤j.dk.st:=by
 unfold oneP appP synJ rotJ appQ synQ rotQ
 repeat' split
 all_goals first|exact Int.le_refl _|exact endJ_st _ _ _|exact Zil
def lvs_st{j:JoD}(h:Lvs j){s:Int}(b: -1≤s):Lvs {j with dk:={j.dk with st:=s}}∧evsJ {j with dk:={j.dk with st:=s}}=evsJ j:=by
 have a:RightJ {j with dk:={j.dk with st:=s}}:=(by refine⟨h.right.cfg,⟨⟨h.right.dk.1.1,h.right.dk.1.2.1,h.right.dk.1.2.2.1,b⟩,h.right.dk.2⟩,h.right.up,h.right.out,h.right.good,h.right.all,?_,h.right.sure.1,h.right.sure.2⟩;have:=h.right.eq;exact congrArg (λx:JoD=>{x with dk:={j.dk with st:=s}}) this);exact⟨⟨a,h.new,h.syn⟩,by rw[Zb8 a,Zb8 h.right]⟩
def begin_lvs{room b a:Int}(d:0≤room∧room≤65535)(e:0≤b∧b≤255)(g:0≤a∧a≤65535):Lvs (begP room b a)∧evsJ (begP room b a)=[]:=by
 obtain⟨_,c,i⟩:=Zk7 d e g;exact⟨Zlo c.fre.right i (by intro f h;cases h),by rw[Zb8 c.fre.right];rfl⟩
def lvs_ok{j:JoD}(h:Lvs j)(a:j.dk.st≤60):j.ok:=ok_of h.right (by omega)
def llasts_fn(bt W:Int)(w:0≤bt∧bt≤255)(ha:0≤W∧W≤65535)(i:List (List DeD))(hl:∀o∈i,∀d∈o,d.ok)(g:List Int)(hst:∀n∈g,0≤n∧n≤255)(ks:List Int)(ai:∀o∈i,o.length≤140737488351232):
  Ct prog 6 {} [U8 bt,U16 W,SL 1 (liR i),SL 1 (g.map λn=>[U8 n]),SL 1 (ks.map λk=>[I k])] (λr=>r=[B true]):=by
 obtain⟨b1,b2,b3⟩:=Zk7 (room:=60000) (by omega) w ha;obtain⟨b4,b5⟩:=begin_lvs (room:=60000) (by omega) w ha;refine llasts_nf (Cl.of jawake_fn ⟨_,rfl,Zaa (λh=>by simp at h) (λ_=>Zaa (λ_=>rfl) (λh6=>?_))⟩);have h6:i.length≤6∧ks.length≤9:=by simp at h6;exact⟨by omega,by omega⟩
 refine Cl.of (lbegin_fn (room:=60000) (by omega) w ha) ⟨_,_,_,_,_,_,_,_,_,_,_,_,_,_,_,_,_,rfl,Zaa (λh=>by simp at h) (λ_=>?_)⟩
 refine⟨λX x C D E G H J K M N O P q t Q T U=>∃j,isJ j C D E G H J K M N O P q t Q T U∧X=evR (evsJ j)∧Lvs j∧j.dk.st= -1∧(0≤x∧x≤i.length)∧(evsJ j).length≤20*x,
  λ_ x _ _ _ _ _ _ _ _ _ _ _ _ _ _ _ _=>(i.length-x).toNat,⟨_,⟨rfl,rfl,rfl,rfl,rfl,rfl,rfl,rfl,rfl,rfl,rfl,rfl,rfl,rfl,rfl,rfl⟩,by rw[b5];rfl,b4,rfl,⟨by omega,by omega⟩,by rw[b5];simp⟩,?_⟩
 rintro _ x _ _ _ _ _ _ _ _ _ _ _ _ _ _ _ _ ⟨j,⟨rfl,rfl,rfl,rfl,rfl,rfl,rfl,rfl,rfl,rfl,rfl,rfl,rfl,rfl,rfl,rfl⟩,rfl,L,hj1,⟨x0,hx⟩,hel⟩;refine Zaa (λp=>?_) (λ_=>rfl);have p:x<i.length:=by simpa using p
 obtain⟨o,hds⟩:∃o,o=i[x.toNat]:=⟨_,rfl⟩
 have V:=Zay (λo:List DeD=>[SL 8 (deR o)]) i x x0 p;have hd:=hl i[x.toNat] (List.getElem_mem _);rw[←hds]at V hd;refine⟨inM _ x0 p,_,V,Zaa (λ_=>rfl) (λa0=>?_)⟩;have a0:o.length≤20:=(by simp at a0;omega);refine⟨λC D E G H J K M N O P q t Q T U=>∃z,isJ z C D E G H J K M N O P q t Q T U∧Lvs z∧evsJ z=evsJ j∧z.dk.st≤60,λ_ _ _ _ _ _ _ _ _ _ _ _ _ _ _ _=>0,Zaa (λhs=>?_) (λ_=>⟨rfl,j,⟨rfl,rfl,rfl,rfl,rfl,rfl,rfl,rfl,rfl,rfl,rfl,rfl,rfl,rfl,rfl,rfl⟩,L,rfl,by omega⟩),?_⟩
 ·have hs:x<g.length:=(by simpa using hs);have hn:=hst g[x.toNat] (List.getElem_mem _);have e1:wrem (wcv IntKind.i64 g[x.toNat]) 60=g[x.toNat]%60:=(by rw[show wcv IntKind.i64 g[x.toNat]=g[x.toNat]from Zbe (by omega) (by omega)];exact Int.tmod_eq_emod_of_nonneg hn.1);obtain⟨q1,q2⟩:=lvs_st L (s:=g[x.toNat]%60) (by omega);refine⟨inM _ x0 hs,_,Zay _ g x x0 hs,by decide,rfl,_,?_,q1,q2,by show g[x.toNat]%60≤60;omega⟩;rw[e1];exact⟨rfl,rfl,rfl,rfl,rfl,rfl,rfl,rfl,rfl,rfl,rfl,rfl,rfl,rfl,rfl,rfl⟩
 rintro _ _ _ _ _ _ _ _ _ _ _ _ _ _ _ _ ⟨z,⟨rfl,rfl,rfl,rfl,rfl,rfl,rfl,rfl,rfl,rfl,rfl,rfl,rfl,rfl,rfl,rfl⟩,L1,he1,hs1⟩
 refine⟨λX k C D E G H J K M N O P q t Q T U=>∃f m,isJ f C D E G H J K M N O P q t Q T U∧X=evR m∧Life f m∧(f.cb=z.cb∧f.cg=z.cg)∧f.dk.st≤60∧(0≤k∧k≤o.length)∧m.length≤20*x+k,
  λ_ k _ _ _ _ _ _ _ _ _ _ _ _ _ _ _ _=>(o.length-k).toNat,⟨z,evsJ z,⟨rfl,rfl,rfl,rfl,rfl,rfl,rfl,rfl,rfl,rfl,rfl,rfl,rfl,rfl,rfl,rfl⟩,by rw[he1],.inl ⟨L1.right.up,L1,rfl⟩,⟨rfl,rfl⟩,hs1,⟨by omega,by omega⟩,by rw[he1];omega⟩,?_⟩
 rintro _ k _ _ _ _ _ _ _ _ _ _ _ _ _ _ _ _ ⟨f,m,⟨rfl,rfl,rfl,rfl,rfl,rfl,rfl,rfl,rfl,rfl,rfl,rfl,rfl,rfl,rfl,rfl⟩,rfl,F,⟨hc1,hc2⟩,hs2,⟨k0,hk⟩,hal⟩;refine⟨inM _ x0 p,_,V,Zaa (λv=>?_) (λ_=>?_)⟩
 ·have v:k<o.length∧f.dk.dn=false:=(by simpa using v);obtain⟨v,Y⟩:=v
  obtain⟨d,hd0⟩:∃d,d=o[k.toNat]:=⟨_,rfl⟩
  have A:=Zay DeD.row o k k0 v;have Z:=hd o[k.toNat] (List.getElem_mem _);rw[←hd0]at A Z
  have L2:Lvs f∧m=evsJ f:=by
   rcases F with⟨_,a,b⟩|⟨a,_⟩
   ·exact⟨a,b⟩
   ·rw[a]at Y;cases Y
  obtain⟨L2,ah⟩:=L2;have aa:=lvs_ok L2 hs2;have c:=lone_fn f aa d Z;obtain⟨n1,n2,n3⟩:=life_one F Y d (mayS_16 _);have n4:=one_st f d;refine⟨inM _ x0 p,_,V,inM _ k0 v,_,_,_,_,_,_,_,_,A,Zaa (λ_=>rfl) (λ_=>?_)⟩
  refine⟨λe C D E G H J K M N O P q t Q T U=>e=(oneP f d).2∧isJ (oneP f d).1 C D E G H J K M N O P q t Q T U,λ_ _ _ _ _ _ _ _ _ _ _ _ _ _ _ _ _=>0,
   ⟨inM _ x0 p,_,V,inM _ k0 v,_,_,_,_,_,_,_,_,A,Cl.of c ⟨_,_,_,_,_,_,_,_,_,_,_,_,_,_,_,_,_,rfl,rfl,rfl,rfl,rfl,rfl,rfl,rfl,rfl,rfl,rfl,rfl,rfl,rfl,rfl,rfl,rfl,rfl,rfl⟩,Cl.of c ⟨_,_,_,_,_,_,_,_,_,_,_,_,_,_,_,_,_,rfl,rfl,rfl,rfl,rfl,rfl,rfl,rfl,rfl,rfl,rfl,rfl,rfl,rfl,rfl,rfl,rfl,rfl,rfl⟩⟩,?_⟩
  rintro _ _ _ _ _ _ _ _ _ _ _ _ _ _ _ _ _ ⟨rfl,rfl,rfl,rfl,rfl,rfl,rfl,rfl,rfl,rfl,rfl,rfl,rfl,rfl,rfl,rfl,rfl⟩;have e8:=rem_8 Z.k.1
  have hq:=(Zv4 L2.right.fct.st)
  unfold ctxOK at hq;rw[Zac (a:=f.st.q),Zac (a:=k)];refine⟨inM _ x0 p,_,V,inM _ k0 v,_,_,_,_,_,_,_,_,A,by decide,λX=>X=evR (if d.k%8<6∧((oneP f d).2=0∨(oneP f d).2=16)then m++[evN f d.e]else m),λ_=>0,Zaa (λw=>?_) (λw=>?_),?_⟩
  ·rw[e8]at w;have w:d.k%8<6∧((oneP f d).2=0∨(oneP f d).2=16):=(by simpa using w);refine⟨inM _ x0 p,_,V,inM _ k0 v,_,_,_,_,_,_,_,_,A,by simp;omega,rfl,?_⟩;rw[if_pos w];simp[rapp,evN]
  ·rw[e8]at w;have w:¬(d.k%8<6∧((oneP f d).2=0∨(oneP f d).2=16)):=(by simpa using w);rw[if_neg w];exact⟨rfl,rfl⟩
  ·rintro _ rfl;refine⟨rfl,⟨_,_,⟨rfl,rfl,rfl,rfl,rfl,rfl,rfl,rfl,rfl,rfl,rfl,rfl,rfl,rfl,rfl,rfl⟩,rfl,n1,⟨n2.trans hc1,n3.trans hc2⟩,by omega,⟨by omega,by omega⟩,?_⟩,mlt (by first|omega|(dsimp only;omega))⟩
   split
   ·rw[List.length_append,YT];omega
   ·omega
 ·have ab:mayC f.cb f.cg:=(by rw[hc1,hc2];exact L1.right.cfg);obtain⟨l,a1,a2,R,⟨u,a3⟩,a4,a5,a6,a7,a8,L3,a9,aj,ak⟩:=life_next F ab ks;obtain⟨hP,_⟩:=F.saf;have ac:f.dk.ok:=hP.ok (by omega);have wP:=Zws (ks:=ks) (n:=-1) hP;have ad:(Zcc f.dk ks (-1)).1.st= -1:=(by unfold Zcc;rw[if_neg (by simp[hP])]);have y:l.ok:=ok_of R (by rw[a8];decide);refine Cl.of (dwake_fn f.dk ac ks (-1) (by omega)) ⟨_,_,_,_,_,rfl,?_⟩;refine Cl.of (Zkk (Zcc f.dk ks (-1)).1 (wP.ok (by rw[ad];decide)) f.cb f.cg) ?_;rw[a1,a2];refine⟨_,_,_,_,_,_,_,_,_,_,_,_,_,_,_,_,_,rfl,Cl.of (Zng l y) ⟨_,rfl,Zaa (λh=>by simp at h) (λ_=>Cl.of (Zf0 l y) ⟨_,rfl,?_⟩)⟩⟩;have am:(evsJ l).length≤m.length:=(by rw[a3,List.length_append];omega);have ae:rlen (evR (evsJ l))=(evsJ l).length:=(by simp);have af:rlen (evR m)=m.length:=(by simp);rw[Zec.2 R,ae,af];refine Zaa (λh=>by simp at h;omega) (λ_=>⟨⟨by omega,by omega,by omega⟩,?_⟩);rw[evR_take,a3,List.take_left];have cE:=Li.esame_fn ((evsJ l).map toE) ((evsJ l).map toE) (by rw[List.length_map];omega);rw[←ev_eR]at cE;refine Cl.of cE ⟨_,rfl,Zaa (λh=>by simp at h) (λ_=>?_)⟩;have ag:(foldS st0 ((evsJ l).map toE)).2.1=(evsJ l).length:=(by rw[(Zwe _ _ a6).2,List.length_map]);have cF:=sfold_fn st0 ⟨by decide,by decide⟩ ((evsJ l).map toE) (by rw[List.length_map];omega);rw[←ev_eR,a6,ag,←a5]at cF;refine Cl.of cF ⟨_,_,_,_,_,rfl,?_⟩;refine Cl.of (Zkk l.dk y.dk f.cb f.cg) ?_;rw[a7];refine⟨_,_,_,_,_,_,_,_,_,_,_,_,_,_,_,_,_,rfl,Zaa (λh=>by simp at h) (λ_=>?_)⟩;refine Cl.of (Zvx l.st l.st (by have:=y.cs;omega) y.cl) ⟨_,rfl,Zaa (λh=>by simp[a9]at h) (λ_=>?_)⟩;refine Cl.of (Zyl l l y) ⟨_,rfl,Zaa (λh=>by simp at h) (λ_=>⟨by simp;omega,rfl,?_,?_⟩)⟩
  ·rw[Zac];exact⟨l,⟨rfl,rfl,rfl,rfl,rfl,rfl,rfl,rfl,rfl,rfl,rfl,rfl,rfl,rfl,rfl,rfl⟩,by simp[rapp],L3,a8,⟨by omega,by omega⟩,by omega⟩
  ·rw[Zac];exact mlt (by first|omega|(dsimp only;omega))

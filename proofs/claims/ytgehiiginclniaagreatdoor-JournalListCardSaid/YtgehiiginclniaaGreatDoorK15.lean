import Derived.Test.YtgehiiginclniaaGreatDoorK14
set_option linter.all false
set_option maxRecDepth 100000
namespace Go.Proofs.YtgehiiginclniaaGreatDoor
namespace Jou
open Go Go.Px Go.Proofs Cod Seg Sgr Snp Sx Row Tryz
structure Fre(j:JoD):Prop where
 right:RightJ j
 st:j.dk.st= -1
def Zfo(b:List Int):(bys b).length=b.length:=by simp[bys]
def fn_nm{n:Int}(h:inN n):fnB (nmG n)=true:=by rw[Zfr h];exact segNm_ok _
def num_nm{n:Int}(h:inN n):numS (nmG n)≠0:=by rw[Zfr h,Zjy h];unfold inN at h;omega
def Zx0{b:Int}{N:List BA}{u:Nat}{n:Int}{x y:List UInt8}(a:inN n)(c:nmG n∉N)(d:N.length<64)(e:(u:Int)+x.length+y.length≤b):can b N u [.cre (nmG n),.wri (nmG n) x,.wri (nmG n) y]:=
 ⟨fn_nm a,c,d,num_nm a,fn_nm a,List.mem_cons_self,by omega,fn_nm a,List.mem_cons_self,by omega,trivial⟩
def seg_no{l:List FiD}{n:Int}(a:inN n)(b:∀f∈segs l,numS f.nm<n):nmG n∉l.map FiD.nm:=by
 intro h;obtain⟨f,c,e⟩:=Y3.1 h;have d:numS f.nm=n:=by rw[e,Zfr a];exact Zjy a
 have g:f∈segs l:=List.mem_filter.2 ⟨c,by unfold inN at a;simp only[isSeg,d,decide_eq_true_eq];omega⟩;have:=b f g;omega
def nxt_snoc{v:WrD}{l:List SgD}{p:SgD}(h:v.j.sg=l++[p]):nxtN v=p.num+1:=by unfold nxtN;rw[h,Zae]
inductive Tds(j:JoD)(e:Cod.EvD):List Stp→Int→Int→Prop
 |rcd (gs g) (hs:segs j.dk.fs=gs++[g]) (hp:Par j (gs++[g])) (hl:(scF g).sl=false) (he:encE j.cx.s j.cx.a j.cx.m e=0):Tds j e [.wri (nmG (scF g).num) (bys (recL' j e))] (0+(recL' j e).length) j.sure
 |nws (n) (hn:inN n) (h64:j.dk.fs.length<64) (hb:∀f∈segs j.dk.fs,numS f.nm<n) (hl:∀g,(segs j.dk.fs).getLast?=some g→(scF g).sl=true∧n=(scF g).num+1) (h1:segs j.dk.fs=[]→n=1) (he:encE j.st.q j.st.t [] e=0):
   Tds j e [.cre (nmG n),.wri (nmG n) (bys (hedB j n)),.wri (nmG n) (bys (fr 2 (encL j.st.q j.st.t [] e)))] (0+(hedB j n).length+(fr 2 (encL j.st.q j.st.t [] e)).length) j.sure
 |sld (gs g) (hs:segs j.dk.fs=gs++[g]) (hp:Par j (gs++[g])) (hl:(scF g).sl=false) (hn:inN ((scF g).num+1)) (h64:j.dk.fs.length<64) (he:encE j.st.q j.st.t [] e=0):
   Tds j e [.wri (nmG (scF g).num) (bys (selB j (sgOf ⟨scF g,g.len⟩))),.syn (nmG (scF g).num),.cre (nmG ((scF g).num+1)),.wri (nmG ((scF g).num+1)) (bys (hedB j ((scF g).num+1))),.wri (nmG ((scF g).num+1)) (bys (fr 2 (encL j.st.q j.st.t [] e)))]
    (0+(selB j (sgOf ⟨scF g,g.len⟩)).length+(hedB j ((scF g).num+1)).length+(fr 2 (encL j.st.q j.st.t [] e)).length) j.st.q
def Zqv{a v w:WrD}{e:Cod.EvD}(c:begW a=some v)(b:recW v e=some w):inN (nxtN a)∧a.j.dk.fs.length<64∧encE a.j.st.q a.j.st.t [] e=0∧
  w.td=a.td++[.cre (nmG (nxtN a)),.wri (nmG (nxtN a)) (bys (hedB a.j (nxtN a))),.wri (nmG (nxtN a)) (bys (fr 2 (encL a.j.st.q a.j.st.t [] e)))]∧w.sz=a.sz+(hedB a.j (nxtN a)).length+(fr 2 (encL a.j.st.q a.j.st.t [] e)).length∧w.j.sure=a.j.sure:=by
 unfold begW at c
 split at c
 ·cases c
 rename_i hno;have f:inN (nxtN a):=Classical.byContradiction λq=>hno (.inl q);have c:=Option.some.inj c;unfold recW at b;rw[←c]at b
 dsimp only at b
 rw[Zae]at b
 dsimp only at b
 split at b
 ·cases b
 rename_i d;have d:encE a.j.st.q a.j.st.t [] e=0:=(by simpa using d);have b:=Option.some.inj b;exact⟨f,by omega,d,by rw[←b];simp[recL'],by rw[←b];rfl,by rw[←b]⟩
def td_cases{j:JoD}(A:RightJ j){e:Cod.EvD}{w:WrD}(d:w3 j e=some w):Tds j e w.td w.sz w.j.sure:=by
 unfold w3 at d
 cases b:w2 j e with
 |none=>rw[b]at d;cases d
 |some v=>
 rw[b]at d;have d:recW v e=some w:=d;unfold w2 at b
 rcases Zez j A with⟨h,c⟩|⟨gs,g,h,hp,c⟩
 ·have e1:w1 j e=w0 j:=(by unfold w1;rw[c];rfl);have n:opnW (w1 j e)=false:=(by rw[e1];unfold opnW;rw[show(w0 j).j.sg=[]from c];rfl);rw[if_neg (by simp[n]),e1]at b;obtain⟨i,p,r,k,l,t⟩:=Zqv b d;have u:nxtN (w0 j)=1:=(by unfold nxtN;rw[show(w0 j).j.sg=[]from c];rfl);rw[u]at i k l;rw[k,l,t];exact .nws 1 i p (by rw[h];simp) (by rw[h];simp) (λ_=>rfl) r
 ·by_cases f:(scF g).sl=true
  ·have e1:w1 j e=w0 j:=by
    unfold w1;rw[c,Zae];have:ovrB j e=false:=by unfold ovrB;rw[c,Zae];simp[sgOf,f]
    simp[this]
   have n:opnW (w1 j e)=false:=(by rw[e1];unfold opnW;rw[show(w0 j).j.sg=_ from c,Zae];simp[sgOf,f]);rw[if_neg (by simp[n]),e1]at b;obtain⟨i,p,r,k,l,t⟩:=Zqv b d;have u:nxtN (w0 j)=(scF g).num+1:=nxt_snoc (show(w0 j).j.sg=_ from c);rw[u]at i k l;rw[k,l,t];exact .nws _ i p (by rw[h];exact hp.big) (λx z=>by rw[h,List.getLast?_concat]at z;cases z;exact⟨f,rfl⟩) (λq=>by rw[h]at q;simp at q) r
  ·have f:(scF g).sl=false:=(by simpa using f);by_cases o:ovrB j e=true
   ·have e1:w1 j e=sealW (w0 j) ((gs.map (ptF scF)).map sgOf) (sgOf ⟨scF g,g.len⟩):=(by unfold w1;rw[c,Zae];simp[o]);have n:opnW (w1 j e)=false:=(by rw[e1];unfold opnW sealW;dsimp only;rw[Zae];rfl);rw[if_neg (by simp[n]),e1]at b;obtain⟨i,p,r,k,l,t⟩:=Zqv b d;have u:nxtN (sealW (w0 j) ((gs.map (ptF scF)).map sgOf) (sgOf ⟨scF g,g.len⟩))=(scF g).num+1:=(by unfold nxtN sealW;dsimp only;rw[Zae];rfl);rw[u]at i k l;rw[k,l,t];exact .sld gs g h hp f i p r
   ·have o:ovrB j e=false:=(by simpa using o);have e1:w1 j e=w0 j:=(by unfold w1;rw[c,Zae];simp[o]);have n:opnW (w1 j e)=true:=(by rw[e1];unfold opnW;rw[show(w0 j).j.sg=_ from c,Zae];simp[sgOf,f]);rw[if_pos n,e1]at b;have b:=Option.some.inj b;subst b;unfold recW at d;rw[show(w0 j).j.sg=_ from c,Zae]at d
    dsimp only at d
    split at d
    ·cases d
    rename_i y;have y:encE j.cx.s j.cx.a j.cx.m e=0:=Yi.1 y;have d:=Option.some.inj d;rw[←d];exact .rcd gs g h hp f y
def app_can{j:JoD}{e:Cod.EvD}{k:List Stp}{l p:Int}(q:Tds j e k l p)(w:(usedL j.dk.fs:Int)+l≤j.dk.rm):can j.dk.rm (j.dk.fs.map FiD.nm) (usedL j.dk.fs) k:=by
 cases q with
 |rcd u g d f m o=>obtain⟨r,s,b3,i,b5,t⟩:=f.in_;have a:g∈j.dk.fs:=(List.mem_filter.1 (show g∈segs j.dk.fs by rw[d];simp)).1;exact⟨fn_nm b5,Y3.2 ⟨g,a,i⟩,by rw[Zfo];omega,trivial⟩
 |nws n b c v m x o=>refine Zx0 b (seg_no b v) (by simpa using c) ?_;rw[Zfo,Zfo];omega
 |sld u g d f m b c o=>obtain⟨r,s,b3,i,b5,t⟩:=f.in_;have a:g∈j.dk.fs:=(List.mem_filter.1 (show g∈segs j.dk.fs by rw[d];simp)).1;have h:nmG (scF g).num∈j.dk.fs.map FiD.nm:=Y3.2 ⟨g,a,i⟩;refine⟨fn_nm b5,h,by rw[Zfo];omega,fn_nm b5,h,Zx0 b (seg_no b (by rw[d];exact f.big)) (by simpa using c) ?_⟩;rw[Zfo,Zfo,Zfo];omega
def Zo8(s:List SgD):(s=[]∧lasS s=none)∨∃l p,s=l++[p]∧lasS s=some (l,p):=by
 rcases Y2 s with rfl|⟨l,p,rfl⟩
 ·exact .inl ⟨rfl,rfl⟩
 ·rw[List.concat_eq_append];exact .inr ⟨l,p,rfl,Zae l p⟩
def Fr0(l:List SgD):Prop:=∀p∈l.head?,p.fr=0
def Znh{l:List SgD}{p q:SgD}(h:Fr0 (l++[p]))(e:q.fr=p.fr):Fr0 (l++[q]):=by
 cases l with
 |nil=>intro x b;cases b;rw[e];exact h p rfl
 |cons a l=>exact h
def fr0_app{l:List SgD}{q:SgD}(h:Fr0 l)(e:l=[]→q.fr=0):Fr0 (l++[q]):=by
 cases l with
 |nil=>intro x b;cases b;exact e rfl
 |cons a l=>exact h
def recW_fr{v w:WrD}{e:Cod.EvD}(h:recW v e=some w)(a:Fr0 v.j.sg):Fr0 w.j.sg:=by
 unfold recW at h
 rcases Zo8 v.j.sg with⟨_,q⟩|⟨l,p,hs,q⟩
 ·rw[q]at h;cases h
 rw[q]at h
 dsimp only at h
 split at h
 ·cases h
 have h:=Option.some.inj h;rw[←h];rw[hs]at a;exact Znh a rfl
def begW_fr{v w:WrD}(h:begW v=some w)(a:Fr0 v.j.sg)(b:v.j.sg=[]→v.j.st.t=0):Fr0 w.j.sg:=by
 unfold begW at h
 split at h
 ·cases h
 have h:=Option.some.inj h;rw[←h];exact fr0_app a b
def w1_fr{j:JoD}(e:Cod.EvD)(a:Fr0 j.sg):Fr0 (w1 j e).j.sg∧((w1 j e).j.sg=[]→j.sg=[])∧(w1 j e).j.st=j.st:=by
 unfold w1
 rcases Zo8 j.sg with⟨_,q⟩|⟨l,p,hs,q⟩
 ·rw[q];exact⟨a,λh=>h,rfl⟩
 rw[q]
 dsimp only
 split
 ·rw[hs]at a;exact⟨Znh a rfl,λh=>by simp[sealW]at h,rfl⟩
 ·exact⟨a,λh=>h,rfl⟩
def w3_fr{j:JoD}{e:Cod.EvD}{w:WrD}(h:w3 j e=some w)(d:Fr0 j.sg)(f:j.sg=[]→j.st.t=0):Fr0 w.j.sg:=by
 obtain⟨a,b,c⟩:=w1_fr e d;unfold w3 at h
 cases h2:w2 j e with
 |none=>rw[h2]at h;cases h
 |some v=>
  rw[h2]at h;refine recW_fr h ?_;unfold w2 at h2
  split at h2
  ·rw[←Option.some.inj h2];exact a
  ·exact begW_fr h2 a λq=>by rw[c];exact f (b q)
def New(j:JoD):Prop:=(∀f∈j.dk.fs,numS f.nm≠0)∧Fr0 j.sg
def Zni{l:List FiD}(b:Go.Px.srt FiD.nm l)(h:∀f∈l,numS f.nm≠0):keptF l=0∧baseF l=st0:=by
 have a:newF l=none:=Zo3 b λt c=>by obtain⟨f,d,_,a,_⟩:=c;exact Zea (h f d) _ a
 unfold keptF baseF;rw[a];exact⟨rfl,rfl⟩
def New.t{j:JoD}(h:New j)(b:RightJ j)(e:j.sg=[]):j.st.t=0:=by
 have p:=b.par;have a:=p.sg;rw[e]at a;have a:segs j.dk.fs=[]:=(by simpa using a.symm);rw[p.st,a,(Zni b.dk.2.2.2 h.1).2];rfl
structure Kp(j k:JoD):Prop where
 fre:Fre k
 cb:k.cb=j.cb
 cg:k.cg=j.cg
 kept:k.kept=j.kept
 rm:k.dk.rm=j.dk.rm
 sure:j.sure≤k.sure
 nm:New j→New k
def Kp.refl{j:JoD}(h:Fre j):Kp j j:=⟨h,rfl,rfl,rfl,rfl,Int.le_refl _,λh=>h⟩
def Kp.trans{a b c:JoD}(h:Kp a b)(k:Kp b c):Kp a c:=⟨k.fre,k.cb.trans h.cb,k.cg.trans h.cg,k.kept.trans h.kept,k.rm.trans h.rm,Int.le_trans h.sure k.sure,λq=>k.nm (h.nm q)⟩
def Zij{j:JoD}(h:RightJ j)(b:Bool):RightJ {j with shut:=b}:=⟨h.cfg,h.dk,h.up,h.out,h.good,h.all,by have:=h.eq;exact congrArg (λx:JoD=>{x with shut:=b}) this,h.sure.1,h.sure.2⟩
def Kp.shut{j:JoD}(h:Fre j)(b:Bool):Kp j {j with shut:=b}:=⟨⟨Zij h.right b,h.st⟩,rfl,rfl,rfl,rfl,Int.le_refl _,λh=>h⟩
def app_any{j:JoD}(a:RightJ j)(e:Cod.EvD):
  ((appS j.st (toE (evN j e))).2≠0∧appP j e=(j,(appS j.st (toE (evN j e))).2))∨
  ((appS j.st (toE (evN j e))).2=0∧appP j e=({j with shut:=true},13))∨
  ((appS j.st (toE (evN j e))).2=0∧j.shut=false∧∃w b c,w3 j (evN j e)=some w∧(usedL j.dk.fs:Int)+w.sz≤j.dk.rm∧Ends j.dk w.td b c∧
   ((c=0∧∃k,appP j e=(k,0)∧k.dk=b∧k.sure=w.j.sure∧Took j k (evN j e)∧(New j→New k))∨(c=16∧appP j e=({j with dk:=b},16)))):=by
 have m:appP j e=appQ j e:=(by unfold appP;rw[if_neg (by rw[Zcd.2 a];simp)]);rw[m]
 obtain⟨l,hk⟩:∃l,appQ j e=l:=⟨_,rfl⟩
 rw[hk];have n:=hk;unfold appQ at hk
 split at hk
 next g=>exact .inl ⟨g,hk.symm⟩
 rename_i g;have h:(appS j.st (toE (evN j e))).2=0:=(by simpa using g);refine .inr ?_
 split at hk
 next d=>refine .inl ⟨h,?_⟩;rw[←hk];show(j,(13:Int))=_;rw[←d]
 rename_i d;have d:j.shut=false:=by simpa using d
 split at hk
 ·exact .inl ⟨h,hk.symm⟩
 rename_i w i;unfold endJ at hk
 split at hk
 ·exact .inl ⟨h,hk.symm⟩
 rename_i o;obtain⟨b,c,E⟩:=Zim w.td a.dk a.up (nms j.dk) (app_can (td_cases a i) (by omega));refine .inr ⟨h,d,w,b,c,i,by omega,E,?_⟩;rw[E.run]at hk
 rcases E.how with⟨f,_⟩|⟨f,_⟩
 ·rw[f]at hk;simp only[ne_eq,not_true_eq_false,if_false]at hk;refine .inl ⟨f,_,hk.symm,rfl,rfl,?_⟩;rw[←hk]at n;exact⟨Zia a n,λq=>⟨E.nm q.1,w3_fr i q.2 (q.t a)⟩⟩
 ·rw[f,if_pos (show(16:Int)≠0 by decide)]at hk;exact .inr ⟨f,hk.symm⟩
def Zs3{j:JoD}(h:Fre j)(e:Cod.EvD):
  ((appS j.st (toE (evN j e))).2≠0∧appP j e=(j,(appS j.st (toE (evN j e))).2))∨
  ((appS j.st (toE (evN j e))).2=0∧appP j e=({j with shut:=true},13))∨
  ((appS j.st (toE (evN j e))).2=0∧j.shut=false∧∃k,appP j e=(k,0)∧Took j k (evN j e)∧Kp j k):=by
 rcases app_any h.right e with h1|h1|⟨h1,h2,w,d',c,h3,_,E,h4⟩
 ·exact .inl h1
 ·exact .inr (.inl h1)
 ·refine .inr (.inr ⟨h1,h2,?_⟩)
  rcases h4 with⟨b,k,d,f,_,T,g⟩|⟨b,_⟩
  ·rcases E.how with⟨_,_,_,a⟩|⟨a,_⟩
   ·exact⟨k,d,T,⟨T.right,by rw[f];exact a h.st⟩,T.cfg.1,T.cfg.2,T.kept,T.rm,T.sure,g⟩
   ·rw[a]at b;cases b
  ·rcases E.how with⟨a,_⟩|⟨_,a,_⟩
   ·rw[a]at b;cases b
   ·exact absurd h.st a
def syn_any{j:JoD}(d:RightJ j):∃l a c,Ends j.dk l a c∧((l=[]∧∀g,(segs j.dk.fs).getLast?=some g→(scF g).sl=true)∨∃o g,segs j.dk.fs=o++[g]∧l=[.syn g.nm])∧
  ((c=0∧∃k,synJ j=(k,0)∧k.dk=a∧RightJ k∧k.st=j.st∧evsJ k=evsJ j∧k.sure=j.st.q∧k.cb=j.cb∧k.cg=j.cg∧k.shut=j.shut∧k.kept=j.kept∧(New j→New k))∨(c=16∧synJ j=({j with dk:=a},16))):=by
 have s:synJ j=synQ j:=(by unfold synJ;rw[if_neg (by rw[Zcd.2 d];simp)]);rw[s];have fin:∀l a,Ends j.dk l a 0→synQ j=({j with dk:=a,sure:=j.st.q},0)→∃k,synQ j=(k,0)∧k.dk=a∧RightJ k∧k.st=j.st∧evsJ k=evsJ j∧k.sure=j.st.q∧k.cb=j.cb∧k.cg=j.cg∧k.shut=j.shut∧k.kept=j.kept∧(New j→New k):=λl a E h=>by obtain⟨R,u,v,w,y,z,A,C,D⟩:=Zo9 d h;exact⟨_,h,rfl,R,u,v,w,y,z,A,C,λq=>⟨E.nm q.1,q.2⟩⟩
 have b:Ends j.dk [] j.dk 0:=⟨rfl,d.dk,rfl,λh=>h,.inl ⟨rfl,d.up,rfl,λh=>h⟩⟩
 rcases Zez j d with⟨f,e⟩|⟨o,g,f,hp,e⟩
 ·exact⟨[],_,0,b,.inl ⟨rfl,by rw[f];simp⟩,.inl ⟨rfl,fin [] _ b (by unfold synQ;rw[e];rfl)⟩⟩
 ·obtain⟨F,G,b3,r,b5,H⟩:=hp.in_;by_cases hsl:(scF g).sl=true
  ·exact⟨[],_,0,b,.inl ⟨rfl,λx p=>by rw[f,List.getLast?_concat]at p;cases p;exact hsl⟩,.inl ⟨rfl,fin [] _ b (by unfold synQ;rw[e,Zae];dsimp only;rw[if_pos (show(sgOf ⟨scF g,g.len⟩).sl=true from hsl)])⟩⟩
  ·have t:g∈j.dk.fs:=(List.mem_filter.1 (show g∈segs j.dk.fs by rw[f];simp)).1;obtain⟨a,c,E⟩:=Zim [.syn (nmG (scF g).num)] d.dk d.up (nms j.dk) ⟨fn_nm b5,Y3.2 ⟨g,t,r⟩,trivial⟩;have m:=E.run;rw[run1]at m;have m:Za3 j.dk (nmG (sgOf ⟨scF g,g.len⟩).num)=(a,c):=m;refine⟨_,a,c,E,.inr ⟨o,g,f,by rw[r]⟩,?_⟩
   have n:synQ j=if c≠0 then({j with dk:=a},c)else({j with dk:=a,sure:=j.st.q},0):=by
    unfold synQ;rw[e,Zae]
    dsimp only
    rw[if_neg (show¬(sgOf ⟨scF g,g.len⟩).sl=true from hsl),m]
   rcases E.how with⟨i,_⟩|⟨i,_⟩
   ·rw[i]at E n;exact .inl ⟨i,fin _ _ E n⟩
   ·rw[i,if_pos (show(16:Int)≠0 by decide)]at n;exact .inr ⟨i,n⟩
def Zs4{j:JoD}(h:Fre j):∃k,synJ j=(k,0)∧Kp j k∧k.st=j.st∧evsJ k=evsJ j∧k.sure=j.st.q∧k.shut=j.shut:=by
 obtain⟨l,u,c,E,_,f⟩:=syn_any h.right
 rcases f with⟨b,k,g,d,R,i,m,e,n,o,p,r,s⟩|⟨b,_⟩
 ·rcases E.how with⟨_,_,_,a⟩|⟨a,_⟩
  ·have t:j.sure≤j.st.q:=(Zh9 h.right).2.1;exact⟨k,g,⟨⟨R,by rw[d];exact a h.st⟩,n,o,r,by rw[d];exact E.rm,by rw[e];exact t,s⟩,i,m,e,p⟩
  ·rw[a]at b;cases b
 ·rcases E.how with⟨a,_⟩|⟨_,a,_⟩
  ·rw[a]at b;cases b
  ·exact absurd h.st a
def rot_any{j:JoD}(e:RightJ j):rotJ j=(j,14)∨rotJ j=({j with shut:=true},13)∨∃d g a c,segs j.dk.fs=d++[g]∧Par j (d++[g])∧(scF g).sl=false∧(usedL j.dk.fs:Int)+(selB j (sgOf ⟨scF g,g.len⟩)).length≤j.dk.rm∧Ends j.dk [.wri (nmG (scF g).num) (bys (selB j (sgOf ⟨scF g,g.len⟩))),.syn (nmG (scF g).num)] a c∧
  ((c=0∧∃k,rotJ j=(k,0)∧k.dk=a∧RightJ k∧k.st=j.st∧evsJ k=evsJ j∧k.sure=j.st.q∧k.cb=j.cb∧k.cg=j.cg∧k.shut=j.shut∧k.kept=j.kept∧(New j→New k))∨(c=16∧rotJ j=({j with dk:=a},16))):=by
 have x:rotJ j=rotQ j:=(by unfold rotJ;rw[if_neg (by rw[Zcd.2 e];simp)]);rw[x]
 obtain⟨v,hk⟩:∃v,rotQ j=v:=⟨_,rfl⟩
 rw[hk];unfold rotQ at hk
 rcases Zez j e with⟨o,b⟩|⟨d,g,o,hp,b⟩
 ·rw[b]at hk;exact .inl hk.symm
 ·obtain⟨J,K,b3,A,b5,L⟩:=hp.in_;have y:g∈j.dk.fs:=(List.mem_filter.1 (show g∈segs j.dk.fs by rw[o];simp)).1;rw[b,Zae]at hk
  dsimp only at hk
  split at hk
  ·exact .inl hk.symm
  rename_i hno
  have r:(scF g).sl=false:=by
   cases hq:(scF g).sl with
   |false=>rfl
   |true=>exact absurd (.inl hq) hno
  refine .inr ?_;unfold endJ at hk
  split at hk
  ·exact .inl hk.symm
  rename_i n;have s:nmG (scF g).num∈j.dk.fs.map FiD.nm:=Y3.2 ⟨g,y,A⟩;have F:(sealW (w0 j) ((d.map (ptF scF)).map sgOf) (sgOf ⟨scF g,g.len⟩)).sz=0+(selB j (sgOf ⟨scF g,g.len⟩)).length:=rfl;have G:(sealW (w0 j) ((d.map (ptF scF)).map sgOf) (sgOf ⟨scF g,g.len⟩)).td=[.wri (nmG (scF g).num) (bys (selB j (sgOf ⟨scF g,g.len⟩))),.syn (nmG (scF g).num)]:=rfl;rw[F]at n;obtain⟨a,c,E⟩:=Zim [.wri (nmG (scF g).num) (bys (selB j (sgOf ⟨scF g,g.len⟩))),.syn (nmG (scF g).num)] e.dk e.up (nms j.dk) ⟨fn_nm b5,s,by rw[Zfo];omega,fn_nm b5,s,trivial⟩;rw[G,E.run]at hk;refine .inr ⟨d,g,a,c,o,hp,r,by omega,E,?_⟩
  rcases E.how with⟨h,C,_⟩|⟨h,_⟩
  ·refine .inl ⟨h,?_⟩;have i:=E.run;rw[h]at i hk;simp only[ne_eq,not_true_eq_false,if_false]at hk;refine⟨_,hk.symm,?_⟩;obtain⟨p,f,w,D,M,N⟩:=Zqk hp r i j.cb j.cg j.st.q j.shut;have l:(anewJ a j.cb j.cg j.st.q j.shut).st=j.st:=(by rw[p]);have m:(anewJ a j.cb j.cg j.st.q j.shut).kept=j.kept:=(by rw[p]);obtain⟨O,Q,R⟩:=Zh9 e;have t:RightJ (anewJ a j.cb j.cg j.st.q j.shut):=Zow w e.cfg E.P C (by rw[show keptF a.fs=j.kept from m];omega) (by rw[l];exact Int.le_refl _);have u:=b;have b:segs a.fs=d++[f]:=w.dkr.eq;have z:evsJ (anewJ a j.cb j.cg j.st.q j.shut)=evsJ j:=(by rw[Zh8 t,Zh8 e,o];show evG (segs a.fs)=_;rw[b,Zff,Zff,D]);have H:({(sealW (w0 j) ((d.map (ptF scF)).map sgOf) (sgOf ⟨scF g,g.len⟩)).j with dk:=a,st:=j.st}:JoD)=anewJ a j.cb j.cg j.st.q j.shut:=(by rw[p];rfl);rw[H];refine⟨rfl,t,l,z,rfl,rfl,rfl,rfl,m,λq=>⟨E.nm q.1,?_⟩⟩;rw[p];have:=q.2;rw[u]at this;exact Znh this rfl
  ·refine .inr ⟨h,?_⟩;rw[h,if_pos (show(16:Int)≠0 by decide)]at hk;exact hk.symm
def Zs5{j:JoD}(h:Fre j):rotJ j=(j,14)∨rotJ j=({j with shut:=true},13)∨∃k,rotJ j=(k,0)∧Kp j k∧k.st=j.st∧evsJ k=evsJ j∧k.sure=j.st.q∧k.shut=j.shut:=by
 rcases rot_any h.right with h1|h1|⟨gs,g,d',c,_,_,_,_,E,h4⟩
 ·exact .inl h1
 ·exact .inr (.inl h1)
 ·refine .inr (.inr ?_)
  rcases h4 with⟨b,k,f,d,R,i,l,e,m,n,o,p,r⟩|⟨b,_⟩
  ·rcases E.how with⟨_,_,_,a⟩|⟨a,_⟩
   ·have s:j.sure≤j.st.q:=(Zh9 h.right).2.1;exact⟨k,f,⟨⟨R,by rw[d];exact a h.st⟩,m,n,p,by rw[d];exact E.rm,by rw[e];exact s,r⟩,i,l,e,o⟩
   ·rw[a]at b;cases b
  ·rcases E.how with⟨a,_⟩|⟨_,a,_⟩
   ·rw[a]at b;cases b
   ·exact absurd h.st a
structure DeD where
 k:Int
 e:Cod.EvD
noncomputable def oneP(j:JoD)(d:DeD):JoD×Int:=if d.k%8<6 then appP j d.e else if d.k%8=6 then synJ j else rotJ j
noncomputable def allP:JoD→List DeD→JoD
 |j,[]=>j
 |j,d::l=>allP (oneP j d).1 l
def one_kp{j:JoD}(h:Fre j)(d:DeD):Kp j (oneP j d).1:=by
 unfold oneP
 split
 ·rcases Zs3 h d.e with⟨_,e⟩|⟨_,e⟩|⟨_,_,k,e,_,q⟩
  ·rw[e];exact .refl h
  ·rw[e];exact .shut h _
  ·rw[e];exact q
 split
 ·obtain⟨k,e,q,_⟩:=Zs4 h;rw[e];exact q
 ·rcases Zs5 h with e|e|⟨k,e,q,_⟩
  ·rw[e];exact .refl h
  ·rw[e];exact .shut h _
  ·rw[e];exact q
end Jou
namespace Jou
open Go Go.Px Go.Proofs Cod Tryz
abbrev ec0(r:List SV)(K:LL→Int→Int→Bool→Int→Int→LL→Int→Int→LL→LL→Int→Int→Int→Int→Bool→Int→Prop):Prop:=∃h:LL,∃i:Int,∃j:Int,∃k:Bool,∃l:Int,∃m:Int,∃n:LL,∃o:Int,∃p:Int,∃q:LL,∃a:LL,∃b:Int,∃c:Int,∃d:Int,∃e:Int,∃f:Bool,∃g:Int,(r=[jr16 h i j k l m n o p q a b c d e f,I g])∧K h i j k l m n o p q a b c d e f g
abbrev ec1(r:List SV)(K:Bool→Prop):Prop:=∃a:Bool,(r=[B a])∧K a
abbrev ec2(r:List SV)(K:LL→Int→Int→Bool→Int→Int→LL→Int→Int→LL→LL→Int→Int→Int→Int→Bool→Bool→Prop):Prop:=∃h:LL,∃i:Int,∃j:Int,∃k:Bool,∃l:Int,∃m:Int,∃n:LL,∃o:Int,∃p:Int,∃q:LL,∃a:LL,∃b:Int,∃c:Int,∃d:Int,∃e:Int,∃f:Bool,∃g:Bool,(r=[jr16 h i j k l m n o p q a b c d e f,B g])∧K h i j k l m n o p q a b c d e f g
abbrev ec3(r:List SV)(K:Int→Int→Int→Int→BA→Int→Int→Int→Prop):Prop:=∃a:Int,∃b:Int,∃c:Int,∃d:Int,∃e:BA,∃f:Int,∃g:Int,∃h:Int,(r=[U8 a,I b,I c,I d,S e,I f,I g,I h])∧K a b c d e f g h
abbrev ec4(r:List SV)(K:LL→Prop):Prop:=∃a:LL,(r=[SL 7 a])∧K a
abbrev ec5(r:List SV)(K:BA→LL→LL→Prop):Prop:=∃a:BA,∃b:LL,∃c:LL,(r=[S a,SL 1 b,SL 1 c])∧K a b c
abbrev ec6(r:List SV)(K:LL→Int→Prop):Prop:=∃a:LL,∃b:Int,(r=[SL 1 a,I b])∧K a b
abbrev ec7(r:List SV)(K:LL→Int→Int→Bool→Int→Prop):Prop:=∃a:LL,∃b:Int,∃c:Int,∃d:Bool,∃e:Int,(r=[dk4 a b c d,I e])∧K a b c d e
abbrev ec8(r:List SV)(K:LL→Int→Int→Int→Int→Prop):Prop:=∃a:LL,∃b:Int,∃c:Int,∃d:Int,∃e:Int,(r=[st3 a b c,I d,I e])∧K a b c d e
def Zyv{a t c:Int}{Q:QQ}(h:Cl prog 13 sP ([dk4 [] (wcv .i64 a) ((-1:Int)) false,SV.agg [I (wadd .i64 64 (wcv .i64 t)),I (wadd .i64 (wcv .i64 c) 1)]]) (λw=>ec0 w λl x d b e g i j k m n o p q r s u=>(ifB (ieq u 0) (Cl prog 17 sP ([jr16 l x d b e g i j k m n o p q r s]) (λv=>ec1 v λy=>(Q ([jr16 l x d b e g i j k m n o p q r s,B y])))) (Q ([jr16 l x d b e g i j k m n o p q r s,B false]))))):Ct prog 30 {} [.val (.int .u16 a),U8 t,.val (.int .u16 c)] Q:=
 fN SgT SvT func30 h
def lone_nf{rows:LL}{d a:Int}{e:Bool}{F G:Int}{segs:LL}{H J:Int}{K L:LL}{M N g i:Int}{shut:Bool}{k:Int}{O P R:Int}{c:BA}{x y z:Int}{Q:QQ}(h:(((8:Int)=0)→False)∧ifB (ilt (wrem k 8) 6) (Cl prog 20 sP ([jr16 rows d a e F G segs H J K L M N g i shut,ev7 O P R c x y z]) (λn=>ec0 n λl o p b q r s t u v w A C D j E m=>(Q ([jr16 l o p b q r s t u v w A C D j E,I m])))) ((((8:Int)=0)→False)∧ifB (ieq (wrem k 8) 6) (Cl prog 22 sP ([jr16 rows d a e F G segs H J K L M N g i shut]) (λn=>ec0 n λl o p b q r s t u v w A C D j E m=>(Q ([jr16 l o p b q r s t u v w A C D j E,I m])))) (Cl prog 24 sP ([jr16 rows d a e F G segs H J K L M N g i shut]) (λn=>ec0 n λl o p b q r s t u v w A C D j E m=>(Q ([jr16 l o p b q r s t u v w A C D j E,I m])))))):Ct prog 31 {} [jr16 rows d a e F G segs H J K L M N g i shut,.agg [U8 k,I O,I P,I R,S c,I x,I y,I z]] Q:=
 fN SgT SvT func31 h
end Jou
namespace Jou
open Go Go.Px Go.Proofs Cod Seg Sgr Snp Sx Row Tryz
def lasA(a:Int)(l:List Cod.EvD):Int:=(l.getLast?.map (·.a)).getD a
def cns_pos:∀{l:List Cmp.EvD} {a b:Int},Cns a l b→0≤a→l.filter (λe=>decide (0<e.s))=l
 | [],a,b,h,h0=>rfl
 |e::l,a,b,h,h0=>by have c:=h.1;rw[List.filter_cons,decide_eq_true (show(0:Int)<e.s by omega),if_pos rfl,cns_pos h.2 (by omega)]
def fold_t:∀(l:List Cmp.EvD) (d:StD),(foldS d l).2.2=0→(foldS d l).1.t=(l.getLast?.map (·.a)).getD d.t∧(foldS d l).2.1=l.length
 | [],d,h=>⟨rfl,rfl⟩
 |e::l,d,h=>by
  rw[foldS]at h⊢;by_cases c:(appS d e).2≠0
  ·rw[if_pos c]at h;exact absurd h c
  ·rw[if_neg c]at h⊢;obtain⟨a,b⟩:=fold_t l _ h;have c:(appS d e).2=0:=(by simpa using c);refine⟨?_,by show _+1=_;rw[b];rfl⟩;show(foldS (appS d e).1 l).1.t=_;rw[a,(Zqo c).2,List.getLast?_cons]
   cases l.getLast?<;>rfl
def evsR_G(a:List FiD):evsR (a.map (ptF scF))=(evG a).map toE:=by
 unfold evsR evG;rw[List.flatMap_map,List.map_flatMap]
def New.par{j:JoD}(h:New j)(n:RightJ j):segs j.dk.fs=j.dk.fs∧j.kept=0∧(∀f∈j.dk.fs.head?,(scF f).bs=0∧(scF f).ba=0)∧(foldS st0 ((evG j.dk.fs).map toE)).2.2=0∧j.st=(foldS st0 ((evG j.dk.fs).map toE)).1:=by
 have p:=n.par;have q:segs j.dk.fs=j.dk.fs:=List.filter_eq_self.2 λf a=>by simpa[isSeg]using h.1 f a
 rw[q]at p;obtain⟨i,o⟩:=Zni n.dk.2.2.2 h.1;have b:=p.good;rw[i,o]at b;have k:=p.dkr.bytes p.all;have m:∀f∈j.dk.fs.head?,(scF f).bs=0∧(scF f).ba=0:=λf a=>by have u:f∈j.dk.fs:=List.mem_of_head? a;obtain⟨r,_,b3,t⟩:=k f u;have d:=(r.head (by rw[b3];exact t)).2;unfold ctxOK at d;have w:(scF f).bs≤0:=b.bs (ptF scF f) (by rw[List.head?_map,a];rfl);have v:=h.2 (sgOf (ptF scF f)) (by rw[p.sg,List.head?_map,List.head?_map,a];rfl);exact⟨by omega,v⟩
 have c:(evsR (j.dk.fs.map (ptF scF))).filter (λe=>decide (0<e.s))=(evG j.dk.fs).map toE:=by
  rw[evsR_G]
  rcases Y2 j.dk.fs with e|⟨l,g,e⟩
  ·rw[e];rfl
  ·rw[List.concat_eq_append]at e;rw[e]at m k b p⊢;obtain⟨f,a⟩:∃f,(l++[g]).head?=some f:=by cases l<;>exact⟨_,rfl⟩
   have d:=Zz6 l g p.dkr.inr (λf a=>(k f a).2.2.2) b.cnt (ptF scF f) (by rw[List.head?_map,a];rfl);rw[evsR_G]at d;exact cns_pos d (by have:=(m f a).1;show 0≤(scF f).bs;omega)
 refine⟨q,by rw[p.kept,i],m,by have:=b.app;rw[c]at this;exact this,?_⟩;rw[p.st,i,o];unfold stR;rw[c]
structure Whl(gs:List FiD):Prop where
 inr:inRow scF none gs
 nm:∀f∈gs,numS f.nm≠0
 ok:∀f∈gs,ScOK (scF f)∧(scF f).num≠0
 cnt:∀f∈gs,((scF f).ev.length:Int)=(scF f).s-(scF f).bs
 fst:∀f∈gs.head?,(scF f).bs=0∧(scF f).ba=0
structure Tgt(gs:List FiD)(s:BA)(t:Sc):Prop where
 ok:ScOK t
 num:t.num=numS s
 cnt:(t.ev.length:Int)=t.s-t.bs
 fol:match gs.getLast? with|none=>t.bs=0∧t.ba=0|some a=>foll t (scF a)
def Whl.pre{c:List FiD}{g:FiD}(h:Whl (c++[g])):Whl c∧Tgt c g.nm (scF g):=by
 have d:=h.inr;rw[Zdf]at d;refine⟨⟨d.1,λf b=>h.nm f (by simp[b]),λf b=>h.ok f (by simp[b]),λf b=>h.cnt f (by simp[b]),λf b=>?_⟩,⟨(h.ok g (by simp)).1,d.2.1,h.cnt g (by simp),?_⟩⟩
 ·cases c with
  |nil=>cases b
  |cons a l=>exact h.fst f b
 ·have e:=d.2.2
  cases hl:c.getLast? with
  |none=>have:c=[]:=List.getLast?_eq_none_iff.1 hl;subst this;exact h.fst g rfl
  |some a=>rw[hl]at e;exact e
def New.q{j:JoD}(d:New j)(b:RightJ j):j.st.q=(evsJ j).length:=by
 obtain⟨c,e,f,a,hst⟩:=d.par b;rw[Zh8 b,c,hst];have:=(fold_P ((evG j.dk.fs).map toE) (show st0.P by decide)).2.1;rw[(fold_t _ _ a).2,List.length_map]at this;rw[this];show(0:Int)+_=_;omega
def cutN(g:FiD)(n:Nat):FiD:=⟨g.nm,g.su.take n,g.lo.take (n-g.su.length)⟩
structure Sim(j:JoD)(m:Li.LiD):Prop where
 fre:Fre j
 ev:m.ev=(evsJ j).map toE
 s:m.s=j.st
 sh:m.sh=j.shut
 fr:m.fr=0
 P:m.P
def evs_shut{j:JoD}(h:RightJ j)(b:Bool):evsJ {j with shut:=b}=evsJ j:=by
 rw[Zh8 h,Zh8 (Zij h b)]
def Sim.shut{j:JoD}{m:Li.LiD}(h:Sim j m):Sim {j with shut:=true} (Li.shutL m):=
 ⟨⟨Zij h.fre.right true,h.fre.st⟩,by rw[evs_shut h.fre.right];exact h.ev,h.s,rfl,h.fr,h.P⟩
def sim_app{j:JoD}{m:Li.LiD}(h:Sim j m)(e:Cod.EvD):((appP j e).2=13∧(Li.apL m (toE e)).2=0∧Sim (appP j e).1 (Li.shutL m))∨(((appP j e).2=13→(Li.apL m (toE e)).2≠0)∧(appP j e).2=(Li.apL m (toE e)).2∧Sim (appP j e).1 (Li.apL m (toE e)).1):=by
 have f:Li.numE (toE e) m.s.q=toE (evN j e):=(by rw[h.s];rfl);have a:Li.apL m (toE e)=if(appS j.st (toE (evN j e))).2≠0 then(m,(appS j.st (toE (evN j e))).2)else if j.shut=true then(m,13)else(⟨m.ev++[toE (evN j e)],(appS j.st (toE (evN j e))).1,m.fr,m.sh⟩,0):=by unfold Li.apL;rw[if_neg (show¬¬m.P by simp[h.P]),f,h.s,h.sh]
 rcases Zs3 h.fre e with⟨b,c⟩|⟨b,c⟩|⟨b,c,k,h3,h4,h5⟩
 ·rw[if_pos b]at a;rw[c,a];exact .inr ⟨λq=>b,rfl,h⟩
 ·rw[if_neg (by simp[b])]at a;rw[c,a];by_cases hs:j.shut=true
  ·rw[if_pos hs];refine .inr ⟨λ_=>by simp,rfl,?_⟩;have:({j with shut:=true}:JoD)=j:=by cases j;simp at hs;rw[hs]
   show Sim {j with shut:=true} m;rw[this];exact h
  ·rw[if_neg hs];exact .inl ⟨rfl,rfl,h.shut⟩
 ·rw[if_neg (by simp[b]),if_neg (by simp[c])]at a;have d:=Li.ap_P (l:=m) (e:=toE e) (by rw[a]);rw[a]at d;rw[h3,a];refine .inr ⟨(λq=>by cases q),rfl,⟨h5.fre,?_,?_,?_,h.fr,d⟩⟩
  ·show m.ev++_=_;rw[h4.ev,List.map_append,h.ev];rfl
  ·exact h4.st.symm
  ·show m.sh=k.shut;rw[h.sh,h4.shut]
def Zy6{j:JoD}{m:Li.LiD}(h:Sim j m):(synJ j).2=0∧Sim (synJ j).1 m:=by
 obtain⟨k,e,q,a,b,d,c⟩:=Zs4 h.fre;rw[e];exact⟨rfl,q.fre,by rw[b];exact h.ev,by rw[a];exact h.s,by rw[c];exact h.sh,h.fr,h.P⟩
def sim_rot{j:JoD}{m:Li.LiD}(h:Sim j m):((rotJ j).2=13∧Sim (rotJ j).1 (Li.shutL m))∨(((rotJ j).2=0∨(rotJ j).2=14)∧Sim (rotJ j).1 m):=by
 rcases Zs5 h.fre with e|e|⟨k,e,q,a1,a2,a3,a4⟩
 ·rw[e];exact .inr ⟨.inr rfl,h⟩
 ·rw[e];exact .inl ⟨rfl,h.shut⟩
 ·rw[e];exact .inr ⟨.inl rfl,q.fre,by rw[a2];exact h.ev,by rw[a1];exact h.s,by rw[a4];exact h.sh,h.fr,h.P⟩
def open_nil{rm cb cg:Int}(b:0≤rm∧rm≤65536)(f:mayC cb cg):openP ⟨[],rm,-1,false⟩ cb cg=(⟨⟨[],rm,-1,false⟩,cb,cg,[],⟨0,0,[]⟩,st0,0,0,false⟩,0)∧Sim ⟨⟨[],rm,-1,false⟩,cb,cg,[],⟨0,0,[]⟩,st0,0,0,false⟩ ⟨[],st0,0,false⟩:=by
 have g:(⟨[],rm,-1,false⟩:DiD).P:=⟨⟨by simp,b.1,b.2,by show(-1:Int)≤-1;decide⟩,by show((usedL []:Nat):Int)≤rm;rw[usedL_nil];exact b.1,by simp,by simp[Go.Px.srt]⟩
 have h:DkR [] []:=⟨by simp[Go.Px.srt],rfl,by simp[inRow],by simp⟩
 have e:rowK []=([],[]):=Ze8 h;obtain⟨c,d⟩:=Zni (l:=[]) (by simp[Go.Px.srt]) (by simp);have i:GoodR (rowK []).1 (keptF []) (baseF []):=(by rw[e,c,d];exact⟨by simp,by simp,rfl,by simp⟩);have j:menD ⟨[],rm,-1,false⟩=(⟨[],rm,-1,false⟩,0):=(by unfold menD;rw[show(rowK (⟨[],rm,-1,false⟩:DiD).fs)=([],[])from e];rfl);have a:=Zx4 g f rfl i j
 have k:anewJ ⟨[],rm,-1,false⟩ cb cg (stR (rowK []).1 (keptF []) (baseF [])).q false=⟨⟨[],rm,-1,false⟩,cb,cg,[],⟨0,0,[]⟩,st0,0,0,false⟩:=by
  unfold anewJ;rw[show(rowK (⟨[],rm,-1,false⟩:DiD).fs)=([],[])from e,show keptF (⟨[],rm,-1,false⟩:DiD).fs=0 from c,show baseF (⟨[],rm,-1,false⟩:DiD).fs=st0 from d]
  first|rfl|(rw[c,d];rfl)
 have a:openP ⟨[],rm,-1,false⟩ cb cg=(anewJ ⟨[],rm,-1,false⟩ cb cg (stR (rowK []).1 (keptF []) (baseF [])).q false,0):=a;rw[k]at a;have R:=(Zqw a).right;refine⟨a,⟨⟨R,rfl⟩,?_,rfl,rfl,rfl,by decide+kernel⟩⟩;rw[Zh8 R];rfl
end Jou
namespace Jou
open Go Go.Px Go.Proofs Cod Seg Sgr Snp Sx Row Dsk Tryz
abbrev U16(n:Int):SV:=.val (.int .u16 n)
abbrev DeD.row(d:DeD):List SV:=[U8 d.k,I d.e.s,I d.e.a,I d.e.k,S d.e.c,I d.e.x,I d.e.y,I d.e.z]
abbrev deR(l:List DeD):LL:=l.map DeD.row
structure DeD.ok(d:DeD):Prop where
 k:0≤d.k∧d.k≤255
 a: -9223372036854775808≤d.e.a∧d.e.a≤9223372036854775807
def rem_8{k:Int}(h:0≤k):wrem k 8=k%8:=Int.tmod_eq_emod_of_nonneg h
def lone_fn(j:JoD)(c:j.ok)(d:DeD)(f:d.ok):Ct prog 31 {} [j.sv,.agg d.row] (λr=>r=[(oneP j d).1.sv,I (oneP j d).2]):=by
 have e:=rem_8 f.k.1;refine lone_nf ⟨by decide,Zaa (λh=>?_) (λh=>⟨by decide,Zaa (λb=>?_) (λb=>?_)⟩)⟩
 ·have h:d.k%8<6:=(by rw[e]at h;simpa using h);rw[show oneP j d=appP j d.e from by unfold oneP;rw[if_pos h]];exact Cl.of (Zlg j c d.e f.a) ⟨_,_,_,_,_,_,_,_,_,_,_,_,_,_,_,_,_,rfl,rfl⟩
 ·have h:¬d.k%8<6:=(by rw[e]at h;simpa using h);have b:d.k%8=6:=(by rw[e]at b;simpa using b);rw[show oneP j d=synJ j from by unfold oneP;rw[if_neg h,if_pos b]];exact Cl.of (jsyn_fn j c) ⟨_,_,_,_,_,_,_,_,_,_,_,_,_,_,_,_,_,rfl,rfl⟩
 ·have h:¬d.k%8<6:=(by rw[e]at h;simpa using h);have b:¬d.k%8=6:=(by rw[e]at b;simpa using b);rw[show oneP j d=rotJ j from by unfold oneP;rw[if_neg h,if_neg b]];exact Cl.of (jrot_fn j c) ⟨_,_,_,_,_,_,_,_,_,_,_,_,_,_,_,_,_,rfl,rfl⟩
abbrev begP(a c b:Int):JoD:=⟨⟨[],a,-1,false⟩,64+c,b+1,[],⟨0,0,[]⟩,st0,0,0,false⟩
def Zpe{a c b:Int}(g:0≤a∧a≤65535)(h:0≤c∧c≤255)(i:0≤b∧b≤65535):openP ⟨[],a,-1,false⟩ (64+c) (b+1)=(begP a c b,0)∧Sim (begP a c b) ⟨[],st0,0,false⟩∧New (begP a c b):=by
 obtain⟨e,f⟩:=open_nil (rm:=a) (cb:=64+c) (cg:=b+1) (by omega) ⟨by omega,by omega,by omega,by omega⟩;exact⟨e,f,by simp,by intro p d;cases d⟩
def Zx8{j:JoD}(h:Fre j):j.ok:=ok_of h.right (by rw[h.st];decide)
def Zx9{a c b:Int}(f:0≤a∧a≤65535)(g:0≤c∧c≤255)(i:0≤b∧b≤65535):Ct prog 30 {} [U16 a,U8 c,U16 b] (λr=>r=[(begP a c b).sv,B true]):=by
 obtain⟨j,d,_⟩:=Zpe f g i;have e1:wcv IntKind.i64 a=a:=Zbe (by omega) (by omega);have e2:wcv IntKind.i64 c=c:=Zbe (by omega) (by omega);have k:wcv IntKind.i64 b=b:=Zbe (by omega) (by omega);refine Zyv ?_;rw[e1,e2,k,Zac (by omega) (by omega),Zac (by omega) (by omega)];have e:(begP a c b).ok:=Zx8 d.fre;refine Cl.of (Ztb ⟨[],a,-1,false⟩ e.dk (64+c) (b+1)) ?_;rw[j];refine⟨_,_,_,_,_,_,_,_,_,_,_,_,_,_,_,_,_,rfl,Zaa (λ_=>?_) (λh=>by simp at h)⟩;exact Cl.of (Zfp _ e) ⟨_,rfl,by rw[Zd3.2 d.fre.right];rfl⟩
abbrev isJ(j:JoD)(b:LL)(c d:Int)(e:Bool)(f g:Int)(h:LL)(i k:Int)(l n:LL)(q t o p:Int)(r:Bool):Prop:=
 b=fR j.dk.fs∧c=j.dk.rm∧d=j.dk.st∧e=j.dk.dn∧f=j.cb∧g=j.cg∧h=sgR j.sg∧i=j.cx.s∧k=j.cx.a∧l=nR j.cx.m∧n=coR j.st.cs∧q=j.st.q∧t=j.st.t∧o=j.sure∧p=j.kept∧r=j.shut
def ev_eR(l:List Cod.EvD):evR l=eR (l.map toE):=by
 show _=(l.map toE).map _;rw[List.map_map];rfl
end Jou
namespace Jou
open Go Go.Px Go.Proofs Cod Tryz
abbrev el0(r:List SV)(K:Bool→Prop):Prop:=∃a:Bool,(r=[B a])∧K a
abbrev el1(r:List SV)(K:LL→Int→Int→Bool→Int→Int→LL→Int→Int→LL→LL→Int→Int→Int→Int→Bool→Bool→Prop):Prop:=∃h:LL,∃i:Int,∃j:Int,∃k:Bool,∃l:Int,∃m:Int,∃n:LL,∃o:Int,∃p:Int,∃q:LL,∃a:LL,∃b:Int,∃c:Int,∃d:Int,∃e:Int,∃f:Bool,∃g:Bool,(r=[jr16 h i j k l m n o p q a b c d e f,B g])∧K h i j k l m n o p q a b c d e f g
abbrev el2(r:List SV)(K:Int→Int→Int→Int→BA→Int→Int→Int→Prop):Prop:=∃a:Int,∃b:Int,∃c:Int,∃d:Int,∃e:BA,∃f:Int,∃g:Int,∃h:Int,(r=[U8 a,I b,I c,I d,S e,I f,I g,I h])∧K a b c d e f g h
abbrev el3(r:List SV)(K:LL→Int→Int→Bool→Int→Int→LL→Int→Int→LL→LL→Int→Int→Int→Int→Bool→Int→Prop):Prop:=∃h:LL,∃i:Int,∃j:Int,∃k:Bool,∃l:Int,∃m:Int,∃n:LL,∃o:Int,∃p:Int,∃q:LL,∃a:LL,∃b:Int,∃c:Int,∃d:Int,∃e:Int,∃f:Bool,∃g:Int,(r=[jr16 h i j k l m n o p q a b c d e f,I g])∧K h i j k l m n o p q a b c d e f g
abbrev el4(r:List SV)(K:LL→LL→Int→Int→Int→Bool→Int→Prop):Prop:=∃a:LL,∃b:LL,∃c:Int,∃d:Int,∃e:Int,∃f:Bool,∃g:Int,(r=[SV.agg [SL 7 a,SL 21 b,I c,I d,I e,B f],I g])∧K a b c d e f g
abbrev el5(r:List SV)(K:LL→LL→Int→Int→Int→Bool→Prop):Prop:=∃a:LL,∃b:LL,∃c:Int,∃d:Int,∃e:Int,∃f:Bool,(r=[SV.agg [SL 7 a,SL 21 b,I c,I d,I e,B f]])∧K a b c d e f
abbrev el6(r:List SV)(K:LL→Prop):Prop:=∃a:LL,(r=[SL 7 a])∧K a
def llist_nf{ae bt an:Int}{l:LL}{Q:QQ}(h:Cl prog 10 sP [] (λrs=>el0 rs λb=>(ifB (bnot b) (Q [B false]) (Cl prog 30 sP [SV.int .u16 ae,U8 bt,SV.int .u16 an] (λau=>el1 au λl1 x x1 b1 x2 x3 l2 x4 x5 l3 l4 x6 x7 x8 x9 b2 b3=>(ifB (igt (rlen l) 40) (Q [B true]) (ifB (bnot b3) (Q [B false]) (∃am:Int→LL→Int→Int→Bool→Int→Int→LL→Int→Int→LL→LL→Int→Int→Int→Int→Bool→LL→LL→Int→Int→Int→Bool→Prop,∃m:Int→LL→Int→Int→Bool→Int→Int→LL→Int→Int→LL→LL→Int→Int→Int→Int→Bool→LL→LL→Int→Int→Int→Bool→Nat,(am 0 l1 x x1 b1 x2 x3 l2 x4 x5 l3 l4 x6 x7 x8 x9 b2 [] [] 0 0 0 false)∧∀M Y,∀w y,∀Z z,∀A l6,∀C D,∀l7 l8,∀E F,∀v G,∀b5 l9,∀T U,∀V W b6,(am M Y w y Z z A l6 C D l7 l8 E F v G b5 l9 T U V W b6)→ifB (ilt M (rlen l)) ((inR M l)∧el2 (rget l M) λaz b0 ba bb s bc bd be=>(ifB (igt (slen s) 100) (Q [B true]) (∃a7:Int→LL→Int→Int→Bool→Int→Int→LL→Int→Int→LL→LL→Int→Int→Int→Int→Bool→Prop,∃m1:Int→LL→Int→Int→Bool→Int→Int→LL→Int→Int→LL→LL→Int→Int→Int→Int→Bool→Nat,((inR M l)∧el2 (rget l M) λP o p q s1 r t u=>((Cl prog 31 sP ([jr16 Y w y Z z A l6 C D l7 l8 E F v G b5,SV.agg [U8 P,I o,I p,I q,S s1,I r,I t,I u]]) (λH=>el3 H λg a c J d i j a3 a8 n e a9 aa ab ac N ad=>((sm ([[SL 3 Y,I w,I y,B Z,I z,I A,SL 7 l6,I C,I D,SL 1 l7,SL 21 l8,I E,I F,I v,I G,B b5],[SL 7 l9,SL 21 T,I U,I V,I W,B b6]]))∧a7 ad g a c J d i j a3 a8 n e a9 aa ab ac N)))∧Cl prog 31 sP ([jr16 Y w y Z z A l6 C D l7 l8 E F v G b5,SV.agg [U8 P,I o,I p,I q,S s1,I r,I t,I u]]) (λH=>el3 H λg a c J d i j a3 a8 n e a9 aa ab ac N ad=>((sm ([[SL 3 Y,I w,I y,B Z,I z,I A,SL 7 l6,I C,I D,SL 1 l7,SL 21 l8,I E,I F,I v,I G,B b5],[SL 7 l9,SL 21 T,I U,I V,I W,B b6]]))∧a7 ad g a c J d i j a3 a8 n e a9 aa ab ac N))))∧∀P g,∀o p,∀J q,∀r j,∀t u,∀n e,∀a c,∀d i N,(a7 P g o p J q r j t u n e a c d i N)→(inR M l)∧el2 (rget l M) λa3 a8 a9 aa s1 ab ac ad=>((((8:Int)=0)→False)∧∃a0:LL→LL→Int→Int→Int→Bool→Prop,∃m2:LL→LL→Int→Int→Int→Bool→Nat,(ifB (ilt (wrem a3 8) 6) ((inR M l)∧el2 (rget l M) λX O R ao s2 ap aq ar=>((Cl prog 37 sP ([SV.agg [SL 7 l9,SL 21 T,I U,I V,I W,B b6],ev7 O R ao s2 ap aq ar]) (λH=>el4 H λK L af ag ah b9 a4=>(ifB (bpick (ieq P 13) (ieq a4 0) false) (Cl prog 38 sP ([SV.agg [SL 7 l9,SL 21 T,I U,I V,I W,B b6]]) (λa5=>el5 a5 λa6 ai aj ak al a1=>((sm ([[SL 3 Y,I w,I y,B Z,I z,I A,SL 7 l6,I C,I D,SL 1 l7,SL 21 l8,I E,I F,I v,I G,B b5],[SL 3 g,I o,I p,B J,I q,I r,SL 7 j,I t,I u,SL 1 n,SL 21 e,I a,I c,I d,I i,B N]]))∧a0 a6 ai aj ak al a1))) (ifB (ine P a4) (Q [B false]) ((sm ([[SL 3 Y,I w,I y,B Z,I z,I A,SL 7 l6,I C,I D,SL 1 l7,SL 21 l8,I E,I F,I v,I G,B b5],[SL 3 g,I o,I p,B J,I q,I r,SL 7 j,I t,I u,SL 1 n,SL 21 e,I a,I c,I d,I i,B N]]))∧a0 K L af ag ah b9)))))∧Cl prog 37 sP ([SV.agg [SL 7 l9,SL 21 T,I U,I V,I W,B b6],ev7 O R ao s2 ap aq ar]) (λH=>el4 H λK L af ag ah b9 a4=>(ifB (bpick (ieq P 13) (ieq a4 0) false) (Cl prog 38 sP ([SV.agg [SL 7 l9,SL 21 T,I U,I V,I W,B b6]]) (λa5=>el5 a5 λa6 ai aj ak al a1=>((sm ([[SL 3 Y,I w,I y,B Z,I z,I A,SL 7 l6,I C,I D,SL 1 l7,SL 21 l8,I E,I F,I v,I G,B b5],[SL 3 g,I o,I p,B J,I q,I r,SL 7 j,I t,I u,SL 1 n,SL 21 e,I a,I c,I d,I i,B N]]))∧a0 a6 ai aj ak al a1))) (ifB (ine P a4) (Q [B false]) ((sm ([[SL 3 Y,I w,I y,B Z,I z,I A,SL 7 l6,I C,I D,SL 1 l7,SL 21 l8,I E,I F,I v,I G,B b5],[SL 3 g,I o,I p,B J,I q,I r,SL 7 j,I t,I u,SL 1 n,SL 21 e,I a,I c,I d,I i,B N]]))∧a0 K L af ag ah b9)))))) (ifB (ieq P 13) (Cl prog 38 sP ([SV.agg [SL 7 l9,SL 21 T,I U,I V,I W,B b6]]) (λH=>el5 H λK L X O R b9=>((sm ([[SL 3 Y,I w,I y,B Z,I z,I A,SL 7 l6,I C,I D,SL 1 l7,SL 21 l8,I E,I F,I v,I G,B b5],[SL 3 g,I o,I p,B J,I q,I r,SL 7 j,I t,I u,SL 1 n,SL 21 e,I a,I c,I d,I i,B N]]))∧a0 K L X O R b9))) (ifB (bpick (ine P 0) (ine P 14) false) (Q [B false]) ((sm ([[SL 3 Y,I w,I y,B Z,I z,I A,SL 7 l6,I C,I D,SL 1 l7,SL 21 l8,I E,I F,I v,I G,B b5],[SL 3 g,I o,I p,B J,I q,I r,SL 7 j,I t,I u,SL 1 n,SL 21 e,I a,I c,I d,I i,B N]]))∧a0 l9 T U V W b6))))∧∀K L,∀X O,∀R b9,(a0 K L X O R b9)→∃a2:Bool→Prop,∃m3:Bool→Nat,(Cl prog 17 sP ([jr16 g o p J q r j t u n e a c d i N]) (λH=>el0 H λa1=>(ifB (bpick (bnot a1) true (bnot (beqB N b9))) ((sm ([[SL 3 Y,I w,I y,B Z,I z,I A,SL 7 l6,I C,I D,SL 1 l7,SL 21 l8,I E,I F,I v,I G,B b5],[SL 7 K,SL 21 L,I X,I O,I R,B b9],[SL 3 g,I o,I p,B J,I q,I r,SL 7 j,I t,I u,SL 1 n,SL 21 e,I a,I c,I d,I i,B N]]))∧a2 true) (Cl prog 36 sP ([st3 e a c,st3 L X O]) (λa5=>el0 a5 λav=>(ifB (bnot av) ((sm ([[SL 3 Y,I w,I y,B Z,I z,I A,SL 7 l6,I C,I D,SL 1 l7,SL 21 l8,I E,I F,I v,I G,B b5],[SL 7 K,SL 21 L,I X,I O,I R,B b9],[SL 3 g,I o,I p,B J,I q,I r,SL 7 j,I t,I u,SL 1 n,SL 21 e,I a,I c,I d,I i,B N]]))∧a2 true) (Cl prog 15 sP ([jr16 g o p J q r j t u n e a c d i N]) (λaw=>el6 aw λa6=>(Cl prog 27 sP [SL 7 a6,SL 7 K] (λax=>el0 ax λay=>((sm ([[SL 3 Y,I w,I y,B Z,I z,I A,SL 7 l6,I C,I D,SL 1 l7,SL 21 l8,I E,I F,I v,I G,B b5],[SL 7 K,SL 21 L,I X,I O,I R,B b9],[SL 3 g,I o,I p,B J,I q,I r,SL 7 j,I t,I u,SL 1 n,SL 21 e,I a,I c,I d,I i,B N]]))∧a2 (bpick (bnot ay) true (ilt d v)))))))))))))∧∀a1,(a2 a1)→ifB a1 (Q [B false]) (((Option.some []:Option LL)=Option.some [])∧(am (wadd .i64 M 1) g o p J q r j t u n e a c d i N K L X O R b9)∧Nat.le (Nat.succ (m (wadd .i64 M 1) g o p J q r j t u n e a c d i N K L X O R b9)) (m M Y w y Z z A l6 C D l7 l8 E F v G b5 l9 T U V W b6)))))) (Cl prog 39 sP ([SV.agg [SL 7 l9,SL 21 T,I U,I V,I W,B b6]]) (λH=>el0 H λJ=>(Q [B J]))))))))))):Ct prog 7 {} [.val (.int .u16 ae),U8 bt,.val (.int .u16 an),SL 8 l] Q:=
 fO SgT SvT (λk=>bif Nat.beq k 31 then some {slots:=[(12,false,[.int .i64])],boxes:=[(1152,[.sl 3,.int .i64,.int .i64,.bool,.int .i64,.int .i64,.sl 7,.int .i64,.int .i64,.sl 1,.sl 21,.int .i64,.int .i64,.int .i64,.int .i64,.bool]),(1408,[.sl 7,.sl 21,.int .i64,.int .i64,.int .i64,.bool])],fixed:=[]}else bif Nat.beq k 1000014 then some {slots:=[(14,false,[.int .i64])],boxes:=[(1664,[.sl 3,.int .i64,.int .i64,.bool,.int .i64,.int .i64,.sl 7,.int .i64,.int .i64,.sl 1,.sl 21,.int .i64,.int .i64,.int .i64,.int .i64,.bool])],fixed:=[1152,1408],ptrs:=[(13,1664)]}else bif Nat.beq k 1000026 then some {slots:=[(125,false,[.bool])],fixed:=[1152,1408,1664]}else bif Nat.beq k 4000060 then some {slots:=[],boxes:=[(1408,[.sl 7,.sl 21,.int .i64,.int .i64,.int .i64,.bool])],fixed:=[1152,1664]}else none) func7 h
end Jou
namespace Jou
open Go Go.Px Go.Proofs Cod Seg Sgr Snp Sx Row Dsk Tryz
abbrev isL(m:Li.LiD)(ev a:LL)(q t fr:Int)(b:Bool):Prop:=ev=eR m.ev∧a=coR m.s.cs∧q=m.s.q∧t=m.s.t∧fr=m.fr∧b=m.sh
def ap_len(m:Li.LiD)(e:Cmp.EvD):(Li.apL m e).1.ev.length≤m.ev.length+1:=by
 unfold Li.apL
 repeat' split
 all_goals simp
def llist_fn(n D u:Int)(hr:0≤n∧n≤65535)(hb:0≤D∧D≤255)(ha:0≤u∧u≤65535)(l:List DeD)(hl:∀d∈l,d.ok)(a3:l.length≤140737488351232):
  Ct prog 7 {} [U16 n,U8 D,U16 u,SL 8 (deR l)] (λr=>r=[B true]):=by
 obtain⟨b1,b2,b3⟩:=Zpe hr hb ha;refine llist_nf (Cl.of jawake_fn ⟨_,rfl,Zaa (λh=>by simp at h) (λ_=>Cl.of (Zx9 hr hb ha) ⟨_,_,_,_,_,_,_,_,_,_,_,_,_,_,_,_,_,rfl,Zaa (λ_=>rfl) (λz=>Zaa (λh=>by simp at h) (λ_=>?_))⟩)⟩);have z:l.length≤40:=by simp at z;omega
 refine⟨λx E F G H J L M N O Q R q t T U V ev W X lt fr Z=>∃j m,isJ j E F G H J L M N O Q R q t T U V∧isL m ev W X lt fr Z∧Sim j m∧(0≤x∧x≤l.length)∧m.ev.length≤x,
  λx _ _ _ _ _ _ _ _ _ _ _ _ _ _ _ _ _ _ _ _ _ _=>(l.length-x).toNat,⟨_,_,⟨rfl,rfl,rfl,rfl,rfl,rfl,rfl,rfl,rfl,rfl,rfl,rfl,rfl,rfl,rfl,rfl⟩,⟨rfl,rfl,rfl,rfl,rfl,rfl⟩,b2,⟨by omega,by omega⟩,by simp⟩,?_⟩
 rintro x _ _ _ _ _ _ _ _ _ _ _ _ _ _ _ _ _ _ _ _ _ _ ⟨j,m,⟨rfl,rfl,rfl,rfl,rfl,rfl,rfl,rfl,rfl,rfl,rfl,rfl,rfl,rfl,rfl,rfl⟩,⟨rfl,rfl,rfl,rfl,rfl,rfl⟩,S,⟨x0,hx⟩,hml⟩;have A:=Zx8 S.fre;have a0:m.s.cs.length≤1000000:=by rw[S.s];exact A.cs
 refine Zaa (λa=>?_) (λa=>?_)
 ·have a:x<l.length:=by simpa using a
  obtain⟨d,hd0⟩:∃d,d=l[x.toNat]:=⟨_,rfl⟩
  have hd:=hl l[x.toNat] (List.getElem_mem _);have y:=Zbb DeD.row l x x0 a;rw[←hd0]at hd y;have c:=lone_fn j A d hd;have K:=one_kp S.fre d;refine⟨inM _ x0 a,_,_,_,_,_,_,_,_,y,Zaa (λ_=>rfl) (λ_=>?_)⟩
  refine⟨λe E F G H J L M N O Q R q t T U V=>e=(oneP j d).2∧isJ (oneP j d).1 E F G H J L M N O Q R q t T U V,λ_ _ _ _ _ _ _ _ _ _ _ _ _ _ _ _ _=>0,
   ⟨inM _ x0 a,_,_,_,_,_,_,_,_,y,Cl.of c ⟨_,_,_,_,_,_,_,_,_,_,_,_,_,_,_,_,_,rfl,rfl,rfl,rfl,rfl,rfl,rfl,rfl,rfl,rfl,rfl,rfl,rfl,rfl,rfl,rfl,rfl,rfl,rfl⟩,Cl.of c ⟨_,_,_,_,_,_,_,_,_,_,_,_,_,_,_,_,_,rfl,rfl,rfl,rfl,rfl,rfl,rfl,rfl,rfl,rfl,rfl,rfl,rfl,rfl,rfl,rfl,rfl,rfl,rfl⟩⟩,?_⟩
  rintro _ _ _ _ _ _ _ _ _ _ _ _ _ _ _ _ _ ⟨rfl,rfl,rfl,rfl,rfl,rfl,rfl,rfl,rfl,rfl,rfl,rfl,rfl,rfl,rfl,rfl,rfl⟩;have e8:=rem_8 hd.k.1;refine⟨inM _ x0 a,_,_,_,_,_,_,_,_,y,by decide,λev W X lt fr Z=>∃w,isL w ev W X lt fr Z∧Sim (oneP j d).1 w∧w.ev.length≤m.ev.length+1,λ_ _ _ _ _ _=>0,Zaa (λf=>?_) (λf=>?_),?_⟩
  ·have f:d.k%8<6:=(by rw[e8]at f;simpa using f);have ho:oneP j d=appP j d.e:=(by unfold oneP;rw[if_pos f]);have cA:=Li.iappend_fn m (by omega) a0 (toE d.e);have hs:=sim_app S d.e;have a1:=ap_len m (toE d.e);rw[ho];refine⟨inM _ x0 a,_,_,_,_,_,_,_,_,y,?_⟩;have a2:∀{Y:Prop} (_:Y→Y),ifB (bpick (ieq (appP j d.e).2 13) (ieq (Li.apL m (toE d.e)).2 0) false) True True:=λ_=>Zaa (λ_=>trivial) (λ_=>trivial);clear a2
   constructor<;>
   ·refine Cl.of cA ⟨_,_,_,_,_,_,_,rfl,Zaa (λh=>Cl.of (Li.ishut_fn m) ⟨_,_,_,_,_,_,rfl,rfl,Li.shutL m,⟨rfl,rfl,rfl,rfl,rfl,rfl⟩,?_,by show m.ev.length≤_;omega⟩) (λh=>Zaa (λv=>?_) (λv=>⟨rfl,(Li.apL m (toE d.e)).1,⟨rfl,rfl,rfl,rfl,rfl,rfl⟩,?_,a1⟩))⟩
    ·rcases hs with⟨g,i,o⟩|⟨g,i,o⟩
     ·exact o
     ·exfalso;simp at h;exact g h.1 h.2
    ·exfalso
     rcases hs with⟨g,i,o⟩|⟨g,i,o⟩
     ·simp[g,i]at h
     ·simp[i]at v
    ·rcases hs with⟨g,i,o⟩|⟨g,i,o⟩
     ·simp[g,i]at h
     ·exact o
  ·have f:¬d.k%8<6:=by rw[e8]at f;simpa using f
   have hq:((oneP j d).2=13∧Sim (oneP j d).1 (Li.shutL m))∨(((oneP j d).2=0∨(oneP j d).2=14)∧Sim (oneP j d).1 m):=by
    by_cases h6:d.k%8=6
    ·rw[show oneP j d=synJ j from by unfold oneP;rw[if_neg f,if_pos h6]];exact .inr ⟨.inl (Zy6 S).1,(Zy6 S).2⟩
    ·rw[show oneP j d=rotJ j from by unfold oneP;rw[if_neg f,if_neg h6]];exact sim_rot S
   refine Zaa (λh=>Cl.of (Li.ishut_fn m) ⟨_,_,_,_,_,_,rfl,rfl,Li.shutL m,⟨rfl,rfl,rfl,rfl,rfl,rfl⟩,?_,by show m.ev.length≤_;omega⟩) (λh=>Zaa (λv=>?_) (λv=>⟨rfl,m,⟨rfl,rfl,rfl,rfl,rfl,rfl⟩,?_,by omega⟩))
   ·rcases hq with⟨_,q⟩|⟨q,_⟩
    ·exact q
    ·simp at h;omega
   ·exfalso
    rcases hq with⟨q,_⟩|⟨q,_⟩
    ·simp[q]at h
    ·simp at v;omega
   ·rcases hq with⟨q,_⟩|⟨_,q⟩
    ·simp[q]at h
    ·exact q
  ·rintro _ _ _ _ _ _ ⟨w,⟨rfl,rfl,rfl,rfl,rfl,rfl⟩,S',hl'⟩;have p:=Zx8 S'.fre;have C:=S'.ev;have a4:(evsJ (oneP j d).1).length≤1000000:=(by have:=congrArg List.length C;rw[List.length_map]at this;omega);rw[S'.s,S'.sh,S'.ev,←ev_eR];refine⟨λb=>b=false,λ_=>0,Cl.of (Zfp _ p) ⟨_,rfl,?_⟩,?_⟩
   ·rw[Zd3.2 S'.fre.right];refine Zaa (λh=>by simp at h) (λ_=>Cl.of (Zt0 (oneP j d).1.st (oneP j d).1.st (by have:=p.cs;omega) p.cl) ⟨_,rfl,Zaa (λh=>by simp at h) (λ_=>Cl.of (Zmb _ p) ⟨_,rfl,?_⟩)⟩);have cE:=Li.esame_fn ((evsJ (oneP j d).1).map toE) ((evsJ (oneP j d).1).map toE) (by rw[List.length_map];omega);rw[←ev_eR]at cE;refine Cl.of cE ⟨_,rfl,rfl,?_⟩;have:=K.sure;simp;omega
   ·rintro _ rfl;rw[Zac (by omega) (by omega)];refine Zaa (λh=>by cases h) (λ_=>⟨rfl,⟨_,w,⟨rfl,rfl,rfl,rfl,rfl,rfl,rfl,rfl,rfl,rfl,rfl,rfl,rfl,rfl,rfl,rfl⟩,⟨by rw[C,←ev_eR],by rw[S'.s],by rw[S'.s],by rw[S'.s],rfl,by rw[S'.sh]⟩,S',⟨by omega,by omega⟩,by omega⟩,mlt (by first|omega|(dsimp only;omega))⟩)
 ·refine Cl.of (Li.iright_fn m (by omega)) ⟨_,rfl,?_⟩;rw[decide_eq_true S.P]

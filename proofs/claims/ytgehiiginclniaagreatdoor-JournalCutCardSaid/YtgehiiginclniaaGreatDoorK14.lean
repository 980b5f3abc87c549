import Derived.Test.YtgehiiginclniaaGreatDoorK13
set_option linter.all false
set_option maxRecDepth 100000
namespace Go.Proofs.YtgehiiginclniaaGreatDoor
namespace Sx
open Go Go.Px Go.Proofs Cmp Tryz
def new_P{nm:BA}{b a:Int}(c:namB nm=true)(k:1≤b∧b≤3)(d:timP a):(newC nm b a).1.P:=by
 unfold newC;rw[if_neg (by simp[c]),if_neg (by omega),if_neg (by simp[d])];have z:heldP 0:=(by decide);have e:hisP 0 0 0 0 0 0 0 0 0 0:=(by decide);have f:bktP 10 10:=(by decide);by_cases h:b=1
 ·rw[if_pos h];have g:=Znt d (w:=10) (by omega);have i:Zfn (zer 4):=Zkl 4
  have j:winP 10 (a/10) (zer 4):=⟨by decide,g,by decide,i⟩
  exact P1 c ⟨z,z,z⟩ h ⟨⟨(by decide:(0:Int)≤0∧(0:Int)≤2),j⟩,e,rfl,rfl⟩
 ·rw[if_neg h];by_cases h':b=2
  ·exact P2 c ⟨z,z,z⟩ h' ⟨⟨⟨rfl,rfl,rfl,rfl⟩,⟨rfl,rfl,rfl,rfl,rfl,rfl,rfl,rfl,rfl⟩,rfl⟩,f⟩
  ·exact P3 c ⟨z,z,z⟩ (show b=3 by omega) ⟨⟨(by decide:(0:Int)≤0∧(0:Int)≤2147483647),rfl,rfl,rfl⟩,e,f⟩
def nxt_P{d:StD}{e:EvD}(m:MayS d e):(nxtS d e).P:=by
 unfold nxtS;by_cases hk:e.k=1
 ·rw[if_pos hk];obtain⟨_,a,h,b,_⟩:=chkE_zero m.chk;have l:lo1 e.k=1:=(by simp[lo1,hk]);have n:hi1 e.k=3:=(by simp[hi1,hk]);exact new_P (by unfold namB;rw[decide_eq_true a]) (by omega) b
 ·rw[if_neg hk];obtain⟨i,c,f,j,g⟩:=m.old hk;rw[f,Zi2 c];exact tell_P (Zoy.1 g)
def app_P{d:StD}{e:EvD}(h:(appS d e).2=0):(appS d e).1.P∧(appS d e).1.q=d.q+1∧d.t≤(appS d e).1.t:=by
 obtain⟨g,i⟩:=Zum h;have m:=Zh6 g;obtain⟨_,_,_,b,f⟩:=chkE_zero m.chk;have j:=m.p.1.1;rw[i];refine⟨⟨⟨?_,f.1,f.2,b.1,b.2⟩,λc a=>?_,Zbn m.p.2.2⟩,m.sq,m.tm⟩
 ·show(withB CoD.nm d.cs (nxtS d e)).length≤12;rw[nxt_len m]
  split
  ·have:=(m.new (by assumption)).2;omega
  ·omega
 ·rcases Zav.1 a with rfl|⟨a,_⟩
  ·exact nxt_P m
  ·exact m.p.2.1 c a
def fold_P:∀(l:List EvD) {d:StD},d.P→(foldS d l).1.P∧(foldS d l).1.q=d.q+(foldS d l).2.1∧d.t≤(foldS d l).1.t
 | [],d,h=>⟨h,by simp[foldS],Int.le_refl _⟩
 |e::l,d,h=>by
  rw[Zk3]
  split
  ·exact⟨h,by simp,Int.le_refl _⟩
  ·rename_i a;have a:(appS d e).2=0:=(by simpa using a);obtain⟨b,c,f⟩:=app_P a;obtain⟨g,i,j⟩:=fold_P l b;refine⟨g,?_,Int.le_trans f j⟩
   dsimp only
   rw[i,c];omega
end Sx
namespace Li
open Go Go.Px Go.Proofs Cmp Sx Tryz
deriving instance DecidableEq for EvD
structure LiD where
 ev:List EvD
 s:StD
 fr:Int
 sh:Bool
deriving DecidableEq
abbrev LiD.sv(l:LiD):SV:=.agg [SL 7 (eR l.ev),SL 21 (coR l.s.cs),I l.s.q,I l.s.t,I l.fr,B l.sh]
def evP(l:LiD)(i:Nat)(h:i<l.ev.length):Prop:=(chkE l.ev[i]=0∧l.ev[i].s=l.fr+1+i)∧(0<i→(l.ev[i-1]'(by omega)).a≤l.ev[i].a)
instance (l:LiD) (i:Nat) (h:i<l.ev.length):Decidable (evP l i h):=inferInstanceAs (Decidable (_∧_))
def LiD.P(l:LiD):Prop:=(l.s.P∧0≤l.fr∧l.fr≤l.s.q∧(l.ev.length:Int)=l.s.q-l.fr)∧(∀i,∀h:i<l.ev.length,evP l i h)∧(∀h:0<l.ev.length,(l.ev[l.ev.length-1]'(by omega)).a=l.s.t)
instance (l:LiD):Decidable l.P:=inferInstanceAs (Decidable (_∧_∧_))
def numE(e:EvD)(q:Int):EvD:={e with s:=q+1}
def apL(l:LiD)(e:EvD):LiD×Int:=
 if¬l.P then(l,1)else if(appS l.s (numE e l.s.q)).2≠0 then(l,(appS l.s (numE e l.s.q)).2)else if l.sh=true then(l,13)
 else(⟨l.ev++[numE e l.s.q],(appS l.s (numE e l.s.q)).1,l.fr,l.sh⟩,0)
def drL(l:LiD)(n:Int):LiD×Int:=
 if¬l.P∨l.s.q<n then(l,1)else if l.fr<n then({l with ev:=l.ev.drop (n-l.fr).toNat,fr:=n},0)else(l,0)
def behL(l:LiD)(n:Int):List EvD:=if¬l.P then[]else l.ev.filter λe=>decide (n<e.s)
def shutL(l:LiD):LiD:={l with sh:=true}
abbrev li6(ev rows:LL)(q t fr:Int)(a:Bool):SV:=.agg [SL 7 ev,SL 21 rows,I q,I t,I fr,B a]
def SgT:FuncId→Sig:=(λf=>bif Nat.beq f 100 then⟨[],[.own]⟩else{})
def SvT:TypeId→Sig:=λ_=>{}
def esame_nf{ev a:LL}{Q:QQ}(h:ifB (ine (rlen ev) (rlen a)) (Q [B false]) (∃c:Bool→Int→Prop,∃m:Bool→Int→Nat,(c false 0)∧∀b x,(c b x)→ifB (ilt x (rlen ev)) ((((0:Int)≤x)∧x<(rlen ev))∧∃i j,∃k s,∃l n o,(rget ev x=[I i,I j,I k,S s,I l,I n,I o])∧(((0:Int)≤x)∧x<(rlen a))∧∃p q,∃r t,∃d e g,(rget a x=[I p,I q,I r,S t,I d,I e,I g])∧ifB (bnot (band (ieq i p) (band (ieq j q) (band (ieq k r) (band (seq s t) (band (ieq l d) (band (ieq n e) (band (ieq o g) true)))))))) (Q [B false]) (((Option.some []:Option LL)=Option.some [])∧(c b (wadd .i64 x 1))∧Nat.le (Nat.succ (m b (wadd .i64 x 1))) (m b x))) (Q [B true]))):Ct prog 27 {} [SL 7 ev,SL 7 a] Q:=
 fN SgT SvT func27 h
def esame_fn(a b:List EvD)(l:a.length≤9223372036854775807):Ct prog 27 {} [SL 7 (eR a),SL 7 (eR b)] (λr=>r=[B (decide (a=b))]):=by
 have no:¬a=b→[B false]=[B (decide (a=b))]:=λh=>by simp[h]
 refine esame_nf (Zaa (λh=>no (λe=>by subst e;simp at h)) (λh=>?_));have d:a.length=b.length:=by simp at h;omega
 refine⟨λ_ x=>∃i:Nat,x=i∧i≤a.length∧∀j:Nat,∀c:j<a.length,j<i→a[j]=b[j]'(by omega),λ_ x=>a.length-x.toNat,⟨0,rfl,by omega,λj _ c=>by omega⟩,?_⟩;rintro _ _ ⟨i,rfl,hi,hall⟩;refine Zaa (λh=>?_) (λh=>?_)
 ·have h:i<a.length:=(by simpa using h);have f:i<b.length:=(by omega);rw[waddN _ (by omega)];refine⟨⟨by omega,by simpa using h⟩,_,_,_,_,_,_,_,Zao _ _ _ h,⟨by omega,by simpa using f⟩,_,_,_,_,_,_,_,Zao _ _ _ f,?_⟩;rw[seq_d];refine Zaa (λz=>no (λe=>?_)) (λz=>⟨rfl,⟨i+1,rfl,by omega,λj c k=>?_⟩,stepL (by simp;omega)⟩)
  ·subst e;simp at z
  ·by_cases e:j=i
   ·subst e;generalize a[j]=p at z;generalize b[j]=q at z
    cases p;cases q;simp at z;simp[z]
   ·exact hall j c (by omega)
 ·have h:¬i<a.length:=(by simpa using h);rw[decide_eq_true (Yu d λj g m=>hall j g (by omega))]
def LiD.short(l:LiD):Prop:=l.ev.length≤300∧(∀e∈l.ev,e.c.size≤100)∧l.s.short
instance (l:LiD):Decidable l.short:=inferInstanceAs (Decidable (_∧_∧_))
def nb:BA:=⟨#[98]⟩
def awA:LiD×Int:=apL ⟨[],⟨[],0,0⟩,0,false⟩ ⟨0,3,1,nb,1,0,0⟩
def awB:LiD×Int:=apL awA.1 ⟨0,4,4,nb,1,0,0⟩
def awD:LiD×Int:=drL awB.1 1
def awC:LiD×Int:=apL (shutL awB.1) ⟨0,4,4,nb,0,0,0⟩
def awH:List EvD:=behL awD.1 0
def small(l:LiD):Prop:=l.ev.length≤1000∧lim l.s
def dd(l:LiD)(A:Nat):LiD:={l with ev:=l.ev.drop A,fr:=l.fr+A}
structure Beg(l:LiD):Prop where
 p:l.P
 fr:l.fr=0
 fo:foldS ⟨[],0,0⟩ l.ev=(l.s,l.ev.length,0)
 lm:lim l.s
end Li
namespace Jou
open Go Go.Px Go.Proofs Cod Seg Sgr Snp Sx Row Tryz
def base_P(l:List FiD):(baseF l).P:=by
 unfold baseF
 cases h:newF l with
 |none=>exact(by decide:st0.P)
 |some s=>
  unfold newF at h
  split at h
  next a=>
   cases h
   obtain⟨f,_,b⟩:=a.choose_spec.1;exact b.1
  ·cases h
def stR_P(r:List Pt)(l:List FiD):(stR r (keptF l) (baseF l)).P:=(fold_P _ (base_P l)).1
structure Fct(j:JoD):Prop where
 len:j.sg.length≤64
 fs:j.dk.fs.length≤64
 cx:ctxB j.cx.s j.cx.a j.cx.m=true
 ps:∀p∈j.sg,(0≤p.sz∧p.sz≤65536)∧(1≤p.num∧p.num≤99999999)∧(0≤p.fi∧p.fi≤p.la∧p.la≤4294967296)∧(0≤p.fr∧p.fr≤1099511627776)
 st:j.st.P
def segs_le(l:List FiD):(segs l).length≤l.length:=WY ..
def Zns{d:Sc}(h:ScOK d)(b:d.num≠0):ctxOK d.bs d.ba∧ctxOK d.s d.a∧ctxB d.s d.a d.m=true:=by
 have c:=(h.head b).2;have e:=Zoa d.ev d.bs d.ba [] c (h.evs b);have f:=Zqc d.ev d.bs d.ba [] (Seg.ctx_nil.2 c) (h.evs b);rw[←h.fin b]at e f;exact⟨c,e,f⟩
def RightJ.fct{j:JoD}(h:RightJ j):Fct j:=by
 have a:=h.par;have i:=h.dk.1.1;have v:=segs_le j.dk.fs;have l:=a.dkr.bytes a.all;have hst:j.st.P:=(by rw[a.st];exact stR_P _ _);refine⟨by rw[a.sg];simp;omega,i,?_,?_,hst⟩
 ·rw[a.cx];unfold Zbp
  cases hg:((segs j.dk.fs).map (ptF scF)).getLast? with
  |none=>exact Seg.ctx_nil.2 (show ctxOK 0 0 by unfold ctxOK;omega)
  |some p=>
   dsimp only
   split
   ·exact Seg.ctx_nil.2 (show ctxOK 0 0 by unfold ctxOK;omega)
   ·obtain⟨f,b,rfl⟩:=Y4.1 (List.mem_of_getLast? hg);obtain⟨g,_,b3,c⟩:=l f b;exact(Zns g (by rw[b3];exact c)).2.2
 ·intro p d;rw[a.sg]at d;obtain⟨q,k,rfl⟩:=Y4.1 d;obtain⟨f,b,rfl⟩:=Y4.1 k;obtain⟨g,m,b3,c⟩:=l f b;have r:(scF f).num≠0:=by rw[b3];exact c
  obtain⟨n,o,_⟩:=Zns g r;have t:=a.good.cnt _ k;have e:inN (scF f).num:=by rw[b3];exact(Zc6 c).1
  have u:=congrArg List.length m;rw[Zhc]at u;have y:=Zf7 (List.mem_filter.1 b).1;have z:=h.dk.2.1;have w:=h.dk.1.2.2.1;unfold ctxOK at n o;unfold inN at e;simp only[sgOf];have x:((scF f).ev.length:Int)=(scF f).s-(scF f).bs:=t;refine⟨⟨by omega,by omega⟩,e,⟨by omega,by omega,by omega⟩,by omega,by omega⟩
def Zpl{a:DiD}{d e b:Int}{shut:Bool}{f:List FiD}(g:Par (anewJ a d e b shut) f)(h:mayC d e)(i:a.P)(j:a.dn=false)(k:keptF a.fs≤b)(l:b≤(anewJ a d e b shut).st.q):RightJ (anewJ a d e b shut):=by
 have c:=Zcq g.dkr;have m:=g.good;have n:=g.all;refine⟨h,i,j,?_,?_,?_,rfl,k,l⟩
 ·show(rowK a.fs).2=[]
  have c:rowK a.fs=(f.map (ptF scF),[]):=c;rw[c]
 ·show GoodR (rowK a.fs).1 _ _;have c:rowK a.fs=(f.map (ptF scF),[]):=c;rw[c];exact m
 ·show∀p∈(rowK a.fs).1,_;have c:rowK a.fs=(f.map (ptF scF),[]):=c;rw[c];exact n
noncomputable def evG(a:List FiD):List Cod.EvD:=a.flatMap λf=>(scF f).ev
def Zgg{j:JoD}(h:RightJ j):evsJ j=evG (segs j.dk.fs):=by
 unfold evsJ evG;rw[if_pos h,h.row,List.flatMap_map]
def Zpm:∀(a b:List Stp) {d c:DiD},runP d (a++b)=(c,0)→∃e,runP d a=(e,0)∧runP e b=(c,0)
 | [],b,d,c,h=>⟨d,rfl,h⟩
 |s::a,b,d,c,h=>by
  rw[List.cons_append,runP]at h
  split at h
  next g=>rw[h]at g;exact absurd rfl g
  next g=>obtain⟨e,f,i⟩:=Zpm a b h;exact⟨e,by rw[runP,if_neg g];exact f,i⟩
def Zgu{d a:DiD}{s:Stp}{l:List Stp}(h:runP d (s::l)=(a,0)):∃b,s.run d=(b,0)∧runP b l=(a,0):=by
 rw[runP]at h
 split at h
 next g=>rw[h]at g;exact absurd rfl g
 next g=>have g:(s.run d).2=0:=(by simpa using g);exact⟨_,by rw[←g],h⟩
def step_P{s:Stp}{d:DiD}(h:d.P):(s.run d).1.P:=by
 cases s
 ·exact Zi6 h
 ·exact Zi7 h
 ·exact Zib h
 ·exact Zi8 h
 ·exact Zo2 h
def Zwf:∀(l:List Stp) {d:DiD},d.P→(runP d l).1.P
 | [],d,h=>h
 |s::l,d,h=>by
  rw[runP]
  split
  ·exact step_P h
  ·exact Zwf l (step_P h)
def step_dn{s:Stp}{d c:DiD}(h:s.run d=(c,0)):c.dn=d.dn∧c.rm=d.rm:=by
 cases s
 ·obtain⟨_,_,_,a,b⟩:=Zlk h;exact⟨b,a⟩
 ·obtain⟨_,_,_,_,a,b⟩:=Zdt h;exact⟨b,a⟩
 ·obtain⟨_,_,_,_,a,b⟩:=Zf4 h;exact⟨b,a⟩
 ·obtain⟨_,_,_,a,b⟩:=Zfb h;exact⟨b,a⟩
 ·obtain⟨_,_,_,_,_,_,a,b⟩:=Zkd h;exact⟨b,a⟩
def Zpn:∀(l:List Stp) {d f:DiD},runP d l=(f,0)→f.dn=d.dn∧f.rm=d.rm
 | [],d,f,h=>by cases h;exact⟨rfl,rfl⟩
 |s::l,d,f,h=>by obtain⟨j,g,i⟩:=Zgu h;obtain⟨a,b⟩:=step_dn g;obtain⟨c,e⟩:=Zpn l i;exact⟨c.trans a,e.trans b⟩
def bys_i{b:List Int}(h:Byts b):((bys b).map λx=>(x.toNat:Int))=b:=iU_of h
def Zpo(s:BA)(a c:List UInt8)(b:List Int)(h:Byts b):byF ⟨s,a,c++bys b⟩=byF ⟨s,a,c⟩++b:=by rw[byF_app,bys_i h]
def run1(d:DiD)(s:Stp):runP d [s]=s.run d:=by
 rw[runP,runP]
 split
 ·rfl
 next h=>have h:(s.run d).2=0:=(by simpa using h);rw[←h]
def Ztr{j:JoD}{n:Int}(b:inN n)(c:ctxOK j.st.q j.st.t):Byts (hedB j n)∧(hedB j n).length≤45:=by
 unfold ctxOK at c;have:=Zsn (n:=n) (s:=j.st.q) (a:=j.st.t) b.2 (by omega) (by omega);exact⟨Zi4 (by omega) (by omega) (Zu2 _ _ _),by unfold hedB;rw[Zd2];omega⟩
structure Took(j k:JoD)(e:Cod.EvD):Prop where
 right:RightJ k
 st:k.st=(appS j.st (toE e)).1
 ev:evsJ k=evsJ j++[e]
 cfg:k.cb=j.cb∧k.cg=j.cg
 kept:k.kept=j.kept
 shut:k.shut=j.shut
 sure:j.sure≤k.sure
 rm:k.dk.rm=j.dk.rm
def encE_ok{j:JoD}{e:Cod.EvD}(h:encE j.cx.s j.cx.a j.cx.m e=0):EncOK j.cx.s j.cx.a j.cx.m e:=Zc1.1 h
def sg_last{j:JoD}{a:List FiD}{g:FiD}(h:Par j (a++[g])):j.sg=(a.map (ptF scF)).map sgOf++[sgOf ⟨scF g,g.len⟩]:=by rw[h.sg];simp[ptF]
def cx_open{j:JoD}{b:List FiD}{g:FiD}(h:Par j (b++[g]))(c:(scF g).sl=false):j.cx=⟨(scF g).s,(scF g).a,(scF g).m⟩:=by
 rw[h.cx];unfold Zbp;simp[c]
def evG_app(a b:List FiD):evG (a++b)=evG a++evG b:=List.flatMap_append
def Zcz(a:List FiD)(f:FiD):evG (a++[f])=evG a++(scF f).ev:=by rw[evG_app];simp[evG]
def Par.in_{j:JoD}{c:List FiD}{g:FiD}(h:Par j (c++[g])):ScOK (scF g)∧byF g=segL (scF g)∧(scF g).num≠0∧g.nm=nmG (scF g).num∧inN (scF g).num∧numS g.nm≠0:=by
 obtain⟨d,e,b3,a⟩:=h.dkr.bytes h.all g (by simp);obtain⟨f,b⟩:=h.name g (by simp);exact⟨d,e,by rw[b3];exact a,by rw[Zep b];exact f,b,a⟩
def rec_anew{j:JoD}{v:List FiD}{g:FiD}(h:Par j (v++[g]))(k:(scF g).sl=false){e:Cod.EvD}(w:e.s=j.st.q+1)(E:encE j.cx.s j.cx.a j.cx.m e=0)(F:(appS j.st (toE e)).2=0){l:DiD}(G:Zau j.dk (nmG (scF g).num) (bys (recL' j e))=(l,0))(n o b:Int)(shut:Bool):
  anewJ l n o b shut=⟨l,n,o,(v.map (ptF scF)).map sgOf++[{sgOf ⟨scF g,g.len⟩with sz:=(sgOf ⟨scF g,g.len⟩).sz+(recL' j e).length,la:=e.s,ti:=e.a}],⟨e.s,e.a,bhdN j.cx.m e.c⟩,(appS j.st (toE e)).1,b,j.kept,shut⟩∧
   ∃f,Par (anewJ l n o b shut) (v++[f])∧(scF f).ev=(scF g).ev++[e]∧(scF f).sl=false:=by
 obtain⟨H,J,b3,y,b5,M⟩:=h.in_;have i:=cx_open h k;have d:=encE_ok E;rw[i]at d
 dsimp only at d
 have p:recL' j e=recB (scF g) e:=by unfold recL' recB;rw[i]
 have t:Byts (recL' j e):=(by rw[p];unfold recB;exact Zi4 (by omega) (by have:=Zh3 d;omega) Zip)
 obtain⟨_,f,z,r,_,_⟩:=Zdt G;have C:g∈j.dk.fs:=(List.mem_filter.1 (show g∈segs j.dk.fs by rw[h.dkr.eq];simp)).1;have D:f=g:=(by rw[←y,Zg6 h.dkr.srt C]at z;exact(Option.some.inj z).symm);subst D;rw[←y]at r;obtain⟨e1,K⟩:=anew_add h k w d F (x:=bys (recL' j e)) (by rw[bys_i t,p]) r n o b shut;obtain⟨L,A⟩:=Zze H b3 k d;have u:scF ⟨f.nm,f.su,f.lo++bys (recL' j e)⟩=addS (scF f) e:=Zbo L (by rw[Zpo _ _ _ _ t,A,←J,p]);refine⟨?_,_,K,by rw[u];rfl,by rw[u];exact k⟩;rw[e1,i];congr 3;simp only[sgOf,A,List.length_append,p]
 all_goals first|done|rfl|omega|(congr 1;omega)
def Zrf{j:JoD}{l:List FiD}{g:FiD}(h:Par j (l++[g]))(m:(scF g).sl=false){c:DiD}(y:runP j.dk [.wri (nmG (scF g).num) (bys (selB j (sgOf ⟨scF g,g.len⟩))),.syn (nmG (scF g).num)]=(c,0))(d e a:Int)(shut:Bool):
  anewJ c d e a shut=⟨c,d,e,(l.map (ptF scF)).map sgOf++[{sgOf ⟨scF g,g.len⟩with sz:=(sgOf ⟨scF g,g.len⟩).sz+(selB j (sgOf ⟨scF g,g.len⟩)).length,sl:=true}],⟨0,0,[]⟩,j.st,a,j.kept,shut⟩∧
   ∃f,Par (anewJ c d e a shut) (l++[f])∧(scF f).ev=(scF g).ev∧(scF f).sl=true∧(scF f).num=(scF g).num:=by
 obtain⟨o,z,b3,p,b5,F⟩:=h.in_;have u:=cx_open h m;have E:((scF g).ev.length:Int)=(scF g).s-(scF g).bs:=h.good.cnt (ptF scF g) (by simp);have n:selB j (sgOf ⟨scF g,g.len⟩)=seaB (scF g):=by unfold selB seaB;rw[u];simp only[sgOf];rw[E]
 have v:Byts (selB j (sgOf ⟨scF g,g.len⟩)):=(by rw[n];have:=slP_len o b3;exact Zi4 (by omega) (by omega) (Zvm _ _ _));obtain⟨G,A,q⟩:=Zgu y;rw[run1]at q;obtain⟨f,r,i⟩:=app_sync h.dkr.srt A q;have w:g∈j.dk.fs:=(List.mem_filter.1 (show g∈segs j.dk.fs by rw[h.dkr.eq];simp)).1;have x:f=g:=(by rw[←p,Zg6 h.dkr.srt w]at r;exact(Option.some.inj r).symm);subst x;rw[←p]at i;have k:byF ⟨f.nm,f.su++(f.lo++bys (selB j (sgOf ⟨scF f,f.len⟩))),[]⟩=byF f++seaB (scF f):=(by rw[←n,←Zpo f.nm f.su f.lo _ v];unfold byF;simp);obtain⟨e1,C⟩:=Zy8 h m (f:=⟨f.nm,f.su++(f.lo++bys (selB j (sgOf ⟨scF f,f.len⟩))),[]⟩) rfl k i d e a shut;obtain⟨D,t⟩:=Zt9 o b3 m;have b:scF ⟨f.nm,f.su++(f.lo++bys (selB j (sgOf ⟨scF f,f.len⟩))),[]⟩=sealS (scF f):=Zbo D (by rw[k,t,←z]);refine⟨?_,_,C,by rw[b];rfl,by rw[b];rfl,by rw[b];rfl⟩;rw[e1,n];congr 3;simp only[sgOf,t,List.length_append]
 all_goals first|done|rfl|omega|(congr 1;omega)
def new_anew{j:JoD}{d:List FiD}(h:Par j d){n:Int}(i:∀g,d.getLast?=some g→(scF g).sl=true∧n=(scF g).num+1)(m:inN n)(z:d=[]→n=1)(hst:j.st.P){e:Cod.EvD}(A:e.s=j.st.q+1)(J:encE j.st.q j.st.t [] e=0)(K:(appS j.st (toE e)).2=0){o:DiD}(L:runP j.dk [.cre (nmG n),.wri (nmG n) (bys (hedB j n)),.wri (nmG n) (bys (fr 2 (encL j.st.q j.st.t [] e)))]=(o,0))(p r b:Int)(shut:Bool):
  anewJ o p r b shut=⟨o,p,r,(d.map (ptF scF)).map sgOf++[⟨n,j.st.q,e.s,j.st.t,e.a,(hedB j n).length+(fr 2 (encL j.st.q j.st.t [] e)).length,false⟩],⟨e.s,e.a,bhdN [] e.c⟩,(appS j.st (toE e)).1,b,j.kept,shut⟩∧
   ∃f,Par (anewJ o p r b shut) (d++[f])∧(scF f).ev=[e]∧(scF f).sl=false:=by
 have G:=Zu3 hst
 have u:headOK n j.st.q j.st.t:=⟨m,G⟩
 have k:=Zc1.1 J;obtain⟨C,_⟩:=Ztr (j:=j) m G;have H:Byts (fr 2 (encL j.st.q j.st.t [] e)):=Zi4 (by omega) (by have:=Zh3 k;omega) Zip;obtain⟨Q,M,x⟩:=Zgu L;obtain⟨R,x,D⟩:=Zgu x;rw[run1]at D;obtain⟨hno,E⟩:=new_app h.dkr.srt M x D;have v:byF ⟨nmG n,[],bys (hedB j n)++bys (fr 2 (encL j.st.q j.st.t [] e))⟩=fr 1 (hdP n j.st.q j.st.t)++fr 2 (encL j.st.q j.st.t [] e):=by rw[Zpo _ _ _ _ H];have:=Zpo (nmG n) [] [] _ C;rw[List.nil_append]at this;rw[this];rfl
 have y:∀g∈d,numS g.nm<n:=by
  rcases Y1 d with rfl|⟨l,g,rfl⟩
  ·simp
  ·rw[List.concat_eq_append]at h i⊢;have:=i g (by simp);rw[this.2];exact h.big
 obtain⟨e1,N⟩:=anew_new h i m z (f:=⟨nmG n,[],bys (hedB j n)++bys (fr 2 (encL j.st.q j.st.t [] e))⟩) (Zep m) hno y A u k K v E p r b shut;obtain⟨O,F⟩:=Zzf u k;have w:scF ⟨nmG n,[],bys (hedB j n)++bys (fr 2 (encL j.st.q j.st.t [] e))⟩=newS n j.st.q j.st.t e:=Zbo O (by rw[v,F]);refine⟨?_,_,N,by rw[w];rfl,by rw[w];rfl⟩;rw[e1];congr 3;simp only[sgOf,F,List.length_append];show(⟨n,j.st.q,e.s,j.st.t,e.a,_,false⟩:SgD)=_;congr 1
def Zil{j:JoD}(h:RightJ j):keptF j.dk.fs≤j.sure∧j.sure≤j.st.q∧j.kept=keptF j.dk.fs:=⟨h.sure.1,h.sure.2,h.par.kept⟩
def kept_same{b:DiD}{c d a:Int}{shut:Bool}{e:List SgD}{f:CxD}{g:StD}{k:Int}(h:anewJ b c d a shut=⟨b,c,d,e,f,g,a,k,shut⟩):keptF b.fs=k:=congrArg JoD.kept h
def took_of{j k:JoD}{e:Cod.EvD}(b:RightJ j)(n:(appS j.st (toE e)).2=0)(f:e.s=j.st.q+1){gs':List FiD}(a:k=anewJ k.dk j.cb j.cg k.sure j.shut)(hst:k.st=(appS j.st (toE e)).1)(g:k.kept=j.kept)(h:Par (anewJ k.dk j.cb j.cg k.sure j.shut) gs')(i:evG gs'=evG (segs j.dk.fs)++[e])(p:k.sure=j.sure∨k.sure=j.st.q)(o:k.dk.P)(c:k.dk.dn=j.dk.dn∧k.dk.rm=j.dk.rm):Took j k e:=by
 obtain⟨t,u,v⟩:=Zil b;have w:k.st.q=j.st.q+1:=by rw[hst,(Zrk n).1];exact f
 have r:k.kept=keptF k.dk.fs:=(by rw[a];rfl);have l:RightJ k:=(by have d:(anewJ k.dk j.cb j.cg k.sure j.shut).st=k.st:=(by rw[←a]);rw[a];exact Zpl h b.cfg o (by rw[c.1];exact b.up) (by omega) (by rw[d];omega));have m:segs k.dk.fs=gs':=h.dkr.eq;exact⟨l,hst,by rw[Zgg l,Zgg b,m,i],by rw[a];exact⟨rfl,rfl⟩,g,by rw[a];rfl,by omega,c.2⟩
def Ze2(j:JoD)(c:RightJ j):(segs j.dk.fs=[]∧j.sg=[])∨∃a g,segs j.dk.fs=a++[g]∧Par j (a++[g])∧j.sg=(a.map (ptF scF)).map sgOf++[sgOf ⟨scF g,g.len⟩]:=by
 have b:=c.par
 rcases Y1 (segs j.dk.fs)with e|⟨a,g,e⟩
 ·left
  exact⟨e,by rw[b.sg,e];rfl⟩
 ·right
  rw[List.concat_eq_append]at e;rw[e]at b;exact⟨a,g,e,b,sg_last b⟩
def Zim{j k:JoD}(H:RightJ j){e0:Cod.EvD}(i:appQ j e0=(k,0)):Took j k (evN j e0):=by
 have hF:=H.fct;generalize he:evN j e0=e at*;have F:e.s=j.st.q+1:=(by rw[←he];rfl);unfold appQ at i;rw[he]at i
 split at i
 next g=>rw[Prod.mk.injEq]at i;exact absurd i.2 g
 rename_i g;have X:(appS j.st (toE e)).2=0:=by simpa using g
 split at i
 ·cases i
 rename_i ac
 split at i
 ·cases i
 rename_i w b;unfold endJ at i
 split at i
 ·cases i
 rename_i ab
 split at i
 next O=>rw[Prod.mk.injEq]at i;exact absurd i.2 O
 rename_i O;have O:(runP j.dk w.td).2=0:=by simpa using O
 obtain⟨M,hd'⟩:∃M,runP j.dk w.td=(M,0):=⟨_,by rw[←O]⟩
 rw[hd']at i;rw[Prod.mk.injEq]at i;have hk:=i.1;have hP:M.P:=by have:=Zwf w.td H.dk;rw[hd']at this;exact this
 have Z:=Zpn _ hd';unfold w3 at b
 cases hw2:w2 j e with
 |none=>rw[hw2]at b;cases b
 |some v=>
 rw[hw2]at b;have b:recW v e=some w:=b
 have a2:∀{o:List FiD} {g:FiD},segs j.dk.fs=o++[g]→Par j (o++[g])→j.sg=(o.map (ptF scF)).map sgOf++[sgOf ⟨scF g,g.len⟩]→(scF g).sl=false→v=w0 j→Took j k e:=by
  intro o g A y d h hv;subst hv;have u:recW (w0 j) e=some w:=b;unfold recW at u;rw[show(w0 j).j.sg=_ from d,Zae]at u
  dsimp only at u
  split at u
  ·cases u
  rename_i C;have C:encE j.cx.s j.cx.a j.cx.m e=0:=Yj.1 C;have u:=Option.some.inj u;subst u;have hr:Zau j.dk (nmG (scF g).num) (bys (recL' j e))=(M,0):=(run1 j.dk (.wri (nmG (scF g).num) (bys (recL' j e)))).symm.trans hd';obtain⟨e1,f,Q,R,_⟩:=rec_anew y h F C X hr j.cb j.cg j.sure j.shut;subst hk;exact took_of H X F (gs':=o++[f]) e1.symm rfl rfl Q (by rw[A,Zcz,Zcz,R,List.append_assoc]) (.inl rfl) hP Z
 have D:∀(c:JoD) (o:List FiD) (J:List Stp) (K:Int),Par c o→(∀g,o.getLast?=some g→(scF g).sl=true)→c.st=j.st→c.kept=j.kept→c.cb=j.cb→c.cg=j.cg→c.shut=j.shut→runP j.dk J=(c.dk,0)→(c.sure=j.sure∨c.sure=j.st.q)→evG o=evG (segs j.dk.fs)→
   ∀z:DiD,begW ⟨{c with dk:=z},J,K⟩=some v→Took j k e:=by
  intro c o J K y h hst a5 a6 a7 V a1 a8 a9 z r
  have hn:nxtN ⟨{c with dk:=z},J,K⟩=match o.getLast? with|none=>1|some g=>(scF g).num+1:=by
   unfold nxtN;show(match lasS c.sg with|none=>1|some (_,p)=>p.num+1)=_;rw[y.sg]
   rcases Y1 o with e|⟨l,g,e⟩
   ·rw[e];rfl
   ·rw[e,List.concat_eq_append];simp only[List.map_append,List.map_cons,List.map_nil,Zae,List.getLast?_concat];rfl
  unfold begW at r
  split at r
  ·cases r
  rename_i hno;have aa:inN (nxtN ⟨{c with dk:=z},J,K⟩):=Classical.byContradiction λq=>hno (.inl q);generalize hN:nxtN ⟨{c with dk:=z},J,K⟩=n at*;have r:=Option.some.inj r;subst r;unfold recW at b;rw[Zae]at b
  dsimp only at b
  split at b
  ·cases b
  rename_i C;have C:encE c.st.q c.st.t [] e=0:=(by simpa using C);have b:=Option.some.inj b;subst b
  dsimp only at hd'
  rw[List.append_assoc]at hd';obtain⟨W,T,r2⟩:=Zpm _ _ hd';rw[a1,Prod.mk.injEq]at T;rw[←T.1]at r2
  have Y:∀g,o.getLast?=some g→(scF g).sl=true∧n=(scF g).num+1:=λg hg=>⟨h g hg,by rw[hn,hg]⟩
  obtain⟨e1,f,Q,R,_⟩:=new_anew y Y aa (λq=>by rw[hn,q];rfl) (by rw[hst];exact hF.st) (by rw[hst];exact F) C (by rw[hst];exact X) r2 j.cb j.cg c.sure j.shut;subst hk;refine took_of H X F (gs':=o++[f]) ?_ rfl a5 Q (by rw[Zcz,R,a9]) a8 hP Z;show _=anewJ M j.cb j.cg c.sure j.shut;have hh:hedB c n=fr 1 (hdP n j.st.q j.st.t):=by unfold hedB;rw[hst]
  rw[e1,y.sg,a6,a7,V,hst,hh];rfl
 rcases Ze2 j H with⟨A,d⟩|⟨o,g,A,y,d⟩
 ·have e1:w1 j e=w0 j:=(by unfold w1;rw[d];rfl);have E:opnW (w1 j e)=false:=(by rw[e1];unfold opnW;rw[show(w0 j).j.sg=[]from d];rfl);unfold w2 at hw2;rw[if_neg (by simp[E]),e1]at hw2;exact D j [] [] 0 (by have:=H.par;rw[A]at this;exact this) (by simp) rfl rfl rfl rfl rfl rfl (.inl rfl) (by rw[A]) j.dk hw2
 ·by_cases h:(scF g).sl=true
  ·have e1:w1 j e=w0 j:=by
    unfold w1;rw[d,Zae];have:ovrB j e=false:=by unfold ovrB;rw[d,Zae];simp[sgOf,h]
    simp[this]
   have E:opnW (w1 j e)=false:=(by rw[e1];unfold opnW;rw[show(w0 j).j.sg=_ from d,Zae];simp[sgOf,h]);unfold w2 at hw2;rw[if_neg (by simp[E]),e1]at hw2;exact D j (o++[g]) [] 0 y (λx L=>by simp at L;subst L;exact h) rfl rfl rfl rfl rfl rfl (.inl rfl) (by rw[A]) j.dk hw2
  ·have h:(scF g).sl=false:=(by simpa using h);by_cases G:ovrB j e=true
   ·have e1:w1 j e=sealW (w0 j) ((o.map (ptF scF)).map sgOf) (sgOf ⟨scF g,g.len⟩):=(by unfold w1;rw[d,Zae];simp[G]);have E:opnW (w1 j e)=false:=(by rw[e1];unfold opnW sealW;dsimp only;rw[Zae];rfl);unfold w2 at hw2;rw[if_neg (by simp[E]),e1]at hw2
    have U:∃N,w.td=[.wri (nmG (scF g).num) (bys (selB j (sgOf ⟨scF g,g.len⟩))),.syn (nmG (scF g).num)]++N:=by
     have r:=hw2;unfold begW at r
     split at r
     ·cases r
     have r:=Option.some.inj r;unfold recW at b;rw[←r]at b
     dsimp only at b
     rw[Zae]at b
     dsimp only at b
     split at b
     ·cases b
     have b:=Option.some.inj b;rw[←b];exact⟨_,by simp only[sealW,w0,List.nil_append,List.append_assoc];rfl⟩
    obtain⟨N,U⟩:=U;have a0:=hd';rw[U]at a0;obtain⟨W,T,r2⟩:=Zpm _ _ a0;obtain⟨s1,f,Q,R,v2,v3⟩:=Zrf y h T j.cb j.cg j.st.q j.shut;have a3:(anewJ W j.cb j.cg j.st.q j.shut).st=j.st:=(by rw[s1]);have a4:(anewJ W j.cb j.cg j.st.q j.shut).kept=j.kept:=(by rw[s1]);refine D (anewJ W j.cb j.cg j.st.q j.shut) (o++[f]) [.wri (nmG (scF g).num) (bys (selB j (sgOf ⟨scF g,g.len⟩))),.syn (nmG (scF g).num)] (0+(selB j (sgOf ⟨scF g,g.len⟩)).length) Q (λx L=>by simp at L;subst L;exact v2) a3 a4 rfl rfl rfl T (.inr rfl) (by rw[A,Zcz,Zcz,R]) j.dk ?_;rw[←hw2,s1];rfl
   ·have G:ovrB j e=false:=(by simpa using G);have e1:w1 j e=w0 j:=(by unfold w1;rw[d,Zae];simp[G]);have E:opnW (w1 j e)=true:=(by rw[e1];unfold opnW;rw[show(w0 j).j.sg=_ from d,Zae];simp[sgOf,h]);unfold w2 at hw2;rw[if_pos E,e1]at hw2;exact a2 A y d h (Option.some.inj hw2).symm
def Zqm(l:List FiD):∀p∈(rowK l).1,inN p.d.num:=by
 obtain⟨n,h,b,_⟩:=Zgq l;intro p a;rw[h]at a;obtain⟨f,c,rfl⟩:=Y4.1 a;have:=Zbi b f c;show inN (scF f).num;rw[this];exact(Zc6 (Zbl f (List.mem_of_mem_take c))).1
def Zm6(d:DiD):menD d=runS d (mendS (rowK d.fs).1 (rowK d.fs).2):=by
 unfold menD;rw[Zzx,Zrz (Zqm d.fs)]
def Stp.men:Stp→Prop
 | .rem _| .cut _ _| .syn _=>True
 |_=>False
def Stp.nm:Stp→BA
 | .cre s| .wri s _| .rem s| .cut s _| .syn s=>s
def Stp.eff(l:List FiD):Stp→Option (List FiD)
 | .rem s=>match l.find? (λf=>decide (f.nm=s))with|none=>none|some _=>some (wout FiD.nm l s)
 | .cut s n=>match l.find? (λf=>decide (f.nm=s))with|none=>none|some f=>if n<0∨(f.len:Int)<n then none else some (withB FiD.nm l ⟨s,f.su.take n.toNat,f.lo.take (n.toNat-f.su.length)⟩)
 | .syn s=>match l.find? (λf=>decide (f.nm=s))with|none=>none|some f=>some (withB FiD.nm l ⟨s,f.su++f.lo,[]⟩)
 |_=>none
def run_eff{s:Stp}(b:s.men){d:DiD}(h:d.P)(c:d.dn=false)(e:fnB s.nm=true):(s.eff d.fs=none∧(s.run d).2≠0)∨∃g,s.eff d.fs=some g∧s.run d=d.perf g:=by
 have a:=er_of h c e e
 cases s with
 |cre s=>cases b
 |wri s x=>cases b
 |syn s=>
  simp only[Stp.run,Stp.eff,Zaz,DiD.get];rw[if_neg (λq=>q a)]
  cases hg:d.fs.find? (λf=>decide (f.nm=s))with
  |none=>exact .inl ⟨rfl,by simp⟩
  |some f=>exact .inr ⟨_,rfl,rfl⟩
 |rem s=>
  simp only[Stp.run,Stp.eff,Za5,DiD.get];rw[if_neg (λq=>q a)]
  cases hg:d.fs.find? (λf=>decide (f.nm=s))with
  |none=>exact .inl ⟨rfl,by simp⟩
  |some f=>exact .inr ⟨_,rfl,rfl⟩
 |cut s n=>
  simp only[Stp.run,Stp.eff,opCut,DiD.get];rw[if_neg (λq=>q a)]
  cases hg:d.fs.find? (λf=>decide (f.nm=s))with
  |none=>exact .inl ⟨rfl,by simp⟩
  |some f=>
   dsimp only
   split
   ·exact .inl ⟨rfl,by simp⟩
   ·exact .inr ⟨_,rfl,rfl⟩
def Lst(l:List FiD):Prop:=∀f∈l,f.lo=[]
def bnd(d:DiD)(k:Int):DiD:={d with st:=k}
def Zu8:∀(l:List Stp) {d:DiD},(runP d l).2≠0→∃a s c e,l=a++s::c∧runP d a=(e,0)∧(s.run e).2≠0
 | [],d,h=>absurd rfl h
 |s::l,d,h=>by
  by_cases b:(s.run d).2≠0
  ·exact⟨[],s,l,d,rfl,rfl,b⟩
  ·rw[runP,if_neg b]at h;obtain⟨a,t,c,e,e1,e2,f⟩:=Zu8 l h;have b:(s.run d).2=0:=(by simpa using b);refine⟨s::a,t,c,e,by rw[e1];rfl,?_,f⟩;rw[runP,if_neg (by simp[b])];exact e2
def Zlj{l:List FiD}(i:∀f∈l,fnB f.nm=true):∀s∈mendP (rowK l).1 (rowK l).2,s.men∧fnB s.nm=true:=by
 obtain⟨n,h,k,_⟩:=Zgq l;have g:=Zqm l;have c:∀p∈(rowK l).1,fnB (nmG p.d.num)=true:=λp b=>by rw[Zep (g p b)];exact Zo4 _
 intro s a;unfold mendP at a
 rcases List.mem_append.1 a with a|a
 ·obtain⟨x,e,rfl⟩:=Y4.1 a;refine⟨trivial,?_⟩;have e:x∈(rowK l).2:=(by simpa using e);rw[h]at e;obtain⟨f,j,rfl⟩:=Y4.1 e;exact i f (List.mem_filter.1 (List.mem_of_mem_drop j)).1
 ·rcases List.mem_append.1 a with a|a
  ·obtain⟨p,b,a⟩:=List.mem_flatMap.1 a;unfold cutP at a
   split at a
   ·have:=List.mem_singleton.1 a;subst this;exact⟨trivial,c p (by simpa using b)⟩
   ·cases a
  ·unfold synP at a
   split at a
   ·cases a
   next p b=>
    split at a
    ·cases a
    ·have:=List.mem_singleton.1 a;subst this;exact⟨trivial,c p (List.mem_of_getLast? b)⟩
def Zx1{d:DiD}(o:d.P)(q:d.dn=false)(hst:d.st= -1){s:Stp}{c:List Stp}(h:mendP (rowK d.fs).1 (rowK d.fs).2=s::c):(s.run d).2=0:=by
 obtain⟨A,C⟩:=Zlj o.2.2.1 s (by rw[h];simp);obtain⟨n,j,t,_⟩:=Zgq d.fs;have w:=Zqm d.fs;have fnd:∀g∈segs d.fs,d.fs.find? (λf=>decide (f.nm=g.nm))=some g:=λg b=>Zg6 o.2.2.2 (List.mem_filter.1 b).1;have l:∀p∈(rowK d.fs).1,∃g,d.fs.find? (λf=>decide (f.nm=nmG p.d.num))=some g∧p=ptF scF g:=λp e=>by have E:=w p e;rw[j]at e;obtain⟨g,b,rfl⟩:=Y4.1 e;have m:=List.mem_of_mem_take b;have y:nmG (scF g).num=g.nm:=(by have:inN (scF g).num:=E;rw[Zep this,Zbi t g b];exact Zfh (Zbl g m));exact⟨g,by show d.fs.find? (λf=>decide (f.nm=nmG (scF g).num))=_;rw[y];exact fnd g m,rfl⟩
 have z:∃r,s.eff d.fs=some r:=by
  have a:s∈mendP (rowK d.fs).1 (rowK d.fs).2:=(by rw[h];simp);unfold mendP at a
  rcases List.mem_append.1 a with a|a
  ·obtain⟨x,k,rfl⟩:=Y4.1 a;have k:x∈(rowK d.fs).2:=(by simpa using k);rw[j]at k;obtain⟨g,b,rfl⟩:=Y4.1 k;simp only[Stp.eff];rw[fnd g (List.mem_of_mem_drop b)];exact⟨_,rfl⟩
  ·rcases List.mem_append.1 a with a|a
   ·obtain⟨p,e,a⟩:=List.mem_flatMap.1 a;obtain⟨g,b,u⟩:=l p (by simpa using e);unfold cutP at a
    split at a
    ·rename_i i;have:=List.mem_singleton.1 a;subst this;simp only[Stp.eff];rw[b]
     dsimp only
     have i:(segL p.d).length<g.len:=(by rw[u]at i⊢;exact i);rw[if_neg (by omega)];exact⟨_,rfl⟩
    ·cases a
   ·unfold synP at a
    split at a
    ·cases a
    next p e=>
     split at a
     ·cases a
     ·have:=List.mem_singleton.1 a;subst this;obtain⟨g,b,_⟩:=l p (List.mem_of_getLast? e);simp only[Stp.eff];rw[b];exact⟨_,rfl⟩
 obtain⟨r,D⟩:=z
 rcases run_eff A o q C with⟨v,_⟩|⟨fs',_,hr⟩
 ·rw[D]at v;cases v
 ·rw[hr];unfold DiD.perf;rw[if_neg (by omega)]
def mend_well{d:DiD}(i:d.P)(g:d.dn=false)(hst:d.st= -1):(menD d).2=0:=by
 refine Classical.byContradiction λl=>?_;unfold menD at l;obtain⟨a,s,c,b,e1,e2,q⟩:=Zu8 _ l;have n:=Zlj i.2.2.1
 have j:b.P∧b.dn=false∧b.st= -1:=by
  refine⟨by have:=Zwf a i;rw[e2]at this;exact this,by rw[(Zpn a e2).1];exact g,?_⟩
  have o:∀(a:List Stp) {d b:DiD},(∀s∈a,s.men∧fnB s.nm=true)→d.P→d.dn=false→d.st= -1→runP d a=(b,0)→b.st= -1:=λa=>by
   induction a with
   |nil=>intro d b _ _ _ h e;cases e;exact h
   |cons t a y=>
    intro d b k i g h e;obtain⟨z,f,r⟩:=Zgu e;obtain⟨u,v⟩:=k t (by simp)
    rcases run_eff u i g v with⟨_,p⟩|⟨fs,_,hr⟩
    ·rw[f]at p;exact absurd rfl p
    ·rw[hr]at f;unfold DiD.perf DiD.tick at f;rw[if_neg (by omega),if_neg (by omega)]at f
     cases f
     exact y (d:={d with fs:=fs}) (λx m=>k x (by simp[m])) (by have:=step_P (s:=t) i;rw[hr]at this;unfold DiD.perf DiD.tick at this;rw[if_neg (by omega),if_neg (by omega)]at this;exact this) g h r
  exact o a (λx m=>n x (by rw[e1];simp[m])) i g hst e2
 have w:mendS (rowK d.fs).1 (rowK d.fs).2=a.map Stp.run++(s::c).map Stp.run:=(by rw[←Zrz (Zqm d.fs),e1,List.map_append]);rw[Zzx]at e2;obtain⟨f,_⟩:=Zwg _ _ i.2.2.2 w (by simp) e2;rw[←Zrz (Zqm b.fs)]at f
 cases k:mendP (rowK b.fs).1 (rowK b.fs).2 with
 |nil=>rw[k]at f;simp at f
 |cons t A=>have:=Zx1 j.1 j.2.1 j.2.2 k;rw[k]at f;simp only[List.map_cons,List.cons.injEq]at f;have o:t.run b=s.run b:=congrFun f.1 b;rw[o]at this;exact q this
structure Opened(d:DiD)(cb cg:Int)(k:JoD):Prop where
 P:d.P
 cfg:mayC cb cg
 dn:d.dn=false
 good:GoodR (rowK d.fs).1 (keptF d.fs) (baseF d.fs)
 men:menD d=(k.dk,0)
 eq:k=anewJ k.dk cb cg k.st.q false
 st:k.st=stR (rowK d.fs).1 (keptF d.fs) (baseF d.fs)
 right:RightJ k
def stR_qk{l a:List FiD}(h:DkR l a)(b:GoodR (a.map (ptF scF)) (keptF l) (baseF l)):keptF l≤(stR (a.map (ptF scF)) (keptF l) (baseF l)).q:=by
 rcases Y1 a with rfl|⟨a,g,rfl⟩
 ·show keptF l≤(baseF l).q;rw[Zm4];exact Int.le_refl _
 ·rw[List.concat_eq_append]at h b⊢;rw[stR_q h b];exact h.kept (ptF scF g) (by simp)
def Znz{d:DiD}{c e:Int}{k:JoD}(h:openP d c e=(k,0)):Opened d c e k:=by
 unfold openP at h
 split at h
 ·cases h
 rename_i b;have b:=Yj.1 b
 split at h
 ·cases h
 rename_i m
 split at h
 ·cases h
 rename_i g;have g:=Yj.1 g
 split at h
 next f=>rw[Prod.mk.injEq]at h;exact absurd h.2 f
 rename_i f;have f:(menD d).2=0:=(by simpa using f);have j:d.dn=false:=by simpa using m
 obtain⟨a,hm⟩:∃a,menD d=(a,0):=⟨_,by rw[←f]⟩
 rw[hm,Prod.mk.injEq]at h;have n:=h.1;rw[Zm6]at hm;obtain⟨e1,i⟩:=Zps b.1.2.2.2 g hm c e (stR (rowK d.fs).1 (keptF d.fs) (baseF d.fs)).q false;rw[←Zm6]at hm;have o:a.P:=by have:=Zwf (mendP (rowK d.fs).1 (rowK d.fs).2) b.1;rw[show runP d _=(a,0)from hm]at this;exact this
 have p:=(Zpn _ (show runP d (mendP (rowK d.fs).1 (rowK d.fs).2)=(a,0)from hm)).1;have l:k=anewJ a c e (stR (rowK d.fs).1 (keptF d.fs) (baseF d.fs)).q false:=(by rw[e1,←n]);have hst:(anewJ a c e (stR (rowK d.fs).1 (keptF d.fs) (baseF d.fs)).q false).st=stR (rowK d.fs).1 (keptF d.fs) (baseF d.fs):=(by rw[e1]);have s:keptF a.fs=keptF d.fs:=kept_same e1;have r:keptF a.fs≤(stR (rowK d.fs).1 (keptF d.fs) (baseF d.fs)).q:=(by have:=i.st;rw[hst]at this;rw[this];exact stR_qk i.dkr i.good);subst l;refine⟨b.1,b.2,j,g,hm,?_,hst,Zpl i b.2 o (by rw[p];exact j) r (by rw[hst];exact Int.le_refl _)⟩;rw[hst];rfl
def Zrs{d a:DiD}{cb cg:Int}(b:d.P)(h:mayC cb cg)(c:d.dn=false)(e:GoodR (rowK d.fs).1 (keptF d.fs) (baseF d.fs))(f:menD d=(a,0)):openP d cb cg=(anewJ a cb cg (stR (rowK d.fs).1 (keptF d.fs) (baseF d.fs)).q false,0):=by
 have g:=f;rw[Zm6]at g;obtain⟨e1,_⟩:=Zps b.2.2.2 e g cb cg (stR (rowK d.fs).1 (keptF d.fs) (baseF d.fs)).q false;unfold openP;rw[if_neg (by simp[b,h]),if_neg (by simp[c]),if_neg (by simp[e]),f,if_neg (by simp),e1]
def men_row{d a:DiD}(c:Go.Px.srt FiD.nm d.fs)(b:menD d=(a,0)):(rowK a.fs).1.map (·.d)=(rowK d.fs).1.map (·.d)∧Same d a:=by
 rw[Zm6]at b;obtain⟨h,e,_,_,f,_,_,g⟩:=Zty c b;rw[e,g];exact⟨by rw[List.map_map,List.map_map];rfl,f⟩
def Zpz{j k:JoD}(a:RightJ j)(h:synQ j=(k,0)):RightJ k∧k.st=j.st∧evsJ k=evsJ j∧k.sure=j.st.q∧k.cb=j.cb∧k.cg=j.cg∧k.shut=j.shut∧k.kept=j.kept∧k.dk.rm=j.dk.rm:=by
 obtain⟨y,z,R⟩:=Zil a
 have c:RightJ {j with sure:=j.st.q}∧evsJ {j with sure:=j.st.q}=evsJ j:=by
  have:RightJ {j with sure:=j.st.q}:=by
   refine⟨a.cfg,a.dk,a.up,a.out,a.good,a.all,?_,⟨Int.le_trans y z,Int.le_refl _⟩⟩;have e:=a.eq;unfold anewJ;have e1:=congrArg JoD.sg e;have e2:=congrArg JoD.cx e;have n:=congrArg JoD.st e;have o:=congrArg JoD.kept e
   dsimp only[anewJ]at e1 e2 n o
   dsimp only
   rw[←e1,←e2,←n,←o]
  refine⟨this,?_⟩;unfold evsJ;rw[if_pos this,if_pos a]
 unfold synQ at h
 rcases Ze2 j a with⟨A,m⟩|⟨gs,g,A,hp,m⟩
 ·rw[show lasS j.sg=none from by rw[m];rfl]at h;have h:({j with sure:=j.st.q},(0:Int))=(k,0):=h
  cases h
  exact⟨c.1,rfl,c.2,rfl,rfl,rfl,rfl,rfl,rfl⟩
 have t:=congrArg lasS m;rw[Zae]at t;rw[t]at h
 dsimp only at h
 split at h
 ·cases h
  exact⟨c.1,rfl,c.2,rfl,rfl,rfl,rfl,rfl,rfl⟩
 rename_i Q
 split at h
 next l=>rw[Prod.mk.injEq]at h;exact absurd h.2 l
 rename_i l;have l:(Zaz j.dk (nmG (scF g).num)).2=0:=Yj.1 l
 obtain⟨b,hd⟩:∃b,Zaz j.dk (nmG (scF g).num)=(b,0):=⟨_,Yz rfl l⟩
 have h:({j with dk:=(Zaz j.dk (nmG (scF g).num)).1,sure:=j.st.q},(0:Int))=(k,0):=h;rw[hd]at h
 cases h
 obtain⟨L,M,b3,C,b5,w⟩:=hp.in_;obtain⟨_,f,D,i,E,F⟩:=Zf4 hd;have H:g∈j.dk.fs:=(List.mem_filter.1 (show g∈segs j.dk.fs by rw[A];simp)).1;have J:f=g:=(by rw[←C,Zg6 hp.dkr.srt H]at D;exact(Option.some.inj D).symm);subst J;rw[←C]at i;have K:byF ⟨f.nm,f.su++f.lo,[]⟩=segL (scF f):=(by rw[Zuz,M]);have x:(⟨f.nm,f.su++f.lo,[]⟩:FiD).len=f.len:=(by simp[FiD.len]);obtain⟨N,G⟩:=Zk7 hp.dkr (f:=⟨f.nm,f.su++f.lo,[]⟩) rfl w L K rfl rfl rfl (hp.dkr.kept (ptF scF f) (by simp));rw[←i]at N G;have d:rowK b.fs=rowK j.dk.fs:=(by rw[G,Zcq hp.dkr,x];simp[ptF]);have r:keptF b.fs=keptF j.dk.fs:=(by rw[i];exact Zci w);have u:baseF b.fs=baseF j.dk.fs:=(by rw[i];exact Zdr w);have O:b.P:=by have:=Zib (s:=nmG (scF f).num) a.dk;rw[hd]at this;exact this
 have v:RightJ {j with dk:=b,sure:=j.st.q}:=by
  refine⟨a.cfg,O,by show b.dn=false;rw[F];exact a.up,by show(rowK b.fs).2=[];rw[d];exact a.out,?_,by show∀p∈(rowK b.fs).1,_;rw[d];exact a.all,?_,?_⟩
  ·show GoodR (rowK b.fs).1 (keptF b.fs) (baseF b.fs);rw[d,r,u];exact a.good
  ·have e:=a.eq;show _=anewJ b j.cb j.cg j.st.q j.shut;unfold anewJ;rw[d,r,u];have e1:=congrArg JoD.sg e;have e2:=congrArg JoD.cx e;have n:=congrArg JoD.st e;have o:=congrArg JoD.kept e
   dsimp only[anewJ]at e1 e2 n o
   rw[←e1,←e2,←n,←o]
  ·show keptF b.fs≤j.st.q∧j.st.q≤j.st.q;rw[r];exact⟨Int.le_trans y z,Int.le_refl _⟩
 refine⟨v,rfl,?_,rfl,rfl,rfl,rfl,rfl,E⟩;unfold evsJ;rw[if_pos v,if_pos a];show(rowK b.fs).1.flatMap _=_;rw[d]
end Jou
namespace Jou
open Go Go.Px Go.Proofs Cod Seg Sgr Snp Sx Row Dsk Tryz
def lim_P{d:StD}(h:d.P):lim d:=by
 refine⟨by have:=h.1.1;omega,λc a=>?_⟩;have:=(h.2.1 c a).2;unfold Cmp.CoD.roleP at this
 split at this
 ·have:=this.1.2.2.2.1.2;omega
 ·split at this
  ·rw[this.1.1.2.2.2];simp
  ·rw[this.2.1.2.2.2];simp
def ev_len{p:Pt}(h:PtK p):p.d.ev.length≤(segL p.d).length:=by
 have b:∀(l:List Cod.EvD) (s a:Int) (m:List BA),l.length≤(recL s a m l).length:=λl=>by
  induction l with
  |nil=>intro s a m;simp
  |cons e l f=>
   intro s a m;rw[recL,List.length_append,List.length_cons];have:=f e.s e.a (bhdN m e.c);have g:0<(fr 2 (encL s a m e)).length:=by unfold fr sealB;simp
   omega
 rw[Zcn h.ne,List.length_append,List.length_append];have:=b p.d.ev p.d.bs p.d.ba [];omega
def jrep_fn(r:List Pt)(G:∀p∈r,PtK p)(T:r.length≤1000000)(s:StD)(H:s.P):Ct prog 114 {} [SL 11 (ptR r),s.sv] (λx=>x=[(repP r s).1.sv,B (repP r s).2]):=by
 refine Zyc (Zaa (λh=>?_) (λh=>?_))
 ·have:r=[]:=Ys.1 (by simpa using h);subst this;rfl
 have J:0<r.length:=by
  rcases W6 r.length with e|e
  ·simp[e]at h
  ·exact e
 have z:r.head?=some r[0]:=(by cases r with|nil=>simp at J|cons x l=>rfl);have v:r.length-1<r.length:=(by omega);have A:r.getLast?=some r[r.length-1]:=(by rw[List.getLast?_eq_getElem?];simp[v]);have k:repP r s=if s.q<r[0].d.bs then(s,false)else if(repR s.q s r).2=false then repR s.q s r else((repR s.q s r).1,decide (r[r.length-1].d.a=(repR s.q s r).1.t)):=(by unfold repP;rw[z,A]);refine⟨inM _ (by omega) (by omega),_,_,_,_,_,_,_,_,_,_,_,Zbb ptRow r 0 (by omega) (by omega),Zaa (λo=>?_) (λo=>?_)⟩
 ·simp at o;rw[k,if_pos o]
 simp at o;rw[if_neg (by omega)]at k;refine⟨λx l q t=>∃b:StD,l=coR b.cs∧q=b.q∧t=b.t∧lim b∧0≤x∧x≤r.length∧repR s.q b (r.drop x.toNat)=repR s.q s r,λx _ _ _=>(r.length-x).toNat,⟨s,rfl,rfl,rfl,lim_P H,by omega,by omega,by simp⟩,?_⟩;rintro x l q t ⟨b,rfl,rfl,rfl,hL,x0,hx,he⟩;have C:rlen (ptR r)=r.length:=(by simp);rw[C];refine Zaa (λg=>?_) (λg=>?_)
 rotate_left
 ·simp at g;have K:x.toNat=r.length:=(by omega);rw[K,List.drop_length,repR]at he;have L:wsub IntKind.i64 (r.length:Int) 1=((r.length-1:Nat):Int):=by rw[Zar (by omega) (by omega)];omega
  rw[L];refine⟨inM _ (by omega) (by omega),_,_,_,_,_,_,_,_,_,_,_,Zfz v,?_⟩
  dsimp only
  rw[k,←he,if_neg (by simp)];simp
 simp at g;have w:x.toNat<r.length:=(by omega);have m:=G _ (List.getElem_mem w);have D:r.drop x.toNat=r[x.toNat]::r.drop (x.toNat+1):=List.drop_eq_getElem_cons w;rw[D,repR]at he;have M:=m.bs;have N:=m.s;unfold ctxOK at M N;refine⟨inM _ x0 g,_,_,_,_,_,_,_,_,_,_,_,Zbb ptRow r x x0 g,?_⟩
 dsimp only
 rw[Zar (by omega) (by omega)];have E:rlen (evR r[x.toNat].d.ev)=r[x.toNat].d.ev.length:=(by simp);rw[E];refine Zaa (λc=>?_) (λc=>?_)
 ·have c:(r[x.toNat].d.ev.length:Int)≠r[x.toNat].d.s-r[x.toNat].d.bs:=(by simpa using c);rw[if_pos c]at he;rw[k,←he];rfl
 have c:¬(r[x.toNat].d.ev.length:Int)≠r[x.toNat].d.s-r[x.toNat].d.bs:=(by simpa using c);rw[if_neg c]at he;refine⟨λy l q t=>∃u:StD,l=coR u.cs∧q=u.q∧t=u.t∧lim u∧0≤y∧y≤r[x.toNat].d.ev.length∧repE s.q u (r[x.toNat].d.ev.drop y.toNat)=repE s.q b r[x.toNat].d.ev,λy _ _ _=>(r[x.toNat].d.ev.length-y).toNat,⟨b,rfl,rfl,rfl,hL,by omega,by omega,by simp⟩,?_⟩;rintro y l q t ⟨u,rfl,rfl,rfl,hU,y0,hy,hu⟩;refine Zaa (λi=>?_) (λi=>?_)
 rotate_left
 ·simp at i;have O:y.toNat=r[x.toNat].d.ev.length:=(by omega);rw[O,List.drop_length,repE]at hu;rw[←hu,if_neg (by simp)]at he;rw[Zac (by omega) (by omega)];exact⟨rfl,⟨u,rfl,rfl,rfl,hU,by omega,by omega,by rw[show(x+1).toNat=x.toNat+1 by omega];exact he⟩,mlt (by first|omega|(dsimp only;omega))⟩
 simp at i;have F:y.toNat<r[x.toNat].d.ev.length:=(by omega);have Q:=ev_len m;rw[List.drop_eq_getElem_cons F,repE]at hu;have R:(r[x.toNat].d.ev.length:Int)≤9223372036854775806:=by have:=m.le;have:=m.n;omega
 refine⟨inM _ y0 i,_,_,_,_,_,_,_,Zbb _ _ y y0 i,Zaa (λj=>?_) (λj=>Cl.of (Zk9 u (by have:=hU.1;omega) (toE r[x.toNat].d.ev[y.toNat])) ⟨_,_,_,_,rfl,Zaa (λf=>?_) (λf=>?_)⟩)⟩
 ·simp at j;rw[if_pos j]at hu;rw[Zac (by omega) (by omega)];exact⟨rfl,⟨u,rfl,rfl,rfl,hU,by omega,by omega,by rw[show(y+1).toNat=y.toNat+1 by omega];exact hu⟩,mlt (by first|omega|(dsimp only;omega))⟩
 ·simp at j;rw[if_neg (by omega)]at hu;have f:(appS u (toE r[x.toNat].d.ev[y.toNat])).2≠0:=(by simpa using f);rw[if_pos f]at hu;rw[←hu,if_pos rfl]at he;rw[k,←he];rfl
 ·simp at j;rw[if_neg (by omega)]at hu;have f:(appS u (toE r[x.toNat].d.ev[y.toNat])).2=0:=(by simpa using f);rw[if_neg (by simp[f])]at hu;rw[Zac (by omega) (by omega)];exact⟨rfl,⟨_,rfl,rfl,rfl,lim_app hU _,by omega,by omega,by rw[show(y+1).toNat=y.toNat+1 by omega];exact hu⟩,mlt (by first|omega|(dsimp only;omega))⟩
def new_cases{d:DiD}(a:d.P)(b:d.dn=false){s:StD}{e:Int}(h:NewR d s e):(e=0∧keptF d.fs=s.q∧baseF d.fs=s)∨(e=14∧s=st0∧keptF d.fs=0∧baseF d.fs=st0):=by
 rcases h with⟨h,_⟩|⟨_,h,_⟩|⟨_,_,⟨he,hb⟩|⟨he,hs,hb⟩⟩
 ·exact absurd a h
 ·rw[b]at h;cases h
 ·have:=Zpt a.2.2.2 hb;exact .inl ⟨he,by unfold keptF;rw[this],by unfold baseF;rw[this]⟩
 ·have:=Zpt a.2.2.2 hb;exact .inr ⟨he,hs,by unfold keptF;rw[this],by unfold baseF;rw[this]⟩
def Zqq(b:FiD→Sc):∀(l:List FiD) (a:List Pt×List BA),(l.foldl (rstep b) a).1.length+(l.foldl (rstep b) a).2.length≤a.1.length+a.2.length+l.length
 | [],a=>by simp
 |f::l,a=>by
  rw[List.foldl_cons];have h:=Zqq b l (rstep b a f)
  have:(rstep b a f).1.length+(rstep b a f).2.length≤a.1.length+a.2.length+1:=by
   unfold rstep
   split
   ·omega
   ·split<;>simp<;>omega
  simp only[List.length_cons];omega
def Zu9(l:List FiD):(rowsD scF l).1.length+(rowsD scF l).2.length≤l.length:=by
 have:=Zqq scF l ([],[])
 simpa[rowsD]using this
def Zow(l:List FiD):(rowK l).1.length≤l.length∧(rowK l).2.length≤l.length:=by
 have:=Zu9 l;unfold rowK
 split
 ·omega
 ·split
  ·simp;omega
  ·omega
def rowK_K{l:List FiD}(h:∀p∈(rowsD scF l).1,PtK p):∀p∈(rowK l).1,PtK p:=by
 unfold rowK
 split
 ·exact h
 ·split
  ·simp
  ·exact h
noncomputable abbrev FdV(d:DiD):SV:=fd7 (ptR (rowK d.fs).1) (nR (rowK d.fs).2) (keptF d.fs) (coR (repP (rowK d.fs).1 (baseF d.fs)).1.cs) (repP (rowK d.fs).1 (baseF d.fs)).1.q (repP (rowK d.fs).1 (baseF d.fs)).1.t (repP (rowK d.fs).1 (baseF d.fs)).2
def Zna{r:List Pt}(C:r.length≤1000000)(n:∀p∈r,PtK p){X:Prop}{K:LL→Prop}(o:X)(q:K (nR (r.map λp=>Jou.segNm p.d.num))):
  ∃c:LL→Int→Prop,∃m:LL→Int→Nat,c [] 0∧∀b:LL,∀a:Int,c b a→ifB (ilt a (rlen (ptR r))) (inR a (ptR r)∧(ej3 (rget (ptR r) a) λi t u D E v w F y z A=>
   (Cl prog 88 sP [I i] (λ(g:List SV)=>ej2 g λs=>(((lsum (rlen b) (rlen ([[S s]])))≤((2147483648:Int)))∧(X∧((c (rapp b ([[S s]])) (wadd IntKind.i64 a 1))∧(Nat.le (Nat.succ (m (rapp b ([[S s]])) (wadd IntKind.i64 a 1))) (m b a))))))))) (K b):=by
 refine⟨λl x=>0≤x∧x≤r.length∧l=nR ((r.take x.toNat).map λp=>Jou.segNm p.d.num),λ_ x=>(r.length-x).toNat,⟨by omega,by omega,by simp⟩,?_⟩;rintro l x ⟨x0,hx,rfl⟩;have j:rlen (ptR r)=r.length:=(by simp);rw[j];refine Zaa (λh=>?_) (λh=>?_)
 ·simp at h;have f:x.toNat<r.length:=(by omega);have k:r.take (x+1).toNat=r.take x.toNat++[r[x.toNat]]:=(by rw[show(x+1).toNat=x.toNat+1 by omega,List.take_succ_eq_append_getElem f]);refine⟨inM _ x0 h,_,_,_,_,_,_,_,_,_,_,_,Zbb ptRow r x x0 h,Cl.of (Zda _) ⟨_,rfl,?_,o,?_,?_⟩⟩
  ·simp;omega
  ·rw[Zac (by omega) (by omega)];refine⟨by omega,by omega,?_⟩;have:=Zep (n _ (List.getElem_mem f)).num;unfold nmG at this;rw[k,List.map_append,this];unfold rapp nR;rw[List.map_append];rfl
  ·rw[Zac (by omega) (by omega)];exact mlt (by first|omega|(dsimp only;omega))
 ·simp at h;have e:x.toNat=r.length:=(by omega);rw[e,Yd];exact q
def Zox(d:DiD)(q:d.ok)(n:d.P)(j:d.dn=false):Ct prog 51 {} [d.sv] (λr=>r=[FdV d]∧∀p∈(rowK d.fs).1,PtK p):=by
 have A:=n.1.1;refine jlook_nf (Cl.ofQ (jrows_fn d q n j) ?_);rintro r ⟨rfl,hK⟩;have b:=rowK_K hK;have E:=Zu9 d.fs;refine⟨_,_,rfl,Cl.ofQ (nnew_fn d q) ?_⟩;rintro r ⟨s,e,rfl,hn⟩;have t:=base_P d.fs;have a:=jrep_fn (rowK d.fs).1 b (by have:=Zow d.fs;omega) (baseF d.fs) t
 have i:∀(k:Int) (X Y Z:Prop),k=keptF d.fs→((rowK d.fs)=([],(rowsD scF d.fs).1.map (λp=>segNm p.d.num)++(rowsD scF d.fs).2)→X)→(rowK d.fs=rowsD scF d.fs→Y)→(rowK d.fs=rowsD scF d.fs→Z)→
   ifB (igt (rlen (ptR (rowsD scF d.fs).1)) 0) (inR (wsub IntKind.i64 (rlen (ptR (rowsD scF d.fs).1)) 1) (ptR (rowsD scF d.fs).1)∧(ej3 (rget (ptR (rowsD scF d.fs).1) (wsub IntKind.i64 (rlen (ptR (rowsD scF d.fs).1)) 1)) λF G H J K w L M N O D=>ifB (ilt w k) X Y)) Z:=by
  intro k X Y Z c x y z;generalize a:rowsD scF d.fs=R at*;have u:rlen (ptR R.1)=R.1.length:=(by simp);rw[u]
  have f:rowK d.fs=match R.1.getLast? with|none=>R|some p=>if p.d.s<keptF d.fs then([],R.1.map (λp=>segNm p.d.num)++R.2)else R:=by unfold rowK;rw[a];rfl
  refine Zaa (λh=>?_) (λh=>?_)
  ·simp at h;have l:R.1.length-1<R.1.length:=(by omega);have C:wsub IntKind.i64 (R.1.length:Int) 1=((R.1.length-1:Nat):Int):=by rw[Zar (by omega) (by omega)];omega
   have v:R.1.getLast?=some R.1[R.1.length-1]:=(by rw[List.getLast?_eq_getElem?];simp[l]);rw[v]at f
   dsimp only at f
   rw[C];refine⟨inM _ (by omega) (by omega),_,_,_,_,_,_,_,_,_,_,_,Zfz l,Zaa (λo=>x ?_) (λo=>y ?_)⟩
   ·simp at o;rw[f,if_pos (by omega)]
   ·simp at o;rw[f,if_neg (by omega)]
  ·have h:R.1=[]:=(by simpa using h);have:R.1.getLast?=none:=(by rw[h];rfl);rw[this]at f;exact z f
 have m:(rowsD scF d.fs).1.length≤1000000:=by omega
 rcases new_cases n j hn with⟨rfl,c,g⟩|⟨rfl,rfl,c,g⟩
 ·refine⟨_,_,_,_,rfl,Zaa (λ_=>?_) (λh=>by simp at h)⟩;rw[g]at a;refine i _ _ _ _ c.symm (λer=>Zna m hK rfl ⟨?_,?_⟩) (λer=>?_) (λer=>?_)
  ·simp;omega
  ·rw[er]at a;refine Cl.of a ⟨_,_,_,_,rfl,⟨?_,b⟩⟩;simp only[FdV,er,c,g];rw[Zj8];rfl
  ·rw[er]at a;refine Cl.of a ⟨_,_,_,_,rfl,⟨?_,b⟩⟩;simp only[FdV,er,c,g]
  ·rw[er]at a;refine Cl.of a ⟨_,_,_,_,rfl,⟨?_,b⟩⟩;simp only[FdV,er,c,g]
 ·refine⟨_,_,_,_,rfl,Zaa (λh=>by simp at h) (λ_=>?_)⟩;rw[g]at a;refine i _ _ _ _ c.symm (λer=>Zna m hK rfl ⟨?_,?_⟩) (λer=>?_) (λer=>?_)
  ·simp;omega
  ·rw[er]at a;refine Cl.of a ⟨_,_,_,_,rfl,⟨?_,b⟩⟩;simp only[FdV,er,c,g];rw[Zj8];rfl
  ·rw[er]at a;refine Cl.of a ⟨_,_,_,_,rfl,⟨?_,b⟩⟩;simp only[FdV,er,c,g]
  ·rw[er]at a;refine Cl.of a ⟨_,_,_,_,rfl,⟨?_,b⟩⟩;simp only[FdV,er,c,g]
def Zw4(s:BA):Ct prog 116 {} [S s] (λr=>r=[.clo 184 [.ref 0 [S s]]]):=Zx7 rfl
def jcut_fn(s:BA)(n:Int):Ct prog 118 {} [S s,I n] (λr=>r=[.clo 186 [.ref 0 [S s],.ref 0 [I n]]]):=jcut_nf rfl
def Zhq(s:BA):Ct prog 87 {} [S s] (λr=>r=[.clo 150 [.ref 0 [S s]]]):=jsync_nf rfl
def Zw5(s:BA):Ct prog 142 {} [S s] (λr=>r=[.clo 206 [.ref 0 [S s]]]):=Zx8 rfl
def Zzg(s:BA)(x:List UInt8):Ct prog 205 {} [S s,SL 1 (uR x)] (λr=>r=[.clo 276 [.ref 0 [S s],.ref 0 [SL 1 (uR x)]]]):=jwrite_nf rfl
def backs_fn(a:LL):Ct prog 115 {} [SL 1 a] (λr=>r=[.clo 183 [.ref 0 [SL 1 a]]]):=backs_nf rfl
def backp_fn(a:LL):Ct prog 117 {} [SL 11 a] (λr=>r=[.clo 185 [.ref 0 [SL 11 a]]]):=backp_nf rfl
def rev_at{a:Type}(l:List a)(x:Int)(b:0≤x)(h:x<l.length):∃c:x.toNat<l.reverse.length,kdn (l.length:Int) x=((l.length-1-x.toNat:Nat):Int)∧∃d:l.length-1-x.toNat<l.length,l[l.length-1-x.toNat]=l.reverse[x.toNat]:=by
 refine⟨by simp;omega,by unfold kdn;omega,by omega,?_⟩;rw[List.getElem_reverse]
def mend_fn(r:List Pt)(o:List BA)(m:Int)(A:LL)(s a:Int)(n:Bool)(D:r.length≤1000)(E:o.length≤1000):Ct prog 53 {} [fd7 (ptR r) (nR o) m A s a n] (λx=>x=[SL 1 (tR (mendP r o))]):=by
 have i:rlen (nR o)=o.length:=(by simp);have j:rlen (ptR r)=r.length:=(by simp);have w:∀p:Pt,(cutP p).length≤1:=λp=>by unfold cutP;split<;>simp
 have c:∀l:List Pt,(l.flatMap cutP).length≤l.length:=λl=>by
  induction l with
  |nil=>simp
  |cons p l F=>rw[List.flatMap_cons,List.length_append,List.length_cons];have:=w p;omega
 refine mend_nf _ _ _ _ _ _ _ _ (Cl.of (backs_fn _) ⟨_,_,rfl,_,rfl,rfl,by rw[i];omega,?_⟩);rw[i];refine⟨λx l=>0≤x∧x≤o.length∧l=tR ((o.reverse.take x.toNat).map Stp.rem),⟨by omega,by omega,by simp⟩,?_,?_⟩
 ·rintro x q t l ⟨_,_,rfl⟩;obtain⟨u,e1,v,e2⟩:=rev_at o x q t;rw[e1];refine⟨_,Zao _ _ _ v,Cl.of (Zw4 _) ⟨_,_,rfl,?_,rfl,?_⟩⟩
  ·simp;omega
  ·unfold kup;refine⟨by omega,by omega,?_⟩;rw[show(x+1).toNat=x.toNat+1 by omega,List.take_succ_eq_append_getElem u,e2];simp[rapp,Stp.row]
 rintro l ⟨_,_,rfl⟩;rw[Int.toNat_natCast,show o.reverse.take o.length=o.reverse from List.take_of_length_le (by simp)];refine Cl.of (backp_fn _) ⟨_,_,rfl,_,rfl,rfl,by rw[j];omega,?_⟩;rw[j];refine⟨λx l=>0≤x∧x≤r.length∧l=tR (o.reverse.map Stp.rem++(r.reverse.take x.toNat).flatMap cutP),⟨by omega,by omega,by simp⟩,?_,?_⟩
 ·rintro x q t l ⟨_,_,rfl⟩;obtain⟨u,e1,v,e2⟩:=rev_at r x q t;have k:r.reverse.take (kup x).toNat=r.reverse.take x.toNat++[r.reverse[x.toNat]]:=(by unfold kup;rw[show(x+1).toNat=x.toNat+1 by omega,List.take_succ_eq_append_getElem u]);have f:=c (r.reverse.take x.toNat);have y:(r.reverse.take x.toNat).length≤1000:=(by simp;omega);rw[e1];refine⟨_,_,_,_,_,_,_,_,_,_,_,Zfz v,Zaa (λh=>Cl.of (Zda _) ⟨_,rfl,Cl.of (jcut_fn _ _) ⟨_,_,rfl,?_,rfl,?_⟩⟩) (λh=>⟨rfl,?_⟩)⟩
  ·simp at f y⊢;omega
  ·refine⟨by unfold kup;omega,by unfold kup;omega,?_⟩;rw[k,List.flatMap_append,←e2];simp at h;have:cutP r[r.length-1-x.toNat]=[.cut (nmG r[r.length-1-x.toNat].d.num) (segL r[r.length-1-x.toNat].d).length]:=by unfold cutP;rw[if_pos h]
   simp[rapp,this,Stp.row]
  ·refine⟨by unfold kup;omega,by unfold kup;omega,?_⟩;rw[k,List.flatMap_append,←e2];simp at h;have:cutP r[r.length-1-x.toNat]=[]:=by unfold cutP;rw[if_neg (by omega)]
   simp[this]
 rintro l ⟨_,_,rfl⟩;rw[Int.toNat_natCast,show r.reverse.take r.length=r.reverse from List.take_of_length_le (by simp)];have f:=c r.reverse;refine Zaa (λh=>?_) (λh=>?_)
 ·have h:0<r.length:=by
   rcases W6 r.length with e|e
   ·rw[e]at h;simp at h
   ·exact e
  have g:r.length-1<r.length:=(by omega);have C:wsub IntKind.i64 (r.length:Int) 1=((r.length-1:Nat):Int):=(by rw[Zar (by omega) (by omega)];omega);have z:r.getLast?=some r[r.length-1]:=(by rw[List.getLast?_eq_getElem?];simp[g]);rw[C];refine⟨inM _ (by omega) (by omega),_,_,_,_,_,_,_,_,_,_,_,Zfz g,Zaa (λb=>⟨inM _ (by omega) (by omega),_,_,_,_,_,_,_,_,_,_,_,Zfz g,Cl.of (Zda _) ⟨_,rfl,Cl.of (Zhq _) ⟨_,_,rfl,?_,?_⟩⟩⟩) (λb=>?_)⟩
  ·simp only[rlen_eq,List.length_map,List.length_append,List.length_reverse,lsum_eq,List.length_cons,Y5]at f⊢;omega
  ·have b:r[r.length-1].d.sl=false:=(by rw[←Zm2 r[r.length-1].d.sl];simpa using b);have:synP r=[.syn (nmG r[r.length-1].d.num)]:=(by unfold synP;rw[z];simp[b]);unfold mendP;rw[this];simp[rapp,Stp.row]
  ·have b:r[r.length-1].d.sl=true:=(by rw[←Zm2 r[r.length-1].d.sl];simpa using b);have:synP r=[]:=(by unfold synP;rw[z];simp[b]);unfold mendP;rw[this];simp
 ·have h:r=[]:=(by simpa using h);have:synP r=[]:=(by unfold synP;rw[h];rfl);unfold mendP;rw[this];simp
def mendP_ok{r:List Pt}{o:List BA}:∀s∈mendP r o,s.ok:=by
 intro s a;unfold mendP at a
 rcases List.mem_append.1 a with h|h
 ·obtain⟨n,_,rfl⟩:=Y4.1 h;trivial
 ·rcases List.mem_append.1 h with h|h
  ·obtain⟨p,_,h⟩:=List.mem_flatMap.1 h;unfold cutP at h
   split at h
   ·simp at h;subst h;trivial
   ·cases h
  ·unfold synP at h
   split at h
   ·cases h
   ·split at h
    ·cases h
    ·simp at h;subst h;trivial
def Zzh{r:List Pt}{o:List BA}:(mendP r o).length≤o.length+r.length+1:=by
 have a:∀l:List Pt,(l.flatMap cutP).length≤l.length:=λl=>by
  induction l with
  |nil=>simp
  |cons p l d=>
   rw[List.flatMap_cons,List.length_append,List.length_cons];have:(cutP p).length≤1:=by unfold cutP;split<;>simp
   omega
 have b:=a r.reverse
 have c:(synP r).length≤1:=by
  unfold synP
  split
  ·simp
  ·split<;>simp
 unfold mendP;simp only[List.length_append,List.length_map,List.length_reverse]at b⊢;omega
def JoD.sv(j:JoD):SV:=jr16 (fR j.dk.fs) j.dk.rm j.dk.st j.dk.dn j.cb j.cg (sgR j.sg) j.cx.s j.cx.a (nR j.cx.m) (coR j.st.cs) j.st.q j.st.t j.sure j.kept j.shut
def Zhr(d:DiD):(repP (rowK d.fs).1 (baseF d.fs)).2=true↔GoodR (rowK d.fs).1 (keptF d.fs) (baseF d.fs):=by
 rw[repP_iff,Zm4]
def Zzi{d:DiD}(h:GoodR (rowK d.fs).1 (keptF d.fs) (baseF d.fs)):(repP (rowK d.fs).1 (baseF d.fs)).1=stR (rowK d.fs).1 (keptF d.fs) (baseF d.fs):=by
 have:=repP_st (r:=(rowK d.fs).1) (s:=baseF d.fs) (by rw[Zm4];exact h);rw[this,Zm4]
def Zn1(d:DiD)(j:d.ok)(b c:Int):Ct prog 13 {} [d.sv,.agg [I b,I c]] (λr=>r=[(openP d b c).1.sv,I (openP d b c).2]):=by
 refine jopen_nf (Cl.of (Zgc d j) ⟨_,rfl,Zaa (λh=>?_) (λh=>Cl.of (Zqe b c) ⟨_,rfl,Zaa (λg=>?_) (λg=>?_)⟩)⟩)
 ·simp at h;unfold openP;rw[if_pos (λq=>h q.1)];rfl
 ·simp at g;unfold openP;rw[if_pos (λq=>g q.2)];rfl
 simp at h g;have k:¬¬(d.P∧mayC b c):=λq=>q ⟨h,g⟩;refine Zaa (λi=>?_) (λi=>?_)
 ·unfold openP;rw[if_neg k,if_pos i];rfl
 have l:=h.1.1;have m:=Zow d.fs;refine Cl.ofQ (Zox d j h i) ?_;rintro r ⟨rfl,hK⟩;refine⟨_,_,_,_,_,_,_,rfl,Zaa (λa=>?_) (λa=>Cl.of (mend_fn _ _ _ _ _ _ _ (by omega) (by omega)) ⟨_,rfl,Cl.of (Zoe d j _ mendP_ok (by have:=Zzh (r:=(rowK d.fs).1) (o:=(rowK d.fs).2);omega)) ⟨_,_,_,_,_,rfl,?_⟩⟩)⟩
 ·have a:¬GoodR (rowK d.fs).1 (keptF d.fs) (baseF d.fs):=(by rw[←Zhr];simpa using a);unfold openP;rw[if_neg k,if_neg (by simp[i]),if_pos a];rfl
 have a:GoodR (rowK d.fs).1 (keptF d.fs) (baseF d.fs):=(by rw[←Zhr];simpa using a);have e:openP d b c=if(menD d).2≠0 then(jo0 (menD d).1,(menD d).2)else(⟨(menD d).1,b,c,(rowK d.fs).1.map sgOf,Zbp (rowK d.fs).1,stR (rowK d.fs).1 (keptF d.fs) (baseF d.fs),(stR (rowK d.fs).1 (keptF d.fs) (baseF d.fs)).q,keptF d.fs,false⟩,0):=(by unfold openP;rw[if_neg k,if_neg (by simp[i]),if_neg (by simp[a])]);rw[e,Zzi a];refine Zaa (λf=>?_) (λf=>?_)
 ·have f:(menD d).2≠0:=(by unfold menD;simpa using f);rw[if_pos f];rfl
 ·have f:(menD d).2=0:=(by unfold menD;simpa using f);rw[if_neg (by simp[f])];exact Cl.of (Zus _ (by omega)) ⟨_,rfl,Cl.of (Zqd _ (by omega)) ⟨_,_,_,rfl,rfl⟩⟩
structure JoD.ok(j:JoD):Prop where
 dk:j.dk.ok
 sg:j.sg.length≤1000000
 m:j.cx.m.length≤1000000
 cs:j.st.cs.length≤1000000
 cl:∀c∈j.st.cs,c.cl.length≤1000000
def sgd_band(p q:SgD):band (ieq p.num q.num) (band (ieq p.fi q.fi) (band (ieq p.la q.la) (band (ieq p.fr q.fr) (band (ieq p.ti q.ti) (band (ieq p.sz q.sz) (band (beqB p.sl q.sl) true))))))=decide (p=q):=by
 cases p;cases q
 rw[Bool.eq_iff_iff];simp
def Zzj{c:Type}{a b:List c}{i:Nat}(d:i<a.length)(f:i<b.length)(h:a.take i=b.take i)(e:a[i]=b[i]):a.take (i+1)=b.take (i+1):=by
 rw[List.take_succ_eq_append_getElem d,List.take_succ_eq_append_getElem f,h,e]
def Zzk(a b:List SgD)(i:a.length≤1000000):Ct prog 57 {} [SL 7 (sgR a),SL 7 (sgR b)] (λr=>r=[B (decide (a=b))]):=by
 refine segeq_nf (Zaa (λh=>?_) (λh=>?_))
 ·have:¬a=b:=λe=>by rw[e]at h;simp at h
  rw[decide_eq_false this]
 have g:a.length=b.length:=(by simp at h;omega);refine⟨λ_ x=>0≤x∧x≤a.length∧a.take x.toNat=b.take x.toNat,λ_ x=>(a.length-x).toNat,⟨by omega,by omega,rfl⟩,?_⟩;rintro _ x ⟨x0,hx,he⟩;refine Zaa (λc=>?_) (λc=>?_)
 ·have c:x<a.length:=(by simpa using c);have d:x<b.length:=(by omega);refine⟨inM _ x0 c,_,_,_,_,_,_,_,Zbb SgD.row a x x0 c,inM _ x0 d,_,_,_,_,_,_,_,Zbb SgD.row b x x0 d,?_⟩
  dsimp only
  rw[sgd_band,Zac (by omega) (by omega)];refine Zaa (λf=>?_) (λf=>⟨rfl,⟨by omega,by omega,?_⟩,mlt (by first|omega|(dsimp only;omega))⟩)
  ·have:¬a=b:=λe=>by subst e;simp at f
   rw[decide_eq_false this]
  ·rw[show(x+1).toNat=x.toNat+1 by omega];exact Zzj (by omega) (by omega) he (by simpa using f)
 ·have c:x=a.length:=(by simp at c;omega);have:a=b:=(by rw[c,Int.toNat_natCast,Yd,g,Yd]at he;exact he);rw[decide_eq_true this]
def Zzl(a b:List BA)(i:a.length≤1000000):Ct prog 120 {} [SL 1 (nR a),SL 1 (nR b)] (λr=>r=[B (decide (a=b))]):=by
 refine streq_nf (Zaa (λh=>?_) (λh=>?_))
 ·have:¬a=b:=λe=>by rw[e]at h;simp at h
  rw[decide_eq_false this]
 have g:a.length=b.length:=(by simp at h;omega);refine⟨λ_ x=>0≤x∧x≤a.length∧a.take x.toNat=b.take x.toNat,λ_ x=>(a.length-x).toNat,⟨by omega,by omega,rfl⟩,?_⟩;rintro _ x ⟨x0,hx,he⟩;refine Zaa (λc=>?_) (λc=>?_)
 ·have c:x<a.length:=(by simpa using c);have d:x<b.length:=(by omega);refine⟨inM _ x0 c,_,Zbb _ a x x0 c,inM _ x0 d,_,Zbb _ b x x0 d,?_⟩
  dsimp only
  rw[sne_eq,Zvo,Zac (by omega) (by omega)];refine Zaa (λf=>?_) (λf=>⟨rfl,⟨by omega,by omega,?_⟩,mlt (by first|omega|(dsimp only;omega))⟩)
  ·have:¬a=b:=λe=>by subst e;simp at f
   rw[decide_eq_false this]
  ·rw[show(x+1).toNat=x.toNat+1 by omega];exact Zzj (by omega) (by omega) he (by simpa using f)
 ·have c:x=a.length:=(by simp at c;omega);have:a=b:=(by rw[c,Int.toNat_natCast,Yd,g,Yd]at he;exact he);rw[decide_eq_true this]
def jsame_fn(c d:CxD)(b:c.m.length≤1000000):Ct prog 58 {} [c.sv,d.sv] (λr=>r=[B (decide (c=d))]):=by
 have ext:c=d↔(c.s=d.s∧c.a=d.a)∧c.m=d.m:=(by cases c;cases d;simp[and_assoc]);refine jsame_nf (Zaa (λh=>Cl.of (Zzl _ _ b) ⟨_,rfl,?_⟩) (λh=>?_))
 ·have h:c.s=d.s∧c.a=d.a:=(by simpa using h);congr 2;exact decide_eq_decide.2 ⟨λq=>ext.2 ⟨h,q⟩,λq=>(ext.1 q).2⟩
 ·have:¬c=d:=λe=>by subst e;simp at h
  rw[decide_eq_false this]
open Classical in
noncomputable def rgtJ(j:JoD):Bool:=decide (RightJ j)
def Zd7{j:JoD}:rgtJ j=true↔RightJ j:=by unfold rgtJ;simp
def rgtJ_no{j:JoD}(h:¬RightJ j):rgtJ j=false:=by unfold rgtJ;simp[h]
def Zdi{j:JoD}:RightJ j↔mayC j.cb j.cg∧j.dk.P∧j.dk.dn=false∧GoodR (rowK j.dk.fs).1 (keptF j.dk.fs) (baseF j.dk.fs)∧(rowK j.dk.fs).2=[]∧(∀p∈(rowK j.dk.fs).1,p.n=(segL p.d).length)∧
  j.sg=(rowK j.dk.fs).1.map sgOf∧j.cx=Zbp (rowK j.dk.fs).1∧j.st=stR (rowK j.dk.fs).1 (keptF j.dk.fs) (baseF j.dk.fs)∧j.kept=keptF j.dk.fs∧j.kept≤j.sure∧j.sure≤j.st.q:=by
 constructor
 ·intro h;have e:=h.eq;have e1:=congrArg JoD.sg e;have e2:=congrArg JoD.cx e;have b:=congrArg JoD.st e;have a:=congrArg JoD.kept e;have c:j.kept=keptF j.dk.fs:=a;exact⟨h.cfg,h.dk,h.up,h.good,h.out,h.all,e1,e2,b,a,by rw[c];exact h.sure.1,h.sure.2⟩
 ·rintro⟨f,g,i,k,l,m,e1,e2,b,a,o,r⟩;refine⟨f,g,i,l,k,m,?_,by rw[←a];exact o,r⟩;unfold anewJ;rw[←e1,←e2,←b,←a]
def Zft(j:JoD)(h:j.ok):Ct prog 17 {} [j.sv] (λr=>r=[B (rgtJ j)]):=by
 have no:∀{p:Prop},(RightJ j→p)→¬p→rgtJ j=false:=λf g=>rgtJ_no λq=>g (f q);refine jright_nf (Cl.of (Zqe _ _) ⟨_,rfl,Zaa (λg=>?_) (λg=>?_)⟩)
 ·rw[no (λq=>q.cfg) (by simpa using g)]
 have v:mayC j.cb j.cg:=(by simpa using g);refine Cl.of (Zgc j.dk h.dk) ⟨_,rfl,Zaa (λg=>?_) (λg=>?_)⟩
 ·rw[no (λq=>And.intro q.dk q.up) (λq=>by simp[q.1,q.2]at g)]
 have b:j.dk.P:=Classical.byContradiction λq=>by simp[q]at g
 have s:j.dk.dn=false:=(by simpa[b]using g);have w:=b.1.1;have F:=Zow j.dk.fs;refine Cl.ofQ (Zox j.dk h.dk b s) ?_;rintro r ⟨rfl,hK⟩;refine⟨_,_,_,_,_,_,_,rfl,Zaa (λg=>?_) (λg=>?_)⟩
 ·rw[no (λq=>And.intro q.good q.out) (λq=>by
   have:=(Zhr j.dk).2 q.1;rw[this,q.2]at g
   simp at g)]
 have o:GoodR (rowK j.dk.fs).1 (keptF j.dk.fs) (baseF j.dk.fs):=(Zhr j.dk).1 (Classical.byContradiction λq=>by simp[q]at g)
 have y:(rowK j.dk.fs).2=[]:=by
  have:=(Zhr j.dk).2 o;rw[this]at g
  simpa using g
 have t:rlen (ptR (rowK j.dk.fs).1)=(rowK j.dk.fs).1.length:=(by simp);refine⟨λ_ x=>0≤x∧x≤(rowK j.dk.fs).1.length∧∀i:Nat,∀a:i<(rowK j.dk.fs).1.length,i<x→(rowK j.dk.fs).1[i].n=(segL (rowK j.dk.fs).1[i].d).length,λ_ x=>((rowK j.dk.fs).1.length-x).toNat,⟨by omega,by omega,by intro i a q;omega⟩,?_⟩;rintro _ x ⟨x0,hx,hall⟩;rw[t];refine Zaa (λg=>?_) (λg=>?_)
 ·have g:x<(rowK j.dk.fs).1.length:=(by simpa using g);have c:x.toNat<(rowK j.dk.fs).1.length:=(by omega);have l:=hK _ (List.getElem_mem c);refine⟨inM _ x0 g,_,_,_,_,_,_,_,_,_,_,_,Zbb ptRow _ x x0 g,Zaa (λz=>?_) (λz=>⟨rfl,?_,?_⟩)⟩
  ·rw[no (λq=>q.all _ (List.getElem_mem c)) (by simp at z;omega)]
  ·rw[Zac (by omega) (by omega)];refine⟨by omega,by omega,λi a q=>?_⟩;by_cases e:i<x
   ·exact hall i a e
   ·have:i=x.toNat:=(by omega);subst this;have:=l.le;simp at z;omega
  ·rw[Zac (by omega) (by omega)];exact mlt (by first|omega|(dsimp only;omega))
 have A:∀p∈(rowK j.dk.fs).1,p.n=(segL p.d).length:=λp l=>by obtain⟨i,a,rfl⟩:=List.mem_iff_getElem.1 l;simp at g;exact hall i a (by omega)
 refine Cl.of (Zus _ (by omega)) ⟨_,rfl,Cl.of (Zzk _ _ h.sg) ⟨_,rfl,Zaa (λg=>?_) (λg=>?_)⟩⟩
 ·rw[no (λq=>(Zdi.1 q).2.2.2.2.2.2.1) (by simpa using g)]
 have C:j.sg=(rowK j.dk.fs).1.map sgOf:=(by simpa using g);refine Cl.of (Zqd _ (by omega)) ⟨_,_,_,rfl,Cl.of (jsame_fn j.cx (Zbp (rowK j.dk.fs).1) h.m) ⟨_,rfl,Zaa (λg=>?_) (λg=>?_)⟩⟩
 ·rw[no (λq=>(Zdi.1 q).2.2.2.2.2.2.2.1) (by simpa using g)]
 have D:j.cx=Zbp (rowK j.dk.fs).1:=(by simpa using g);have k:=ssame_fn j.st (repP (rowK j.dk.fs).1 (baseF j.dk.fs)).1 (by have:=h.cs;omega) h.cl;rw[Zzi o]at k⊢;refine Cl.of k ⟨_,rfl,Zaa (λg=>?_) (λg=>?_)⟩
 ·rw[no (λq=>And.intro (Zdi.1 q).2.2.2.2.2.2.2.2.1 (Zdi.1 q).2.2.2.2.2.2.2.2.2.1) (λq=>by simp[q.1,q.2]at g)]
 have E:j.st=stR (rowK j.dk.fs).1 (keptF j.dk.fs) (baseF j.dk.fs):=Classical.byContradiction λq=>by simp[q]at g
 have u:j.kept=keptF j.dk.fs:=Classical.byContradiction λq=>by simp[q]at g
 have:rgtJ j=bpick (ige j.sure j.kept) (ile j.sure j.st.q) false:=by
  rw[Bool.eq_iff_iff,Zd7];constructor
  ·intro q;have:=(Zdi.1 q).2.2.2.2.2.2.2.2.2.2;simp[this.1,this.2]
  ·intro q;have q:j.kept≤j.sure∧j.sure≤j.st.q:=(by simpa using q);exact Zdi.2 ⟨v,b,s,o,y,A,C,D,E,u,q.1,q.2⟩
 rw[this]
def Zrv(j:JoD)(h:j.ok):Ct prog 68 {} [j.sv] (λr=>r=[I (mayJ j)]):=by
 refine jmay_nf (Cl.of (Zgc j.dk h.dk) ⟨_,rfl,Zaa (λg=>?_) (λg=>Cl.of (Zft j h) ⟨_,rfl,Zaa (λz=>?_) (λz=>?_)⟩)⟩)
 ·have g:j.dk.P∧j.dk.dn=true:=(by simpa using g);unfold mayJ;rw[if_pos g]
 ·have z:¬RightJ j:=λq=>by rw[Zd7.2 q]at z;simp at z
  have g:¬(j.dk.P∧j.dk.dn=true):=(by simpa using g);unfold mayJ;rw[if_neg g,if_pos z]
 ·have z:RightJ j:=Zd7.1 (by simpa using z);rw[Zcg.2 z]
def Zi0(j:JoD)(h:j.ok):Ct prog 15 {} [j.sv] (λr=>r=[SL 7 (evR (evsJ j))]):=by
 refine Zyb (Cl.of (Zft j h) ⟨_,rfl,Zaa (λg=>?_) (λg=>?_)⟩)
 ·have g:¬RightJ j:=λq=>by rw[Zd7.2 q]at g;simp at g
  unfold evsJ;rw[if_neg g];rfl
 have g:RightJ j:=Zd7.1 (by simpa using g);have s:evsJ j=(rowK j.dk.fs).1.flatMap (·.d.ev):=(by unfold evsJ;rw[if_pos g]);rw[s];have t:=g.dk.1.1;have v:=Zow j.dk.fs;refine Cl.ofQ (Zox j.dk h.dk g.dk g.up) ?_;rintro r ⟨rfl,hK⟩;refine⟨_,_,_,_,_,_,_,rfl,?_⟩;generalize(rowK j.dk.fs).1=R at*
 have e:∀l:List Pt,(∀p∈l,PtK p)→(l.flatMap (·.d.ev)).length≤65536*l.length:=λl=>by
  induction l with
  |nil=>intro _;simp
  |cons p l u=>intro a;have w:=ev_len (a p (by simp));have y:=(a p (by simp)).le;have z:=(a p (by simp)).n;have A:=u (λq m=>a q (by simp[m]));rw[List.flatMap_cons,List.length_append,List.length_cons];omega
 have f:rlen (ptR R)=R.length:=(by simp);refine⟨λl x=>0≤x∧x≤R.length∧l=evR ((R.take x.toNat).flatMap (·.d.ev)),λ_ x=>(R.length-x).toNat,⟨by omega,by omega,rfl⟩,?_⟩;rintro l x ⟨x0,hx,rfl⟩;rw[f];refine Zaa (λg=>?_) (λg=>?_)
 ·have g:x<R.length:=(by simpa using g);have i:x.toNat<R.length:=(by omega);have b:R.take (x+1).toNat=R.take x.toNat++[R[x.toNat]]:=(by rw[show(x+1).toNat=x.toNat+1 by omega,List.take_succ_eq_append_getElem i]);have k:=e (R.take (x+1).toNat) (λp o=>hK p (List.mem_of_mem_take o));have c:(R.take (x+1).toNat).length≤64:=(by simp;omega);refine⟨inM _ x0 g,_,_,_,_,_,_,_,_,_,_,_,Zbb ptRow _ x x0 g,?_,rfl,?_,?_⟩
  ·rw[b]at k c;simp only[List.flatMap_append,List.length_append,List.flatMap_cons,WN,List.append_nil,rlen_eq,List.length_map,lsum_eq]at k c⊢;omega
  ·rw[Zac (by omega) (by omega)];refine⟨by omega,by omega,?_⟩;rw[b,List.flatMap_append];simp[rapp]
  ·rw[Zac (by omega) (by omega)];exact mlt (by first|omega|(dsimp only;omega))
 ·have g:x.toNat=R.length:=(by simp at g;omega);rw[g,Yd]
def WrD.sv(w:WrD):SV:=wr18 (fR w.j.dk.fs) w.j.dk.rm w.j.dk.st w.j.dk.dn w.j.cb w.j.cg (sgR w.j.sg) w.j.cx.s w.j.cx.a (nR w.j.cx.m) (coR w.j.st.cs) w.j.st.q w.j.st.t w.j.sure w.j.kept w.j.shut (tR w.td) w.sz
def bR_bys{b:List Int}(h:Byts b):bR b=uR (bys b):=by
 rw[uR_bR];unfold bys;rw[iU_of h]
def sg_len(l:List SgD)(p:SgD):rlen (sgR (l++[p]))=l.length+1:=by simp
def Zfo{l:List SgD}(p:SgD)(h:l.length≤1000000):wsub .i64 (rlen (sgR (l++[p]))) 1=(l.length:Int):=by
 rw[sg_len,Zar (by omega) (by omega)];omega
def Zeb(l:List SgD)(p:SgD):rget (sgR (l++[p])) (l.length:Int)=p.row:=by simp[rget]
def Zu6(l:List SgD)(p q:SgD):rset (sgR (l++[p])) (l.length:Int) q.row=sgR (l++[q]):=by simp[rset]
def sg_in(l:List SgD)(p:SgD):inR (l.length:Int) (sgR (l++[p])):=⟨by omega,by rw[sg_len];omega⟩
def tR_app(a:List Stp)(s:Stp):rapp (tR a) [s.row]=tR (a++[s]):=by simp[rapp]
def Zso(w:WrD)(l:List SgD)(p:SgD)(c:w.j.sg=l++[p])(b:List Int)(d:Byts b)(f:l.length≤1000000)(h:w.td.length≤1000000)(g:b.length≤1000000)(i:0≤p.sz∧p.sz≤1000000000)(k:0≤w.sz∧w.sz≤1000000000):
  Ct prog 140 sgP [w.sv,SL 1 (bR b)] (λr=>r=[(putW w l p b).sv]):=by
 refine wput_nf ?_;rw[c,Zfo p f,bR_bys d];have a:rlen (uR (bys b))=b.length:=(by simp[bys]);rw[a];refine⟨sg_in l p,sg_in l p,_,_,_,_,_,_,_,Zeb l p,sg_in l p,_,_,_,_,_,_,_,Zeb l p,?_⟩;rw[Zac (by omega) (by omega),Zac (by omega) (by omega)];have e:=Zu6 l p {p with sz:=p.sz+b.length};unfold SgD.row at e
 dsimp only at e⊢
 rw[e];refine⟨sg_in l _,_,_,_,_,_,_,_,Zeb l _,Cl.of (Zda _) ⟨_,rfl,Cl.of (Zzg _ _) ⟨_,_,rfl,?_,?_⟩⟩⟩
 ·simp;omega
 ·have:=tR_app w.td (.wri (nmG p.num) (bys b));unfold Stp.row at this;rw[this];rfl
def wopen_fn(w:WrD)(a:w.j.sg.length≤1000000):Ct prog 74 sgW [w.sv] (λr=>r=[B (opnW w),w.sv]):=by
 refine wopen_nf ?_
 rcases Y1 w.j.sg with e|⟨l,p,e⟩
 ·rw[e];refine Zaa (λh=>by simp at h) (λ_=>?_);unfold WrD.sv opnW;rw[e];rfl
 ·rw[List.concat_eq_append]at e;have b:l.length≤1000000:=by rw[e]at a;simp at a;omega
  rw[e,Zfo p b];refine Zaa (λ_=>⟨sg_in l p,sg_in l p,_,_,_,_,_,_,_,Zeb l p,?_⟩) (λh=>by simp at h<;>omega);unfold WrD.sv opnW;rw[e,Zae];rfl
def slP_le{n s a:Int}(b:n≤9223372036854775807)(c:s≤9223372036854775807)(d:a≤9223372036854775807):(slP n s a).length≤30:=by
 have e:(leb n.toNat).length≤10:=Cod.leb_small (by omega);have f:(leb s.toNat).length≤10:=Cod.leb_small (by omega);have b3:(leb a.toNat).length≤10:=Cod.leb_small (by omega);simp[slP];omega
def Zu7(w:WrD)(l:List SgD)(p:SgD)(d:w.j.sg=l++[p])(e:ctxB w.j.cx.s w.j.cx.a w.j.cx.m=true)(q:p.fi≤p.la)(t:0≤p.fi)(u:p.la≤9223372036854775807)(v:l.length≤100000)(x:w.td.length≤100000)(y:0≤p.sz∧p.sz≤100000000)(z:0≤w.sz∧w.sz≤100000000):
  Ct prog 72 sgW [w.sv] (λr=>r=[B true,(sealW w l p).sv]):=by
 have i:=(Zbg.1 e).1;have k:=slP_le (n:=p.la-p.fi) (s:=w.j.cx.s) (a:=w.j.cx.a) (by omega) (by omega) (by omega);have f:Byts (selB w.j p):=Zi4 (by omega) (by omega) (Zvm _ _ _);have o:(selB w.j p).length≤40:=(by unfold selB;rw[Zd2];omega);refine wseal_nf ?_;rw[d,Zfo p (by omega)];refine⟨sg_in l p,sg_in l p,_,_,_,_,_,_,_,Zeb l p,sg_in l p,_,_,_,_,_,_,_,Zeb l p,?_⟩
 dsimp only
 rw[Zar (by omega) (by omega)];have c:=Zzm (p.la-p.fi) w.j.cx.s w.j.cx.a w.j.cx.m (by omega);rw[if_pos ⟨e,by omega⟩]at c;refine Cl.of c ⟨_,_,rfl,Zaa (λh=>by simp at h) (λ_=>?_)⟩;have b:=Zso w l p d (selB w.j p) f (by omega) (by omega) (by omega) (by omega) (by omega);unfold WrD.sv at b;rw[d]at b;refine Cl.of b ⟨_,_,_,_,_,_,_,_,_,_,_,_,_,_,_,_,_,_,rfl,?_⟩;have g:(putW w l p (selB w.j p)).j.sg=l++[{p with sz:=p.sz+(selB w.j p).length}]:=rfl
 dsimp only
 rw[g];refine⟨sg_in l _,_,_,_,_,_,_,_,Zeb l _,Cl.of (Zda _) ⟨_,rfl,Cl.of (Zhq _) ⟨_,_,rfl,?_,sg_in l _,_,_,_,_,_,_,_,Zeb l _,?_⟩⟩⟩
 ·simp[putW];omega
 ·have e1:=tR_app (putW w l p (selB w.j p)).td (.syn (nmG p.num));have e2:=Zu6 l {p with sz:=p.sz+(selB w.j p).length} {p with sz:=p.sz+(selB w.j p).length,sl:=true};unfold Stp.row at e1;unfold SgD.row at e2
  dsimp only at e1 e2⊢
  rw[e1,e2];simp only[WrD.sv,sealW,putW,List.append_assoc,List.cons_append,List.nil_append,List.map_nil]
def sgW_snoc(l:List SgD)(p:SgD):rapp (sgR l) [p.row]=sgR (l++[p]):=by simp[rapp]
def wbeg_go(w:WrD)(n:Int)(o:nxtN w=n)(p:ctxOK w.j.st.q w.j.st.t)(hl:w.j.sg.length≤100000)(hf:w.j.dk.fs.length≤100000)(ht:w.td.length≤100000)(hs:0≤w.sz∧w.sz≤100000000){Q:List SV→Prop}(d:Q (match begW w with|none=>[B false,w.sv]|some v=>[B true,v.sv])):
  Cl prog 88 sP [I n] (λ(G:List SV)=>ej2 G λs=>(ifB (bpick (seq s (bA [])) true (igt (wadd IntKind.i64 (rlen (fR w.j.dk.fs)) 1) 64)) (Q ([B false,wr18 (fR w.j.dk.fs) w.j.dk.rm w.j.dk.st w.j.dk.dn w.j.cb w.j.cg (sgR w.j.sg) w.j.cx.s w.j.cx.a (nR w.j.cx.m) (coR w.j.st.cs) w.j.st.q w.j.st.t w.j.sure w.j.kept w.j.shut (tR w.td) w.sz])) (Cl prog 141 (Sig.mk [] [Md.own,Md.pure]) ([I n,cx3 w.j.st.q w.j.st.t []]) (λ(r:List SV)=>ej7 r λl x=>(ifB (ine x 0) (Q ([B false,wr18 (fR w.j.dk.fs) w.j.dk.rm w.j.dk.st w.j.dk.dn w.j.cb w.j.cg (sgR w.j.sg) w.j.cx.s w.j.cx.a (nR w.j.cx.m) (coR w.j.st.cs) w.j.st.q w.j.st.t w.j.sure w.j.kept w.j.shut (tR w.td) w.sz])) (Cl prog 142 sP [S s] (λ(u:List SV)=>ej0 u λf g=>(((lsum (rlen (tR w.td)) (rlen ([[SV.clo f g]])))≤((2147483648:Int)))∧(((lsum (rlen (sgR w.j.sg)) (rlen ([[I n,I w.j.st.q,I w.j.st.q,I w.j.st.t,I w.j.st.t,I ((0:Int)),B false]])))≤((2147483648:Int)))∧(Cl prog 140 sgP ([wr18 (fR w.j.dk.fs) w.j.dk.rm w.j.dk.st w.j.dk.dn w.j.cb w.j.cg (rapp (sgR w.j.sg) ([[I n,I w.j.st.q,I w.j.st.q,I w.j.st.t,I w.j.st.t,I ((0:Int)),B false]])) w.j.cx.s w.j.cx.a (nR w.j.cx.m) (coR w.j.st.cs) w.j.st.q w.j.st.t w.j.sure w.j.kept w.j.shut (rapp (tR w.td) ([[SV.clo f g]])) w.sz,SL 1 l]) (λ(y:List SV)=>ej8 y λH J K b L M N x5 x6 l3 O P R T z U V A=>(Q ([B true,wr18 H J K b L M N w.j.st.q w.j.st.t [] O P R T z U V A]))))))))))))):=by
 have D:rlen (fR w.j.dk.fs)=w.j.dk.fs.length:=(by simp);rw[D,Zac (by omega) (by omega)];have W:∀s:BA,seq s (bA [])=decide (s=ByteArray.mk #[]):=λs=>by rw[seq_eq,Zvo]
 have i:inN n→nmG n≠ByteArray.mk #[]:=λh e=>by
  rw[Zep h]at e;have:=congrArg (λb:BA=>b.data.toList) e;simp only[Zcd]at this
  cases this
 refine Cl.of (Zda n) ⟨_,rfl,?_⟩
 dsimp only
 rw[W];refine Zaa (λh=>?_) (λh=>?_)
 ·have:begW w=none:=by
   unfold begW;rw[o,if_pos];by_cases c:inN n
   ·have:=i c
    have h':64<(w.j.dk.fs.length:Int)+1:=by
     unfold nmG at this
     simpa[this]using h
    exact .inr (by omega)
   ·exact .inl c
  rw[this]at d;exact d
 have c:inN n:=Classical.byContradiction λq=>by have:=nmG_no q;unfold nmG at this;rw[this]at h;simp at h
 have E:¬64<w.j.dk.fs.length+1:=(by have:=i c;unfold nmG at this;simp[this]at h;omega);have X:begW w=some ⟨{w.j with sg:=w.j.sg++[⟨n,w.j.st.q,w.j.st.q,w.j.st.t,w.j.st.t,(hedB w.j n).length,false⟩],cx:=⟨w.j.st.q,w.j.st.t,[]⟩},w.td++[.cre (nmG n),.wri (nmG n) (bys (hedB w.j n))],w.sz+(hedB w.j n).length⟩:=(by unfold begW;rw[o,if_neg (λq=>q.elim (λq=>q c) E)]);rw[X]at d;obtain⟨C,Z⟩:=Ztr (j:=w.j) c p;have k:=shead_fn n w.j.st.q w.j.st.t [] (by simp);have Y:headE n w.j.st.q w.j.st.t []=(hedB w.j n,0):=(by unfold headE;rw[if_neg (by have:=c.1;have:=c.2;omega),if_neg (by simp[p])];rfl);rw[Y]at k;refine Cl.of k ⟨_,_,rfl,Zaa (λh=>by simp at h) (λ_=>Cl.of (Zw5 _) ⟨_,_,rfl,?_,?_,?_⟩)⟩
 ·simp;omega
 ·simp;omega
 have e1:=tR_app w.td (.cre (nmG n));have e2:=sgW_snoc w.j.sg ⟨n,w.j.st.q,w.j.st.q,w.j.st.t,w.j.st.t,0,false⟩;unfold Stp.row nmG at e1;unfold SgD.row at e2
 dsimp only at e1 e2⊢
 rw[e1,e2];have F:=Zso ⟨{w.j with sg:=w.j.sg++[⟨n,w.j.st.q,w.j.st.q,w.j.st.t,w.j.st.t,0,false⟩]},w.td++[.cre (Sgr.segNm n)],w.sz⟩ w.j.sg _ rfl (hedB w.j n) C (by omega) (by simp;omega) (by omega) (by simp) (by dsimp only;omega);refine Cl.of F ⟨_,_,_,_,_,_,_,_,_,_,_,_,_,_,_,_,_,_,rfl,?_⟩;simp only[WrD.sv,putW,List.append_assoc,List.cons_append,List.nil_append,List.map_nil,Int.zero_add]at d⊢;exact d
def wbegin_fn(w:WrD)(k:∀l p,w.j.sg=l++[p]→0≤p.num∧p.num≤99999999)(d:ctxOK w.j.st.q w.j.st.t)(a:w.j.sg.length≤100000)(f:w.j.dk.fs.length≤100000)(g:w.td.length≤100000)(i:0≤w.sz∧w.sz≤100000000):
  Ct prog 75 sgW [w.sv] (λr=>r=match begW w with|none=>[B false,w.sv]|some v=>[B true,v.sv]):=by
 refine wbegin_nf ?_
 rcases Y1 w.j.sg with e|⟨l,p,e⟩
 ·have c:nxtN w=1:=(by unfold nxtN;rw[e];rfl);have h:=wbeg_go w 1 c d a f g i (Q:=λr=>r=match begW w with|none=>[B false,w.sv]|some v=>[B true,v.sv]) rfl;refine Zaa (λh=>by rw[e]at h;simp at h) (λ_=>h)
 ·rw[List.concat_eq_append]at e;have c:nxtN w=p.num+1:=by unfold nxtN;rw[e,Zae]
  have n:=k l p e;have h:=wbeg_go w (p.num+1) c d a f g i (Q:=λr=>r=match begW w with|none=>[B false,w.sv]|some v=>[B true,v.sv]) rfl;have m:l.length≤100000:=(by rw[e]at a;simp at a;omega);rw[←Zac (by omega) (by omega)]at h;refine Zaa (λ_=>?_) (λh=>by rw[e]at h;simp at h<;>omega);have b:inR (wsub IntKind.i64 (rlen (sgR w.j.sg)) 1) (sgR w.j.sg):=(by rw[e,Zfo p (by omega)];exact sg_in l p);exact⟨b,b,_,_,_,_,_,_,_,by rw[e,Zfo p (by omega)];exact Zeb l p,h⟩
def Zsp{j:JoD}{e:Cod.EvD}(h:encE j.cx.s j.cx.a j.cx.m e=0):Byts (recL' j e)∧(recL' j e).length≤127:=by
 have:=Zh3 (Zc1.1 h);exact⟨Zi4 (by omega) (by omega) Zip,by unfold recL';rw[Zd2];omega⟩
def wrec_fn(w:WrD)(e:Cod.EvD)(l:List SgD)(p:SgD)(D:w.j.sg=l++[p])(hl:l.length≤100000)(ht:w.td.length≤100000)(hp:0≤p.sz∧p.sz≤100000000)(hs:0≤w.sz∧w.sz≤100000000):
  Ct prog 76 sgW [w.sv,e.sv] (λr=>r=match recW w e with|none=>[B false,w.sv]|some v=>[B true,v.sv]):=by
 have u:=Zuc w.j.cx.s w.j.cx.a w.j.cx.m e;unfold addR at u
 have C:∀Q:List SV→Prop,Q (match recW w e with|none=>[B false,w.sv]|some v=>[B true,v.sv])→Cl prog 138 sP ([cx3 w.j.cx.s w.j.cx.a (nR w.j.cx.m),ev7 e.s e.a e.k e.c e.x e.y e.z]) (λ(U:List SV)=>ej6 U λl x V W X=>(ifB (ine X 0) (Q ([B false,wr18 (fR w.j.dk.fs) w.j.dk.rm w.j.dk.st w.j.dk.dn w.j.cb w.j.cg (sgR w.j.sg) w.j.cx.s w.j.cx.a (nR w.j.cx.m) (coR w.j.st.cs) w.j.st.q w.j.st.t w.j.sure w.j.kept w.j.shut (tR w.td) w.sz])) (Cl prog 140 sgP ([wr18 (fR w.j.dk.fs) w.j.dk.rm w.j.dk.st w.j.dk.dn w.j.cb w.j.cg (sgR w.j.sg) w.j.cx.s w.j.cx.a (nR w.j.cx.m) (coR w.j.st.cs) w.j.st.q w.j.st.t w.j.sure w.j.kept w.j.shut (tR w.td) w.sz,SL 1 l]) (λ(F:List SV)=>ej8 F λY Z x4 b x5 x6 d x7 x8 l4 l5 x9 G H J b1 l6 K=>((inR (wsub IntKind.i64 (rlen d) 1) d)∧((inR (wsub IntKind.i64 (rlen d) 1) d)∧(ej5 (rget d (wsub IntKind.i64 (rlen d) 1)) λf g a0 i n o E=>((inR (wsub IntKind.i64 (rlen d) 1) (rset d (wsub IntKind.i64 (rlen d) 1) [I f,I g,I e.s,I i,I n,I o,B E]))∧(ej5 (rget (rset d (wsub IntKind.i64 (rlen d) 1) [I f,I g,I e.s,I i,I n,I o,B E]) (wsub IntKind.i64 (rlen d) 1)) λL M N O a1 P b3=>(Q ([B true,wr18 Y Z x4 b x5 x6 (rset (rset d (wsub IntKind.i64 (rlen d) 1) [I f,I g,I e.s,I i,I n,I o,B E]) (wsub IntKind.i64 (rlen d) 1) [I L,I M,I N,I O,I e.a,I P,B b3]) x V W l5 x9 G H J b1 l6 K]))))))))))):=by
  intro Q A;by_cases hE:encE w.j.cx.s w.j.cx.a w.j.cx.m e=0
  rotate_left
  ·rw[if_neg hE]at u;have:recW w e=none:=by unfold recW;rw[D,Zae];simp[hE]
   rw[this]at A;exact Cl.of u ⟨_,_,_,_,_,rfl,Zaa (λ_=>A) (λh=>by simp at h;exact absurd h hE)⟩
  rw[if_pos hE]at u;obtain⟨R,a2⟩:=Zsp hE;have hr:recW w e=some ⟨{w.j with sg:=l++[{p with sz:=p.sz+(recL' w.j e).length,la:=e.s,ti:=e.a}],cx:=⟨e.s,e.a,bhdN w.j.cx.m e.c⟩},w.td++[.wri (nmG p.num) (bys (recL' w.j e))],w.sz+(recL' w.j e).length⟩:=(by unfold recW;rw[D,Zae];simp[hE]);rw[hr]at A;refine Cl.of u ⟨_,_,_,_,_,rfl,Zaa (λh=>by simp at h) (λ_=>Cl.of (Zso w l p D (recL' w.j e) R (by omega) (by omega) (by omega) (by omega) (by omega)) ⟨_,_,_,_,_,_,_,_,_,_,_,_,_,_,_,_,_,_,rfl,?_⟩)⟩;have T:(putW w l p (recL' w.j e)).j.sg=l++[{p with sz:=p.sz+(recL' w.j e).length}]:=rfl
  dsimp only
  rw[T,Zfo _ (by omega)];refine⟨sg_in l _,sg_in l _,_,_,_,_,_,_,_,Zeb l _,?_⟩;have e1:=Zu6 l {p with sz:=p.sz+(recL' w.j e).length} {p with sz:=p.sz+(recL' w.j e).length,la:=e.s};unfold SgD.row at e1
  dsimp only at e1⊢
  rw[e1];refine⟨sg_in l _,_,_,_,_,_,_,_,Zeb l _,?_⟩;have e2:=Zu6 l {p with sz:=p.sz+(recL' w.j e).length,la:=e.s} {p with sz:=p.sz+(recL' w.j e).length,la:=e.s,ti:=e.a};unfold SgD.row at e2
  dsimp only at e2⊢
  rw[e2];exact A
 exact wrec_nf ⟨C (λr=>r=match recW w e with|none=>[B false,w.sv]|some v=>[B true,v.sv]) rfl,C (λr=>r=match recW w e with|none=>[B false,w.sv]|some v=>[B true,v.sv]) rfl⟩
def jover_fn(j:JoD)(e:Cod.EvD)(d:j.sg.length≤100000)(k:∀p∈j.sg,0≤p.sz∧p.sz≤1000000000∧0≤p.fr∧p.fr≤1099511627776)(u:0≤e.a∧e.a≤9223372036854775807):Ct prog 71 {} [j.sv,e.sv] (λr=>r=[B (ovrB j e)]):=by
 refine jover_nf ?_
 rcases Y1 j.sg with h|⟨l,p,h⟩
 ·have:ovrB j e=false:=(by unfold ovrB;rw[h];rfl);refine Zaa (λ_=>by rw[this]) (λg=>by rw[h]at g;simp at g)
 rw[List.concat_eq_append]at h;have t:l.length≤100000:=by rw[h]at d;simp at d;omega
 have v:=k p (by rw[h];simp);have f:inR (wsub IntKind.i64 (rlen (sgR j.sg)) 1) (sgR j.sg):=(by rw[h,Zfo p (by omega)];exact sg_in l p);have b:ovrB j e=if p.sl=true∨p.la≤p.fi then false else if encE j.cx.s j.cx.a j.cx.m e≠0∨j.cb<p.sz+(recL' j e).length then true else decide (j.cg<e.a-p.fr):=(by unfold ovrB;rw[h,Zae]);have c:=Zuc j.cx.s j.cx.a j.cx.m e
 unfold addR at c;refine Zaa (λg=>by rw[h]at g;simp at g<;>omega) (λ_=>⟨f,_,_,_,_,_,_,_,by rw[h,Zfo p (by omega)];exact Zeb l p,Zaa (λg=>?_) (λg=>?_)⟩)
 ·have g:p.sl=true∨p.la≤p.fi:=by cases hs:p.sl<;>simp[hs]at g⊢;exact g
  rw[b,if_pos g]
 have g:¬(p.sl=true∨p.la≤p.fi):=by cases hs:p.sl<;>simp[hs]at g⊢;exact g
 rw[if_neg g]at b;by_cases hE:encE j.cx.s j.cx.a j.cx.m e=0
 rotate_left
 ·rw[if_neg hE]at c;rw[if_pos (.inl hE)]at b;exact Cl.of c ⟨_,_,_,_,_,rfl,Zaa (λ_=>by rw[b]) (λq=>by simp[hE]at q)⟩
 rw[if_pos hE]at c;obtain⟨n,o⟩:=Zsp hE;have i:rlen (bR (fr 2 (encL j.cx.s j.cx.a j.cx.m e)))=(recL' j e).length:=(by simp[recL']);refine Cl.of c ⟨_,_,_,_,_,rfl,?_⟩
 dsimp only
 rw[i,Zac (by omega) (by omega),Zar (by omega) (by omega)];refine Zaa (λq=>?_) (λq=>?_)
 ·have q:j.cb<p.sz+(recL' j e).length:=(by simpa using q);rw[b,if_pos (.inr q)]
 ·have q:¬j.cb<p.sz+(recL' j e).length:=(by simpa using q);rw[b,if_neg (λz=>z.elim (λz=>z hE) q)];rfl
structure WB(w:WrD)(j:JoD)(n:Nat):Prop where
 dk:w.j.dk=j.dk
 st:w.j.st=j.st
 len:w.j.sg.length≤n
 td:w.td.length≤n
 sz:0≤w.sz∧w.sz≤n
 ps:∀p∈w.j.sg,(0≤p.sz∧p.sz≤65536+n)∧(1≤p.num∧p.num≤99999999)
 ok:∀s∈w.td,s.ok
def wri_ok{s:BA}{b:List Int}(h:b.length≤1000):(Stp.wri s (bys b)).ok:=by
 show(bys b).length≤_;unfold bys;rw[List.length_map];omega
def selB_len{j:JoD}(h:Fct j){p:SgD}(b:p∈j.sg):(selB j p).length≤40:=by
 have c:=(Zbg.1 h.cx).1;have d:=h.ps p b;have:=slP_le (n:=p.la-p.fi) (s:=j.cx.s) (a:=j.cx.a) (by omega) (by omega) (by omega);unfold selB;rw[Zd2];omega
def w0_B{j:JoD}(h:Fct j):WB (w0 j) j 64:=
 ⟨rfl,rfl,h.len,by simp[w0],by simp[w0],λp a=>by have:=h.ps p a;exact⟨by omega,this.2.1⟩,λs b=>by simp[w0]at b⟩
def seal_B{j:JoD}(h:Fct j){l:List SgD}{p:SgD}(a:j.sg=l++[p]):WB (sealW (w0 j) l p) j 110:=by
 have d:=selB_len h (p:=p) (by rw[a];simp);have c:=h.len;rw[a]at c;simp at c;have e:=h.ps p (by rw[a];simp);refine⟨rfl,rfl,by simp[sealW];omega,by simp[sealW,w0],?_,?_,?_⟩
 ·have:(sealW (w0 j) l p).sz=0+((selB j p).length:Int):=rfl;omega
 ·intro q b;have b:q∈l++[{p with sz:=p.sz+(selB j p).length,sl:=true}]:=b
  rcases List.mem_append.1 b with b|b
  ·have:=h.ps q (by rw[a];simp[b]);exact⟨by omega,this.2.1⟩
  ·have:q={p with sz:=p.sz+(selB j p).length,sl:=true}:=(by simpa using b);subst this
   dsimp only;omega
 ·intro s a;have a:s∈([]:List Stp)++[.wri (nmG p.num) (bys (selB j p)),.syn (nmG p.num)]:=a;simp at a
  rcases a with rfl|rfl
  ·exact wri_ok (by omega)
  ·trivial
def w1_B{j:JoD}(h:Fct j)(e:Cod.EvD):WB (w1 j e) j 110:=by
 have a:WB (w0 j) j 110:=(by have:=w0_B h;exact⟨this.dk,this.st,by have:=this.len;omega,by have:=this.td;omega,by have:=this.sz;omega,λp b=>by have:=this.ps p b;omega,this.ok⟩);unfold w1
 rcases Y1 j.sg with hs|⟨l,p,hs⟩
 ·rw[hs];exact a
 ·rw[List.concat_eq_append]at hs;rw[hs,Zae]
  dsimp only
  split
  ·exact seal_B h hs
  ·exact a
def w2_B{j:JoD}(h:Fct j)(e:Cod.EvD){w:WrD}(c:w2 j e=some w):WB w j 170∧∃l p,w.j.sg=l++[p]:=by
 have a:=w1_B h e;unfold w2 at c
 split at c
 next g=>
  cases c
  refine⟨⟨a.dk,a.st,by have:=a.len;omega,by have:=a.td;omega,by have:=a.sz;omega,λp i=>by have:=a.ps p i;omega,a.ok⟩,?_⟩
  rcases Y1 (w1 j e).j.sg with b|⟨l,p,b⟩
  ·unfold opnW at g;rw[b]at g;cases g
  ·exact⟨l,p,by rw[b,List.concat_eq_append]⟩
 ·unfold begW at c
  split at c
  ·cases c
  rename_i k
  cases c
  have f:inN (nxtN (w1 j e)):=Classical.byContradiction λq=>k (.inl q);have n:=(Ztr (j:=(w1 j e).j) f (by rw[a.st];exact Zu3 h.st)).2;have m:=a.sz;refine⟨⟨a.dk,a.st,by have:=a.len;simp;omega,by have:=a.td;simp;omega,by dsimp only;omega,?_,?_⟩,_,_,rfl⟩
  ·intro q d
   rcases List.mem_append.1 d with d|d
   ·have:=a.ps q d;omega
   ·have:q=_:=List.mem_singleton.1 d;subst this;exact⟨by dsimp only;omega,f⟩
  ·intro s b
   rcases List.mem_append.1 b with b|b
   ·exact a.ok s b
   ·simp at b
    rcases b with rfl|rfl
    ·trivial
    ·exact wri_ok (by omega)
def rec_B{w v:WrD}{j:JoD}(h:WB w j 170){e:Cod.EvD}(b:recW w e=some v):WB v j 300:=by
 rcases Y1 w.j.sg with a|⟨l,p,a⟩
 ·unfold recW at b;rw[a]at b;cases b
 rw[List.concat_eq_append]at a;unfold recW at b;rw[a,Zae]at b
 dsimp only at b
 split at b
 ·cases b
 rename_i f
 cases b
 have i:=(Zsp (j:=w.j) (e:=e) (by simpa using f)).2;have d:=h.len;rw[a]at d;simp at d;have k:=h.ps p (by rw[a];simp);have g:=h.sz;refine⟨h.dk,h.st,by simp;omega,by have:=h.td;simp;omega,by dsimp only;omega,?_,?_⟩
 ·intro q c
  rcases List.mem_append.1 c with c|c
  ·have:=h.ps q (by rw[a];simp[c]);omega
  ·have:q=_:=List.mem_singleton.1 c;subst this
   dsimp only;omega
 ·intro s a
  rcases List.mem_append.1 a with a|a
  ·exact h.ok s a
  ·simp at a;subst a;exact wri_ok (by omega)
def Zvy(l:List SgD)(h:l.length≤1000000):Ct prog 70 ⟨[],[.own]⟩ [SL 7 (sgR l)] (λr=>r=[SL 7 (sgR l)]):=by
 refine segcl_nf (λb a=>Zaa (λe=>?_) (λe=>⟨?_,?_⟩))
 ·have:=a e;have:l=[]:=(by simpa using this);rw[this];rfl
 ·simp;omega
 ·simp[rapp]
def Zo3(j:JoD):Ct prog 73 {} [j.sv] (λr=>r=[(shtJ j).1.sv,I 13]):=jshut_nf rfl
def Zls(j:JoD)(T:j.ok)(e:Cod.EvD)(he: -9223372036854775808≤e.a∧e.a≤9223372036854775807):Ct prog 20 {} [j.sv,e.sv] (λr=>r=[(appP j e).1.sv,I (appP j e).2]):=by
 refine Zya (Cl.of (Zrv j T) ⟨_,rfl,Zaa (λg=>?_) (λg=>?_)⟩)
 ·have g:mayJ j≠0:=(by simpa using g);unfold appP;rw[if_pos g];rfl
 have g:mayJ j=0:=(by simpa using g);have hR:=Zcg.1 g;have f:=hR.fct;have hst:=f.st.1;have eP:appP j e=appQ j e:=(by unfold appP;rw[if_neg (by simp[g])]);rw[eP];have hw:wadd IntKind.i64 j.st.q 1=j.st.q+1:=Zac (by omega) (by omega);rw[hw];refine Cl.of (Zk9 j.st (by omega) (toE (evN j e))) ⟨_,_,_,_,rfl,Zaa (λg=>?_) (λg=>Zaa (λz=>?_) (λz=>?_))⟩
 ·have g:(appS j.st (toE (evN j e))).2≠0:=(by simpa using g);unfold appQ;rw[if_pos g];rfl
 ·have g:¬(appS j.st (toE (evN j e))).2≠0:=(by simpa using g);unfold appQ;rw[if_neg g,if_pos z];rfl
 have g:(appS j.st (toE (evN j e))).2=0:=by simpa using g
 have eQ:appQ j e=match w3 j (evN j e)with|none=>shtJ j|some w=>endJ j (appS j.st (toE (evN j e))).1 w:=by unfold appQ;rw[if_neg (by simp[g]),if_neg (by simp[z])];rfl
 have a0:0≤e.a:=(by have:=(appS_may g).tm;have h2:j.st.t≤(toE (evN j e)).a:=this;have:(toE (evN j e)).a=e.a:=rfl;omega);have R:w3 j (evN j e)=none→Cl prog 73 sP [j.sv] (λrs=>ej19 rs λG i k b3 m n H o s J u x y A C K D=>[jr16 G i k b3 m n H o s J u x y A C K,I D]=[(appQ j e).1.sv,I (appQ j e).2]):=λq=>by rw[eQ,q];exact Cl.of (Zo3 j) ⟨_,_,_,_,_,_,_,_,_,_,_,_,_,_,_,_,_,rfl,rfl⟩
 have h:=w1_B f (evN j e);refine Cl.of (Zvy j.sg T.sg) ⟨_,rfl,?_⟩;refine⟨λb Z x4 x5 b1 x6 x7 l3 x8 x9 l4 l5 L M N O b2 l6 P=>b=false∧wr18 Z x4 x5 b1 x6 x7 l3 x8 x9 l4 l5 L M N O b2 l6 P=(w1 j (evN j e)).sv,λ_ _ _ _ _ _ _ _ _ _ _ _ _ _ _ _ _ _ _=>0,?_,?_⟩
 ·refine Cl.of (jover_fn j (evN j e) (by have:=f.len;omega) (λp U=>by have:=f.ps p U;omega) ⟨a0,he.2⟩) ⟨_,rfl,Zaa (λq=>?_) (λq=>⟨rfl,rfl,?_⟩)⟩
  ·rcases Y1 j.sg with c|⟨l,p,c⟩
   ·unfold ovrB at q;rw[c]at q;cases q
   rw[List.concat_eq_append]at c;have U:=f.ps p (by rw[c];simp);have F:=f.len;rw[c]at F;simp at F;have:w1 j (evN j e)=sealW (w0 j) l p:=by unfold w1;rw[c,Zae];simp[q]
   rw[this];exact Cl.of (Zu7 (w0 j) l p c f.cx (by omega) (by omega) (by omega) (by omega) (by simp[w0]) (by omega) (by simp[w0])) ⟨_,_,_,_,_,_,_,_,_,_,_,_,_,_,_,_,_,_,_,rfl,rfl,rfl,rfl⟩
  ·have:w1 j (evN j e)=w0 j:=by
    unfold w1
    rcases Y1 j.sg with c|⟨l,p,c⟩
    ·rw[c];rfl
    ·rw[c,List.concat_eq_append,Zae];simp[q]
   rw[this];rfl
 rintro b Z x4 x5 b1 x6 x7 l3 x8 x9 l4 l5 L M N O b2 l6 P ⟨rfl,hv⟩;rw[hv];refine Zaa (λq=>by cases q) (λ_=>?_);refine⟨λb3 G i k K m n H o s J u x y A C b5 Q D=>match w2 j (evN j e)with|none=>b3=true|some v=>b3=false∧wr18 G i k K m n H o s J u x y A C b5 Q D=v.sv,λ_ _ _ _ _ _ _ _ _ _ _ _ _ _ _ _ _ _ _=>0,?_,?_⟩
 ·refine Cl.of (wopen_fn (w1 j (evN j e)) (by have:=h.len;omega)) ⟨_,_,_,_,_,_,_,_,_,_,_,_,_,_,_,_,_,_,_,rfl,Zaa (λq=>?_) (λq=>⟨rfl,?_⟩)⟩
  ·have q:opnW (w1 j (evN j e))=false:=(by simpa using q);have e2:w2 j (evN j e)=begW (w1 j (evN j e)):=(by unfold w2;rw[if_neg (by simp[q])]);have hb:=wbegin_fn (w1 j (evN j e)) (λl p c=>by have:=h.ps p (by rw[c];simp);omega) (by rw[h.st];exact Zu3 f.st) (by have:=h.len;omega) (by rw[h.dk];have:=f.fs;omega) (by have:=h.td;omega) (by have:=h.sz;omega);refine Cl.ofQ hb ?_;rintro r rfl;rw[e2]
   cases begW (w1 j (evN j e))with
   |none=>exact⟨_,_,_,_,_,_,_,_,_,_,_,_,_,_,_,_,_,_,_,rfl,rfl,rfl⟩
   |some v=>exact⟨_,_,_,_,_,_,_,_,_,_,_,_,_,_,_,_,_,_,_,rfl,rfl,rfl,rfl⟩
  ·have q:opnW (w1 j (evN j e))=true:=(by simpa using q);have e2:w2 j (evN j e)=some (w1 j (evN j e)):=(by unfold w2;rw[if_pos q]);rw[e2];exact⟨rfl,rfl⟩
 rintro b3 G i k K m n H o s J u x y A C b5 Q D d
 cases hw2:w2 j (evN j e)with
 |none=>rw[hw2]at d;have d:b3=true:=d;subst d;exact Zaa (λ_=>R (by unfold w3;rw[hw2])) (λq=>by cases q)
 |some w=>
  rw[hw2]at d;obtain⟨rfl,d⟩:=d;rw[d];obtain⟨E,l,p,c⟩:=w2_B f _ hw2;have e3:w3 j (evN j e)=recW w (evN j e):=by unfold w3;rw[hw2]
  have F:=E.len;rw[c]at F;simp at F;have U:=E.ps p (by rw[c];simp);refine Zaa (λq=>by cases q) (λ_=>?_);have V:=wrec_fn w (evN j e) l p c (by omega) (by have:=E.td;omega) (by omega) (by have:=E.sz;omega);refine Cl.ofQ V ?_;rintro r rfl
  cases hr:recW w (evN j e)with
  |none=>refine⟨_,_,_,_,_,_,_,_,_,_,_,_,_,_,_,_,_,_,_,rfl,Zaa (λ_=>R (by rw[e3,hr])) (λq=>by simp at q)⟩
  |some v=>
   have W:=rec_B E hr;have X:=T.dk;have hu:=X.1;have Y:appQ j e=endJ j (appS j.st (toE (evN j e))).1 v:=(by rw[eQ,e3,hr]);have a1:=W.sz;refine⟨_,_,_,_,_,_,_,_,_,_,_,_,_,_,_,_,_,_,_,rfl,Zaa (λq=>by simp at q) (λ_=>Cl.of (Zkh j.dk X) ⟨_,rfl,?_⟩)⟩
   dsimp only
   rw[Zac (by omega) (by omega)];refine Zaa (λq=>?_) (λq=>?_)
   ·have q:j.dk.rm<usedL j.dk.fs+v.sz:=(by simpa using q);have:endJ j (appS j.st (toE (evN j e))).1 v=shtJ j:=(by unfold endJ;rw[if_pos q]);rw[Y,this];exact Cl.of (Zo3 j) ⟨_,_,_,_,_,_,_,_,_,_,_,_,_,_,_,_,_,rfl,rfl⟩
   ·have q:¬j.dk.rm<usedL j.dk.fs+v.sz:=(by simpa using q);refine Cl.of (Zoe j.dk X v.td W.ok (by have:=W.td;omega)) ⟨_,_,_,_,_,rfl,Zaa (λz=>?_) (λz=>?_)⟩
    ·have z:(runP j.dk v.td).2≠0:=(by simpa using z);have:endJ j (appS j.st (toE (evN j e))).1 v=({j with dk:=(runP j.dk v.td).1},(runP j.dk v.td).2):=(by unfold endJ;rw[if_neg q,if_pos z]);rw[Y,this];rfl
    ·have z:¬(runP j.dk v.td).2≠0:=(by simpa using z);have:endJ j (appS j.st (toE (evN j e))).1 v=({v.j with dk:=(runP j.dk v.td).1,st:=(appS j.st (toE (evN j e))).1},0):=(by unfold endJ;rw[if_neg q,if_neg z]);rw[Y,this];rfl
def jsyn_fn(j:JoD)(k:j.ok):Ct prog 22 {} [j.sv] (λr=>r=[(synJ j).1.sv,I (synJ j).2]):=by
 refine jsyn_nf (Cl.of (Zrv j k) ⟨_,rfl,Zaa (λg=>?_) (λg=>?_)⟩)
 ·have g:mayJ j≠0:=(by simpa using g);unfold synJ;rw[if_pos g];rfl
 have g:mayJ j=0:=(by simpa using g);have n:=(Zcg.1 g).fct;have o:synJ j=synQ j:=(by unfold synJ;rw[if_neg (by simp[g])]);rw[o]
 rcases Y1 j.sg with e|⟨l,p,e⟩
 ·have:synQ j=({j with sure:=j.st.q},0):=(by unfold synQ;rw[e];rfl);rw[this];exact Zaa (λq=>by rw[e]at q;simp at q) (λ_=>rfl)
 rw[List.concat_eq_append]at e;have m:=n.len;rw[e]at m;simp at m;have f:synQ j=if p.sl=true then({j with sure:=j.st.q},0)else if(Zaz j.dk (nmG p.num)).2≠0 then({j with dk:=(Zaz j.dk (nmG p.num)).1},(Zaz j.dk (nmG p.num)).2)else({j with dk:=(Zaz j.dk (nmG p.num)).1,sure:=j.st.q},0):=by unfold synQ;rw[e,Zae]
 have h:inR (wsub IntKind.i64 (rlen (sgR j.sg)) 1) (sgR j.sg):=(by rw[e,Zfo p (by omega)];exact sg_in l p);have i:rget (sgR j.sg) (wsub IntKind.i64 (rlen (sgR j.sg)) 1)=p.row:=(by rw[e,Zfo p (by omega)];exact Zeb l p);refine Zaa (λ_=>⟨h,_,_,_,_,_,_,_,i,Zaa (λq=>?_) (λq=>?_)⟩) (λq=>by rw[e]at q;simp at q<;>omega)
 ·have q:p.sl=false:=(by simpa using q);rw[if_neg (by simp[q])]at f;have d:=Zoe j.dk k.dk [.syn (nmG p.num)] (λs e=>by simp at e;subst e;trivial) (by simp);rw[run1]at d;refine⟨λx l a b c=>x=(Zaz j.dk (nmG p.num)).2∧dk4 l a b c=(Zaz j.dk (nmG p.num)).1.sv,λ_ _ _ _ _=>0,⟨h,_,_,_,_,_,_,_,i,?_⟩,?_⟩
  ·exact⟨Cl.of (Zda _) ⟨_,rfl,⟨Cl.of (Zhq _) ⟨_,_,rfl,⟨⟨Cl.of d ⟨_,_,_,_,_,rfl,rfl,rfl,rfl⟩,Cl.of d ⟨_,_,_,_,_,rfl,rfl,rfl,rfl⟩⟩,Cl.of d ⟨_,_,_,_,_,rfl,rfl,rfl,rfl⟩⟩⟩,Cl.of (Zhq _) ⟨_,_,rfl,Cl.of d ⟨_,_,_,_,_,rfl,rfl,rfl,rfl⟩⟩⟩⟩,Cl.of (Zda _) ⟨_,rfl,Cl.of (Zhq _) ⟨_,_,rfl,Cl.of d ⟨_,_,_,_,_,rfl,rfl,rfl,rfl⟩⟩⟩⟩
  ·rintro x l a b c ⟨rfl,hd⟩;simp only[SV.agg.injEq,List.cons.injEq,SV.val.injEq,Value.int.injEq,Value.bool.injEq,SV.slice.injEq,true_and,and_true]at hd;obtain⟨rfl,rfl,rfl,rfl⟩:=hd;refine Zaa (λz=>?_) (λz=>?_)
   ·have z:(Zaz j.dk (nmG p.num)).2≠0:=(by simpa using z);rw[f,if_pos z];rfl
   ·have z:¬(Zaz j.dk (nmG p.num)).2≠0:=(by simpa using z);rw[f,if_neg z];rfl
 ·have q:p.sl=true:=(by simpa using q);rw[f,if_pos q];rfl
def jrot_fn(j:JoD)(e:j.ok):Ct prog 24 {} [j.sv] (λr=>r=[(rotJ j).1.sv,I (rotJ j).2]):=by
 refine jrot_nf (Cl.of (Zrv j e) ⟨_,rfl,Zaa (λg=>?_) (λg=>?_)⟩)
 ·have g:mayJ j≠0:=(by simpa using g);unfold rotJ;rw[if_pos g];rfl
 have g:mayJ j=0:=(by simpa using g);have d:=(Zcg.1 g).fct;have m:rotJ j=rotQ j:=(by unfold rotJ;rw[if_neg (by simp[g])]);rw[m]
 rcases Y1 j.sg with hs|⟨l,p,hs⟩
 ·have:rotQ j=(j,14):=(by unfold rotQ;rw[hs];rfl);rw[this];exact Zaa (λ_=>rfl) (λq=>by rw[hs]at q;simp at q)
 rw[List.concat_eq_append]at hs;have i:=d.len;rw[hs]at i;simp at i;have s:=d.ps p (by rw[hs];simp);have a:rotQ j=if p.sl=true∨p.la≤p.fi then(j,14)else endJ j j.st (sealW (w0 j) l p):=by unfold rotQ;rw[hs,Zae]
 have b:inR (wsub IntKind.i64 (rlen (sgR j.sg)) 1) (sgR j.sg):=(by rw[hs,Zfo p (by omega)];exact sg_in l p);have c:rget (sgR j.sg) (wsub IntKind.i64 (rlen (sgR j.sg)) 1)=p.row:=(by rw[hs,Zfo p (by omega)];exact Zeb l p);refine Zaa (λq=>by rw[hs]at q;simp at q<;>omega) (λ_=>⟨b,_,_,_,_,_,_,_,c,Zaa (λq=>?_) (λq=>⟨b,_,_,_,_,_,_,_,c,b,_,_,_,_,_,_,_,c,Zaa (λz=>?_) (λz=>?_)⟩)⟩)
 ·rw[a,if_pos (.inl q)];rfl
 ·rw[a,if_pos (.inr (by simpa using z))];rfl
 have hno:¬(p.sl=true∨p.la≤p.fi):=(by simp at z;simp[q];omega);rw[if_neg hno]at a;have f:=seal_B d hs;have h:=e.dk;have t:=h.1;have o:=f.sz;refine Cl.of (Zvy j.sg e.sg) ⟨_,rfl,Cl.of (Zu7 (w0 j) l p hs d.cx (by omega) (by omega) (by omega) (by omega) (by simp[w0]) (by omega) (by simp[w0])) ⟨_,_,_,_,_,_,_,_,_,_,_,_,_,_,_,_,_,_,_,rfl,Zaa (λk=>by simp at k) (λ_=>Cl.of (Zkh j.dk h) ⟨_,rfl,?_⟩)⟩⟩
 dsimp only
 rw[Zac (by omega) (by omega)];refine Zaa (λk=>?_) (λk=>?_)
 ·have k:j.dk.rm<usedL j.dk.fs+(sealW (w0 j) l p).sz:=(by simpa using k);have:endJ j j.st (sealW (w0 j) l p)=shtJ j:=(by unfold endJ;rw[if_pos k]);rw[a,this];exact Cl.of (Zo3 j) ⟨_,_,_,_,_,_,_,_,_,_,_,_,_,_,_,_,_,rfl,rfl⟩
 ·have k:¬j.dk.rm<usedL j.dk.fs+(sealW (w0 j) l p).sz:=(by simpa using k);refine Cl.of (Zoe j.dk h (sealW (w0 j) l p).td f.ok (by have:=f.td;omega)) ⟨_,_,_,_,_,rfl,Zaa (λn=>?_) (λn=>?_)⟩
  ·have n:(runP j.dk (sealW (w0 j) l p).td).2≠0:=(by simpa using n);have:endJ j j.st (sealW (w0 j) l p)=({j with dk:=(runP j.dk (sealW (w0 j) l p).td).1},(runP j.dk (sealW (w0 j) l p).td).2):=(by unfold endJ;rw[if_neg k,if_pos n]);rw[a,this];rfl
  ·have n:¬(runP j.dk (sealW (w0 j) l p).td).2≠0:=(by simpa using n);have:endJ j j.st (sealW (w0 j) l p)=({(sealW (w0 j) l p).j with dk:=(runP j.dk (sealW (w0 j) l p).td).1,st:=j.st},0):=(by unfold endJ;rw[if_neg k,if_neg n]);rw[a,this];rfl

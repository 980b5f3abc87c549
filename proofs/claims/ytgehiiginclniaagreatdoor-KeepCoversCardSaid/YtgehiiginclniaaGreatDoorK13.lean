import Derived.Test.YtgehiiginclniaaGreatDoorK12
import Derived.WalkKit
import Derived.TacticsInMore
import Derived.LoopNIn
import Derived.LoopIn
import Derived.Shelf.Abstract
import Derived.Test.YtgehiiginclniaaGreatDoorProg
set_option linter.all false
set_option maxRecDepth 100000
variable{i j:Int}{m n:Nat}{s:BA}{Y y:List Go.Px.FiD}{d:Go.Px.DiD}{F f:Go.Px.FiD}{J:Go.Proofs.YtgehiiginclniaaGreatDoor.Jou.JoD}{g:Go.Proofs.YtgehiiginclniaaGreatDoor.Sx.StD}{D:Go.Proofs.YtgehiiginclniaaGreatDoor.Seg.Sc}
namespace Go.Proofs.YtgehiiginclniaaGreatDoor
namespace Jou
open Go Go.Px Go.Proofs Cod Seg Sgr Snp Sx Row Tryz
def RightJ.dkr(h:RightJ J):DkR J.dk.fs (segs J.dk.fs):=dkR_of h.dk.2.2.2 h.out
theorem RightJ.row(h:RightJ J):(rowK J.dk.fs).1=(segs J.dk.fs).map (ptF scF):=by rw[Zdy h.dkr]
def DkR.bytes(h:DkR y Y)(k:∀p∈Y.map (ptF scF),p.n=(segL p.d).length):∀f∈Y,ScOK (scF f)/\byF f=segL (scF f)/\(scF f).num=numS f.nm/\numS f.nm≠0:=by
 intro f a;have e:numS f.nm≠0:=Za8 f (by rw[h.eq];exact a)
 have g:∀(y:List FiD) (p:Option Sc),inRow scF p y->∀f∈y,(scF f).num=numS f.nm:=by
  intro y
  induction y with
  |nil=>intro p _ f a;cases a
  |cons x y m=>
   intro p c f a
   rcases List.mem_cons.1 a with rfl|a
   .exact c.1
   .exact m _ c.2.2 f a
 have i:=g Y none h.inr f a;have j:(scF f).num≠0:=(by rw[i];exact e);exact⟨(Zid j).1,scF_all j (k (ptF scF f) (Y5.2 ⟨f,a,rfl⟩)),i,e⟩
def Zlt{l b:List FiD}{g f:FiD}{a:Sc}(h:DkR l (b++[g]))(o:g.nm=f.nm)(i:numS f.nm≠0)(c:ScOK a)(j:byF f=segL a)(q:a.num=(scF g).num)(r:a.bs=(scF g).bs)(t:a.ba=(scF g).ba)(u:keptF l<=a.s):
  DkR (withB FiD.nm l f) (b++[f])/\rowK (withB FiD.nm l f)=(b.map (ptF scF)++[⟨a,f.len⟩],[]):=by
 have m:inRow scF none (segs l):=(by rw[h.eq];exact h.inr);obtain⟨w,x,k⟩:=row_last h.srt m h.eq o c j q r t;have d:scF f=a:=Zbu c j
 have n:DkR (withB FiD.nm l f) (b++[f]):=⟨Zbi h.srt,k,by rw[<-k];exact w,λp v=>by
  have e:p=ptF scF f:=(by simpa using v.symm);subst e;rw[Zcm i];show keptF l<=(scF f).s
  rw[d];exact u⟩
 refine⟨n,?_⟩;rw[Zdy n,List.map_append];simp[ptF,d]
def rowK_new{f:FiD}{d':Sc}(h:DkR y Y)(hno:∀g∈y,g.nm≠f.nm)(b:numS f.nm≠0)(i:∀g∈Y,numS g.nm<numS f.nm)(c:ScOK d')(m:byF f=segL d')(q:d'.num=numS f.nm)(j:∀g,Y.getLast?=some g->foll d' (scF g))(r:keptF y<=d'.s):
  DkR (withB FiD.nm y f) (Y++[f])/\rowK (withB FiD.nm y f)=(Y.map (ptF scF)++[⟨d',f.len⟩],[]):=by
 have n:inRow scF none (segs y):=(by rw[h.eq];exact h.inr);obtain⟨u,v,k⟩:=row_new h.srt n hno b (by rw[h.eq];exact i) c m q (by rw[h.eq];exact j);rw[h.eq]at k;have d:scF f=d':=Zbu c m
 have o:DkR (withB FiD.nm y f) (Y++[f]):=⟨Zbi h.srt,k,by rw[<-k];exact u,λp t=>by
  have e:p=ptF scF f:=(by simpa using t.symm);subst e;rw[Zcm b];show keptF y<=(scF f).s
  rw[d];exact r⟩
 refine⟨o,?_⟩;rw[Zdy o,List.map_append];simp[ptF,d]
structure Par(j:JoD)(gs:List FiD):Prop where
 dkr:DkR j.dk.fs gs
 good:GoodR (gs.map (ptF scF)) (keptF j.dk.fs) (baseF j.dk.fs)
 all:∀p∈gs.map (ptF scF),p.n=(segL p.d).length
 st:j.st=stR (gs.map (ptF scF)) (keptF j.dk.fs) (baseF j.dk.fs)
 sg:j.sg=(gs.map (ptF scF)).map sgOf
 cx:j.cx=Zbc (gs.map (ptF scF))
 kept:j.kept=keptF j.dk.fs
def RightJ.par(h:RightJ J):Par J (segs J.dk.fs):=by
 have d:=h.row;have e:=h.good;have f:=h.all;have a:=h.eq;rw[d]at e f;have e1:J.st=(anewJ J.dk J.cb J.cg J.sure J.shut).st:=congrArg JoD.st a;have e2:J.sg=(anewJ J.dk J.cb J.cg J.sure J.shut).sg:=congrArg JoD.sg a;have b:J.cx=(anewJ J.dk J.cb J.cg J.sure J.shut).cx:=congrArg JoD.cx a;have c:J.kept=(anewJ J.dk J.cb J.cg J.sure J.shut).kept:=congrArg JoD.kept a;unfold anewJ at e1 e2 b c;simp only at e1 e2 b c;rw[d]at e1 e2 b;exact⟨h.dkr,e,f,e1,e2,b,c⟩
def Par.q{j:JoD}{gs:List FiD}{g:FiD}(h:Par j (gs++[g])):j.st.q=(scF g).s:=by rw[h.st];exact stR_q h.dkr h.good
def Par.q0{j:JoD}(h:Par j []):j.st.q=j.kept:=by
 rw[h.st,h.kept];show(baseF j.dk.fs).q=_;exact Zq2 _
def Par.kq{gs:List FiD}(h:Par J gs):J.kept<=J.st.q:=by
 rcases Y2 gs with rfl|⟨gs,g,rfl⟩
 .rw[h.q0];exact Int.le_refl _
 .rw[List.concat_eq_append]at h;rw[h.q,h.kept];exact h.dkr.kept (ptF scF g) Vs
def anew_add{j:JoD}{i:List FiD}{g:FiD}(h:Par j (i++[g]))(A:(scF g).sl=false){e:Cod.EvD}(Z:e.s=j.st.q+1)(ok:EncOK (scF g).s (scF g).a (scF g).m e)(N:(appS j.st (toE e)).2=0){x:List UInt8}(O:(x.map λb=>(b.toNat:Int))=recB (scF g) e){d:DiD}(o:d.fs=withB FiD.nm j.dk.fs ⟨g.nm,g.su,g.lo++x⟩)(t u k:Int)(l:Bool):
  anewJ d t u k l=⟨d,t,u,((i.map (ptF scF)).map sgOf)++[sgOf ⟨addS (scF g) e,g.len+x.length⟩],⟨e.s,e.a,bhdN (scF g).m e.c⟩,(appS j.st (toE e)).1,k,j.kept,l⟩/\
   Par (anewJ d t u k l) (i++[⟨g.nm,g.su,g.lo++x⟩]):=by
 have W:=h.dkr.bytes h.all g Vs;obtain⟨P,Q,b3,y⟩:=W;have E:(scF g).num≠0:=(by rw[b3];exact y);obtain⟨G,R⟩:=Zz8 P E A ok;have v:byF ⟨g.nm,g.su,g.lo++x⟩=segL (addS (scF g) e):=(by rw[byF_app,O,R,<-Q]);have hq:=h.q;have a0:=h.kq;have X:keptF j.dk.fs<=(addS (scF g) e).s:=(by show _<=e.s;rw[<-h.kept];omega);obtain⟨T,H⟩:=Zlt (f:=⟨g.nm,g.su,g.lo++x⟩) h.dkr rfl y G v rfl rfl rfl X;have n:(⟨g.nm,g.su,g.lo++x⟩:FiD).len=g.len+x.length:=(by unfold FiD.len;simp;omega);rw[n]at H;have J:=h.good;rw[List.map_append]at J;have hst:=h.st;rw[List.map_append]at hst
 obtain⟨U,V⟩:=goodR_add (p:=ptF scF g) (q:=⟨addS (scF g) e,g.len+x.length⟩) J rfl rfl rfl rfl (by show e.s=(scF g).s+1;omega) (by rw[<-h.kept];omega) (by
  have:stR (i.map (ptF scF)++[ptF scF g]) (keptF j.dk.fs) (baseF j.dk.fs)=j.st:=hst.symm
  rw[this];exact N)
 have C:keptF d.fs=keptF j.dk.fs:=(by rw[o];exact Zcm y);have D:baseF d.fs=baseF j.dk.fs:=(by rw[o];exact Zdz y);have z:rowK d.fs=(i.map (ptF scF)++[⟨addS (scF g) e,g.len+x.length⟩],[]):=(by rw[o];exact H);have F:stR (i.map (ptF scF)++[⟨addS (scF g) e,g.len+x.length⟩]) (keptF j.dk.fs) (baseF j.dk.fs)=(appS j.st (toE e)).1:=(by rw[V];have:stR (i.map (ptF scF)++[ptF scF g]) (keptF j.dk.fs) (baseF j.dk.fs)=j.st:=hst.symm;rw[this]);have K:Zbc (i.map (ptF scF)++[⟨addS (scF g) e,g.len+x.length⟩])=⟨e.s,e.a,bhdN (scF g).m e.c⟩:=(by unfold Zbc;rw[List.getLast?_concat];simp[addS,A]);have L:anewJ d t u k l=⟨d,t,u,((i.map (ptF scF)).map sgOf)++[sgOf ⟨addS (scF g) e,g.len+x.length⟩],⟨e.s,e.a,bhdN (scF g).m e.c⟩,(appS j.st (toE e)).1,k,j.kept,l⟩:=(by unfold anewJ;rw[z,C,D,F,K,List.map_append,h.kept];rfl);refine⟨L,?_⟩;have M:scF ⟨g.nm,g.su,g.lo++x⟩=addS (scF g) e:=Zbu G v;have w:(i++[(⟨g.nm,g.su,g.lo++x⟩:FiD)]).map (ptF scF)=i.map (ptF scF)++[⟨addS (scF g) e,g.len+x.length⟩]:=(by rw[List.map_append];simp only[List.map_cons,List.map_nil,ptF,M,n]);refine⟨?_,?_,?_,?_,?_,?_,?_⟩
 .show DkR d.fs _;rw[o];exact T
 .show GoodR _ (keptF d.fs) (baseF d.fs);rw[w,C,D];exact U
 .intro p r;rw[w]at r
  rcases List.mem_append.1 r with r|r
  .exact h.all p (by rw[List.map_append];exact List.mem_append.2 (.inl r))
  .have Y:p=⟨addS (scF g) e,g.len+x.length⟩:=(by simpa using r);subst Y;show g.len+x.length=_;rw[<-n,<-Zhg,v]
 .show stR (rowK d.fs).1 _ _=stR _ (keptF d.fs) (baseF d.fs);rw[w,z]
 .show(rowK d.fs).1.map sgOf=_;rw[w,z]
 .show Zbc (rowK d.fs).1=_;rw[w,z]
 .rfl
def par_of{j:JoD}{S:StD}(o:∀p∈y.map (ptF scF),p.n=(segL p.d).length)(u:DkR d.fs (y++[f]))(s:scF f=D)(t:byF f=segL D)(k:rowK d.fs=(y.map (ptF scF)++[⟨D,f.len⟩],[]))
  (l:keptF d.fs=keptF j.dk.fs) (m:baseF d.fs=baseF j.dk.fs) (v:j.kept=keptF j.dk.fs) (w:GoodR (y.map (ptF scF)++[⟨D,f.len⟩]) (keptF j.dk.fs) (baseF j.dk.fs)) (hst:stR (y.map (ptF scF)++[⟨D,f.len⟩]) (keptF j.dk.fs) (baseF j.dk.fs)=S) (q r e:Int) (g:Bool):
  anewJ d q r e g=⟨d,q,r,((y.map (ptF scF)).map sgOf)++[sgOf ⟨D,f.len⟩],Zbc (y.map (ptF scF)++[⟨D,f.len⟩]),S,e,j.kept,g⟩/\Par (anewJ d q r e g) (y++[f]):=by
 have i:(y++[f]).map (ptF scF)=y.map (ptF scF)++[⟨D,f.len⟩]:=(by rw[List.map_append];simp only[List.map_cons,List.map_nil,ptF,s]);refine⟨?_,⟨u,?_,?_,?_,?_,?_,rfl⟩⟩
 .unfold anewJ;rw[k,l,m,hst,List.map_append,v];rfl
 .show GoodR _ (keptF d.fs) (baseF d.fs);rw[i,l,m];exact w
 .intro p h;rw[i]at h
  rcases List.mem_append.1 h with h|h
  .exact o p h
  .have x:p=⟨D,f.len⟩:=(by simpa using h);subst x;show f.len=_;rw[<-Zhg,t]
 .show stR (rowK d.fs).1 _ _=stR _ (keptF d.fs) (baseF d.fs);rw[i,k]
 .show(rowK d.fs).1.map sgOf=_;rw[i,k]
 .show Zbc (rowK d.fs).1=_;rw[i,k]
def Zz0{j:JoD}{l:List FiD}{g f:FiD}(h:Par j (l++[g]))(r:(scF g).sl=false)(t:g.nm=f.nm)(A:byF f=byF g++seaB (scF g)){a:DiD}(d:a.fs=withB FiD.nm j.dk.fs f)(m n b:Int)(c:Bool):
  anewJ a m n b c=⟨a,m,n,((l.map (ptF scF)).map sgOf)++[sgOf ⟨sealS (scF g),f.len⟩],⟨0,0,[]⟩,j.st,b,j.kept,c⟩/\Par (anewJ a m n b c) (l++[f]):=by
 obtain⟨D,E,b3,u⟩:=h.dkr.bytes h.all g Vs;have o:(scF g).num≠0:=by rw[b3];exact u
 obtain⟨v,F⟩:=Zut D o r;have i:byF f=segL (sealS (scF g)):=(by rw[A,F,<-E]);have k:numS f.nm≠0:=by rw[<-t];exact u
 have L:keptF j.dk.fs<=(sealS (scF g)).s:=h.dkr.kept (ptF scF g) Vs;obtain⟨G,H⟩:=Zlt (f:=f) h.dkr t k v i rfl rfl rfl L;have w:=h.good;rw[List.map_append]at w;have hst:=h.st;rw[List.map_append]at hst;obtain⟨J,K⟩:=Zzs (p:=ptF scF g) (q:=⟨sealS (scF g),f.len⟩) w rfl rfl rfl rfl;have x:keptF a.fs=keptF j.dk.fs:=(by rw[d];exact Zcm k);have y:baseF a.fs=baseF j.dk.fs:=(by rw[d];exact Zdz k);have e:=par_of (j:=j) (S:=j.st) (λp C=>h.all p (by rw[List.map_append];exact List.mem_append.2 (.inl C))) (by rw[d];exact G) (Zbu v i) i (by rw[d];exact H) x y h.kept J (K.trans hst.symm) m n b c;have z:Zbc (l.map (ptF scF)++[⟨sealS (scF g),f.len⟩])=⟨0,0,[]⟩:=(by unfold Zbc;rw[List.getLast?_concat];simp[sealS]);rw[z]at e;exact e
def anew_new{j:JoD}{b:List FiD}{f:FiD}{n:Int}{e:Cod.EvD}(h:Par j b)(A:∀g,b.getLast?=some g->(scF g).sl=true/\n=(scF g).num+1)(C:inN n)(a0:b=[]->n=1)(D:f.nm=segNm n)(hno:∀g∈j.dk.fs,g.nm≠f.nm)(y:∀g∈b,numS g.nm<n)
  (E:e.s=j.st.q+1) (F:headOK n j.st.q j.st.t) (ok:EncOK j.st.q j.st.t [] e) (N:(appS j.st (toE e)).2=0) (O:byF f=fr 1 (hdP n j.st.q j.st.t)++fr 2 (encL j.st.q j.st.t [] e)) {d:DiD} (l:d.fs=withB FiD.nm j.dk.fs f) (r u i:Int) (k:Bool):
  anewJ d r u i k=⟨d,r,u,((b.map (ptF scF)).map sgOf)++[sgOf ⟨newS n j.st.q j.st.t e,f.len⟩],⟨e.s,e.a,bhdN [] e.c⟩,(appS j.st (toE e)).1,i,j.kept,k⟩/\Par (anewJ d r u i k) (b++[f]):=by
 obtain⟨G,P⟩:=Zz9 F ok;have m:byF f=segL (newS n j.st.q j.st.t e):=(by rw[O,P]);have o:numS f.nm=n:=by rw[D];exact Zvb C
 have p:numS f.nm≠0:=(by rw[o];have:=C.1;omega);have a3:=h.kq;have Z:(newS n j.st.q j.st.t e).s=e.s:=rfl;have hk:keptF j.dk.fs<=(newS n j.st.q j.st.t e).s:=(by rw[Z,<-h.kept];omega);have w:∀g,b.getLast?=some g->(scF g).s=j.st.q/\(scF g).a=j.st.t:=by intro g v;obtain⟨x,rfl⟩:∃x,b=x++[g]:=WL.1 v;refine⟨h.q.symm,?_⟩;have:=h.good.at_ (ptF scF g) Vs;rw[<-h.st]at this;exact this
 obtain⟨Q,R⟩:=rowK_new (f:=f) (d':=newS n j.st.q j.st.t e) h.dkr hno p (by rw[o];exact y) G m (by rw[o];rfl) (λg v=>by
  obtain⟨T,U⟩:=w g v;obtain⟨V,W⟩:=A g v
  exact⟨V,W,T.symm,U.symm⟩) hk
 have hst:=h.st
 obtain⟨X,Y⟩:=goodR_new (q:=⟨newS n j.st.q j.st.t e,f.len⟩) (e:=e) h.good rfl rfl rfl (by show e.s=j.st.q+1;exact E) (by rw[<-h.kept];omega) (λz=>by
  have H:b=[]:=(by simpa using z);subst H;show j.st.q<=_
  rw[h.q0,h.kept];exact Int.le_refl _) (by rw[<-hst];exact N)
 have J:keptF d.fs=keptF j.dk.fs:=(by rw[l];exact Zcm p);have K:baseF d.fs=baseF j.dk.fs:=(by rw[l];exact Zdz p);have L:=par_of (j:=j) (S:=(appS j.st (toE e)).1) h.all (by rw[l];exact Q) (Zbu G m) m (by rw[l];exact R) J K h.kept X (by rw[Y,<-hst]) r u i k;have M:Zbc (b.map (ptF scF)++[⟨newS n j.st.q j.st.t e,f.len⟩])=⟨e.s,e.a,bhdN [] e.c⟩:=(by unfold Zbc;rw[List.getLast?_concat];rfl);rw[M]at L;exact L
def Zif{f:FiD}(b:srt FiD.nm d.fs)(a:f∈d.fs):d.get f.nm=some f:=by
 unfold DiD.get
 cases h:d.fs.find? (λg=>decide (g.nm=f.nm))with
 |none=>have:=List.find?_eq_none.1 h f a;simp at this
 |some g=>have c:=Wq h;have e:=List.mem_of_find?_eq_some h;rw[Zmj b e a (by simpa using c)]
def get_none{s:BA}(h:d.get s=none):∀g∈d.fs,g.nm≠s:=by
 intro g a e;have:=List.find?_eq_none.1 h g a;simp[e]at this
def Zd1{d a:DiD}{x:List UInt8}(h:Zap d s x=(a,0)):d.er s s=0/\∃f,d.get s=some f/\a.fs=withB FiD.nm d.fs ⟨s,f.su,f.lo++x⟩/\a.rm=d.rm/\a.dn=d.dn:=by
 unfold Zap at h
 split at h
 next g=>simp only[Prod.mk.injEq]at h;exact absurd h.2 g
 .rename_i g;refine⟨by simpa using g,?_⟩
  split at h
  .simp at h
  next f b=>
   split at h
   .simp at h
   .split at h
    .simp at h
    .simp only[Prod.mk.injEq]at h;refine⟨f,b,?_⟩;rw[<-h.1];exact⟨rfl,rfl,rfl⟩
def Zpd{d a:DiD}(h:d.perf y=(a,0)):a.fs=y/\a.rm=d.rm/\a.dn=d.dn:=by
 unfold DiD.perf at h
 split at h
 .simp at h
 .simp only[Prod.mk.injEq]at h;rw[<-h.1];exact⟨rfl,rfl,rfl⟩
def Zig{d a:DiD}(h:Zat d s=(a,0)):d.er s s=0/\∃f,d.get s=some f/\a.fs=withB FiD.nm d.fs ⟨s,f.su++f.lo,[]⟩/\a.rm=d.rm/\a.dn=d.dn:=by
 unfold Zat at h
 split at h
 next g=>simp only[Prod.mk.injEq]at h;exact absurd h.2 g
 .rename_i g;refine⟨by simpa using g,?_⟩
  split at h
  .simp at h
  next f b=>exact⟨f,b,Zpd h⟩
def Zl5{d a:DiD}(h:Za3 d s=(a,0)):d.er s s=0/\d.get s=none/\a.fs=withB FiD.nm d.fs ⟨s,[],[]⟩/\a.rm=d.rm/\a.dn=d.dn:=by
 unfold Za3 at h
 split at h
 next g=>simp only[Prod.mk.injEq]at h;exact absurd h.2 g
 .rename_i g;refine⟨by simpa using g,?_⟩
  split at h
  .simp at h
  next b=>
   split at h
   .simp at h
   .exact⟨b,Zpd h⟩
def Zpe{d a:DiD}{f:FiD}(b:srt FiD.nm d.fs)(e:a.fs=withB FiD.nm d.fs f):a.get f.nm=some f:=Zr0 b e
def app_app{d b c:DiD}{x y:List UInt8}(e:srt FiD.nm d.fs)(h:Zap d s x=(b,0))(i:Zap b s y=(c,0)):∃f,d.get s=some f/\c.fs=withB FiD.nm d.fs ⟨s,f.su,f.lo++(x++y)⟩:=by
 obtain⟨_,f,j,e1,_⟩:=Zd1 h;obtain⟨_,l,a,e2,_⟩:=Zd1 i;have k:=Zpe (f:=⟨s,f.su,f.lo++x⟩) e e1;rw[k]at a
 cases a
 refine⟨f,j,?_⟩;rw[e2,e1,Zfo (nm:=FiD.nm) (f:=⟨s,f.su,f.lo++x⟩) (g:=⟨s,f.su,f.lo++x++y⟩) rfl,List.append_assoc]
def app_sync{d b c:DiD}{x:List UInt8}(e:srt FiD.nm d.fs)(h:Zap d s x=(b,0))(i:Zat b s=(c,0)):∃f,d.get s=some f/\c.fs=withB FiD.nm d.fs ⟨s,f.su++(f.lo++x),[]⟩:=by
 obtain⟨_,f,j,e1,_⟩:=Zd1 h;obtain⟨_,l,a,e2,_⟩:=Zig i;have k:=Zpe (f:=⟨s,f.su,f.lo++x⟩) e e1;rw[k]at a
 cases a
 refine⟨f,j,?_⟩;rw[e2,e1,Zfo (nm:=FiD.nm) (f:=⟨s,f.su,f.lo++x⟩) (g:=⟨s,f.su++(f.lo++x),[]⟩) rfl]
def new_app{d a c e:DiD}{x y:List UInt8}(h:srt FiD.nm d.fs)(k:Za3 d s=(a,0))(l:Zap a s x=(c,0))(m:Zap c s y=(e,0)):(∀g∈d.fs,g.nm≠s)/\e.fs=withB FiD.nm d.fs ⟨s,[],x++y⟩:=by
 obtain⟨_,n,b,_⟩:=Zl5 k;have j:srt FiD.nm a.fs:=by rw[b];exact Zbi h
 obtain⟨f,i,e2⟩:=app_app j l m;have o:=Zpe (f:=⟨s,[],[]⟩) h b;rw[o]at i
 cases i
 refine⟨get_none n,?_⟩;rw[e2,b,Zfo (nm:=FiD.nm) (f:=⟨s,[],[]⟩) (g:=⟨s,[],[]++(x++y)⟩) rfl,List.nil_append]
def appS_may{e:Cmp.EvD}(h:(appS g e).2=0):MayS g e:=by
 refine Zic ?_;unfold appS at h
 split at h
 next d=>exact absurd h d
 next d=>simpa using d
def Zvr(h:g.P):ctxOK g.q g.t:=by
 obtain⟨⟨_,a,b,c,e⟩,_⟩:=h;exact⟨a,b,c,e⟩
def ctx_nil(h:ctxOK i j):ctxB i j []=true:=by
 unfold ctxB rgtB;obtain⟨b,c,d,e⟩:=h;simp[b,c,d,e]
def Par.t{j:JoD}{b:List FiD}{g:FiD}(h:Par j (b++[g])):j.st.t=(scF g).a:=by
 have:=h.good.at_ (ptF scF g) Vs;rw[<-h.st]at this;exact this.symm
def Par.name(h:Par J y):∀f∈y,f.nm=segNm (scF f).num/\inN (scF f).num:=by
 intro f b;obtain⟨g,i,b3,c⟩:=h.dkr.bytes h.all f b;obtain⟨d,e⟩:=Zdb c;rw[b3];exact⟨e,d⟩
def Par.big{j:JoD}{c:List FiD}{g:FiD}(h:Par j (c++[g])):∀f∈c++[g],numS f.nm<(scF g).num+1:=by
 have o:srt FiD.nm (c++[g]):=(by rw[<-h.dkr.eq];exact Yu _ h.dkr.srt);obtain⟨_,_,c3,k⟩:=h.dkr.bytes h.all g Vs;intro f a;obtain⟨_,_,b3,l⟩:=h.dkr.bytes h.all f a
 rcases List.mem_append.1 a with a|a
 .have b:=(List.pairwise_append.1 o).2.2 f a g Vs;obtain⟨m,d⟩:=Zdb l;obtain⟨n,e⟩:=Zdb k;rw[c3]
  rcases Wt (numS f.nm) (numS g.nm)with q|q
  .omega
  .exfalso;have i:numS g.nm<numS f.nm\/numS g.nm=numS f.nm:=Vo
   rcases i with q2|q2
   .have:=Zvc n m q2;rw[<-e,<-d]at this;exact Zjo _ (Y04 b this)
   .rw[d,e,q2]at b;exact Zjo _ b
 .have:f=g:=(by simpa using a);subst this;rw[c3];omega
def Zl9(a:FiD->Sc):∀(l:List FiD) (r:List Pt) (o:List BA),(∀f∈l,numS f.nm≠0)->o≠[]->l.foldl (rstep a) (r,o)=(r,o++l.map FiD.nm)
 | [],r,o,_,_=>Vs
 |f::l,r,o,hn,ho=>by rw[List.foldl_cons,show rstep a (r,o) f=(r,o++[f.nm])from by unfold rstep;rw[if_neg (hn f Vs),if_neg (λq=>ho q.1)]];rw[Zl9 a l r _ (λg b=>hn g (by simp[b])) Vs];simp
def Znu(b:FiD->Sc):∀(l:List FiD) (r:List Pt),(∀f∈l,numS f.nm≠0)->∃n,l.foldl (rstep b) (r,[])=(r++(l.take n).map (ptF b),(l.drop n).map FiD.nm)/\inRow b (r.getLast?.map (·.d)) (l.take n)
 | [],r,_=>⟨0,Vs,trivial⟩
 |f::l,r,hn=>by
  rw[List.foldl_cons];by_cases hm:mayR b r [] f
  .rw[show rstep b (r,[]) f=(r++[ptF b f],[])from by unfold rstep;rw[if_neg (hn f Vs),if_pos hm]];obtain⟨n,h,i⟩:=Znu b l (r++[ptF b f]) λg c=>hn g (by simp[c]);refine⟨n+1,by rw[h];simp,?_⟩;rw[List.take_succ_cons];obtain⟨_,j,e⟩:=hm;refine⟨j,?_,by simpa using i⟩
   cases c:r.getLast? with
   |none=>trivial
   |some a=>rw[c]at e;exact e
  .rw[show rstep b (r,[]) f=(r,[]++[f.nm])from by unfold rstep;rw[if_neg (hn f Vs),if_neg hm]];refine⟨0,?_,trivial⟩;rw[Zl9 b l r _ (λg c=>hn g (by simp[c])) Vs];simp
def Zti(l:List FiD):∃n,rowsD scF l=(((segs l).take n).map (ptF scF),((segs l).drop n).map FiD.nm)/\inRow scF none ((segs l).take n):=by
 unfold rowsD;rw[Zcx];obtain⟨n,a,b⟩:=Znu scF (segs l) [] Za8;exact⟨n,by simpa using a,b⟩
def Zbr{a:FiD->Sc}:∀{l:List FiD} {p:Option Sc},inRow a p l->∀f∈l,(a f).num=numS f.nm
 | [],_,_,f,hf=>by cases hf
 |g::l,p,h,f,hf=>by
  rcases List.mem_cons.1 hf with rfl|hf
  .exact h.1
  .exact Zbr h.2.2 f hf
theorem Zgs(h:numS f.nm≠0):segNm (numS f.nm)=f.nm:=(Zdb h).2.symm
def Zgt(l:List FiD):∃n,rowK l=(((segs l).take n).map (ptF scF),((segs l).drop n).map FiD.nm)/\inRow scF none ((segs l).take n)/\∀p,(((segs l).take n).map (ptF scF)).getLast?=some p->keptF l<=p.d.s:=by
 obtain⟨n,h,b⟩:=Zti l;unfold rowK;rw[h]
 cases hg:(((segs l).take n).map (ptF scF)).getLast? with
 |none=>exact⟨n,rfl,b,λp c=>by rw[hg]at c;cases c⟩
 |some p=>
  simp only;by_cases hk:p.d.s<keptF l
  .rw[if_pos hk];refine⟨0,?_,trivial,λq a=>by simp at a⟩;have e:(((segs l).take n).map (ptF scF)).map (λp=>segNm p.d.num)=((segs l).take n).map FiD.nm:=(by rw[List.map_map];apply List.map_congr_left;intro f g;show segNm (scF f).num=f.nm;rw[Zbr b f g];exact Zgs (Za8 f (List.mem_of_mem_take g)));rw[e,<-List.map_append,List.take_append_drop];simp
  .rw[if_neg hk];exact⟨n,rfl,b,λq a=>by rw[hg]at a;cases a;omega⟩
def Zij{l:List FiD}:segs (wout FiD.nm l s)=wout FiD.nm (segs l) s:=by
 unfold segs wout;rw[List.filter_filter,List.filter_filter];apply List.filter_congr;intro x _;exact Bool.and_comm _ _
def cand_wout{l:List FiD}(h:numS s≠0)(t:StD):Cand (wout FiD.nm l s) t↔Cand l t:=by
 constructor
 .rintro⟨g,a,q⟩;exact⟨g,(Zbl.1 a).1,q⟩
 .rintro⟨g,a,q⟩;exact⟨g,Zbl.2 ⟨a,λe=>Zek h _ (e.symm.trans q.2.1)⟩,q⟩
def Ze2{l:List FiD}(h:numS s≠0):keptF (wout FiD.nm l s)=keptF l/\baseF (wout FiD.nm l s)=baseF l:=by
 have e:=Zn8 λt=>cand_wout (l:=l) h t;unfold keptF baseF;rw[e];exact⟨rfl,rfl⟩
def Zq9{l:List FiD}{f:FiD}(a:srt FiD.nm (l++[f])):wout FiD.nm (l++[f]) f.nm=l:=by
 unfold wout;rw[List.filter_append]
 have c:(l.filter λg=>decide (g.nm≠f.nm))=l:=by
  apply List.filter_eq_self.2;intro x b;have:=Zkb ((List.pairwise_append.1 a).2.2 x b f Vs)
  simpa using this
 rw[c];simp
def Zlw{h:FiD->FiD}:∀{l:List FiD} {p:Option Sc},(∀f∈l,(h f).nm=f.nm/\scF (h f)=scF f)->inRow scF p l->inRow scF p (l.map h)
 | [],_,_,_=>trivial
 |f::l,p,hh,hi=>by obtain⟨c,a⟩:=hh f Vs;obtain⟨d,i2,i3⟩:=hi;refine⟨by rw[c,a];exact d,by rw[a];exact i2,?_⟩;rw[a];exact Zlw (λg b=>hh g (by simp[b])) i3
noncomputable def ptW(f:FiD):Pt:=⟨scF f,(segL (scF f)).length⟩
theorem Zlx{h:FiD->FiD}(u:srt FiD.nm Y)(m:segs Y=((segs y).take n).map h)(i:inRow scF none ((segs y).take n))(j:∀p,(((segs y).take n).map (ptF scF)).getLast?=some p->keptF y<=p.d.s)
  (o:∀f∈(segs y).take n,(h f).nm=f.nm/\byF (h f)=segL (scF f)) (v:keptF Y=keptF y):DkR Y (segs Y)/\rowK Y=(((segs y).take n).map ptW,[]):=by
 have q:∀f∈(segs y).take n,ScOK (scF f):=λf a=>by have w:=Zbr i f a;exact(Zid (by rw[w];exact Za8 f (List.mem_of_mem_take a))).1
 have k:∀f∈(segs y).take n,(h f).nm=f.nm/\scF (h f)=scF f:=λf a=>⟨(o f a).1,Zbu (q f a) (o f a).2⟩
 have r:(((segs y).take n).map h).map (ptF scF)=((segs y).take n).map ptW:=by
  rw[List.map_map];apply List.map_congr_left;intro f a
  show(⟨scF (h f),(h f).len⟩:Pt)=⟨scF f,(segL (scF f)).length⟩
  rw[(k f a).2,<-Zhg,(o f a).2]
 have t:DkR Y (segs Y):=by
  refine⟨u,rfl,by rw[m];exact Zlw k i,λp c=>?_⟩;rw[m,r]at c;rw[v]
  rcases Y2 ((segs y).take n)with e|⟨gs,g,e⟩
  .rw[e]at c;simp at c
  .rw[List.concat_eq_append]at e;rw[e]at c j;have e1:p=ptW g:=(by simpa using c.symm);subst e1;exact j (ptF scF g) Vs
 refine⟨t,?_⟩;rw[Zdy t,m,r]
def Zvm(l:List FiD):evsR (l.map ptW)=evsR (l.map (ptF scF)):=by
 unfold evsR;rw[List.flatMap_map,List.flatMap_map];rfl
theorem stR_ptW(l:List FiD)(k:Int)(s:StD):stR (l.map ptW) k s=stR (l.map (ptF scF)) k s:=by unfold stR;rw[Zvm]
theorem goodR_ptW{l:List FiD}{k:Int}{s:StD}(h:GoodR (l.map (ptF scF)) k s):GoodR (l.map ptW) k s:=by
 refine⟨λp a=>?_,λp a=>?_,by rw[Zvm];exact h.app,λp a=>?_⟩
 .cases l with
  |nil=>simp at a
  |cons f l=>have e:p=ptW f:=(by simpa using a.symm);subst e;exact h.bs (ptF scF f) Vs
 .obtain⟨f,b,rfl⟩:=Y5.1 a;exact h.cnt (ptF scF f) (Y5.2 ⟨f,b,rfl⟩)
 .rw[stR_ptW]
  rcases Y2 l with rfl|⟨gs,g,rfl⟩
  .simp at a
  .rw[List.concat_eq_append]at a h|-;have e:p=ptW g:=(by simpa using a.symm);subst e;exact h.at_ (ptF scF g) Vs
def byF_cut:byF ⟨f.nm,f.su.take n,f.lo.take (n-f.su.length)⟩=(byF f).take n:=by
 unfold byF;rw[<-List.map_take,List.take_append]
def Zs4(h:(scF f).num≠0):byF ⟨f.nm,f.su.take (segL (scF f)).length,f.lo.take ((segL (scF f)).length-f.su.length)⟩=segL (scF f):=by
 rw[byF_cut];exact WS.1 (Zid h).2|>.symm
theorem Zvn(s:BA)(f:FiD):byF ⟨s,f.su++f.lo,[]⟩=byF f:=by unfold byF;simp
def Zhf{d a:DiD}(h:Zae d s=(a,0)):d.er s s=0/\(∃f,d.get s=some f)/\a.fs=wout FiD.nm d.fs s/\a.rm=d.rm/\a.dn=d.dn:=by
 unfold Zae at h
 split at h
 next g=>simp only[Prod.mk.injEq]at h;exact absurd h.2 g
 .rename_i g;refine⟨by simpa using g,?_⟩
  split at h
  .simp at h
  next f b=>exact⟨⟨f,b⟩,Zpd h⟩
def Zo6{d a:DiD}(h:opCut d s i=(a,0)):d.er s s=0/\∃f,d.get s=some f/\0<=i/\i<=f.len/\a.fs=withB FiD.nm d.fs ⟨s,f.su.take i.toNat,f.lo.take (i.toNat-f.su.length)⟩/\a.rm=d.rm/\a.dn=d.dn:=by
 unfold opCut at h
 split at h
 next g=>simp only[Prod.mk.injEq]at h;exact absurd h.2 g
 .rename_i g;refine⟨by simpa using g,?_⟩
  split at h
  .simp at h
  next f b=>
   split at h
   .simp at h
   next c=>have:=Zpd h;exact⟨f,b,Vo,Vo,this⟩
def runS:DiD->List (DiD->DiD×Int)->DiD×Int
 |d,[]=>(d,0)
 |d,s::l=>if(s d).2≠0 then s d else runS (s d).1 l
def Zf5{d a:DiD}{s:DiD->DiD×Int}{l:List (DiD->DiD×Int)}(h:runS d (s::l)=(a,0)):∃b,s d=(b,0)/\runS b l=(a,0):=by
 rw[runS]at h
 split at h
 next g=>rw[h]at g;exact absurd rfl g
 next g=>have g:(s d).2=0:=(by simpa using g);exact⟨(s d).1,by rw[<-g],h⟩
def Zkt:∀(a b:List (DiD->DiD×Int)) {d c:DiD},runS d (a++b)=(c,0)->∃e,runS d a=(e,0)/\runS e b=(c,0)
 | [],b,d,c,h=>⟨d,rfl,h⟩
 |s::a,b,d,c,h=>by obtain⟨e,f,g⟩:=Zf5 h;obtain⟨i,j,k⟩:=Zkt a b g;refine⟨i,?_,k⟩;rw[runS,f,if_neg Vs];exact j
structure Same(d d':DiD):Prop where
 srt:srt FiD.nm d'.fs
 kept:keptF d'.fs=keptF d.fs
 base:baseF d'.fs=baseF d.fs
 rm:d'.rm=d.rm
 dn:d'.dn=d.dn
def Same.trans{a b c:DiD}(h:Same a b)(k:Same b c):Same a c:=⟨k.srt,k.kept.trans h.kept,k.base.trans h.base,k.rm.trans h.rm,k.dn.trans h.dn⟩
theorem Same.refl(h:Go.Px.srt FiD.nm d.fs):Same d d:=⟨h,rfl,rfl,rfl,rfl⟩
def srt_wout{s:BA}(h:srt FiD.nm y):srt FiD.nm (wout FiD.nm y s):=Yu _ h
def Zvt{l X Y:List FiD}(d:srt FiD.nm l)(e:segs l=X++F::Y)(a:F.nm=f.nm):segs (withB FiD.nm l f)=X++f::Y:=by
 have j:F∈l:=(List.mem_filter.1 (show F∈l.filter isSeg by rw[show l.filter isSeg=X++F::Y from e];simp)).1;rw[Zpz d ⟨F,j,a⟩,e,List.map_append,List.map_cons,if_pos a];have b:srt FiD.nm (segs l):=Yu _ d;rw[e]at b;obtain⟨k,h,i⟩:=List.pairwise_append.1 b;congr 1
 .conv=>rhs;rw[<-W5 X]
  apply List.map_congr_left;intro x c;rw[if_neg (λq=>Zkb (i x c F Vs) (q.trans a.symm))];rfl
 .congr 1
  conv=>rhs;rw[<-W5 Y]
  apply List.map_congr_left;intro x c;rw[if_neg (λq=>Zkb ((List.pairwise_cons.1 h).1 x c) (a.trans q.symm))];rfl
def Zyl:∀(k:Nat) (A B:List FiD) (d a:DiD),B.length=k->srt FiD.nm d.fs->segs d.fs=A++B->runS d ((B.map FiD.nm).reverse.map λs d=>Zae d s)=(a,0)->segs a.fs=A/\Same d a:=by
 intro k
 induction k with
 |zero=>intro A B d a b c e h;have:B=[]:=Yv.1 b;subst this;simp only[List.map_nil,List.reverse_nil,runS,Prod.mk.injEq]at h;rw[<-h.1];exact⟨by simpa using e,Same.refl c⟩
 |succ k r=>
  intro A B d a b c e h
  rcases Y2 B with rfl|⟨B,f,rfl⟩
  .simp at b
  .rw[List.concat_eq_append]at b e h;rw[List.map_append,List.reverse_append]at h;simp only[List.map_cons,List.map_nil,List.reverse_cons,List.reverse_nil,List.nil_append,List.singleton_append]at h;obtain⟨j,m,n⟩:=Zf5 h;obtain⟨_,_,e1,e2,o⟩:=Zhf m;have g:numS f.nm≠0:=Za8 f (by rw[e];simp);have i:srt FiD.nm j.fs:=by rw[e1];exact srt_wout c
   have l:segs j.fs=A++B:=(by rw[e1,Zij,e,<-List.append_assoc];refine Zq9 ?_;rw[List.append_assoc,<-e];exact Yu _ c);obtain⟨p,q⟩:=r A B j a (by simpa using b) i l n;refine⟨p,Same.trans ⟨i,?_,?_,e2,o⟩ q⟩
   .rw[e1];exact(Ze2 g).1
   .rw[e1];exact(Ze2 g).2
noncomputable def cutF(f:FiD):FiD:=if(segL (scF f)).length<f.len then⟨f.nm,f.su.take (segL (scF f)).length,f.lo.take ((segL (scF f)).length-f.su.length)⟩else f
def Zdc(f:FiD):(cutF f).nm=f.nm:=by unfold cutF;split<;>rfl
theorem Ztb(h:(scF f).num≠0):byF (cutF f)=segL (scF f):=by
 unfold cutF
 split
 .exact Zs4 h
 next g=>have a:=(Zid h).2;exact(a.eq_of_length (by have:=a.length_le;rw[Zhg]at this|-;omega)).symm
noncomputable def cutS(p:Pt):List (DiD->DiD×Int):=if(segL p.d).length<p.n then[λd=>opCut d (segNm p.d.num) (segL p.d).length]else[]
def run_cut:∀(k:Nat) (A B C:List FiD) (d a:DiD),B.length=k->srt FiD.nm d.fs->segs d.fs=A++(B++C)->(∀f∈B,(scF f).num=numS f.nm)->runS d ((B.map (ptF scF)).reverse.flatMap cutS)=(a,0)->segs a.fs=A++(B.map cutF++C)/\Same d a:=by
 intro k
 induction k with
 |zero=>intro A B C d a j b e p h;have:B=[]:=Yv.1 j;subst this;simp only[List.map_nil,List.reverse_nil,WP,runS,Prod.mk.injEq]at h;rw[<-h.1];exact⟨by simpa using e,Same.refl b⟩
 |succ k K=>
  intro A B C d a j b e p h
  rcases Y2 B with rfl|⟨B,f,rfl⟩
  .simp at j
  .rw[List.concat_eq_append]at j e h p|-;rw[List.map_append,List.reverse_append]at h;simp only[List.map_cons,List.map_nil,List.reverse_cons,List.reverse_nil,List.nil_append,List.singleton_append,Ya]at h;obtain⟨q,m,y⟩:=Zkt _ _ h;have n:numS f.nm≠0:=Za8 f (by rw[e];simp);have t:=p f Vs
   have u:segs q.fs=A++(B++(cutF f::C))/\Same d q:=by
    have v:segs d.fs=(A++B)++f::C:=(by rw[e];simp);unfold cutS at m
    split at m
    .rename_i l;obtain⟨z,D,r⟩:=Zf5 m;simp only[runS,Prod.mk.injEq]at r;have r:z=q:=r.1;subst r;obtain⟨_,g,i,_,_,c,E,F⟩:=Zo6 D;have w:segNm (ptF scF f).d.num=f.nm:=(by show segNm (scF f).num=f.nm;rw[t];exact Zgs n);rw[w]at i c;have x:f∈d.fs:=(List.mem_filter.1 (show f∈d.fs.filter isSeg by rw[show d.fs.filter isSeg=(A++B)++f::C from v];simp)).1;rw[Zif b x]at i
     cases i
     have o:cutF f=⟨f.nm,f.su.take ((segL (ptF scF f).d).length:Int).toNat,f.lo.take (((segL (ptF scF f).d).length:Int).toNat-f.su.length)⟩:=(by unfold cutF;rw[if_pos l];simp);rw[<-o]at c;refine⟨?_,by rw[c];exact Zbi b,?_,?_,E,F⟩
     .rw[c,Zvt b v (Zdc f).symm];simp
     .rw[c];exact Zcm (by rw[Zdc];exact n)
     .rw[c];exact Zdz (by rw[Zdc];exact n)
    .rename_i l;simp only[runS,Prod.mk.injEq]at m;rw[<-m.1];have o:cutF f=f:=by unfold cutF;rw[if_neg l]
     rw[o,e];exact⟨Vs,Same.refl b⟩
   obtain⟨G,s⟩:=u;obtain⟨H,J⟩:=K A B (cutF f::C) q a (by simpa using j) s.srt G (λg i=>p g (by simp[i])) y;exact⟨by rw[H];simp,s.trans J⟩
def Zxc{c:FiD->Sc}:∀{a:List FiD} {g:FiD} {p:Option Sc},inRow c p (a++[g])->∀f∈a,(c f).sl=true
 | [],_,_,_,f,hf=>by cases hf
 |x::a,g,p,h,f,hf=>by
  obtain⟨_,_,b⟩:=h
  rcases List.mem_cons.1 hf with rfl|hf
  .cases a with
   |nil=>exact b.2.1.1
   |cons y a=>exact b.2.1.1
  .exact Zxc b f hf
def synS(r:List Pt):List (DiD->DiD×Int):=match r.getLast? with
 |none=>[]
 |some p=>if p.d.sl=true then[]else[λd=>Zat d (segNm p.d.num)]
noncomputable def mendS(r:List Pt)(o:List BA):List (DiD->DiD×Int):=(o.reverse.map λs d=>Zae d s)++(r.reverse.flatMap cutS++synS r)
noncomputable def menF(f:FiD):FiD:=if(scF f).sl=true then cutF f else⟨(cutF f).nm,(cutF f).su++(cutF f).lo,[]⟩
theorem Zui(f:FiD):(menF f).nm=f.nm:=by unfold menF;split<;>exact Zdc f
theorem menF_by(h:(scF f).num≠0):byF (menF f)=segL (scF f):=by
 grind [Zvn,menF,Ztb]
def mend_ok{d c:DiD}(A:srt FiD.nm d.fs)(h:runS d (mendS (rowK d.fs).1 (rowK d.fs).2)=(c,0)):
  ∃m:List FiD,(rowK d.fs).1=m.map (ptF scF)/\inRow scF none m/\(∀f∈m,numS f.nm≠0)/\Same d c/\segs c.fs=m.map menF/\DkR c.fs (segs c.fs)/\rowK c.fs=(m.map ptW,[]):=by
 obtain⟨n,e,j,N⟩:=Zgt d.fs;rw[e]at h;refine⟨(segs d.fs).take n,by rw[e],j,λf i=>Za8 f (List.mem_of_mem_take i),?_⟩;obtain⟨v,C,D⟩:=Zkt _ _ h;obtain⟨k,E,a⟩:=Zkt _ _ D;obtain⟨F,G⟩:=Zyl ((segs d.fs).drop n).length ((segs d.fs).take n) ((segs d.fs).drop n) d v rfl A (List.take_append_drop n _).symm C;have p:=Zbr j;obtain⟨b,o⟩:=run_cut ((segs d.fs).take n).length [] ((segs d.fs).take n) [] v k rfl G.srt (by rw[F];simp) p E;have w:∀f∈(segs d.fs).take n,(scF f).num≠0:=λf i=>by rw[p f i];exact Za8 f (List.mem_of_mem_take i)
 have b:segs k.fs=((segs d.fs).take n).map cutF:=by rw[b];simp
 have O:segs c.fs=((segs d.fs).take n).map menF/\Same k c:=by
  rcases Y2 ((segs d.fs).take n)with q|⟨gs,g,q⟩
  .rw[q]at a b|-;simp only[synS,List.map_nil,List.getLast?_nil,runS,Prod.mk.injEq]at a;rw[<-a.1,b];exact⟨rfl,Same.refl o.srt⟩
  .rw[List.concat_eq_append]at q;rw[q]at a b j w p|-;have P:=Zxc j
   have x:gs.map menF=gs.map cutF:=by
    simp_all[menF]
   rw[List.map_append]at b|-;rw[x];unfold synS at a;rw[List.map_append]at a;simp only[List.map_cons,List.map_nil,List.getLast?_concat]at a b|-;by_cases hg:(scF g).sl=true
   .rw[if_pos (show(ptF scF g).d.sl=true from hg)]at a;simp only[runS,Prod.mk.injEq]at a;rw[<-a.1,b];have:menF g=cutF g:=(by grind [menF]);rw[this];exact⟨rfl,Same.refl o.srt⟩
   .rw[if_neg (show¬(ptF scF g).d.sl=true from hg)]at a;obtain⟨H,J,s⟩:=Zf5 a;simp only[runS,Prod.mk.injEq]at s;have s:H=c:=s.1;subst s;obtain⟨_,f,i,l,K,L⟩:=Zig J;have y:numS g.nm≠0:=Vg
    have t:segNm (ptF scF g).d.num=g.nm:=by
     grind [segNm,scF,Zgs]
    rw[t]at i l;have z:cutF g∈k.fs:=(List.mem_filter.1 (show cutF g∈k.fs.filter isSeg by rw[show k.fs.filter isSeg=gs.map cutF++[cutF g]from b];simp)).1;have r:=Zif o.srt z;rw[Zdc,i]at r
    cases r
    have M:menF g=⟨g.nm,(cutF g).su++(cutF g).lo,[]⟩:=(by unfold menF;rw[if_neg hg,Zdc]);rw[<-M]at l;have u:numS (menF g).nm≠0:=(by rw[Zui];exact y);refine⟨?_,by rw[l];exact Zbi o.srt,by rw[l];exact Zcm u,by rw[l];exact Zdz u,K,L⟩;rw[l,Zr3 o.srt b (by rw[Zdc,Zui])]
 grind [Same,Zlx,menF,Zui,menF_by]
def Zxd{d a:DiD}(s:srt FiD.nm d.fs)(t:GoodR (rowK d.fs).1 (keptF d.fs) (baseF d.fs))(h:runS d (mendS (rowK d.fs).1 (rowK d.fs).2)=(a,0))(n o b:Int)(c:Bool):
  anewJ a n o b c=⟨a,n,o,(rowK d.fs).1.map sgOf,Zbc (rowK d.fs).1,stR (rowK d.fs).1 (keptF d.fs) (baseF d.fs),b,keptF d.fs,c⟩/\Par (anewJ a n o b c) (segs a.fs):=by
 obtain⟨i,e,w,u,k,x,r,l⟩:=mend_ok s h;have y:∀f∈i,True:=λ_ _=>trivial;rw[e]at t|-;have v:(i.map ptW).map sgOf=(i.map (ptF scF)).map sgOf:=by rw[List.map_map,List.map_map];rfl
 have z:Zbc (i.map ptW)=Zbc (i.map (ptF scF)):=by
  rcases Y2 i with rfl|⟨gs,g,rfl⟩
  .rfl
  .rw[List.concat_eq_append,List.map_append,List.map_append];unfold Zbc;simp only[List.map_cons,List.map_nil,List.getLast?_concat];rfl
 have j:=Zdy r;rw[l]at j;have m:i.map ptW=(segs a.fs).map (ptF scF):=congrArg Prod.fst j;refine⟨?_,⟨r,?_,?_,?_,?_,?_,rfl⟩⟩
 .grind [k.kept,k.base,stR_ptW,anewJ]
 .show GoodR _ (keptF a.fs) (baseF a.fs)
  grind [k.kept,k.base,goodR_ptW]
 .intro p q;rw[<-m]at q;obtain⟨f,_,rfl⟩:=Y5.1 q;rfl
 .show stR (rowK a.fs).1 _ _=stR _ (keptF a.fs) (baseF a.fs);rw[<-m,l]
 .show(rowK a.fs).1.map sgOf=_;rw[<-m,l]
 .show Zbc (rowK a.fs).1=_;rw[<-m,l]
def dgs_D:∀(k n:Nat),∀c∈dgs k n,isD c
 |0,n,c,hc=>by cases hc
 |k+1,n,c,hc=>by
  rw[dgs]at hc
  rcases List.mem_append.1 hc with hc|hc
  .exact dgs_D k _ c hc
  .have:c=UInt8.ofNat (48+n%10):=(by simpa using hc);subst this;unfold isD;simp only[UInt8.toNat_ofNat'];omega
def segNm_ok(n:Int):fnB (segNm n)=true:=by
 have b:=Zch n;have d:(segNm n).size=12:=(by have:(segNm n).data.toList.length=12:=(by rw[b,List.length_append,Zcv];rfl);rw[Array.length_toList]at this;exact this);unfold fnB;rw[d,b];simp only[Bool.and_eq_true,decide_eq_true_eq,List.all_eq_true];refine⟨Vo,λc a=>?_⟩;unfold fchr;rw[decide_eq_true_eq]
 rcases List.mem_append.1 a with a|a
 .simp only[spre,List.mem_cons,YZ,or_false]at a
  rcases a with rfl|rfl|rfl|rfl<;>decide
 .have:=dgs_D _ _ c a;unfold isD at this;omega
def follO(d:Sc):Option Sc->Prop
 |none=>True
 |some a=>foll d a
instance (d:Sc) (p:Option Sc):Decidable (follO d p):=by
 cases p with
 |none=>exact isTrue trivial
 |some a=>exact inferInstanceAs (Decidable (foll d a))
def rowN(a:FiD->Sc):Option Sc->List FiD->Nat
 |_,[]=>0
 |p,f::l=>if(a f).num=numS f.nm/\follO (a f) p then rowN a (some (a f)) l+1 else 0
def Zt1(a:FiD->Sc):∀(l:List FiD) (p:Option Sc),rowN a p l<=l.length
 | [],p=>Nat.le_refl _
 |f::l,p=>by
  unfold rowN;have:=Zt1 a l (some (a f))
  split
  .rw[List.length_cons];omega
  .exact W4 _
def Zt2(a:FiD->Sc):∀(l:List FiD) (p:Option Sc),inRow a p (l.take (rowN a p l))
 | [],p=>by simp[rowN,inRow]
 |f::l,p=>by
  unfold rowN
  split
  next h=>rw[List.take_succ_cons];exact⟨h.1,by cases p<;>exact h.2,Zt2 a l _⟩
  .exact trivial
def Zr1(b:FiD->Sc):∀(l:List FiD) (r:List Pt),(∀f∈l,numS f.nm≠0)->l.foldl (rstep b) (r,[])=(r++(l.take (rowN b (r.getLast?.map (·.d)) l)).map (ptF b),(l.drop (rowN b (r.getLast?.map (·.d)) l)).map FiD.nm)
 | [],r,_=>Vs
 |f::l,r,hn=>by
  rw[List.foldl_cons]
  have c:mayR b r [] f↔((b f).num=numS f.nm/\follO (b f) (r.getLast?.map (·.d))):=by
   unfold mayR follO
   cases r.getLast? with
   |none=>simp
   |some a=>simp
  by_cases hm:mayR b r [] f
  .rw[show rstep b (r,[]) f=(r++[ptF b f],[])from by unfold rstep;rw[if_neg (hn f Vs),if_pos hm]];rw[Zr1 b l (r++[ptF b f]) λg h=>hn g (by simp[h])];have e:rowN b (r.getLast?.map (·.d)) (f::l)=rowN b (some (b f)) l+1:=(by rw[rowN,if_pos (c.1 hm)]);rw[e,List.take_succ_cons,List.drop_succ_cons];simp
  .rw[show rstep b (r,[]) f=(r,[]++[f.nm])from by unfold rstep;rw[if_neg (hn f Vs),if_neg hm]];have e:rowN b (r.getLast?.map (·.d)) (f::l)=0:=(by rw[rowN,if_neg (λq=>hm (c.2 q))]);rw[e,Zl9 b l r _ (λg h=>hn g (by simp[h])) Vs];simp
def Zzi(l:List FiD):rowsD scF l=(((segs l).take (rowN scF none (segs l))).map (ptF scF),((segs l).drop (rowN scF none (segs l))).map FiD.nm):=by
 unfold rowsD;rw[Zcx,Zr1 scF _ [] Za8];simp
def Zr2(a:FiD->Sc):∀(l:List FiD) (p:Option Sc) (m:Nat),rowN a p (l.take m)=min (rowN a p l) m
 | [],p,m=>by simp[rowN]
 |f::l,p,0=>by simp[rowN]
 |f::l,p,m+1=>by
  rw[List.take_succ_cons,rowN,rowN]
  split
  .rw[Zr2 a l _ m];omega
  .simp
def Zpy:∀(gs:List FiD) (g:FiD) (p:Option Sc),inRow scF p (gs++[g])->(∀f∈gs++[g],numS f.nm≠0)->∀f∈gs++[g],(scF f).s<=(scF g).s
 | [],g,p,h,hn,f,hf=>by have:f=g:=(by simpa using hf);subst this;exact Int.le_refl _
 |x::gs,g,p,h,hn,f,hf=>by
  obtain⟨_,_,h3⟩:=h
  rcases List.mem_cons.1 hf with rfl|hf
  ·-- the part behind begins where this one ends
   have key:∀y l',gs++[g]=y::l'->(scF f).s<=(scF y).s:=by
    intro y l' e;have h3':inRow scF (some (scF f)) (gs++[g]):=h3;rw[e]at h3';obtain⟨y1,y2,_⟩:=h3';have hy0:(scF y).num≠0:=by rw[y1];exact hn y (by rw[Y4,e];simp)
    have hok:=(Zid hy0).1;have h5:=Zmw _ _ _ _ (hok.evs hy0);have h6:=hok.fin hy0;simp only[Y07]at h6;rw[<-h6.1]at h5;have h7:(scF y).bs=(scF f).s:=y2.2.2.1;omega
   cases gs with
   |nil=>exact key g [] rfl
   |cons y gs=>have h1:=key y (gs++[g]) rfl;have h2:=Zpy (y::gs) g (some (scF f)) h3 (λz hz=>hn z (by simp at hz|-;exact .inr hz)) y Vs;exact Int.le_trans h1 h2
  .exact Zpy gs g (some (scF x)) h3 (λz hz=>hn z (by simp at hz|-;exact .inr hz)) f hf
noncomputable def nK(l:List FiD):Nat:=match((segs l).take (rowN scF none (segs l))).getLast? with
 |none=>rowN scF none (segs l)
 |some g=>if(scF g).s<keptF l then 0 else rowN scF none (segs l)
def nK_le(l:List FiD):nK l<=(segs l).length:=by
 have:=Zt1 scF (segs l) none;unfold nK
 split
 .exact this
 .split
  .exact W4 _
  .exact this
def Zp5(l:List FiD):rowK l=(((segs l).take (nK l)).map (ptF scF),((segs l).drop (nK l)).map FiD.nm):=by
 have b:=Zt2 scF (segs l) none;unfold rowK nK;rw[Zzi,List.getLast?_map]
 cases hg:((segs l).take (rowN scF none (segs l))).getLast? with
 |none=>rfl
 |some g=>
  simp only[YR];by_cases hk:(scF g).s<keptF l
  .rw[if_pos hk,if_pos (show(ptF scF g).d.s<keptF l from hk)];have e:(((segs l).take (rowN scF none (segs l))).map (ptF scF)).map (λp=>segNm p.d.num)=((segs l).take (rowN scF none (segs l))).map FiD.nm:=(by rw[List.map_map];apply List.map_congr_left;intro f a;show segNm (scF f).num=f.nm;rw[Zbr b f a];exact Zgs (Za8 f (List.mem_of_mem_take a)));rw[e,<-List.map_append,List.take_append_drop];simp
  .rw[if_neg hk,if_neg (show¬(ptF scF g).d.s<keptF l from hk)]
def nK_take{l b:List FiD}{m:Nat}(j:segs b=(segs l).take m)(k:keptF b=keptF l)(v:nK l<=m):nK b=nK l:=by
 have h:rowN scF none (segs b)=min (rowN scF none (segs l)) m:=(by rw[j,Zr2]);have o:=Zt2 scF (segs l) none;have c:(segs b).take (rowN scF none (segs b))=(segs l).take (min (rowN scF none (segs l)) m):=by rw[h,j,List.take_take];congr 1;omega
 cases hg:((segs l).take (rowN scF none (segs l))).getLast? with
 |none=>have a:nK l=rowN scF none (segs l):=(by unfold nK;rw[hg]);have e1:min (rowN scF none (segs l)) m=rowN scF none (segs l):=Vo;unfold nK at a|-;rw[c,e1,hg,h,e1]
 |some g=>
  by_cases hs:(scF g).s<keptF l
  .have a:nK l=0:=(by unfold nK;rw[hg];exact if_pos hs);rw[a];unfold nK;rw[c]
   cases hg':((segs l).take (min (rowN scF none (segs l)) m)).getLast? with
   |none=>simp only;have u:(segs l).take (min (rowN scF none (segs l)) m)=[]:=List.getLast?_eq_none_iff.1 hg';have d:=congrArg List.length u;have p:=Zt1 scF (segs l) none;rw[List.length_take]at d;simp only[List.length_nil]at d;rw[h];omega
   |some q=>
    simp only;obtain⟨n,e⟩:=WL.1 hg
    have i:q∈n++[g]:=by
     rw[<-e];have d:=YM hg';have p:(segs l).take (min (rowN scF none (segs l)) m)=((segs l).take (rowN scF none (segs l))).take m:=by rw[List.take_take];congr 1;omega
     rw[p]at d;exact List.mem_of_mem_take d
    have r:=Zpy n g none (by rw[<-e];exact o) (λf t=>Za8 f (List.mem_of_mem_take (by rw[e];exact t))) q i;rw[if_pos (by rw[k];omega)]
  .have a:nK l=rowN scF none (segs l):=(by unfold nK;rw[hg];exact if_neg hs);have e1:min (rowN scF none (segs l)) m=rowN scF none (segs l):=Vo;rw[a];unfold nK;rw[c,e1,hg];simp only;rw[if_neg (by rw[k];exact hs),h,e1]
def rowK_take(b:segs Y=(segs y).take m)(c:keptF Y=keptF y)(d:nK y<=m):rowK Y=(((segs y).take (nK y)).map (ptF scF),(((segs y).take m).drop (nK y)).map FiD.nm):=by
 rw[Zp5,nK_take b c d,b,List.take_take];congr 3;omega
def rowK_map{h:FiD->FiD}(k:srt FiD.nm Y)(c:segs Y=(segs y).map h)(d:∀f∈segs y,(h f).nm=f.nm/\scF (h f)=scF f)(m:keptF Y=keptF y)(i:DkR y (segs y)):rowK Y=(((segs y).map h).map (ptF scF),[]):=by
 have j:DkR Y (segs Y):=by
  refine⟨k,rfl,by rw[c];exact Zlw d i.inr,λp b=>?_⟩;rw[c]at b;rw[m]
  rcases Y2 (segs y)with e|⟨gs,g,e⟩
  .rw[e]at b;simp at b
  .rw[List.concat_eq_append]at e;have n:=d g (by rw[e];simp);have o:=i.kept (ptF scF g) (by rw[e];simp);rw[e]at b;have e1:p=ptF scF (h g):=(by simpa using b.symm);subst e1;show keptF y<=(scF (h g)).s;rw[n.2];exact o
 rw[Zdy j,c]
def Zx7(r:List Pt)(o:List BA)(x:BA):mendS r (o++[x])=(λd=>Zae d x)::mendS r o:=by
 unfold mendS;rw[List.reverse_append];rfl
def Znl:∀(r:List Pt) {s:DiD->DiD×Int} {b:List (DiD->DiD×Int)},r.flatMap cutS=s::b->∃(Y:List Pt) (p:Pt) (X:List Pt),r=Y++p::X/\(∀q∈Y,cutS q=[])/\cutS p=[s]/\X.flatMap cutS=b
 | [],s,b,h=>by cases h
 |p::r,s,b,h=>by
  rw[Ya]at h;by_cases hp:(segL p.d).length<p.n
  .have e:cutS p=[λd=>opCut d (segNm p.d.num) (segL p.d).length]:=(by unfold cutS;rw[if_pos hp]);rw[e]at h;simp only[List.singleton_append,List.cons.injEq]at h;exact⟨[],p,r,rfl,λq c=>(by cases c),by rw[e,h.1],h.2⟩
  .have e:cutS p=[]:=(by unfold cutS;rw[if_neg hp]);rw[e,List.nil_append]at h;obtain⟨Y,q,X,f,g,i,j⟩:=Znl r h;refine⟨p::Y,q,X,by rw[f];rfl,λz a=>?_,i,j⟩
   rcases List.mem_cons.1 a with rfl|a
   .exact e
   .exact g z a
def Zsx{d b:DiD}{gs B:List FiD}(h:srt FiD.nm d.fs)(l:(segs d.fs).drop (nK d.fs)=B++[f])(m:Zae d f.nm=(b,0)):Same d b/\rowK b.fs=((rowK d.fs).1,B.map FiD.nm):=by
 obtain⟨_,_,e1,e2,n⟩:=Zhf m;have a:=List.take_append_drop (nK d.fs) (segs d.fs);rw[l,<-List.append_assoc]at a;have e:numS f.nm≠0:=Za8 f (by rw[<-a];simp);have g:segs b.fs=(segs d.fs).take (nK d.fs)++B:=by rw[e1,Zij,<-a];refine(Zq9 ?_).trans (by rw[a]);rw[a];exact Yu _ h
 have j:Same d b:=⟨by rw[e1];exact srt_wout h,by rw[e1];exact(Ze2 e).1,by rw[e1];exact(Ze2 e).2,e2,n⟩
 refine⟨j,?_⟩;have o:=nK_le d.fs;have c:((segs d.fs).take (nK d.fs)).length=nK d.fs:=by rw[List.length_take];omega
 have k:segs b.fs=(segs d.fs).take (nK d.fs+B.length):=(by rw[g];have:=List.take_left' (l₁:=(segs d.fs).take (nK d.fs)++B) (l₂:=[f]) (i:=nK d.fs+B.length) (by rw[List.length_append,c]);rw[a]at this;exact this.symm);rw[rowK_take k j.kept Vo,Zp5 d.fs];congr 2;have:(segs d.fs).take (nK d.fs+B.length)=(segs d.fs).take (nK d.fs)++B:=(by rw[<-k,g]);rw[this,YC (by rw[c];exact Nat.le_refl _),Yi (by rw[c];exact Nat.le_refl _),List.nil_append]
def dkR_rowN(a:srt FiD.nm y)(h:(segs y).drop (nK y)=[]):DkR y (segs y):=by
 refine dkR_of a ?_;rw[Zp5,h];rfl
def cutF_len(h:(scF f).num≠0):(cutF f).len=(segL (scF f)).length:=by rw[<-Zhg,Ztb h]
def Zuf(h:(scF f).num≠0):scF (cutF f)=scF f:=Zbu (Zid h).1 (Ztb h)
def step_cut{d b:DiD}(c:srt FiD.nm d.fs)(q:DkR d.fs (segs d.fs))(e:segs d.fs=y++f::Y)(r:(segL (scF f)).length<f.len)(X:opCut d (segNm (scF f).num) (segL (scF f)).length=(b,0)):Same d b/\rowK b.fs=((y++cutF f::Y).map (ptF scF),[]):=by
 have i:numS f.nm≠0:=Za8 f (by rw[e];simp);have k:(scF f).num=numS f.nm:=Zbr q.inr f (by rw[e];simp);have t:(scF f).num≠0:=(by rw[k];exact i);obtain⟨_,g,n,_,_,a,A,C⟩:=Zo6 X;have u:segNm (scF f).num=f.nm:=(by rw[k];exact Zgs i);rw[u]at n a;have j:f∈d.fs:=(List.mem_filter.1 (show f∈d.fs.filter isSeg by rw[show d.fs.filter isSeg=y++f::Y from e];simp)).1;rw[Zif c j]at n
 cases n
 have v:cutF f=⟨f.nm,f.su.take ((segL (scF f)).length:Int).toNat,f.lo.take (((segL (scF f)).length:Int).toNat-f.su.length)⟩:=(by unfold cutF;rw[if_pos r];simp);rw[<-v]at a;have l:numS (cutF f).nm≠0:=by rw[Zdc];exact i
 have o:Same d b:=⟨by rw[a];exact Zbi c,by rw[a];exact Zcm l,by rw[a];exact Zdz l,A,C⟩
 refine⟨o,?_⟩;have m:segs b.fs=(segs d.fs).map λg=>if g.nm=(cutF f).nm then cutF f else g:=(by rw[a];exact Zpz c ⟨f,j,(Zdc f).symm⟩);have p:segs b.fs=y++cutF f::Y:=by rw[a];exact Zvt c e (Zdc f).symm
 have D:=rowK_map (h:=λg=>if g.nm=(cutF f).nm then cutF f else g) o.srt m (λx z=>by
  by_cases hxn:x.nm=(cutF f).nm
  .have w:x=f:=(by have s:x∈d.fs:=(List.mem_filter.1 z).1;exact Zmj c s j (by rw[hxn,Zdc]));subst w;show(if x.nm=(cutF x).nm then cutF x else x).nm=x.nm/\scF (if x.nm=(cutF x).nm then cutF x else x)=scF x;rw[if_pos hxn];exact⟨Zdc x,Zuf t⟩
  .show(if x.nm=(cutF f).nm then cutF f else x).nm=x.nm/\scF (if x.nm=(cutF f).nm then cutF f else x)=scF x;rw[if_neg hxn]
   exact⟨rfl,rfl⟩) o.kept q
 rw[D,<-m,p]
def synS_d{r a:List Pt}(h:r.getLast?.map (·.d)=a.getLast?.map (·.d)):synS r=synS a:=by
 unfold synS
 cases hr:r.getLast? with
 |none=>
  cases hr':a.getLast? with
  |none=>rfl
  |some q=>rw[hr,hr']at h;cases h
 |some p=>
  cases hr':a.getLast? with
  |none=>rw[hr,hr']at h;cases h
  |some q=>rw[hr,hr']at h;have h:p.d=q.d:=(by simpa using h);simp only[h]
def step_mend{d g:DiD}{s:DiD->DiD×Int}{c:List (DiD->DiD×Int)}(k:srt FiD.nm d.fs)(h:mendS (rowK d.fs).1 (rowK d.fs).2=s::c)(C:c≠[])(t:s d=(g,0)):Same d g/\mendS (rowK g.fs).1 (rowK g.fs).2=c:=by
 rcases Y2 ((segs d.fs).drop (nK d.fs))with hd|⟨B,f,hd⟩
 .have r:=dkR_rowN k hd;rw[Zdy r]at h;unfold mendS at h;simp only[List.reverse_nil,List.map_nil,List.nil_append]at h
  cases hfm:((segs d.fs).map (ptF scF)).reverse.flatMap cutS with
  |nil=>
   rw[hfm,List.nil_append]at h;exfalso;unfold synS at h
   split at h
   .cases h
   .split at h
    .cases h
    .simp only[List.cons.injEq]at h;exact C h.2.symm
  |cons N O=>
   rw[hfm]at h;simp only[Y4,List.cons.injEq]at h;obtain⟨rfl,l⟩:=h;obtain⟨D,p,E,e1,e2,a,F⟩:=Znl _ hfm;have M:(segs d.fs).map (ptF scF)=E.reverse++p::D.reverse:=(by have:=congrArg List.reverse e1;rw[Y02]at this;rw[this];simp);obtain⟨X,R,i,G,H⟩:=List.map_eq_append_iff.1 M;obtain⟨f,Y,J,K,L⟩:=List.map_eq_cons_iff.1 H;subst J;subst K
   have j:(segL (scF f)).length<f.len:=by
    unfold cutS at a
    split at a
    next q=>exact q
    .cases a
   have v:N=λd=>opCut d (segNm (scF f).num) (segL (scF f)).length:=(by unfold cutS at a;rw[if_pos (show(segL (ptF scF f).d).length<(ptF scF f).n from j)]at a;simp only[List.cons.injEq,and_true]at a;exact a.symm);subst v;obtain⟨m,o⟩:=step_cut k r i j t;refine⟨m,?_⟩;have w:numS f.nm≠0:=Za8 f (by rw[i];simp);have b:(scF f).num≠0:=(by rw[Zbr r.inr f (by rw[i];simp)];exact w);rw[o];unfold mendS;simp only[List.reverse_nil,List.map_nil,List.nil_append];have x:cutS (ptF scF (cutF f))=[]:=by unfold cutS;rw[if_neg];show¬(segL (scF (cutF f))).length<(cutF f).len;rw[Zuf b,cutF_len b];omega
   have z:(Y.map (ptF scF)).reverse.flatMap cutS=[]:=by
    apply List.flatMap_eq_nil_iff.2;intro q u;refine e2 q ?_;rw[L]at u
    simpa using u
   have A:(X.map (ptF scF)).reverse.flatMap cutS=O:=(by rw[G,Y02];exact F);rw[List.map_append,List.map_cons,List.reverse_append,List.reverse_cons,List.flatMap_append,List.flatMap_append,z,A];simp only[Ya,WP,x,List.nil_append];rw[<-l];congr 1;apply synS_d;rw[i,List.map_append,List.map_cons]
   cases Y with
   |nil=>simp only[List.map_nil,List.getLast?_concat,YR];exact congrArg some (Zuf b)
   |cons y Y=>rw[Y03,Y03];simp[WT]
 .rw[List.concat_eq_append]at hd;have e:=Zp5 d.fs;rw[hd,List.map_append]at e;rw[e]at h;simp only[List.map_cons,List.map_nil]at h;rw[Zx7]at h;simp only[List.cons.injEq]at h;obtain⟨rfl,l⟩:=h;obtain⟨m,o⟩:=Zsx (gs:=[]) k hd t;refine⟨m,?_⟩;rw[o,e];exact l
def Zw5:∀(a b:List (DiD->DiD×Int)) {d c:DiD},srt FiD.nm d.fs->mendS (rowK d.fs).1 (rowK d.fs).2=a++b->b≠[]->runS d a=(c,0)->mendS (rowK c.fs).1 (rowK c.fs).2=b/\(srt FiD.nm c.fs/\keptF c.fs=keptF d.fs)
 | [],b,d,c,hs,h,hb,h1=>by simp only[runS,Prod.mk.injEq]at h1;rw[<-h1.1];exact⟨h,hs,rfl⟩
 |s::a,b,d,c,hs,h,hb,h1=>by obtain⟨m,f,g⟩:=Zf5 h1;obtain⟨e,i⟩:=step_mend hs h (by simp[hb]) f;obtain⟨j,k,l⟩:=Zw5 a b e.srt i hb g;exact⟨j,k,l.trans e.kept⟩
inductive Stp where
 |cre (s:BA)
 |wri (s:BA) (x:List UInt8)
 |syn (s:BA)
 |rem (s:BA)
 |cut (s:BA) (n:Int)
def Stp.run:Stp->DiD->DiD×Int
 | .cre s,d=>Za3 d s
 | .wri s x,d=>Zap d s x
 | .syn s,d=>Zat d s
 | .rem s,d=>Zae d s
 | .cut s n,d=>opCut d s n
def runP:DiD->List Stp->DiD×Int
 |d,[]=>(d,0)
 |d,s::l=>if(s.run d).2≠0 then s.run d else runP (s.run d).1 l
def runP_S:∀(l:List Stp) (d:DiD),runP d l=runS d (l.map Stp.run)
 | [],d=>rfl
 |s::l,d=>by rw[runP,List.map_cons,runS,runP_S l]
abbrev nmG(n:Int):BA:=Sgr.segNm n
theorem Zfx{n:Int}(h:inN n):nmG n=Jou.segNm n:=by
 unfold nmG Sgr.segNm;rw[if_pos (show 1<=n/\n<=99999999 from h)];rfl
def nmG_no(h:¬inN i):nmG i=ByteArray.mk #[]:=by
 unfold nmG Sgr.segNm;rw[if_neg (show¬(1<=i/\i<=99999999)from h)]
def cutP(p:Pt):List Stp:=if(segL p.d).length<p.n then[.cut (nmG p.d.num) (segL p.d).length]else[]
def synP(r:List Pt):List Stp:=match r.getLast? with
 |none=>[]
 |some p=>if p.d.sl=true then[]else[.syn (nmG p.d.num)]
def mendP(r:List Pt)(o:List BA):List Stp:=o.reverse.map Stp.rem++(r.reverse.flatMap cutP++synP r)
def Zsl{r:List Pt}{o:List BA}(h:∀p∈r,inN p.d.num):(mendP r o).map Stp.run=mendS r o:=by
 unfold mendP mendS;rw[List.map_append,List.map_append,List.map_map];congr 1;congr 1
 .rw[List.map_flatMap]
  have:∀p∈r.reverse,(cutP p).map Stp.run=cutS p:=λp b=>by
   unfold cutP cutS;rw[Zfx (h p (by simpa using b))]
   split<;>rfl
  revert this
  generalize r.reverse=l;intro this
  induction l with
  |nil=>rfl
  |cons x l c=>
   grind
 .unfold synP synS
  cases hr:r.getLast? with
  |none=>rfl
  |some p=>
   dsimp only
   rw[Zfx (h p (YM hr))]
   split<;>rfl
def repE(k:Int):StD->List Cod.EvD->StD×Bool
 |s,[]=>(s,true)
 |s,e::l=>if e.s<=k then repE k s l else if(appS s (toE e)).2≠0 then((appS s (toE e)).1,false)else repE k (appS s (toE e)).1 l
def repR(k:Int):StD->List Pt->StD×Bool
 |s,[]=>(s,true)
 |s,p::r=>if(p.d.ev.length:Int)≠p.d.s-p.d.bs then(s,false)else if(repE k s p.d.ev).2=false then repE k s p.d.ev else repR k (repE k s p.d.ev).1 r
def repP(r:List Pt)(s:StD):StD×Bool:=match r.head?,r.getLast? with
 |some p,some q=>if s.q<p.d.bs then(s,false)else if(repR s.q s r).2=false then repR s.q s r else((repR s.q s r).1,decide (q.d.a=(repR s.q s r).1.t))
 |_,_=>(s,true)
def Zh4(k:Int):∀(l:List Cod.EvD) (s:StD),repE k s l=((foldS s ((l.map toE).filter λe=>decide (k<e.s))).1,decide ((foldS s ((l.map toE).filter λe=>decide (k<e.s))).2.2=0))\/((repE k s l).2=false/\(foldS s ((l.map toE).filter λe=>decide (k<e.s))).2.2≠0)
 | [],s=>.inl rfl
 |e::l,s=>by
  rw[repE,List.map_cons,List.filter_cons];by_cases h:e.s<=k
  .have a:decide (k<(toE e).s)=false:=decide_eq_false (Int.not_lt.2 h);rw[if_pos h,a];exact Zh4 k l s
  .have a:decide (k<(toE e).s)=true:=decide_eq_true (Int.not_le.1 h);rw[if_neg h,a,if_pos rfl,foldS];by_cases h2:(appS s (toE e)).2≠0
   .grind
   simp_all[Zh4]
theorem Zlh:∀(l m:List Cmp.EvD) (s:StD),(foldS s l).2.2=0->(foldS s (l++m)).1=(foldS (foldS s l).1 m).1/\(foldS s (l++m)).2.2=(foldS (foldS s l).1 m).2.2
 | [],m,s,_=>⟨rfl,rfl⟩
 |e::l,m,s,h=>by
  rw[foldS]at h;rw[Y4,foldS,foldS];by_cases h2:(appS s e).2≠0
  .grind
  simp_all[Zlh]
theorem Zli:∀(l m:List Cmp.EvD) (s:StD),(foldS s l).2.2≠0->(foldS s (l++m)).2.2≠0
 | [],m,s,h=>absurd rfl h
 |e::l,m,s,h=>by
  rw[foldS]at h;rw[Y4,foldS];by_cases h2:(appS s e).2≠0
  .grind
  simp_all[Zli]
def Zot(k:Int):∀(r:List Pt) (s:StD),(repR k s r).2=true->(∀p∈r,(p.d.ev.length:Int)=p.d.s-p.d.bs)/\(foldS s ((evsR r).filter λe=>decide (k<e.s))).2.2=0/\(repR k s r).1=(foldS s ((evsR r).filter λe=>decide (k<e.s))).1
 | [],s,_=>⟨Vs,rfl,rfl⟩
 |p::r,s,h=>by
  rw[repR]at h|-;by_cases h1:(p.d.ev.length:Int)≠p.d.s-p.d.bs
  .grind
  rw[if_neg h1]at h|-;by_cases h2:(repE k s p.d.ev).2=false
  .grind
  rw[if_neg h2]at h|-;have g:evsR (p::r)=p.d.ev.map toE++evsR r:=rfl
  rcases Zh4 k p.d.ev s with e|⟨e,_⟩
  .rw[e]at h2 h|-;have f:(foldS s ((p.d.ev.map toE).filter λe=>decide (k<e.s))).2.2=0:=Vg;obtain⟨a,b,c⟩:=Zot k r _ h
   grind [Zlh,evsR]
  grind
def Zou(k:Int):∀(r:List Pt) (s:StD),(∀p∈r,(p.d.ev.length:Int)=p.d.s-p.d.bs)->(foldS s ((evsR r).filter λe=>decide (k<e.s))).2.2=0->(repR k s r).2=true
 | [],s,_,_=>rfl
 |p::r,s,h,h0=>by
  have a:evsR (p::r)=p.d.ev.map toE++evsR r:=rfl;rw[a,List.filter_append]at h0;rw[repR,if_neg (by simpa using h p Vs)]
  rcases Zh4 k p.d.ev s with e|⟨_,e⟩
  .by_cases h2:(foldS s ((p.d.ev.map toE).filter λe=>decide (k<e.s))).2.2=0
   .simp_all[Zlh,Zou]
   grind [Zli]
  grind [Zli]
def repP_iff{r:List Pt}{s:StD}:(repP r s).2=true↔GoodR r s.q s:=by
 unfold repP
 cases hr:r.head? with
 |none=>have:r=[]:=WW.1 hr;subst this;exact⟨λ_=>⟨Vs,Vs,rfl,Vs⟩,λ_=>rfl⟩
 |some p=>
  obtain⟨q,hq⟩:∃q,r.getLast?=some q:=by
   cases r with
   |nil=>cases hr
   |cons x l=>exact⟨_,Wx Vs⟩
  rw[hq]
  dsimp only
  constructor
  .intro h
   split at h
   .cases h
   rename_i j
   split at h
   .grind
   rename_i f;have g:(repR s.q s r).2=true:=Vg;obtain⟨a,b,c⟩:=Zot s.q r s g;refine⟨λx e=>?_,a,b,λx e=>?_⟩
   .grind
   .rw[hq]at e;cases e;have i:q.d.a=(repR s.q s r).1.t:=(by simpa using h);rw[i,c];rfl
  .intro h;have f:=Zou s.q r s h.cnt h.app;obtain⟨_,_,c⟩:=Zot s.q r s f;rw[if_neg (by have:=h.bs p hr;omega),if_neg (by rw[f];simp)];have:=h.at_ q hq;show decide _=true;rw[decide_eq_true_eq,c];exact this
theorem repP_st{r:List Pt}{s:StD}(h:GoodR r s.q s):(repP r s).1=stR r s.q s:=by
 unfold repP
 cases hr:r.head? with
 |none=>have:r=[]:=WW.1 hr;subst this;rfl
 |some p=>
  obtain⟨q,hq⟩:∃q,r.getLast?=some q:=by
   cases r with
   |nil=>cases hr
   |cons x l=>exact⟨_,Wx Vs⟩
  rw[hq]
  dsimp only
  have a:=Zou s.q r s h.cnt h.app;obtain⟨_,_,c⟩:=Zot s.q r s a;rw[if_neg (by have:=h.bs p hr;omega),if_neg (by rw[a];simp)];exact c
instance (b g:Int):Decidable (mayC b g):=inferInstanceAs (Decidable (_/\_))
def jo0(d:DiD):JoD:=⟨d,0,0,[],⟨0,0,[]⟩,st0,0,0,false⟩
noncomputable def menD(d:DiD):DiD×Int:=runP d (mendP (rowK d.fs).1 (rowK d.fs).2)
open Classical in
noncomputable def openP(d:DiD)(a b:Int):JoD×Int:=
 if¬(d.P/\mayC a b)then(jo0 d,1)else if d.dn=true then(jo0 d,16)
 else if¬GoodR (rowK d.fs).1 (keptF d.fs) (baseF d.fs)then(jo0 d,11)
 else if(menD d).2≠0 then(jo0 (menD d).1,(menD d).2)
 else(⟨(menD d).1,a,b,(rowK d.fs).1.map sgOf,Zbc (rowK d.fs).1,stR (rowK d.fs).1 (keptF d.fs) (baseF d.fs),(stR (rowK d.fs).1 (keptF d.fs) (baseF d.fs)).q,keptF d.fs,false⟩,0)
open Classical in
noncomputable def mayJ(j:JoD):Int:=if j.dk.P/\j.dk.dn=true then 16 else if¬RightJ j then 1 else 0
def Zbz{j:JoD}:mayJ j=0↔RightJ j:=by
 unfold mayJ;constructor
 .grind
 .intro h;rw[if_neg (λq=>by rw[h.up]at q;cases q.2),if_neg (by simp[h])]
structure WrD where
 j:JoD
 td:List Stp
 sz:Int
def bys(l:List Int):List UInt8:=l.map λn=>UInt8.ofNat n.toNat
def putW(w:WrD)(l:List SgD)(p:SgD)(b:List Int):WrD:=⟨{w.j with sg:=l++[{p with sz:=p.sz+b.length}]},w.td++[.wri (nmG p.num) (bys b)],w.sz+b.length⟩
def selB(j:JoD)(p:SgD):List Int:=fr 3 (slP (p.la-p.fi) j.cx.s j.cx.a)
def sealW(w:WrD)(l:List SgD)(p:SgD):WrD:=
 ⟨{w.j with sg:=l++[{p with sz:=p.sz+(selB w.j p).length,sl:=true}],cx:=⟨0,0,[]⟩,sure:=w.j.st.q},w.td++[.wri (nmG p.num) (bys (selB w.j p)),.syn (nmG p.num)],w.sz+(selB w.j p).length⟩
def lasS(l:List SgD):Option (List SgD×SgD):=match l.getLast? with|none=>none|some p=>some (l.dropLast,p)
theorem Zau(l:List SgD)(p:SgD):lasS (l++[p])=some (l,p):=by simp[lasS]
def nxtN(w:WrD):Int:=match lasS w.j.sg with|none=>1|some (_,p)=>p.num+1
def hedB(j:JoD)(n:Int):List Int:=fr 1 (hdP n j.st.q j.st.t)
def begW(w:WrD):Option WrD:=if¬inN (nxtN w)\/64<w.j.dk.fs.length+1 then none else
 some ⟨{w.j with sg:=w.j.sg++[⟨nxtN w,w.j.st.q,w.j.st.q,w.j.st.t,w.j.st.t,(hedB w.j (nxtN w)).length,false⟩],cx:=⟨w.j.st.q,w.j.st.t,[]⟩},w.td++[.cre (nmG (nxtN w)),.wri (nmG (nxtN w)) (bys (hedB w.j (nxtN w)))],w.sz+(hedB w.j (nxtN w)).length⟩
def recL'(j:JoD)(e:Cod.EvD):List Int:=fr 2 (encL j.cx.s j.cx.a j.cx.m e)
def recW(w:WrD)(e:Cod.EvD):Option WrD:=match lasS w.j.sg with
 |none=>none
 |some (l,p)=>if encE w.j.cx.s w.j.cx.a w.j.cx.m e≠0 then none else
  some ⟨{w.j with sg:=l++[{p with sz:=p.sz+(recL' w.j e).length,la:=e.s,ti:=e.a}],cx:=⟨e.s,e.a,bhdN w.j.cx.m e.c⟩},w.td++[.wri (nmG p.num) (bys (recL' w.j e))],w.sz+(recL' w.j e).length⟩
def opnW(w:WrD):Bool:=match lasS w.j.sg with|none=>false|some (_,p)=>!p.sl
def ovrB(j:JoD)(e:Cod.EvD):Bool:=match lasS j.sg with
 |none=>false
 |some (_,p)=>if p.sl=true\/p.la<=p.fi then false else if encE j.cx.s j.cx.a j.cx.m e≠0\/j.cb<p.sz+(recL' j e).length then true else decide (j.cg<e.a-p.fr)
def shtJ(j:JoD):JoD×Int:=({j with shut:=true},13)
def w0(j:JoD):WrD:=⟨j,[],0⟩
def w1(j:JoD)(e:Cod.EvD):WrD:=match lasS j.sg with|some (l,p)=>if ovrB j e=true then sealW (w0 j) l p else w0 j|none=>w0 j
def w2(j:JoD)(e:Cod.EvD):Option WrD:=if opnW (w1 j e)=true then some (w1 j e)else begW (w1 j e)
def w3(j:JoD)(e:Cod.EvD):Option WrD:=match w2 j e with|none=>none|some w=>recW w e
def endJ(j:JoD)(s:StD)(w:WrD):JoD×Int:=if j.dk.rm<usedL j.dk.fs+w.sz then shtJ j else if(runP j.dk w.td).2≠0 then({j with dk:=(runP j.dk w.td).1},(runP j.dk w.td).2)else({w.j with dk:=(runP j.dk w.td).1,st:=s},0)
def evN(j:JoD)(e:Cod.EvD):Cod.EvD:={e with s:=j.st.q+1}
def appQ(j:JoD)(e:Cod.EvD):JoD×Int:=
 if(appS j.st (toE (evN j e))).2≠0 then(j,(appS j.st (toE (evN j e))).2)else if j.shut=true then(j,13)else match w3 j (evN j e)with
 |none=>shtJ j
 |some w=>endJ j (appS j.st (toE (evN j e))).1 w
noncomputable def appP(j:JoD)(e:Cod.EvD):JoD×Int:=if mayJ j≠0 then(j,mayJ j)else appQ j e
def synQ(j:JoD):JoD×Int:=match lasS j.sg with
 |none=>({j with sure:=j.st.q},0)
 |some (_,p)=>if p.sl=true then({j with sure:=j.st.q},0)else if(Zat j.dk (nmG p.num)).2≠0 then({j with dk:=(Zat j.dk (nmG p.num)).1},(Zat j.dk (nmG p.num)).2)else({j with dk:=(Zat j.dk (nmG p.num)).1,sure:=j.st.q},0)
noncomputable def synJ(j:JoD):JoD×Int:=if mayJ j≠0 then(j,mayJ j)else synQ j
open Classical in
noncomputable def evsJ(j:JoD):List Cod.EvD:=if RightJ j then(rowK j.dk.fs).1.flatMap (·.d.ev)else[]
end Jou
namespace Jou
open Go Go.Px Go.Proofs Go.RowKit Go.Shelf Tryz
set_option maxHeartbeats 2000000
attribute [local go_sem] Oper.semAt_some
def backS:Zmt prog 183 (λc=>c 0) 1:=by
 refine⟨enters_of func183 Vk rfl,?_⟩;intro l o q p b off len h r s t J Kp d j u W f v w;have A:=f W (d W);refine callsIn_of_wp func183 rfl trivial ?_ rfl;simp only[Tryz.ntmps183,YL,List.length_cons,List.length_nil,Nat.reduceAdd,Nat.reduceSub,Wr,Ws,WI,WC,List.nil_append,Y4]
 gi_wp2
 gi_loopw [3] (λi wr=>∃k:Nat,k<=len/\i= .int .i64 ((len:Int)-1-k)/\J k wr/\Kp W wr)
  (λi _=>(intOf i+1).toNat)
 case atStart=>exact⟨0,W4 _,Vs,w,d _⟩
 case round=>
  obtain⟨k,K,rfl,g,a⟩:=hrel;have E:wr.cell? ⟨o,q,none⟩=some (.slice p len h):=f wr a;by_cases hlt:k<len
  .obtain⟨L,x,m,y,M,z⟩:=u k wr g hlt;have n:=s Vo;subst n;have C:wr.cell? ⟨b,off+(len-1-k),none⟩=some (r (len-1-k) 0):=by have:=v (len-1-k) Vo 0 Vo wr a;simpa using this
   have F:(0:Int)<=(len:Int)-1-k:=Vo;have D:(len:Int)-1-k<len:=Vo;have G:((len:Int)-1-k).toNat=len-1-k:=Vo
   gi_wp2
   refine z.mono ?_;rintro e H ⟨rfl,hJ3,hk3⟩
   gi_wp2
   go_roundw
   case rel=>exact⟨k+1,Vo,Vm,hJ3,j a hk3⟩
   case measure=>simp[intOf];omega
  .obtain rfl:k=len:=Vo
   gi_wp2
   go_end0
   exact⟨⟨_,rfl⟩,g⟩
def backP:Zmt prog 185 (λc=>.agg #[c 0,c 1,c 2,c 3,c 4,c 5,c 6,c 7,c 8,c 9,c 10]) 11:=by
 refine⟨enters_of func185 Vk rfl,?_⟩;intro l s t p b off len m d u v J Kp g n w W h f x;have C:=h W (g W);refine callsIn_of_wp func185 rfl trivial ?_ rfl;simp only[Tryz.ntmps185,YL,List.length_cons,List.length_nil,Nat.reduceAdd,Nat.reduceSub,Wr,Ws,WI,WC,List.nil_append,Y4]
 gi_wp2
 gi_loopw [3] (λi wr=>∃k:Nat,k<=len/\i= .int .i64 ((len:Int)-1-k)/\J k wr/\Kp W wr)
  (λi _=>(intOf i+1).toNat)
 case atStart=>exact⟨0,W4 _,Vs,x,g _⟩
 case round=>
  obtain⟨k,V,rfl,j,a⟩:=hrel;have Q:wr.cell? ⟨s,t,none⟩=some (.slice p len m):=h wr a;by_cases hlt:k<len
  .obtain⟨X,y,o,z,Y,A⟩:=w k wr j hlt;have q:=u Vo;subst q;have D:wr.cell? ⟨b,off+(len-1-k)*11,none⟩=some (d (len-1-k) 0):=by have:=f (len-1-k) Vo 0 Vo wr a;simpa using this
   have E:wr.cell? ⟨b,off+(len-1-k)*11+1,none⟩=some (d (len-1-k) 1):=(by have:=f (len-1-k) Vo 1 Vo wr a;simpa using this);have F:wr.cell? ⟨b,off+(len-1-k)*11+2,none⟩=some (d (len-1-k) 2):=(by have:=f (len-1-k) Vo 2 Vo wr a;simpa using this);have G:wr.cell? ⟨b,off+(len-1-k)*11+3,none⟩=some (d (len-1-k) 3):=(by have:=f (len-1-k) Vo 3 Vo wr a;simpa using this);have H:wr.cell? ⟨b,off+(len-1-k)*11+4,none⟩=some (d (len-1-k) 4):=(by have:=f (len-1-k) Vo 4 Vo wr a;simpa using this);have K:wr.cell? ⟨b,off+(len-1-k)*11+5,none⟩=some (d (len-1-k) 5):=(by have:=f (len-1-k) Vo 5 Vo wr a;simpa using this);have L:wr.cell? ⟨b,off+(len-1-k)*11+6,none⟩=some (d (len-1-k) 6):=(by have:=f (len-1-k) Vo 6 Vo wr a;simpa using this);have M:wr.cell? ⟨b,off+(len-1-k)*11+7,none⟩=some (d (len-1-k) 7):=(by have:=f (len-1-k) Vo 7 Vo wr a;simpa using this);have N:wr.cell? ⟨b,off+(len-1-k)*11+8,none⟩=some (d (len-1-k) 8):=(by have:=f (len-1-k) Vo 8 Vo wr a;simpa using this);have O:wr.cell? ⟨b,off+(len-1-k)*11+9,none⟩=some (d (len-1-k) 9):=(by have:=f (len-1-k) Vo 9 Vo wr a;simpa using this);have r:wr.cell? ⟨b,off+(len-1-k)*11+10,none⟩=some (d (len-1-k) 10):=(by have:=f (len-1-k) Vo 10 Vo wr a;simpa using this);have R:(0:Int)<=(len:Int)-1-k:=Vo;have P:(len:Int)-1-k<len:=Vo;have T:((len:Int)-1-k).toNat=len-1-k:=Vo
   gi_wp2
   refine A.mono ?_;rintro e U ⟨rfl,hJ3,hk3⟩
   gi_wp2
   go_roundw
   case rel=>exact⟨k+1,Vo,Vm,hJ3,n a hk3⟩
   case measure=>simp[intOf];omega
  .obtain rfl:k=len:=Vo
   gi_wp2
   go_end0
   exact⟨⟨_,rfl⟩,j⟩
def ItJ:Nat->Option (FuncId×TypeId):=λp=>bif Nat.beq p 12 then some (183,9)else bif Nat.beq p 22 then some (185,114)else none
def hItJ:∀p f e z,ItJ p=some (f,e)->szT prog e=some z->Zmt prog f (elOf prog e z) z:=by
 intro p f e z a b;unfold ItJ at a
 cases h1:Nat.beq p 12 with
 |true=>simp only[h1,cond_true,YA,Prod.mk.injEq]at a;obtain⟨rfl,rfl⟩:=a;obtain rfl:=Option.some.inj (b.symm.trans (show szT prog 9=some 1 by kernel_rfl));exact(show elOf prog 9 1=(λc=>c 0) by kernel_rfl)▸backS
 |false=>
  simp only[h1,cond_false]at a
  cases h2:Nat.beq p 22 with
  |true=>simp only[h2,cond_true,YA,Prod.mk.injEq]at a;obtain⟨rfl,rfl⟩:=a;obtain rfl:=Option.some.inj (b.symm.trans (show szT prog 114=some 11 by kernel_rfl));exact(show elOf prog 114 11=(λc=>.agg #[c 0,c 1,c 2,c 3,c 4,c 5,c 6,c 7,c 8,c 9,c 10]) by kernel_rfl)▸backP
  |false=>simp only[h2,cond_false]at a;cases a

import Derived.Test.YtaenkbbfockfgaaGreatDoorK13
import Derived.Test.YtaenkbbfockfgaaGreatDoorProg
import Derived.Lib.Join
import Derived.Lib.ItoaMem
import Derived.Lib.ItoaLen
import Derived.Lib.ParseIntB
set_option linter.all false
set_option maxRecDepth 100000
variable{b c e i j k:Int}{m n:Nat}{l r:Go.Px.LL}{Q:Go.Px.QQ}{s t:BA}{Y y:List Go.Px.FiD}{d:Go.Px.DiD}{x:List Int}{o:Bool}{f:Go.Px.FiD}{J:Go.Proofs.YtaenkbbfockfgaaGreatDoor.Jou.JoD}{g:Go.Proofs.YtaenkbbfockfgaaGreatDoor.Sx.StD}
namespace Go.Proofs.YtaenkbbfockfgaaGreatDoor
namespace Jou
open Go Go.Px Go.Proofs Cod Seg Sgr Snp Sx Row Tryz
def Zwm{c:DiD}{d e a:Int}{b:Bool}{g:List FiD}(f:Par (anewJ c d e a b) g)(h:mayC d e)(i:c.P)(j:c.dn=false)(k:keptF c.fs<=a)(l:a<=(anewJ c d e a b).st.q):RightJ (anewJ c d e a b):=by
 have m:=Zg0 f.dkr;have n:=f.good;have o:=f.all;refine⟨h,i,j,?_,?_,?_,rfl,k,l⟩
 .grind
 .grind
 grind
noncomputable def evG(a:List FiD):List Cod.EvD:=a.flatMap λf=>(scF f).ev
def Zni(h:RightJ J):evsJ J=evG (segs J.dk.fs):=by
 grind [h.row,List.flatMap_map,evsJ,evG]
def Zph:∀(a b:List Stp) {d c:DiD},runP d (a++b)=(c,0)->∃e,runP d a=(e,0)/\runP e b=(c,0)
 | [],b,d,c,h=>⟨d,rfl,h⟩
 |s::a,b,d,c,h=>by
  rw[Y2,runP]at h
  split at h
  .grind
  simp_all[runP,Zph]
def Zj8{d a:DiD}{s:Stp}{l:List Stp}(h:runP d (s::l)=(a,0)):∃b,s.run d=(b,0)/\runP b l=(a,0):=by
 grind [runP]
def step_P{s:Stp}(h:d.P):(s.run d).1.P:=by
 cases s
 .exact Zm8 h
 .exact Zm9 h
 .exact Zvm h
 .exact Zna h
 .exact opCut_P h
def runP_P:∀(l:List Stp) {d:DiD},d.P->(runP d l).1.P
 | [],d,h=>h
 |s::l,d,h=>by
  rw[runP]
  split
  .exact step_P h
  simp_all[runP_P,step_P]
def step_dn{s:Stp}{d c:DiD}(h:s.run d=(c,0)):c.dn=d.dn/\c.rm=d.rm:=by
 cases s
 .obtain⟨_,_,_,a,b⟩:=Zle h;exact⟨b,a⟩
 .obtain⟨_,_,_,_,a,b⟩:=Zdm h;exact⟨b,a⟩
 .obtain⟨_,_,_,_,a,b⟩:=Zld h;exact⟨b,a⟩
 .obtain⟨_,_,_,a,b⟩:=Zk4 h;exact⟨b,a⟩
 .obtain⟨_,_,_,_,_,_,a,b⟩:=Zuz h;exact⟨b,a⟩
def Ztk:∀(l:List Stp) {d f:DiD},runP d l=(f,0)->f.dn=d.dn/\f.rm=d.rm
 | [],d,f,h=>by cases h;exact⟨rfl,rfl⟩
 |s::l,d,f,h=>by
  obtain⟨j,g,i⟩:=Zj8 h;obtain⟨a,b⟩:=step_dn g;obtain⟨c,e⟩:=Ztk l i
  grind
def bys_i{b:List Int}(h:Byts b):((bys b).map λx=>(x.toNat:Int))=b:=iU_of h
def Zpi(s:BA)(a c:List UInt8)(b:List Int)(h:Byts b):byF ⟨s,a,c++bys b⟩=byF ⟨s,a,c⟩++b:=by rw[byF_app,bys_i h]
def run1(d:DiD)(s:Stp):runP d [s]=s.run d:=by
 grind [runP]
def Ztl{j:JoD}{n:Int}(b:inN n)(c:ctxOK j.st.q j.st.t):Byts (hedB j n)/\(hedB j n).length<=45:=by
 unfold ctxOK at c;have:=Zsf (n:=n) (s:=j.st.q) (a:=j.st.t) b.2
 grind [Zf2,hedB,Ziv,Zu3]
structure Took(j k:JoD)(e:Cod.EvD):Prop where
 right:RightJ k
 st:k.st=(appS j.st (toE e)).1
 ev:evsJ k=evsJ j++[e]
 cfg:k.cb=j.cb/\k.cg=j.cg
 kept:k.kept=j.kept
 shut:k.shut=j.shut
 sure:j.sure<=k.sure
 rm:k.dk.rm=j.dk.rm
def encE_ok{e:Cod.EvD}(h:encE J.cx.s J.cx.a J.cx.m e=0):EncOK J.cx.s J.cx.a J.cx.m e:=Zcy.1 h
theorem sg_last(h:Par J (y++[f])):J.sg=(y.map (ptF scF)).map sgOf++[sgOf ⟨scF f,f.len⟩]:=by rw[h.sg];simp[ptF]
def cx_open(h:Par J (y++[f]))(c:(scF f).sl=false):J.cx=⟨(scF f).s,(scF f).a,(scF f).m⟩:=by
 grind [h.cx,Zbg]
def Zl8(a b:List FiD):evG (a++b)=evG a++evG b:=List.flatMap_append
def Zib(a:List FiD)(f:FiD):evG (a++[f])=evG a++(scF f).ev:=by rw[Zl8];simp[evG]
def Par.in_(h:Par J (y++[f])):ScOK (scF f)/\byF f=segL (scF f)/\(scF f).num≠0/\f.nm=nmG (scF f).num/\inN (scF f).num/\numS f.nm≠0:=by
 obtain⟨d,e,b3,a⟩:=h.dkr.bytes h.all f Vs;obtain⟨g,b⟩:=h.name f Vs;exact⟨d,e,by rw[b3];exact a,by rw[Zhm b];exact g,b,a⟩
def rec_anew{j:JoD}{v:List FiD}{g:FiD}(h:Par j (v++[g]))(k:(scF g).sl=false){e:Cod.EvD}(w:e.s=j.st.q+1)(D:encE j.cx.s j.cx.a j.cx.m e=0)(E:(appS j.st (toE e)).2=0){l:DiD}(F:Zau j.dk (nmG (scF g).num) (bys (recL' j e))=(l,0))(n o b:Int)(d:Bool):
  anewJ l n o b d=⟨l,n,o,(v.map (ptF scF)).map sgOf++[{sgOf ⟨scF g,g.len⟩with sz:=(sgOf ⟨scF g,g.len⟩).sz+(recL' j e).length,la:=e.s,ti:=e.a}],⟨e.s,e.a,bhdN j.cx.m e.c⟩,(appS j.st (toE e)).1,b,j.kept,d⟩/\
   ∃f,Par (anewJ l n o b d) (v++[f])/\(scF f).ev=(scF g).ev++[e]/\(scF f).sl=false:=by
 obtain⟨G,H,b3,y,b5,M⟩:=h.in_;have r:=cx_open h k;have i:=encE_ok D;rw[r]at i
 dsimp only at i
 have hx:recL' j e=recB (scF g) e:=by grind [recL',recB]
 have t:Byts (recL' j e):=(by rw[hx];unfold recB;exact Ziv Vo (by have:=Zhr i;omega) Zie)
 obtain⟨_,f,J,p,_,_⟩:=Zdm F;have A:g∈j.dk.fs:=(List.mem_filter.1 (show g∈segs j.dk.fs by rw[h.dkr.eq];simp)).1
 have C:f=g:=by
  rw[<-y,Zqk h.dkr.srt A]at J
  grind
 subst C;rw[<-y]at p;obtain⟨e1,K⟩:=anew_add h k w i E (x:=bys (recL' j e)) (by rw[bys_i t,hx]) p n o b d;obtain⟨L,z⟩:=Zz0 G b3 k i;have u:scF ⟨f.nm,f.su,f.lo++bys (recL' j e)⟩=addS (scF f) e:=Zbw L (by rw[Zpi _ _ _ _ t,z,<-H,hx]);refine⟨?_,_,K,by rw[u];rfl,by rw[u];exact k⟩;rw[e1,r];congr 3;simp only[sgOf,z,List.length_append,hx]
 all_goals first|done|rfl|omega|(congr 1;omega)
def seal_anew{j:JoD}{m:List FiD}{g:FiD}(h:Par j (m++[g]))(n:(scF g).sl=false){d:DiD}(w:runP j.dk [.wri (nmG (scF g).num) (bys (selB j (sgOf ⟨scF g,g.len⟩))),.syn (nmG (scF g).num)]=(d,0))(e i a:Int)(b:Bool):
  anewJ d e i a b=⟨d,e,i,(m.map (ptF scF)).map sgOf++[{sgOf ⟨scF g,g.len⟩with sz:=(sgOf ⟨scF g,g.len⟩).sz+(selB j (sgOf ⟨scF g,g.len⟩)).length,sl:=true}],⟨0,0,[]⟩,j.st,a,j.kept,b⟩/\
   ∃f,Par (anewJ d e i a b) (m++[f])/\(scF f).ev=(scF g).ev/\(scF f).sl=true/\(scF f).num=(scF g).num:=by
 obtain⟨o,x,b3,p,b5,E⟩:=h.in_;have D:=cx_open h n;have G:((scF g).ev.length:Int)=(scF g).s-(scF g).bs:=h.good.cnt (ptF scF g) Vs
 have hx:selB j (sgOf ⟨scF g,g.len⟩)=seaB (scF g):=by
  grind [sgOf,selB,seaB]
 have t:Byts (selB j (sgOf ⟨scF g,g.len⟩)):=(by rw[hx];have:=slP_len o b3;exact Ziv Vo Vo (Zvh _ _ _));obtain⟨F,y,q⟩:=Zj8 w;rw[run1]at q;obtain⟨f,z,k⟩:=app_sync h.dkr.srt y q;have u:g∈j.dk.fs:=(List.mem_filter.1 (show g∈segs j.dk.fs by rw[h.dkr.eq];simp)).1
 have v:f=g:=by
  rw[<-p,Zqk h.dkr.srt u]at z
  grind
 subst v;rw[<-p]at k
 have l:byF ⟨f.nm,f.su++(f.lo++bys (selB j (sgOf ⟨scF f,f.len⟩))),[]⟩=byF f++seaB (scF f):=by
  rw[<-hx,<-Zpi f.nm f.su f.lo _ t]
  grind [byF]
 obtain⟨e1,A⟩:=Zzl h n (f:=⟨f.nm,f.su++(f.lo++bys (selB j (sgOf ⟨scF f,f.len⟩))),[]⟩) rfl l k e i a b;obtain⟨C,r⟩:=Zt4 o b3 n;have c:scF ⟨f.nm,f.su++(f.lo++bys (selB j (sgOf ⟨scF f,f.len⟩))),[]⟩=sealS (scF f):=Zbw C (by rw[l,r,<-x]);refine⟨?_,_,A,by rw[c];rfl,by rw[c];rfl,by rw[c];rfl⟩;rw[e1,hx];congr 3;simp only[sgOf,r,List.length_append]
 all_goals first|done|rfl|omega|(congr 1;omega)
def new_anew{j:JoD}{i:List FiD}(h:Par j i){n:Int}(k:∀g,i.getLast?=some g->(scF g).sl=true/\n=(scF g).num+1)(o:inN n)(A:i=[]->n=1)(hst:j.st.P){e:Cod.EvD}(C:e.s=j.st.q+1)(K:encE j.st.q j.st.t [] e=0)(L:(appS j.st (toE e)).2=0){p:DiD}(M:runP j.dk [.cre (nmG n),.wri (nmG n) (bys (hedB j n)),.wri (nmG n) (bys (fr 2 (encL j.st.q j.st.t [] e)))]=(p,0))(r u b:Int)(d:Bool):
  anewJ p r u b d=⟨p,r,u,(i.map (ptF scF)).map sgOf++[⟨n,j.st.q,e.s,j.st.t,e.a,(hedB j n).length+(fr 2 (encL j.st.q j.st.t [] e)).length,false⟩],⟨e.s,e.a,bhdN [] e.c⟩,(appS j.st (toE e)).1,b,j.kept,d⟩/\
   ∃f,Par (anewJ p r u b d) (i++[f])/\(scF f).ev=[e]/\(scF f).sl=false:=by
 have H:=Zqj hst
 have v:headOK n j.st.q j.st.t:=⟨o,H⟩
 have m:=Zcy.1 K;obtain⟨D,_⟩:=Ztl (j:=j) o H;have J:Byts (fr 2 (encL j.st.q j.st.t [] e)):=Ziv Vo (by have:=Zhr m;omega) Zie;obtain⟨R,N,y⟩:=Zj8 M;obtain⟨T,y,E⟩:=Zj8 y;rw[run1]at E;obtain⟨hno,F⟩:=new_app h.dkr.srt N y E;have w:byF ⟨nmG n,[],bys (hedB j n)++bys (fr 2 (encL j.st.q j.st.t [] e))⟩=fr 1 (hdP n j.st.q j.st.t)++fr 2 (encL j.st.q j.st.t [] e):=by rw[Zpi _ _ _ _ J];have:=Zpi (nmG n) [] [] _ D;rw[Y5]at this;rw[this];rfl
 have z:∀g∈i,numS g.nm<n:=by
  rcases Y4 i with rfl|⟨l,g,rfl⟩
  .simp
  .rw[List.concat_eq_append]at h k|-;have:=k g Vs;rw[this.2];exact h.big
 obtain⟨e1,O⟩:=anew_new h k o A (f:=⟨nmG n,[],bys (hedB j n)++bys (fr 2 (encL j.st.q j.st.t [] e))⟩) (Zhm o) hno z C v m L w F r u b d;obtain⟨Q,G⟩:=Zz1 v m;have x:scF ⟨nmG n,[],bys (hedB j n)++bys (fr 2 (encL j.st.q j.st.t [] e))⟩=newS n j.st.q j.st.t e:=Zbw Q (by rw[w,G]);refine⟨?_,_,O,by rw[x];rfl,by rw[x];rfl⟩;rw[e1];congr 3;simp only[sgOf,G,List.length_append];show(⟨n,j.st.q,e.s,j.st.t,e.a,_,false⟩:SgD)=_;congr 1
def st0_sure(h:RightJ J):keptF J.dk.fs<=J.sure/\J.sure<=J.st.q/\J.kept=keptF J.dk.fs:=⟨h.sure.1,h.sure.2,h.par.kept⟩
def kept_same{f:List SgD}{c:CxD}(h:anewJ d i e j o=⟨d,i,e,f,c,g,j,k,o⟩):keptF d.fs=k:=congrArg JoD.kept h
def took_of{j k:JoD}{e:Cod.EvD}(b:RightJ j)(n:(appS j.st (toE e)).2=0)(f:e.s=j.st.q+1){gs':List FiD}(a:k=anewJ k.dk j.cb j.cg k.sure j.shut)(hst:k.st=(appS j.st (toE e)).1)(g:k.kept=j.kept)(h:Par (anewJ k.dk j.cb j.cg k.sure j.shut) gs')(i:evG gs'=evG (segs j.dk.fs)++[e])(p:k.sure=j.sure\/k.sure=j.st.q)(o:k.dk.P)(c:k.dk.dn=j.dk.dn/\k.dk.rm=j.dk.rm):Took j k e:=by
 obtain⟨t,u,v⟩:=st0_sure b;have w:k.st.q=j.st.q+1:=by rw[hst,(Zw5 n).1];exact f
 have r:k.kept=keptF k.dk.fs:=(by rw[a];rfl);have l:RightJ k:=(by have d:(anewJ k.dk j.cb j.cg k.sure j.shut).st=k.st:=(by rw[<-a]);rw[a];exact Zwm h b.cfg o (by rw[c.1];exact b.up) Vo (by rw[d];omega));have m:segs k.dk.fs=gs':=h.dkr.eq;exact⟨l,hst,by rw[Zni l,Zni b,m,i],by rw[a];exact⟨rfl,rfl⟩,g,by rw[a];rfl,Vo,c.2⟩
def Zy9(j:JoD)(b:RightJ j):(segs j.dk.fs=[]/\j.sg=[])\/∃a g,segs j.dk.fs=a++[g]/\Par j (a++[g])/\j.sg=(a.map (ptF scF)).map sgOf++[sgOf ⟨scF g,g.len⟩]:=by
 have c:=b.par
 rcases Y4 (segs j.dk.fs)with e|⟨a,g,e⟩
 .grind [c.sg,left]
 grind [sg_last]
def Zpj{j k:JoD}(E:RightJ j){Y:Cod.EvD}(h:appQ j Y=(k,0)):Took j k (evN j Y):=by
 have hF:=E.fct;generalize he:evN j Y=e at*;have D:e.s=j.st.q+1:=(by rw[<-he];rfl);unfold appQ at h;rw[he]at h
 split at h
 .grind
 rename_i g;have U:(appS j.st (toE e)).2=0:=by simpa using g
 split at h
 .cases h
 rename_i aa
 split at h
 .cases h
 rename_i w b;unfold endJ at h
 split at h
 .cases h
 rename_i a8
 split at h
 .grind
 rename_i hz;have hz:(runP j.dk w.td).2=0:=Vg
 obtain⟨J,hd'⟩:∃J,runP j.dk w.td=(J,0):=⟨_,by rw[<-hz]⟩
 rw[hd']at h;rw[Prod.mk.injEq]at h;have hk:=h.1;have hP:J.P:=by have:=runP_P w.td E.dk;rw[hd']at this;exact this
 have W:=Ztk _ hd';unfold w3 at b
 cases hw2:w2 j e with
 |none=>rw[hw2]at b;cases b
 |some v=>
 rw[hw2]at b;have b:recW v e=some w:=b
 have a9:∀{d:List FiD} {g:FiD},segs j.dk.fs=d++[g]->Par j (d++[g])->j.sg=(d.map (ptF scF)).map sgOf++[sgOf ⟨scF g,g.len⟩]->(scF g).sl=false->v=w0 j->Took j k e:=by
  intro d g A y z r hv;subst hv;have o:recW (w0 j) e=some w:=b;unfold recW at o;rw[show(w0 j).j.sg=_ from z,Zav]at o
  dsimp only at o
  split at o
  .cases o
  rename_i G;have G:encE j.cx.s j.cx.a j.cx.m e=0:=Yw.1 G;have o:=Option.some.inj o;subst o;have hr:Zau j.dk (nmG (scF g).num) (bys (recL' j e))=(J,0):=(run1 j.dk (.wri (nmG (scF g).num) (bys (recL' j e)))).symm.trans hd';obtain⟨e1,f,L,M,_⟩:=rec_anew y r D G U hr j.cb j.cg j.sure j.shut;subst hk;exact took_of E U D (gs':=d++[f]) e1.symm rfl rfl L (by rw[A,Zib,Zib,M,List.append_assoc]) (.inl rfl) hP W
 have C:∀(c:JoD) (d:List FiD) (F:List Stp) (H:Int),Par c d->(∀g,d.getLast?=some g->(scF g).sl=true)->c.st=j.st->c.kept=j.kept->c.cb=j.cb->c.cg=j.cg->c.shut=j.shut->runP j.dk F=(c.dk,0)->(c.sure=j.sure\/c.sure=j.st.q)->evG d=evG (segs j.dk.fs)->
   ∀u:DiD,begW ⟨{c with dk:=u},F,H⟩=some v->Took j k e:=by
  intro c d F H y r hst a2 a3 a4 R Z a5 a6 u i
  have hn:nxtN ⟨{c with dk:=u},F,H⟩=match d.getLast? with|none=>1|some g=>(scF g).num+1:=by
   unfold nxtN;show(match lasS c.sg with|none=>1|some (_,p)=>p.num+1)=_;rw[y.sg]
   rcases Y4 d with e|⟨l,g,e⟩
   .rw[e];rfl
   .rw[e,List.concat_eq_append];simp only[List.map_append,List.map_cons,List.map_nil,Zav,List.getLast?_concat];rfl
  unfold begW at i
  split at i
  .cases i
  rename_i hno;have a7:inN (nxtN ⟨{c with dk:=u},F,H⟩):=Classical.byContradiction λq=>hno (.inl q);generalize hN:nxtN ⟨{c with dk:=u},F,H⟩=n at*;have i:=Option.some.inj i;subst i;unfold recW at b;rw[Zav]at b
  dsimp only at b
  split at b
  .cases b
  rename_i G;have G:encE c.st.q c.st.t [] e=0:=Vg;have b:=Option.some.inj b;subst b
  dsimp only at hd'
  rw[List.append_assoc]at hd';obtain⟨T,N,r2⟩:=Zph _ _ hd';rw[Z,Prod.mk.injEq]at N;rw[<-N.1]at r2
  have V:∀g,d.getLast?=some g->(scF g).sl=true/\n=(scF g).num+1:=λg hg=>⟨r g hg,by rw[hn,hg]⟩
  obtain⟨e1,f,L,M,_⟩:=new_anew y V a7 (λq=>by rw[hn,q];rfl) (by rw[hst];exact hF.st) (by rw[hst];exact D) G (by rw[hst];exact U) r2 j.cb j.cg c.sure j.shut;subst hk;refine took_of E U D (gs':=d++[f]) ?_ rfl a2 L (by rw[Zib,M,a6]) a5 hP W;show _=anewJ J j.cb j.cg c.sure j.shut;have hh:hedB c n=fr 1 (hdP n j.st.q j.st.t):=(by grind [hst,hedB]);rw[e1,y.sg,a3,a4,R,hst,hh];rfl
 rcases Zy9 j E with⟨A,z⟩|⟨d,g,A,y,z⟩
 .have e1:w1 j e=w0 j:=(by unfold w1;rw[z];rfl);have Q:opnW (w1 j e)=false:=(by rw[e1];unfold opnW;rw[show(w0 j).j.sg=[]from z];rfl);unfold w2 at hw2;rw[if_neg (by simp[Q]),e1]at hw2;exact C j [] [] 0 (by have:=E.par;rw[A]at this;exact this) Vs rfl rfl rfl rfl rfl rfl (.inl rfl) (by rw[A]) j.dk hw2
 .by_cases r:(scF g).sl=true
  .have e1:w1 j e=w0 j:=by
    grind [Zav,sgOf,w1,ovrB]
   have Q:opnW (w1 j e)=false:=(by grind [e1,Zav,sgOf,opnW,w0]);unfold w2 at hw2;rw[if_neg (by simp[Q]),e1]at hw2;exact C j (d++[g]) [] 0 y (λx hx=>by simp at hx;subst hx;exact r) rfl rfl rfl rfl rfl rfl (.inl rfl) (by rw[A]) j.dk hw2
  .have r:(scF g).sl=false:=Vg;by_cases hov:ovrB j e=true
   .have e1:w1 j e=sealW (w0 j) ((d.map (ptF scF)).map sgOf) (sgOf ⟨scF g,g.len⟩):=by
     grind [Zav,w1]
    have Q:opnW (w1 j e)=false:=(by grind [e1,Zav,opnW,sealW]);unfold w2 at hw2;rw[if_neg (by simp[Q]),e1]at hw2
    have O:∃K,w.td=[.wri (nmG (scF g).num) (bys (selB j (sgOf ⟨scF g,g.len⟩))),.syn (nmG (scF g).num)]++K:=by
     have i:=hw2;unfold begW at i
     split at i
     .cases i
     have i:=Option.some.inj i;unfold recW at b;rw[<-i]at b
     dsimp only at b
     rw[Zav]at b
     dsimp only at b
     split at b
     .cases b
     have b:=Option.some.inj b;rw[<-b];exact⟨_,by simp only[sealW,w0,Y5,List.append_assoc];rfl⟩
    obtain⟨K,O⟩:=O;have X:=hd';rw[O]at X;obtain⟨T,N,r2⟩:=Zph _ _ X;obtain⟨s1,f,L,M,v2,v3⟩:=seal_anew y r N j.cb j.cg j.st.q j.shut;have a0:(anewJ T j.cb j.cg j.st.q j.shut).st=j.st:=(by rw[s1]);have a1:(anewJ T j.cb j.cg j.st.q j.shut).kept=j.kept:=(by rw[s1]);refine C (anewJ T j.cb j.cg j.st.q j.shut) (d++[f]) [.wri (nmG (scF g).num) (bys (selB j (sgOf ⟨scF g,g.len⟩))),.syn (nmG (scF g).num)] (0+(selB j (sgOf ⟨scF g,g.len⟩)).length) L (λx hx=>by simp at hx;subst hx;exact v2) a0 a1 rfl rfl rfl N (.inr rfl) (by rw[A,Zib,Zib,M]) j.dk ?_;rw[<-hw2,s1];rfl
   grind [Zav,e1,sgOf,w1,opnW,w2,ovrB,w0]
def row_in(l:List FiD):∀p∈(rowK l).1,inN p.d.num:=by
 obtain⟨n,h,b,_⟩:=Zm2 l;intro p a;rw[h]at a;obtain⟨f,c,rfl⟩:=Ya.1 a;have:=Zdo b f c;show inN (scF f).num;rw[this];exact(Zc0 (Zb9 f (List.mem_of_mem_take c))).1
def menD_S(d:DiD):menD d=runS d (mendS (rowK d.fs).1 (rowK d.fs).2):=by
 unfold menD;rw[runP_S,mendP_S (row_in d.fs)]
structure Opened(d:DiD)(cb cg:Int)(k:JoD):Prop where
 P:d.P
 cfg:mayC cb cg
 dn:d.dn=false
 good:GoodR (rowK d.fs).1 (keptF d.fs) (baseF d.fs)
 men:menD d=(k.dk,0)
 eq:k=anewJ k.dk cb cg k.st.q false
 st:k.st=stR (rowK d.fs).1 (keptF d.fs) (baseF d.fs)
 right:RightJ k
def stR_qk(h:DkR y Y)(b:GoodR (Y.map (ptF scF)) (keptF y) (baseF y)):keptF y<=(stR (Y.map (ptF scF)) (keptF y) (baseF y)).q:=by
 rcases Y4 Y with rfl|⟨Y,g,rfl⟩
 .show keptF y<=(baseF y).q;rw[Zqh];exact Yd _
 .rw[List.concat_eq_append]at h b|-;rw[stR_q h b];exact h.kept (ptF scF g) Vs
def Zzm{k:JoD}(h:openP d c e=(k,0)):Opened d c e k:=by
 unfold openP at h
 split at h
 .cases h
 rename_i b;have b:=Yw.1 b
 split at h
 .cases h
 rename_i m
 split at h
 .cases h
 rename_i g;have g:=Yw.1 g
 split at h
 next f=>rw[Prod.mk.injEq]at h;exact absurd h.2 f
 rename_i f;have f:(menD d).2=0:=(by simpa using f);have j:d.dn=false:=by simpa using m
 obtain⟨a,hm⟩:∃a,menD d=(a,0):=⟨_,by rw[<-f]⟩
 rw[hm,Prod.mk.injEq]at h;have n:=h.1;rw[menD_S]at hm;obtain⟨e1,i⟩:=Zwz b.1.2.2.2 g hm c e (stR (rowK d.fs).1 (keptF d.fs) (baseF d.fs)).q false;rw[<-menD_S]at hm;have o:a.P:=by have:=runP_P (mendP (rowK d.fs).1 (rowK d.fs).2) b.1;rw[show runP d _=(a,0)from hm]at this;exact this
 have p:=(Ztk _ (show runP d (mendP (rowK d.fs).1 (rowK d.fs).2)=(a,0)from hm)).1;have l:k=anewJ a c e (stR (rowK d.fs).1 (keptF d.fs) (baseF d.fs)).q false:=(by rw[e1,<-n]);have hst:(anewJ a c e (stR (rowK d.fs).1 (keptF d.fs) (baseF d.fs)).q false).st=stR (rowK d.fs).1 (keptF d.fs) (baseF d.fs):=(by rw[e1]);have s:keptF a.fs=keptF d.fs:=kept_same e1;have r:keptF a.fs<=(stR (rowK d.fs).1 (keptF d.fs) (baseF d.fs)).q:=(by have:=i.st;rw[hst]at this;rw[this];exact stR_qk i.dkr i.good);subst l;refine⟨b.1,b.2,j,g,hm,?_,hst,Zwm i b.2 o (by rw[p];exact j) r (by rw[hst];exact Yd _)⟩;rw[hst];rfl
def open_is{d a:DiD}{cb cg:Int}(b:d.P)(h:mayC cb cg)(c:d.dn=false)(e:GoodR (rowK d.fs).1 (keptF d.fs) (baseF d.fs))(f:menD d=(a,0)):openP d cb cg=(anewJ a cb cg (stR (rowK d.fs).1 (keptF d.fs) (baseF d.fs)).q false,0):=by
 have g:=f;rw[menD_S]at g;obtain⟨e1,_⟩:=Zwz b.2.2.2 e g cb cg (stR (rowK d.fs).1 (keptF d.fs) (baseF d.fs)).q false;unfold openP;rw[if_neg (by simp[b,h]),if_neg (by simp[c]),if_neg (by simp[e]),f,if_neg Vs,e1]
end Jou
namespace Jou
open Go Go.Px Go.Proofs Cod Seg Sgr Snp Sx Row Dsk Tryz
def lim_P{d:StD}(h:d.P):lim d:=by
 refine⟨by have:=h.1.1;omega,λc a=>?_⟩;have:=(h.2.1 c a).2;unfold Cmp.CoD.roleP at this
 split at this
 .have:=this.1.2.2.2.1.2;omega
 .split at this
  .rw[this.1.1.2.2.2];simp
  .rw[this.2.1.2.2.2];simp
def ev_len{p:Pt}(h:PtK p):p.d.ev.length<=(segL p.d).length:=by
 have b:∀(l:List Cod.EvD) (s a:Int) (m:List BA),l.length<=(recL s a m l).length:=λl=>by
  induction l with
  |nil=>intro s a m;simp
  |cons e l f=>
   intro s a m;rw[recL,List.length_append,List.length_cons];have:=f e.s e.a (bhdN m e.c);have g:0<(fr 2 (encL s a m e)).length:=by unfold fr sealB;simp
   omega
 rw[Zb7 h.ne,List.length_append,List.length_append];have:=b p.d.ev p.d.bs p.d.ba [];omega
def jrep_fn(r:List Pt)(G:∀p∈r,PtK p)(T:r.length<=1000000)(s:StD)(H:s.P):Ct prog 99 {} [SL 11 (ptR r),s.sv] (λx=>x=[(repP r s).1.sv,B (repP r s).2]):=by
 refine Zyr (Zaa (λh=>?_) (λh=>?_))
 .have:r=[]:=Ys.1 (by simpa using h);subst this;rfl
 have J:0<r.length:=by
  rcases WF r.length with e|e
  .simp[e]at h
  .exact e
 have z:r.head?=some r[0]:=(by cases r with|nil=>simp at J|cons x l=>rfl);have v:r.length-1<r.length:=Vo;have A:r.getLast?=some r[r.length-1]:=(by rw[List.getLast?_eq_getElem?];simp[v]);have k:repP r s=if s.q<r[0].d.bs then(s,false)else if(repR s.q s r).2=false then repR s.q s r else((repR s.q s r).1,decide (r[r.length-1].d.a=(repR s.q s r).1.t)):=(by unfold repP;rw[z,A]);refine⟨inM _ Vo Vo,_,_,_,_,_,_,_,_,_,_,_,Zbm ptRow r 0 Vo Vo,Zaa (λo=>?_) (λo=>?_)⟩
 .simp at o;rw[k,if_pos o]
 simp at o;rw[if_neg Vo]at k;refine⟨λx l q t=>∃b:StD,l=coR b.cs/\q=b.q/\t=b.t/\lim b/\0<=x/\x<=r.length/\repR s.q b (r.drop x.toNat)=repR s.q s r,λx _ _ _=>(r.length-x).toNat,⟨s,rfl,rfl,rfl,lim_P H,Vo,Vo,Vs⟩,?_⟩;rintro x l q t ⟨b,rfl,rfl,rfl,hL,x0,hx,he⟩;have C:rlen (ptR r)=r.length:=Vs;rw[C];refine Zaa (λg=>?_) (λg=>?_)
 rotate_left
 .simp at g;have K:x.toNat=r.length:=Vo;rw[K,List.drop_length,repR]at he;have L:wsub IntKind.i64 (r.length:Int) 1=((r.length-1:Nat):Int):=by rw[Zap];omega
  rw[L];refine⟨inM _ Vo Vo,_,_,_,_,_,_,_,_,_,_,_,Zfo v,?_⟩
  dsimp only
  rw[k,<-he,if_neg Vs];simp
 simp at g;have w:x.toNat<r.length:=Vo;have m:=G _ (List.getElem_mem w);have D:r.drop x.toNat=r[x.toNat]::r.drop (x.toNat+1):=List.drop_eq_getElem_cons w;rw[D,repR]at he;have M:=m.bs;have N:=m.s;unfold ctxOK at M N;refine⟨inM _ x0 g,_,_,_,_,_,_,_,_,_,_,_,Zbm ptRow r x x0 g,?_⟩
 dsimp only
 rw[Zap];have E:rlen (evR r[x.toNat].d.ev)=r[x.toNat].d.ev.length:=Vs;rw[E];refine Zaa (λc=>?_) (λc=>?_)
 .have c:(r[x.toNat].d.ev.length:Int)≠r[x.toNat].d.s-r[x.toNat].d.bs:=(by simpa using c);rw[if_pos c]at he;rw[k,<-he];rfl
 have c:¬(r[x.toNat].d.ev.length:Int)≠r[x.toNat].d.s-r[x.toNat].d.bs:=(by simpa using c);rw[if_neg c]at he;refine⟨λy l q t=>∃u:StD,l=coR u.cs/\q=u.q/\t=u.t/\lim u/\0<=y/\y<=r[x.toNat].d.ev.length/\repE s.q u (r[x.toNat].d.ev.drop y.toNat)=repE s.q b r[x.toNat].d.ev,λy _ _ _=>(r[x.toNat].d.ev.length-y).toNat,⟨b,rfl,rfl,rfl,hL,Vo,Vo,Vs⟩,?_⟩;rintro y l q t ⟨u,rfl,rfl,rfl,hU,y0,hy,hu⟩;refine Zaa (λi=>?_) (λi=>?_)
 rotate_left
 .simp at i;have O:y.toNat=r[x.toNat].d.ev.length:=Vo;rw[O,List.drop_length,repE]at hu;rw[<-hu,if_neg Vs]at he;rw[Zac];exact⟨rfl,⟨u,rfl,rfl,rfl,hU,Vo,Vo,by rw[show(x+1).toNat=x.toNat+1 by omega];exact he⟩,mlt (by first|omega|(dsimp only;omega))⟩
 simp at i;have F:y.toNat<r[x.toNat].d.ev.length:=Vo;have Q:=ev_len m;rw[List.drop_eq_getElem_cons F,repE]at hu;have R:(r[x.toNat].d.ev.length:Int)<=9223372036854775806:=by have:=m.le;have:=m.n;omega
 refine⟨inM _ y0 i,_,_,_,_,_,_,_,Zbm _ _ y y0 i,Zaa (λj=>?_) (λj=>Cl.of (Zqe u (by have:=hU.1;omega) (toE r[x.toNat].d.ev[y.toNat])) ⟨_,_,_,_,rfl,Zaa (λf=>?_) (λf=>?_)⟩)⟩
 .simp at j;rw[if_pos j]at hu;rw[Zac];exact⟨rfl,⟨u,rfl,rfl,rfl,hU,Vo,Vo,by rw[show(y+1).toNat=y.toNat+1 by omega];exact hu⟩,mlt (by first|omega|(dsimp only;omega))⟩
 .simp at j;rw[if_neg Vo]at hu;have f:(appS u (toE r[x.toNat].d.ev[y.toNat])).2≠0:=(by simpa using f);rw[if_pos f]at hu;rw[<-hu,if_pos rfl]at he;rw[k,<-he];rfl
 .simp at j;rw[if_neg Vo]at hu;have f:(appS u (toE r[x.toNat].d.ev[y.toNat])).2=0:=(by simpa using f);rw[if_neg (by simp[f])]at hu;rw[Zac];exact⟨rfl,⟨_,rfl,rfl,rfl,lim_app hU _,Vo,Vo,by rw[show(y+1).toNat=y.toNat+1 by omega];exact hu⟩,mlt (by first|omega|(dsimp only;omega))⟩
def new_cases(a:d.P)(b:d.dn=false)(h:NewR d g e):(e=0/\keptF d.fs=g.q/\baseF d.fs=g)\/(e=14/\g=st0/\keptF d.fs=0/\baseF d.fs=st0):=by
 rcases h with⟨h,_⟩|⟨_,h,_⟩|⟨_,_,⟨he,hb⟩|⟨he,hs,hb⟩⟩
 .exact absurd a h
 .rw[b]at h;cases h
 .have:=Ztr a.2.2.2 hb;exact .inl ⟨he,by unfold keptF;rw[this],by unfold baseF;rw[this]⟩
 .have:=Ztr a.2.2.2 hb;exact .inr ⟨he,hs,by unfold keptF;rw[this],by unfold baseF;rw[this]⟩
def Zqo(b:FiD->Sc):∀(l:List FiD) (a:List Pt×List BA),(l.foldl (rstep b) a).1.length+(l.foldl (rstep b) a).2.length<=a.1.length+a.2.length+l.length
 | [],a=>Vs
 |f::l,a=>by
  rw[List.foldl_cons];have h:=Zqo b l (rstep b a f)
  have:(rstep b a f).1.length+(rstep b a f).2.length<=a.1.length+a.2.length+1:=by
   unfold rstep
   split
   .omega
   .split<;>simp<;>omega
  simp only[List.length_cons];omega
def Zu6(l:List FiD):(rowsD scF l).1.length+(rowsD scF l).2.length<=l.length:=by
 have:=Zqo scF l ([],[])
 simpa[rowsD]using this
def Zsp(l:List FiD):(rowK l).1.length<=l.length/\(rowK l).2.length<=l.length:=by
 have:=Zu6 l;unfold rowK
 split
 .omega
 .split
  .simp;omega
  .omega
def rowK_K(h:∀p∈(rowsD scF y).1,PtK p):∀p∈(rowK y).1,PtK p:=by
 unfold rowK
 split
 .exact h
 .split
  .simp
  .exact h
noncomputable abbrev FdV(d:DiD):SV:=fd7 (ptR (rowK d.fs).1) (nR (rowK d.fs).2) (keptF d.fs) (coR (repP (rowK d.fs).1 (baseF d.fs)).1.cs) (repP (rowK d.fs).1 (baseF d.fs)).1.q (repP (rowK d.fs).1 (baseF d.fs)).1.t (repP (rowK d.fs).1 (baseF d.fs)).2
def Zm4{r:List Pt}(C:r.length<=1000000)(n:∀p∈r,PtK p){X:Prop}{K:LL->Prop}(o:X)(q:K (nR (r.map λp=>Jou.segNm p.d.num))):
  ∃c:LL->Int->Prop,∃m:LL->Int->Nat,c [] 0/\∀b:LL,∀a:Int,c b a->ifB (ilt a (rlen (ptR r))) (inR a (ptR r)/\(ej3 (rget (ptR r) a) λi t u D E v w F y z A=>
   (Cl prog 68 sP [I i] (λ(g:List SV)=>ej2 g λs=>(((lsum (rlen b) (rlen ([[S s]])))<=((2147483648:Int)))/\(X/\((c (rapp b ([[S s]])) (wadd IntKind.i64 a 1))/\(Nl (m (rapp b ([[S s]])) (wadd IntKind.i64 a 1)) (m b a))))))))) (K b):=by
 refine⟨λl x=>0<=x/\x<=r.length/\l=nR ((r.take x.toNat).map λp=>Jou.segNm p.d.num),λ_ x=>(r.length-x).toNat,⟨Vo,Vo,Vs⟩,?_⟩;rintro l x ⟨x0,hx,rfl⟩;have j:rlen (ptR r)=r.length:=Vs;rw[j];refine Zaa (λh=>?_) (λh=>?_)
 .simp at h;have f:x.toNat<r.length:=Vo;have k:r.take (x+1).toNat=r.take x.toNat++[r[x.toNat]]:=(by rw[show(x+1).toNat=x.toNat+1 by omega,List.take_succ_eq_append_getElem f]);refine⟨inM _ x0 h,_,_,_,_,_,_,_,_,_,_,_,Zbm ptRow r x x0 h,Cl.of (sname_fn _) ⟨_,rfl,?_,o,?_,?_⟩⟩
  .simp;omega
  .rw[Zac];refine⟨Vo,Vo,?_⟩;have:=Zhm (n _ (List.getElem_mem f)).num;unfold nmG at this;rw[k,List.map_append,this];unfold rapp nR;rw[List.map_append];rfl
  .rw[Zac];exact mlt (by first|omega|(dsimp only;omega))
 .simp at h;have e:x.toNat=r.length:=Vo;rw[e,Y7];exact q
def Zu7(d:DiD)(hd:d.ok)(n:d.P)(j:d.dn=false):Ct prog 40 {} [d.sv] (λr=>r=[FdV d]/\∀p∈(rowK d.fs).1,PtK p):=by
 have z:=n.1.1;refine jlook_nf (Cl.ofQ (jrows_fn d hd n j) ?_);rintro r ⟨rfl,hK⟩;have b:=rowK_K hK;have D:=Zu6 d.fs;refine⟨_,_,rfl,Cl.ofQ (nnew_fn d hd) ?_⟩;rintro r ⟨s,e,rfl,hn⟩;have q:=base_P d.fs;have a:=jrep_fn (rowK d.fs).1 b (by have:=Zsp d.fs;omega) (baseF d.fs) q
 have i:∀(k:Int) (X Y Z:Prop),k=keptF d.fs->((rowK d.fs)=([],(rowsD scF d.fs).1.map (λp=>segNm p.d.num)++(rowsD scF d.fs).2)->X)->(rowK d.fs=rowsD scF d.fs->Y)->(rowK d.fs=rowsD scF d.fs->Z)->
   ifB (igt (rlen (ptR (rowsD scF d.fs).1)) 0) (inR (wsub IntKind.i64 (rlen (ptR (rowsD scF d.fs).1)) 1) (ptR (rowsD scF d.fs).1)/\(ej3 (rget (ptR (rowsD scF d.fs).1) (wsub IntKind.i64 (rlen (ptR (rowsD scF d.fs).1)) 1)) λE F G H J v K L M N C=>ifB (ilt v k) X Y)) Z:=by
  intro k X Y Z c w x y;generalize a:rowsD scF d.fs=R at*;have t:rlen (ptR R.1)=R.1.length:=Vs;rw[t]
  have f:rowK d.fs=match R.1.getLast? with|none=>R|some p=>if p.d.s<keptF d.fs then([],R.1.map (λp=>segNm p.d.num)++R.2)else R:=by unfold rowK;rw[a];rfl
  refine Zaa (λh=>?_) (λh=>?_)
  .simp at h;have l:R.1.length-1<R.1.length:=Vo;have A:wsub IntKind.i64 (R.1.length:Int) 1=((R.1.length-1:Nat):Int):=by rw[Zap];omega
   have u:R.1.getLast?=some R.1[R.1.length-1]:=(by rw[List.getLast?_eq_getElem?];simp[l]);rw[u]at f
   dsimp only at f
   rw[A];refine⟨inM _ Vo Vo,_,_,_,_,_,_,_,_,_,_,_,Zfo l,Zaa (λo=>w ?_) (λo=>x ?_)⟩
   .simp at o;rw[f,if_pos Vo]
   .simp at o;rw[f,if_neg Vo]
  .have h:R.1=[]:=(by simpa using h);have:R.1.getLast?=none:=(by rw[h];rfl);rw[this]at f;exact y f
 have m:(rowsD scF d.fs).1.length<=1000000:=Vo
 rcases new_cases n j hn with⟨rfl,c,g⟩|⟨rfl,rfl,c,g⟩
 .refine⟨_,_,_,_,rfl,Zaa (λ_=>?_) (λh=>by simp at h)⟩;rw[g]at a;refine i _ _ _ _ c.symm (λer=>Zm4 m hK rfl ⟨?_,?_⟩) (λer=>?_) (λer=>?_)
  .simp;omega
  .rw[er]at a;refine Cl.of a ⟨_,_,_,_,rfl,⟨?_,b⟩⟩;simp only[FdV,er,c,g];rw[Zjy];rfl
  .rw[er]at a;refine Cl.of a ⟨_,_,_,_,rfl,⟨?_,b⟩⟩;simp only[FdV,er,c,g]
  .rw[er]at a;refine Cl.of a ⟨_,_,_,_,rfl,⟨?_,b⟩⟩;simp only[FdV,er,c,g]
 .refine⟨_,_,_,_,rfl,Zaa (λh=>by simp at h) (λ_=>?_)⟩;rw[g]at a;refine i _ _ _ _ c.symm (λer=>Zm4 m hK rfl ⟨?_,?_⟩) (λer=>?_) (λer=>?_)
  .simp;omega
  .rw[er]at a;refine Cl.of a ⟨_,_,_,_,rfl,⟨?_,b⟩⟩;simp only[FdV,er,c,g];rw[Zjy];rfl
  .rw[er]at a;refine Cl.of a ⟨_,_,_,_,rfl,⟨?_,b⟩⟩;simp only[FdV,er,c,g]
  .rw[er]at a;refine Cl.of a ⟨_,_,_,_,rfl,⟨?_,b⟩⟩;simp only[FdV,er,c,g]
def Zxj(s:BA):Ct prog 108 {} [S s] (λr=>r=[.clo 168 [.ref 0 [S s]]]):=Zyn rfl
def jcut_fn(s:BA)(n:Int):Ct prog 110 {} [S s,I n] (λr=>r=[.clo 171 [.ref 0 [S s],.ref 0 [I n]]]):=jcut_nf rfl
def Zt5(s:BA):Ct prog 111 {} [S s] (λr=>r=[.clo 173 [.ref 0 [S s]]]):=jsync_nf rfl
def Zxk(s:BA):Ct prog 125 {} [S s] (λr=>r=[.clo 196 [.ref 0 [S s]]]):=Zyo rfl
def Zz2(s:BA)(x:List UInt8):Ct prog 195 {} [S s,SL 1 (uR x)] (λr=>r=[.clo 273 [.ref 0 [S s],.ref 0 [SL 1 (uR x)]]]):=jwrite_nf rfl
def backs_fn(a:LL):Ct prog 107 {} [SL 1 a] (λr=>r=[.clo 167 [.ref 0 [SL 1 a]]]):=backs_nf rfl
def backp_fn(a:LL):Ct prog 109 {} [SL 11 a] (λr=>r=[.clo 170 [.ref 0 [SL 11 a]]]):=backp_nf rfl
def rev_at{a:Type}(l:List a)(x:Int)(b:0<=x)(h:x<l.length):∃c:x.toNat<l.reverse.length,kdn (l.length:Int) x=((l.length-1-x.toNat:Nat):Int)/\∃d:l.length-1-x.toNat<l.length,l[l.length-1-x.toNat]=l.reverse[x.toNat]:=by
 grind [kdn]
def mend_fn(r:List Pt)(o:List BA)(g:Int)(t:LL)(s a:Int)(i:Bool)(y:r.length<=1000)(z:o.length<=1000):Ct prog 51 {} [fd7 (ptR r) (nR o) g t s a i] (λx=>x=[SL 1 (tR (mendP r o))]):=by
 have d:rlen (nR o)=o.length:=Vs;have e:rlen (ptR r)=r.length:=Vs;have n:∀p:Pt,(cutP p).length<=1:=λp=>by unfold cutP;split<;>simp
 have b:∀l:List Pt,(l.flatMap cutP).length<=l.length:=λl=>by
  induction l with
  |nil=>simp
  |cons p l C=>rw[Yg,List.length_append,List.length_cons];have:=n p;omega
 refine mend_nf _ _ _ _ _ _ _ _ (Cl.of (backs_fn _) ⟨_,_,rfl,_,rfl,rfl,by rw[d];omega,?_⟩);rw[d];refine⟨λx l=>0<=x/\x<=o.length/\l=tR ((o.reverse.take x.toNat).map Stp.rem),⟨Vo,Vo,Vs⟩,?_,?_⟩
 .rintro x j hx l ⟨_,_,rfl⟩;obtain⟨k,e1,m,e2⟩:=rev_at o x j hx;rw[e1];refine⟨_,Zah _ _ _ m,Cl.of (Zxj _) ⟨_,_,rfl,?_,rfl,?_⟩⟩
  .simp;omega
  .unfold kup;refine⟨Vo,Vo,?_⟩;rw[show(x+1).toNat=x.toNat+1 by omega,List.take_succ_eq_append_getElem k,e2];simp[rapp,Stp.row]
 rintro l ⟨_,_,rfl⟩;rw[Int.toNat_natCast,show o.reverse.take o.length=o.reverse from List.take_of_length_le Vs];refine Cl.of (backp_fn _) ⟨_,_,rfl,_,rfl,rfl,by rw[e];omega,?_⟩;rw[e];refine⟨λx l=>0<=x/\x<=r.length/\l=tR (o.reverse.map Stp.rem++(r.reverse.take x.toNat).flatMap cutP),⟨Vo,Vo,Vs⟩,?_,?_⟩
 .rintro x j hx l ⟨_,_,rfl⟩;obtain⟨k,e1,m,e2⟩:=rev_at r x j hx;have w:r.reverse.take (kup x).toNat=r.reverse.take x.toNat++[r.reverse[x.toNat]]:=(by unfold kup;rw[show(x+1).toNat=x.toNat+1 by omega,List.take_succ_eq_append_getElem k]);have c:=b (r.reverse.take x.toNat);have q:(r.reverse.take x.toNat).length<=1000:=Vm;rw[e1];refine⟨_,_,_,_,_,_,_,_,_,_,_,Zfo m,Zaa (λh=>Cl.of (sname_fn _) ⟨_,rfl,Cl.of (jcut_fn _ _) ⟨_,_,rfl,?_,rfl,?_⟩⟩) (λh=>⟨rfl,?_⟩)⟩
  .simp at c q|-;omega
  .refine⟨by unfold kup;omega,by unfold kup;omega,?_⟩
   simp_all[List.flatMap_append,e2,rapp,Stp.row,cutP,nmG,segL]
  .refine⟨by unfold kup;omega,by unfold kup;omega,?_⟩
   simp_all[List.flatMap_append,e2,cutP]
 rintro l ⟨_,_,rfl⟩;rw[Int.toNat_natCast,show r.reverse.take r.length=r.reverse from List.take_of_length_le Vs];have c:=b r.reverse;refine Zaa (λh=>?_) (λh=>?_)
 .have h:0<r.length:=by
   simp_all
  have f:r.length-1<r.length:=Vo;have v:wsub IntKind.i64 (r.length:Int) 1=((r.length-1:Nat):Int):=(by grind [Zap]);have A:r.getLast?=some r[r.length-1]:=Vg;rw[v];refine⟨inM _ Vo Vo,_,_,_,_,_,_,_,_,_,_,_,Zfo f,Zaa (λu=>⟨inM _ Vo Vo,_,_,_,_,_,_,_,_,_,_,_,Zfo f,Cl.of (sname_fn _) ⟨_,rfl,Cl.of (Zt5 _) ⟨_,_,rfl,?_,?_⟩⟩⟩) (λu=>?_)⟩
  .simp only[rlen_eq,List.length_map,List.length_append,Y08,lsum_eq,List.length_cons,Y9]at c|-;omega
  .simp_all[rapp,Stp.row,synP,mendP,Zmw,nmG]
  simp_all[synP,mendP,Zmw]
 simp_all[synP,mendP]
def mendP_ok{r:List Pt}{o:List BA}:∀s∈mendP r o,s.ok:=by
 intro s a;unfold mendP at a
 rcases List.mem_append.1 a with h|h
 .obtain⟨n,_,rfl⟩:=Ya.1 h;trivial
 .rcases List.mem_append.1 h with h|h
  .obtain⟨p,_,h⟩:=List.mem_flatMap.1 h;unfold cutP at h
   split at h
   .simp at h;subst h;trivial
   .cases h
  .unfold synP at h
   split at h
   .cases h
   .split at h
    .cases h
    .simp at h;subst h;trivial
def Zz3{r:List Pt}{o:List BA}:(mendP r o).length<=o.length+r.length+1:=by
 have a:∀l:List Pt,(l.flatMap cutP).length<=l.length:=λl=>by
  induction l with
  |nil=>simp
  |cons p l b=>
   grind [List.length_append,List.length_cons,cutP]
 grind [List.length_append,List.length_map,List.length_reverse,synP,mendP]
def JoD.sv(j:JoD):SV:=jr16 (fR j.dk.fs) j.dk.rm j.dk.st j.dk.dn j.cb j.cg (sgR j.sg) j.cx.s j.cx.a (nR j.cx.m) (coR j.st.cs) j.st.q j.st.t j.sure j.kept j.shut
def Zjw(d:DiD):(repP (rowK d.fs).1 (baseF d.fs)).2=true↔GoodR (rowK d.fs).1 (keptF d.fs) (baseF d.fs):=by
 rw[repP_iff,Zqh]
def Zz4(h:GoodR (rowK d.fs).1 (keptF d.fs) (baseF d.fs)):(repP (rowK d.fs).1 (baseF d.fs)).1=stR (rowK d.fs).1 (keptF d.fs) (baseF d.fs):=by
 grind [Zqh,repP_st,rowK,baseF]
def jopen_fn(d:DiD)(hd:d.ok)(a b:Int):Ct prog 19 {} [d.sv,.agg [I a,I b]] (λr=>r=[(openP d a b).1.sv,I (openP d a b).2]):=by
 refine jopen_nf (Cl.of (Zep d hd) ⟨_,rfl,Zaa (λh=>?_) (λh=>Cl.of (Zp9 a b) ⟨_,rfl,Zaa (λf=>?_) (λf=>?_)⟩)⟩)
 .simp at h;unfold openP;rw[if_pos (λq=>h q.1)];rfl
 .simp at f;unfold openP;rw[if_pos (λq=>f q.2)];rfl
 simp at h f;have j:¬¬(d.P/\mayC a b):=λq=>q ⟨h,f⟩;refine Zaa (λi=>?_) (λi=>?_)
 .unfold openP;rw[if_neg j,if_pos i];rfl
 have k:=h.1.1;have l:=Zsp d.fs;refine Cl.ofQ (Zu7 d hd h i) ?_;rintro r ⟨rfl,hK⟩;refine⟨_,_,_,_,_,_,_,rfl,Zaa (λc=>?_) (λc=>Cl.of (mend_fn _ _ _ _ _ _ _ Vo Vo) ⟨_,rfl,Cl.of (jrun_fn d hd _ mendP_ok (by have:=Zz3 (r:=(rowK d.fs).1) (o:=(rowK d.fs).2);omega)) ⟨_,_,_,_,_,rfl,?_⟩⟩)⟩
 .have c:¬GoodR (rowK d.fs).1 (keptF d.fs) (baseF d.fs):=(by rw[<-Zjw];simpa using c);unfold openP;rw[if_neg j,if_neg (by simp[i]),if_pos c];rfl
 have c:GoodR (rowK d.fs).1 (keptF d.fs) (baseF d.fs):=by simp_all[Zjw]
 have e:openP d a b=if(menD d).2≠0 then(jo0 (menD d).1,(menD d).2)else(⟨(menD d).1,a,b,(rowK d.fs).1.map sgOf,Zbg (rowK d.fs).1,stR (rowK d.fs).1 (keptF d.fs) (baseF d.fs),(stR (rowK d.fs).1 (keptF d.fs) (baseF d.fs)).q,keptF d.fs,false⟩,0):=by
  grind [openP]
 rw[e,Zz4 c];refine Zaa (λg=>?_) (λg=>?_)
 .have g:(menD d).2≠0:=(by simp_all[menD]);rw[if_pos g];rfl
 .have g:(menD d).2=0:=(by simp_all[menD]);rw[if_neg (by simp[g])];exact Cl.of (Zuq _ Vo) ⟨_,rfl,Cl.of (Zp8 _ Vo) ⟨_,_,_,rfl,rfl⟩⟩
structure JoD.ok(j:JoD):Prop where
 dk:j.dk.ok
 sg:j.sg.length<=1000000
 m:j.cx.m.length<=1000000
 cs:j.st.cs.length<=1000000
 cl:∀c∈j.st.cs,c.cl.length<=1000000
def sgd_band(p q:SgD):band (ieq p.num q.num) (band (ieq p.fi q.fi) (band (ieq p.la q.la) (band (ieq p.fr q.fr) (band (ieq p.ti q.ti) (band (ieq p.sz q.sz) (band (beqB p.sl q.sl) true))))))=decide (p=q):=by
 cases p;cases q
 rw[Bool.eq_iff_iff];simp
theorem Zz5{c:Type}{a b:List c}(d:n<a.length)(f:n<b.length)(h:a.take n=b.take n)(e:a[n]=b[n]):a.take (n+1)=b.take (n+1):=by
 rw[List.take_succ_eq_append_getElem d,List.take_succ_eq_append_getElem f,h,e]
def Zz6(a b:List SgD)(g:a.length<=1000000):Ct prog 41 {} [SL 7 (sgR a),SL 7 (sgR b)] (λr=>r=[B (decide (a=b))]):=by
 refine segeq_nf (Zaa (λh=>?_) (λh=>?_))
 .have:¬a=b:=λe=>by rw[e]at h;simp at h
  grind
 have i:a.length=b.length:=(by simp at h;omega);refine⟨λ_ x=>0<=x/\x<=a.length/\a.take x.toNat=b.take x.toNat,λ_ x=>(a.length-x).toNat,⟨Vo,Vo,rfl⟩,?_⟩;rintro _ x ⟨x0,hx,he⟩;refine Zaa (λc=>?_) (λc=>?_)
 .have c:x<a.length:=(by simp_all);have d:x<b.length:=Vo;refine⟨inM _ x0 c,_,_,_,_,_,_,_,Zbm SgD.row a x x0 c,inM _ x0 d,_,_,_,_,_,_,_,Zbm SgD.row b x x0 d,?_⟩
  dsimp only
  rw[sgd_band,Zac];refine Zaa (λf=>?_) (λf=>⟨rfl,⟨Vo,Vo,?_⟩,mlt (by first|omega|(dsimp only;omega))⟩)
  .have:¬a=b:=λe=>by subst e;simp at f
   grind
  .rw[show(x+1).toNat=x.toNat+1 by omega];exact Zz5 Vo Vo he (by simpa using f)
 .have c:x=a.length:=by simp at c;omega
  grind [Int.toNat_natCast,List.take_length]
def Zz7(a b:List BA)(g:a.length<=1000000):Ct prog 100 {} [SL 1 (nR a),SL 1 (nR b)] (λr=>r=[B (decide (a=b))]):=by
 refine streq_nf (Zaa (λh=>?_) (λh=>?_))
 .have:¬a=b:=λe=>by rw[e]at h;simp at h
  grind
 have i:a.length=b.length:=(by simp at h;omega);refine⟨λ_ x=>0<=x/\x<=a.length/\a.take x.toNat=b.take x.toNat,λ_ x=>(a.length-x).toNat,⟨Vo,Vo,rfl⟩,?_⟩;rintro _ x ⟨x0,hx,he⟩;refine Zaa (λc=>?_) (λc=>?_)
 .have c:x<a.length:=(by simp_all);have d:x<b.length:=Vo;refine⟨inM _ x0 c,_,Zbm _ a x x0 c,inM _ x0 d,_,Zbm _ b x x0 d,?_⟩
  dsimp only
  rw[sne_eq,Zvk,Zac];refine Zaa (λf=>?_) (λf=>⟨rfl,⟨Vo,Vo,?_⟩,mlt (by first|omega|(dsimp only;omega))⟩)
  .have:¬a=b:=λe=>by subst e;simp at f
   grind
  .rw[show(x+1).toNat=x.toNat+1 by omega]
   grind [Zz5]
 .have c:x=a.length:=by simp at c;omega
  grind [Int.toNat_natCast,List.take_length]
def jsame_fn(c d:CxD)(b:c.m.length<=1000000):Ct prog 43 {} [c.sv,d.sv] (λr=>r=[B (decide (c=d))]):=by
 have ext:c=d↔(c.s=d.s/\c.a=d.a)/\c.m=d.m:=(by cases c;cases d;simp[and_assoc]);refine jsame_nf (Zaa (λh=>Cl.of (Zz7 _ _ b) ⟨_,rfl,?_⟩) (λh=>?_))
 .simp_all
 simp_all
open Classical in
noncomputable def rgtJ(j:JoD):Bool:=decide (RightJ j)
def Zf9{j:JoD}:rgtJ j=true↔RightJ j:=by unfold rgtJ;simp
def rgtJ_no(h:¬RightJ J):rgtJ J=false:=by unfold rgtJ;simp[h]
def Zdc:RightJ J↔mayC J.cb J.cg/\J.dk.P/\J.dk.dn=false/\GoodR (rowK J.dk.fs).1 (keptF J.dk.fs) (baseF J.dk.fs)/\(rowK J.dk.fs).2=[]/\(∀p∈(rowK J.dk.fs).1,p.n=(segL p.d).length)/\
  J.sg=(rowK J.dk.fs).1.map sgOf/\J.cx=Zbg (rowK J.dk.fs).1/\J.st=stR (rowK J.dk.fs).1 (keptF J.dk.fs) (baseF J.dk.fs)/\J.kept=keptF J.dk.fs/\J.kept<=J.sure/\J.sure<=J.st.q:=by
 constructor
 .intro h;have e:=h.eq;have e1:=congrArg JoD.sg e;have e2:=congrArg JoD.cx e;have b:=congrArg JoD.st e;have a:=congrArg JoD.kept e;have c:J.kept=keptF J.dk.fs:=a;exact⟨h.cfg,h.dk,h.up,h.good,h.out,h.all,e1,e2,b,a,by rw[c];exact h.sure.1,h.sure.2⟩
 .rintro⟨f,g,i,k,l,m,e1,e2,b,a,o,r⟩;refine⟨f,g,i,l,k,m,?_,by rw[<-a];exact o,r⟩;unfold anewJ;rw[<-e1,<-e2,<-b,<-a]
def Zke(j:JoD)(h:j.ok):Ct prog 13 {} [j.sv] (λr=>r=[B (rgtJ j)]):=by
 have no:∀{p:Prop},(RightJ j->p)->¬p->rgtJ j=false:=λf g=>rgtJ_no λq=>g (f q);refine jright_nf (Cl.of (Zp9 _ _) ⟨_,rfl,Zaa (λg=>?_) (λg=>?_)⟩)
 .rw[no (λq=>q.cfg) (by simpa using g)]
 have v:mayC j.cb j.cg:=(by simpa using g);refine Cl.of (Zep j.dk h.dk) ⟨_,rfl,Zaa (λg=>?_) (λg=>?_)⟩
 .rw[no (λq=>And.intro q.dk q.up) (λq=>by simp[q.1,q.2]at g)]
 have l:j.dk.P:=Classical.byContradiction λq=>by simp[q]at g
 have o:j.dk.dn=false:=(by simp_all);have w:=l.1.1;have F:=Zsp j.dk.fs;refine Cl.ofQ (Zu7 j.dk h.dk l o) ?_;rintro r ⟨rfl,hK⟩;refine⟨_,_,_,_,_,_,_,rfl,Zaa (λg=>?_) (λg=>?_)⟩
 .rw[no (λq=>And.intro q.good q.out) (λq=>by
   have:=(Zjw j.dk).2 q.1;rw[this,q.2]at g
   simp at g)]
 have s:GoodR (rowK j.dk.fs).1 (keptF j.dk.fs) (baseF j.dk.fs):=(Zjw j.dk).1 (Classical.byContradiction λq=>by simp[q]at g)
 have y:(rowK j.dk.fs).2=[]:=by
  simp_all
 have t:rlen (ptR (rowK j.dk.fs).1)=(rowK j.dk.fs).1.length:=Vs;refine⟨λ_ x=>0<=x/\x<=(rowK j.dk.fs).1.length/\∀i:Nat,∀c:i<(rowK j.dk.fs).1.length,i<x->(rowK j.dk.fs).1[i].n=(segL (rowK j.dk.fs).1[i].d).length,λ_ x=>((rowK j.dk.fs).1.length-x).toNat,⟨Vo,Vo,by intro i c q;omega⟩,?_⟩;rintro _ x ⟨x0,hx,hall⟩;rw[t];refine Zaa (λg=>?_) (λg=>?_)
 .have g:x<(rowK j.dk.fs).1.length:=(by simpa using g);have a:x.toNat<(rowK j.dk.fs).1.length:=Vo;have k:=hK _ (List.getElem_mem a);refine⟨inM _ x0 g,_,_,_,_,_,_,_,_,_,_,_,Zbm ptRow _ x x0 g,Zaa (λz=>?_) (λz=>⟨rfl,?_,?_⟩)⟩
  .rw[no (λq=>q.all _ (List.getElem_mem a)) (by simp at z;omega)]
  .rw[Zac];refine⟨Vo,Vo,λi c q=>?_⟩;by_cases e:i<x
   .grind
   .have:i=x.toNat:=Vo;subst this;have:=k.le;simp at z;omega
  grind [Zac,mlt]
 have A:∀p∈(rowK j.dk.fs).1,p.n=(segL p.d).length:=λp k=>by
  obtain⟨i,c,rfl⟩:=List.mem_iff_getElem.1 k;simp at g
  grind
 refine Cl.of (Zuq _ Vo) ⟨_,rfl,Cl.of (Zz6 _ _ h.sg) ⟨_,rfl,Zaa (λg=>?_) (λg=>?_)⟩⟩
 .rw[no (λq=>(Zdc.1 q).2.2.2.2.2.2.1) (by simpa using g)]
 have C:j.sg=(rowK j.dk.fs).1.map sgOf:=(by simpa using g);refine Cl.of (Zp8 _ Vo) ⟨_,_,_,rfl,Cl.of (jsame_fn j.cx (Zbg (rowK j.dk.fs).1) h.m) ⟨_,rfl,Zaa (λg=>?_) (λg=>?_)⟩⟩
 .rw[no (λq=>(Zdc.1 q).2.2.2.2.2.2.2.1) (by simpa using g)]
 have D:j.cx=Zbg (rowK j.dk.fs).1:=(by simpa using g);have b:=ssame_fn j.st (repP (rowK j.dk.fs).1 (baseF j.dk.fs)).1 (by have:=h.cs;omega) h.cl;rw[Zz4 s]at b|-;refine Cl.of b ⟨_,rfl,Zaa (λg=>?_) (λg=>?_)⟩
 .rw[no (λq=>And.intro (Zdc.1 q).2.2.2.2.2.2.2.2.1 (Zdc.1 q).2.2.2.2.2.2.2.2.2.1) (λq=>by simp[q.1,q.2]at g)]
 have E:j.st=stR (rowK j.dk.fs).1 (keptF j.dk.fs) (baseF j.dk.fs):=Classical.byContradiction λq=>by simp[q]at g
 have u:j.kept=keptF j.dk.fs:=Classical.byContradiction λq=>by simp[q]at g
 have:rgtJ j=bpick (ige j.sure j.kept) (ile j.sure j.st.q) false:=by
  rw[Bool.eq_iff_iff,Zf9];constructor
  .intro q;have:=(Zdc.1 q).2.2.2.2.2.2.2.2.2.2
   simp_all
  .intro q;have q:j.kept<=j.sure/\j.sure<=j.st.q:=(by simpa using q);exact Zdc.2 ⟨v,l,o,s,y,A,C,D,E,u,q.1,q.2⟩
 rw[this]
def jmay_fn(j:JoD)(h:j.ok):Ct prog 52 {} [j.sv] (λr=>r=[I (mayJ j)]):=by
 refine jmay_nf (Cl.of (Zep j.dk h.dk) ⟨_,rfl,Zaa (λg=>?_) (λg=>Cl.of (Zke j h) ⟨_,rfl,Zaa (λz=>?_) (λz=>?_)⟩)⟩)
 .simp_all[mayJ]
 .have z:¬RightJ j:=λq=>by rw[Zf9.2 q]at z;simp at z
  simp_all[mayJ]
 .have z:RightJ j:=Zf9.1 (by simpa using z);rw[Zkn.2 z]
def WrD.sv(w:WrD):SV:=wr18 (fR w.j.dk.fs) w.j.dk.rm w.j.dk.st w.j.dk.dn w.j.cb w.j.cg (sgR w.j.sg) w.j.cx.s w.j.cx.a (nR w.j.cx.m) (coR w.j.st.cs) w.j.st.q w.j.st.t w.j.sure w.j.kept w.j.shut (tR w.td) w.sz
def bR_bys(h:Byts x):bR x=uR (bys x):=by
 grind [uR_bR,bys,iU_of]
theorem sg_len(l:List SgD)(p:SgD):rlen (sgR (l++[p]))=l.length+1:=Vs
def Zjf{l:List SgD}(p:SgD)(h:l.length<=1000000:=by omega):wsub .i64 (rlen (sgR (l++[p]))) 1=(l.length:Int):=by
 grind [sg_len,Zap]
def Zfg(l:List SgD)(p:SgD):rget (sgR (l++[p])) (l.length:Int)=p.row:=by simp[rget]
theorem Zu5(l:List SgD)(p q:SgD):rset (sgR (l++[p])) (l.length:Int) q.row=sgR (l++[q]):=by simp[rset]
def sg_in(l:List SgD)(p:SgD):inR (l.length:Int) (sgR (l++[p])):=⟨Vo,by rw[sg_len];omega⟩
def tR_app(a:List Stp)(s:Stp):rapp (tR a) [s.row]=tR (a++[s]):=by simp[rapp]
def Zsi(w:WrD)(l:List SgD)(p:SgD)(c:w.j.sg=l++[p])(b:List Int)(d:Byts b)(f:l.length<=1000000)(h:w.td.length<=1000000)(g:b.length<=1000000)(i:0<=p.sz/\p.sz<=1000000000)(k:0<=w.sz/\w.sz<=1000000000):
  Ct prog 123 sgP [w.sv,SL 1 (bR b)] (λr=>r=[(putW w l p b).sv]):=by
 refine wput_nf ?_;rw[c,Zjf p f,bR_bys d];have a:rlen (uR (bys b))=b.length:=(by simp[bys]);rw[a];refine⟨sg_in l p,sg_in l p,_,_,_,_,_,_,_,Zfg l p,sg_in l p,_,_,_,_,_,_,_,Zfg l p,?_⟩;rw[Zac,Zac];have e:=Zu5 l p {p with sz:=p.sz+b.length};unfold SgD.row at e
 dsimp only at e|-
 rw[e];refine⟨sg_in l _,_,_,_,_,_,_,_,Zfg l _,Cl.of (sname_fn _) ⟨_,rfl,Cl.of (Zz2 _ _) ⟨_,_,rfl,?_,?_⟩⟩⟩
 .simp;omega
 .have:=tR_app w.td (.wri (nmG p.num) (bys b));unfold Stp.row at this;rw[this];rfl
def wopen_fn(w:WrD)(b:w.j.sg.length<=1000000):Ct prog 58 sgW [w.sv] (λr=>r=[B (opnW w),w.sv]):=by
 refine wopen_nf ?_
 rcases Y4 w.j.sg with e|⟨l,p,e⟩
 .rw[e];refine Zaa (λh=>by simp at h) (λ_=>?_);unfold WrD.sv opnW;rw[e];rfl
 .rw[List.concat_eq_append]at e;have a:l.length<=1000000:=Vg;rw[e,Zjf p a];refine Zaa (λ_=>⟨sg_in l p,sg_in l p,_,_,_,_,_,_,_,Zfg l p,?_⟩) (λh=>by simp at h<;>omega)
  simp_all[Zav,WrD.sv,opnW]
def slP_le{n s a:Int}(b:n<=9223372036854775807)(c:s<=9223372036854775807)(d:a<=9223372036854775807):(slP n s a).length<=30:=by
 have e:(leb n.toNat).length<=10:=Cod.leb_small;have f:(leb s.toNat).length<=10:=Cod.leb_small;have b3:(leb a.toNat).length<=10:=Cod.leb_small
 grind [slP]
def wseal_fn(w:WrD)(l:List SgD)(p:SgD)(d:w.j.sg=l++[p])(e:ctxB w.j.cx.s w.j.cx.a w.j.cx.m=true)(q:p.fi<=p.la)(t:0<=p.fi)(u:p.la<=9223372036854775807)(v:l.length<=100000)(x:w.td.length<=100000)(y:0<=p.sz/\p.sz<=100000000)(z:0<=w.sz/\w.sz<=100000000):
  Ct prog 56 sgW [w.sv] (λr=>r=[B true,(sealW w l p).sv]):=by
 have i:=(Zba.1 e).1;have k:=slP_le (n:=p.la-p.fi) (s:=w.j.cx.s) (a:=w.j.cx.a) Vo Vo Vo;have f:Byts (selB w.j p):=Ziv Vo Vo (Zvh _ _ _);have o:(selB w.j p).length<=40:=(by grind [Zf2,selB]);refine wseal_nf ?_;rw[d,Zjf p];refine⟨sg_in l p,sg_in l p,_,_,_,_,_,_,_,Zfg l p,sg_in l p,_,_,_,_,_,_,_,Zfg l p,?_⟩
 dsimp only
 rw[Zap];have c:=Zz8 (p.la-p.fi) w.j.cx.s w.j.cx.a w.j.cx.m Vo;rw[if_pos ⟨e,Vo⟩]at c;refine Cl.of c ⟨_,_,rfl,Zaa (λh=>by simp at h) (λ_=>?_)⟩;have b:=Zsi w l p d (selB w.j p) f Vo Vo Vo Vo Vo;unfold WrD.sv at b;rw[d]at b;refine Cl.of b ⟨_,_,_,_,_,_,_,_,_,_,_,_,_,_,_,_,_,_,rfl,?_⟩;have g:(putW w l p (selB w.j p)).j.sg=l++[{p with sz:=p.sz+(selB w.j p).length}]:=rfl
 dsimp only
 rw[g];refine⟨sg_in l _,_,_,_,_,_,_,_,Zfg l _,Cl.of (sname_fn _) ⟨_,rfl,Cl.of (Zt5 _) ⟨_,_,rfl,?_,sg_in l _,_,_,_,_,_,_,_,Zfg l _,?_⟩⟩⟩
 .simp[putW];omega
 .have e1:=tR_app (putW w l p (selB w.j p)).td (.syn (nmG p.num))
  grind [e1,e2,WrD.sv,sealW,putW,List.append_assoc,Stp.row,SgD.row,Zu5]
def sgW_snoc(l:List SgD)(p:SgD):rapp (sgR l) [p.row]=sgR (l++[p]):=by simp[rapp]
def wbeg_go(w:WrD)(n:Int)(E:nxtN w=n)(o:ctxOK w.j.st.q w.j.st.t)(hl:w.j.sg.length<=100000)(hf:w.j.dk.fs.length<=100000)(ht:w.td.length<=100000)(hs:0<=w.sz/\w.sz<=100000000){Q:List SV->Prop}(k:Q (match begW w with|none=>[B false,w.sv]|some v=>[B true,v.sv])):
  Cl prog 68 sP [I n] (λ(F:List SV)=>ej2 F λs=>(ifB (bpick (seq s (bA [])) true (igt (wadd IntKind.i64 (rlen (fR w.j.dk.fs)) 1) 64)) (Q ([B false,wr18 (fR w.j.dk.fs) w.j.dk.rm w.j.dk.st w.j.dk.dn w.j.cb w.j.cg (sgR w.j.sg) w.j.cx.s w.j.cx.a (nR w.j.cx.m) (coR w.j.st.cs) w.j.st.q w.j.st.t w.j.sure w.j.kept w.j.shut (tR w.td) w.sz])) (Cl prog 124 (Sig.mk [] [Md.own,Md.pure]) ([I n,cx3 w.j.st.q w.j.st.t []]) (λ(p:List SV)=>ej7 p λl x=>(ifB (ine x 0) (Q ([B false,wr18 (fR w.j.dk.fs) w.j.dk.rm w.j.dk.st w.j.dk.dn w.j.cb w.j.cg (sgR w.j.sg) w.j.cx.s w.j.cx.a (nR w.j.cx.m) (coR w.j.st.cs) w.j.st.q w.j.st.t w.j.sure w.j.kept w.j.shut (tR w.td) w.sz])) (Cl prog 125 sP [S s] (λ(r:List SV)=>ej0 r λf d=>(((lsum (rlen (tR w.td)) (rlen ([[SV.clo f d]])))<=((2147483648:Int)))/\(((lsum (rlen (sgR w.j.sg)) (rlen ([[I n,I w.j.st.q,I w.j.st.q,I w.j.st.t,I w.j.st.t,I 0,B false]])))<=((2147483648:Int)))/\(Cl prog 123 sgP ([wr18 (fR w.j.dk.fs) w.j.dk.rm w.j.dk.st w.j.dk.dn w.j.cb w.j.cg (rapp (sgR w.j.sg) ([[I n,I w.j.st.q,I w.j.st.q,I w.j.st.t,I w.j.st.t,I 0,B false]])) w.j.cx.s w.j.cx.a (nR w.j.cx.m) (coR w.j.st.cs) w.j.st.q w.j.st.t w.j.sure w.j.kept w.j.shut (rapp (tR w.td) ([[SV.clo f d]])) w.sz,SL 1 l]) (λ(u:List SV)=>ej8 u λG H J b K L M x5 x6 l3 N O P R y T U z=>(Q ([B true,wr18 G H J b K L M w.j.st.q w.j.st.t [] N O P R y T U z]))))))))))))):=by
 have C:rlen (fR w.j.dk.fs)=w.j.dk.fs.length:=Vs;rw[C,Zac];have V:∀s:BA,seq s (bA [])=decide (s=ByteArray.mk #[]):=λs=>by rw[seq_eq,Zvk]
 have g:inN n->nmG n≠ByteArray.mk #[]:=λh e=>by
  grind [Zcn,Zhm]
 refine Cl.of (sname_fn n) ⟨_,rfl,?_⟩
 dsimp only
 rw[V];refine Zaa (λh=>?_) (λh=>?_)
 .have:begW w=none:=by
   unfold begW;rw[E,if_pos];by_cases c:inN n
   .have:=g c
    have h':64<(w.j.dk.fs.length:Int)+1:=by
     simp_all
    omega
   grind
  rw[this]at k;exact k
 have c:inN n:=Classical.byContradiction λq=>by
  simp_all[nmG,nmG_no]
 have Z:¬64<w.j.dk.fs.length+1:=by have:=g c;unfold nmG at this;simp[this]at h;omega
 have W:begW w=some ⟨{w.j with sg:=w.j.sg++[⟨n,w.j.st.q,w.j.st.q,w.j.st.t,w.j.st.t,(hedB w.j n).length,false⟩],cx:=⟨w.j.st.q,w.j.st.t,[]⟩},w.td++[.cre (nmG n),.wri (nmG n) (bys (hedB w.j n))],w.sz+(hedB w.j n).length⟩:=by
  grind [begW]
 rw[W]at k;obtain⟨A,Y⟩:=Ztl (j:=w.j) c o;have i:=shead_fn n w.j.st.q w.j.st.t [] Vs;have X:headE n w.j.st.q w.j.st.t []=(hedB w.j n,0):=(by unfold headE;rw[if_neg (by have:=c.1;have:=c.2;omega),if_neg (by simp[o])];rfl);rw[X]at i;refine Cl.of i ⟨_,_,rfl,Zaa (λh=>by simp at h) (λ_=>Cl.of (Zxk _) ⟨_,_,rfl,?_,?_,?_⟩)⟩
 .simp;omega
 .simp;omega
 have e1:=tR_app w.td (.cre (nmG n));have e2:=sgW_snoc w.j.sg ⟨n,w.j.st.q,w.j.st.q,w.j.st.t,w.j.st.t,0,false⟩;unfold Stp.row nmG at e1;unfold SgD.row at e2
 dsimp only at e1 e2|-
 rw[e1,e2];have D:=Zsi ⟨{w.j with sg:=w.j.sg++[⟨n,w.j.st.q,w.j.st.q,w.j.st.t,w.j.st.t,0,false⟩]},w.td++[.cre (Sgr.segNm n)],w.sz⟩ w.j.sg _ rfl (hedB w.j n) A Vo Vm Vo Vs (by dsimp only;omega);refine Cl.of D ⟨_,_,_,_,_,_,_,_,_,_,_,_,_,_,_,_,_,_,rfl,?_⟩
 simp_all[WrD.sv,putW,List.append_assoc,Y2,Y5,List.map_nil,Wr]
def wbegin_fn(w:WrD)(k:∀l p,w.j.sg=l++[p]->0<=p.num/\p.num<=99999999)(c:ctxOK w.j.st.q w.j.st.t)(d:w.j.sg.length<=100000)(f:w.j.dk.fs.length<=100000)(g:w.td.length<=100000)(i:0<=w.sz/\w.sz<=100000000):
  Ct prog 59 sgW [w.sv] (λr=>r=match begW w with|none=>[B false,w.sv]|some v=>[B true,v.sv]):=by
 refine wbegin_nf ?_
 rcases Y4 w.j.sg with e|⟨l,p,e⟩
 .have b:nxtN w=1:=(by unfold nxtN;rw[e];rfl);have h:=wbeg_go w 1 b c d f g i (Q:=λr=>r=match begW w with|none=>[B false,w.sv]|some v=>[B true,v.sv]) rfl
  simp_all[Zaa]
 .rw[List.concat_eq_append]at e;have b:nxtN w=p.num+1:=(by grind [Zav,nxtN]);have n:=k l p e;have h:=wbeg_go w (p.num+1) b c d f g i (Q:=λr=>r=match begW w with|none=>[B false,w.sv]|some v=>[B true,v.sv]) rfl;have m:l.length<=100000:=Vg;rw[<-Zac]at h;refine Zaa (λ_=>?_) (λh=>by rw[e]at h;simp at h<;>omega);have a:inR (wsub IntKind.i64 (rlen (sgR w.j.sg)) 1) (sgR w.j.sg):=by rw[e,Zjf p];exact sg_in l p
  exact⟨a,a,_,_,_,_,_,_,_,by rw[e,Zjf p];exact Zfg l p,h⟩
def Zsj{j:JoD}{e:Cod.EvD}(h:encE j.cx.s j.cx.a j.cx.m e=0):Byts (recL' j e)/\(recL' j e).length<=127:=by
 have:=Zhr (Zcy.1 h)
 grind [Zf2,recL',Ziv,Zie]
def wrec_fn(w:WrD)(e:Cod.EvD)(l:List SgD)(p:SgD)(T:w.j.sg=l++[p])(hl:l.length<=100000)(ht:w.td.length<=100000)(hp:0<=p.sz/\p.sz<=100000000)(hs:0<=w.sz/\w.sz<=100000000):
  Ct prog 60 sgW [w.sv,e.sv] (λr=>r=match recW w e with|none=>[B false,w.sv]|some v=>[B true,v.sv]):=by
 have u:=Zt8 w.j.cx.s w.j.cx.a w.j.cx.m e;unfold addR at u
 have C:∀Q:List SV->Prop,Q (match recW w e with|none=>[B false,w.sv]|some v=>[B true,v.sv])->Cl prog 121 sP ([cx3 w.j.cx.s w.j.cx.a (nR w.j.cx.m),ev7 e.s e.a e.k e.c e.x e.y e.z]) (λ(U:List SV)=>ej6 U λl x V W X=>(ifB (ine X 0) (Q ([B false,wr18 (fR w.j.dk.fs) w.j.dk.rm w.j.dk.st w.j.dk.dn w.j.cb w.j.cg (sgR w.j.sg) w.j.cx.s w.j.cx.a (nR w.j.cx.m) (coR w.j.st.cs) w.j.st.q w.j.st.t w.j.sure w.j.kept w.j.shut (tR w.td) w.sz])) (Cl prog 123 sgP ([wr18 (fR w.j.dk.fs) w.j.dk.rm w.j.dk.st w.j.dk.dn w.j.cb w.j.cg (sgR w.j.sg) w.j.cx.s w.j.cx.a (nR w.j.cx.m) (coR w.j.st.cs) w.j.st.q w.j.st.t w.j.sure w.j.kept w.j.shut (tR w.td) w.sz,SL 1 l]) (λ(E:List SV)=>ej8 E λY Z x4 b x5 x6 d x7 x8 l4 l5 x9 F G H b1 l6 J=>((inR (wsub IntKind.i64 (rlen d) 1) d)/\((inR (wsub IntKind.i64 (rlen d) 1) d)/\(ej5 (rget d (wsub IntKind.i64 (rlen d) 1)) λf g a0 i n o D=>((inR (wsub IntKind.i64 (rlen d) 1) (rset d (wsub IntKind.i64 (rlen d) 1) [I f,I g,I e.s,I i,I n,I o,B D]))/\(ej5 (rget (rset d (wsub IntKind.i64 (rlen d) 1) [I f,I g,I e.s,I i,I n,I o,B D]) (wsub IntKind.i64 (rlen d) 1)) λK L M N a1 O b3=>(Q ([B true,wr18 Y Z x4 b x5 x6 (rset (rset d (wsub IntKind.i64 (rlen d) 1) [I f,I g,I e.s,I i,I n,I o,B D]) (wsub IntKind.i64 (rlen d) 1) [I K,I L,I M,I N,I e.a,I O,B b3]) x V W l5 x9 F G H b1 l6 J]))))))))))):=by
  intro Q A;by_cases hE:encE w.j.cx.s w.j.cx.a w.j.cx.m e=0
  rotate_left
  .rw[if_neg hE]at u;have:recW w e=none:=(by grind [Zav,recW]);rw[this]at A;exact Cl.of u ⟨_,_,_,_,_,rfl,Zaa (λ_=>A) (λh=>by simp at h;exact absurd h hE)⟩
  rw[if_pos hE]at u;obtain⟨P,a2⟩:=Zsj hE
  have hr:recW w e=some ⟨{w.j with sg:=l++[{p with sz:=p.sz+(recL' w.j e).length,la:=e.s,ti:=e.a}],cx:=⟨e.s,e.a,bhdN w.j.cx.m e.c⟩},w.td++[.wri (nmG p.num) (bys (recL' w.j e))],w.sz+(recL' w.j e).length⟩:=by
   grind [Zav,recW]
  rw[hr]at A;refine Cl.of u ⟨_,_,_,_,_,rfl,Zaa (λh=>by simp at h) (λ_=>Cl.of (Zsi w l p T (recL' w.j e) P Vo Vo Vo Vo Vo) ⟨_,_,_,_,_,_,_,_,_,_,_,_,_,_,_,_,_,_,rfl,?_⟩)⟩;have R:(putW w l p (recL' w.j e)).j.sg=l++[{p with sz:=p.sz+(recL' w.j e).length}]:=rfl
  dsimp only
  rw[R,Zjf _];refine⟨sg_in l _,sg_in l _,_,_,_,_,_,_,_,Zfg l _,?_⟩;have e1:=Zu5 l {p with sz:=p.sz+(recL' w.j e).length} {p with sz:=p.sz+(recL' w.j e).length,la:=e.s};unfold SgD.row at e1
  dsimp only at e1|-
  rw[e1];refine⟨sg_in l _,_,_,_,_,_,_,_,Zfg l _,?_⟩;have e2:=Zu5 l {p with sz:=p.sz+(recL' w.j e).length,la:=e.s} {p with sz:=p.sz+(recL' w.j e).length,la:=e.s,ti:=e.a};unfold SgD.row at e2
  dsimp only at e2|-
  rw[e2];exact A
 exact wrec_nf ⟨C (λr=>r=match recW w e with|none=>[B false,w.sv]|some v=>[B true,v.sv]) rfl,C (λr=>r=match recW w e with|none=>[B false,w.sv]|some v=>[B true,v.sv]) rfl⟩
def jover_fn(j:JoD)(e:Cod.EvD)(t:j.sg.length<=100000)(i:∀p∈j.sg,0<=p.sz/\p.sz<=1000000000/\0<=p.fr/\p.fr<=1099511627776)(u:0<=e.a/\e.a<=9223372036854775807):Ct prog 55 {} [j.sv,e.sv] (λr=>r=[B (ovrB j e)]):=by
 refine jover_nf ?_
 rcases Y4 j.sg with h|⟨l,p,h⟩
 .have:ovrB j e=false:=by unfold ovrB;rw[h];rfl
  simp_all[Zaa]
 rw[List.concat_eq_append]at h;have o:l.length<=100000:=Vg;have v:=i p (by rw[h];simp);have d:inR (wsub IntKind.i64 (rlen (sgR j.sg)) 1) (sgR j.sg):=by rw[h,Zjf p];exact sg_in l p
 have c:ovrB j e=if p.sl=true\/p.la<=p.fi then false else if encE j.cx.s j.cx.a j.cx.m e≠0\/j.cb<p.sz+(recL' j e).length then true else decide (j.cg<e.a-p.fr):=(by grind [Zav,ovrB]);have b:=Zt8 j.cx.s j.cx.a j.cx.m e
 unfold addR at b;refine Zaa (λg=>by rw[h]at g;simp at g<;>omega) (λ_=>⟨d,_,_,_,_,_,_,_,by rw[h,Zjf p];exact Zfg l p,Zaa (λg=>?_) (λg=>?_)⟩)
 .have g:p.sl=true\/p.la<=p.fi:=by simp_all
  grind
 have g:¬(p.sl=true\/p.la<=p.fi):=(by simp_all);rw[if_neg g]at c;by_cases hE:encE j.cx.s j.cx.a j.cx.m e=0
 rotate_left
 .rw[if_neg hE]at b;rw[if_pos (.inl hE)]at c;exact Cl.of b ⟨_,_,_,_,_,rfl,Zaa (λ_=>by rw[c]) (λq=>by simp[hE]at q)⟩
 rw[if_pos hE]at b;obtain⟨k,n⟩:=Zsj hE;have f:rlen (bR (fr 2 (encL j.cx.s j.cx.a j.cx.m e)))=(recL' j e).length:=(by simp[recL']);refine Cl.of b ⟨_,_,_,_,_,rfl,?_⟩
 dsimp only
 rw[f,Zac,Zap];refine Zaa (λq=>?_) (λq=>?_)
 .simp_all
 .have q:¬j.cb<p.sz+(recL' j e).length:=by simpa using q
  simp_all
structure WB(w:WrD)(j:JoD)(n:Nat):Prop where
 dk:w.j.dk=j.dk
 st:w.j.st=j.st
 len:w.j.sg.length<=n
 td:w.td.length<=n
 sz:0<=w.sz/\w.sz<=n
 ps:∀p∈w.j.sg,(0<=p.sz/\p.sz<=65536+n)/\(1<=p.num/\p.num<=99999999)
 ok:∀s∈w.td,s.ok
def wri_ok(h:x.length<=1000):(Stp.wri s (bys x)).ok:=by
 show(bys x).length<=_;unfold bys;rw[List.length_map];omega
def selB_len(h:Fct J){p:SgD}(b:p∈J.sg):(selB J p).length<=40:=by
 have c:=(Zba.1 h.cx).1;have d:=h.ps p b;have:=slP_le (n:=p.la-p.fi) (s:=J.cx.s) (a:=J.cx.a) Vo Vo Vo;unfold selB;rw[Zf2];omega
def w0_B(h:Fct J):WB (w0 J) J 64:=
 ⟨rfl,rfl,h.len,by simp[w0],by simp[w0],λp a=>by have:=h.ps p a;exact⟨Vo,this.2.1⟩,λs b=>by simp[w0]at b⟩
def seal_B(h:Fct J){l:List SgD}{p:SgD}(a:J.sg=l++[p]):WB (sealW (w0 J) l p) J 110:=by
 have d:=selB_len h (p:=p) (by rw[a];simp);have c:=h.len;rw[a]at c;simp at c;have e:=h.ps p (by rw[a];simp);refine⟨rfl,rfl,by simp[sealW];omega,by simp[sealW,w0],?_,?_,?_⟩
 .have:(sealW (w0 J) l p).sz=0+((selB J p).length:Int):=rfl;omega
 .intro q b;have b:q∈l++[{p with sz:=p.sz+(selB J p).length,sl:=true}]:=b
  rcases List.mem_append.1 b with b|b
  .have:=h.ps q (by rw[a];simp[b]);exact⟨Vo,this.2.1⟩
  .have:q={p with sz:=p.sz+(selB J p).length,sl:=true}:=(by simpa using b);subst this
   dsimp only;omega
 .intro s a;have a:s∈([]:List Stp)++[.wri (nmG p.num) (bys (selB J p)),.syn (nmG p.num)]:=a;simp at a
  rcases a with rfl|rfl
  .exact wri_ok Vo
  .trivial
def w1_B(h:Fct J)(e:Cod.EvD):WB (w1 J e) J 110:=by
 have a:WB (w0 J) J 110:=(by have:=w0_B h;exact⟨this.dk,this.st,by have:=this.len;omega,by have:=this.td;omega,by have:=this.sz;omega,λp b=>by have:=this.ps p b;omega,this.ok⟩);unfold w1
 rcases Y4 J.sg with hs|⟨l,p,hs⟩
 .rw[hs];exact a
 .rw[List.concat_eq_append]at hs;rw[hs,Zav]
  dsimp only
  split
  .exact seal_B h hs
  .exact a
def w2_B{j:JoD}(h:Fct j)(e:Cod.EvD){w:WrD}(c:w2 j e=some w):WB w j 170/\∃l p,w.j.sg=l++[p]:=by
 have a:=w1_B h e;unfold w2 at c
 split at c
 next g=>
  cases c
  refine⟨⟨a.dk,a.st,by have:=a.len;omega,by have:=a.td;omega,by have:=a.sz;omega,λp i=>by have:=a.ps p i;omega,a.ok⟩,?_⟩
  rcases Y4 (w1 j e).j.sg with b|⟨l,p,b⟩
  .unfold opnW at g;rw[b]at g;cases g
  .exact⟨l,p,by rw[b,List.concat_eq_append]⟩
 .unfold begW at c
  split at c
  .cases c
  rename_i k
  cases c
  have f:inN (nxtN (w1 j e)):=Classical.byContradiction λq=>k (.inl q);have n:=(Ztl (j:=(w1 j e).j) f (by rw[a.st];exact Zqj h.st)).2;have m:=a.sz;refine⟨⟨a.dk,a.st,by have:=a.len;simp;omega,by have:=a.td;simp;omega,by dsimp only;omega,?_,?_⟩,_,_,rfl⟩
  .intro q d
   rcases List.mem_append.1 d with d|d
   .have:=a.ps q d;omega
   .have:q=_:=List.mem_singleton.1 d;subst this;exact⟨by dsimp only;omega,f⟩
  .intro s b
   rcases List.mem_append.1 b with b|b
   .exact a.ok s b
   .simp at b
    rcases b with rfl|rfl
    .trivial
    .exact wri_ok Vo
def rec_B{w v:WrD}{j:JoD}(h:WB w j 170){e:Cod.EvD}(b:recW w e=some v):WB v j 300:=by
 rcases Y4 w.j.sg with a|⟨l,p,a⟩
 .unfold recW at b;rw[a]at b;cases b
 rw[List.concat_eq_append]at a;unfold recW at b;rw[a,Zav]at b
 dsimp only at b
 split at b
 .cases b
 rename_i f
 cases b
 have i:=(Zsj (j:=w.j) (e:=e) (by simpa using f)).2;have d:=h.len;rw[a]at d;simp at d;have k:=h.ps p (by rw[a];simp);have g:=h.sz;refine⟨h.dk,h.st,Vm,by have:=h.td;simp;omega,by dsimp only;omega,?_,?_⟩
 .intro q c
  rcases List.mem_append.1 c with c|c
  .have:=h.ps q (by rw[a];simp[c]);omega
  .have:q=_:=List.mem_singleton.1 c;subst this
   dsimp only;omega
 .intro s a
  rcases List.mem_append.1 a with a|a
  .exact h.ok s a
  .simp at a;subst a;exact wri_ok Vo
def segcl_fn(l:List SgD)(h:l.length<=1000000):Ct prog 54 ⟨[],[.own]⟩ [SL 7 (sgR l)] (λr=>r=[SL 7 (sgR l)]):=by
 refine segcl_nf (λb a=>Zaa (λe=>?_) (λe=>⟨?_,?_⟩))
 .have:=a e;have:l=[]:=(by simpa using this);rw[this];rfl
 .simp;omega
 .simp[rapp]
def Zvu(j:JoD):Ct prog 57 {} [j.sv] (λr=>r=[(shtJ j).1.sv,I 13]):=jshut_nf rfl
def Zs3(j:JoD)(T:j.ok)(e:Cod.EvD)(he: -9223372036854775808<=e.a/\e.a<=9223372036854775807):Ct prog 20 {} [j.sv,e.sv] (λr=>r=[(appP j e).1.sv,I (appP j e).2]):=by
 refine Zyq (Cl.of (jmay_fn j T) ⟨_,rfl,Zaa (λg=>?_) (λg=>?_)⟩)
 .have g:mayJ j≠0:=(by simpa using g);unfold appP;rw[if_pos g];rfl
 have g:mayJ j=0:=(by simpa using g);have hR:=Zkn.1 g;have f:=hR.fct;have hst:=f.st.1;have eP:appP j e=appQ j e:=(by unfold appP;rw[if_neg (by simp[g])]);rw[eP];have hw:wadd IntKind.i64 j.st.q 1=j.st.q+1:=Zac;rw[hw];refine Cl.of (Zqe j.st Vo (toE (evN j e))) ⟨_,_,_,_,rfl,Zaa (λg=>?_) (λg=>Zaa (λz=>?_) (λz=>?_))⟩
 .have g:(appS j.st (toE (evN j e))).2≠0:=(by simpa using g);unfold appQ;rw[if_pos g];rfl
 .have g:¬(appS j.st (toE (evN j e))).2≠0:=(by simpa using g);unfold appQ;rw[if_neg g,if_pos z];rfl
 have g:(appS j.st (toE (evN j e))).2=0:=by simpa using g
 have eQ:appQ j e=match w3 j (evN j e)with|none=>shtJ j|some w=>endJ j (appS j.st (toE (evN j e))).1 w:=by unfold appQ;rw[if_neg (by simp[g]),if_neg (by simp[z])];rfl
 have a0:0<=e.a:=(by have:=(appS_may g).tm;have h2:j.st.t<=(toE (evN j e)).a:=this;have:(toE (evN j e)).a=e.a:=rfl;omega);have R:w3 j (evN j e)=none->Cl prog 57 sP [j.sv] (λrs=>ej19 rs λG i k b3 m n H o s J u x y A C K D=>[jr16 G i k b3 m n H o s J u x y A C K,I D]=[(appQ j e).1.sv,I (appQ j e).2]):=λq=>by rw[eQ,q];exact Cl.of (Zvu j) ⟨_,_,_,_,_,_,_,_,_,_,_,_,_,_,_,_,_,rfl,rfl⟩
 have h:=w1_B f (evN j e);refine Cl.of (segcl_fn j.sg T.sg) ⟨_,rfl,?_⟩;refine⟨λb Y Z x5 b1 x6 x7 l3 x8 x9 l4 l5 L M N O b2 l6 P=>b=false/\wr18 Y Z x5 b1 x6 x7 l3 x8 x9 l4 l5 L M N O b2 l6 P=(w1 j (evN j e)).sv,λ_ _ _ _ _ _ _ _ _ _ _ _ _ _ _ _ _ _ _=>0,?_,?_⟩
 .refine Cl.of (jover_fn j (evN j e) (by have:=f.len;omega) (λp U=>by have:=f.ps p U;omega) ⟨a0,he.2⟩) ⟨_,rfl,Zaa (λq=>?_) (λq=>⟨rfl,rfl,?_⟩)⟩
  .rcases Y4 j.sg with c|⟨l,p,c⟩
   .unfold ovrB at q;rw[c]at q;cases q
   rw[List.concat_eq_append]at c;have U:=f.ps p (by rw[c];simp);have F:=f.len;rw[c]at F;simp at F;have:w1 j (evN j e)=sealW (w0 j) l p:=by unfold w1;rw[c,Zav];simp[q]
   rw[this];exact Cl.of (wseal_fn (w0 j) l p c f.cx Vo Vo Vo Vo (by simp[w0]) Vo (by simp[w0])) ⟨_,_,_,_,_,_,_,_,_,_,_,_,_,_,_,_,_,_,_,rfl,rfl,rfl,rfl⟩
  .have:w1 j (evN j e)=w0 j:=by
    unfold w1
    rcases Y4 j.sg with c|⟨l,p,c⟩
    .rw[c];rfl
    .rw[c,List.concat_eq_append,Zav];simp[q]
   rw[this];rfl
 rintro b Y Z x5 b1 x6 x7 l3 x8 x9 l4 l5 L M N O b2 l6 P ⟨rfl,hv⟩;rw[hv];refine Zaa (λq=>by cases q) (λ_=>?_);refine⟨λb3 G i k K m n H o s J u x y A C b5 Q D=>match w2 j (evN j e)with|none=>b3=true|some v=>b3=false/\wr18 G i k K m n H o s J u x y A C b5 Q D=v.sv,λ_ _ _ _ _ _ _ _ _ _ _ _ _ _ _ _ _ _ _=>0,?_,?_⟩
 .refine Cl.of (wopen_fn (w1 j (evN j e)) (by have:=h.len;omega)) ⟨_,_,_,_,_,_,_,_,_,_,_,_,_,_,_,_,_,_,_,rfl,Zaa (λq=>?_) (λq=>⟨rfl,?_⟩)⟩
  .have q:opnW (w1 j (evN j e))=false:=(by simpa using q);have e2:w2 j (evN j e)=begW (w1 j (evN j e)):=(by unfold w2;rw[if_neg (by simp[q])]);have hb:=wbegin_fn (w1 j (evN j e)) (λl p c=>by have:=h.ps p (by rw[c];simp);omega) (by rw[h.st];exact Zqj f.st) (by have:=h.len;omega) (by rw[h.dk];have:=f.fs;omega) (by have:=h.td;omega) (by have:=h.sz;omega);refine Cl.ofQ hb ?_;rintro r rfl;rw[e2]
   cases begW (w1 j (evN j e))with
   |none=>exact⟨_,_,_,_,_,_,_,_,_,_,_,_,_,_,_,_,_,_,_,rfl,rfl,rfl⟩
   |some v=>exact⟨_,_,_,_,_,_,_,_,_,_,_,_,_,_,_,_,_,_,_,rfl,rfl,rfl,rfl⟩
  .have q:opnW (w1 j (evN j e))=true:=(by simpa using q);have e2:w2 j (evN j e)=some (w1 j (evN j e)):=(by unfold w2;rw[if_pos q]);rw[e2];exact⟨rfl,rfl⟩
 rintro b3 G i k K m n H o s J u x y A C b5 Q D d
 cases hw2:w2 j (evN j e)with
 |none=>rw[hw2]at d;have d:b3=true:=d;subst d;exact Zaa (λ_=>R (by unfold w3;rw[hw2])) (λq=>by cases q)
 |some w=>
  rw[hw2]at d;obtain⟨rfl,d⟩:=d;rw[d];obtain⟨E,l,p,c⟩:=w2_B f _ hw2;have e3:w3 j (evN j e)=recW w (evN j e):=by unfold w3;rw[hw2]
  have F:=E.len;rw[c]at F;simp at F;have U:=E.ps p (by rw[c];simp);refine Zaa (λq=>by cases q) (λ_=>?_);have V:=wrec_fn w (evN j e) l p c Vo (by have:=E.td;omega) Vo (by have:=E.sz;omega);refine Cl.ofQ V ?_;rintro r rfl
  cases hr:recW w (evN j e)with
  |none=>refine⟨_,_,_,_,_,_,_,_,_,_,_,_,_,_,_,_,_,_,_,rfl,Zaa (λ_=>R (by rw[e3,hr])) (λq=>by simp at q)⟩
  |some v=>
   have W:=rec_B E hr;have hd:=T.dk;have hu:=hd.1;have X:appQ j e=endJ j (appS j.st (toE (evN j e))).1 v:=(by rw[eQ,e3,hr]);have a1:=W.sz;refine⟨_,_,_,_,_,_,_,_,_,_,_,_,_,_,_,_,_,_,_,rfl,Zaa (λq=>by simp at q) (λ_=>Cl.of (Zo3 j.dk hd) ⟨_,rfl,?_⟩)⟩
   dsimp only
   rw[Zac];refine Zaa (λq=>?_) (λq=>?_)
   .have q:j.dk.rm<usedL j.dk.fs+v.sz:=(by simpa using q);have:endJ j (appS j.st (toE (evN j e))).1 v=shtJ j:=(by unfold endJ;rw[if_pos q]);rw[X,this];exact Cl.of (Zvu j) ⟨_,_,_,_,_,_,_,_,_,_,_,_,_,_,_,_,_,rfl,rfl⟩
   .have q:¬j.dk.rm<usedL j.dk.fs+v.sz:=(by simpa using q);refine Cl.of (jrun_fn j.dk hd v.td W.ok (by have:=W.td;omega)) ⟨_,_,_,_,_,rfl,Zaa (λz=>?_) (λz=>?_)⟩
    .have z:(runP j.dk v.td).2≠0:=(by simpa using z);have:endJ j (appS j.st (toE (evN j e))).1 v=({j with dk:=(runP j.dk v.td).1},(runP j.dk v.td).2):=(by unfold endJ;rw[if_neg q,if_pos z]);rw[X,this];rfl
    .have z:¬(runP j.dk v.td).2≠0:=(by simpa using z);have:endJ j (appS j.st (toE (evN j e))).1 v=({v.j with dk:=(runP j.dk v.td).1,st:=(appS j.st (toE (evN j e))).1},0):=(by unfold endJ;rw[if_neg q,if_neg z]);rw[X,this];rfl
def DiD.Sz(d:DiD):Prop:=d.fs.length<=140737488351232/\(∀f∈d.fs,f.su.length<=140737488351232/\f.lo.length<=140737488351232)/\d.st<=9223372036854775807
def Sz.ok{d:DiD}(h:DiD.Sz d)(i:d.fs.length<=70):d.ok:=by
 obtain⟨_,c,e⟩:=h
 have:∀l:List FiD,(∀f∈l,f.su.length<=140737488351232/\f.lo.length<=140737488351232)->usedL l<=l.length*281474976702464:=by
  intro l
  induction l with
  |nil=>intro _;simp[usedL]
  |cons a l g=>intro h;have:=g (λf b=>h f (by simp[b]));have:=h a Vs;rw[Zde];simp only[FiD.len,List.length_cons];omega
 have:=this d.fs c;exact⟨Vo,Vo,e⟩
deriving instance DecidableEq for JoD
end Jou
namespace Trm
open Go Go.Px Go.Proofs  Tryz
abbrev fl5(c a b:Int)(d:BA)(ks:LL):SV:=.agg [I c,I a,I b,S d,SL 5 ks]
abbrev rd4(left:BA)(more:Bool)(a:Int)(bad:Bool):SV:=.agg [S left,B more,I a,B bad]
abbrev rs8(c a b:Int)(d:BA)(ks e:LL)(ok:Bool)(n:Int):SV:=.agg [I c,I a,I b,S d,SL 5 ks,SL 1 e,B ok,I n]
def SgT:FuncId->Sig:=(λf=>bif Nat.beq f 46 then⟨[.pure,.pure,.lend []],[]⟩else{})
def SvT:TypeId->Sig:=(λf=>{})
def tfr_nf(h:Cl prog 46 (Sig.mk ([Md.pure,Md.pure,Md.lend []]) []) ([SV.agg [I c,I i,I b,S s,SL 5 l],I 1,SV.agg [I 64]]) (λg=>∃e x,(g=[B e,SV.agg [I x]])/\Q [B e])):Ct prog 14 {} [fl5 c i b s l] Q:=
 fN SgT SvT func14 h
def Zzs{d left:Int}(h:ifB (bpick (igt d 16) true (ieq left 0)) (Q ([B false,SV.agg [I left]])) (Cl prog 103 sP ([SV.agg [I j,I i,I b,S s,SL 5 l]]) (λt=>∃o,(t=[B o])/\ifB (bnot o) (Q ([B false,SV.agg [I left]])) (∃c:Bool->Int->Int->Prop,∃m:Bool->Int->Int->Nat,(c false 0 (wsub .i64 left 1))/\∀e x g,(c e x g)->ifB (ilt x (rlen l)) (((0<=x)/\x<(rlen l))/\∃p q,∃r k ks,(rget l x=[I p,I q,I r,S k,SL 5 ks])/\Cl prog 46 (Sig.mk ([Md.pure,Md.pure,Md.lend []]) []) ([SV.agg [I p,I q,I r,S k,SL 5 ks],I (wadd .i64 d 1),SV.agg [I g]]) (λn=>∃b3 a,(n=[B b3,SV.agg [I a]])/\ifB (bnot b3) (Q ([B false,SV.agg [I a]])) ((Sm (some ([[I j,I i,I b,S s,SL 5 l]])))/\(c e (wadd .i64 x 1) a)/\Nl (m e (wadd .i64 x 1) a) (m e x g)))) (Q ([B true,SV.agg [I g]])))))):Ct prog 46 ⟨[.pure,.pure,.lend []],[]⟩ [fl5 j i b s l,I d,.agg [I left]] Q:=
 fN SgT SvT func46 h
def Zzt(h:ifB (ieq c 1) (Q ([B (bpick (bpick (bpick (ieq i 0) (ieq b 0) false) (seq s (bA [])) false) (ieq (rlen l) 0) false)])) (ifB (ieq c 2) (Cl prog 165 sP [I i,I 1099511627776] (λg=>∃e,(g=[B e])/\ifB e (Cl prog 165 sP [I b,I 1099511627776] (λa=>∃j,(a=[B j])/\Q ([B (bpick (bpick j (seq s (bA [])) false) (ieq (rlen l) 0) false)]))) (Q [B false]))) (ifB (ieq c 3) (Cl prog 165 sP [I i,I 4294967296] (λg=>∃e,(g=[B e])/\ifB e (Cl prog 165 sP [I b,I 4294967296] (λa=>∃j,(a=[B j])/\Q ([B (bpick (bpick j (seq s (bA [])) false) (ieq (rlen l) 0) false)]))) (Q [B false]))) (ifB (ieq c 4) (Cl prog 166 sP [S s] (λg=>∃e,(g=[B e])/\Q [B (bpick (bpick e (bpick (ieq i 0) (ieq b 0) false) false) (ieq (rlen l) 0) false)])) (ifB (ieq c 5) (Q ([B (bpick (bpick (bpick (bpick (ige i 1) (ile i 10) false) (ieq b 0) false) (seq s (bA [])) false) (ieq (rlen l) 0) false)])) (ifB (ieq c 6) (ifB (ieq c 6) (Q ([B (bpick (bpick (ieq i 0) (ieq b 0) false) (seq s (bA [])) false)])) (ifB (ieq c 8) (Q ([B (bpick (bpick (bpick (ieq i 0) (ieq b 0) false) (seq s (bA [])) false) (ieq (rlen l) 1) false)])) (Q [B false]))) (ifB (ieq c 7) (Q ([B (bpick (bpick (ieq i 0) (ieq b 0) false) (seq s (bA [])) false)])) (ifB (ieq c 8) (Q ([B (bpick (bpick (bpick (ieq i 0) (ieq b 0) false) (seq s (bA [])) false) (ieq (rlen l) 1) false)])) (Q [B false]))))))))):Ct prog 103 {} [fl5 c i b s l] Q:=
 fN SgT SvT func103 h
def Zxh(h:Q [B (bpick (ige i 0) (ile i j) false)]):Ct prog 165 {} [I i,I j] Q:=
 fN SgT SvT func165 h
def Zzu(h:Q [B (bpick (ige (slen s) 1) (ile (slen s) 24) false)]):Ct prog 166 {} [S s] Q:=
 fN SgT SvT func166 h
def Zzv(h:Cl prog 14 sP ([SV.agg [I i,I j,I b,S s,SL 5 l]]) (λp=>∃n,(p=[B n])/\ifB n (Cl prog 14 sP ([SV.agg [I c,I e,I k,S t,SL 5 r]]) (λks=>∃b3,(ks=[B b3])/\ifB b3 (Cl prog 49 sP ([SV.agg [I i,I j,I b,S s,SL 5 l],SV.agg [I c,I e,I k,S t,SL 5 r]]) (λm=>∃o,(m=[B o])/\Q [B o])) (Q [B false]))) (Q [B false]))):Ct prog 18 {} [fl5 i j b s l,fl5 c e k t r] Q:=
 fN SgT SvT func18 h
def tsame_nf{d n o:Int}(h:ifB (bpick (bpick (bpick (bpick (ine j d) true (ine i n)) true (ine b o)) true (sne s t)) true (ine (rlen l) (rlen r))) (Q [B false]) (∃g:Bool->Int->Prop,∃m:Bool->Int->Nat,(g false 0)/\∀a x,(g a x)->ifB (ilt x (rlen l)) (((0<=x)/\x<(rlen l))/\∃p q,∃c k ks,(rget l x=[I p,I q,I c,S k,SL 5 ks])/\((0<=x)/\x<(rlen r))/\∃e u,∃v w y,(rget r x=[I e,I u,I v,S w,SL 5 y])/\Cl prog 49 sP ([SV.agg [I p,I q,I c,S k,SL 5 ks],SV.agg [I e,I u,I v,S w,SL 5 y]]) (λz=>∃b3,(z=[B b3])/\ifB (bnot b3) (Q [B false]) ((Sm (some ([[I d,I n,I o,S t,SL 5 r],[I j,I i,I b,S s,SL 5 l]])))/\(g a (wadd .i64 x 1))/\Nl (m a (wadd .i64 x 1)) (m a x)))) (Q [B true]))):Ct prog 49 {} [fl5 j i b s l,fl5 d n o t r] Q:=
 fN SgT SvT func49 h
def rsize_nf{most:Int}(h:∃n:Int->Int->Int->Int->Int->Prop,∃m:Int->Int->Int->Int->Int->Nat,(n 0 0 1 1 0)/\∀x g,∀d e c,(n x g d e c)->ifB (bpick (ilt c (rlen l)) (ile d (wmul .i64 2 most)) false) (ifB (ieq most 0) (Q [I (wadd .i64 d 1),I (wadd .i64 e 1)]) (((0<=c)/\c<(rlen l))/\∃p q,∃r o ks,(rget l c=[I p,I q,I r,S o,SL 5 ks])/\Cl prog 23 sP ([SV.agg [I p,I q,I r,S o,SL 5 ks],I (wsub .i64 most 1)]) (λt=>∃a k,(t=[I a,I k])/\ifB (igt (wadd .i64 k 1) e) ((Sm (some ([[I i,I j,I b,S s,SL 5 l]])))/\(n x g (wadd .i64 d a) (wadd .i64 k 1) (wadd .i64 c 1))/\Nl (m x g (wadd .i64 d a) (wadd .i64 k 1) (wadd .i64 c 1)) (m x g d e c)) ((Sm (some ([[I i,I j,I b,S s,SL 5 l]])))/\(n x g (wadd .i64 d a) e (wadd .i64 c 1))/\Nl (m x g (wadd .i64 d a) e (wadd .i64 c 1)) (m x g d e c))))) (Q [I d,I e])):Ct prog 23 {} [fl5 i j b s l,I most] Q:=
 fN SgT SvT func23 h
theorem Zzw(c a b:Int)(d:BA)(ks:LL)(Q:QQ)(h:Cl prog 23 sP ([SV.agg [I c,I a,I b,S d,SL 5 ks],I 100]) (λj=>∃x g,(j=[I x,I g])/\ifB (bpick (ile x 100) (ile g 40) false) (Cl prog 24 sP ([SV.agg [I c,I a,I b,S d,SL 5 ks]]) (λe=>∃i,(e=[B i])/\Q [B i])) (Q [B false]))):Ct prog 8 {} [fl5 c a b d ks] Q:=
 fN SgT SvT func8 h
def Zzx(h:∃c:Bool->Int->Prop,∃m:Bool->Int->Nat,(c false 0)/\∀d x,(c d x)->ifB (ilt x (rlen l)) (((0<=x)/\x<(rlen l))/\∃g a,∃k e ks,(rget l x=[I g,I a,I k,S e,SL 5 ks])/\Cl prog 24 sP ([SV.agg [I g,I a,I k,S e,SL 5 ks]]) (λo=>∃n,(o=[B n])/\ifB (bnot n) (Q [B false]) ((Sm (some ([[I i,I j,I b,S s,SL 5 l]])))/\(c d (wadd .i64 x 1))/\Nl (m d (wadd .i64 x 1)) (m d x)))) (Q [B (ile (slen s) 100)])):Ct prog 24 {} [fl5 i j b s l] Q:=
 fN SgT SvT func24 h
end Trm
namespace Trm
open Go Go.Px Go.Proofs Tryz
abbrev Tx:=List UInt8
abbrev bT(l:Tx):BA:=⟨l.toArray⟩
def bA_of(s:BA):bT s.data.toList=s:=by
 cases s;simp[bT]
def Zwa:s=t↔s.data.toList=t.data.toList:=
 ⟨λh=>h▸rfl,λh=>by rw[<-bA_of s,<-bA_of t,h]⟩
inductive FlD where
 |mk (op a b:Int) (nm:BA) (ks:List FlD)
def FlD.ks:FlD->List FlD| .mk _ _ _ _ ks=>ks
mutual
def FlD.row:FlD->List SV
 | .mk c a b d ks=>[I c,I a,I b,S d,SL 5 (rowsF ks)]
def rowsF:List FlD->LL
 | []=>[]
 |k::ks=>k.row::rowsF ks
end
def Zq8:∀ks:List FlD,rowsF ks=ks.map FlD.row
 | []=>by simp[rowsF]
 |k::ks=>by rw[rowsF,Zq8 ks];rfl
def row_mk(c a b:Int)(d:BA)(ks:List FlD):(FlD.mk c a b d ks).row=[I c,I a,I b,S d,SL 5 (ks.map FlD.row)]:=by
 rw[FlD.row,Zq8]
mutual
def row_inj:∀f g:FlD,f.row=g.row->f=g
 | .mk o a b n ks,.mk o' a' b' n' ks',h=>by simp only[FlD.row,List.cons.injEq,SV.val.injEq,Value.int.injEq,Value.string.injEq,SV.slice.injEq,true_and,and_true]at h;obtain⟨rfl,rfl,rfl,rfl,h⟩:=h;rw[Zq9 ks ks' h]
def Zq9:∀a b:List FlD,rowsF a=rowsF b->a=b
 | [],[],_=>rfl
 | [],_::_,h=>by simp[rowsF]at h
 |_::_,[],h=>by simp[rowsF]at h
 |f::a,g::b,h=>by simp only[rowsF,List.cons.injEq]at h;rw[row_inj f g h.1,Zq9 a b h.2]
end
def OkOne(c a b:Int)(m n:Nat):Prop:=
 (c=1/\a=0/\b=0/\m=0/\n=0)\/(c=2/\(0<=a/\a<=1099511627776)/\(0<=b/\b<=1099511627776)/\m=0/\n=0)\/
 (c=3/\(0<=a/\a<=4294967296)/\(0<=b/\b<=4294967296)/\m=0/\n=0)\/(c=4/\(1<=m/\m<=24)/\a=0/\b=0/\n=0)\/
 (c=5/\(1<=a/\a<=10)/\b=0/\m=0/\n=0)\/(c=6/\a=0/\b=0/\m=0)\/(c=7/\a=0/\b=0/\m=0)\/(c=8/\a=0/\b=0/\m=0/\n=1)
instance (op a b:Int) (m n:Nat):Decidable (OkOne op a b m n):=by unfold OkOne;infer_instance
mutual
def okA:FlD->Prop
 | .mk c a b d ks=>OkOne c a b d.size ks.length/\okL ks
def okL:List FlD->Prop
 | []=>True
 |k::ks=>okA k/\okL ks
end
def Zha:∀ks:List FlD,okL ks↔∀k∈ks,okA k
 | []=>by simp[okL]
 |k::ks=>by simp[okL,Zha ks]
mutual
def cnt:FlD->Nat
 | .mk _ _ _ _ ks=>1+cntL ks
def cntL:List FlD->Nat
 | []=>0
 |k::ks=>cnt k+cntL ks
end
mutual
def dep:FlD->Nat
 | .mk _ _ _ _ ks=>1+depL ks
def depL:List FlD->Nat
 | []=>0
 |k::ks=>max (dep k) (depL ks)
end
theorem cnt_pos:∀f:FlD,1<=cnt f
 | .mk _ _ _ _ ks=>by rw[cnt];omega
theorem dep_pos:∀f:FlD,1<=dep f
 | .mk _ _ _ _ ks=>by rw[dep];omega
def Zj5:∀a b:List FlD,cntL (a++b)=cntL a+cntL b
 | [],b=>by simp[cntL]
 |k::a,b=>by simp[cntL,Zj5 a b];omega
def Zgf:∀ks:List FlD,ks.length<=cntL ks
 | []=>by simp[cntL]
 |k::ks=>by have:=Zgf ks;have:=cnt_pos k;simp[cntL];omega
def Zpd:∀{ks:List FlD} {k:FlD},k∈ks->dep k<=depL ks
 |k'::ks,k,h=>by
  rw[depL]
  rcases List.mem_cons.1 h with rfl|h
  .omega
  .have:=Zpd h;omega
def Zgg:∀{ks:List FlD} {k:FlD},k∈ks->cnt k<=cntL ks
 |k'::ks,k,h=>by
  rw[cntL]
  rcases List.mem_cons.1 h with rfl|h
  .omega
  .have:=Zgg h;omega
def Zwb:∀a b:List FlD,depL (a++b)=max (depL a) (depL b)
 | [],b=>by simp[depL]
 |k::a,b=>by simp[depL,Zwb a b]
def Rgt(f:FlD):Prop:=okA f/\cnt f<=64/\dep f<=16
def tAll:Tx:=[97,108,108]
def tTime:Tx:=[116,105,109,101]
def tSeq:Tx:=[115,101,113]
def tComp:Tx:=[99,111,109,112]
def tKind:Tx:=[107,105,110,100]
def tAnd:Tx:=[97,110,100]
def tOr:Tx:=[111,114]
def tNot:Tx:=[110,111,116]
def hd1(n:Nat):UInt8:=UInt8.ofNat (if n<10 then 48+n else 87+n)
def hx(c:UInt8):Tx:=[hd1 (c.toNat/16),hd1 (c.toNat%16)]
def spell(a:BA):Tx:=a.data.toList.flatMap hx
def hdW(c a b:Int)(d:BA)(n:Nat):List Tx:=
 if c=1 then[tAll]else if c=2 then[tTime,Lib.itoa a,Lib.itoa b]else if c=3 then[tSeq,Lib.itoa a,Lib.itoa b]else
 if c=4 then[tComp,spell d]else if c=5 then[tKind,Lib.itoa a]else if c=6 then[tAnd,Lib.itoa n]else if c=7 then[tOr,Lib.itoa n]else[tNot]
mutual
def wds:FlD->List Tx
 | .mk c a b d ks=>hdW c a b d ks.length++wdsL ks
def wdsL:List FlD->List Tx
 | []=>[]
 |k::ks=>wds k++wdsL ks
end
abbrev jn(a:List Tx):Tx:=Lib.join a [32]
def tx(f:FlD):Tx:=jn (wds f)
def jn_cons{w v:Tx}{a:List Tx}:jn (w::v::a)=w++32::jn (v::a):=by
 rw[jn,Lib.join_cons,jn,Lib.join_cons];simp[Lib.joinTail]
def jn_one(w:Tx):jn [w]=w:=Lib.join_one w _
def spl:Tx->List Tx
 | []=>[[]]
 |c::r=>if c=32 then[]::spl r else match spl r with
  | []=>[[c]]
  |w::ws=>(c::w)::ws
def Zwc:∀(w:Tx) (r:Tx),32∉w->spl (w++32::r)=w::spl r
 | [],r,_=>by rw[Y5,spl];simp
 |c::w,r,h=>by have b:c≠32:=λe=>h (by simp[e]);rw[Y2,spl,if_neg b,Zwc w r (λa=>h (by simp[a]))]
def Zwd:∀(w:Tx),32∉w->spl w=[w]
 | [],_=>by rw[spl]
 |c::w,h=>by have b:c≠32:=λe=>h (by simp[e]);rw[spl,if_neg b,Zwd w (λa=>h (by simp[a]))]
def spl_jn:∀a:List Tx,a≠[]->(∀w∈a,32∉w)->spl (jn a)=a
 | [],h,_=>absurd rfl h
 | [w],_,h=>by rw[jn_one,Zwd w (h w Vs)]
 |w::v::a,_,h=>by rw[jn_cons,Zwc w _ (h w Vs),spl_jn (v::a) Vs (λx hx=>h x (by simp[hx]))]
def jn_inj{a b:List Tx}(c:a≠[])(d:b≠[])(e:∀w∈a,32∉w)(f:∀w∈b,32∉w)(h:jn a=jn b):a=b:=by
 rw[<-spl_jn a c e,<-spl_jn b d f,h]
def digN(u:Nat)(h:u<208):(UInt8.ofNat (48+u)).toNat=48+u:=by
 rw[UInt8.toNat_ofNat'];omega
def dec_dig:∀(u:Nat),∀c∈Lib.decDigits u,48<=c.toNat/\c.toNat<=57:=by
 intro u
 induction u using Nat.strongRecOn with
 |_ u b=>
  intro c a;rw[Lib.decDigits]at a
  split at a
  .rw[List.mem_singleton]at a;subst a;have:=digN u Vo;omega
  .rcases List.mem_append.1 a with a|a
   .exact b (u/10) Vo c a
   .rw[List.mem_singleton]at a;subst a;have:=digN (u%10) Vo;omega
def vDec(l:Tx):Nat:=l.foldl (λn c=>10*n+(c.toNat-48)) 0
def vDec_snoc(l:Tx)(c:UInt8):vDec (l++[c])=10*vDec l+(c.toNat-48):=by simp[vDec]
def Zwe:∀u:Nat,vDec (Lib.decDigits u)=u:=by
 intro u
 induction u using Nat.strongRecOn with
 |_ u a=>
  rw[Lib.decDigits]
  split
  .show 10*0+((UInt8.ofNat (48+u)).toNat-48)=u;have:=digN u Vo;omega
  .rw[vDec_snoc,a (u/10) Vo];have:=digN (u%10) Vo;omega
def Zpe(h:0<=i):Lib.itoa i=Lib.decDigits i.toNat:=by unfold Lib.itoa;rw[if_neg Vo]
def Zfb(c:0<=i)(d:0<=b)(h:Lib.itoa i=Lib.itoa b):i=b:=by
 rw[Zpe c,Zpe d]at h;have:=congrArg vDec h;rw[Zwe,Zwe]at this;omega
def Zhb{n:Int}(h:0<=n):32∉Lib.itoa n:=λa=>by
 rw[Zpe h]at a;have:=dec_dig _ _ a
 revert this;decide
def Zly(h:n<16):(hd1 n).toNat=if n<10 then 48+n else 87+n:=by
 unfold hd1
 split<;>simp[UInt8.toNat_ofNat']<;>omega
def hd1_inj(a:m<16)(b:n<16)(h:hd1 m=hd1 n):m=n:=by
 have:=congrArg UInt8.toNat h;rw[Zly a,Zly b]at this
 split at this<;>split at this<;>omega
def hx_inj{c d:UInt8}(h:hx c=hx d):c=d:=by
 simp only[hx,List.cons.injEq,and_true]at h;have a:=UInt8.toNat_lt c;have hd:=UInt8.toNat_lt d;have b:=hd1_inj Vo Vo h.1;have e:=hd1_inj Vo Vo h.2;apply UInt8.toNat_inj.1;omega
def flat_inj:∀a b:Tx,a.flatMap hx=b.flatMap hx->a=b
 | [],[],_=>rfl
 | [],d::b,h=>by simp[hx]at h
 |c::a,[],h=>by simp[hx]at h
 |c::a,d::b,h=>by
  simp only[Yg]at h
  have e:hx c=hx d:=by
   have:=congrArg (List.take 2) h
   simpa[hx]using this
  have f:a.flatMap hx=b.flatMap hx:=by
   have:=congrArg (List.drop 2) h
   simpa[hx]using this
  rw[hx_inj e,flat_inj a b f]
def spell_inj{a b:BA}(h:spell a=spell b):a=b:=Zwa.2 (flat_inj _ _ h)
def spell_no(a:BA):32∉spell a:=λh=>by
 unfold spell at h;rw[List.mem_flatMap]at h;obtain⟨c,_,h⟩:=h;have g:=UInt8.toNat_lt c
 have b:∀n,n<16->(32:UInt8)≠hd1 n:=λn f e=>by
  have:=congrArg UInt8.toNat e;rw[Zly f]at this;have d:(32:UInt8).toNat=32:=rfl;rw[d]at this
  split at this<;>omega
 simp only[hx,List.mem_cons,YX,or_false]at h
 rcases h with h|h
 .exact b _ Vo h
 .exact b _ Vo h
def hdW_ne(c a b:Int)(d:BA)(n:Nat):hdW c a b d n≠[]:=by
 unfold hdW
 repeat' split
 all_goals simp
def wds_ne:∀f:FlD,wds f≠[]
 | .mk c a b d ks=>by rw[wds];intro h;exact hdW_ne _ _ _ _ _ (WY.1 h).1
def hdW_no(h:OkOne i j b s.size n):∀w∈hdW i j b s n,32∉w:=by
 intro w c;unfold hdW at c;unfold OkOne at h
 split at c
 .simp at c;subst c;decide
 split at c
 .simp at c
  rcases c with rfl|rfl|rfl
  .decide
  .exact Zhb Vo
  .exact Zhb Vo
 split at c
 .simp at c
  rcases c with rfl|rfl|rfl
  .decide
  .exact Zhb Vo
  .exact Zhb Vo
 split at c
 .simp at c
  rcases c with rfl|rfl
  .decide
  .exact spell_no _
 split at c
 .simp at c
  rcases c with rfl|rfl
  .decide
  .exact Zhb Vo
 split at c
 .simp at c
  rcases c with rfl|rfl
  .decide
  .exact Zhb Vo
 split at c
 .simp at c
  rcases c with rfl|rfl
  .decide
  .exact Zhb Vo
 .simp at c;subst c;decide
mutual
def wds_no:∀f:FlD,okA f->∀w∈wds f,32∉w
 | .mk op a b nm ks,h,w,hw=>by
  rw[okA]at h;rw[wds,List.mem_append]at hw
  rcases hw with hw|hw
  .exact hdW_no h.1 w hw
  .exact wdsL_no ks h.2 w hw
def wdsL_no:∀ks:List FlD,okL ks->∀w∈wdsL ks,32∉w
 | [],_,w,hw=>by simp[wdsL]at hw
 |k::ks,h,w,hw=>by
  rw[okL]at h;rw[wdsL,List.mem_append]at hw
  rcases hw with hw|hw
  .exact wds_no k h.1 w hw
  .exact wdsL_no ks h.2 w hw
end
def hdW_inj{r o:List Tx}(h:OkOne i c b s.size n)(a:OkOne e j k t.size m)(f:hdW i c b s n++r=hdW e j k t m++o):
  i=e/\c=j/\b=k/\s=t/\n=m/\r=o:=by
 have d:∀{x y:BA},x.size=0->y.size=0->x=y:=λ{x y} hx hy=>by apply Zwa.2;rw[ByteArray.size]at hx hy;have p:x.data.toList=[]:=Y6 (by simpa using hx);have q:y.data.toList=[]:=Y6 (by simpa using hy);rw[p,q]
 unfold OkOne at h a
 rcases h with⟨rfl,h⟩|⟨rfl,h⟩|⟨rfl,h⟩|⟨rfl,h⟩|⟨rfl,h⟩|⟨rfl,h⟩|⟨rfl,h⟩|⟨rfl,h⟩<;>
 rcases a with⟨rfl,a⟩|⟨rfl,a⟩|⟨rfl,a⟩|⟨rfl,a⟩|⟨rfl,a⟩|⟨rfl,a⟩|⟨rfl,a⟩|⟨rfl,a⟩<;>
 simp[hdW,tAll,tTime,tSeq,tComp,tKind,tAnd,tOr,tNot]at f
 .exact⟨rfl,Vo,Vo,d Vo Vo,Vo,f⟩
 .exact⟨rfl,Zfb Vo Vo f.1,Zfb Vo Vo f.2.1,d Vo Vo,Vo,f.2.2⟩
 .exact⟨rfl,Zfb Vo Vo f.1,Zfb Vo Vo f.2.1,d Vo Vo,Vo,f.2.2⟩
 .exact⟨rfl,Vo,Vo,spell_inj f.1,Vo,f.2⟩
 .exact⟨rfl,Zfb Vo Vo f.1,Vo,d Vo Vo,Vo,f.2⟩
 .have:=Zfb Vo Vo f.1;exact⟨rfl,Vo,Vo,d Vo Vo,Vo,f.2⟩
 .have:=Zfb Vo Vo f.1;exact⟨rfl,Vo,Vo,d Vo Vo,Vo,f.2⟩
 .exact⟨rfl,Vo,Vo,d Vo Vo,Vo,f⟩
mutual
def wds_inj:∀(f g:FlD) (r c:List Tx),okA f->okA g->wds f++r=wds g++c->f=g/\r=c
 | .mk op a b nm ks,.mk op' a' b' nm' ks',r,c,h,h',e=>by rw[okA]at h h';rw[wds,wds,List.append_assoc,List.append_assoc]at e;obtain⟨rfl,rfl,rfl,rfl,d,e⟩:=hdW_inj h.1 h'.1 e;obtain⟨rfl,rfl⟩:=Zwf ks ks' r c d h.2 h'.2 e;exact⟨rfl,rfl⟩
def Zwf:∀(a b:List FlD) (r c:List Tx),a.length=b.length->okL a->okL b->wdsL a++r=wdsL b++c->a=b/\r=c
 | [],[],r,c,_,_,_,e=>⟨rfl,by simpa[wdsL]using e⟩
 | [],_::_,_,_,h,_,_,_=>by simp at h
 |_::_,[],_,_,h,_,_,_=>by simp at h
 |f::a,g::b,r,c,hl,h,h',e=>by rw[okL]at h h';rw[wdsL,wdsL,List.append_assoc,List.append_assoc]at e;obtain⟨e1,e2⟩:=wds_inj f g _ _ h.1 h'.1 e;obtain⟨d,i⟩:=Zwf a b r c (by simpa using hl) h.2 h'.2 e2;exact⟨by rw[e1,d],i⟩
end
def tx_inj{f g:FlD}(a:okA f)(b:okA g)(h:tx f=tx g):f=g:=by
 have:=jn_inj (wds_ne f) (wds_ne g) (wds_no f a) (wds_no g b) h;exact(wds_inj f g [] [] a b (by rw[this])).1
mutual
def smF:FlD->Prop
 | .mk _ _ _ a ks=>a.size<=140737488355327/\ks.length<=140737488355327/\smL ks
def smL:List FlD->Prop
 | []=>True
 |k::ks=>smF k/\smL ks
end
def Zkx:∀{ks:List FlD} {k:FlD},smL ks->k∈ks->smF k
 |k'::ks,k,h,hm=>by
  rw[smL]at h
  rcases List.mem_cons.1 hm with rfl|hm
  .exact h.1
  .exact Zkx h.2 hm
def Zun(R:List SV->Prop)(k:∀d,R d->∃i a b g rows,d=[I i,I a,I b,S g,SL 5 rows]/\g.size<=140737488355327/\rows.length<=140737488355327/\∀r∈rows,R r):
  ∀(n:Nat) (d:List SV),SizeOf.sizeOf d<=n->R d->∃f:FlD,d=f.row/\smF f
 |0,d,hn,h=>by
  cases d<;>simp at hn
 |n+1,d,hn,h=>by
  obtain⟨i,a,b,g,rows,rfl,p,q,s⟩:=k d h
  have m:∀c:LL,SizeOf.sizeOf c<=SizeOf.sizeOf rows->(∀r∈c,R r)->∃ks:List FlD,c=ks.map FlD.row/\smL ks:=by
   intro c
   induction c with
   |nil=>intro _ _;exact⟨[],rfl,trivial⟩
   |cons r w v=>intro o l;simp only[List.cons.sizeOf_spec]at o;obtain⟨f,e,t⟩:=Zun R k n r (by simp at hn;omega) (l r Vs);obtain⟨ks,u,j⟩:=v Vo (λx hx=>l x (by simp[hx]));exact⟨f::ks,by rw[e,u];rfl,by rw[smL];exact⟨t,j⟩⟩
  obtain⟨ks,rfl,j⟩:=m rows (Nat.le_refl _) s;exact⟨.mk i a b g ks,(row_mk i a b g ks).symm,by rw[smF];exact⟨p,by simpa using q,j⟩⟩
structure SzR(f:FlD)(k:Nat)(m d:Int):Prop where
 m1:1<=m
 d1:1<=d
 mb:m<=((k*k+k+2:Nat):Int)
 db:d<=k+2
 fwd:cnt f<=64->54+dep f<=k->m=cnt f/\d=dep f
 bwd:m<=64->54+d<=k->(cnt f:Int)=m/\(dep f:Int)=d
structure SzL(f:FlD)(k i:Nat)(m d:Int):Prop where
 m1:1<=m
 d1:1<=d
 mb:m<=((k*k+k+2:Nat):Int)
 db:d<=k+2
 fwd:cnt f<=64->54+dep f<=k->m=1+cntL (f.ks.take i)/\d=1+depL (f.ks.take i)
 bwd:m<=64->54+d<=k->(1+cntL (f.ks.take i):Int)=m/\(1+depL (f.ks.take i):Int)=d
def cnt_ks:∀f:FlD,cnt f=1+cntL f.ks
 | .mk _ _ _ _ _=>rfl
def dep_ks:∀f:FlD,dep f=1+depL f.ks
 | .mk _ _ _ _ _=>rfl
theorem SzL.start(f:FlD)(k:Nat):SzL f k 0 1 1 where
 m1:=Vo
 d1:=Vo
 mb:=Vo
 db:=Vo
 fwd:=λ_ _=>by simp[cntL,depL]
 bwd:=λ_ _=>by simp[cntL,depL]
def Zd0(ks:List FlD)(i:Nat):cntL (ks.take i)<=cntL ks:=by
 have:=Zj5 (ks.take i) (ks.drop i);rw[List.take_append_drop]at this;omega
def Zky(ks:List FlD)(i:Nat)(h:i<ks.length):cntL (ks.take (i+1))=cntL (ks.take i)+cnt ks[i]:=by
 rw[Yq,List.getElem?_eq_getElem h,Option.toList_some,Zj5];simp[cntL]
def Zkz(ks:List FlD)(i:Nat)(h:i<ks.length):depL (ks.take (i+1))=max (depL (ks.take i)) (dep ks[i]):=by
 rw[Yq,List.getElem?_eq_getElem h,Option.toList_some,Zwb];simp[depL]
def SzL.done{f:FlD}(h:SzL f n m i j)(hi:m=f.ks.length\/(m<=f.ks.length/\2*(n:Int)<i)):SzR f n i j where
 m1:=h.m1
 d1:=h.d1
 mb:=h.mb
 db:=h.db
 fwd:=λh1 h2=>by
  obtain⟨e1,e2⟩:=h.fwd h1 h2;have:=Zd0 f.ks m;rw[cnt_ks]at h1|-;rw[dep_ks]at h2|-
  rcases hi with rfl|⟨_,hi⟩
  .rw[Y7]at e1 e2;omega
  .omega
 bwd:=λh1 h2=>by
  obtain⟨e1,e2⟩:=h.bwd h1 h2;have:=h.d1;rw[cnt_ks,dep_ks]
  rcases hi with rfl|⟨_,hi⟩
  .rw[Y7]at e1 e2;omega
  .omega
def SzL.next{f:FlD}{k i:Nat}{m d n e:Int}(h:SzL f k i m d)(hk:0<k)(hm:m<=2*(k:Int))(hi:i<f.ks.length)(g:SzR f.ks[i] (k-1) n e):
  SzL f k (i+1) (m+n) (if d<e+1 then e+1 else d) where
 m1:=by have:=h.m1;have:=g.m1;omega
 d1:=by have:=h.d1;have:=g.d1;split<;>omega
 mb:=by
  have:=g.mb
  obtain⟨k,rfl⟩:∃j,k=j+1:=⟨k-1,Vo⟩
  simp only[Nat.add_sub_cancel]at this;have e:(k+1)*(k+1)+(k+1)+2=(k*k+k+2)+2*(k+1):=(by rw[Ym,Nat.mul_add];omega);rw[e];omega
 db:=by have:=h.db;have:=g.db;split<;>omega
 fwd:=λh1 h2=>by
  obtain⟨e1,e2⟩:=h.fwd h1 h2;rw[cnt_ks]at h1;rw[dep_ks]at h2;have q1:=Zgg (List.getElem_mem hi);have q2:=Zpd (List.getElem_mem hi);obtain⟨g1,g2⟩:=g.fwd Vo Vo;rw[Zky _ _ hi,Zkz _ _ hi]
  split<;>omega
 bwd:=λh1 h2=>by
  have:=h.m1;have:=g.m1;have h2':54+d<=k/\54+e+1<=k:=by split at h2<;>omega
  obtain⟨e1,e2⟩:=h.bwd Vo Vo;obtain⟨g1,g2⟩:=g.bwd Vo Vo;rw[Zky _ _ hi,Zkz _ _ hi]
  split<;>omega

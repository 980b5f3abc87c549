import Derived.Test.YtgehiiginclniaaGreatDoorK13
set_option linter.all false
set_option maxRecDepth 100000
namespace Go.Proofs.YtgehiiginclniaaGreatDoor
namespace Jou
open Go Go.Px Go.Proofs Cod Seg Sgr Snp Sx Row Tryz
def Zow{a:DiD}{d e b:Int}{shut:Bool}{f:List FiD}(g:Par (anewJ a d e b shut) f)(h:mayC d e)(i:a.P)(j:a.dn=false)(k:keptF a.fs≤b)(l:b≤(anewJ a d e b shut).st.q):RightJ (anewJ a d e b shut):=by
 have c:=Ze8 g.dkr;have m:=g.good;have n:=g.all;refine⟨h,i,j,?_,?_,?_,rfl,k,l⟩
 ·show(rowK a.fs).2=[]
  have c:rowK a.fs=(f.map (ptF scF),[]):=c;rw[c]
 ·show GoodR (rowK a.fs).1 _ _;have c:rowK a.fs=(f.map (ptF scF),[]):=c;rw[c];exact m
 ·show∀p∈(rowK a.fs).1,_;have c:rowK a.fs=(f.map (ptF scF),[]):=c;rw[c];exact n
noncomputable def evG(a:List FiD):List Cod.EvD:=a.flatMap λf=>(scF f).ev
def Zh8{j:JoD}(h:RightJ j):evsJ j=evG (segs j.dk.fs):=by
 unfold evsJ evG;rw[if_pos h,h.row,List.flatMap_map]
def Zox:∀(a b:List Stp) {d c:DiD},runP d (a++b)=(c,0)→∃e,runP d a=(e,0)∧runP e b=(c,0)
 | [],b,d,c,h=>⟨d,rfl,h⟩
 |s::a,b,d,c,h=>by
  rw[List.cons_append,runP]at h
  split at h
  next g=>rw[h]at g;exact absurd rfl g
  next g=>obtain⟨e,f,i⟩:=Zox a b h;exact⟨e,by rw[runP,if_neg g];exact f,i⟩
def Zj6{d a:DiD}{s:Stp}{l:List Stp}(h:runP d (s::l)=(a,0)):∃b,s.run d=(b,0)∧runP b l=(a,0):=by
 rw[runP]at h
 split at h
 next g=>rw[h]at g;exact absurd rfl g
 next g=>have g:(s.run d).2=0:=(by simpa using g);exact⟨_,by rw[←g],h⟩
def step_P{s:Stp}{d:DiD}(h:d.P):(s.run d).1.P:=by
 cases s
 ·exact Ziu h
 ·exact Ziv h
 ·exact Zj2 h
 ·exact Zmx h
 ·exact opCut_P h
def runP_P:∀(l:List Stp) {d:DiD},d.P→(runP d l).1.P
 | [],d,h=>h
 |s::l,d,h=>by
  rw[runP]
  split
  ·exact step_P h
  ·exact runP_P l (step_P h)
def step_dn{s:Stp}{d c:DiD}(h:s.run d=(c,0)):c.dn=d.dn∧c.rm=d.rm:=by
 cases s
 ·obtain⟨_,_,_,a,b⟩:=Zla h;exact⟨b,a⟩
 ·obtain⟨_,_,_,_,a,b⟩:=Zdo h;exact⟨b,a⟩
 ·obtain⟨_,_,_,_,a,b⟩:=Zhs h;exact⟨b,a⟩
 ·obtain⟨_,_,_,a,b⟩:=Zk1 h;exact⟨b,a⟩
 ·obtain⟨_,_,_,_,_,_,a,b⟩:=Zt4 h;exact⟨b,a⟩
def Zsq:∀(l:List Stp) {d f:DiD},runP d l=(f,0)→f.dn=d.dn∧f.rm=d.rm
 | [],d,f,h=>by cases h;exact⟨rfl,rfl⟩
 |s::l,d,f,h=>by obtain⟨j,g,i⟩:=Zj6 h;obtain⟨a,b⟩:=step_dn g;obtain⟨c,e⟩:=Zsq l i;exact⟨c.trans a,e.trans b⟩
def bys_i{b:List Int}(h:Byts b):((bys b).map λx=>(x.toNat:Int))=b:=iU_of h
def Zoy(s:BA)(a c:List UInt8)(b:List Int)(h:Byts b):byF ⟨s,a,c++bys b⟩=byF ⟨s,a,c⟩++b:=by rw[byF_app,bys_i h]
def run1(d:DiD)(s:Stp):runP d [s]=s.run d:=by
 rw[runP,runP]
 split
 ·rfl
 next h=>have h:(s.run d).2=0:=(by simpa using h);rw[←h]
def Zsr{j:JoD}{n:Int}(b:inN n)(c:ctxOK j.st.q j.st.t):Byts (hedB j n)∧(hedB j n).length≤45:=by
 unfold ctxOK at c;have:=Zro (n:=n) (s:=j.st.q) (a:=j.st.t) b.2 (by omega) (by omega);exact⟨Zis (by omega) (by omega) (Zt8 _ _ _),by unfold hedB;rw[Zdy];omega⟩
structure Took(j k:JoD)(e:Cod.EvD):Prop where
 right:RightJ k
 st:k.st=(appS j.st (toE e)).1
 ev:evsJ k=evsJ j++[e]
 cfg:k.cb=j.cb∧k.cg=j.cg
 kept:k.kept=j.kept
 shut:k.shut=j.shut
 sure:j.sure≤k.sure
 rm:k.dk.rm=j.dk.rm
def encE_ok{j:JoD}{e:Cod.EvD}(h:encE j.cx.s j.cx.a j.cx.m e=0):EncOK j.cx.s j.cx.a j.cx.m e:=Zcv.1 h
def sg_last{j:JoD}{a:List FiD}{g:FiD}(h:Par j (a++[g])):j.sg=(a.map (ptF scF)).map sgOf++[sgOf ⟨scF g,g.len⟩]:=by rw[h.sg];simp[ptF]
def cx_open{j:JoD}{b:List FiD}{g:FiD}(h:Par j (b++[g]))(c:(scF g).sl=false):j.cx=⟨(scF g).s,(scF g).a,(scF g).m⟩:=by
 rw[h.cx];unfold Zbl;simp[c]
def evG_app(a b:List FiD):evG (a++b)=evG a++evG b:=List.flatMap_append
def Zff(a:List FiD)(f:FiD):evG (a++[f])=evG a++(scF f).ev:=by rw[evG_app];simp[evG]
def Par.in_{j:JoD}{c:List FiD}{g:FiD}(h:Par j (c++[g])):ScOK (scF g)∧byF g=segL (scF g)∧(scF g).num≠0∧g.nm=nmG (scF g).num∧inN (scF g).num∧numS g.nm≠0:=by
 obtain⟨d,e,b3,a⟩:=h.dkr.bytes h.all g (by simp);obtain⟨f,b⟩:=h.name g (by simp);exact⟨d,e,by rw[b3];exact a,by rw[Zfr b];exact f,b,a⟩
def rec_anew{j:JoD}{v:List FiD}{g:FiD}(h:Par j (v++[g]))(k:(scF g).sl=false){e:Cod.EvD}(w:e.s=j.st.q+1)(E:encE j.cx.s j.cx.a j.cx.m e=0)(F:(appS j.st (toE e)).2=0){l:DiD}(G:Zat j.dk (nmG (scF g).num) (bys (recL' j e))=(l,0))(n o b:Int)(shut:Bool):
  anewJ l n o b shut=⟨l,n,o,(v.map (ptF scF)).map sgOf++[{sgOf ⟨scF g,g.len⟩with sz:=(sgOf ⟨scF g,g.len⟩).sz+(recL' j e).length,la:=e.s,ti:=e.a}],⟨e.s,e.a,bhdN j.cx.m e.c⟩,(appS j.st (toE e)).1,b,j.kept,shut⟩∧
   ∃f,Par (anewJ l n o b shut) (v++[f])∧(scF f).ev=(scF g).ev++[e]∧(scF f).sl=false:=by
 obtain⟨H,J,b3,y,b5,M⟩:=h.in_;have i:=cx_open h k;have d:=encE_ok E;rw[i]at d
 dsimp only at d
 have p:recL' j e=recB (scF g) e:=by unfold recL' recB;rw[i]
 have t:Byts (recL' j e):=(by rw[p];unfold recB;exact Zis (by omega) (by have:=Zhn d;omega) Zid)
 obtain⟨_,f,z,r,_,_⟩:=Zdo G;have C:g∈j.dk.fs:=(List.mem_filter.1 (show g∈segs j.dk.fs by rw[h.dkr.eq];simp)).1;have D:f=g:=(by rw[←y,Zpu h.dkr.srt C]at z;exact(Option.some.inj z).symm);subst D;rw[←y]at r;obtain⟨e1,K⟩:=anew_add h k w d F (x:=bys (recL' j e)) (by rw[bys_i t,p]) r n o b shut;obtain⟨L,A⟩:=Zya H b3 k d;have u:scF ⟨f.nm,f.su,f.lo++bys (recL' j e)⟩=addS (scF f) e:=Zbx L (by rw[Zoy _ _ _ _ t,A,←J,p]);refine⟨?_,_,K,by rw[u];rfl,by rw[u];exact k⟩;rw[e1,i];congr 3;simp only[sgOf,A,List.length_append,p]
 all_goals first|done|rfl|omega|(congr 1;omega)
def Zqk{j:JoD}{l:List FiD}{g:FiD}(h:Par j (l++[g]))(m:(scF g).sl=false){c:DiD}(y:runP j.dk [.wri (nmG (scF g).num) (bys (selB j (sgOf ⟨scF g,g.len⟩))),.syn (nmG (scF g).num)]=(c,0))(d e a:Int)(shut:Bool):
  anewJ c d e a shut=⟨c,d,e,(l.map (ptF scF)).map sgOf++[{sgOf ⟨scF g,g.len⟩with sz:=(sgOf ⟨scF g,g.len⟩).sz+(selB j (sgOf ⟨scF g,g.len⟩)).length,sl:=true}],⟨0,0,[]⟩,j.st,a,j.kept,shut⟩∧
   ∃f,Par (anewJ c d e a shut) (l++[f])∧(scF f).ev=(scF g).ev∧(scF f).sl=true∧(scF f).num=(scF g).num:=by
 obtain⟨o,z,b3,p,b5,F⟩:=h.in_;have u:=cx_open h m;have E:((scF g).ev.length:Int)=(scF g).s-(scF g).bs:=h.good.cnt (ptF scF g) (by simp);have n:selB j (sgOf ⟨scF g,g.len⟩)=seaB (scF g):=by unfold selB seaB;rw[u];simp only[sgOf];rw[E]
 have v:Byts (selB j (sgOf ⟨scF g,g.len⟩)):=(by rw[n];have:=slP_len o b3;exact Zis (by omega) (by omega) (Zum _ _ _));obtain⟨G,A,q⟩:=Zj6 y;rw[run1]at q;obtain⟨f,r,i⟩:=app_sync h.dkr.srt A q;have w:g∈j.dk.fs:=(List.mem_filter.1 (show g∈segs j.dk.fs by rw[h.dkr.eq];simp)).1;have x:f=g:=(by rw[←p,Zpu h.dkr.srt w]at r;exact(Option.some.inj r).symm);subst x;rw[←p]at i;have k:byF ⟨f.nm,f.su++(f.lo++bys (selB j (sgOf ⟨scF f,f.len⟩))),[]⟩=byF f++seaB (scF f):=(by rw[←n,←Zoy f.nm f.su f.lo _ v];unfold byF;simp);obtain⟨e1,C⟩:=Zx3 h m (f:=⟨f.nm,f.su++(f.lo++bys (selB j (sgOf ⟨scF f,f.len⟩))),[]⟩) rfl k i d e a shut;obtain⟨D,t⟩:=Zta o b3 m;have b:scF ⟨f.nm,f.su++(f.lo++bys (selB j (sgOf ⟨scF f,f.len⟩))),[]⟩=sealS (scF f):=Zbx D (by rw[k,t,←z]);refine⟨?_,_,C,by rw[b];rfl,by rw[b];rfl,by rw[b];rfl⟩;rw[e1,n];congr 3;simp only[sgOf,t,List.length_append]
 all_goals first|done|rfl|omega|(congr 1;omega)
def new_anew{j:JoD}{d:List FiD}(h:Par j d){n:Int}(i:∀g,d.getLast?=some g→(scF g).sl=true∧n=(scF g).num+1)(m:inN n)(z:d=[]→n=1)(hst:j.st.P){e:Cod.EvD}(A:e.s=j.st.q+1)(J:encE j.st.q j.st.t [] e=0)(K:(appS j.st (toE e)).2=0){o:DiD}(L:runP j.dk [.cre (nmG n),.wri (nmG n) (bys (hedB j n)),.wri (nmG n) (bys (fr 2 (encL j.st.q j.st.t [] e)))]=(o,0))(p r b:Int)(shut:Bool):
  anewJ o p r b shut=⟨o,p,r,(d.map (ptF scF)).map sgOf++[⟨n,j.st.q,e.s,j.st.t,e.a,(hedB j n).length+(fr 2 (encL j.st.q j.st.t [] e)).length,false⟩],⟨e.s,e.a,bhdN [] e.c⟩,(appS j.st (toE e)).1,b,j.kept,shut⟩∧
   ∃f,Par (anewJ o p r b shut) (d++[f])∧(scF f).ev=[e]∧(scF f).sl=false:=by
 have G:=st_ctx hst
 have u:headOK n j.st.q j.st.t:=⟨m,G⟩
 have k:=Zcv.1 J;obtain⟨C,_⟩:=Zsr (j:=j) m G;have H:Byts (fr 2 (encL j.st.q j.st.t [] e)):=Zis (by omega) (by have:=Zhn k;omega) Zid;obtain⟨Q,M,x⟩:=Zj6 L;obtain⟨R,x,D⟩:=Zj6 x;rw[run1]at D;obtain⟨hno,E⟩:=new_app h.dkr.srt M x D;have v:byF ⟨nmG n,[],bys (hedB j n)++bys (fr 2 (encL j.st.q j.st.t [] e))⟩=fr 1 (hdP n j.st.q j.st.t)++fr 2 (encL j.st.q j.st.t [] e):=by rw[Zoy _ _ _ _ H];have:=Zoy (nmG n) [] [] _ C;rw[List.nil_append]at this;rw[this];rfl
 have y:∀g∈d,numS g.nm<n:=by
  rcases Y2 d with rfl|⟨l,g,rfl⟩
  ·simp
  ·rw[List.concat_eq_append]at h i⊢;have:=i g (by simp);rw[this.2];exact h.big
 obtain⟨e1,N⟩:=anew_new h i m z (f:=⟨nmG n,[],bys (hedB j n)++bys (fr 2 (encL j.st.q j.st.t [] e))⟩) (Zfr m) hno y A u k K v E p r b shut;obtain⟨O,F⟩:=Zyb u k;have w:scF ⟨nmG n,[],bys (hedB j n)++bys (fr 2 (encL j.st.q j.st.t [] e))⟩=newS n j.st.q j.st.t e:=Zbx O (by rw[v,F]);refine⟨?_,_,N,by rw[w];rfl,by rw[w];rfl⟩;rw[e1];congr 3;simp only[sgOf,F,List.length_append];show(⟨n,j.st.q,e.s,j.st.t,e.a,_,false⟩:SgD)=_;congr 1
def Zh9{j:JoD}(h:RightJ j):keptF j.dk.fs≤j.sure∧j.sure≤j.st.q∧j.kept=keptF j.dk.fs:=⟨h.sure.1,h.sure.2,h.par.kept⟩
def kept_same{b:DiD}{c d a:Int}{shut:Bool}{e:List SgD}{f:CxD}{g:StD}{k:Int}(h:anewJ b c d a shut=⟨b,c,d,e,f,g,a,k,shut⟩):keptF b.fs=k:=congrArg JoD.kept h
def took_of{j k:JoD}{e:Cod.EvD}(b:RightJ j)(n:(appS j.st (toE e)).2=0)(f:e.s=j.st.q+1){gs':List FiD}(a:k=anewJ k.dk j.cb j.cg k.sure j.shut)(hst:k.st=(appS j.st (toE e)).1)(g:k.kept=j.kept)(h:Par (anewJ k.dk j.cb j.cg k.sure j.shut) gs')(i:evG gs'=evG (segs j.dk.fs)++[e])(p:k.sure=j.sure∨k.sure=j.st.q)(o:k.dk.P)(c:k.dk.dn=j.dk.dn∧k.dk.rm=j.dk.rm):Took j k e:=by
 obtain⟨t,u,v⟩:=Zh9 b;have w:k.st.q=j.st.q+1:=by rw[hst,(Zqo n).1];exact f
 have r:k.kept=keptF k.dk.fs:=(by rw[a];rfl);have l:RightJ k:=(by have d:(anewJ k.dk j.cb j.cg k.sure j.shut).st=k.st:=(by rw[←a]);rw[a];exact Zow h b.cfg o (by rw[c.1];exact b.up) (by omega) (by rw[d];omega));have m:segs k.dk.fs=gs':=h.dkr.eq;exact⟨l,hst,by rw[Zh8 l,Zh8 b,m,i],by rw[a];exact⟨rfl,rfl⟩,g,by rw[a];rfl,by omega,c.2⟩
def Zez(j:JoD)(c:RightJ j):(segs j.dk.fs=[]∧j.sg=[])∨∃a g,segs j.dk.fs=a++[g]∧Par j (a++[g])∧j.sg=(a.map (ptF scF)).map sgOf++[sgOf ⟨scF g,g.len⟩]:=by
 have b:=c.par
 rcases Y2 (segs j.dk.fs)with e|⟨a,g,e⟩
 ·left
  exact⟨e,by rw[b.sg,e];rfl⟩
 ·right
  rw[List.concat_eq_append]at e;rw[e]at b;exact⟨a,g,e,b,sg_last b⟩
def Zia{j k:JoD}(H:RightJ j){e0:Cod.EvD}(i:appQ j e0=(k,0)):Took j k (evN j e0):=by
 have hF:=H.fct;generalize he:evN j e0=e at*;have F:e.s=j.st.q+1:=(by rw[←he];rfl);unfold appQ at i;rw[he]at i
 split at i
 next g=>rw[Prod.mk.injEq]at i;exact absurd i.2 g
 rename_i g;have X:(appS j.st (toE e)).2=0:=by simpa using g
 split at i
 ·cases i
 rename_i ac
 split at i
 ·cases i
 rename_i w b;unfold endJ at i
 split at i
 ·cases i
 rename_i ab
 split at i
 next O=>rw[Prod.mk.injEq]at i;exact absurd i.2 O
 rename_i O;have O:(runP j.dk w.td).2=0:=by simpa using O
 obtain⟨M,hd'⟩:∃M,runP j.dk w.td=(M,0):=⟨_,by rw[←O]⟩
 rw[hd']at i;rw[Prod.mk.injEq]at i;have hk:=i.1;have hP:M.P:=by have:=runP_P w.td H.dk;rw[hd']at this;exact this
 have Z:=Zsq _ hd';unfold w3 at b
 cases hw2:w2 j e with
 |none=>rw[hw2]at b;cases b
 |some v=>
 rw[hw2]at b;have b:recW v e=some w:=b
 have a2:∀{o:List FiD} {g:FiD},segs j.dk.fs=o++[g]→Par j (o++[g])→j.sg=(o.map (ptF scF)).map sgOf++[sgOf ⟨scF g,g.len⟩]→(scF g).sl=false→v=w0 j→Took j k e:=by
  intro o g A y d h hv;subst hv;have u:recW (w0 j) e=some w:=b;unfold recW at u;rw[show(w0 j).j.sg=_ from d,Zae]at u
  dsimp only at u
  split at u
  ·cases u
  rename_i C;have C:encE j.cx.s j.cx.a j.cx.m e=0:=Yi.1 C;have u:=Option.some.inj u;subst u;have hr:Zat j.dk (nmG (scF g).num) (bys (recL' j e))=(M,0):=(run1 j.dk (.wri (nmG (scF g).num) (bys (recL' j e)))).symm.trans hd';obtain⟨e1,f,Q,R,_⟩:=rec_anew y h F C X hr j.cb j.cg j.sure j.shut;subst hk;exact took_of H X F (gs':=o++[f]) e1.symm rfl rfl Q (by rw[A,Zff,Zff,R,List.append_assoc]) (.inl rfl) hP Z
 have D:∀(c:JoD) (o:List FiD) (J:List Stp) (K:Int),Par c o→(∀g,o.getLast?=some g→(scF g).sl=true)→c.st=j.st→c.kept=j.kept→c.cb=j.cb→c.cg=j.cg→c.shut=j.shut→runP j.dk J=(c.dk,0)→(c.sure=j.sure∨c.sure=j.st.q)→evG o=evG (segs j.dk.fs)→
   ∀z:DiD,begW ⟨{c with dk:=z},J,K⟩=some v→Took j k e:=by
  intro c o J K y h hst a5 a6 a7 V a1 a8 a9 z r
  have hn:nxtN ⟨{c with dk:=z},J,K⟩=match o.getLast? with|none=>1|some g=>(scF g).num+1:=by
   unfold nxtN;show(match lasS c.sg with|none=>1|some (_,p)=>p.num+1)=_;rw[y.sg]
   rcases Y2 o with e|⟨l,g,e⟩
   ·rw[e];rfl
   ·rw[e,List.concat_eq_append];simp only[List.map_append,List.map_cons,List.map_nil,Zae,List.getLast?_concat];rfl
  unfold begW at r
  split at r
  ·cases r
  rename_i hno;have aa:inN (nxtN ⟨{c with dk:=z},J,K⟩):=Classical.byContradiction λq=>hno (.inl q);generalize hN:nxtN ⟨{c with dk:=z},J,K⟩=n at*;have r:=Option.some.inj r;subst r;unfold recW at b;rw[Zae]at b
  dsimp only at b
  split at b
  ·cases b
  rename_i C;have C:encE c.st.q c.st.t [] e=0:=(by simpa using C);have b:=Option.some.inj b;subst b
  dsimp only at hd'
  rw[List.append_assoc]at hd';obtain⟨W,T,r2⟩:=Zox _ _ hd';rw[a1,Prod.mk.injEq]at T;rw[←T.1]at r2
  have Y:∀g,o.getLast?=some g→(scF g).sl=true∧n=(scF g).num+1:=λg hg=>⟨h g hg,by rw[hn,hg]⟩
  obtain⟨e1,f,Q,R,_⟩:=new_anew y Y aa (λq=>by rw[hn,q];rfl) (by rw[hst];exact hF.st) (by rw[hst];exact F) C (by rw[hst];exact X) r2 j.cb j.cg c.sure j.shut;subst hk;refine took_of H X F (gs':=o++[f]) ?_ rfl a5 Q (by rw[Zff,R,a9]) a8 hP Z;show _=anewJ M j.cb j.cg c.sure j.shut;have hh:hedB c n=fr 1 (hdP n j.st.q j.st.t):=by unfold hedB;rw[hst]
  rw[e1,y.sg,a6,a7,V,hst,hh];rfl
 rcases Zez j H with⟨A,d⟩|⟨o,g,A,y,d⟩
 ·have e1:w1 j e=w0 j:=(by unfold w1;rw[d];rfl);have E:opnW (w1 j e)=false:=(by rw[e1];unfold opnW;rw[show(w0 j).j.sg=[]from d];rfl);unfold w2 at hw2;rw[if_neg (by simp[E]),e1]at hw2;exact D j [] [] 0 (by have:=H.par;rw[A]at this;exact this) (by simp) rfl rfl rfl rfl rfl rfl (.inl rfl) (by rw[A]) j.dk hw2
 ·by_cases h:(scF g).sl=true
  ·have e1:w1 j e=w0 j:=by
    unfold w1;rw[d,Zae];have:ovrB j e=false:=by unfold ovrB;rw[d,Zae];simp[sgOf,h]
    simp[this]
   have E:opnW (w1 j e)=false:=(by rw[e1];unfold opnW;rw[show(w0 j).j.sg=_ from d,Zae];simp[sgOf,h]);unfold w2 at hw2;rw[if_neg (by simp[E]),e1]at hw2;exact D j (o++[g]) [] 0 y (λx L=>by simp at L;subst L;exact h) rfl rfl rfl rfl rfl rfl (.inl rfl) (by rw[A]) j.dk hw2
  ·have h:(scF g).sl=false:=(by simpa using h);by_cases G:ovrB j e=true
   ·have e1:w1 j e=sealW (w0 j) ((o.map (ptF scF)).map sgOf) (sgOf ⟨scF g,g.len⟩):=(by unfold w1;rw[d,Zae];simp[G]);have E:opnW (w1 j e)=false:=(by rw[e1];unfold opnW sealW;dsimp only;rw[Zae];rfl);unfold w2 at hw2;rw[if_neg (by simp[E]),e1]at hw2
    have U:∃N,w.td=[.wri (nmG (scF g).num) (bys (selB j (sgOf ⟨scF g,g.len⟩))),.syn (nmG (scF g).num)]++N:=by
     have r:=hw2;unfold begW at r
     split at r
     ·cases r
     have r:=Option.some.inj r;unfold recW at b;rw[←r]at b
     dsimp only at b
     rw[Zae]at b
     dsimp only at b
     split at b
     ·cases b
     have b:=Option.some.inj b;rw[←b];exact⟨_,by simp only[sealW,w0,List.nil_append,List.append_assoc];rfl⟩
    obtain⟨N,U⟩:=U;have a0:=hd';rw[U]at a0;obtain⟨W,T,r2⟩:=Zox _ _ a0;obtain⟨s1,f,Q,R,v2,v3⟩:=Zqk y h T j.cb j.cg j.st.q j.shut;have a3:(anewJ W j.cb j.cg j.st.q j.shut).st=j.st:=(by rw[s1]);have a4:(anewJ W j.cb j.cg j.st.q j.shut).kept=j.kept:=(by rw[s1]);refine D (anewJ W j.cb j.cg j.st.q j.shut) (o++[f]) [.wri (nmG (scF g).num) (bys (selB j (sgOf ⟨scF g,g.len⟩))),.syn (nmG (scF g).num)] (0+(selB j (sgOf ⟨scF g,g.len⟩)).length) Q (λx L=>by simp at L;subst L;exact v2) a3 a4 rfl rfl rfl T (.inr rfl) (by rw[A,Zff,Zff,R]) j.dk ?_;rw[←hw2,s1];rfl
   ·have G:ovrB j e=false:=(by simpa using G);have e1:w1 j e=w0 j:=(by unfold w1;rw[d,Zae];simp[G]);have E:opnW (w1 j e)=true:=(by rw[e1];unfold opnW;rw[show(w0 j).j.sg=_ from d,Zae];simp[sgOf,h]);unfold w2 at hw2;rw[if_pos E,e1]at hw2;exact a2 A y d h (Option.some.inj hw2).symm
def row_in(l:List FiD):∀p∈(rowK l).1,inN p.d.num:=by
 obtain⟨n,h,b,_⟩:=Zms l;intro p a;rw[h]at a;obtain⟨f,c,rfl⟩:=Y3.1 a;have:=Zdq b f c;show inN (scF f).num;rw[this];exact(Zc1 (Zcl f (List.mem_of_mem_take c))).1
def menD_S(d:DiD):menD d=runS d (mendS (rowK d.fs).1 (rowK d.fs).2):=by
 unfold menD;rw[runP_S,mendP_S (row_in d.fs)]
def Stp.men:Stp→Prop
 | .rem _| .cut _ _| .syn _=>True
 |_=>False
def Stp.nm:Stp→BA
 | .cre s| .wri s _| .rem s| .cut s _| .syn s=>s
def Stp.eff(l:List FiD):Stp→Option (List FiD)
 | .rem s=>match l.find? (λf=>decide (f.nm=s))with|none=>none|some _=>some (wout FiD.nm l s)
 | .cut s n=>match l.find? (λf=>decide (f.nm=s))with|none=>none|some f=>if n<0∨(f.len:Int)<n then none else some (withB FiD.nm l ⟨s,f.su.take n.toNat,f.lo.take (n.toNat-f.su.length)⟩)
 | .syn s=>match l.find? (λf=>decide (f.nm=s))with|none=>none|some f=>some (withB FiD.nm l ⟨s,f.su++f.lo,[]⟩)
 |_=>none
def Lst(l:List FiD):Prop:=∀f∈l,f.lo=[]
def bnd(d:DiD)(k:Int):DiD:={d with st:=k}
structure Opened(d:DiD)(cb cg:Int)(k:JoD):Prop where
 P:d.P
 cfg:mayC cb cg
 dn:d.dn=false
 good:GoodR (rowK d.fs).1 (keptF d.fs) (baseF d.fs)
 men:menD d=(k.dk,0)
 eq:k=anewJ k.dk cb cg k.st.q false
 st:k.st=stR (rowK d.fs).1 (keptF d.fs) (baseF d.fs)
 right:RightJ k
def stR_qk{l a:List FiD}(h:DkR l a)(b:GoodR (a.map (ptF scF)) (keptF l) (baseF l)):keptF l≤(stR (a.map (ptF scF)) (keptF l) (baseF l)).q:=by
 rcases Y2 a with rfl|⟨a,g,rfl⟩
 ·show keptF l≤(baseF l).q;rw[Zmn];exact Int.le_refl _
 ·rw[List.concat_eq_append]at h b⊢;rw[stR_q h b];exact h.kept (ptF scF g) (by simp)
def Zqw{d:DiD}{c e:Int}{k:JoD}(h:openP d c e=(k,0)):Opened d c e k:=by
 unfold openP at h
 split at h
 ·cases h
 rename_i b;have b:=Yi.1 b
 split at h
 ·cases h
 rename_i m
 split at h
 ·cases h
 rename_i g;have g:=Yi.1 g
 split at h
 next f=>rw[Prod.mk.injEq]at h;exact absurd h.2 f
 rename_i f;have f:(menD d).2=0:=(by simpa using f);have j:d.dn=false:=by simpa using m
 obtain⟨a,hm⟩:∃a,menD d=(a,0):=⟨_,by rw[←f]⟩
 rw[hm,Prod.mk.injEq]at h;have n:=h.1;rw[menD_S]at hm;obtain⟨e1,i⟩:=Zvq b.1.2.2.2 g hm c e (stR (rowK d.fs).1 (keptF d.fs) (baseF d.fs)).q false;rw[←menD_S]at hm;have o:a.P:=by have:=runP_P (mendP (rowK d.fs).1 (rowK d.fs).2) b.1;rw[show runP d _=(a,0)from hm]at this;exact this
 have p:=(Zsq _ (show runP d (mendP (rowK d.fs).1 (rowK d.fs).2)=(a,0)from hm)).1;have l:k=anewJ a c e (stR (rowK d.fs).1 (keptF d.fs) (baseF d.fs)).q false:=(by rw[e1,←n]);have hst:(anewJ a c e (stR (rowK d.fs).1 (keptF d.fs) (baseF d.fs)).q false).st=stR (rowK d.fs).1 (keptF d.fs) (baseF d.fs):=(by rw[e1]);have s:keptF a.fs=keptF d.fs:=kept_same e1;have r:keptF a.fs≤(stR (rowK d.fs).1 (keptF d.fs) (baseF d.fs)).q:=(by have:=i.st;rw[hst]at this;rw[this];exact stR_qk i.dkr i.good);subst l;refine⟨b.1,b.2,j,g,hm,?_,hst,Zow i b.2 o (by rw[p];exact j) r (by rw[hst];exact Int.le_refl _)⟩;rw[hst];rfl
def Zx4{d a:DiD}{cb cg:Int}(b:d.P)(h:mayC cb cg)(c:d.dn=false)(e:GoodR (rowK d.fs).1 (keptF d.fs) (baseF d.fs))(f:menD d=(a,0)):openP d cb cg=(anewJ a cb cg (stR (rowK d.fs).1 (keptF d.fs) (baseF d.fs)).q false,0):=by
 have g:=f;rw[menD_S]at g;obtain⟨e1,_⟩:=Zvq b.2.2.2 e g cb cg (stR (rowK d.fs).1 (keptF d.fs) (baseF d.fs)).q false;unfold openP;rw[if_neg (by simp[b,h]),if_neg (by simp[c]),if_neg (by simp[e]),f,if_neg (by simp),e1]
def Zo9{j k:JoD}(a:RightJ j)(h:synQ j=(k,0)):RightJ k∧k.st=j.st∧evsJ k=evsJ j∧k.sure=j.st.q∧k.cb=j.cb∧k.cg=j.cg∧k.shut=j.shut∧k.kept=j.kept∧k.dk.rm=j.dk.rm:=by
 obtain⟨y,z,R⟩:=Zh9 a
 have c:RightJ {j with sure:=j.st.q}∧evsJ {j with sure:=j.st.q}=evsJ j:=by
  have:RightJ {j with sure:=j.st.q}:=by
   refine⟨a.cfg,a.dk,a.up,a.out,a.good,a.all,?_,⟨Int.le_trans y z,Int.le_refl _⟩⟩;have e:=a.eq;unfold anewJ;have e1:=congrArg JoD.sg e;have e2:=congrArg JoD.cx e;have n:=congrArg JoD.st e;have o:=congrArg JoD.kept e
   dsimp only[anewJ]at e1 e2 n o
   dsimp only
   rw[←e1,←e2,←n,←o]
  refine⟨this,?_⟩;unfold evsJ;rw[if_pos this,if_pos a]
 unfold synQ at h
 rcases Zez j a with⟨A,m⟩|⟨gs,g,A,hp,m⟩
 ·rw[show lasS j.sg=none from by rw[m];rfl]at h;have h:({j with sure:=j.st.q},(0:Int))=(k,0):=h
  cases h
  exact⟨c.1,rfl,c.2,rfl,rfl,rfl,rfl,rfl,rfl⟩
 have t:=congrArg lasS m;rw[Zae]at t;rw[t]at h
 dsimp only at h
 split at h
 ·cases h
  exact⟨c.1,rfl,c.2,rfl,rfl,rfl,rfl,rfl,rfl⟩
 rename_i Q
 split at h
 next l=>rw[Prod.mk.injEq]at h;exact absurd h.2 l
 rename_i l;have l:(Za3 j.dk (nmG (scF g).num)).2=0:=Yi.1 l
 obtain⟨b,hd⟩:∃b,Za3 j.dk (nmG (scF g).num)=(b,0):=⟨_,YE rfl l⟩
 have h:({j with dk:=(Za3 j.dk (nmG (scF g).num)).1,sure:=j.st.q},(0:Int))=(k,0):=h;rw[hd]at h
 cases h
 obtain⟨L,M,b3,C,b5,w⟩:=hp.in_;obtain⟨_,f,D,i,E,F⟩:=Zhs hd;have H:g∈j.dk.fs:=(List.mem_filter.1 (show g∈segs j.dk.fs by rw[A];simp)).1;have J:f=g:=(by rw[←C,Zpu hp.dkr.srt H]at D;exact(Option.some.inj D).symm);subst J;rw[←C]at i;have K:byF ⟨f.nm,f.su++f.lo,[]⟩=segL (scF f):=(by rw[Zt3,M]);have x:(⟨f.nm,f.su++f.lo,[]⟩:FiD).len=f.len:=(by simp[FiD.len]);obtain⟨N,G⟩:=Zkv hp.dkr (f:=⟨f.nm,f.su++f.lo,[]⟩) rfl w L K rfl rfl rfl (hp.dkr.kept (ptF scF f) (by simp));rw[←i]at N G;have d:rowK b.fs=rowK j.dk.fs:=(by rw[G,Ze8 hp.dkr,x];simp[ptF]);have r:keptF b.fs=keptF j.dk.fs:=(by rw[i];exact Zcw w);have u:baseF b.fs=baseF j.dk.fs:=(by rw[i];exact Zeo w);have O:b.P:=by have:=Zj2 (s:=nmG (scF f).num) a.dk;rw[hd]at this;exact this
 have v:RightJ {j with dk:=b,sure:=j.st.q}:=by
  refine⟨a.cfg,O,by show b.dn=false;rw[F];exact a.up,by show(rowK b.fs).2=[];rw[d];exact a.out,?_,by show∀p∈(rowK b.fs).1,_;rw[d];exact a.all,?_,?_⟩
  ·show GoodR (rowK b.fs).1 (keptF b.fs) (baseF b.fs);rw[d,r,u];exact a.good
  ·have e:=a.eq;show _=anewJ b j.cb j.cg j.st.q j.shut;unfold anewJ;rw[d,r,u];have e1:=congrArg JoD.sg e;have e2:=congrArg JoD.cx e;have n:=congrArg JoD.st e;have o:=congrArg JoD.kept e
   dsimp only[anewJ]at e1 e2 n o
   rw[←e1,←e2,←n,←o]
  ·show keptF b.fs≤j.st.q∧j.st.q≤j.st.q;rw[r];exact⟨Int.le_trans y z,Int.le_refl _⟩
 refine⟨v,rfl,?_,rfl,rfl,rfl,rfl,rfl,E⟩;unfold evsJ;rw[if_pos v,if_pos a];show(rowK b.fs).1.flatMap _=_;rw[d]
end Jou
namespace Jou
open Go Go.Px Go.Proofs Cod Seg Sgr Snp Sx Row Dsk Tryz
def lim_P{d:StD}(h:d.P):lim d:=by
 refine⟨by have:=h.1.1;omega,λc a=>?_⟩;have:=(h.2.1 c a).2;unfold Cmp.CoD.roleP at this
 split at this
 ·have:=this.1.2.2.2.1.2;omega
 ·split at this
  ·rw[this.1.1.2.2.2];simp
  ·rw[this.2.1.2.2.2];simp
def ev_len{p:Pt}(h:PtK p):p.d.ev.length≤(segL p.d).length:=by
 have b:∀(l:List Cod.EvD) (s a:Int) (m:List BA),l.length≤(recL s a m l).length:=λl=>by
  induction l with
  |nil=>intro s a m;simp
  |cons e l f=>
   intro s a m;rw[recL,List.length_append,List.length_cons];have:=f e.s e.a (bhdN m e.c);have g:0<(fr 2 (encL s a m e)).length:=by unfold fr sealB;simp
   omega
 rw[Zcj h.ne,List.length_append,List.length_append];have:=b p.d.ev p.d.bs p.d.ba [];omega
def jrep_fn(r:List Pt)(G:∀p∈r,PtK p)(T:r.length≤1000000)(s:StD)(H:s.P):Ct prog 114 {} [SL 11 (ptR r),s.sv] (λx=>x=[(repP r s).1.sv,B (repP r s).2]):=by
 refine Zxb (Zaa (λh=>?_) (λh=>?_))
 ·have:r=[]:=List.length_eq_zero_iff.1 (by simpa using h);subst this;rfl
 have J:0<r.length:=by
  rcases YO r.length with e|e
  ·simp[e]at h
  ·exact e
 have z:r.head?=some r[0]:=(by cases r with|nil=>simp at J|cons x l=>rfl);have v:r.length-1<r.length:=(by omega);have A:r.getLast?=some r[r.length-1]:=(by rw[List.getLast?_eq_getElem?];simp[v]);have k:repP r s=if s.q<r[0].d.bs then(s,false)else if(repR s.q s r).2=false then repR s.q s r else((repR s.q s r).1,decide (r[r.length-1].d.a=(repR s.q s r).1.t)):=(by unfold repP;rw[z,A]);refine⟨inM _ (by omega) (by omega),_,_,_,_,_,_,_,_,_,_,_,Zbb ptRow r 0 (by omega) (by omega),Zaa (λo=>?_) (λo=>?_)⟩
 ·simp at o;rw[k,if_pos o]
 simp at o;rw[if_neg (by omega)]at k;refine⟨λx l q t=>∃b:StD,l=coR b.cs∧q=b.q∧t=b.t∧lim b∧0≤x∧x≤r.length∧repR s.q b (r.drop x.toNat)=repR s.q s r,λx _ _ _=>(r.length-x).toNat,⟨s,rfl,rfl,rfl,lim_P H,by omega,by omega,by simp⟩,?_⟩;rintro x l q t ⟨b,rfl,rfl,rfl,hL,x0,hx,he⟩;have C:rlen (ptR r)=r.length:=(by simp);rw[C];refine Zaa (λg=>?_) (λg=>?_)
 rotate_left
 ·simp at g;have K:x.toNat=r.length:=(by omega);rw[K,List.drop_length,repR]at he;have L:wsub IntKind.i64 (r.length:Int) 1=((r.length-1:Nat):Int):=by rw[Zaq (by omega) (by omega)];omega
  rw[L];refine⟨inM _ (by omega) (by omega),_,_,_,_,_,_,_,_,_,_,_,Zfv v,?_⟩
  dsimp only
  rw[k,←he,if_neg (by simp)];simp
 simp at g;have w:x.toNat<r.length:=(by omega);have m:=G _ (List.getElem_mem w);have D:r.drop x.toNat=r[x.toNat]::r.drop (x.toNat+1):=List.drop_eq_getElem_cons w;rw[D,repR]at he;have M:=m.bs;have N:=m.s;unfold ctxOK at M N;refine⟨inM _ x0 g,_,_,_,_,_,_,_,_,_,_,_,Zbb ptRow r x x0 g,?_⟩
 dsimp only
 rw[Zaq (by omega) (by omega)];have E:rlen (evR r[x.toNat].d.ev)=r[x.toNat].d.ev.length:=(by simp);rw[E];refine Zaa (λc=>?_) (λc=>?_)
 ·have c:(r[x.toNat].d.ev.length:Int)≠r[x.toNat].d.s-r[x.toNat].d.bs:=(by simpa using c);rw[if_pos c]at he;rw[k,←he];rfl
 have c:¬(r[x.toNat].d.ev.length:Int)≠r[x.toNat].d.s-r[x.toNat].d.bs:=(by simpa using c);rw[if_neg c]at he;refine⟨λy l q t=>∃u:StD,l=coR u.cs∧q=u.q∧t=u.t∧lim u∧0≤y∧y≤r[x.toNat].d.ev.length∧repE s.q u (r[x.toNat].d.ev.drop y.toNat)=repE s.q b r[x.toNat].d.ev,λy _ _ _=>(r[x.toNat].d.ev.length-y).toNat,⟨b,rfl,rfl,rfl,hL,by omega,by omega,by simp⟩,?_⟩;rintro y l q t ⟨u,rfl,rfl,rfl,hU,y0,hy,hu⟩;refine Zaa (λi=>?_) (λi=>?_)
 rotate_left
 ·simp at i;have O:y.toNat=r[x.toNat].d.ev.length:=(by omega);rw[O,List.drop_length,repE]at hu;rw[←hu,if_neg (by simp)]at he;rw[Zac (by omega) (by omega)];exact⟨rfl,⟨u,rfl,rfl,rfl,hU,by omega,by omega,by rw[show(x+1).toNat=x.toNat+1 by omega];exact he⟩,mlt (by first|omega|(dsimp only;omega))⟩
 simp at i;have F:y.toNat<r[x.toNat].d.ev.length:=(by omega);have Q:=ev_len m;rw[List.drop_eq_getElem_cons F,repE]at hu;have R:(r[x.toNat].d.ev.length:Int)≤9223372036854775806:=by have:=m.le;have:=m.n;omega
 refine⟨inM _ y0 i,_,_,_,_,_,_,_,Zbb _ _ y y0 i,Zaa (λj=>?_) (λj=>Cl.of (Zkz u (by have:=hU.1;omega) (toE r[x.toNat].d.ev[y.toNat])) ⟨_,_,_,_,rfl,Zaa (λf=>?_) (λf=>?_)⟩)⟩
 ·simp at j;rw[if_pos j]at hu;rw[Zac (by omega) (by omega)];exact⟨rfl,⟨u,rfl,rfl,rfl,hU,by omega,by omega,by rw[show(y+1).toNat=y.toNat+1 by omega];exact hu⟩,mlt (by first|omega|(dsimp only;omega))⟩
 ·simp at j;rw[if_neg (by omega)]at hu;have f:(appS u (toE r[x.toNat].d.ev[y.toNat])).2≠0:=(by simpa using f);rw[if_pos f]at hu;rw[←hu,if_pos rfl]at he;rw[k,←he];rfl
 ·simp at j;rw[if_neg (by omega)]at hu;have f:(appS u (toE r[x.toNat].d.ev[y.toNat])).2=0:=(by simpa using f);rw[if_neg (by simp[f])]at hu;rw[Zac (by omega) (by omega)];exact⟨rfl,⟨_,rfl,rfl,rfl,lim_app hU _,by omega,by omega,by rw[show(y+1).toNat=y.toNat+1 by omega];exact hu⟩,mlt (by first|omega|(dsimp only;omega))⟩
def new_cases{d:DiD}(a:d.P)(b:d.dn=false){s:StD}{e:Int}(h:NewR d s e):(e=0∧keptF d.fs=s.q∧baseF d.fs=s)∨(e=14∧s=st0∧keptF d.fs=0∧baseF d.fs=st0):=by
 rcases h with⟨h,_⟩|⟨_,h,_⟩|⟨_,_,⟨he,hb⟩|⟨he,hs,hb⟩⟩
 ·exact absurd a h
 ·rw[b]at h;cases h
 ·have:=Zo3 a.2.2.2 hb;exact .inl ⟨he,by unfold keptF;rw[this],by unfold baseF;rw[this]⟩
 ·have:=Zo3 a.2.2.2 hb;exact .inr ⟨he,hs,by unfold keptF;rw[this],by unfold baseF;rw[this]⟩
def Zpx(b:FiD→Sc):∀(l:List FiD) (a:List Pt×List BA),(l.foldl (rstep b) a).1.length+(l.foldl (rstep b) a).2.length≤a.1.length+a.2.length+l.length
 | [],a=>by simp
 |f::l,a=>by
  rw[List.foldl_cons];have h:=Zpx b l (rstep b a f)
  have:(rstep b a f).1.length+(rstep b a f).2.length≤a.1.length+a.2.length+1:=by
   unfold rstep
   split
   ·omega
   ·split<;>simp<;>omega
  simp only[List.length_cons];omega
def Zuc(l:List FiD):(rowsD scF l).1.length+(rowsD scF l).2.length≤l.length:=by
 have:=Zpx scF l ([],[])
 simpa[rowsD]using this
def Zob(l:List FiD):(rowK l).1.length≤l.length∧(rowK l).2.length≤l.length:=by
 have:=Zuc l;unfold rowK
 split
 ·omega
 ·split
  ·simp;omega
  ·omega
def rowK_K{l:List FiD}(h:∀p∈(rowsD scF l).1,PtK p):∀p∈(rowK l).1,PtK p:=by
 unfold rowK
 split
 ·exact h
 ·split
  ·simp
  ·exact h
noncomputable abbrev FdV(d:DiD):SV:=fd7 (ptR (rowK d.fs).1) (nR (rowK d.fs).2) (keptF d.fs) (coR (repP (rowK d.fs).1 (baseF d.fs)).1.cs) (repP (rowK d.fs).1 (baseF d.fs)).1.q (repP (rowK d.fs).1 (baseF d.fs)).1.t (repP (rowK d.fs).1 (baseF d.fs)).2
def Zmu{r:List Pt}(C:r.length≤1000000)(n:∀p∈r,PtK p){X:Prop}{K:LL→Prop}(o:X)(q:K (nR (r.map λp=>Jou.segNm p.d.num))):
  ∃c:LL→Int→Prop,∃m:LL→Int→Nat,c [] 0∧∀b:LL,∀a:Int,c b a→ifB (ilt a (rlen (ptR r))) (inR a (ptR r)∧(ej3 (rget (ptR r) a) λi t u D E v w F y z A=>
   (Cl prog 88 sP [I i] (λ(g:List SV)=>ej2 g λs=>(((lsum (rlen b) (rlen ([[S s]])))≤((2147483648:Int)))∧(X∧((c (rapp b ([[S s]])) (wadd IntKind.i64 a 1))∧(Nat.le (Nat.succ (m (rapp b ([[S s]])) (wadd IntKind.i64 a 1))) (m b a))))))))) (K b):=by
 refine⟨λl x=>0≤x∧x≤r.length∧l=nR ((r.take x.toNat).map λp=>Jou.segNm p.d.num),λ_ x=>(r.length-x).toNat,⟨by omega,by omega,by simp⟩,?_⟩;rintro l x ⟨x0,hx,rfl⟩;have j:rlen (ptR r)=r.length:=(by simp);rw[j];refine Zaa (λh=>?_) (λh=>?_)
 ·simp at h;have f:x.toNat<r.length:=(by omega);have k:r.take (x+1).toNat=r.take x.toNat++[r[x.toNat]]:=(by rw[show(x+1).toNat=x.toNat+1 by omega,List.take_succ_eq_append_getElem f]);refine⟨inM _ x0 h,_,_,_,_,_,_,_,_,_,_,_,Zbb ptRow r x x0 h,Cl.of (Zc4 _) ⟨_,rfl,?_,o,?_,?_⟩⟩
  ·simp;omega
  ·rw[Zac (by omega) (by omega)];refine⟨by omega,by omega,?_⟩;have:=Zfr (n _ (List.getElem_mem f)).num;unfold nmG at this;rw[k,List.map_append,this];unfold rapp nR;rw[List.map_append];rfl
  ·rw[Zac (by omega) (by omega)];exact mlt (by first|omega|(dsimp only;omega))
 ·simp at h;have e:x.toNat=r.length:=(by omega);rw[e,Yf];exact q
def Zoc(d:DiD)(q:d.ok)(n:d.P)(j:d.dn=false):Ct prog 51 {} [d.sv] (λr=>r=[FdV d]∧∀p∈(rowK d.fs).1,PtK p):=by
 have A:=n.1.1;refine jlook_nf (Cl.ofQ (jrows_fn d q n j) ?_);rintro r ⟨rfl,hK⟩;have b:=rowK_K hK;have E:=Zuc d.fs;refine⟨_,_,rfl,Cl.ofQ (nnew_fn d q) ?_⟩;rintro r ⟨s,e,rfl,hn⟩;have t:=base_P d.fs;have a:=jrep_fn (rowK d.fs).1 b (by have:=Zob d.fs;omega) (baseF d.fs) t
 have i:∀(k:Int) (X Y Z:Prop),k=keptF d.fs→((rowK d.fs)=([],(rowsD scF d.fs).1.map (λp=>segNm p.d.num)++(rowsD scF d.fs).2)→X)→(rowK d.fs=rowsD scF d.fs→Y)→(rowK d.fs=rowsD scF d.fs→Z)→
   ifB (igt (rlen (ptR (rowsD scF d.fs).1)) 0) (inR (wsub IntKind.i64 (rlen (ptR (rowsD scF d.fs).1)) 1) (ptR (rowsD scF d.fs).1)∧(ej3 (rget (ptR (rowsD scF d.fs).1) (wsub IntKind.i64 (rlen (ptR (rowsD scF d.fs).1)) 1)) λF G H J K w L M N O D=>ifB (ilt w k) X Y)) Z:=by
  intro k X Y Z c x y z;generalize a:rowsD scF d.fs=R at*;have u:rlen (ptR R.1)=R.1.length:=(by simp);rw[u]
  have f:rowK d.fs=match R.1.getLast? with|none=>R|some p=>if p.d.s<keptF d.fs then([],R.1.map (λp=>segNm p.d.num)++R.2)else R:=by unfold rowK;rw[a];rfl
  refine Zaa (λh=>?_) (λh=>?_)
  ·simp at h;have l:R.1.length-1<R.1.length:=(by omega);have C:wsub IntKind.i64 (R.1.length:Int) 1=((R.1.length-1:Nat):Int):=by rw[Zaq (by omega) (by omega)];omega
   have v:R.1.getLast?=some R.1[R.1.length-1]:=(by rw[List.getLast?_eq_getElem?];simp[l]);rw[v]at f
   dsimp only at f
   rw[C];refine⟨inM _ (by omega) (by omega),_,_,_,_,_,_,_,_,_,_,_,Zfv l,Zaa (λo=>x ?_) (λo=>y ?_)⟩
   ·simp at o;rw[f,if_pos (by omega)]
   ·simp at o;rw[f,if_neg (by omega)]
  ·have h:R.1=[]:=(by simpa using h);have:R.1.getLast?=none:=(by rw[h];rfl);rw[this]at f;exact z f
 have m:(rowsD scF d.fs).1.length≤1000000:=by omega
 rcases new_cases n j hn with⟨rfl,c,g⟩|⟨rfl,rfl,c,g⟩
 ·refine⟨_,_,_,_,rfl,Zaa (λ_=>?_) (λh=>by simp at h)⟩;rw[g]at a;refine i _ _ _ _ c.symm (λer=>Zmu m hK rfl ⟨?_,?_⟩) (λer=>?_) (λer=>?_)
  ·simp;omega
  ·rw[er]at a;refine Cl.of a ⟨_,_,_,_,rfl,⟨?_,b⟩⟩;simp only[FdV,er,c,g];rw[Zjv];rfl
  ·rw[er]at a;refine Cl.of a ⟨_,_,_,_,rfl,⟨?_,b⟩⟩;simp only[FdV,er,c,g]
  ·rw[er]at a;refine Cl.of a ⟨_,_,_,_,rfl,⟨?_,b⟩⟩;simp only[FdV,er,c,g]
 ·refine⟨_,_,_,_,rfl,Zaa (λh=>by simp at h) (λ_=>?_)⟩;rw[g]at a;refine i _ _ _ _ c.symm (λer=>Zmu m hK rfl ⟨?_,?_⟩) (λer=>?_) (λer=>?_)
  ·simp;omega
  ·rw[er]at a;refine Cl.of a ⟨_,_,_,_,rfl,⟨?_,b⟩⟩;simp only[FdV,er,c,g];rw[Zjv];rfl
  ·rw[er]at a;refine Cl.of a ⟨_,_,_,_,rfl,⟨?_,b⟩⟩;simp only[FdV,er,c,g]
  ·rw[er]at a;refine Cl.of a ⟨_,_,_,_,rfl,⟨?_,b⟩⟩;simp only[FdV,er,c,g]
def Zv4(s:BA):Ct prog 116 {} [S s] (λr=>r=[.clo 184 [.ref 0 [S s]]]):=Zw6 rfl
def jcut_fn(s:BA)(n:Int):Ct prog 118 {} [S s,I n] (λr=>r=[.clo 186 [.ref 0 [S s],.ref 0 [I n]]]):=jcut_nf rfl
def Zhc(s:BA):Ct prog 87 {} [S s] (λr=>r=[.clo 150 [.ref 0 [S s]]]):=jsync_nf rfl
def Zv5(s:BA):Ct prog 142 {} [S s] (λr=>r=[.clo 206 [.ref 0 [S s]]]):=Zw7 rfl
def Zyc(s:BA)(x:List UInt8):Ct prog 205 {} [S s,SL 1 (uR x)] (λr=>r=[.clo 276 [.ref 0 [S s],.ref 0 [SL 1 (uR x)]]]):=jwrite_nf rfl
def backs_fn(a:LL):Ct prog 115 {} [SL 1 a] (λr=>r=[.clo 183 [.ref 0 [SL 1 a]]]):=backs_nf rfl
def backp_fn(a:LL):Ct prog 117 {} [SL 11 a] (λr=>r=[.clo 185 [.ref 0 [SL 11 a]]]):=backp_nf rfl
def rev_at{a:Type}(l:List a)(x:Int)(b:0≤x)(h:x<l.length):∃c:x.toNat<l.reverse.length,kdn (l.length:Int) x=((l.length-1-x.toNat:Nat):Int)∧∃d:l.length-1-x.toNat<l.length,l[l.length-1-x.toNat]=l.reverse[x.toNat]:=by
 refine⟨by simp;omega,by unfold kdn;omega,by omega,?_⟩;rw[List.getElem_reverse]
def mend_fn(r:List Pt)(o:List BA)(m:Int)(A:LL)(s a:Int)(n:Bool)(D:r.length≤1000)(E:o.length≤1000):Ct prog 53 {} [fd7 (ptR r) (nR o) m A s a n] (λx=>x=[SL 1 (tR (mendP r o))]):=by
 have i:rlen (nR o)=o.length:=(by simp);have j:rlen (ptR r)=r.length:=(by simp);have w:∀p:Pt,(cutP p).length≤1:=λp=>by unfold cutP;split<;>simp
 have c:∀l:List Pt,(l.flatMap cutP).length≤l.length:=λl=>by
  induction l with
  |nil=>simp
  |cons p l F=>rw[List.flatMap_cons,List.length_append,List.length_cons];have:=w p;omega
 refine mend_nf _ _ _ _ _ _ _ _ (Cl.of (backs_fn _) ⟨_,_,rfl,_,rfl,rfl,by rw[i];omega,?_⟩);rw[i];refine⟨λx l=>0≤x∧x≤o.length∧l=tR ((o.reverse.take x.toNat).map Stp.rem),⟨by omega,by omega,by simp⟩,?_,?_⟩
 ·rintro x q t l ⟨_,_,rfl⟩;obtain⟨u,e1,v,e2⟩:=rev_at o x q t;rw[e1];refine⟨_,Zao _ _ _ v,Cl.of (Zv4 _) ⟨_,_,rfl,?_,rfl,?_⟩⟩
  ·simp;omega
  ·unfold kup;refine⟨by omega,by omega,?_⟩;rw[show(x+1).toNat=x.toNat+1 by omega,List.take_succ_eq_append_getElem u,e2];simp[rapp,Stp.row]
 rintro l ⟨_,_,rfl⟩;rw[Int.toNat_natCast,show o.reverse.take o.length=o.reverse from List.take_of_length_le (by simp)];refine Cl.of (backp_fn _) ⟨_,_,rfl,_,rfl,rfl,by rw[j];omega,?_⟩;rw[j];refine⟨λx l=>0≤x∧x≤r.length∧l=tR (o.reverse.map Stp.rem++(r.reverse.take x.toNat).flatMap cutP),⟨by omega,by omega,by simp⟩,?_,?_⟩
 ·rintro x q t l ⟨_,_,rfl⟩;obtain⟨u,e1,v,e2⟩:=rev_at r x q t;have k:r.reverse.take (kup x).toNat=r.reverse.take x.toNat++[r.reverse[x.toNat]]:=(by unfold kup;rw[show(x+1).toNat=x.toNat+1 by omega,List.take_succ_eq_append_getElem u]);have f:=c (r.reverse.take x.toNat);have y:(r.reverse.take x.toNat).length≤1000:=(by simp;omega);rw[e1];refine⟨_,_,_,_,_,_,_,_,_,_,_,Zfv v,Zaa (λh=>Cl.of (Zc4 _) ⟨_,rfl,Cl.of (jcut_fn _ _) ⟨_,_,rfl,?_,rfl,?_⟩⟩) (λh=>⟨rfl,?_⟩)⟩
  ·simp at f y⊢;omega
  ·refine⟨by unfold kup;omega,by unfold kup;omega,?_⟩;rw[k,List.flatMap_append,←e2];simp at h;have:cutP r[r.length-1-x.toNat]=[.cut (nmG r[r.length-1-x.toNat].d.num) (segL r[r.length-1-x.toNat].d).length]:=by unfold cutP;rw[if_pos h]
   simp[rapp,this,Stp.row]
  ·refine⟨by unfold kup;omega,by unfold kup;omega,?_⟩;rw[k,List.flatMap_append,←e2];simp at h;have:cutP r[r.length-1-x.toNat]=[]:=by unfold cutP;rw[if_neg (by omega)]
   simp[this]
 rintro l ⟨_,_,rfl⟩;rw[Int.toNat_natCast,show r.reverse.take r.length=r.reverse from List.take_of_length_le (by simp)];have f:=c r.reverse;refine Zaa (λh=>?_) (λh=>?_)
 ·have h:0<r.length:=by
   rcases YO r.length with e|e
   ·rw[e]at h;simp at h
   ·exact e
  have g:r.length-1<r.length:=(by omega);have C:wsub IntKind.i64 (r.length:Int) 1=((r.length-1:Nat):Int):=(by rw[Zaq (by omega) (by omega)];omega);have z:r.getLast?=some r[r.length-1]:=(by rw[List.getLast?_eq_getElem?];simp[g]);rw[C];refine⟨inM _ (by omega) (by omega),_,_,_,_,_,_,_,_,_,_,_,Zfv g,Zaa (λb=>⟨inM _ (by omega) (by omega),_,_,_,_,_,_,_,_,_,_,_,Zfv g,Cl.of (Zc4 _) ⟨_,rfl,Cl.of (Zhc _) ⟨_,_,rfl,?_,?_⟩⟩⟩) (λb=>?_)⟩
  ·simp only[rlen_eq,List.length_map,List.length_append,List.length_reverse,lsum_eq,List.length_cons,Y6]at f⊢;omega
  ·have b:r[r.length-1].d.sl=false:=(by rw[←Zml r[r.length-1].d.sl];simpa using b);have:synP r=[.syn (nmG r[r.length-1].d.num)]:=(by unfold synP;rw[z];simp[b]);unfold mendP;rw[this];simp[rapp,Stp.row]
  ·have b:r[r.length-1].d.sl=true:=(by rw[←Zml r[r.length-1].d.sl];simpa using b);have:synP r=[]:=(by unfold synP;rw[z];simp[b]);unfold mendP;rw[this];simp
 ·have h:r=[]:=(by simpa using h);have:synP r=[]:=(by unfold synP;rw[h];rfl);unfold mendP;rw[this];simp
def mendP_ok{r:List Pt}{o:List BA}:∀s∈mendP r o,s.ok:=by
 intro s a;unfold mendP at a
 rcases List.mem_append.1 a with h|h
 ·obtain⟨n,_,rfl⟩:=Y3.1 h;trivial
 ·rcases List.mem_append.1 h with h|h
  ·obtain⟨p,_,h⟩:=List.mem_flatMap.1 h;unfold cutP at h
   split at h
   ·simp at h;subst h;trivial
   ·cases h
  ·unfold synP at h
   split at h
   ·cases h
   ·split at h
    ·cases h
    ·simp at h;subst h;trivial
def Zyd{r:List Pt}{o:List BA}:(mendP r o).length≤o.length+r.length+1:=by
 have a:∀l:List Pt,(l.flatMap cutP).length≤l.length:=λl=>by
  induction l with
  |nil=>simp
  |cons p l d=>
   rw[List.flatMap_cons,List.length_append,List.length_cons];have:(cutP p).length≤1:=by unfold cutP;split<;>simp
   omega
 have b:=a r.reverse
 have c:(synP r).length≤1:=by
  unfold synP
  split
  ·simp
  ·split<;>simp
 unfold mendP;simp only[List.length_append,List.length_map,List.length_reverse]at b⊢;omega
def JoD.sv(j:JoD):SV:=jr16 (fR j.dk.fs) j.dk.rm j.dk.st j.dk.dn j.cb j.cg (sgR j.sg) j.cx.s j.cx.a (nR j.cx.m) (coR j.st.cs) j.st.q j.st.t j.sure j.kept j.shut
def Zhd(d:DiD):(repP (rowK d.fs).1 (baseF d.fs)).2=true↔GoodR (rowK d.fs).1 (keptF d.fs) (baseF d.fs):=by
 rw[repP_iff,Zmn]
def Zye{d:DiD}(h:GoodR (rowK d.fs).1 (keptF d.fs) (baseF d.fs)):(repP (rowK d.fs).1 (baseF d.fs)).1=stR (rowK d.fs).1 (keptF d.fs) (baseF d.fs):=by
 have:=repP_st (r:=(rowK d.fs).1) (s:=baseF d.fs) (by rw[Zmn];exact h);rw[this,Zmn]
def Ztb(d:DiD)(j:d.ok)(b c:Int):Ct prog 13 {} [d.sv,.agg [I b,I c]] (λr=>r=[(openP d b c).1.sv,I (openP d b c).2]):=by
 refine jopen_nf (Cl.of (Zf4 d j) ⟨_,rfl,Zaa (λh=>?_) (λh=>Cl.of (Zpo b c) ⟨_,rfl,Zaa (λg=>?_) (λg=>?_)⟩)⟩)
 ·simp at h;unfold openP;rw[if_pos (λq=>h q.1)];rfl
 ·simp at g;unfold openP;rw[if_pos (λq=>g q.2)];rfl
 simp at h g;have k:¬¬(d.P∧mayC b c):=λq=>q ⟨h,g⟩;refine Zaa (λi=>?_) (λi=>?_)
 ·unfold openP;rw[if_neg k,if_pos i];rfl
 have l:=h.1.1;have m:=Zob d.fs;refine Cl.ofQ (Zoc d j h i) ?_;rintro r ⟨rfl,hK⟩;refine⟨_,_,_,_,_,_,_,rfl,Zaa (λa=>?_) (λa=>Cl.of (mend_fn _ _ _ _ _ _ _ (by omega) (by omega)) ⟨_,rfl,Cl.of (Znv d j _ mendP_ok (by have:=Zyd (r:=(rowK d.fs).1) (o:=(rowK d.fs).2);omega)) ⟨_,_,_,_,_,rfl,?_⟩⟩)⟩
 ·have a:¬GoodR (rowK d.fs).1 (keptF d.fs) (baseF d.fs):=(by rw[←Zhd];simpa using a);unfold openP;rw[if_neg k,if_neg (by simp[i]),if_pos a];rfl
 have a:GoodR (rowK d.fs).1 (keptF d.fs) (baseF d.fs):=(by rw[←Zhd];simpa using a);have e:openP d b c=if(menD d).2≠0 then(jo0 (menD d).1,(menD d).2)else(⟨(menD d).1,b,c,(rowK d.fs).1.map sgOf,Zbl (rowK d.fs).1,stR (rowK d.fs).1 (keptF d.fs) (baseF d.fs),(stR (rowK d.fs).1 (keptF d.fs) (baseF d.fs)).q,keptF d.fs,false⟩,0):=(by unfold openP;rw[if_neg k,if_neg (by simp[i]),if_neg (by simp[a])]);rw[e,Zye a];refine Zaa (λf=>?_) (λf=>?_)
 ·have f:(menD d).2≠0:=(by unfold menD;simpa using f);rw[if_pos f];rfl
 ·have f:(menD d).2=0:=(by unfold menD;simpa using f);rw[if_neg (by simp[f])];exact Cl.of (Ztu _ (by omega)) ⟨_,rfl,Cl.of (Zpn _ (by omega)) ⟨_,_,_,rfl,rfl⟩⟩
structure JoD.ok(j:JoD):Prop where
 dk:j.dk.ok
 sg:j.sg.length≤1000000
 m:j.cx.m.length≤1000000
 cs:j.st.cs.length≤1000000
 cl:∀c∈j.st.cs,c.cl.length≤1000000
def sgd_band(p q:SgD):band (ieq p.num q.num) (band (ieq p.fi q.fi) (band (ieq p.la q.la) (band (ieq p.fr q.fr) (band (ieq p.ti q.ti) (band (ieq p.sz q.sz) (band (beqB p.sl q.sl) true))))))=decide (p=q):=by
 cases p;cases q
 rw[Bool.eq_iff_iff];simp
def Zyf{c:Type}{a b:List c}{i:Nat}(d:i<a.length)(f:i<b.length)(h:a.take i=b.take i)(e:a[i]=b[i]):a.take (i+1)=b.take (i+1):=by
 rw[List.take_succ_eq_append_getElem d,List.take_succ_eq_append_getElem f,h,e]
def Zyg(a b:List SgD)(i:a.length≤1000000):Ct prog 57 {} [SL 7 (sgR a),SL 7 (sgR b)] (λr=>r=[B (decide (a=b))]):=by
 refine segeq_nf (Zaa (λh=>?_) (λh=>?_))
 ·have:¬a=b:=λe=>by rw[e]at h;simp at h
  rw[decide_eq_false this]
 have g:a.length=b.length:=(by simp at h;omega);refine⟨λ_ x=>0≤x∧x≤a.length∧a.take x.toNat=b.take x.toNat,λ_ x=>(a.length-x).toNat,⟨by omega,by omega,rfl⟩,?_⟩;rintro _ x ⟨x0,hx,he⟩;refine Zaa (λc=>?_) (λc=>?_)
 ·have c:x<a.length:=(by simpa using c);have d:x<b.length:=(by omega);refine⟨inM _ x0 c,_,_,_,_,_,_,_,Zbb SgD.row a x x0 c,inM _ x0 d,_,_,_,_,_,_,_,Zbb SgD.row b x x0 d,?_⟩
  dsimp only
  rw[sgd_band,Zac (by omega) (by omega)];refine Zaa (λf=>?_) (λf=>⟨rfl,⟨by omega,by omega,?_⟩,mlt (by first|omega|(dsimp only;omega))⟩)
  ·have:¬a=b:=λe=>by subst e;simp at f
   rw[decide_eq_false this]
  ·rw[show(x+1).toNat=x.toNat+1 by omega];exact Zyf (by omega) (by omega) he (by simpa using f)
 ·have c:x=a.length:=(by simp at c;omega);have:a=b:=(by rw[c,Int.toNat_natCast,Yf,g,Yf]at he;exact he);rw[decide_eq_true this]
def Zyh(a b:List BA)(i:a.length≤1000000):Ct prog 120 {} [SL 1 (nR a),SL 1 (nR b)] (λr=>r=[B (decide (a=b))]):=by
 refine streq_nf (Zaa (λh=>?_) (λh=>?_))
 ·have:¬a=b:=λe=>by rw[e]at h;simp at h
  rw[decide_eq_false this]
 have g:a.length=b.length:=(by simp at h;omega);refine⟨λ_ x=>0≤x∧x≤a.length∧a.take x.toNat=b.take x.toNat,λ_ x=>(a.length-x).toNat,⟨by omega,by omega,rfl⟩,?_⟩;rintro _ x ⟨x0,hx,he⟩;refine Zaa (λc=>?_) (λc=>?_)
 ·have c:x<a.length:=(by simpa using c);have d:x<b.length:=(by omega);refine⟨inM _ x0 c,_,Zbb _ a x x0 c,inM _ x0 d,_,Zbb _ b x x0 d,?_⟩
  dsimp only
  rw[sne_eq,Zuo,Zac (by omega) (by omega)];refine Zaa (λf=>?_) (λf=>⟨rfl,⟨by omega,by omega,?_⟩,mlt (by first|omega|(dsimp only;omega))⟩)
  ·have:¬a=b:=λe=>by subst e;simp at f
   rw[decide_eq_false this]
  ·rw[show(x+1).toNat=x.toNat+1 by omega];exact Zyf (by omega) (by omega) he (by simpa using f)
 ·have c:x=a.length:=(by simp at c;omega);have:a=b:=(by rw[c,Int.toNat_natCast,Yf,g,Yf]at he;exact he);rw[decide_eq_true this]
def jsame_fn(c d:CxD)(b:c.m.length≤1000000):Ct prog 58 {} [c.sv,d.sv] (λr=>r=[B (decide (c=d))]):=by
 have ext:c=d↔(c.s=d.s∧c.a=d.a)∧c.m=d.m:=(by cases c;cases d;simp[and_assoc]);refine jsame_nf (Zaa (λh=>Cl.of (Zyh _ _ b) ⟨_,rfl,?_⟩) (λh=>?_))
 ·have h:c.s=d.s∧c.a=d.a:=(by simpa using h);congr 2;exact decide_eq_decide.2 ⟨λq=>ext.2 ⟨h,q⟩,λq=>(ext.1 q).2⟩
 ·have:¬c=d:=λe=>by subst e;simp at h
  rw[decide_eq_false this]
open Classical in
noncomputable def rgtJ(j:JoD):Bool:=decide (RightJ j)
def Zd3{j:JoD}:rgtJ j=true↔RightJ j:=by unfold rgtJ;simp
def rgtJ_no{j:JoD}(h:¬RightJ j):rgtJ j=false:=by unfold rgtJ;simp[h]
def Zdc{j:JoD}:RightJ j↔mayC j.cb j.cg∧j.dk.P∧j.dk.dn=false∧GoodR (rowK j.dk.fs).1 (keptF j.dk.fs) (baseF j.dk.fs)∧(rowK j.dk.fs).2=[]∧(∀p∈(rowK j.dk.fs).1,p.n=(segL p.d).length)∧
  j.sg=(rowK j.dk.fs).1.map sgOf∧j.cx=Zbl (rowK j.dk.fs).1∧j.st=stR (rowK j.dk.fs).1 (keptF j.dk.fs) (baseF j.dk.fs)∧j.kept=keptF j.dk.fs∧j.kept≤j.sure∧j.sure≤j.st.q:=by
 constructor
 ·intro h;have e:=h.eq;have e1:=congrArg JoD.sg e;have e2:=congrArg JoD.cx e;have b:=congrArg JoD.st e;have a:=congrArg JoD.kept e;have c:j.kept=keptF j.dk.fs:=a;exact⟨h.cfg,h.dk,h.up,h.good,h.out,h.all,e1,e2,b,a,by rw[c];exact h.sure.1,h.sure.2⟩
 ·rintro⟨f,g,i,k,l,m,e1,e2,b,a,o,r⟩;refine⟨f,g,i,l,k,m,?_,by rw[←a];exact o,r⟩;unfold anewJ;rw[←e1,←e2,←b,←a]
def Zfp(j:JoD)(h:j.ok):Ct prog 17 {} [j.sv] (λr=>r=[B (rgtJ j)]):=by
 have no:∀{p:Prop},(RightJ j→p)→¬p→rgtJ j=false:=λf g=>rgtJ_no λq=>g (f q);refine jright_nf (Cl.of (Zpo _ _) ⟨_,rfl,Zaa (λg=>?_) (λg=>?_)⟩)
 ·rw[no (λq=>q.cfg) (by simpa using g)]
 have v:mayC j.cb j.cg:=(by simpa using g);refine Cl.of (Zf4 j.dk h.dk) ⟨_,rfl,Zaa (λg=>?_) (λg=>?_)⟩
 ·rw[no (λq=>And.intro q.dk q.up) (λq=>by simp[q.1,q.2]at g)]
 have b:j.dk.P:=Classical.byContradiction λq=>by simp[q]at g
 have s:j.dk.dn=false:=(by simpa[b]using g);have w:=b.1.1;have F:=Zob j.dk.fs;refine Cl.ofQ (Zoc j.dk h.dk b s) ?_;rintro r ⟨rfl,hK⟩;refine⟨_,_,_,_,_,_,_,rfl,Zaa (λg=>?_) (λg=>?_)⟩
 ·rw[no (λq=>And.intro q.good q.out) (λq=>by
   have:=(Zhd j.dk).2 q.1;rw[this,q.2]at g
   simp at g)]
 have o:GoodR (rowK j.dk.fs).1 (keptF j.dk.fs) (baseF j.dk.fs):=(Zhd j.dk).1 (Classical.byContradiction λq=>by simp[q]at g)
 have y:(rowK j.dk.fs).2=[]:=by
  have:=(Zhd j.dk).2 o;rw[this]at g
  simpa using g
 have t:rlen (ptR (rowK j.dk.fs).1)=(rowK j.dk.fs).1.length:=(by simp);refine⟨λ_ x=>0≤x∧x≤(rowK j.dk.fs).1.length∧∀i:Nat,∀a:i<(rowK j.dk.fs).1.length,i<x→(rowK j.dk.fs).1[i].n=(segL (rowK j.dk.fs).1[i].d).length,λ_ x=>((rowK j.dk.fs).1.length-x).toNat,⟨by omega,by omega,by intro i a q;omega⟩,?_⟩;rintro _ x ⟨x0,hx,hall⟩;rw[t];refine Zaa (λg=>?_) (λg=>?_)
 ·have g:x<(rowK j.dk.fs).1.length:=(by simpa using g);have c:x.toNat<(rowK j.dk.fs).1.length:=(by omega);have l:=hK _ (List.getElem_mem c);refine⟨inM _ x0 g,_,_,_,_,_,_,_,_,_,_,_,Zbb ptRow _ x x0 g,Zaa (λz=>?_) (λz=>⟨rfl,?_,?_⟩)⟩
  ·rw[no (λq=>q.all _ (List.getElem_mem c)) (by simp at z;omega)]
  ·rw[Zac (by omega) (by omega)];refine⟨by omega,by omega,λi a q=>?_⟩;by_cases e:i<x
   ·exact hall i a e
   ·have:i=x.toNat:=(by omega);subst this;have:=l.le;simp at z;omega
  ·rw[Zac (by omega) (by omega)];exact mlt (by first|omega|(dsimp only;omega))
 have A:∀p∈(rowK j.dk.fs).1,p.n=(segL p.d).length:=λp l=>by obtain⟨i,a,rfl⟩:=List.mem_iff_getElem.1 l;simp at g;exact hall i a (by omega)
 refine Cl.of (Ztu _ (by omega)) ⟨_,rfl,Cl.of (Zyg _ _ h.sg) ⟨_,rfl,Zaa (λg=>?_) (λg=>?_)⟩⟩
 ·rw[no (λq=>(Zdc.1 q).2.2.2.2.2.2.1) (by simpa using g)]
 have C:j.sg=(rowK j.dk.fs).1.map sgOf:=(by simpa using g);refine Cl.of (Zpn _ (by omega)) ⟨_,_,_,rfl,Cl.of (jsame_fn j.cx (Zbl (rowK j.dk.fs).1) h.m) ⟨_,rfl,Zaa (λg=>?_) (λg=>?_)⟩⟩
 ·rw[no (λq=>(Zdc.1 q).2.2.2.2.2.2.2.1) (by simpa using g)]
 have D:j.cx=Zbl (rowK j.dk.fs).1:=(by simpa using g);have k:=Zt0 j.st (repP (rowK j.dk.fs).1 (baseF j.dk.fs)).1 (by have:=h.cs;omega) h.cl;rw[Zye o]at k⊢;refine Cl.of k ⟨_,rfl,Zaa (λg=>?_) (λg=>?_)⟩
 ·rw[no (λq=>And.intro (Zdc.1 q).2.2.2.2.2.2.2.2.1 (Zdc.1 q).2.2.2.2.2.2.2.2.2.1) (λq=>by simp[q.1,q.2]at g)]
 have E:j.st=stR (rowK j.dk.fs).1 (keptF j.dk.fs) (baseF j.dk.fs):=Classical.byContradiction λq=>by simp[q]at g
 have u:j.kept=keptF j.dk.fs:=Classical.byContradiction λq=>by simp[q]at g
 have:rgtJ j=bpick (ige j.sure j.kept) (ile j.sure j.st.q) false:=by
  rw[Bool.eq_iff_iff,Zd3];constructor
  ·intro q;have:=(Zdc.1 q).2.2.2.2.2.2.2.2.2.2;simp[this.1,this.2]
  ·intro q;have q:j.kept≤j.sure∧j.sure≤j.st.q:=(by simpa using q);exact Zdc.2 ⟨v,b,s,o,y,A,C,D,E,u,q.1,q.2⟩
 rw[this]
def Zqz(j:JoD)(h:j.ok):Ct prog 68 {} [j.sv] (λr=>r=[I (mayJ j)]):=by
 refine jmay_nf (Cl.of (Zf4 j.dk h.dk) ⟨_,rfl,Zaa (λg=>?_) (λg=>Cl.of (Zfp j h) ⟨_,rfl,Zaa (λz=>?_) (λz=>?_)⟩)⟩)
 ·have g:j.dk.P∧j.dk.dn=true:=(by simpa using g);unfold mayJ;rw[if_pos g]
 ·have z:¬RightJ j:=λq=>by rw[Zd3.2 q]at z;simp at z
  have g:¬(j.dk.P∧j.dk.dn=true):=(by simpa using g);unfold mayJ;rw[if_neg g,if_pos z]
 ·have z:RightJ j:=Zd3.1 (by simpa using z);rw[Zcd.2 z]
def Zmb(j:JoD)(h:j.ok):Ct prog 15 {} [j.sv] (λr=>r=[SL 7 (evR (evsJ j))]):=by
 refine Zxa (Cl.of (Zfp j h) ⟨_,rfl,Zaa (λg=>?_) (λg=>?_)⟩)
 ·have g:¬RightJ j:=λq=>by rw[Zd3.2 q]at g;simp at g
  unfold evsJ;rw[if_neg g];rfl
 have g:RightJ j:=Zd3.1 (by simpa using g);have s:evsJ j=(rowK j.dk.fs).1.flatMap (·.d.ev):=(by unfold evsJ;rw[if_pos g]);rw[s];have t:=g.dk.1.1;have v:=Zob j.dk.fs;refine Cl.ofQ (Zoc j.dk h.dk g.dk g.up) ?_;rintro r ⟨rfl,hK⟩;refine⟨_,_,_,_,_,_,_,rfl,?_⟩;generalize(rowK j.dk.fs).1=R at*
 have e:∀l:List Pt,(∀p∈l,PtK p)→(l.flatMap (·.d.ev)).length≤65536*l.length:=λl=>by
  induction l with
  |nil=>intro _;simp
  |cons p l u=>intro a;have w:=ev_len (a p (by simp));have y:=(a p (by simp)).le;have z:=(a p (by simp)).n;have A:=u (λq m=>a q (by simp[m]));rw[List.flatMap_cons,List.length_append,List.length_cons];omega
 have f:rlen (ptR R)=R.length:=(by simp);refine⟨λl x=>0≤x∧x≤R.length∧l=evR ((R.take x.toNat).flatMap (·.d.ev)),λ_ x=>(R.length-x).toNat,⟨by omega,by omega,rfl⟩,?_⟩;rintro l x ⟨x0,hx,rfl⟩;rw[f];refine Zaa (λg=>?_) (λg=>?_)
 ·have g:x<R.length:=(by simpa using g);have i:x.toNat<R.length:=(by omega);have b:R.take (x+1).toNat=R.take x.toNat++[R[x.toNat]]:=(by rw[show(x+1).toNat=x.toNat+1 by omega,List.take_succ_eq_append_getElem i]);have k:=e (R.take (x+1).toNat) (λp o=>hK p (List.mem_of_mem_take o));have c:(R.take (x+1).toNat).length≤64:=(by simp;omega);refine⟨inM _ x0 g,_,_,_,_,_,_,_,_,_,_,_,Zbb ptRow _ x x0 g,?_,rfl,?_,?_⟩
  ·rw[b]at k c;simp only[List.flatMap_append,List.length_append,List.flatMap_cons,List.flatMap_nil,List.append_nil,rlen_eq,List.length_map,lsum_eq]at k c⊢;omega
  ·rw[Zac (by omega) (by omega)];refine⟨by omega,by omega,?_⟩;rw[b,List.flatMap_append];simp[rapp]
  ·rw[Zac (by omega) (by omega)];exact mlt (by first|omega|(dsimp only;omega))
 ·have g:x.toNat=R.length:=(by simp at g;omega);rw[g,Yf]
def WrD.sv(w:WrD):SV:=wr18 (fR w.j.dk.fs) w.j.dk.rm w.j.dk.st w.j.dk.dn w.j.cb w.j.cg (sgR w.j.sg) w.j.cx.s w.j.cx.a (nR w.j.cx.m) (coR w.j.st.cs) w.j.st.q w.j.st.t w.j.sure w.j.kept w.j.shut (tR w.td) w.sz
def bR_bys{b:List Int}(h:Byts b):bR b=uR (bys b):=by
 rw[uR_bR];unfold bys;rw[iU_of h]
def sg_len(l:List SgD)(p:SgD):rlen (sgR (l++[p]))=l.length+1:=by simp
def Zfk{l:List SgD}(p:SgD)(h:l.length≤1000000):wsub .i64 (rlen (sgR (l++[p]))) 1=(l.length:Int):=by
 rw[sg_len,Zaq (by omega) (by omega)];omega
def Zd7(l:List SgD)(p:SgD):rget (sgR (l++[p])) (l.length:Int)=p.row:=by simp[rget]
def Zua(l:List SgD)(p q:SgD):rset (sgR (l++[p])) (l.length:Int) q.row=sgR (l++[q]):=by simp[rset]
def sg_in(l:List SgD)(p:SgD):inR (l.length:Int) (sgR (l++[p])):=⟨by omega,by rw[sg_len];omega⟩
def tR_app(a:List Stp)(s:Stp):rapp (tR a) [s.row]=tR (a++[s]):=by simp[rapp]
def Zrp(w:WrD)(l:List SgD)(p:SgD)(c:w.j.sg=l++[p])(b:List Int)(d:Byts b)(f:l.length≤1000000)(h:w.td.length≤1000000)(g:b.length≤1000000)(i:0≤p.sz∧p.sz≤1000000000)(k:0≤w.sz∧w.sz≤1000000000):
  Ct prog 140 sgP [w.sv,SL 1 (bR b)] (λr=>r=[(putW w l p b).sv]):=by
 refine wput_nf ?_;rw[c,Zfk p f,bR_bys d];have a:rlen (uR (bys b))=b.length:=(by simp[bys]);rw[a];refine⟨sg_in l p,sg_in l p,_,_,_,_,_,_,_,Zd7 l p,sg_in l p,_,_,_,_,_,_,_,Zd7 l p,?_⟩;rw[Zac (by omega) (by omega),Zac (by omega) (by omega)];have e:=Zua l p {p with sz:=p.sz+b.length};unfold SgD.row at e
 dsimp only at e⊢
 rw[e];refine⟨sg_in l _,_,_,_,_,_,_,_,Zd7 l _,Cl.of (Zc4 _) ⟨_,rfl,Cl.of (Zyc _ _) ⟨_,_,rfl,?_,?_⟩⟩⟩
 ·simp;omega
 ·have:=tR_app w.td (.wri (nmG p.num) (bys b));unfold Stp.row at this;rw[this];rfl
def wopen_fn(w:WrD)(a:w.j.sg.length≤1000000):Ct prog 74 sgW [w.sv] (λr=>r=[B (opnW w),w.sv]):=by
 refine wopen_nf ?_
 rcases Y2 w.j.sg with e|⟨l,p,e⟩
 ·rw[e];refine Zaa (λh=>by simp at h) (λ_=>?_);unfold WrD.sv opnW;rw[e];rfl
 ·rw[List.concat_eq_append]at e;have b:l.length≤1000000:=by rw[e]at a;simp at a;omega
  rw[e,Zfk p b];refine Zaa (λ_=>⟨sg_in l p,sg_in l p,_,_,_,_,_,_,_,Zd7 l p,?_⟩) (λh=>by simp at h<;>omega);unfold WrD.sv opnW;rw[e,Zae];rfl
def slP_le{n s a:Int}(b:n≤9223372036854775807)(c:s≤9223372036854775807)(d:a≤9223372036854775807):(slP n s a).length≤30:=by
 have e:(leb n.toNat).length≤10:=Cod.leb_small (by omega);have f:(leb s.toNat).length≤10:=Cod.leb_small (by omega);have b3:(leb a.toNat).length≤10:=Cod.leb_small (by omega);simp[slP];omega
def Zub(w:WrD)(l:List SgD)(p:SgD)(d:w.j.sg=l++[p])(e:ctxB w.j.cx.s w.j.cx.a w.j.cx.m=true)(q:p.fi≤p.la)(t:0≤p.fi)(u:p.la≤9223372036854775807)(v:l.length≤100000)(x:w.td.length≤100000)(y:0≤p.sz∧p.sz≤100000000)(z:0≤w.sz∧w.sz≤100000000):
  Ct prog 72 sgW [w.sv] (λr=>r=[B true,(sealW w l p).sv]):=by
 have i:=(Zbd.1 e).1;have k:=slP_le (n:=p.la-p.fi) (s:=w.j.cx.s) (a:=w.j.cx.a) (by omega) (by omega) (by omega);have f:Byts (selB w.j p):=Zis (by omega) (by omega) (Zum _ _ _);have o:(selB w.j p).length≤40:=(by unfold selB;rw[Zdy];omega);refine wseal_nf ?_;rw[d,Zfk p (by omega)];refine⟨sg_in l p,sg_in l p,_,_,_,_,_,_,_,Zd7 l p,sg_in l p,_,_,_,_,_,_,_,Zd7 l p,?_⟩
 dsimp only
 rw[Zaq (by omega) (by omega)];have c:=Zyi (p.la-p.fi) w.j.cx.s w.j.cx.a w.j.cx.m (by omega);rw[if_pos ⟨e,by omega⟩]at c;refine Cl.of c ⟨_,_,rfl,Zaa (λh=>by simp at h) (λ_=>?_)⟩;have b:=Zrp w l p d (selB w.j p) f (by omega) (by omega) (by omega) (by omega) (by omega);unfold WrD.sv at b;rw[d]at b;refine Cl.of b ⟨_,_,_,_,_,_,_,_,_,_,_,_,_,_,_,_,_,_,rfl,?_⟩;have g:(putW w l p (selB w.j p)).j.sg=l++[{p with sz:=p.sz+(selB w.j p).length}]:=rfl
 dsimp only
 rw[g];refine⟨sg_in l _,_,_,_,_,_,_,_,Zd7 l _,Cl.of (Zc4 _) ⟨_,rfl,Cl.of (Zhc _) ⟨_,_,rfl,?_,sg_in l _,_,_,_,_,_,_,_,Zd7 l _,?_⟩⟩⟩
 ·simp[putW];omega
 ·have e1:=tR_app (putW w l p (selB w.j p)).td (.syn (nmG p.num));have e2:=Zua l {p with sz:=p.sz+(selB w.j p).length} {p with sz:=p.sz+(selB w.j p).length,sl:=true};unfold Stp.row at e1;unfold SgD.row at e2
  dsimp only at e1 e2⊢
  rw[e1,e2];simp only[WrD.sv,sealW,putW,List.append_assoc,List.cons_append,List.nil_append,List.map_nil]
def sgW_snoc(l:List SgD)(p:SgD):rapp (sgR l) [p.row]=sgR (l++[p]):=by simp[rapp]
def wbeg_go(w:WrD)(n:Int)(o:nxtN w=n)(p:ctxOK w.j.st.q w.j.st.t)(hl:w.j.sg.length≤100000)(hf:w.j.dk.fs.length≤100000)(ht:w.td.length≤100000)(hs:0≤w.sz∧w.sz≤100000000){Q:List SV→Prop}(d:Q (match begW w with|none=>[B false,w.sv]|some v=>[B true,v.sv])):
  Cl prog 88 sP [I n] (λ(G:List SV)=>ej2 G λs=>(ifB (bpick (seq s (bA [])) true (igt (wadd IntKind.i64 (rlen (fR w.j.dk.fs)) 1) 64)) (Q ([B false,wr18 (fR w.j.dk.fs) w.j.dk.rm w.j.dk.st w.j.dk.dn w.j.cb w.j.cg (sgR w.j.sg) w.j.cx.s w.j.cx.a (nR w.j.cx.m) (coR w.j.st.cs) w.j.st.q w.j.st.t w.j.sure w.j.kept w.j.shut (tR w.td) w.sz])) (Cl prog 141 (Sig.mk [] [Md.own,Md.pure]) ([I n,cx3 w.j.st.q w.j.st.t []]) (λ(r:List SV)=>ej7 r λl x=>(ifB (ine x 0) (Q ([B false,wr18 (fR w.j.dk.fs) w.j.dk.rm w.j.dk.st w.j.dk.dn w.j.cb w.j.cg (sgR w.j.sg) w.j.cx.s w.j.cx.a (nR w.j.cx.m) (coR w.j.st.cs) w.j.st.q w.j.st.t w.j.sure w.j.kept w.j.shut (tR w.td) w.sz])) (Cl prog 142 sP [S s] (λ(u:List SV)=>ej0 u λf g=>(((lsum (rlen (tR w.td)) (rlen ([[SV.clo f g]])))≤((2147483648:Int)))∧(((lsum (rlen (sgR w.j.sg)) (rlen ([[I n,I w.j.st.q,I w.j.st.q,I w.j.st.t,I w.j.st.t,I ((0:Int)),B false]])))≤((2147483648:Int)))∧(Cl prog 140 sgP ([wr18 (fR w.j.dk.fs) w.j.dk.rm w.j.dk.st w.j.dk.dn w.j.cb w.j.cg (rapp (sgR w.j.sg) ([[I n,I w.j.st.q,I w.j.st.q,I w.j.st.t,I w.j.st.t,I ((0:Int)),B false]])) w.j.cx.s w.j.cx.a (nR w.j.cx.m) (coR w.j.st.cs) w.j.st.q w.j.st.t w.j.sure w.j.kept w.j.shut (rapp (tR w.td) ([[SV.clo f g]])) w.sz,SL 1 l]) (λ(y:List SV)=>ej8 y λH J K b L M N x5 x6 l3 O P R T z U V A=>(Q ([B true,wr18 H J K b L M N w.j.st.q w.j.st.t [] O P R T z U V A]))))))))))))):=by
 have D:rlen (fR w.j.dk.fs)=w.j.dk.fs.length:=(by simp);rw[D,Zac (by omega) (by omega)];have W:∀s:BA,seq s (bA [])=decide (s=ByteArray.mk #[]):=λs=>by rw[seq_eq,Zuo]
 have i:inN n→nmG n≠ByteArray.mk #[]:=λh e=>by
  rw[Zfr h]at e;have:=congrArg (λb:BA=>b.data.toList) e;simp only[Zca]at this
  cases this
 refine Cl.of (Zc4 n) ⟨_,rfl,?_⟩
 dsimp only
 rw[W];refine Zaa (λh=>?_) (λh=>?_)
 ·have:begW w=none:=by
   unfold begW;rw[o,if_pos];by_cases c:inN n
   ·have:=i c
    have h':64<(w.j.dk.fs.length:Int)+1:=by
     unfold nmG at this
     simpa[this]using h
    exact .inr (by omega)
   ·exact .inl c
  rw[this]at d;exact d
 have c:inN n:=Classical.byContradiction λq=>by have:=nmG_no q;unfold nmG at this;rw[this]at h;simp at h
 have E:¬64<w.j.dk.fs.length+1:=(by have:=i c;unfold nmG at this;simp[this]at h;omega);have X:begW w=some ⟨{w.j with sg:=w.j.sg++[⟨n,w.j.st.q,w.j.st.q,w.j.st.t,w.j.st.t,(hedB w.j n).length,false⟩],cx:=⟨w.j.st.q,w.j.st.t,[]⟩},w.td++[.cre (nmG n),.wri (nmG n) (bys (hedB w.j n))],w.sz+(hedB w.j n).length⟩:=(by unfold begW;rw[o,if_neg (λq=>q.elim (λq=>q c) E)]);rw[X]at d;obtain⟨C,Z⟩:=Zsr (j:=w.j) c p;have k:=shead_fn n w.j.st.q w.j.st.t [] (by simp);have Y:headE n w.j.st.q w.j.st.t []=(hedB w.j n,0):=(by unfold headE;rw[if_neg (by have:=c.1;have:=c.2;omega),if_neg (by simp[p])];rfl);rw[Y]at k;refine Cl.of k ⟨_,_,rfl,Zaa (λh=>by simp at h) (λ_=>Cl.of (Zv5 _) ⟨_,_,rfl,?_,?_,?_⟩)⟩
 ·simp;omega
 ·simp;omega
 have e1:=tR_app w.td (.cre (nmG n));have e2:=sgW_snoc w.j.sg ⟨n,w.j.st.q,w.j.st.q,w.j.st.t,w.j.st.t,0,false⟩;unfold Stp.row nmG at e1;unfold SgD.row at e2
 dsimp only at e1 e2⊢
 rw[e1,e2];have F:=Zrp ⟨{w.j with sg:=w.j.sg++[⟨n,w.j.st.q,w.j.st.q,w.j.st.t,w.j.st.t,0,false⟩]},w.td++[.cre (Sgr.segNm n)],w.sz⟩ w.j.sg _ rfl (hedB w.j n) C (by omega) (by simp;omega) (by omega) (by simp) (by dsimp only;omega);refine Cl.of F ⟨_,_,_,_,_,_,_,_,_,_,_,_,_,_,_,_,_,_,rfl,?_⟩;simp only[WrD.sv,putW,List.append_assoc,List.cons_append,List.nil_append,List.map_nil,Int.zero_add]at d⊢;exact d
def wbegin_fn(w:WrD)(k:∀l p,w.j.sg=l++[p]→0≤p.num∧p.num≤99999999)(d:ctxOK w.j.st.q w.j.st.t)(a:w.j.sg.length≤100000)(f:w.j.dk.fs.length≤100000)(g:w.td.length≤100000)(i:0≤w.sz∧w.sz≤100000000):
  Ct prog 75 sgW [w.sv] (λr=>r=match begW w with|none=>[B false,w.sv]|some v=>[B true,v.sv]):=by
 refine wbegin_nf ?_
 rcases Y2 w.j.sg with e|⟨l,p,e⟩
 ·have c:nxtN w=1:=(by unfold nxtN;rw[e];rfl);have h:=wbeg_go w 1 c d a f g i (Q:=λr=>r=match begW w with|none=>[B false,w.sv]|some v=>[B true,v.sv]) rfl;refine Zaa (λh=>by rw[e]at h;simp at h) (λ_=>h)
 ·rw[List.concat_eq_append]at e;have c:nxtN w=p.num+1:=by unfold nxtN;rw[e,Zae]
  have n:=k l p e;have h:=wbeg_go w (p.num+1) c d a f g i (Q:=λr=>r=match begW w with|none=>[B false,w.sv]|some v=>[B true,v.sv]) rfl;have m:l.length≤100000:=(by rw[e]at a;simp at a;omega);rw[←Zac (by omega) (by omega)]at h;refine Zaa (λ_=>?_) (λh=>by rw[e]at h;simp at h<;>omega);have b:inR (wsub IntKind.i64 (rlen (sgR w.j.sg)) 1) (sgR w.j.sg):=(by rw[e,Zfk p (by omega)];exact sg_in l p);exact⟨b,b,_,_,_,_,_,_,_,by rw[e,Zfk p (by omega)];exact Zd7 l p,h⟩
def Zrq{j:JoD}{e:Cod.EvD}(h:encE j.cx.s j.cx.a j.cx.m e=0):Byts (recL' j e)∧(recL' j e).length≤127:=by
 have:=Zhn (Zcv.1 h);exact⟨Zis (by omega) (by omega) Zid,by unfold recL';rw[Zdy];omega⟩
def wrec_fn(w:WrD)(e:Cod.EvD)(l:List SgD)(p:SgD)(D:w.j.sg=l++[p])(hl:l.length≤100000)(ht:w.td.length≤100000)(hp:0≤p.sz∧p.sz≤100000000)(hs:0≤w.sz∧w.sz≤100000000):
  Ct prog 76 sgW [w.sv,e.sv] (λr=>r=match recW w e with|none=>[B false,w.sv]|some v=>[B true,v.sv]):=by
 have u:=Zte w.j.cx.s w.j.cx.a w.j.cx.m e;unfold addR at u
 have C:∀Q:List SV→Prop,Q (match recW w e with|none=>[B false,w.sv]|some v=>[B true,v.sv])→Cl prog 138 sP ([cx3 w.j.cx.s w.j.cx.a (nR w.j.cx.m),ev7 e.s e.a e.k e.c e.x e.y e.z]) (λ(U:List SV)=>ej6 U λl x V W X=>(ifB (ine X 0) (Q ([B false,wr18 (fR w.j.dk.fs) w.j.dk.rm w.j.dk.st w.j.dk.dn w.j.cb w.j.cg (sgR w.j.sg) w.j.cx.s w.j.cx.a (nR w.j.cx.m) (coR w.j.st.cs) w.j.st.q w.j.st.t w.j.sure w.j.kept w.j.shut (tR w.td) w.sz])) (Cl prog 140 sgP ([wr18 (fR w.j.dk.fs) w.j.dk.rm w.j.dk.st w.j.dk.dn w.j.cb w.j.cg (sgR w.j.sg) w.j.cx.s w.j.cx.a (nR w.j.cx.m) (coR w.j.st.cs) w.j.st.q w.j.st.t w.j.sure w.j.kept w.j.shut (tR w.td) w.sz,SL 1 l]) (λ(F:List SV)=>ej8 F λY Z x4 b x5 x6 d x7 x8 l4 l5 x9 G H J b1 l6 K=>((inR (wsub IntKind.i64 (rlen d) 1) d)∧((inR (wsub IntKind.i64 (rlen d) 1) d)∧(ej5 (rget d (wsub IntKind.i64 (rlen d) 1)) λf g a0 i n o E=>((inR (wsub IntKind.i64 (rlen d) 1) (rset d (wsub IntKind.i64 (rlen d) 1) [I f,I g,I e.s,I i,I n,I o,B E]))∧(ej5 (rget (rset d (wsub IntKind.i64 (rlen d) 1) [I f,I g,I e.s,I i,I n,I o,B E]) (wsub IntKind.i64 (rlen d) 1)) λL M N O a1 P b3=>(Q ([B true,wr18 Y Z x4 b x5 x6 (rset (rset d (wsub IntKind.i64 (rlen d) 1) [I f,I g,I e.s,I i,I n,I o,B E]) (wsub IntKind.i64 (rlen d) 1) [I L,I M,I N,I O,I e.a,I P,B b3]) x V W l5 x9 G H J b1 l6 K]))))))))))):=by
  intro Q A;by_cases hE:encE w.j.cx.s w.j.cx.a w.j.cx.m e=0
  rotate_left
  ·rw[if_neg hE]at u;have:recW w e=none:=by unfold recW;rw[D,Zae];simp[hE]
   rw[this]at A;exact Cl.of u ⟨_,_,_,_,_,rfl,Zaa (λ_=>A) (λh=>by simp at h;exact absurd h hE)⟩
  rw[if_pos hE]at u;obtain⟨R,a2⟩:=Zrq hE;have hr:recW w e=some ⟨{w.j with sg:=l++[{p with sz:=p.sz+(recL' w.j e).length,la:=e.s,ti:=e.a}],cx:=⟨e.s,e.a,bhdN w.j.cx.m e.c⟩},w.td++[.wri (nmG p.num) (bys (recL' w.j e))],w.sz+(recL' w.j e).length⟩:=(by unfold recW;rw[D,Zae];simp[hE]);rw[hr]at A;refine Cl.of u ⟨_,_,_,_,_,rfl,Zaa (λh=>by simp at h) (λ_=>Cl.of (Zrp w l p D (recL' w.j e) R (by omega) (by omega) (by omega) (by omega) (by omega)) ⟨_,_,_,_,_,_,_,_,_,_,_,_,_,_,_,_,_,_,rfl,?_⟩)⟩;have T:(putW w l p (recL' w.j e)).j.sg=l++[{p with sz:=p.sz+(recL' w.j e).length}]:=rfl
  dsimp only
  rw[T,Zfk _ (by omega)];refine⟨sg_in l _,sg_in l _,_,_,_,_,_,_,_,Zd7 l _,?_⟩;have e1:=Zua l {p with sz:=p.sz+(recL' w.j e).length} {p with sz:=p.sz+(recL' w.j e).length,la:=e.s};unfold SgD.row at e1
  dsimp only at e1⊢
  rw[e1];refine⟨sg_in l _,_,_,_,_,_,_,_,Zd7 l _,?_⟩;have e2:=Zua l {p with sz:=p.sz+(recL' w.j e).length,la:=e.s} {p with sz:=p.sz+(recL' w.j e).length,la:=e.s,ti:=e.a};unfold SgD.row at e2
  dsimp only at e2⊢
  rw[e2];exact A
 exact wrec_nf ⟨C (λr=>r=match recW w e with|none=>[B false,w.sv]|some v=>[B true,v.sv]) rfl,C (λr=>r=match recW w e with|none=>[B false,w.sv]|some v=>[B true,v.sv]) rfl⟩
def jover_fn(j:JoD)(e:Cod.EvD)(d:j.sg.length≤100000)(k:∀p∈j.sg,0≤p.sz∧p.sz≤1000000000∧0≤p.fr∧p.fr≤1099511627776)(u:0≤e.a∧e.a≤9223372036854775807):Ct prog 71 {} [j.sv,e.sv] (λr=>r=[B (ovrB j e)]):=by
 refine jover_nf ?_
 rcases Y2 j.sg with h|⟨l,p,h⟩
 ·have:ovrB j e=false:=(by unfold ovrB;rw[h];rfl);refine Zaa (λ_=>by rw[this]) (λg=>by rw[h]at g;simp at g)
 rw[List.concat_eq_append]at h;have t:l.length≤100000:=by rw[h]at d;simp at d;omega
 have v:=k p (by rw[h];simp);have f:inR (wsub IntKind.i64 (rlen (sgR j.sg)) 1) (sgR j.sg):=(by rw[h,Zfk p (by omega)];exact sg_in l p);have b:ovrB j e=if p.sl=true∨p.la≤p.fi then false else if encE j.cx.s j.cx.a j.cx.m e≠0∨j.cb<p.sz+(recL' j e).length then true else decide (j.cg<e.a-p.fr):=(by unfold ovrB;rw[h,Zae]);have c:=Zte j.cx.s j.cx.a j.cx.m e
 unfold addR at c;refine Zaa (λg=>by rw[h]at g;simp at g<;>omega) (λ_=>⟨f,_,_,_,_,_,_,_,by rw[h,Zfk p (by omega)];exact Zd7 l p,Zaa (λg=>?_) (λg=>?_)⟩)
 ·have g:p.sl=true∨p.la≤p.fi:=by cases hs:p.sl<;>simp[hs]at g⊢;exact g
  rw[b,if_pos g]
 have g:¬(p.sl=true∨p.la≤p.fi):=by cases hs:p.sl<;>simp[hs]at g⊢;exact g
 rw[if_neg g]at b;by_cases hE:encE j.cx.s j.cx.a j.cx.m e=0
 rotate_left
 ·rw[if_neg hE]at c;rw[if_pos (.inl hE)]at b;exact Cl.of c ⟨_,_,_,_,_,rfl,Zaa (λ_=>by rw[b]) (λq=>by simp[hE]at q)⟩
 rw[if_pos hE]at c;obtain⟨n,o⟩:=Zrq hE;have i:rlen (bR (fr 2 (encL j.cx.s j.cx.a j.cx.m e)))=(recL' j e).length:=(by simp[recL']);refine Cl.of c ⟨_,_,_,_,_,rfl,?_⟩
 dsimp only
 rw[i,Zac (by omega) (by omega),Zaq (by omega) (by omega)];refine Zaa (λq=>?_) (λq=>?_)
 ·have q:j.cb<p.sz+(recL' j e).length:=(by simpa using q);rw[b,if_pos (.inr q)]
 ·have q:¬j.cb<p.sz+(recL' j e).length:=(by simpa using q);rw[b,if_neg (λz=>z.elim (λz=>z hE) q)];rfl
structure WB(w:WrD)(j:JoD)(n:Nat):Prop where
 dk:w.j.dk=j.dk
 st:w.j.st=j.st
 len:w.j.sg.length≤n
 td:w.td.length≤n
 sz:0≤w.sz∧w.sz≤n
 ps:∀p∈w.j.sg,(0≤p.sz∧p.sz≤65536+n)∧(1≤p.num∧p.num≤99999999)
 ok:∀s∈w.td,s.ok
def wri_ok{s:BA}{b:List Int}(h:b.length≤1000):(Stp.wri s (bys b)).ok:=by
 show(bys b).length≤_;unfold bys;rw[List.length_map];omega
def selB_len{j:JoD}(h:Fct j){p:SgD}(b:p∈j.sg):(selB j p).length≤40:=by
 have c:=(Zbd.1 h.cx).1;have d:=h.ps p b;have:=slP_le (n:=p.la-p.fi) (s:=j.cx.s) (a:=j.cx.a) (by omega) (by omega) (by omega);unfold selB;rw[Zdy];omega
def w0_B{j:JoD}(h:Fct j):WB (w0 j) j 64:=
 ⟨rfl,rfl,h.len,by simp[w0],by simp[w0],λp a=>by have:=h.ps p a;exact⟨by omega,this.2.1⟩,λs b=>by simp[w0]at b⟩
def seal_B{j:JoD}(h:Fct j){l:List SgD}{p:SgD}(a:j.sg=l++[p]):WB (sealW (w0 j) l p) j 110:=by
 have d:=selB_len h (p:=p) (by rw[a];simp);have c:=h.len;rw[a]at c;simp at c;have e:=h.ps p (by rw[a];simp);refine⟨rfl,rfl,by simp[sealW];omega,by simp[sealW,w0],?_,?_,?_⟩
 ·have:(sealW (w0 j) l p).sz=0+((selB j p).length:Int):=rfl;omega
 ·intro q b;have b:q∈l++[{p with sz:=p.sz+(selB j p).length,sl:=true}]:=b
  rcases List.mem_append.1 b with b|b
  ·have:=h.ps q (by rw[a];simp[b]);exact⟨by omega,this.2.1⟩
  ·have:q={p with sz:=p.sz+(selB j p).length,sl:=true}:=(by simpa using b);subst this
   dsimp only;omega
 ·intro s a;have a:s∈([]:List Stp)++[.wri (nmG p.num) (bys (selB j p)),.syn (nmG p.num)]:=a;simp at a
  rcases a with rfl|rfl
  ·exact wri_ok (by omega)
  ·trivial
def w1_B{j:JoD}(h:Fct j)(e:Cod.EvD):WB (w1 j e) j 110:=by
 have a:WB (w0 j) j 110:=(by have:=w0_B h;exact⟨this.dk,this.st,by have:=this.len;omega,by have:=this.td;omega,by have:=this.sz;omega,λp b=>by have:=this.ps p b;omega,this.ok⟩);unfold w1
 rcases Y2 j.sg with hs|⟨l,p,hs⟩
 ·rw[hs];exact a
 ·rw[List.concat_eq_append]at hs;rw[hs,Zae]
  dsimp only
  split
  ·exact seal_B h hs
  ·exact a
def w2_B{j:JoD}(h:Fct j)(e:Cod.EvD){w:WrD}(c:w2 j e=some w):WB w j 170∧∃l p,w.j.sg=l++[p]:=by
 have a:=w1_B h e;unfold w2 at c
 split at c
 next g=>
  cases c
  refine⟨⟨a.dk,a.st,by have:=a.len;omega,by have:=a.td;omega,by have:=a.sz;omega,λp i=>by have:=a.ps p i;omega,a.ok⟩,?_⟩
  rcases Y2 (w1 j e).j.sg with b|⟨l,p,b⟩
  ·unfold opnW at g;rw[b]at g;cases g
  ·exact⟨l,p,by rw[b,List.concat_eq_append]⟩
 ·unfold begW at c
  split at c
  ·cases c
  rename_i k
  cases c
  have f:inN (nxtN (w1 j e)):=Classical.byContradiction λq=>k (.inl q);have n:=(Zsr (j:=(w1 j e).j) f (by rw[a.st];exact st_ctx h.st)).2;have m:=a.sz;refine⟨⟨a.dk,a.st,by have:=a.len;simp;omega,by have:=a.td;simp;omega,by dsimp only;omega,?_,?_⟩,_,_,rfl⟩
  ·intro q d
   rcases List.mem_append.1 d with d|d
   ·have:=a.ps q d;omega
   ·have:q=_:=List.mem_singleton.1 d;subst this;exact⟨by dsimp only;omega,f⟩
  ·intro s b
   rcases List.mem_append.1 b with b|b
   ·exact a.ok s b
   ·simp at b
    rcases b with rfl|rfl
    ·trivial
    ·exact wri_ok (by omega)
def rec_B{w v:WrD}{j:JoD}(h:WB w j 170){e:Cod.EvD}(b:recW w e=some v):WB v j 300:=by
 rcases Y2 w.j.sg with a|⟨l,p,a⟩
 ·unfold recW at b;rw[a]at b;cases b
 rw[List.concat_eq_append]at a;unfold recW at b;rw[a,Zae]at b
 dsimp only at b
 split at b
 ·cases b
 rename_i f
 cases b
 have i:=(Zrq (j:=w.j) (e:=e) (by simpa using f)).2;have d:=h.len;rw[a]at d;simp at d;have k:=h.ps p (by rw[a];simp);have g:=h.sz;refine⟨h.dk,h.st,by simp;omega,by have:=h.td;simp;omega,by dsimp only;omega,?_,?_⟩
 ·intro q c
  rcases List.mem_append.1 c with c|c
  ·have:=h.ps q (by rw[a];simp[c]);omega
  ·have:q=_:=List.mem_singleton.1 c;subst this
   dsimp only;omega
 ·intro s a
  rcases List.mem_append.1 a with a|a
  ·exact h.ok s a
  ·simp at a;subst a;exact wri_ok (by omega)
def Zux(l:List SgD)(h:l.length≤1000000):Ct prog 70 ⟨[],[.own]⟩ [SL 7 (sgR l)] (λr=>r=[SL 7 (sgR l)]):=by
 refine segcl_nf (λb a=>Zaa (λe=>?_) (λe=>⟨?_,?_⟩))
 ·have:=a e;have:l=[]:=(by simpa using this);rw[this];rfl
 ·simp;omega
 ·simp[rapp]
def Zoh(j:JoD):Ct prog 73 {} [j.sv] (λr=>r=[(shtJ j).1.sv,I 13]):=jshut_nf rfl
def Zlg(j:JoD)(T:j.ok)(e:Cod.EvD)(he: -9223372036854775808≤e.a∧e.a≤9223372036854775807):Ct prog 20 {} [j.sv,e.sv] (λr=>r=[(appP j e).1.sv,I (appP j e).2]):=by
 refine Zw9 (Cl.of (Zqz j T) ⟨_,rfl,Zaa (λg=>?_) (λg=>?_)⟩)
 ·have g:mayJ j≠0:=(by simpa using g);unfold appP;rw[if_pos g];rfl
 have g:mayJ j=0:=(by simpa using g);have hR:=Zcd.1 g;have f:=hR.fct;have hst:=f.st.1;have eP:appP j e=appQ j e:=(by unfold appP;rw[if_neg (by simp[g])]);rw[eP];have hw:wadd IntKind.i64 j.st.q 1=j.st.q+1:=Zac (by omega) (by omega);rw[hw];refine Cl.of (Zkz j.st (by omega) (toE (evN j e))) ⟨_,_,_,_,rfl,Zaa (λg=>?_) (λg=>Zaa (λz=>?_) (λz=>?_))⟩
 ·have g:(appS j.st (toE (evN j e))).2≠0:=(by simpa using g);unfold appQ;rw[if_pos g];rfl
 ·have g:¬(appS j.st (toE (evN j e))).2≠0:=(by simpa using g);unfold appQ;rw[if_neg g,if_pos z];rfl
 have g:(appS j.st (toE (evN j e))).2=0:=by simpa using g
 have eQ:appQ j e=match w3 j (evN j e)with|none=>shtJ j|some w=>endJ j (appS j.st (toE (evN j e))).1 w:=by unfold appQ;rw[if_neg (by simp[g]),if_neg (by simp[z])];rfl
 have a0:0≤e.a:=(by have:=(appS_may g).tm;have h2:j.st.t≤(toE (evN j e)).a:=this;have:(toE (evN j e)).a=e.a:=rfl;omega);have R:w3 j (evN j e)=none→Cl prog 73 sP [j.sv] (λrs=>ej19 rs λG i k b3 m n H o s J u x y A C K D=>[jr16 G i k b3 m n H o s J u x y A C K,I D]=[(appQ j e).1.sv,I (appQ j e).2]):=λq=>by rw[eQ,q];exact Cl.of (Zoh j) ⟨_,_,_,_,_,_,_,_,_,_,_,_,_,_,_,_,_,rfl,rfl⟩
 have h:=w1_B f (evN j e);refine Cl.of (Zux j.sg T.sg) ⟨_,rfl,?_⟩;refine⟨λb Z x4 x5 b1 x6 x7 l3 x8 x9 l4 l5 L M N O b2 l6 P=>b=false∧wr18 Z x4 x5 b1 x6 x7 l3 x8 x9 l4 l5 L M N O b2 l6 P=(w1 j (evN j e)).sv,λ_ _ _ _ _ _ _ _ _ _ _ _ _ _ _ _ _ _ _=>0,?_,?_⟩
 ·refine Cl.of (jover_fn j (evN j e) (by have:=f.len;omega) (λp U=>by have:=f.ps p U;omega) ⟨a0,he.2⟩) ⟨_,rfl,Zaa (λq=>?_) (λq=>⟨rfl,rfl,?_⟩)⟩
  ·rcases Y2 j.sg with c|⟨l,p,c⟩
   ·unfold ovrB at q;rw[c]at q;cases q
   rw[List.concat_eq_append]at c;have U:=f.ps p (by rw[c];simp);have F:=f.len;rw[c]at F;simp at F;have:w1 j (evN j e)=sealW (w0 j) l p:=by unfold w1;rw[c,Zae];simp[q]
   rw[this];exact Cl.of (Zub (w0 j) l p c f.cx (by omega) (by omega) (by omega) (by omega) (by simp[w0]) (by omega) (by simp[w0])) ⟨_,_,_,_,_,_,_,_,_,_,_,_,_,_,_,_,_,_,_,rfl,rfl,rfl,rfl⟩
  ·have:w1 j (evN j e)=w0 j:=by
    unfold w1
    rcases Y2 j.sg with c|⟨l,p,c⟩
    ·rw[c];rfl
    ·rw[c,List.concat_eq_append,Zae];simp[q]
   rw[this];rfl
 rintro b Z x4 x5 b1 x6 x7 l3 x8 x9 l4 l5 L M N O b2 l6 P ⟨rfl,hv⟩;rw[hv];refine Zaa (λq=>by cases q) (λ_=>?_);refine⟨λb3 G i k K m n H o s J u x y A C b5 Q D=>match w2 j (evN j e)with|none=>b3=true|some v=>b3=false∧wr18 G i k K m n H o s J u x y A C b5 Q D=v.sv,λ_ _ _ _ _ _ _ _ _ _ _ _ _ _ _ _ _ _ _=>0,?_,?_⟩
 ·refine Cl.of (wopen_fn (w1 j (evN j e)) (by have:=h.len;omega)) ⟨_,_,_,_,_,_,_,_,_,_,_,_,_,_,_,_,_,_,_,rfl,Zaa (λq=>?_) (λq=>⟨rfl,?_⟩)⟩
  ·have q:opnW (w1 j (evN j e))=false:=(by simpa using q);have e2:w2 j (evN j e)=begW (w1 j (evN j e)):=(by unfold w2;rw[if_neg (by simp[q])]);have hb:=wbegin_fn (w1 j (evN j e)) (λl p c=>by have:=h.ps p (by rw[c];simp);omega) (by rw[h.st];exact st_ctx f.st) (by have:=h.len;omega) (by rw[h.dk];have:=f.fs;omega) (by have:=h.td;omega) (by have:=h.sz;omega);refine Cl.ofQ hb ?_;rintro r rfl;rw[e2]
   cases begW (w1 j (evN j e))with
   |none=>exact⟨_,_,_,_,_,_,_,_,_,_,_,_,_,_,_,_,_,_,_,rfl,rfl,rfl⟩
   |some v=>exact⟨_,_,_,_,_,_,_,_,_,_,_,_,_,_,_,_,_,_,_,rfl,rfl,rfl,rfl⟩
  ·have q:opnW (w1 j (evN j e))=true:=(by simpa using q);have e2:w2 j (evN j e)=some (w1 j (evN j e)):=(by unfold w2;rw[if_pos q]);rw[e2];exact⟨rfl,rfl⟩
 rintro b3 G i k K m n H o s J u x y A C b5 Q D d
 cases hw2:w2 j (evN j e)with
 |none=>rw[hw2]at d;have d:b3=true:=d;subst d;exact Zaa (λ_=>R (by unfold w3;rw[hw2])) (λq=>by cases q)
 |some w=>
  rw[hw2]at d;obtain⟨rfl,d⟩:=d;rw[d];obtain⟨E,l,p,c⟩:=w2_B f _ hw2;have e3:w3 j (evN j e)=recW w (evN j e):=by unfold w3;rw[hw2]
  have F:=E.len;rw[c]at F;simp at F;have U:=E.ps p (by rw[c];simp);refine Zaa (λq=>by cases q) (λ_=>?_);have V:=wrec_fn w (evN j e) l p c (by omega) (by have:=E.td;omega) (by omega) (by have:=E.sz;omega);refine Cl.ofQ V ?_;rintro r rfl
  cases hr:recW w (evN j e)with
  |none=>refine⟨_,_,_,_,_,_,_,_,_,_,_,_,_,_,_,_,_,_,_,rfl,Zaa (λ_=>R (by rw[e3,hr])) (λq=>by simp at q)⟩
  |some v=>
   have W:=rec_B E hr;have X:=T.dk;have hu:=X.1;have Y:appQ j e=endJ j (appS j.st (toE (evN j e))).1 v:=(by rw[eQ,e3,hr]);have a1:=W.sz;refine⟨_,_,_,_,_,_,_,_,_,_,_,_,_,_,_,_,_,_,_,rfl,Zaa (λq=>by simp at q) (λ_=>Cl.of (Zj3 j.dk X) ⟨_,rfl,?_⟩)⟩
   dsimp only
   rw[Zac (by omega) (by omega)];refine Zaa (λq=>?_) (λq=>?_)
   ·have q:j.dk.rm<usedL j.dk.fs+v.sz:=(by simpa using q);have:endJ j (appS j.st (toE (evN j e))).1 v=shtJ j:=(by unfold endJ;rw[if_pos q]);rw[Y,this];exact Cl.of (Zoh j) ⟨_,_,_,_,_,_,_,_,_,_,_,_,_,_,_,_,_,rfl,rfl⟩
   ·have q:¬j.dk.rm<usedL j.dk.fs+v.sz:=(by simpa using q);refine Cl.of (Znv j.dk X v.td W.ok (by have:=W.td;omega)) ⟨_,_,_,_,_,rfl,Zaa (λz=>?_) (λz=>?_)⟩
    ·have z:(runP j.dk v.td).2≠0:=(by simpa using z);have:endJ j (appS j.st (toE (evN j e))).1 v=({j with dk:=(runP j.dk v.td).1},(runP j.dk v.td).2):=(by unfold endJ;rw[if_neg q,if_pos z]);rw[Y,this];rfl
    ·have z:¬(runP j.dk v.td).2≠0:=(by simpa using z);have:endJ j (appS j.st (toE (evN j e))).1 v=({v.j with dk:=(runP j.dk v.td).1,st:=(appS j.st (toE (evN j e))).1},0):=(by unfold endJ;rw[if_neg q,if_neg z]);rw[Y,this];rfl
def jsyn_fn(j:JoD)(k:j.ok):Ct prog 22 {} [j.sv] (λr=>r=[(synJ j).1.sv,I (synJ j).2]):=by
 refine jsyn_nf (Cl.of (Zqz j k) ⟨_,rfl,Zaa (λg=>?_) (λg=>?_)⟩)
 ·have g:mayJ j≠0:=(by simpa using g);unfold synJ;rw[if_pos g];rfl
 have g:mayJ j=0:=(by simpa using g);have n:=(Zcd.1 g).fct;have o:synJ j=synQ j:=(by unfold synJ;rw[if_neg (by simp[g])]);rw[o]
 rcases Y2 j.sg with e|⟨l,p,e⟩
 ·have:synQ j=({j with sure:=j.st.q},0):=(by unfold synQ;rw[e];rfl);rw[this];exact Zaa (λq=>by rw[e]at q;simp at q) (λ_=>rfl)
 rw[List.concat_eq_append]at e;have m:=n.len;rw[e]at m;simp at m;have f:synQ j=if p.sl=true then({j with sure:=j.st.q},0)else if(Za3 j.dk (nmG p.num)).2≠0 then({j with dk:=(Za3 j.dk (nmG p.num)).1},(Za3 j.dk (nmG p.num)).2)else({j with dk:=(Za3 j.dk (nmG p.num)).1,sure:=j.st.q},0):=by unfold synQ;rw[e,Zae]
 have h:inR (wsub IntKind.i64 (rlen (sgR j.sg)) 1) (sgR j.sg):=(by rw[e,Zfk p (by omega)];exact sg_in l p);have i:rget (sgR j.sg) (wsub IntKind.i64 (rlen (sgR j.sg)) 1)=p.row:=(by rw[e,Zfk p (by omega)];exact Zd7 l p);refine Zaa (λ_=>⟨h,_,_,_,_,_,_,_,i,Zaa (λq=>?_) (λq=>?_)⟩) (λq=>by rw[e]at q;simp at q<;>omega)
 ·have q:p.sl=false:=(by simpa using q);rw[if_neg (by simp[q])]at f;have d:=Znv j.dk k.dk [.syn (nmG p.num)] (λs e=>by simp at e;subst e;trivial) (by simp);rw[run1]at d;refine⟨λx l a b c=>x=(Za3 j.dk (nmG p.num)).2∧dk4 l a b c=(Za3 j.dk (nmG p.num)).1.sv,λ_ _ _ _ _=>0,⟨h,_,_,_,_,_,_,_,i,?_⟩,?_⟩
  ·exact⟨Cl.of (Zc4 _) ⟨_,rfl,⟨Cl.of (Zhc _) ⟨_,_,rfl,⟨⟨Cl.of d ⟨_,_,_,_,_,rfl,rfl,rfl,rfl⟩,Cl.of d ⟨_,_,_,_,_,rfl,rfl,rfl,rfl⟩⟩,Cl.of d ⟨_,_,_,_,_,rfl,rfl,rfl,rfl⟩⟩⟩,Cl.of (Zhc _) ⟨_,_,rfl,Cl.of d ⟨_,_,_,_,_,rfl,rfl,rfl,rfl⟩⟩⟩⟩,Cl.of (Zc4 _) ⟨_,rfl,Cl.of (Zhc _) ⟨_,_,rfl,Cl.of d ⟨_,_,_,_,_,rfl,rfl,rfl,rfl⟩⟩⟩⟩
  ·rintro x l a b c ⟨rfl,hd⟩;simp only[SV.agg.injEq,List.cons.injEq,SV.val.injEq,Value.int.injEq,Value.bool.injEq,SV.slice.injEq,true_and,and_true]at hd;obtain⟨rfl,rfl,rfl,rfl⟩:=hd;refine Zaa (λz=>?_) (λz=>?_)
   ·have z:(Za3 j.dk (nmG p.num)).2≠0:=(by simpa using z);rw[f,if_pos z];rfl
   ·have z:¬(Za3 j.dk (nmG p.num)).2≠0:=(by simpa using z);rw[f,if_neg z];rfl
 ·have q:p.sl=true:=(by simpa using q);rw[f,if_pos q];rfl
def jrot_fn(j:JoD)(e:j.ok):Ct prog 24 {} [j.sv] (λr=>r=[(rotJ j).1.sv,I (rotJ j).2]):=by
 refine jrot_nf (Cl.of (Zqz j e) ⟨_,rfl,Zaa (λg=>?_) (λg=>?_)⟩)
 ·have g:mayJ j≠0:=(by simpa using g);unfold rotJ;rw[if_pos g];rfl
 have g:mayJ j=0:=(by simpa using g);have d:=(Zcd.1 g).fct;have m:rotJ j=rotQ j:=(by unfold rotJ;rw[if_neg (by simp[g])]);rw[m]
 rcases Y2 j.sg with hs|⟨l,p,hs⟩
 ·have:rotQ j=(j,14):=(by unfold rotQ;rw[hs];rfl);rw[this];exact Zaa (λ_=>rfl) (λq=>by rw[hs]at q;simp at q)
 rw[List.concat_eq_append]at hs;have i:=d.len;rw[hs]at i;simp at i;have s:=d.ps p (by rw[hs];simp);have a:rotQ j=if p.sl=true∨p.la≤p.fi then(j,14)else endJ j j.st (sealW (w0 j) l p):=by unfold rotQ;rw[hs,Zae]
 have b:inR (wsub IntKind.i64 (rlen (sgR j.sg)) 1) (sgR j.sg):=(by rw[hs,Zfk p (by omega)];exact sg_in l p);have c:rget (sgR j.sg) (wsub IntKind.i64 (rlen (sgR j.sg)) 1)=p.row:=(by rw[hs,Zfk p (by omega)];exact Zd7 l p);refine Zaa (λq=>by rw[hs]at q;simp at q<;>omega) (λ_=>⟨b,_,_,_,_,_,_,_,c,Zaa (λq=>?_) (λq=>⟨b,_,_,_,_,_,_,_,c,b,_,_,_,_,_,_,_,c,Zaa (λz=>?_) (λz=>?_)⟩)⟩)
 ·rw[a,if_pos (.inl q)];rfl
 ·rw[a,if_pos (.inr (by simpa using z))];rfl
 have hno:¬(p.sl=true∨p.la≤p.fi):=(by simp at z;simp[q];omega);rw[if_neg hno]at a;have f:=seal_B d hs;have h:=e.dk;have t:=h.1;have o:=f.sz;refine Cl.of (Zux j.sg e.sg) ⟨_,rfl,Cl.of (Zub (w0 j) l p hs d.cx (by omega) (by omega) (by omega) (by omega) (by simp[w0]) (by omega) (by simp[w0])) ⟨_,_,_,_,_,_,_,_,_,_,_,_,_,_,_,_,_,_,_,rfl,Zaa (λk=>by simp at k) (λ_=>Cl.of (Zj3 j.dk h) ⟨_,rfl,?_⟩)⟩⟩
 dsimp only
 rw[Zac (by omega) (by omega)];refine Zaa (λk=>?_) (λk=>?_)
 ·have k:j.dk.rm<usedL j.dk.fs+(sealW (w0 j) l p).sz:=(by simpa using k);have:endJ j j.st (sealW (w0 j) l p)=shtJ j:=(by unfold endJ;rw[if_pos k]);rw[a,this];exact Cl.of (Zoh j) ⟨_,_,_,_,_,_,_,_,_,_,_,_,_,_,_,_,_,rfl,rfl⟩
 ·have k:¬j.dk.rm<usedL j.dk.fs+(sealW (w0 j) l p).sz:=(by simpa using k);refine Cl.of (Znv j.dk h (sealW (w0 j) l p).td f.ok (by have:=f.td;omega)) ⟨_,_,_,_,_,rfl,Zaa (λn=>?_) (λn=>?_)⟩
  ·have n:(runP j.dk (sealW (w0 j) l p).td).2≠0:=(by simpa using n);have:endJ j j.st (sealW (w0 j) l p)=({j with dk:=(runP j.dk (sealW (w0 j) l p).td).1},(runP j.dk (sealW (w0 j) l p).td).2):=(by unfold endJ;rw[if_neg k,if_pos n]);rw[a,this];rfl
  ·have n:¬(runP j.dk (sealW (w0 j) l p).td).2≠0:=(by simpa using n);have:endJ j j.st (sealW (w0 j) l p)=({(sealW (w0 j) l p).j with dk:=(runP j.dk (sealW (w0 j) l p).td).1,st:=j.st},0):=(by unfold endJ;rw[if_neg k,if_neg n]);rw[a,this];rfl
end Jou
namespace Jou
open Go Go.Px Go.Proofs Cod Tryz
abbrev en0(r:List SV)(K:LL→Int→Int→Bool→Int→Int→LL→Int→Int→LL→LL→Int→Int→Int→Int→Bool→Int→Prop):Prop:=∃h:LL,∃i:Int,∃j:Int,∃k:Bool,∃l:Int,∃m:Int,∃n:LL,∃o:Int,∃p:Int,∃q:LL,∃a:LL,∃b:Int,∃c:Int,∃d:Int,∃e:Int,∃f:Bool,∃g:Int,(r=[jr16 h i j k l m n o p q a b c d e f,I g])∧K h i j k l m n o p q a b c d e f g
abbrev en1(r:List SV)(K:LL→Prop):Prop:=∃a:LL,(r=[SL 7 a])∧K a
abbrev en2(r:List SV)(K:Int→Int→Int→BA→Int→Int→Int→Prop):Prop:=∃a:Int,∃b:Int,∃c:Int,∃d:BA,∃e:Int,∃f:Int,∃g:Int,(r=[I a,I b,I c,S d,I e,I f,I g])∧K a b c d e f g
abbrev en3(r:List SV)(K:Int→Int→Int→Int→Int→Int→Bool→Prop):Prop:=∃a:Int,∃b:Int,∃c:Int,∃d:Int,∃e:Int,∃f:Int,∃g:Bool,(r=[I a,I b,I c,I d,I e,I f,B g])∧K a b c d e f g
abbrev en4(r:List SV)(K:Bool→Prop):Prop:=∃a:Bool,(r=[B a])∧K a
abbrev en5(r:List SV)(K:BA→Prop):Prop:=∃a:BA,(r=[S a])∧K a
abbrev en6(r:List SV)(K:LL→Int→Int→Bool→Int→Prop):Prop:=∃a:LL,∃b:Int,∃c:Int,∃d:Bool,∃e:Int,(r=[dk4 a b c d,I e])∧K a b c d e
def Zyp{Q:QQ}(h:Cl prog 13 sP ([dk4 [] 900 ((-1:Int)) false,SV.agg [I 64,I 99]]) (λrs=>en0 rs λl x x1 b x2 x3 l1 x4 x5 l2 l3 x6 x7 x8 x9 b1 w=>(Cl prog 20 sP ([jr16 l x x1 b x2 x3 l1 x4 x5 l2 l3 x6 x7 x8 x9 b1,ev7 0 3 1 (bA [98]) 1 0 0]) (λy=>en0 y λl4 z A b2 C D l5 E F l6 l7 G H J K b3 L=>(Cl prog 22 sP ([jr16 l4 z A b2 C D l5 E F l6 l7 G H J K b3]) (λM=>en0 M λl8 N O b4 P R l9 T U V W X Y Z a0 b5 a1=>(Cl prog 20 sP ([jr16 l8 N O b4 P R l9 T U V W X Y Z a0 b5,ev7 0 4 3 (bA [98]) 1 9 0]) (λa2=>en0 a2 λa3 a4 a5 b6 a6 a7 a8 a9 aa ab ac ad ae af ag b7 ah=>(Cl prog 20 sP ([jr16 a3 a4 a5 b6 a6 a7 a8 a9 aa ab ac ad ae af ag b7,ev7 0 4 3 (bA [98]) 1 900000 0]) (λai=>en0 ai λaj ak al b8 am an ao ap aq ar au av aw ax ay b9 az=>(Cl prog 20 sP ([jr16 aj ak al b8 am an ao ap aq ar au av aw ax ay b9,ev7 0 4 3 (bA [98]) 1 9 0]) (λb0=>en0 b0 λg i j k m n a o p q r c t d u v ba=>(Cl prog 15 sP ([jr16 g i j k m n a o p q r c t d u v]) (λbb=>en1 bb λe=>(ifB (bpick (bpick (bpick (bpick (bpick (bpick (ieq w 0) (ieq L 0) false) (ieq a1 0) false) (ieq ah 0) false) (ieq az 0) false) (ieq ba 0) false) (ieq (rlen e) 4) false) ((inR 3 e)∧en2 (rget e 3) λbc bg bh s bi bj bk=>(ifB (bpick (ieq bc 4) (igt (rlen a) 1) false) ((inR 0 a)∧en3 (rget a 0) λbl bm bn bo bp bq bd=>(ifB (bpick (bpick bd (ige d 1) false) (ieq c 4) false) (Cl prog 17 sP ([jr16 g i j k m n a o p q r c t d u v]) (λbe=>en4 be λbf=>(Q [B bf]))) (Q [B false]))) (Q [B false]))) (Q [B false])))))))))))))))):Ct prog 10 {} [] Q:=
 fN SgT SvT func10 h
end Jou
namespace Jou
open Go Go.Px Go.Proofs Cod Seg Sgr Snp Sx Row Tryz
def ok_of{j:JoD}(h:RightJ j)(hst:j.dk.st≤9223372036854775807):j.ok:=by
 have F:=h.fct;have L:=lim_P F.st;have b:j.cx.m.length≤32:=(Zc7.1 (Zbd.1 F.cx).2).1;have d:=h.dk.2.1;have e:=h.dk.1.2.2.1;have f:=F.fs;have g:=F.len;exact⟨⟨by omega,by omega,hst⟩,by omega,by omega,by have:=L.1;omega,λc a=>by have:=L.2 c a;omega⟩
def Zug{j:JoD}(a:RightJ j)(e:Cod.EvD):appP j e=appQ j e:=by unfold appP;rw[if_neg (by rw[Zcd.2 a];simp)]
def synJ_q{j:JoD}(a:RightJ j):synJ j=synQ j:=by unfold synJ;rw[if_neg (by rw[Zcd.2 a];simp)]
abbrev wD:DiD:=⟨[],900,-1,false⟩
abbrev wA0:JoD:=⟨wD,64,99,[],⟨0,0,[]⟩,st0,0,0,false⟩
abbrev wE(a k y:Int):Cod.EvD:=⟨0,a,k,⟨#[98]⟩,1,y,0⟩
def wA1:=(appQ wA0 (wE 3 1 0)).1
def wA2:=(synQ wA1).1
def wA3:=(appQ wA2 (wE 4 3 9)).1
def wA4:=(appQ wA3 (wE 4 3 900000)).1
def wA5:=(appQ wA4 (wE 4 3 9)).1
def w_ok:((appQ wA0 (wE 3 1 0)).2=0∧(synQ wA1).2=0∧(appQ wA2 (wE 4 3 9)).2=0)∧((appQ wA3 (wE 4 3 900000)).2=0∧(appQ wA4 (wE 4 3 9)).2=0)∧((wA1.dk.st= -1∧wA2.dk.st= -1∧wA3.dk.st= -1∧wA4.dk.st= -1∧wA5.dk.st= -1)∧wA5.st.q=4∧1≤wA5.sure∧1<wA5.sg.length∧(wA5.sg.head?.map (·.sl))=some true)∧(evN wA4 (wE 4 3 9)).k=3∧((evN wA0 (wE 3 1 0)).s=1∧(evN wA2 (wE 4 3 9)).s=2∧(evN wA3 (wE 4 3 900000)).s=3∧(evN wA4 (wE 4 3 9)).s=4):=by decide+kernel
def dk_nil:DkR [] []:=⟨by simp[Go.Px.srt],rfl,by simp[inRow],by simp⟩
def new_nil:newF []=none:=Zo3 (by simp[Go.Px.srt]) (λf a=>by obtain⟨_,h,_⟩:=a;cases h)
def w_open:openP wD 64 99=(wA0,0)∧evsJ wA0=[]:=by
 have b:rowK wD.fs=([],[]):=Ze8 dk_nil;have c:keptF wD.fs=0:=(by unfold keptF;rw[show wD.fs=[]from rfl,new_nil]);have f:baseF wD.fs=st0:=(by unfold baseF;rw[show wD.fs=[]from rfl,new_nil]);have g:GoodR (rowK wD.fs).1 (keptF wD.fs) (baseF wD.fs):=(by rw[b,c,f];exact⟨λp a=>(by cases a),λp a=>(by cases a),by decide,λp a=>(by cases a)⟩);have h:menD wD=(wD,0):=(by unfold menD;rw[b];rfl);have i:stR (rowK wD.fs).1 (keptF wD.fs) (baseF wD.fs)=st0:=(by rw[b,c,f];rfl);have e:=Zx4 (d:=wD) (cb:=64) (cg:=99) (by decide) (by unfold mayC;omega) rfl g h;have j:anewJ wD 64 99 (stR (rowK wD.fs).1 (keptF wD.fs) (baseF wD.fs)).q false=wA0:=(by unfold anewJ;rw[i,c,b];rfl);rw[j]at e;refine⟨e,?_⟩;rw[Zh8 (Zqw e).right];rfl
def jawake_fn:Ct prog 10 {} [] (λr=>r=[B true]):=by
 obtain⟨⟨j,m,n⟩,⟨o,q⟩,⟨⟨u,v,w,s4,x⟩,y,J,s,a⟩,z,e1,e2,K,L⟩:=w_ok;have h:=(Zqw w_open.1).right;have b:=Zia h (k:=wA1) (YE rfl j);obtain⟨f,_,A,_⟩:=Zo9 b.right (k:=wA2) (YE rfl m);have c:=Zia f (k:=wA3) (YE rfl n);have d:=Zia c.right (k:=wA4) (YE rfl o);have i:=Zia d.right (k:=wA5) (YE rfl q);have C:evsJ wA5=[evN wA0 (wE 3 1 0),evN wA2 (wE 4 3 9),evN wA3 (wE 4 3 900000),evN wA4 (wE 4 3 9)]:=(by rw[i.ev,d.ev,c.ev,A,b.ev,w_open.2];rfl);have D:appP wA0 (wE 3 1 0)=(wA1,0):=(by rw[Zug h];exact YE rfl j);have E:synJ wA1=(wA2,0):=(by rw[synJ_q b.right];exact YE rfl m);have F:appP wA2 (wE 4 3 9)=(wA3,0):=(by rw[Zug f];exact YE rfl n);have G:appP wA3 (wE 4 3 900000)=(wA4,0):=(by rw[Zug c.right];exact YE rfl o);have H:appP wA4 (wE 4 3 9)=(wA5,0):=(by rw[Zug d.right];exact YE rfl q);have e:=ok_of i.right (by rw[x];decide);refine Zyp (Cl.of (Ztb wD ⟨by decide,by decide,by decide⟩ 64 99) ?_);rw[w_open.1];refine⟨_,_,_,_,_,_,_,_,_,_,_,_,_,_,_,_,_,rfl,Cl.of (Zlg wA0 (ok_of h (by decide)) (wE 3 1 0) (by decide)) ?_⟩;rw[D];refine⟨_,_,_,_,_,_,_,_,_,_,_,_,_,_,_,_,_,rfl,Cl.of (jsyn_fn wA1 (ok_of b.right (by rw[u];decide))) ?_⟩;rw[E];refine⟨_,_,_,_,_,_,_,_,_,_,_,_,_,_,_,_,_,rfl,Cl.of (Zlg wA2 (ok_of f (by rw[v];decide)) (wE 4 3 9) (by decide)) ?_⟩;rw[F];refine⟨_,_,_,_,_,_,_,_,_,_,_,_,_,_,_,_,_,rfl,Cl.of (Zlg wA3 (ok_of c.right (by rw[w];decide)) (wE 4 3 900000) (by decide)) ?_⟩;rw[G];refine⟨_,_,_,_,_,_,_,_,_,_,_,_,_,_,_,_,_,rfl,Cl.of (Zlg wA4 (ok_of d.right (by rw[s4];decide)) (wE 4 3 9) (by decide)) ?_⟩;rw[H];refine⟨_,_,_,_,_,_,_,_,_,_,_,_,_,_,_,_,_,rfl,Cl.of (Zmb wA5 e) ⟨_,rfl,?_⟩⟩;rw[C];have t:∀l:List SgD,rlen (sgR l)=l.length:=λl=>by simp
 refine Zaa (λ_=>⟨⟨by omega,by simp⟩,_,_,_,_,_,_,_,rfl,?_⟩) (λg=>by simp at g)
 obtain⟨p,l,hsg⟩:∃p l,wA5.sg=p::l:=by
  cases hw:wA5.sg with
  |nil=>rw[hw]at s;simp at s
  |cons p l=>exact⟨p,l,rfl⟩
 have a:p.sl=true:=(by rw[hsg]at a;simpa using a);refine Zaa (λ_=>⟨⟨by omega,by dsimp only;rw[t];omega⟩,p.num,p.fi,p.la,p.fr,p.ti,p.sz,p.sl,by dsimp only;rw[hsg];rfl,?_⟩) (λg=>?_)
 ·refine Zaa (λ_=>Cl.of (Zfp wA5 e) ⟨_,rfl,?_⟩) (λg=>?_)
  ·rw[Zd3.2 i.right]
  ·exfalso
   dsimp only at g
   rw[y]at g;simp[a]at g;omega
 ·exfalso
  dsimp only at g
  rw[t]at g;simp[z]at g;omega
end Jou
namespace Jou
open Go Go.Px Go.Proofs Cod Seg Sgr Snp Sx Row Dsk Tryz
def DiD.Sz(d:DiD):Prop:=d.fs.length≤140737488351232∧(∀f∈d.fs,f.su.length≤140737488351232∧f.lo.length≤140737488351232)∧d.st≤9223372036854775807
def Sz.ok{d:DiD}(h:DiD.Sz d)(i:d.fs.length≤70):d.ok:=by
 obtain⟨_,c,e⟩:=h
 have:∀l:List FiD,(∀f∈l,f.su.length≤140737488351232∧f.lo.length≤140737488351232)→usedL l≤l.length*281474976702464:=by
  intro l
  induction l with
  |nil=>intro _;simp[usedL]
  |cons a l g=>intro h;have:=g (λf b=>h f (by simp[b]));have:=h a (by simp);rw[Zde];simp only[FiD.len,List.length_cons];omega
 have:=this d.fs c;exact⟨by omega,by omega,e⟩
deriving instance DecidableEq for JoD
end Jou
namespace Jou
open Go Go.Px Go.Proofs Cod Seg Sgr Snp Sx Row Tryz
def effW(l:List FiD):Stp→List FiD
 | .cre s=>withB FiD.nm l ⟨s,[],[]⟩
 | .wri s x=>match l.find? (λf=>decide (f.nm=s))with|none=>l|some f=>withB FiD.nm l ⟨s,f.su,f.lo++x⟩
 | .syn s=>match l.find? (λf=>decide (f.nm=s))with|none=>l|some f=>withB FiD.nm l ⟨s,f.su++f.lo,[]⟩
 |_=>l
def effL(l:List FiD)(p:List Stp):List FiD:=p.foldl effW l
def Nms(d:DiD)(N:List BA):Prop:=(∀s,s∈N↔∃f∈d.fs,f.nm=s)∧N.length=d.fs.length
def nms(d:DiD):Nms d (d.fs.map FiD.nm):=⟨λs=>by simp,by simp⟩
def Zs9{d:DiD}{s:BA}(h:∃f∈d.fs,f.nm=s):∃i,∃a:i<d.fs.length,d.get s=some d.fs[i]∧d.fs[i].nm=s:=by
 rcases d.get_cases s with⟨b,c,g⟩|⟨i,a,_,b,c⟩
 ·obtain⟨f,j,e⟩:=h;exact absurd e (g f j)
 ·exact⟨i,a,b,c⟩
def can(a:Int):List BA→Nat→List Stp→Prop
 |_,_,[]=>True
 |N,u,.wri s x::l=>fnB s=true∧s∈N∧(u:Int)+x.length≤a∧can a N (u+x.length) l
 |N,u,.syn s::l=>fnB s=true∧s∈N∧can a N u l
 |N,u,.cre s::l=>fnB s=true∧s∉N∧N.length<64∧numS s≠0∧can a (s::N) u l
 |_,_,.rem _::_=>False
 |_,_,.cut _ _::_=>False
structure Ends(d:DiD)(l:List Stp)(d':DiD)(c:Int):Prop where
 run:runP d l=(d',c)
 P:d'.P
 rm:d'.rm=d.rm
 nm:(∀f∈d.fs,numS f.nm≠0)→∀f∈d'.fs,numS f.nm≠0
 how:(c=0∧d'.dn=false∧d'.fs=effL d.fs l∧(d.st= -1→d'.st= -1))∨(c=16∧d.st≠-1∧d'.dn=true∧∃p,p<+:l∧d'.fs=effL d.fs p)
def Zkd{s:Stp}{l:List Stp}{d:DiD}{x:Int}(r:d.st=0→∃a,s.run d=(a,16)∧a.P∧a.dn=true∧a.rm=d.rm∧(a.fs=d.fs∨a.fs=effW d.fs s))
  (u:d.st≠0→s.run d=({d.tick with fs:=effW d.fs s},0)∧({d.tick with fs:=effW d.fs s}:DiD).P) (z:d.dn=false) (m:(∀f∈d.fs,numS f.nm≠0)→∀f∈effW d.fs s,numS f.nm≠0)
  (v:({d.tick with fs:=effW d.fs s}:DiD).P→∃a c,Ends {d.tick with fs:=effW d.fs s} l a c):∃a c,Ends d (s::l) a c:=by
 by_cases hs:d.st=0
 ·obtain⟨a,b,g,w,y,n⟩:=r hs;refine⟨a,16,⟨by rw[runP,b,if_pos (show(16:Int)≠0 by decide)],g,y,λq=>?_,.inr ⟨rfl,by rw[hs];decide,w,?_⟩⟩⟩
  ·rcases n with e|e
   ·rw[e];exact q
   ·rw[e];exact m q
  ·rcases n with e|e
   ·exact⟨[],YP,e⟩
   ·exact⟨[s],⟨l,rfl⟩,e⟩
 ·obtain⟨b,g⟩:=u hs;obtain⟨a,c,E⟩:=v g;have o:d.st= -1↔d.tick.st= -1:=by unfold DiD.tick;dsimp only;split<;>omega
  refine⟨a,c,⟨by rw[runP,b,if_neg (by simp)];exact E.run,E.P,E.rm,λq=>E.nm (m q),?_⟩⟩
  rcases E.how with⟨h,i,j,k⟩|⟨h,i,j,p,k,a5⟩
  ·exact .inl ⟨h,i,j,λq=>k (o.1 q)⟩
  ·refine .inr ⟨h,λq=>i (o.1 q),j,s::p,?_,a5⟩;obtain⟨t,e⟩:=k;exact⟨t,by rw[←e];rfl⟩
def Zim:∀(l:List Stp) {d:DiD} {N:List BA},d.P→d.dn=false→Nms d N→can d.rm N (usedL d.fs) l→∃y c,Ends d l y c
 | [],d,N,h,hd,hN,hc=>⟨d,0,rfl,h,rfl,λh=>h,.inl ⟨rfl,hd,rfl,λh=>h⟩⟩
 | .wri s x::l,d,N,h,hd,hN,⟨hf,hs,hr,hc⟩=>by
  obtain⟨i,n,j,o⟩:=Zs9 ((hN.1 s).1 hs);have b:=Ziv (s:=s) (x:=x) h;have k:effW d.fs (.wri s x)=withB FiD.nm d.fs ⟨s,d.fs[i].su,d.fs[i].lo++x⟩:=by show(match d.get s with|none=>_|some f=>_)=_;rw[j]
  have e:Zat d s x=if d.st=0 then({d with dn:=true,fs:=effW d.fs (.wri s x)},16)else({d.tick with fs:=effW d.fs (.wri s x)},0):=by
   unfold Zat;rw[er_of h hd hf hf,if_neg (by simp),j,k]
   dsimp only
   rw[if_neg (by omega)]
  rw[e]at b;have u:=Zds (f:=⟨s,d.fs[i].su,d.fs[i].lo++x⟩) h.2.2.2 n o.symm;have v:=Zbz (nm:=FiD.nm) (f:=⟨s,d.fs[i].su,d.fs[i].lo++x⟩) h.2.2.2 n o.symm;have p:usedL (effW d.fs (.wri s x))=usedL d.fs+x.length:=(by rw[k];simp only[FiD.len,List.length_append]at u;omega);refine Zkd (x:=0) (λm=>?_) (λm=>?_) hd (λq f a=>?_) λr=>?_
  ·rw[if_pos m]at e b;exact⟨_,e,b,rfl,rfl,.inr rfl⟩
  ·rw[if_neg m]at e b;exact⟨e,b⟩
  ·rw[k]at a
   rcases Zay.1 a with rfl|⟨a,_⟩
   ·have:=q _ (List.getElem_mem n);rw[o]at this;exact this
   ·exact q f a
  ·refine Zim l (N:=N) r hd ⟨λt=>(hN.1 t).trans ⟨λ⟨f,a,q⟩=>?_,λ⟨f,a,q⟩=>?_⟩,?_⟩ (by show can d.rm N (usedL (effW d.fs (.wri s x))) l;rw[p];exact hc)
   ·show∃f∈effW d.fs (.wri s x),_;rw[k];by_cases z:t=s
    ·exact⟨_,Zay.2 (.inl rfl),z.symm⟩
    ·exact⟨f,Zay.2 (.inr ⟨a,by rw[q];exact z⟩),q⟩
   ·have a:f∈effW d.fs (.wri s x):=a;rw[k]at a
    rcases Zay.1 a with rfl|⟨a,_⟩
    ·exact⟨d.fs[i],List.getElem_mem n,by rw[o];exact q⟩
    ·exact⟨f,a,q⟩
   ·show _=(effW d.fs (.wri s x)).length;rw[k,hN.2];exact v.symm
 | .syn s::l,d,N,h,hd,hN,⟨hf,hs,hc⟩=>by
  obtain⟨i,n,j,o⟩:=Zs9 ((hN.1 s).1 hs);have b:=Zj2 (s:=s) h;have k:effW d.fs (.syn s)=withB FiD.nm d.fs ⟨s,d.fs[i].su++d.fs[i].lo,[]⟩:=by show(match d.get s with|none=>_|some f=>_)=_;rw[j]
  have e:Za3 d s=if d.st=0 then({d with dn:=true},16)else({d.tick with fs:=effW d.fs (.syn s)},0):=(by unfold Za3;rw[er_of h hd hf hf,if_neg (by simp),j,k];rfl);rw[e]at b;have u:=Zds (f:=⟨s,d.fs[i].su++d.fs[i].lo,[]⟩) h.2.2.2 n o.symm;have v:=Zbz (nm:=FiD.nm) (f:=⟨s,d.fs[i].su++d.fs[i].lo,[]⟩) h.2.2.2 n o.symm
  have p:usedL (effW d.fs (.syn s))=usedL d.fs:=(by rw[k];simp only[FiD.len,List.length_append,Y6]at u;omega);refine Zkd (x:=0) (λm=>?_) (λm=>?_) hd (λq f a=>?_) λr=>?_
  ·rw[if_pos m]at e b;exact⟨_,e,b,rfl,rfl,.inl rfl⟩
  ·rw[if_neg m]at e b;exact⟨e,b⟩
  ·rw[k]at a
   rcases Zay.1 a with rfl|⟨a,_⟩
   ·have:=q _ (List.getElem_mem n);rw[o]at this;exact this
   ·exact q f a
  ·refine Zim l (N:=N) r hd ⟨λt=>(hN.1 t).trans ⟨λ⟨f,a,q⟩=>?_,λ⟨f,a,q⟩=>?_⟩,?_⟩ (by show can d.rm N (usedL (effW d.fs (.syn s))) l;rw[p];exact hc)
   ·show∃f∈effW d.fs (.syn s),_;rw[k];by_cases z:t=s
    ·exact⟨_,Zay.2 (.inl rfl),z.symm⟩
    ·exact⟨f,Zay.2 (.inr ⟨a,by rw[q];exact z⟩),q⟩
   ·have a:f∈effW d.fs (.syn s):=a;rw[k]at a
    rcases Zay.1 a with rfl|⟨a,_⟩
    ·exact⟨d.fs[i],List.getElem_mem n,by rw[o];exact q⟩
    ·exact⟨f,a,q⟩
   ·show _=(effW d.fs (.syn s)).length;rw[k,hN.2];exact v.symm
 | .cre s::l,d,N,h,hd,hN,⟨hf,hs,hlt,hnum,hc⟩=>by
  have hno:∀g∈d.fs,g.nm≠s:=λg j q=>hs ((hN.1 s).2 ⟨g,j,q⟩);have j:d.get s=none:=(by unfold DiD.get;rw[List.find?_eq_none];intro g j;simp[hno g j]);have b:=Ziu (s:=s) h
  have e:Za7 d s=if d.st=0 then({d with dn:=true},16)else({d.tick with fs:=effW d.fs (.cre s)},0):=by
   unfold Za7;rw[er_of h hd hf hf,if_neg (by simp),j]
   dsimp only
   rw[if_neg (by have:=hN.2;omega)];rfl
  rw[e]at b;have w:effW d.fs (.cre s)=insB FiD.nm d.fs ⟨s,[],[]⟩:=Zdt (λg j=>hno g j);have p:usedL (effW d.fs (.cre s))=usedL d.fs:=by rw[w,Zit];simp[FiD.len]
  refine Zkd (x:=0) (λm=>?_) (λm=>?_) hd (λq f a=>?_) λr=>?_
  ·rw[if_pos m]at e b;exact⟨_,e,b,rfl,rfl,.inl rfl⟩
  ·rw[if_neg m]at e b;exact⟨e,b⟩
  ·rcases Zay.1 (show f∈withB FiD.nm d.fs _ from a)with rfl|⟨a,_⟩
   ·exact hnum
   ·exact q f a
  ·refine Zim l (N:=s::N) r hd ⟨λt=>?_,?_⟩ (by show can d.rm (s::N) (usedL (effW d.fs (.cre s))) l;rw[p];exact hc)
   ·rw[List.mem_cons];constructor
    ·rintro(rfl|q)
     ·exact⟨_,Zay.2 (.inl rfl),rfl⟩
     ·obtain⟨f,a,q⟩:=(hN.1 t).1 q;exact⟨f,Zay.2 (.inr ⟨a,hno f a⟩),q⟩
    ·rintro⟨f,a,q⟩
     rcases Zay.1 (show f∈withB FiD.nm d.fs _ from a)with rfl|⟨a,_⟩
     ·exact .inl q.symm
     ·exact .inr ((hN.1 t).2 ⟨f,a,q⟩)
   ·show(s::N).length=(effW d.fs (.cre s)).length;rw[w,Zom,List.length_cons,hN.2]

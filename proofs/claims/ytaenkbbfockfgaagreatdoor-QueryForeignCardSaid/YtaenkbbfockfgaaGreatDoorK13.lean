import Derived.Test.YtaenkbbfockfgaaGreatDoorK12
import Derived.WalkKit
import Derived.TacticsInMore
import Derived.LoopNIn
import Derived.LoopIn
import Derived.Shelf.Abstract
import Derived.Test.YtaenkbbfockfgaaGreatDoorProg
import Derived.Shelf.LaysC
import Derived.Shelf.Strconv.ParseIntPublic10
import Derived.Shelf.Strconv.ErrVarParseInt
import Derived.Lib.AtoiErrMem
set_option linter.all false
set_option maxRecDepth 100000
variable{b c e i j k z:Int}{n:Nat}{l r:Go.Px.LL}{Q:Go.Px.QQ}{t:BA}{y:List Go.Px.FiD}{d:Go.Px.DiD}{O o:Bool}{F f:Go.Px.FiD}{g:Go.Proofs.YtaenkbbfockfgaaGreatDoor.Sx.StD}{D:Go.Proofs.YtaenkbbfockfgaaGreatDoor.Seg.Sc}
namespace Go.Proofs.YtaenkbbfockfgaaGreatDoor
namespace Jou
open Go Go.Px Go.Proofs Cod Seg Sgr Snp Sx Row Tryz
def runS:DiD->List (DiD->DiD×Int)->DiD×Int
 |d,[]=>(d,0)
 |d,s::l=>if(s d).2≠0 then s d else runS (s d).1 l
def Zhx{d a:DiD}{s:DiD->DiD×Int}{l:List (DiD->DiD×Int)}(h:runS d (s::l)=(a,0)):∃b,s d=(b,0)/\runS b l=(a,0):=by
 rw[runS]at h
 split at h
 next g=>rw[h]at g;exact absurd rfl g
 next g=>have g:(s d).2=0:=(by simpa using g);exact⟨(s d).1,by rw[<-g],h⟩
def Zj1:∀(a b:List (DiD->DiD×Int)) {d c:DiD},runS d (a++b)=(c,0)->∃e,runS d a=(e,0)/\runS e b=(c,0)
 | [],b,d,c,h=>⟨d,rfl,h⟩
 |s::a,b,d,c,h=>by obtain⟨e,f,g⟩:=Zhx h;obtain⟨i,j,k⟩:=Zj1 a b g;refine⟨i,?_,k⟩;rw[runS,f,if_neg Vs];exact j
structure Same(d d':DiD):Prop where
 srt:srt FiD.nm d'.fs
 kept:keptF d'.fs=keptF d.fs
 base:baseF d'.fs=baseF d.fs
 rm:d'.rm=d.rm
 dn:d'.dn=d.dn
def Same.trans{a b c:DiD}(h:Same a b)(k:Same b c):Same a c:=⟨k.srt,k.kept.trans h.kept,k.base.trans h.base,k.rm.trans h.rm,k.dn.trans h.dn⟩
theorem Same.refl(h:Go.Px.srt FiD.nm d.fs):Same d d:=⟨h,rfl,rfl,rfl,rfl⟩
def srt_wout(h:srt FiD.nm y):srt FiD.nm (wout FiD.nm y t):=YL _ h
def segs_mid{l X Y:List FiD}(c:srt FiD.nm l)(e:segs l=X++F::Y)(a:F.nm=f.nm):segs (withB FiD.nm l f)=X++f::Y:=by
 have i:F∈l:=(List.mem_filter.1 (show F∈l.filter isSeg by rw[show l.filter isSeg=X++F::Y from e];simp)).1;rw[Zv3 c ⟨F,i,a⟩,e,List.map_append,List.map_cons,if_pos a];have b:srt FiD.nm (segs l):=YL _ c;rw[e]at b;obtain⟨j,d,h⟩:=List.pairwise_append.1 b;congr 1
 .conv=>rhs;rw[<-YQ X]
  apply List.map_congr_left;intro x hx;rw[if_neg (λq=>Zjk (h x hx F Vs) (q.trans a.symm))];rfl
 .congr 1
  conv=>rhs;rw[<-YQ Y]
  apply List.map_congr_left;intro x hx;rw[if_neg (λq=>Zjk ((List.pairwise_cons.1 d).1 x hx) (a.trans q.symm))];rfl
def Zyf:∀(k:Nat) (A B:List FiD) (d a:DiD),B.length=k->srt FiD.nm d.fs->segs d.fs=A++B->runS d ((B.map FiD.nm).reverse.map λs d=>Zbk d s)=(a,0)->segs a.fs=A/\Same d a:=by
 intro k
 induction k with
 |zero=>intro A B d a b c e h;have:B=[]:=Ys.1 b;subst this;simp only[List.map_nil,Wg,runS,Prod.mk.injEq]at h;rw[<-h.1];exact⟨by simpa using e,Same.refl c⟩
 |succ k r=>
  intro A B d a b c e h
  rcases Y4 B with rfl|⟨B,f,rfl⟩
  .simp at b
  .rw[List.concat_eq_append]at b e h;rw[List.map_append,Y07]at h;simp only[List.map_cons,List.map_nil,List.reverse_cons,Wg,Y5,Y02]at h;obtain⟨j,m,n⟩:=Zhx h;obtain⟨_,_,e1,e2,o⟩:=Zk4 m;have g:numS f.nm≠0:=Zb9 f (by rw[e];simp);have i:srt FiD.nm j.fs:=by rw[e1];exact srt_wout c
   have l:segs j.fs=A++B:=(by rw[e1,segs_wout,e,<-List.append_assoc];refine wout_last ?_;rw[List.append_assoc,<-e];exact YL _ c);obtain⟨p,q⟩:=r A B j a (by simpa using b) i l n;refine⟨p,Same.trans ⟨i,?_,?_,e2,o⟩ q⟩
   .rw[e1];exact(Zm3 g).1
   .rw[e1];exact(Zm3 g).2
noncomputable def cutF(f:FiD):FiD:=if(segL (scF f)).length<f.len then⟨f.nm,f.su.take (segL (scF f)).length,f.lo.take ((segL (scF f)).length-f.su.length)⟩else f
def Zg1(f:FiD):(cutF f).nm=f.nm:=by unfold cutF;split<;>rfl
theorem cutF_by(h:(scF f).num≠0):byF (cutF f)=segL (scF f):=by
 unfold cutF
 split
 .exact Zr9 h
 next g=>have a:=(Zk7 h).2;exact(a.eq_of_length (by have:=a.length_le;rw[Zis]at this|-;omega)).symm
noncomputable def cutS(p:Pt):List (DiD->DiD×Int):=if(segL p.d).length<p.n then[λd=>opCut d (segNm p.d.num) (segL p.d).length]else[]
def run_cut:∀(k:Nat) (A B C:List FiD) (d a:DiD),B.length=k->srt FiD.nm d.fs->segs d.fs=A++(B++C)->(∀f∈B,(scF f).num=numS f.nm)->runS d ((B.map (ptF scF)).reverse.flatMap cutS)=(a,0)->segs a.fs=A++(B.map cutF++C)/\Same d a:=by
 intro k
 induction k with
 |zero=>intro A B C d a j b e p h;have:B=[]:=Ys.1 j;subst this;simp only[List.map_nil,Wg,List.flatMap_nil,runS,Prod.mk.injEq]at h;rw[<-h.1];exact⟨by simpa using e,Same.refl b⟩
 |succ k K=>
  intro A B C d a j b e p h
  rcases Y4 B with rfl|⟨B,f,rfl⟩
  .simp at j
  .rw[List.concat_eq_append]at j e h p|-;rw[List.map_append,Y07]at h;simp only[List.map_cons,List.map_nil,List.reverse_cons,Wg,Y5,Y02,Yg]at h;obtain⟨q,m,y⟩:=Zj1 _ _ h;have n:numS f.nm≠0:=Zb9 f (by rw[e];simp);have t:=p f Vs
   have u:segs q.fs=A++(B++(cutF f::C))/\Same d q:=by
    have v:segs d.fs=(A++B)++f::C:=(by rw[e];simp);unfold cutS at m
    split at m
    .rename_i l;obtain⟨z,D,r⟩:=Zhx m;simp only[runS,Prod.mk.injEq]at r;have r:z=q:=r.1;subst r;obtain⟨_,g,i,_,_,c,E,F⟩:=Zuz D;have w:segNm (ptF scF f).d.num=f.nm:=(by show segNm (scF f).num=f.nm;rw[t];exact Zoo n);rw[w]at i c;have x:f∈d.fs:=(List.mem_filter.1 (show f∈d.fs.filter isSeg by rw[show d.fs.filter isSeg=(A++B)++f::C from v];simp)).1;rw[Zqk b x]at i
     cases i
     have o:cutF f=⟨f.nm,f.su.take ((segL (ptF scF f).d).length:Int).toNat,f.lo.take (((segL (ptF scF f).d).length:Int).toNat-f.su.length)⟩:=(by unfold cutF;rw[if_pos l];simp);rw[<-o]at c;refine⟨?_,by rw[c];exact Zbo b,?_,?_,E,F⟩
     .rw[c,segs_mid b v (Zg1 f).symm];simp
     .rw[c];exact Zdk (by rw[Zg1];exact n)
     .rw[c];exact Zfr (by rw[Zg1];exact n)
    .rename_i l;simp only[runS,Prod.mk.injEq]at m;rw[<-m.1];have o:cutF f=f:=by unfold cutF;rw[if_neg l]
     rw[o,e];exact⟨Vs,Same.refl b⟩
   obtain⟨G,s⟩:=u;obtain⟨H,J⟩:=K A B (cutF f::C) q a (by simpa using j) s.srt G (λg i=>p g (by simp[i])) y;exact⟨by rw[H];simp,s.trans J⟩
def Zwy{c:FiD->Sc}:∀{a:List FiD} {g:FiD} {p:Option Sc},inRow c p (a++[g])->∀f∈a,(c f).sl=true
 | [],_,_,_,f,hf=>by cases hf
 |x::a,g,p,h,f,hf=>by
  obtain⟨_,_,b⟩:=h
  rcases List.mem_cons.1 hf with rfl|hf
  .cases a with
   |nil=>exact b.2.1.1
   |cons y a=>exact b.2.1.1
  .exact Zwy b f hf
def synS(r:List Pt):List (DiD->DiD×Int):=match r.getLast? with
 |none=>[]
 |some p=>if p.d.sl=true then[]else[λd=>Zc3 d (segNm p.d.num)]
noncomputable def mendS(r:List Pt)(o:List BA):List (DiD->DiD×Int):=(o.reverse.map λs d=>Zbk d s)++(r.reverse.flatMap cutS++synS r)
noncomputable def menF(f:FiD):FiD:=if(scF f).sl=true then cutF f else⟨(cutF f).nm,(cutF f).su++(cutF f).lo,[]⟩
theorem Ztq(f:FiD):(menF f).nm=f.nm:=by unfold menF;split<;>exact Zg1 f
theorem menF_by(h:(scF f).num≠0):byF (menF f)=segL (scF f):=by
 grind [byF_sync,menF,cutF_by]
def mend_ok{d c:DiD}(A:srt FiD.nm d.fs)(h:runS d (mendS (rowK d.fs).1 (rowK d.fs).2)=(c,0)):
  ∃m:List FiD,(rowK d.fs).1=m.map (ptF scF)/\inRow scF none m/\(∀f∈m,numS f.nm≠0)/\Same d c/\segs c.fs=m.map menF/\DkR c.fs (segs c.fs)/\rowK c.fs=(m.map ptW,[]):=by
 obtain⟨n,e,j,N⟩:=Zm2 d.fs;rw[e]at h;refine⟨(segs d.fs).take n,by rw[e],j,λf i=>Zb9 f (List.mem_of_mem_take i),?_⟩;obtain⟨v,C,D⟩:=Zj1 _ _ h;obtain⟨k,E,a⟩:=Zj1 _ _ D;obtain⟨F,G⟩:=Zyf ((segs d.fs).drop n).length ((segs d.fs).take n) ((segs d.fs).drop n) d v rfl A (List.take_append_drop n _).symm C;have p:=Zdo j;obtain⟨b,o⟩:=run_cut ((segs d.fs).take n).length [] ((segs d.fs).take n) [] v k rfl G.srt (by rw[F];simp) p E;have w:∀f∈(segs d.fs).take n,(scF f).num≠0:=λf i=>by rw[p f i];exact Zb9 f (List.mem_of_mem_take i)
 have b:segs k.fs=((segs d.fs).take n).map cutF:=by rw[b];simp
 have O:segs c.fs=((segs d.fs).take n).map menF/\Same k c:=by
  rcases Y4 ((segs d.fs).take n)with q|⟨gs,g,q⟩
  .rw[q]at a b|-;simp only[synS,List.map_nil,List.getLast?_nil,runS,Prod.mk.injEq]at a;rw[<-a.1,b];exact⟨rfl,Same.refl o.srt⟩
  .rw[List.concat_eq_append]at q;rw[q]at a b j w p|-;have P:=Zwy j
   have x:gs.map menF=gs.map cutF:=by
    simp_all[menF]
   rw[List.map_append]at b|-;rw[x];unfold synS at a;rw[List.map_append]at a;simp only[List.map_cons,List.map_nil,List.getLast?_concat]at a b|-;by_cases hg:(scF g).sl=true
   .rw[if_pos (show(ptF scF g).d.sl=true from hg)]at a;simp only[runS,Prod.mk.injEq]at a;rw[<-a.1,b];have:menF g=cutF g:=(by grind [menF]);rw[this];exact⟨rfl,Same.refl o.srt⟩
   .rw[if_neg (show¬(ptF scF g).d.sl=true from hg)]at a;obtain⟨H,J,s⟩:=Zhx a;simp only[runS,Prod.mk.injEq]at s;have s:H=c:=s.1;subst s;obtain⟨_,f,i,l,K,L⟩:=Zld J;have y:numS g.nm≠0:=Vg
    have t:segNm (ptF scF g).d.num=g.nm:=by
     grind [segNm,scF,Zoo]
    rw[t]at i l;have z:cutF g∈k.fs:=(List.mem_filter.1 (show cutF g∈k.fs.filter isSeg by rw[show k.fs.filter isSeg=gs.map cutF++[cutF g]from b];simp)).1;have r:=Zqk o.srt z;rw[Zg1,i]at r
    cases r
    have M:menF g=⟨g.nm,(cutF g).su++(cutF g).lo,[]⟩:=(by unfold menF;rw[if_neg hg,Zg1]);rw[<-M]at l;have u:numS (menF g).nm≠0:=(by rw[Ztq];exact y);refine⟨?_,by rw[l];exact Zbo o.srt,by rw[l];exact Zdk u,by rw[l];exact Zfr u,K,L⟩;rw[l,Zq7 o.srt b (by rw[Zg1,Ztq])]
 grind [Same,Zk3,menF,Ztq,menF_by]
def Zwz{d a:DiD}(s:srt FiD.nm d.fs)(t:GoodR (rowK d.fs).1 (keptF d.fs) (baseF d.fs))(h:runS d (mendS (rowK d.fs).1 (rowK d.fs).2)=(a,0))(n o b:Int)(c:Bool):
  anewJ a n o b c=⟨a,n,o,(rowK d.fs).1.map sgOf,Zbg (rowK d.fs).1,stR (rowK d.fs).1 (keptF d.fs) (baseF d.fs),b,keptF d.fs,c⟩/\Par (anewJ a n o b c) (segs a.fs):=by
 obtain⟨i,e,w,u,k,x,r,l⟩:=mend_ok s h;have y:∀f∈i,True:=λ_ _=>trivial;rw[e]at t|-;have v:(i.map ptW).map sgOf=(i.map (ptF scF)).map sgOf:=by rw[List.map_map,List.map_map];rfl
 have z:Zbg (i.map ptW)=Zbg (i.map (ptF scF)):=by
  rcases Y4 i with rfl|⟨gs,g,rfl⟩
  .rfl
  .rw[List.concat_eq_append,List.map_append,List.map_append];unfold Zbg;simp only[List.map_cons,List.map_nil,List.getLast?_concat];rfl
 have j:=Zg0 r;rw[l]at j;have m:i.map ptW=(segs a.fs).map (ptF scF):=congrArg Prod.fst j;refine⟨?_,⟨r,?_,?_,?_,?_,?_,rfl⟩⟩
 .grind [k.kept,k.base,stR_ptW,anewJ]
 .show GoodR _ (keptF a.fs) (baseF a.fs)
  grind [k.kept,k.base,goodR_ptW]
 .intro p q;rw[<-m]at q;obtain⟨f,_,rfl⟩:=Ya.1 q;rfl
 .show stR (rowK a.fs).1 _ _=stR _ (keptF a.fs) (baseF a.fs);rw[<-m,l]
 .show(rowK a.fs).1.map sgOf=_;rw[<-m,l]
 .show Zbg (rowK a.fs).1=_;rw[<-m,l]
def follO(d:Sc):Option Sc->Prop
 |none=>True
 |some a=>foll d a
instance (d:Sc) (p:Option Sc):Decidable (follO d p):=by
 cases p with
 |none=>exact isTrue trivial
 |some a=>exact inferInstanceAs (Decidable (foll d a))
inductive Stp where
 |cre (s:BA)
 |wri (s:BA) (x:List UInt8)
 |syn (s:BA)
 |rem (s:BA)
 |cut (s:BA) (n:Int)
def Stp.run:Stp->DiD->DiD×Int
 | .cre s,d=>Zbe d s
 | .wri s x,d=>Zau d s x
 | .syn s,d=>Zc3 d s
 | .rem s,d=>Zbk d s
 | .cut s n,d=>opCut d s n
def runP:DiD->List Stp->DiD×Int
 |d,[]=>(d,0)
 |d,s::l=>if(s.run d).2≠0 then s.run d else runP (s.run d).1 l
def runP_S:∀(l:List Stp) (d:DiD),runP d l=runS d (l.map Stp.run)
 | [],d=>rfl
 |s::l,d=>by rw[runP,List.map_cons,runS,runP_S l]
abbrev nmG(n:Int):BA:=Sgr.segNm n
theorem Zhm{n:Int}(h:inN n):nmG n=Jou.segNm n:=by
 unfold nmG Sgr.segNm;rw[if_pos (show 1<=n/\n<=99999999 from h)];rfl
def nmG_no(h:¬inN i):nmG i=ByteArray.mk #[]:=by
 unfold nmG Sgr.segNm;rw[if_neg (show¬(1<=i/\i<=99999999)from h)]
def cutP(p:Pt):List Stp:=if(segL p.d).length<p.n then[.cut (nmG p.d.num) (segL p.d).length]else[]
def synP(r:List Pt):List Stp:=match r.getLast? with
 |none=>[]
 |some p=>if p.d.sl=true then[]else[.syn (nmG p.d.num)]
def mendP(r:List Pt)(o:List BA):List Stp:=o.reverse.map Stp.rem++(r.reverse.flatMap cutP++synP r)
def mendP_S{r:List Pt}{o:List BA}(h:∀p∈r,inN p.d.num):(mendP r o).map Stp.run=mendS r o:=by
 unfold mendP mendS;rw[List.map_append,List.map_append,List.map_map];congr 1;congr 1
 .rw[List.map_flatMap]
  have:∀p∈r.reverse,(cutP p).map Stp.run=cutS p:=λp a=>by
   unfold cutP cutS;rw[Zhm (h p (by simpa using a))]
   split<;>rfl
  revert this
  generalize r.reverse=l;intro this
  induction l with
  |nil=>rfl
  |cons x l b=>
   grind
 .unfold synP synS
  cases hr:r.getLast? with
  |none=>rfl
  |some p=>
   dsimp only
   rw[Zhm (h p (Ws hr))]
   split<;>rfl
def repE(k:Int):StD->List Cod.EvD->StD×Bool
 |s,[]=>(s,true)
 |s,e::l=>if e.s<=k then repE k s l else if(appS s (toE e)).2≠0 then((appS s (toE e)).1,false)else repE k (appS s (toE e)).1 l
def repR(k:Int):StD->List Pt->StD×Bool
 |s,[]=>(s,true)
 |s,p::r=>if(p.d.ev.length:Int)≠p.d.s-p.d.bs then(s,false)else if(repE k s p.d.ev).2=false then repE k s p.d.ev else repR k (repE k s p.d.ev).1 r
def repP(r:List Pt)(s:StD):StD×Bool:=match r.head?,r.getLast? with
 |some p,some q=>if s.q<p.d.bs then(s,false)else if(repR s.q s r).2=false then repR s.q s r else((repR s.q s r).1,decide (q.d.a=(repR s.q s r).1.t))
 |_,_=>(s,true)
def Zhn(k:Int):∀(l:List Cod.EvD) (s:StD),repE k s l=((foldS s ((l.map toE).filter λe=>decide (k<e.s))).1,decide ((foldS s ((l.map toE).filter λe=>decide (k<e.s))).2.2=0))\/((repE k s l).2=false/\(foldS s ((l.map toE).filter λe=>decide (k<e.s))).2.2≠0)
 | [],s=>.inl rfl
 |e::l,s=>by
  rw[repE,List.map_cons,List.filter_cons];by_cases h:e.s<=k
  .have a:decide (k<(toE e).s)=false:=decide_eq_false (Int.not_lt.2 h);rw[if_pos h,a];exact Zhn k l s
  .have a:decide (k<(toE e).s)=true:=decide_eq_true (Int.not_le.1 h);rw[if_neg h,a,if_pos rfl,foldS];by_cases h2:(appS s (toE e)).2≠0
   .grind
   simp_all[Zhn]
theorem Zkl:∀(l m:List Cmp.EvD) (s:StD),(foldS s l).2.2=0->(foldS s (l++m)).1=(foldS (foldS s l).1 m).1/\(foldS s (l++m)).2.2=(foldS (foldS s l).1 m).2.2
 | [],m,s,_=>⟨rfl,rfl⟩
 |e::l,m,s,h=>by
  rw[foldS]at h;rw[Y2,foldS,foldS];by_cases h2:(appS s e).2≠0
  .grind
  simp_all[Zkl]
theorem Zkm:∀(l m:List Cmp.EvD) (s:StD),(foldS s l).2.2≠0->(foldS s (l++m)).2.2≠0
 | [],m,s,h=>absurd rfl h
 |e::l,m,s,h=>by
  rw[foldS]at h;rw[Y2,foldS];by_cases h2:(appS s e).2≠0
  .grind
  simp_all[Zkm]
def Zn1(k:Int):∀(r:List Pt) (s:StD),(repR k s r).2=true->(∀p∈r,(p.d.ev.length:Int)=p.d.s-p.d.bs)/\(foldS s ((evsR r).filter λe=>decide (k<e.s))).2.2=0/\(repR k s r).1=(foldS s ((evsR r).filter λe=>decide (k<e.s))).1
 | [],s,_=>⟨Vs,rfl,rfl⟩
 |p::r,s,h=>by
  rw[repR]at h|-;by_cases h1:(p.d.ev.length:Int)≠p.d.s-p.d.bs
  .grind
  rw[if_neg h1]at h|-;by_cases h2:(repE k s p.d.ev).2=false
  .grind
  rw[if_neg h2]at h|-;have g:evsR (p::r)=p.d.ev.map toE++evsR r:=rfl
  rcases Zhn k p.d.ev s with e|⟨e,_⟩
  .rw[e]at h2 h|-;have f:(foldS s ((p.d.ev.map toE).filter λe=>decide (k<e.s))).2.2=0:=Vg;obtain⟨a,b,c⟩:=Zn1 k r _ h
   grind [Zkl,evsR]
  grind
def Zn2(k:Int):∀(r:List Pt) (s:StD),(∀p∈r,(p.d.ev.length:Int)=p.d.s-p.d.bs)->(foldS s ((evsR r).filter λe=>decide (k<e.s))).2.2=0->(repR k s r).2=true
 | [],s,_,_=>rfl
 |p::r,s,h,h0=>by
  have a:evsR (p::r)=p.d.ev.map toE++evsR r:=rfl;rw[a,List.filter_append]at h0;rw[repR,if_neg (by simpa using h p Vs)]
  rcases Zhn k p.d.ev s with e|⟨_,e⟩
  .by_cases h2:(foldS s ((p.d.ev.map toE).filter λe=>decide (k<e.s))).2.2=0
   .simp_all[Zkl,Zn2]
   grind [Zkm]
  grind [Zkm]
def repP_iff{r:List Pt}{s:StD}:(repP r s).2=true↔GoodR r s.q s:=by
 unfold repP
 cases hr:r.head? with
 |none=>have:r=[]:=WZ.1 hr;subst this;exact⟨λ_=>⟨Vs,Vs,rfl,Vs⟩,λ_=>rfl⟩
 |some p=>
  obtain⟨q,hq⟩:∃q,r.getLast?=some q:=by
   cases r with
   |nil=>cases hr
   |cons x l=>exact⟨_,Wv Vs⟩
  rw[hq]
  dsimp only
  constructor
  .intro h
   split at h
   .cases h
   rename_i i
   split at h
   .grind
   rename_i e;have f:(repR s.q s r).2=true:=Vg;obtain⟨a,b,c⟩:=Zn1 s.q r s f;refine⟨λx hx=>?_,a,b,λx hx=>?_⟩
   .grind
   .rw[hq]at hx;cases hx;have g:q.d.a=(repR s.q s r).1.t:=(by simpa using h);rw[g,c];rfl
  .intro h;have e:=Zn2 s.q r s h.cnt h.app;obtain⟨_,_,c⟩:=Zn1 s.q r s e;rw[if_neg (by have:=h.bs p hr;omega),if_neg (by rw[e];simp)];have:=h.at_ q hq;show decide _=true;rw[decide_eq_true_eq,c];exact this
theorem repP_st{r:List Pt}{s:StD}(h:GoodR r s.q s):(repP r s).1=stR r s.q s:=by
 unfold repP
 cases hr:r.head? with
 |none=>have:r=[]:=WZ.1 hr;subst this;rfl
 |some p=>
  obtain⟨q,hq⟩:∃q,r.getLast?=some q:=by
   cases r with
   |nil=>cases hr
   |cons x l=>exact⟨_,Wv Vs⟩
  rw[hq]
  dsimp only
  have a:=Zn2 s.q r s h.cnt h.app;obtain⟨_,_,c⟩:=Zn1 s.q r s a;rw[if_neg (by have:=h.bs p hr;omega),if_neg (by rw[a];simp)];exact c
instance (b g:Int):Decidable (mayC b g):=inferInstanceAs (Decidable (_/\_))
def jo0(d:DiD):JoD:=⟨d,0,0,[],⟨0,0,[]⟩,st0,0,0,false⟩
noncomputable def menD(d:DiD):DiD×Int:=runP d (mendP (rowK d.fs).1 (rowK d.fs).2)
open Classical in
noncomputable def openP(d:DiD)(a b:Int):JoD×Int:=
 if¬(d.P/\mayC a b)then(jo0 d,1)else if d.dn=true then(jo0 d,16)
 else if¬GoodR (rowK d.fs).1 (keptF d.fs) (baseF d.fs)then(jo0 d,11)
 else if(menD d).2≠0 then(jo0 (menD d).1,(menD d).2)
 else(⟨(menD d).1,a,b,(rowK d.fs).1.map sgOf,Zbg (rowK d.fs).1,stR (rowK d.fs).1 (keptF d.fs) (baseF d.fs),(stR (rowK d.fs).1 (keptF d.fs) (baseF d.fs)).q,keptF d.fs,false⟩,0)
open Classical in
noncomputable def mayJ(j:JoD):Int:=if j.dk.P/\j.dk.dn=true then 16 else if¬RightJ j then 1 else 0
def Zkn{j:JoD}:mayJ j=0↔RightJ j:=by
 unfold mayJ;constructor
 .grind
 .intro h;rw[if_neg (λq=>by rw[h.up]at q;cases q.2),if_neg (by simp[h])]
structure WrD where
 j:JoD
 td:List Stp
 sz:Int
def bys(l:List Int):List UInt8:=l.map λn=>UInt8.ofNat n.toNat
def putW(w:WrD)(l:List SgD)(p:SgD)(b:List Int):WrD:=⟨{w.j with sg:=l++[{p with sz:=p.sz+b.length}]},w.td++[.wri (nmG p.num) (bys b)],w.sz+b.length⟩
def selB(j:JoD)(p:SgD):List Int:=fr 3 (slP (p.la-p.fi) j.cx.s j.cx.a)
def sealW(w:WrD)(l:List SgD)(p:SgD):WrD:=
 ⟨{w.j with sg:=l++[{p with sz:=p.sz+(selB w.j p).length,sl:=true}],cx:=⟨0,0,[]⟩,sure:=w.j.st.q},w.td++[.wri (nmG p.num) (bys (selB w.j p)),.syn (nmG p.num)],w.sz+(selB w.j p).length⟩
def lasS(l:List SgD):Option (List SgD×SgD):=match l.getLast? with|none=>none|some p=>some (l.dropLast,p)
theorem Zav(l:List SgD)(p:SgD):lasS (l++[p])=some (l,p):=by simp[lasS]
def nxtN(w:WrD):Int:=match lasS w.j.sg with|none=>1|some (_,p)=>p.num+1
def hedB(j:JoD)(n:Int):List Int:=fr 1 (hdP n j.st.q j.st.t)
def begW(w:WrD):Option WrD:=if¬inN (nxtN w)\/64<w.j.dk.fs.length+1 then none else
 some ⟨{w.j with sg:=w.j.sg++[⟨nxtN w,w.j.st.q,w.j.st.q,w.j.st.t,w.j.st.t,(hedB w.j (nxtN w)).length,false⟩],cx:=⟨w.j.st.q,w.j.st.t,[]⟩},w.td++[.cre (nmG (nxtN w)),.wri (nmG (nxtN w)) (bys (hedB w.j (nxtN w)))],w.sz+(hedB w.j (nxtN w)).length⟩
def recL'(j:JoD)(e:Cod.EvD):List Int:=fr 2 (encL j.cx.s j.cx.a j.cx.m e)
def recW(w:WrD)(e:Cod.EvD):Option WrD:=match lasS w.j.sg with
 |none=>none
 |some (l,p)=>if encE w.j.cx.s w.j.cx.a w.j.cx.m e≠0 then none else
  some ⟨{w.j with sg:=l++[{p with sz:=p.sz+(recL' w.j e).length,la:=e.s,ti:=e.a}],cx:=⟨e.s,e.a,bhdN w.j.cx.m e.c⟩},w.td++[.wri (nmG p.num) (bys (recL' w.j e))],w.sz+(recL' w.j e).length⟩
def opnW(w:WrD):Bool:=match lasS w.j.sg with|none=>false|some (_,p)=>!p.sl
def ovrB(j:JoD)(e:Cod.EvD):Bool:=match lasS j.sg with
 |none=>false
 |some (_,p)=>if p.sl=true\/p.la<=p.fi then false else if encE j.cx.s j.cx.a j.cx.m e≠0\/j.cb<p.sz+(recL' j e).length then true else decide (j.cg<e.a-p.fr)
def shtJ(j:JoD):JoD×Int:=({j with shut:=true},13)
def w0(j:JoD):WrD:=⟨j,[],0⟩
def w1(j:JoD)(e:Cod.EvD):WrD:=match lasS j.sg with|some (l,p)=>if ovrB j e=true then sealW (w0 j) l p else w0 j|none=>w0 j
def w2(j:JoD)(e:Cod.EvD):Option WrD:=if opnW (w1 j e)=true then some (w1 j e)else begW (w1 j e)
def w3(j:JoD)(e:Cod.EvD):Option WrD:=match w2 j e with|none=>none|some w=>recW w e
def endJ(j:JoD)(s:StD)(w:WrD):JoD×Int:=if j.dk.rm<usedL j.dk.fs+w.sz then shtJ j else if(runP j.dk w.td).2≠0 then({j with dk:=(runP j.dk w.td).1},(runP j.dk w.td).2)else({w.j with dk:=(runP j.dk w.td).1,st:=s},0)
def evN(j:JoD)(e:Cod.EvD):Cod.EvD:={e with s:=j.st.q+1}
def appQ(j:JoD)(e:Cod.EvD):JoD×Int:=
 if(appS j.st (toE (evN j e))).2≠0 then(j,(appS j.st (toE (evN j e))).2)else if j.shut=true then(j,13)else match w3 j (evN j e)with
 |none=>shtJ j
 |some w=>endJ j (appS j.st (toE (evN j e))).1 w
noncomputable def appP(j:JoD)(e:Cod.EvD):JoD×Int:=if mayJ j≠0 then(j,mayJ j)else appQ j e
open Classical in
noncomputable def evsJ(j:JoD):List Cod.EvD:=if RightJ j then(rowK j.dk.fs).1.flatMap (·.d.ev)else[]
end Jou
namespace Jou
open Go Go.Px Go.Proofs Go.RowKit Go.Shelf Tryz
set_option maxHeartbeats 2000000
attribute [local go_sem] Oper.semAt_some
def backS:Zl7 prog 167 (λc=>c 0) 1:=by
 refine⟨enters_of func167 Vk rfl,?_⟩;intro l o q p b off len h r s t J Kp d j u W f v w;have A:=f W (d W);refine callsIn_of_wp func167 rfl trivial ?_ rfl;simp only[Tryz.ntmps167,YJ,List.length_cons,Y9,Nat.reduceAdd,Nat.reduceSub,Wo,Wp,WI,Wz,Y5,Y2]
 gi_wp2
 gi_loopw [3] (λi wr=>∃k:Nat,k<=len/\i= .int .i64 ((len:Int)-1-k)/\J k wr/\Kp W wr)
  (λi _=>(intOf i+1).toNat)
 case atStart=>exact⟨0,Nat.zero_le _,Vs,w,d _⟩
 case round=>
  obtain⟨k,K,rfl,g,a⟩:=hrel;have E:wr.cell? ⟨o,q,none⟩=some (.slice p len h):=f wr a;by_cases hlt:k<len
  .obtain⟨L,x,m,y,M,z⟩:=u k wr g hlt;have n:=s Vo;subst n;have C:wr.cell? ⟨b,off+(len-1-k),none⟩=some (r (len-1-k) 0):=by have:=v (len-1-k) Vo 0 Vo wr a;simpa using this
   have F:(0:Int)<=(len:Int)-1-k:=Vo;have D:(len:Int)-1-k<len:=Vo;have G:((len:Int)-1-k).toNat=len-1-k:=Vo
   gi_wp2
   refine z.mono ?_;rintro e H ⟨rfl,hJ3,hk3⟩
   gi_wp2
   go_roundw
   case rel=>exact⟨k+1,Vo,Vm,hJ3,j a hk3⟩
   case measure=>simp[intOf];omega
  .obtain rfl:k=len:=Vo
   gi_wp2
   go_end0
   exact⟨⟨_,rfl⟩,g⟩
def backP:Zl7 prog 170 (λc=>.agg #[c 0,c 1,c 2,c 3,c 4,c 5,c 6,c 7,c 8,c 9,c 10]) 11:=by
 refine⟨enters_of func170 Vk rfl,?_⟩;intro l s t p b off len m d u v J Kp g n w W h f x;have C:=h W (g W);refine callsIn_of_wp func170 rfl trivial ?_ rfl;simp only[Tryz.ntmps170,YJ,List.length_cons,Y9,Nat.reduceAdd,Nat.reduceSub,Wo,Wp,WI,Wz,Y5,Y2]
 gi_wp2
 gi_loopw [3] (λi wr=>∃k:Nat,k<=len/\i= .int .i64 ((len:Int)-1-k)/\J k wr/\Kp W wr)
  (λi _=>(intOf i+1).toNat)
 case atStart=>exact⟨0,Nat.zero_le _,Vs,x,g _⟩
 case round=>
  obtain⟨k,V,rfl,j,a⟩:=hrel;have Q:wr.cell? ⟨s,t,none⟩=some (.slice p len m):=h wr a;by_cases hlt:k<len
  .obtain⟨X,y,o,z,Y,A⟩:=w k wr j hlt;have q:=u Vo;subst q;have D:wr.cell? ⟨b,off+(len-1-k)*11,none⟩=some (d (len-1-k) 0):=by have:=f (len-1-k) Vo 0 Vo wr a;simpa using this
   have E:wr.cell? ⟨b,off+(len-1-k)*11+1,none⟩=some (d (len-1-k) 1):=(by have:=f (len-1-k) Vo 1 Vo wr a;simpa using this);have F:wr.cell? ⟨b,off+(len-1-k)*11+2,none⟩=some (d (len-1-k) 2):=(by have:=f (len-1-k) Vo 2 Vo wr a;simpa using this);have G:wr.cell? ⟨b,off+(len-1-k)*11+3,none⟩=some (d (len-1-k) 3):=(by have:=f (len-1-k) Vo 3 Vo wr a;simpa using this);have H:wr.cell? ⟨b,off+(len-1-k)*11+4,none⟩=some (d (len-1-k) 4):=(by have:=f (len-1-k) Vo 4 Vo wr a;simpa using this);have K:wr.cell? ⟨b,off+(len-1-k)*11+5,none⟩=some (d (len-1-k) 5):=(by have:=f (len-1-k) Vo 5 Vo wr a;simpa using this);have L:wr.cell? ⟨b,off+(len-1-k)*11+6,none⟩=some (d (len-1-k) 6):=(by have:=f (len-1-k) Vo 6 Vo wr a;simpa using this);have M:wr.cell? ⟨b,off+(len-1-k)*11+7,none⟩=some (d (len-1-k) 7):=(by have:=f (len-1-k) Vo 7 Vo wr a;simpa using this);have N:wr.cell? ⟨b,off+(len-1-k)*11+8,none⟩=some (d (len-1-k) 8):=(by have:=f (len-1-k) Vo 8 Vo wr a;simpa using this);have O:wr.cell? ⟨b,off+(len-1-k)*11+9,none⟩=some (d (len-1-k) 9):=(by have:=f (len-1-k) Vo 9 Vo wr a;simpa using this);have r:wr.cell? ⟨b,off+(len-1-k)*11+10,none⟩=some (d (len-1-k) 10):=(by have:=f (len-1-k) Vo 10 Vo wr a;simpa using this);have R:(0:Int)<=(len:Int)-1-k:=Vo;have P:(len:Int)-1-k<len:=Vo;have T:((len:Int)-1-k).toNat=len-1-k:=Vo
   gi_wp2
   refine A.mono ?_;rintro e U ⟨rfl,hJ3,hk3⟩
   gi_wp2
   go_roundw
   case rel=>exact⟨k+1,Vo,Vm,hJ3,n a hk3⟩
   case measure=>simp[intOf];omega
  .obtain rfl:k=len:=Vo
   gi_wp2
   go_end0
   exact⟨⟨_,rfl⟩,j⟩
def ItJ:Nat->Option (FuncId×TypeId):=λp=>bif Nat.beq p 12 then some (167,9)else bif Nat.beq p 22 then some (170,98)else none
def hItJ:∀p f e z,ItJ p=some (f,e)->szT prog e=some z->Zl7 prog f (elOf prog e z) z:=by
 intro p f e z a b;unfold ItJ at a
 cases h1:Nat.beq p 12 with
 |true=>simp only[h1,cond_true,YC,Prod.mk.injEq]at a;obtain⟨rfl,rfl⟩:=a;obtain rfl:=Option.some.inj (b.symm.trans (show szT prog 9=some 1 by kernel_rfl));exact(show elOf prog 9 1=(λc=>c 0) by kernel_rfl)▸backS
 |false=>
  simp only[h1,cond_false]at a
  cases h2:Nat.beq p 22 with
  |true=>simp only[h2,cond_true,YC,Prod.mk.injEq]at a;obtain⟨rfl,rfl⟩:=a;obtain rfl:=Option.some.inj (b.symm.trans (show szT prog 98=some 11 by kernel_rfl));exact(show elOf prog 98 11=(λc=>.agg #[c 0,c 1,c 2,c 3,c 4,c 5,c 6,c 7,c 8,c 9,c 10]) by kernel_rfl)▸backP
  |false=>simp only[h2,cond_false]at a;cases a
end Jou
namespace Jou
open Go Go.Px Go.Proofs Cod Tryz
abbrev dk4(rows:LL)(b a:Int)(c:Bool):SV:=.agg [SL 3 rows,I b,I a,B c]
abbrev st3(rows:LL)(s a:Int):SV:=.agg [SL 21 rows,I s,I a]
abbrev cx3(s a:Int)(b:LL):SV:=.agg [I s,I a,SL 1 b]
abbrev ev7(s a k:Int)(c:BA)(x y z:Int):SV:=.agg [I s,I a,I k,S c,I x,I y,I z]
abbrev sg7(n f l fr b c:Int)(a:Bool):SV:=.agg [I n,I f,I l,I fr,I b,I c,B a]
abbrev sc10(num bs b:Int)(c ev:LL)(a d:Int)(e:LL)(f g:Int):SV:=.agg [I num,I bs,I b,SL 1 c,SL 7 ev,I a,I d,SL 1 e,I f,I g]
abbrev pt11(num bs c:Int)(d ev:LL)(a e:Int)(f:LL)(g h b:Int):SV:=.agg [I num,I bs,I c,SL 1 d,SL 7 ev,I a,I e,SL 1 f,I g,I h,I b]
abbrev fd7(row out:LL)(b:Int)(d:LL)(s a:Int)(c:Bool):SV:=.agg [SL 11 row,SL 1 out,I b,SL 21 d,I s,I a,B c]
abbrev jr16(rows:LL)(b a:Int)(c:Bool)(g h:Int)(segs:LL)(i j:Int)(k l:LL)(m n d e:Int)(f:Bool):SV:=.agg [SL 3 rows,I b,I a,B c,I g,I h,SL 7 segs,I i,I j,SL 1 k,SL 21 l,I m,I n,I d,I e,B f]
abbrev wr18(rows:LL)(b a:Int)(c:Bool)(i j:Int)(segs:LL)(k l:Int)(m n:LL)(o p d e:Int)(f:Bool)(g:LL)(h:Int):SV:=.agg [SL 3 rows,I b,I a,B c,I i,I j,SL 7 segs,I k,I l,SL 1 m,SL 21 n,I o,I p,I d,I e,B f,SL 1 g,I h]
abbrev sm(x:LL):Prop:=Option.some x=Option.some x
abbrev inR(x:Int)(l:LL):Prop:=(0:Int)<=x/\x<rlen l
abbrev ej0(r:List SV)(K:Nat->(List SV)->Prop):Prop:=∃a:Nat,∃b:List SV,(r=[SV.clo a b])/\K a b
abbrev ej1(r:List SV)(K:LL->Int->Int->Bool->Int->Prop):Prop:=∃a:LL,∃b:Int,∃c:Int,∃d:Bool,∃e:Int,(r=[dk4 a b c d,I e])/\K a b c d e
abbrev ej2(r:List SV)(K:BA->Prop):Prop:=∃a:BA,(r=[S a])/\K a
abbrev ej3(r:List SV)(K:Int->Int->Int->LL->LL->Int->Int->LL->Int->Int->Int->Prop):Prop:=∃b:Int,∃c:Int,∃d:Int,∃e:LL,∃f:LL,∃g:Int,∃h:Int,∃i:LL,∃j:Int,∃z9:Int,∃a:Int,(r=[I b,I c,I d,SL 1 e,SL 7 f,I g,I h,SL 1 i,I j,I z9,I a])/\K b c d e f g h i j z9 a
abbrev ej4(r:List SV)(K:Bool->Prop):Prop:=∃a:Bool,(r=[B a])/\K a
abbrev ej5(r:List SV)(K:Int->Int->Int->Int->Int->Int->Bool->Prop):Prop:=∃a:Int,∃b:Int,∃c:Int,∃d:Int,∃e:Int,∃f:Int,∃g:Bool,(r=[I a,I b,I c,I d,I e,I f,B g])/\K a b c d e f g
abbrev ej6(r:List SV)(K:LL->Int->Int->LL->Int->Prop):Prop:=∃a:LL,∃b:Int,∃c:Int,∃d:LL,∃e:Int,(r=[SL 1 a,cx3 b c d,I e])/\K a b c d e
abbrev ej7(r:List SV)(K:LL->Int->Prop):Prop:=∃a:LL,∃b:Int,(r=[SL 1 a,I b])/\K a b
abbrev ej8(r:List SV)(K:LL->Int->Int->Bool->Int->Int->LL->Int->Int->LL->LL->Int->Int->Int->Int->Bool->LL->Int->Prop):Prop:=∃i:LL,∃j:Int,∃k:Int,∃l:Bool,∃m:Int,∃n:Int,∃o:LL,∃p:Int,∃q:Int,∃z9:LL,∃a:LL,∃b:Int,∃c:Int,∃d:Int,∃e:Int,∃f:Bool,∃g:LL,∃h:Int,(r=[wr18 i j k l m n o p q z9 a b c d e f g h])/\K i j k l m n o p q z9 a b c d e f g h
abbrev ej9(r:List SV)(K:LL->Prop):Prop:=∃a:LL,(r=[SL 1 a])/\K a
abbrev ej10(r:List SV)(K:Int->Prop):Prop:=∃a:Int,(r=[I a])/\K a
abbrev ej11(r:List SV)(K:Int->Int->Int->LL->LL->Int->Int->LL->Int->Int->Prop):Prop:=∃a:Int,∃b:Int,∃c:Int,∃d:LL,∃e:LL,∃f:Int,∃g:Int,∃h:LL,∃i:Int,∃z9:Int,(r=[sc10 a b c d e f g h i z9])/\K a b c d e f g h i z9
abbrev ej12(r:List SV)(K:LL->LL->Prop):Prop:=∃a:LL,∃b:LL,(r=[SL 11 a,SL 1 b])/\K a b
abbrev ej13(r:List SV)(K:LL->Int->Int->Int->Prop):Prop:=∃a:LL,∃b:Int,∃c:Int,∃d:Int,(r=[st3 a b c,I d])/\K a b c d
abbrev ej14(r:List SV)(K:LL->Int->Int->Bool->Prop):Prop:=∃a:LL,∃b:Int,∃c:Int,∃d:Bool,(r=[st3 a b c,B d])/\K a b c d
abbrev ej15(r:List SV)(K:LL->LL->Int->LL->Int->Int->Bool->Prop):Prop:=∃a:LL,∃b:LL,∃c:Int,∃d:LL,∃e:Int,∃f:Int,∃g:Bool,(r=[fd7 a b c d e f g])/\K a b c d e f g
abbrev ej16(r:List SV)(K:LL->Prop):Prop:=∃a:LL,(r=[SL 7 a])/\K a
abbrev ej17(r:List SV)(K:Int->Int->LL->Prop):Prop:=∃a:Int,∃b:Int,∃c:LL,(r=[cx3 a b c])/\K a b c
abbrev ej18(r:List SV)(K:Bool->LL->Int->Int->Bool->Int->Int->LL->Int->Int->LL->LL->Int->Int->Int->Int->Bool->LL->Int->Prop):Prop:=∃j:Bool,∃k:LL,∃l:Int,∃m:Int,∃n:Bool,∃o:Int,∃p:Int,∃q:LL,∃s:Int,∃z9:Int,∃a:LL,∃b:LL,∃c:Int,∃d:Int,∃e:Int,∃f:Int,∃g:Bool,∃h:LL,∃i:Int,(r=[B j,wr18 k l m n o p q s z9 a b c d e f g h i])/\K j k l m n o p q s z9 a b c d e f g h i
abbrev ej19(r:List SV)(K:LL->Int->Int->Bool->Int->Int->LL->Int->Int->LL->LL->Int->Int->Int->Int->Bool->Int->Prop):Prop:=∃h:LL,∃i:Int,∃j:Int,∃k:Bool,∃l:Int,∃m:Int,∃n:LL,∃o:Int,∃p:Int,∃z9:LL,∃a:LL,∃b:Int,∃c:Int,∃d:Int,∃e:Int,∃f:Bool,∃g:Int,(r=[jr16 h i j k l m n o p z9 a b c d e f,I g])/\K h i j k l m n o p z9 a b c d e f g
abbrev ej20(r:List SV)(K:BA->Bool->Prop):Prop:=∃a:BA,∃b:Bool,(r=[S a,B b])/\K a b
abbrev ej21(r:List SV)(K:Int->Int->Int->BA->Int->Int->Int->Prop):Prop:=∃a:Int,∃b:Int,∃c:Int,∃d:BA,∃e:Int,∃f:Int,∃g:Int,(r=[I a,I b,I c,S d,I e,I f,I g])/\K a b c d e f g
abbrev sgW:Sig:=⟨[.lend [false,false,false,false,false,false,true,false,false,false,false,false,false,false,false,false,true,false]],[]⟩
abbrev sgP:Sig:=⟨[.lend [false,false,false,false,false,false,true,false,false,false,false,false,false,false,false,false,true,false,false,false,false,false,false,false,false,false,false,false,false,false,false,false,false,false,false,false,false,false,false,false,false,false,false,false,false,false,false,false,false,false,false,false,false,false,false,false,false,false,false,false,false,false,false,false,false,false,false,false,false,false,true]],[]⟩
def SgT:FuncId->Sig:=(λf=>bif Nat.beq f 54 then⟨[],[.own]⟩else bif Nat.beq f 56 then sgW else bif Nat.beq f 58 then sgW else bif Nat.beq f 59 then sgW else bif Nat.beq f 60 then sgW else bif Nat.beq f 123 then sgP else bif Nat.beq f 124 then⟨[],[.own,.pure]⟩else bif Nat.beq f 192 then⟨[],[.own,.pure]⟩else bif Nat.beq f 293 then⟨[],[.own]⟩else bif Nat.beq f 271 then⟨[],[.own]⟩else bif Nat.beq f 94 then⟨[],[.own]⟩else bif Nat.beq f 140 then⟨[],[.own]⟩else{})
def SvT:TypeId->Sig:=(λf=>{})
def jmaybe_nf(h:Q [B (bpick (bpick (bpick (ige b 64) (ile b 65536) false) (ige i 1) false) (ile i 1099511627776) false)]):Ct prog 38 {} [.agg [I b,I i]] Q:=
 fN SgT SvT func38 h
def jrun_nf{rows:LL}(h:∃g:Int->LL->Int->Int->Bool->Prop,∃m:Int->LL->Int->Int->Bool->Nat,(g 0 rows i c o)/\∀x a,∀d j b,(g x a d j b)->ifB (ilt x (rlen l)) ((inR x l)/\ej0 (rget l x) λf t=>(Cl prog f sP ((dk4 a d j b)::t) (λr=>ej1 r λn e p q s=>(ifB (ine s 0) (Q ([dk4 n e p q,I s])) ((sm ([[SV.slice 3 [] 1,I 0,I 0,B false]]))/\(g (wadd .i64 x 1) n e p q)/\Nl (m (wadd .i64 x 1) n e p q) (m x a d j b)))))) (Q ([dk4 a d j b,I 0]))):Ct prog 50 {} [dk4 rows i c o,SL 1 l] Q:=
 fO SgT SvT (λk=>bif Nat.beq k 12 then some {slots:=[(11,false,[.int .i64])],boxes:=[(256,[.sl 3,.int .i64,.int .i64,.bool])],fixed:=[512]}else none) func50 h
def mend_nf(row out:LL)(d:Int)(u:LL)(s a:Int)(e:Bool)(Q:QQ)(h:Cl prog 107 sP [SL 1 out] (λD=>ej0 D λf z=>(∃l,(f=167)/\(z=[SV.ref 0 [SL 1 l]])/\((rlen l)<=2147483648)/\∃j:Int->LL->Prop,(j 0 [])/\(∀x,(0<=x)->(x<(rlen l))->∀m,(j x m)->ej2 (rget l (kdn (rlen l) x)) λo=>(Cl prog 108 sP [S o] (λp=>ej0 p λv i=>(((lsum (rlen m) (rlen ([[SV.clo v i]])))<=2147483648)/\(sm ([[SL 11 row,SL 1 out,I d,SL 21 u,I s,I a,B e]]))/\j (kup x) (rapp m ([[SV.clo v i]]))))))/\∀m,(j (rlen l) m)->Cl prog 109 sP [SL 11 row] (λp=>ej0 p λv i=>(∃n,(v=170)/\(i=[SV.ref 0 [SL 11 n]])/\((rlen n)<=2147483648)/\∃b:Int->LL->Prop,(b 0 m)/\(∀x,(0<=x)->(x<(rlen n))->∀c,(b x c)->ej3 (rget n (kdn (rlen n) x)) λA E F G H J C K L w y=>(ifB (igt y w) (Cl prog 68 sP [I A] (λq=>ej2 q λo=>(Cl prog 110 sP [S o,I w] (λr=>ej0 r λt g=>(((lsum (rlen c) (rlen ([[SV.clo t g]])))<=2147483648)/\(sm ([[SL 11 row,SL 1 out,I d,SL 21 u,I s,I a,B e]]))/\b (kup x) (rapp c ([[SV.clo t g]]))))))) ((sm ([[SL 11 row,SL 1 out,I d,SL 21 u,I s,I a,B e]]))/\b (kup x) c)))/\∀c,(b (rlen n) c)->ifB (igt (rlen row) 0) ((inR (wsub .i64 (rlen row) 1) row)/\ej3 (rget row (wsub .i64 (rlen row) 1)) λx A E G H F J K C L w=>(ifB (ine C 4) ((inR (wsub .i64 (rlen row) 1) row)/\ej3 (rget row (wsub .i64 (rlen row) 1)) λy U M V W N O X P R T=>(Cl prog 68 sP [I y] (λq=>ej2 q λo=>(Cl prog 111 sP [S o] (λr=>ej0 r λt g=>(((lsum (rlen c) (rlen ([[SV.clo t g]])))<=2147483648)/\Q ([SL 1 (rapp c ([[SV.clo t g]]))]))))))) (Q [SL 1 c]))) (Q [SL 1 c])))))):Ct prog 51 {} [fd7 row out d u s a e] Q:=
 fnR_of (f:=51) SgT SvT (λk=>bif Nat.beq k 5000012 then some {slots:=[],boxes:=[(384,[.own 1])],fixed:=[128]}else bif Nat.beq k 5000022 then some {slots:=[],boxes:=[(384,[.own 1])],fixed:=[128]}else none) hItJ Tryz.f51 func51 Vk Vk h
def jsegs_nf{row:LL}(h:∃a:LL->Int->Prop,∃m:LL->Int->Nat,(a [] 0)/\∀l x,(a l x)->ifB (ilt x (rlen row)) ((inR x row)/\ej3 (rget row x) λb c d k n e g o i j p=>(((lsum (rlen l) (rlen ([[I b,I c,I e,I d,I g,I j,B (ieq i 4)]])))<=2147483648)/\((Option.some []:Option LL)=Option.some [])/\(a (rapp l ([[I b,I c,I e,I d,I g,I j,B (ieq i 4)]])) (wadd .i64 x 1))/\Nl (m (rapp l ([[I b,I c,I e,I d,I g,I j,B (ieq i 4)]])) (wadd .i64 x 1)) (m l x))) (Q [SL 7 l])):Ct prog 42 {} [SL 11 row] Q:=
 fN SgT SvT func42 h
def jahead_nf{row:LL}(h:ifB (ieq (rlen row) 0) (Q ([cx3 0 0 []])) ((inR (wsub .i64 (rlen row) 1) row)/\ej3 (rget row (wsub .i64 (rlen row) 1)) λx k m l n o p q c r s=>(ifB (ieq c 4) (Q ([cx3 0 0 []])) ((inR (wsub .i64 (rlen row) 1) row)/\ej3 (rget row (wsub .i64 (rlen row) 1)) λt u e v w a b d g i j=>(Q ([cx3 a b d])))))):Ct prog 44 {} [SL 11 row] Q:=
 fN SgT SvT func44 h
def jsame_nf(h:ifB (bpick (ieq i e) (ieq c j) false) (Cl prog 100 sP [SL 1 l,SL 1 r] (λg=>ej4 g λb=>(Q [B b]))) (Q [B false])):Ct prog 43 {} [cx3 i c l,cx3 e j r] Q:=
 fN SgT SvT func43 h
def jmay_nf{rows:LL}{segs:LL}{p q m g:Int}(h:Cl prog 39 sP ([dk4 rows i j o]) (λs=>ej4 s λa=>(ifB (bpick a o false) (Q [I 16]) (Cl prog 13 sP ([jr16 rows i j o b k segs c e l r p q m g O]) (λn=>ej4 n λt=>(ifB (bnot t) (Q [I 1]) (Q [I 0]))))))):Ct prog 52 {} [jr16 rows i j o b k segs c e l r p q m g O] Q:=
 fN SgT SvT func52 h
def jover_nf{rows:LL}{segs:LL}{y z d g:Int}{q m w:Int}{s u v:Int}(h:ifB (ieq (rlen segs) 0) (Q [B false]) ((inR (wsub .i64 (rlen segs) 1) segs)/\ej5 (rget segs (wsub .i64 (rlen segs) 1)) λx A C D H E n=>(ifB (bpick n true (ile C A)) (Q [B false]) (Cl prog 121 sP ([cx3 b e l,ev7 q m w t s u v]) (λF=>ej6 F λp J K L G=>(ifB (bpick (ine G 0) true (igt (wadd .i64 E (rlen p)) k)) (Q [B true]) (Q [B (igt (wsub .i64 m D) j)]))))))):Ct prog 55 {} [jr16 rows c i o k j segs b e l r y z d g O,ev7 q m w t s u v] Q:=
 fN SgT SvT func55 h
def wopen_nf{rows:LL}{segs:LL}{q s d g:Int}{p:LL}(h:ifB (igt (rlen segs) 0) ((inR (wsub .i64 (rlen segs) 1) segs)/\(inR (wsub .i64 (rlen segs) 1) segs)/\ej5 (rget segs (wsub .i64 (rlen segs) 1)) λx t u v w y n=>(Q ([B (bnot n),wr18 rows c i o j k segs b e l r q s d g O p z]))) (Q ([B false,wr18 rows c i o j k segs b e l r q s d g O p z]))):Ct prog 58 sgW [wr18 rows c i o j k segs b e l r q s d g O p z] Q:=
 fN SgT SvT func58 h
def wput_nf{rows:LL}{segs:LL}{C D g d:Int}{a:LL}{bs:LL}(h:(inR (wsub .i64 (rlen segs) 1) segs)/\(inR (wsub .i64 (rlen segs) 1) segs)/\ej5 (rget segs (wsub .i64 (rlen segs) 1)) λx u P R T n w=>((inR (wsub .i64 (rlen segs) 1) segs)/\ej5 (rget segs (wsub .i64 (rlen segs) 1)) λy p q A v H t=>((inR (wsub .i64 (rlen segs) 1) (rset segs (wsub .i64 (rlen segs) 1) [I y,I p,I q,I A,I v,I (wadd .i64 n (rlen bs)),B t]))/\ej5 (rget (rset segs (wsub .i64 (rlen segs) 1) [I y,I p,I q,I A,I v,I (wadd .i64 n (rlen bs)),B t]) (wsub .i64 (rlen segs) 1)) λE J K L M N U=>(Cl prog 68 sP [I E] (λG=>ej2 G λs=>(Cl prog 195 sP [S s,SL 1 bs] (λF=>ej0 F λf m=>(((lsum (rlen a) (rlen ([[SV.clo f m]])))<=2147483648)/\Q ([wr18 rows i c o j k (rset segs (wsub .i64 (rlen segs) 1) [I y,I p,I q,I A,I v,I (wadd .i64 n (rlen bs)),B t]) b e l r C D g d O (rapp a ([[SV.clo f m]])) (wadd .i64 z (rlen bs))]))))))))):Ct prog 123 sgP [wr18 rows i c o j k segs b e l r C D g d O a z,SL 1 bs] Q:=
 fN SgT SvT func123 h
def wseal_nf{rows:LL}{segs:LL}{w y d g:Int}{t:LL}(h:(inR (wsub .i64 (rlen segs) 1) segs)/\(inR (wsub .i64 (rlen segs) 1) segs)/\ej5 (rget segs (wsub .i64 (rlen segs) 1)) λx x1 W x3 x4 x5 n=>((inR (wsub .i64 (rlen segs) 1) segs)/\ej5 (rget segs (wsub .i64 (rlen segs) 1)) λx6 X x8 x9 a0 a1 b1=>(Cl prog 122 sP ([I (wsub .i64 W X),cx3 b e l]) (λY=>ej7 Y λp u=>(ifB (ine u 0) (Q ([B false,wr18 rows c i o j k segs b e l r w y d g O t z])) (Cl prog 123 sgP ([wr18 rows c i o j k segs b e l r w y d g O t z,SL 1 p]) (λA=>ej8 A λZ C D b2 E F m a2 a3 l3 l4 q G a4 H b3 J K=>((inR (wsub .i64 (rlen segs) 1) m)/\ej5 (rget m (wsub .i64 (rlen segs) 1)) λL a5 a6 a7 a8 a9 b4=>(Cl prog 68 sP [I L] (λM=>ej2 M λs=>(Cl prog 111 sP [S s] (λN=>ej0 N λf v=>(((lsum (rlen J) (rlen ([[SV.clo f v]])))<=2147483648)/\(inR (wsub .i64 (rlen segs) 1) m)/\ej5 (rget m (wsub .i64 (rlen segs) 1)) λa P R T U V b5=>(Q ([B true,wr18 Z C D b2 E F (rset m (wsub .i64 (rlen segs) 1) [I a,I P,I R,I T,I U,I V,B true]) 0 0 [] l4 q G q H b3 (rapp J ([[SV.clo f v]])) K]))))))))))))))):Ct prog 56 sgW [wr18 rows c i o j k segs b e l r w y d g O t z] Q:=
 fN SgT SvT func56 h
def wbegin_nf{rows:LL}{segs:LL}{v d a p:Int}{t:LL}{Q:QQ}(h:ifB (igt (rlen segs) 0) ((inR (wsub .i64 (rlen segs) 1) segs)/\(inR (wsub .i64 (rlen segs) 1) segs)/\ej5 (rget segs (wsub .i64 (rlen segs) 1)) λx N m P R Z q=>(Cl prog 68 sP [I (wadd .i64 x 1)] (λD=>ej2 D λs=>(ifB (bpick (seq s (bA [])) true (igt (wadd .i64 (rlen rows) 1) 64)) (Q ([B false,wr18 rows i j o k b segs c e l r v d a p O t z])) (Cl prog 124 (Sig.mk [] [Md.own,Md.pure]) ([I (wadd .i64 x 1),cx3 v d []]) (λw=>ej7 w λu T=>(ifB (ine T 0) (Q ([B false,wr18 rows i j o k b segs c e l r v d a p O t z])) (Cl prog 125 sP [S s] (λy=>ej0 y λf g=>(((lsum (rlen t) (rlen ([[SV.clo f g]])))<=2147483648)/\((lsum (rlen segs) (rlen ([[I (wadd .i64 x 1),I v,I v,I d,I d,I 0,B false]])))<=2147483648)/\Cl prog 123 sgP ([wr18 rows i j o k b (rapp segs ([[I (wadd .i64 x 1),I v,I v,I d,I d,I 0,B false]])) c e l r v d a p O (rapp t ([[SV.clo f g]])) z,SL 1 u]) (λn=>ej8 n λE F G H J A K C a0 l3 L U V W X b2 M Y=>(Q ([B true,wr18 E F G H J A K v d [] L U V W X b2 M Y]))))))))))))) (Cl prog 68 sP [I 1] (λD=>ej2 D λs=>(ifB (bpick (seq s (bA [])) true (igt (wadd .i64 (rlen rows) 1) 64)) (Q ([B false,wr18 rows i j o k b segs c e l r v d a p O t z])) (Cl prog 124 (Sig.mk [] [Md.own,Md.pure]) ([I 1,cx3 v d []]) (λw=>ej7 w λu x=>(ifB (ine x 0) (Q ([B false,wr18 rows i j o k b segs c e l r v d a p O t z])) (Cl prog 125 sP [S s] (λy=>ej0 y λf g=>(((lsum (rlen t) (rlen ([[SV.clo f g]])))<=2147483648)/\((lsum (rlen segs) (rlen ([[I 1,I v,I v,I d,I d,I 0,B false]])))<=2147483648)/\Cl prog 123 sgP ([wr18 rows i j o k b (rapp segs ([[I 1,I v,I v,I d,I d,I 0,B false]])) c e l r v d a p O (rapp t ([[SV.clo f g]])) z,SL 1 u]) (λn=>ej8 n λE N m q P R K Z T l3 L F G J A H M C=>(Q ([B true,wr18 E N m q P R K v d [] L F G J A H M C]))))))))))))):Ct prog 59 sgW [wr18 rows i j o k b segs c e l r v d a p O t z] Q:=
 fN SgT SvT func59 h
def wrec_nf{rows:LL}{segs:LL}{C D g d:Int}{T:LL}{s E R:Int}{U V W:Int}(h:(Cl prog 121 sP ([cx3 k b l,ev7 s E R t U V W]) (λX=>ej6 X λv x Y Z x2=>(ifB (ine x2 0) (Q ([B false,wr18 rows i c o j z segs k b l r C D g d O T e])) (Cl prog 123 sgP ([wr18 rows i c o j z segs k b l r C D g d O T e,SL 1 v]) (λF=>ej8 F λl2 x3 x4 u x5 x6 a x7 x8 l4 l5 x9 G H J b1 l6 K=>((inR (wsub .i64 (rlen a) 1) a)/\(inR (wsub .i64 (rlen a) 1) a)/\ej5 (rget a (wsub .i64 (rlen a) 1)) λn m a0 p q A w=>((inR (wsub .i64 (rlen a) 1) (rset a (wsub .i64 (rlen a) 1) [I n,I m,I s,I p,I q,I A,B w]))/\ej5 (rget (rset a (wsub .i64 (rlen a) 1) [I n,I m,I s,I p,I q,I A,B w]) (wsub .i64 (rlen a) 1)) λL M N y a1 P b3=>(Q ([B true,wr18 l2 x3 x4 u x5 x6 (rset (rset a (wsub .i64 (rlen a) 1) [I n,I m,I s,I p,I q,I A,B w]) (wsub .i64 (rlen a) 1) [I L,I M,I N,I y,I E,I P,B b3]) x Y Z l5 x9 G H J b1 l6 K])))))))))/\Cl prog 121 sP ([cx3 k b l,ev7 s E R t U V W]) (λX=>ej6 X λv x Y Z x2=>(ifB (ine x2 0) (Q ([B false,wr18 rows i c o j z segs k b l r C D g d O T e])) (Cl prog 123 sgP ([wr18 rows i c o j z segs k b l r C D g d O T e,SL 1 v]) (λF=>ej8 F λl2 x3 x4 u x5 x6 a x7 x8 l4 l5 x9 G H J b1 l6 K=>((inR (wsub .i64 (rlen a) 1) a)/\(inR (wsub .i64 (rlen a) 1) a)/\ej5 (rget a (wsub .i64 (rlen a) 1)) λn m a0 p q A w=>((inR (wsub .i64 (rlen a) 1) (rset a (wsub .i64 (rlen a) 1) [I n,I m,I s,I p,I q,I A,B w]))/\ej5 (rget (rset a (wsub .i64 (rlen a) 1) [I n,I m,I s,I p,I q,I A,B w]) (wsub .i64 (rlen a) 1)) λL M N y a1 P b3=>(Q ([B true,wr18 l2 x3 x4 u x5 x6 (rset (rset a (wsub .i64 (rlen a) 1) [I n,I m,I s,I p,I q,I A,B w]) (wsub .i64 (rlen a) 1) [I L,I M,I N,I y,I E,I P,B b3]) x Y Z l5 x9 G H J b1 l6 K]))))))))):Ct prog 60 sgW [wr18 rows i c o j z segs k b l r C D g d O T e,ev7 s E R t U V W] Q:=
 fN SgT SvT func60 h
def jsync_nf(h:Q ([SV.clo 173 ([SV.ref 0 [S t]])])):Ct prog 111 {} [S t] Q:=
 fN SgT SvT func111 h
def Zyn(h:Q ([SV.clo 168 ([SV.ref 0 [S t]])])):Ct prog 108 {} [S t] Q:=
 fN SgT SvT func108 h
def jcut_nf(h:Q ([SV.clo 171 ([SV.ref 0 [S t],SV.ref 0 [I k]])])):Ct prog 110 {} [S t,I k] Q:=
 fN SgT SvT func110 h
def Zyo(h:Q ([SV.clo 196 ([SV.ref 0 [S t]])])):Ct prog 125 {} [S t] Q:=
 fN SgT SvT func125 h
def jwrite_nf(h:Q ([SV.clo 273 ([SV.ref 0 [S t],SV.ref 0 [SL 1 l]])])):Ct prog 195 {} [S t,SL 1 l] Q:=
 fN SgT SvT func195 h
def jsync1_nf{rows:LL}(h:Cl prog 174 sP ([dk4 rows c i o,S t]) (λe=>ej1 e λl x g b a=>(Q ([dk4 l x g b,I a])))):Ct prog 173 {} [dk4 rows c i o,.ref 0 [S t]] Q:=
 fN SgT SvT func173 h
def Zss{rows:LL}(h:Cl prog 169 sP ([dk4 rows c i o,S t]) (λe=>ej1 e λl x g b a=>(Q ([dk4 l x g b,I a])))):Ct prog 168 {} [dk4 rows c i o,.ref 0 [S t]] Q:=
 fN SgT SvT func168 h
def jcut1_nf{rows:LL}(h:Cl prog 172 sP ([dk4 rows c i o,S t,I k]) (λe=>ej1 e λl x g b a=>(Q ([dk4 l x g b,I a])))):Ct prog 171 {} [dk4 rows c i o,.ref 0 [S t],.ref 0 [I k]] Q:=
 fN SgT SvT func171 h
def Zst{rows:LL}(h:Cl prog 197 sP ([dk4 rows c i o,S t]) (λe=>ej1 e λl x g b a=>(Q ([dk4 l x g b,I a])))):Ct prog 196 {} [dk4 rows c i o,.ref 0 [S t]] Q:=
 fN SgT SvT func196 h
def Zyp{rows:LL}(h:Cl prog 274 sP ([dk4 rows c i o,S t,SL 1 l]) (λe=>ej1 e λbs x g b a=>(Q ([dk4 bs x g b,I a])))):Ct prog 273 {} [dk4 rows c i o,.ref 0 [S t],.ref 0 [SL 1 l]] Q:=
 fN SgT SvT func273 h
def Zsu{num bs g:Int}{s:LL}{a t q:Int}{m n:LL}{o:LL}{d p u:Int}(h:Q [B (bpick (bpick (bpick (ieq d 4) (ieq num (wadd .i64 a 1)) false) (ieq bs e) false) (ieq g z) false)]):Ct prog 161 {} [pt11 num bs g l r i j s k b c,pt11 a t q m n e z o d p u] Q:=
 fN SgT SvT func161 h
def jrows_nf{rows:LL}(h:Cl prog 159 sP ([dk4 rows e c o]) (λU=>ej9 U λl=>(∃j:LL->LL->Int->Prop,∃m:LL->LL->Int->Nat,(j [] [] 0)/\∀a d x,(j a d x)->ifB (ilt x (rlen l)) ((inR x l)/\ej2 (rget l x) λs=>(Cl prog 160 sP [S s] (λA=>ej10 A λy=>(ifB (ieq y 0) ((sm ([[SL 3 rows,I e,I c,B o]]))/\(j a d (wadd .i64 x 1))/\Nl (m a d (wadd .i64 x 1)) (m a d x)) (Cl prog 67 sP ([dk4 rows e c o,S s]) (λC=>ej7 C λt V=>(ifB (ine V 0) ((sm ([[SL 3 rows,I e,I c,B o]]))/\(j a d (wadd .i64 x 1))/\Nl (m a d (wadd .i64 x 1)) (m a d x)) (Cl prog 69 sP [SL 1 t] (λD=>ej11 D λW X Y Z l5 x6 x7 l6 x8 z=>((((0:Int)<=0)/\(0<=z)/\z<=(rlen t))/\Cl prog 69 sP [SL 1 (rsub t 0 z)] (λE=>ej11 E λi k n u v g p w q r=>(ifB (bpick (bpick (ieq (rlen d) 0) (ieq i y) false) (igt (rlen a) 0) false) ((inR (wsub .i64 (rlen a) 1) a)/\(inR (wsub .i64 (rlen a) 1) a)/\ej3 (rget a (wsub .i64 (rlen a) 1)) λF G H J K L M N O P R=>(Cl prog 161 sP ([pt11 i k n u v g p w q r (rlen t),pt11 F G H J K L M N O P R]) (λT=>ej4 T λb=>(ifB b (((lsum (rlen a) (rlen ([[I i,I k,I n,SL 1 u,SL 7 v,I g,I p,SL 1 w,I q,I r,I (rlen t)]])))<=2147483648)/\(sm ([[SL 3 rows,I e,I c,B o]]))/\(j (rapp a ([[I i,I k,I n,SL 1 u,SL 7 v,I g,I p,SL 1 w,I q,I r,I (rlen t)]])) d (wadd .i64 x 1))/\Nl (m (rapp a ([[I i,I k,I n,SL 1 u,SL 7 v,I g,I p,SL 1 w,I q,I r,I (rlen t)]])) d (wadd .i64 x 1)) (m a d x)) (((lsum (rlen d) (rlen ([[S s]])))<=2147483648)/\(sm ([[SL 3 rows,I e,I c,B o]]))/\(j a (rapp d ([[S s]])) (wadd .i64 x 1))/\Nl (m a (rapp d ([[S s]])) (wadd .i64 x 1)) (m a d x)))))) (ifB (bpick (ieq (rlen d) 0) (ieq i y) false) (((lsum (rlen a) (rlen ([[I i,I k,I n,SL 1 u,SL 7 v,I g,I p,SL 1 w,I q,I r,I (rlen t)]])))<=2147483648)/\(sm ([[SL 3 rows,I e,I c,B o]]))/\(j (rapp a ([[I i,I k,I n,SL 1 u,SL 7 v,I g,I p,SL 1 w,I q,I r,I (rlen t)]])) d (wadd .i64 x 1))/\Nl (m (rapp a ([[I i,I k,I n,SL 1 u,SL 7 v,I g,I p,SL 1 w,I q,I r,I (rlen t)]])) d (wadd .i64 x 1)) (m a d x)) (((lsum (rlen d) (rlen ([[S s]])))<=2147483648)/\(sm ([[SL 3 rows,I e,I c,B o]]))/\(j a (rapp d ([[S s]])) (wadd .i64 x 1))/\Nl (m a (rapp d ([[S s]])) (wadd .i64 x 1)) (m a d x))))))))))))))) (Q [SL 11 a,SL 1 d])))):Ct prog 97 {} [dk4 rows e c o] Q:=
 fN SgT SvT func97 h
def jlook_nf{rows:LL}(h:Cl prog 97 sP ([dk4 rows i j o]) (λH=>ej12 H λl n=>(Cl prog 98 sP ([dk4 rows i j o]) (λy=>ej13 y λp x q J=>(ifB (ieq J 0) (ifB (igt (rlen l) 0) ((inR (wsub .i64 (rlen l) 1) l)/\ej3 (rget l (wsub .i64 (rlen l) 1)) λr t K u L w M N O P z=>(ifB (ilt w x) (∃k:LL->Int->Prop,∃m:LL->Int->Nat,(k [] 0)/\∀d a,(k d a)->ifB (ilt a (rlen l)) ((inR a l)/\ej3 (rget l a) λe g A v R C D T E F G=>(Cl prog 68 sP [I e] (λc=>ej2 c λs=>(((lsum (rlen d) (rlen ([[S s]])))<=2147483648)/\(sm ([[SL 21 p,I x,I q],[SL 11 l,SL 1 n,I x,SL 21 p,I x,I q,B false],[SV.slice 11 [] 1,SV.slice 1 [] 1,I 0,SV.slice 21 [] 1,I 0,I 0,B false],[SL 3 rows,I i,I j,B o]]))/\(k (rapp d ([[S s]])) (wadd .i64 a 1))/\Nl (m (rapp d ([[S s]])) (wadd .i64 a 1)) (m d a))))) (((lsum (rlen d) (rlen n))<=2147483648)/\Cl prog 99 sP ([SL 11 [],st3 p x q]) (λc=>ej14 c λv e g b=>(Q ([fd7 [] (rapp d n) x v e g b]))))) (Cl prog 99 sP ([SL 11 l,st3 p x q]) (λc=>ej14 c λd a e b=>(Q ([fd7 l n x d a e b])))))) (Cl prog 99 sP ([SL 11 l,st3 p x q]) (λc=>ej14 c λu r t b=>(Q ([fd7 l n x u r t b]))))) (ifB (igt (rlen l) 0) ((inR (wsub .i64 (rlen l) 1) l)/\ej3 (rget l (wsub .i64 (rlen l) 1)) λr t K u L w M N O P z=>(ifB (ilt w 0) (∃k:LL->Int->Prop,∃m:LL->Int->Nat,(k [] 0)/\∀d a,(k d a)->ifB (ilt a (rlen l)) ((inR a l)/\ej3 (rget l a) λe g A v R C D T E F G=>(Cl prog 68 sP [I e] (λc=>ej2 c λs=>(((lsum (rlen d) (rlen ([[S s]])))<=2147483648)/\(sm ([[SL 21 p,I x,I q],[SL 11 l,SL 1 n,I 0,SV.slice 21 [] 1,I 0,I 0,B false],[SV.slice 11 [] 1,SV.slice 1 [] 1,I 0,SV.slice 21 [] 1,I 0,I 0,B false],[SL 3 rows,I i,I j,B o]]))/\(k (rapp d ([[S s]])) (wadd .i64 a 1))/\Nl (m (rapp d ([[S s]])) (wadd .i64 a 1)) (m d a))))) (((lsum (rlen d) (rlen n))<=2147483648)/\Cl prog 99 sP ([SL 11 [],st3 [] 0 0]) (λc=>ej14 c λv e g b=>(Q ([fd7 [] (rapp d n) 0 v e g b]))))) (Cl prog 99 sP ([SL 11 l,st3 [] 0 0]) (λc=>ej14 c λd a e b=>(Q ([fd7 l n 0 d a e b])))))) (Cl prog 99 sP ([SL 11 l,st3 [] 0 0]) (λc=>ej14 c λu r t b=>(Q ([fd7 l n 0 u r t b])))))))))):Ct prog 40 {} [dk4 rows i j o] Q:=
 fN SgT SvT func40 h
def jopen_nf{rows:LL}(h:Cl prog 39 sP ([dk4 rows i j o]) (λy=>ej4 y λb=>(ifB (bnot b) (Q ([jr16 rows i j o 0 0 [] 0 0 [] [] 0 0 0 0 false,I 1])) (Cl prog 38 sP ([SV.agg [I e,I k]]) (λa=>ej4 a λz=>(ifB (bnot z) (Q ([jr16 rows i j o 0 0 [] 0 0 [] [] 0 0 0 0 false,I 1])) (ifB o (Q ([jr16 rows i j o 0 0 [] 0 0 [] [] 0 0 0 0 false,I 16])) (Cl prog 40 sP ([dk4 rows i j o]) (λg=>ej15 g λl A x m d n c=>(ifB (bnot c) (Q ([jr16 rows i j o 0 0 [] 0 0 [] [] 0 0 0 0 false,I 11])) (Cl prog 51 sP ([fd7 l A x m d n c]) (λp=>ej9 p λC=>(Cl prog 50 sP ([dk4 rows i j o,SL 1 C]) (λq=>ej1 q λr s t b3 u=>(ifB (ine u 0) (Q ([jr16 r s t b3 0 0 [] 0 0 [] [] 0 0 0 0 false,I u])) (Cl prog 42 sP [SL 11 l] (λv=>ej16 v λD=>(Cl prog 44 sP [SL 11 l] (λw=>ej17 w λE F G=>(Q ([jr16 r s t b3 e k D E F G m d n d x false,I 0]))))))))))))))))))))):Ct prog 19 {} [dk4 rows i j o,.agg [I e,I k]] Q:=
 fN SgT SvT func19 h
def jright_nf{rows:LL}{segs:LL}{n u t g:Int}(h:Cl prog 38 sP ([SV.agg [I k,I b]]) (λR=>ej4 R λp=>(ifB (bnot p) (Q [B false]) (Cl prog 39 sP ([dk4 rows i j o]) (λv=>ej4 v λT=>(ifB (bpick (bnot T) true o) (Q [B false]) (Cl prog 40 sP ([dk4 rows i j o]) (λw=>ej15 w λs y x z A C D=>(ifB (bpick (bnot D) true (igt (rlen y) 0)) (Q [B false]) (∃q:Bool->Int->Prop,∃m:Bool->Int->Nat,(q false 0)/\∀b3 d,(q b3 d)->ifB (ilt d (rlen s)) ((inR d s)/\ej3 (rget s d) λE F W G H X Y Z x9 J K=>(ifB (igt K J) (Q [B false]) ((sm ([[SL 11 s,SL 1 y,I x,SL 21 z,I A,I C,B D],[SL 3 rows,I i,I j,B o,I k,I b,SL 7 segs,I c,I e,SL 1 l,SL 21 r,I n,I u,I t,I g,B O]]))/\(q b3 (wadd .i64 d 1))/\Nl (m b3 (wadd .i64 d 1)) (m b3 d)))) (Cl prog 42 sP [SL 11 s] (λL=>ej16 L λG=>(Cl prog 41 sP [SL 7 segs,SL 7 G] (λM=>ej4 M λU=>(ifB (bnot U) (Q [B false]) (Cl prog 44 sP [SL 11 s] (λN=>ej17 N λE F H=>(Cl prog 43 sP ([cx3 c e l,cx3 E F H]) (λa=>ej4 a λb5=>(ifB (bnot b5) (Q [B false]) (Cl prog 45 sP ([st3 r n u,st3 z A C]) (λP=>ej4 P λV=>(ifB (bpick (bnot V) true (ine g x)) (Q [B false]) (Q [B (bpick (ige t g) (ile t n) false)])))))))))))))))))))))))):Ct prog 13 {} [jr16 rows i j o k b segs c e l r n u t g O] Q:=
 fN SgT SvT func13 h
def Zyq{rows:LL}{segs:LL}{p d g a:Int}{es P R:Int}{U V W:Int}(h:Cl prog 52 sP ([jr16 rows c i o j k segs b e l r p d g a O]) (λrs=>ej10 rs λx=>(ifB (ine x 0) (Q ([jr16 rows c i o j k segs b e l r p d g a O,I x])) (Cl prog 53 sP ([st3 r p d,ev7 (wadd .i64 p 1) P R t U V W]) (λb0=>ej13 b0 λT x1 x2 x3=>(ifB (ine x3 0) (Q ([jr16 rows c i o j k segs b e l r p d g a O,I x3])) (ifB O (Q ([jr16 rows c i o j k segs b e l r p d g a O,I 13])) (Cl prog 54 sO [SL 7 segs] (λba=>ej16 ba λl1=>(∃az:Bool->LL->Int->Int->Bool->Int->Int->LL->Int->Int->LL->LL->Int->Int->Int->Int->Bool->LL->Int->Prop,∃m:Bool->LL->Int->Int->Bool->Int->Int->LL->Int->Int->LL->LL->Int->Int->Int->Int->Bool->LL->Int->Nat,(Cl prog 55 sP ([jr16 rows c i o j k segs b e l r p d g a O,ev7 (wadd .i64 p 1) P R t U V W]) (λu=>ej4 u λn=>(ifB n (Cl prog 56 sgW ([wr18 rows c i o j k l1 b e l r p d g a O [] 0]) (λv=>ej18 v λb1 l2 x4 x5 b2 x6 x7 l3 x8 x9 l4 l5 a8 a9 aa ab b3 l6 ac=>((sm ([[SL 3 rows,I c,I i,B o,I j,I k,SL 7 segs,I b,I e,SL 1 l,SL 21 r,I p,I d,I g,I a,B O],[I (wadd .i64 p 1),I P,I R,S t,I U,I V,I W],[SV.slice 3 [] 1,I 0,I 0,B false,I 0,I 0,SV.slice 7 [] 1,I 0,I 0,SV.slice 1 [] 1,SV.slice 21 [] 1,I 0,I 0,I 0,I 0,B false],[SL 21 T,I x1,I x2]]))/\az (bnot b1) l2 x4 x5 b2 x6 x7 l3 x8 x9 l4 l5 a8 a9 aa ab b3 l6 ac))) ((sm ([[SL 3 rows,I c,I i,B o,I j,I k,SL 7 segs,I b,I e,SL 1 l,SL 21 r,I p,I d,I g,I a,B O],[I (wadd .i64 p 1),I P,I R,S t,I U,I V,I W],[SV.slice 3 [] 1,I 0,I 0,B false,I 0,I 0,SV.slice 7 [] 1,I 0,I 0,SV.slice 1 [] 1,SV.slice 21 [] 1,I 0,I 0,I 0,I 0,B false],[SL 21 T,I x1,I x2]]))/\az false rows c i o j k l1 b e l r p d g a O [] 0))))/\∀n l2,∀x4 x5,∀b1 x6,∀x7 l3,∀x8 x9,∀l4 l5,∀a8 a9,∀aa ab,∀b2 l6 ac,(az n l2 x4 x5 b1 x6 x7 l3 x8 x9 l4 l5 a8 a9 aa ab b2 l6 ac)->ifB n (Cl prog 57 sP ([jr16 rows c i o j k segs b e l r p d g a O]) (λu=>ej19 u λl7 w y b3 z A l8 C D l9 E F G H J b4 K=>(Q ([jr16 l7 w y b3 z A l8 C D l9 E F G H J b4,I K])))) (∃a7:Bool->LL->Int->Int->Bool->Int->Int->LL->Int->Int->LL->LL->Int->Int->Int->Int->Bool->LL->Int->Prop,∃m1:Bool->LL->Int->Int->Bool->Int->Int->LL->Int->Int->LL->LL->Int->Int->Int->Int->Bool->LL->Int->Nat,(Cl prog 58 sgW ([wr18 l2 x4 x5 b1 x6 x7 l3 x8 x9 l4 l5 a8 a9 aa ab b2 l6 ac]) (λu=>ej18 u λb3 l7 w y b4 z A l8 C D l9 E F G H J b5 X K=>(ifB (bnot b3) (Cl prog 59 sgW ([wr18 l7 w y b4 z A l8 C D l9 E F G H J b5 X K]) (λv=>ej18 v λb6 ad ae af b7 Y Z a0 a1 a2 a3 ag ah ai a4 a5 b8 aj a6=>((sm ([[SL 3 rows,I c,I i,B o,I j,I k,SL 7 segs,I b,I e,SL 1 l,SL 21 r,I p,I d,I g,I a,B O],[I (wadd .i64 p 1),I P,I R,S t,I U,I V,I W],[SV.slice 3 [] 1,I 0,I 0,B false,I 0,I 0,SV.slice 7 [] 1,I 0,I 0,SV.slice 1 [] 1,SV.slice 21 [] 1,I 0,I 0,I 0,I 0,B false],[SL 21 T,I x1,I x2]]))/\a7 (bnot b6) ad ae af b7 Y Z a0 a1 a2 a3 ag ah ai a4 a5 b8 aj a6))) ((sm ([[SL 3 rows,I c,I i,B o,I j,I k,SL 7 segs,I b,I e,SL 1 l,SL 21 r,I p,I d,I g,I a,B O],[I (wadd .i64 p 1),I P,I R,S t,I U,I V,I W],[SV.slice 3 [] 1,I 0,I 0,B false,I 0,I 0,SV.slice 7 [] 1,I 0,I 0,SV.slice 1 [] 1,SV.slice 21 [] 1,I 0,I 0,I 0,I 0,B false],[SL 21 T,I x1,I x2]]))/\a7 false l7 w y b4 z A l8 C D l9 E F G H J b5 X K))))/\∀b3 l7,∀w y,∀b4 z,∀A l8,∀C D,∀l9 E,∀F G,∀H J,∀b5 X K,(a7 b3 l7 w y b4 z A l8 C D l9 E F G H J b5 X K)->ifB b3 (Cl prog 57 sP ([jr16 rows c i o j k segs b e l r p d g a O]) (λu=>ej19 u λad ae af b6 Y Z a0 a1 a2 a3 ag ah ai a4 a5 b7 a6=>(Q ([jr16 ad ae af b6 Y Z a0 a1 a2 a3 ag ah ai a4 a5 b7,I a6])))) (Cl prog 60 sgW ([wr18 l7 w y b4 z A l8 C D l9 E F G H J b5 X K,ev7 (wadd .i64 p 1) P R t U V W]) (λu=>ej18 u λb6 ad ae af b7 Y Z a0 a1 a2 a3 ag ah ai a4 a5 b8 aj a6=>(ifB (bnot b6) (Cl prog 57 sP ([jr16 rows c i o j k segs b e l r p d g a O]) (λv=>ej19 v λL ak M b9 N s al am an ao ap aq ar au av aw ax=>(Q ([jr16 L ak M b9 N s al am an ao ap aq ar au av aw,I ax])))) (Cl prog 61 sP ([dk4 rows c i o]) (λv=>ej10 v λak=>(ifB (igt (wadd .i64 ak a6) c) (Cl prog 57 sP ([jr16 rows c i o j k segs b e l r p d g a O]) (λay=>ej19 ay λL M N b9 s am al an aq ao ap ar au av ax aw bb=>(Q ([jr16 L M N b9 s am al an aq ao ap ar au av ax aw,I bb])))) (Cl prog 50 sP ([dk4 rows c i o,SL 1 aj]) (λay=>ej1 ay λL M N b9 s=>(ifB (ine s 0) (Q ([jr16 L M N b9 j k segs b e l r p d g a O,I s])) (Q ([jr16 L M N b9 Y Z a0 a1 a2 a3 T x1 x2 a4 a5 b8,I 0])))))))))))))))))))))):Ct prog 20 {} [jr16 rows c i o j k segs b e l r p d g a O,ev7 es P R t U V W] Q:=
 fO SgT SvT (λq=>bif Nat.beq q 1000012 then some {slots:=[(49,false,[.bool])],boxes:=[(1152,[.sl 3,.int .i64,.int .i64,.bool,.int .i64,.int .i64,.own 7,.int .i64,.int .i64,.sl 1,.sl 21,.int .i64,.int .i64,.int .i64,.int .i64,.bool,.own 1,.int .i64])],fixed:=[256,384,512,896]}else bif Nat.beq q 1000014 then some {slots:=[(59,false,[.bool])],boxes:=[(1152,[.sl 3,.int .i64,.int .i64,.bool,.int .i64,.int .i64,.own 7,.int .i64,.int .i64,.sl 1,.sl 21,.int .i64,.int .i64,.int .i64,.int .i64,.bool,.own 1,.int .i64])],fixed:=[256,384,512,896]}else none) func20 h
def jnum_nf(h:Cl prog 244 sP ([S t,S (bA [115,101,103,46])]) (λe=>ej20 e λs b=>(ifB (bpick (bnot b) true (ine (slen s) 8)) (Q [I 0]) (Cl prog 245 sP [S s,I 10,I 64] (λc=>∃x g,ifB g ((c=[I x,SV.val Value.nilIface])/\(isIfc (SV.val Value.nilIface)=true)/\ifB (bpick (Bool.rec true false (Zhp (SV.val Value.nilIface))) true (ilt x 1)) (Q [I 0]) (Cl prog 68 sP [I x] (λa=>ej2 a λd=>(ifB (sne d t) (Q [I 0]) (Q [I x]))))) (∃i,(c=[I x,SV.ifc i SV.unk])/\(isIfc (SV.ifc i SV.unk)=true)/\ifB (bpick (Bool.rec true false (Zhp (SV.ifc i SV.unk))) true (ilt x 1)) (Q [I 0]) (Cl prog 68 sP [I x] (λa=>ej2 a λd=>(ifB (sne d t) (Q [I 0]) (Q [I x])))))))))):Ct prog 160 {} [S t] Q:=
 fN SgT SvT func160 h
def Zyr{row:LL}(h:ifB (ieq (rlen row) 0) (Q ([st3 l i j,B true])) ((inR 0 row)/\ej3 (rget row 0) λx T W E X Y Z l2 x5 x6 x7=>(ifB (igt T i) (Q ([st3 l i j,B false])) (∃A:Int->LL->Int->Int->Prop,∃m:Int->LL->Int->Int->Nat,(A 0 l i j)/\∀n C,∀D e,(A n C D e)->ifB (ilt n (rlen row)) ((inR n row)/\ej3 (rget row n) λr o t H a p q J u v w=>(ifB (ine (rlen a) (wsub .i64 p o)) (Q ([st3 C D e,B false])) (∃g:Int->LL->Int->Int->Prop,∃F:Int->LL->Int->Int->Nat,(g 0 C D e)/\∀b s,∀c d,(g b s c d)->ifB (ilt b (rlen a)) ((inR b a)/\ej21 (rget a b) λG L M U N O P=>(ifB (ile G i) ((sm ([[SV.slice 21 [] 1,I 0,I 0],[I r,I o,I t,SL 1 H,SL 7 a,I p,I q,SL 1 J,I u,I v,I w]]))/\(g (wadd .i64 b 1) s c d)/\Nl (F (wadd .i64 b 1) s c d) (F b s c d)) (Cl prog 53 sP ([st3 s c d,ev7 G L M U N O P]) (λV=>ej13 V λK y z R=>(ifB (ine R 0) (Q ([st3 K y z,B false])) ((sm ([[SV.slice 21 [] 1,I 0,I 0],[I r,I o,I t,SL 1 H,SL 7 a,I p,I q,SL 1 J,I u,I v,I w]]))/\(g (wadd .i64 b 1) K y z)/\Nl (F (wadd .i64 b 1) K y z) (F b s c d))))))) ((sm ([[SV.slice 21 [] 1,I 0,I 0]]))/\(A (wadd .i64 n 1) s c d)/\Nl (m (wadd .i64 n 1) s c d) (m n C D e))))) ((inR (wsub .i64 (rlen row) 1) row)/\ej3 (rget row (wsub .i64 (rlen row) 1)) λr o t H a p q J u v w=>(Q ([st3 C D e,B (ieq q e)]))))))):Ct prog 99 {} [SL 11 row,st3 l i j] Q:=
 fO SgT SvT (λk=>bif Nat.beq k 30 then some {slots:=[(29,false,[.int .i64])],boxes:=[(384,[.sl 21,.int .i64,.int .i64])],fixed:=[512]}else bif Nat.beq k 53 then some {slots:=[(52,false,[.int .i64])],boxes:=[(384,[.sl 21,.int .i64,.int .i64])],fixed:=[512,1024]}else none) func99 h
def segeq_nf(h:ifB (ine (rlen l) (rlen r)) (Q [B false]) (∃c:Bool->Int->Prop,∃m:Bool->Int->Nat,(c false 0)/\∀d x,(c d x)->ifB (ilt x (rlen l)) ((inR x l)/\ej5 (rget l x) λj k a n o p q=>((inR x r)/\ej5 (rget r x) λb s t e g i b3=>(ifB (bnot (band (ieq j b) (band (ieq k s) (band (ieq a t) (band (ieq n e) (band (ieq o g) (band (ieq p i) (band (beqB q b3) true)))))))) (Q [B false]) (((Option.some []:Option LL)=Option.some [])/\(c d (wadd .i64 x 1))/\Nl (m d (wadd .i64 x 1)) (m d x))))) (Q [B true]))):Ct prog 41 {} [SL 7 l,SL 7 r] Q:=
 fN SgT SvT func41 h
def streq_nf(h:ifB (ine (rlen l) (rlen r)) (Q [B false]) (∃c:Bool->Int->Prop,∃m:Bool->Int->Nat,(c false 0)/\∀d x,(c d x)->ifB (ilt x (rlen l)) ((inR x l)/\ej2 (rget l x) λs=>((inR x r)/\ej2 (rget r x) λe=>(ifB (sne s e) (Q [B false]) (((Option.some []:Option LL)=Option.some [])/\(c d (wadd .i64 x 1))/\Nl (m d (wadd .i64 x 1)) (m d x))))) (Q [B true]))):Ct prog 100 {} [SL 1 l,SL 1 r] Q:=
 fN SgT SvT func100 h
def segcl_nf(h:∀b,((b=true)->rlen l=0)->ifB b (Q ([SL 7 []])) (((lsum (rlen []) (rlen l))<=2147483648)/\Q ([SL 7 (rapp [] l)]))):Ct prog 54 ⟨[],[.own]⟩ [SL 7 l] Q:=
 fN SgT SvT func54 h
def backs_nf(h:Q ([SV.clo 167 ([SV.ref 0 [SL 1 l]])])):Ct prog 107 {} [SL 1 l] Q:=
 fN SgT SvT func107 h
def backp_nf(h:Q ([SV.clo 170 ([SV.ref 0 [SL 11 l]])])):Ct prog 109 {} [SL 11 l] Q:=
 fN SgT SvT func109 h
def jshut_nf{rows:LL}{segs:LL}{a p d m:Int}(h:Q ([jr16 rows b i o k j segs c e l r a p d m true,I 13])):Ct prog 57 {} [jr16 rows b i o k j segs c e l r a p d m O] Q:=
 fN SgT SvT func57 h
end Jou
namespace Jou
open Go Go.Px Go.Proofs Cod Seg Sgr Snp Sx Row Dsk Tryz
def inM{a:Type}(g:a->List SV){l:List a}(b:0<=i)(h:i<l.length):inR i (l.map g):=⟨b,by simpa using h⟩
def Stp.row:Stp->List SV
 | .cre s=>[.clo 196 [.ref 0 [S s]]]
 | .wri s x=>[.clo 273 [.ref 0 [S s],.ref 0 [SL 1 (uR x)]]]
 | .syn s=>[.clo 173 [.ref 0 [S s]]]
 | .rem s=>[.clo 168 [.ref 0 [S s]]]
 | .cut s n=>[.clo 171 [.ref 0 [S s],.ref 0 [I n]]]
def Stp.ok:Stp->Prop
 | .wri s x=>x.length<=9223372036854775807
 |_=>True
abbrev tR(l:List Stp):LL:=l.map Stp.row
def run_ok{s:Stp}(h:d.ok):(s.run d).1.ok:=by
 have hst:(s.run d).1.st<=d.st:=by
  cases s
  .exact Zsy
  .exact Zsz
  .exact opSync_st
  .exact Zs0
  .exact opCut_st
 by_cases hP:d.P
 .have a:(s.run d).1.P:=by
   cases s
   .exact Zm8 hP
   .exact Zm9 hP
   .exact Zvm hP
   .exact Zna hP
   .exact opCut_P hP
  obtain⟨b,c,e,f⟩:=a;exact⟨Vo,Vo,by have:=h.2.2;omega⟩
 .have:(s.run d).1=d:=by
   cases s<;>simp only[Stp.run,Zbe,Zau,Zc3,Zbk,opCut,DiD.er,if_neg hP]<;>rfl
  rw[this];exact h
def run_fn(s:Stp)(b:s.ok)(d:DiD)(h:d.ok):∃f a,s.row=[.clo f a]/\Ct prog f {} (d.sv::a) (λr=>r=[(s.run d).1.sv,I (s.run d).2]):=by
 cases s with
 |cre s=>exact⟨_,_,rfl,Zst (Cl.of (Zxo d h s) ⟨_,_,_,_,_,rfl,rfl⟩)⟩
 |wri s x=>exact⟨_,_,rfl,Zyp (Cl.of (Zxp d h s x b) ⟨_,_,_,_,_,rfl,rfl⟩)⟩
 |syn s=>exact⟨_,_,rfl,jsync1_nf (Cl.of (dsync_fn d h s) ⟨_,_,_,_,_,rfl,rfl⟩)⟩
 |rem s=>exact⟨_,_,rfl,Zss (Cl.of (Zxq d h s) ⟨_,_,_,_,_,rfl,rfl⟩)⟩
 |cut s n=>exact⟨_,_,rfl,jcut1_nf (Cl.of (dcut_fn d h s n) ⟨_,_,_,_,_,rfl,rfl⟩)⟩
def jrun_fn(d:DiD)(hd:d.ok)(a:List Stp)(n:∀s∈a,s.ok)(p:a.length<=1000000):Ct prog 50 {} [d.sv,SL 1 (tR a)] (λr=>r=[(runP d a).1.sv,I (runP d a).2]):=by
 refine jrun_nf ⟨λx l j k b=>∃c:DiD,c.ok/\l=fR c.fs/\j=c.rm/\k=c.st/\b=c.dn/\0<=x/\x<=a.length/\runP c (a.drop x.toNat)=runP d a,λx _ _ _ _=>(a.length-x).toNat,⟨d,hd,rfl,rfl,rfl,rfl,Vo,Vo,Vs⟩,?_⟩;rintro x l j k b ⟨c,hd',rfl,rfl,rfl,rfl,x0,hx,he⟩;have m:rlen (tR a)=a.length:=Vs;rw[m];refine Zaa (λh=>?_) (λh=>?_)
 .simp at h;have i:x.toNat<a.length:=Vo;rw[List.drop_eq_getElem_cons i,runP]at he;obtain⟨f,o,e1,e2⟩:=run_fn a[x.toNat] (n _ (List.getElem_mem i)) c hd';refine⟨inM _ x0 h,f,o,(Zbm _ _ _ x0 h).trans e1,Cl.of e2 ⟨_,_,_,_,_,rfl,Zaa (λg=>?_) (λg=>⟨rfl,?_,?_⟩)⟩⟩
  .simp at g;rw[if_pos g]at he;rw[<-he]
  .simp at g;rw[if_neg (by simpa using g)]at he;rw[Zac];exact⟨_,run_ok hd',rfl,rfl,rfl,rfl,Vo,Vo,by rw[show(x+1).toNat=x.toNat+1 by omega];exact he⟩
  .rw[Zac];exact mlt (by first|omega|(dsimp only;omega))
 .simp at h;have e:x.toNat=a.length:=Vo;rw[e,List.drop_length,runP]at he;rw[<-he]
def SgD.row(p:SgD):List SV:=[I p.num,I p.fi,I p.la,I p.fr,I p.ti,I p.sz,B p.sl]
abbrev sgR(l:List SgD):LL:=l.map SgD.row
abbrev CxD.sv(c:CxD):SV:=cx3 c.s c.a (nR c.m)
def ptRow(p:Pt):List SV:=[I p.d.num,I p.d.bs,I p.d.ba,SL 1 [],SL 7 (evR p.d.ev),I p.d.s,I p.d.a,SL 1 (nR p.d.m),I (endW 1 p.d.sl),I ((segL p.d).length:Nat),I (p.n:Nat)]
abbrev ptR(l:List Pt):LL:=l.map ptRow
def Zmw(b:Bool):decide (endW 1 b=4)=b:=by cases b<;>rfl
def Zfo{l:List Pt}(h:n<l.length):rget (ptR l) (n:Int)=ptRow l[n]:=by simp[rget,h]
def Zuq(r:List Pt)(d:r.length<=1000000):Ct prog 42 {} [SL 11 (ptR r)] (λx=>x=[SL 7 (sgR (r.map sgOf))]):=by
 refine jsegs_nf ⟨λl x=>0<=x/\x<=r.length/\l=sgR ((r.take x.toNat).map sgOf),λ_ x=>(r.length-x).toNat,⟨Vo,Vo,Vs⟩,?_⟩;rintro l x ⟨x0,hx,rfl⟩;have a:rlen (ptR r)=r.length:=Vs;rw[a];refine Zaa (λh=>?_) (λh=>?_)
 .simp at h;have b:x.toNat<r.length:=Vo;have c:r.take (x+1).toNat=r.take x.toNat++[r[x.toNat]]:=(by rw[show(x+1).toNat=x.toNat+1 by omega,List.take_succ_eq_append_getElem b]);refine⟨inM _ x0 h,_,_,_,_,_,_,_,_,_,_,_,Zbm ptRow r x x0 h,?_,rfl,?_,?_⟩
  .simp;omega
  .rw[Zac];refine⟨Vo,Vo,?_⟩;rw[c];simp only[List.map_append,List.map_cons,List.map_nil,rapp,sgOf,SgD.row,ieq_eq,Zmw]
  .rw[Zac];exact mlt (by first|omega|(dsimp only;omega))
 .simp at h;have e:x.toNat=r.length:=Vo;rw[e,Y7]
def Zp8(r:List Pt)(g:r.length<=1000000):Ct prog 44 {} [SL 11 (ptR r)] (λx=>x=[(Zbg r).sv]):=by
 refine jahead_nf ?_;have c:rlen (ptR r)=r.length:=Vs;rw[c];refine Zaa (λh=>?_) (λh=>?_)
 .simp at h;subst h;rfl
 .simp at h;have i:0<r.length:=Wx.2 h;have b:r.length-1<r.length:=Vo;have e:wsub IntKind.i64 (r.length:Int) 1=((r.length-1:Nat):Int):=by rw[Zap];omega
  have f:r.getLast?=some r[r.length-1]:=(by rw[List.getLast?_eq_getElem?];simp[b]);rw[e];refine⟨inM _ Vo Vo,_,_,_,_,_,_,_,_,_,_,_,Zfo b,Zaa (λa=>?_) (λa=>⟨inM _ Vo Vo,_,_,_,_,_,_,_,_,_,_,_,Zfo b,?_⟩)⟩
  .have a:r[r.length-1].d.sl=true:=(by rw[<-Zmw r[r.length-1].d.sl];simpa using a);unfold Zbg;rw[f];simp[a]
  .have a:r[r.length-1].d.sl=false:=(by rw[<-Zmw r[r.length-1].d.sl];simpa using a);unfold Zbg;rw[f];simp[a]
def Zp9(b a:Int):Ct prog 38 {} [.agg [I b,I a]] (λr=>r=[B (decide (mayC b a))]):=by
 refine jmaybe_nf ?_;congr 3;unfold mayC;simp;by_cases h1:64<=b<;>by_cases h2:b<=65536<;>by_cases h3:1<=a<;>by_cases h4:a<=1099511627776<;>simp[h1,h2,h3,h4]
end Jou
end Go.Proofs.YtaenkbbfockfgaaGreatDoor
namespace Go.Proofs
open Go.Shelf
def Tryz.laysC174_ren:Go.Shelf.Ren:=⟨λ|174=>245|247=>313|245=>314|287=>352|279=>353|280=>354|281=>355|282=>356|321=>372|322=>373|316=>374|171=>376|205=>375|243=>380|246=>213|283=>281|284=>282|285=>283|286=>284|129=>334|317=>333|318=>335|319=>336|320=>337|337=>364|338=>365|n=>n,λ|9=>9|3=>3|2=>2|75=>245|85=>332|4=>4|167=>425|5=>5|53=>147|175=>426|46=>157|168=>428|37=>124|0=>0|210=>445|21=>21|127=>247|145=>452|143=>450|171=>364|173=>367|212=>413|51=>148|20=>20|213=>414|232=>448|233=>449|80=>158|n=>n,λ|15=>2|16=>3|17=>1|18=>4|19=>5|n=>n⟩
def Tryz.laysC174:Go.Proofs.LaysC.n174 prog Tryz.laysC174_ren:={
 mixed:=Vk
 f129:=func334.trans (congrArg some Vk)
 f171:=func376.trans (congrArg some Vk)
 f174:=func245.trans (congrArg some Vk)
 f205:=func375.trans (congrArg some Vk)
 f243:=func380.trans (congrArg some Vk)
 f245:=func314.trans (congrArg some Vk)
 f246:=func213.trans (congrArg some Vk)
 f247:=func313.trans (congrArg some Vk)
 f279:=func353.trans (congrArg some Vk)
 f280:=func354.trans (congrArg some Vk)
 f281:=func355.trans (congrArg some Vk)
 f282:=func356.trans (congrArg some Vk)
 f283:=func281.trans (congrArg some Vk)
 f284:=func282.trans (congrArg some Vk)
 f285:=func283.trans (congrArg some Vk)
 f286:=func284.trans (congrArg some Vk)
 f287:=func352.trans (congrArg some Vk)
 f316:=func374.trans (congrArg some Vk)
 f317:=func333.trans (congrArg some Vk)
 f318:=func335.trans (congrArg some Vk)
 f319:=func336.trans (congrArg some Vk)
 f320:=func337.trans (congrArg some Vk)
 f321:=func372.trans (congrArg some Vk)
 f322:=func373.trans (congrArg some Vk)
 f337:=func364.trans (congrArg some Vk)
 f338:=func365.trans (congrArg some Vk)
 t0:=Tryz.underlying0
 a0:=Tryz.isAgg0
 z0:=Tryz.sizeOf0
 v0:=Tryz.zeroValue0
 t2:=Tryz.underlying2
 a2:=Tryz.isAgg2
 z2:=Tryz.sizeOf2
 v2:=Tryz.zeroValue2
 t3:=Tryz.underlying3
 a3:=Tryz.isAgg3
 z3:=Tryz.sizeOf3
 v3:=Tryz.zeroValue3
 t4:=Tryz.underlying4
 a4:=Tryz.isAgg4
 z4:=Tryz.sizeOf4
 v4:=Tryz.zeroValue4
 t5:=Tryz.underlying5
 a5:=Tryz.isAgg5
 z5:=Tryz.sizeOf5
 v5:=Tryz.zeroValue5
 t9:=Tryz.underlying9
 a9:=Tryz.isAgg9
 z9:=Tryz.sizeOf9
 v9:=Tryz.zeroValue9
 t20:=Tryz.underlying20
 a20:=Tryz.isAgg20
 z20:=Tryz.sizeOf20
 v20:=Tryz.zeroValue20
 t21:=Tryz.underlying21
 a21:=Tryz.isAgg21
 z21:=Tryz.sizeOf21
 v21:=Tryz.zeroValue21
 t37:=Tryz.underlying124
 a37:=Tryz.isAgg124
 z37:=Tryz.sizeOf124
 v37:=Tryz.zeroValue124
 t46:=Tryz.underlying157
 a46:=Tryz.isAgg157
 z46:=Tryz.sizeOf157
 v46:=Tryz.zeroValue157
 t51:=Tryz.underlying148
 a51:=Tryz.isAgg148
 z51:=Tryz.sizeOf148
 v51:=Tryz.zeroValue148
 t53:=Tryz.underlying147
 a53:=Tryz.isAgg147
 z53:=Tryz.sizeOf147
 v53:=Tryz.zeroValue147
 t75:=Tryz.underlying245
 a75:=Tryz.isAgg245
 z75:=Tryz.sizeOf245
 v75:=Tryz.zeroValue245
 t85:=Tryz.underlying332
 a85:=Tryz.isAgg332
 z85:=Tryz.sizeOf332
 v85:=Tryz.zeroValue332
 t127:=Tryz.underlying247
 a127:=Tryz.isAgg247
 z127:=Tryz.sizeOf247
 v127:=Tryz.zeroValue247
 t143:=Tryz.underlying450
 a143:=Tryz.isAgg450
 z143:=Tryz.sizeOf450
 v143:=Tryz.zeroValue450
 t145:=Tryz.underlying452
 a145:=Tryz.isAgg452
 z145:=Tryz.sizeOf452
 v145:=Tryz.zeroValue452
 t167:=Tryz.underlying425
 a167:=Tryz.isAgg425
 z167:=Tryz.sizeOf425
 v167:=Tryz.zeroValue425
 t168:=Tryz.underlying428
 a168:=Tryz.isAgg428
 z168:=Tryz.sizeOf428
 v168:=Tryz.zeroValue428
 t171:=Tryz.underlying364
 a171:=Tryz.isAgg364
 z171:=Tryz.sizeOf364
 v171:=Tryz.zeroValue364
 t173:=Tryz.underlying367
 a173:=Tryz.isAgg367
 z173:=Tryz.sizeOf367
 v173:=Tryz.zeroValue367
 t175:=Tryz.underlying426
 a175:=Tryz.isAgg426
 z175:=Tryz.sizeOf426
 v175:=Tryz.zeroValue426
 t210:=Tryz.underlying445
 a210:=Tryz.isAgg445
 z210:=Tryz.sizeOf445
 v210:=Tryz.zeroValue445
 t212:=Tryz.underlying413
 a212:=Tryz.isAgg413
 z212:=Tryz.sizeOf413
 v212:=Tryz.zeroValue413
 t213:=Tryz.underlying414
 a213:=Tryz.isAgg414
 z213:=Tryz.sizeOf414
 t232:=Tryz.underlying448
 a232:=Tryz.isAgg448
 z232:=Tryz.sizeOf448
 v232:=Tryz.zeroValue448
 t233:=Tryz.underlying449
 a233:=Tryz.isAgg449
 z233:=Tryz.sizeOf449
 v233:=Tryz.zeroValue449
 g15:=Vk
 g16:=Vk
 g17:=Vk
 g18:=Vk
 g19:=Vk
 t80:=Tryz.underlying158
 a80:=Tryz.isAgg158
 z80:=Tryz.sizeOf158
 v80:=Tryz.zeroValue158
 i0:=Vk
 i2:=Vk
 i3:=Vk
 i4:=Vk
 i5:=Vk
 i9:=Vk
 i20:=Vk
 i21:=Vk
 i37:=Vk
 i46:=Vk
 i51:=Vk
 i53:=Vk
 i75:=Vk
 i80:=Vk
 i85:=Vk
 i127:=Vk
 i143:=Vk
 i145:=Vk
 i167:=Vk
 i168:=Vk
 i171:=Vk
 i173:=Vk
 i175:=Vk
 i210:=Vk
 i212:=Vk
 i232:=Vk
 i233:=Vk
 m15:=Vk
 m16:=Vk
 m17:=Vk
 m18:=Vk
 m19:=Vk
 c0:=Vk
 c2:=Vk
 c3:=Vk
 c4:=Vk
 c5:=Vk
 c9:=Vk
 c20:=Vk
 c21:=Vk
 c37:=Vk
 c46:=Vk
 c51:=Vk
 c53:=Vk
 c75:=Vk
 c80:=Vk
 c85:=Vk
 c127:=Vk
 c143:=Vk
 c145:=Vk
 c167:=Vk
 c168:=Vk
 c171:=Vk
 c173:=Vk
 c175:=Vk
 c210:=Vk
 c212:=Vk
 c213:=Vk
 c232:=Vk
 c233:=by kernel_rfl}
open Go.RowKit in
def Tryz.strconv_ParseInt_10_at64_ok(s:BA)(a:s.size<=9223372036854775806)(v:Int)(h:Lib.parseIntB 64 s.data.toList= .ok v)(w:World):
  Calls prog 245 #[.string s,.int .i64 10,.int .i64 64] w λe b=>e= .returned (.tuple #[.int .i64 v,.nilIface])/\(b=w\/∃t,b=Lib.bytesWorld w 5 t):=Any.strconv_ParseInt_10_at64_ok Tryz.laysC174 s a v h w
open Go.RowKit in
def Tryz.strconv_ParseInt_10_at64_syntax_var(s:BA)(a:s.size<=281474976710656)(h:Lib.parseIntB 64 s.data.toList=Lib.parseIntB 64 [])(b:TypeId)(p:Value)(w:World)(c:w.var? prog "strconv.ErrSyntax" =some #[.iface b p]):
  Calls prog 245 #[.string s,.int .i64 10,.int .i64 64] w λe d=>∃N,e= .returned (.tuple #[.int .i64 (0),.iface 428 (.pointer (some ⟨N,0,none⟩))])/\w.heap.size<=N/\d.heap[N]?=some (.cells #[.string ⟨#[80,97,114,115,101,73,110,116]⟩,.string s,.iface b p] 445 (0,0))/\Below w.heap.size w d:=Any.strconv_ParseInt_10_at64_syntax_var Tryz.laysC174 s a h b p w c
open Go.RowKit in
def Tryz.strconv_ParseInt_10_at64_range_var(s:BA)(a:s.size<=281474976710656)(h:Lib.parseIntB 64 s.data.toList= .range)(b:TypeId)(p:Value)(w:World)(c:w.var? prog "strconv.ErrRange" =some #[.iface b p]):
  Calls prog 245 #[.string s,.int .i64 10,.int .i64 64] w λe d=>∃N,e= .returned (.tuple #[.int .i64 (Lib.intSat 64 s.data.toList),.iface 428 (.pointer (some ⟨N,0,none⟩))])/\w.heap.size<=N/\d.heap[N]?=some (.cells #[.string ⟨#[80,97,114,115,101,73,110,116]⟩,.string s,.iface b p] 445 (0,0))/\Below w.heap.size w d:=Any.strconv_ParseInt_10_at64_range_var Tryz.laysC174 s a h b p w c
end Go.Proofs
namespace Go.Proofs.YtaenkbbfockfgaaGreatDoor
namespace Jou
open Go Go.Px Go.Proofs Go.RowKit Tryz
def ct_of_callsR{P:Program}{f:FuncId}{n:Func}(F:P.funcs[f]?=some n)(r:n.body.isSome=true)(A:(n.name== "runtime.NumGoroutine")=false)(g:List SV)(Q:List SV->Prop)
  (G:∀(h:Hp) (l:Nat->Px.Loc) (w:World) (p:Array Value),HSub h w->Gl h w->Zrf h l p.toList g->Calls P f p w λe q=>∃(d:List Value) (a:List SV),e= .returned (rets d)/\d.length=a.length/\
   (∀(i:Nat) v s,d[i]?=some v->a[i]?=some s->PRep h v s)/\Q a/\Below w.heap.size w q):Ct P f {} g Q:=by
 refine⟨⟨n,F,r,λe=>by rw[e]at A;simp at A⟩,λC H c h l w p D E t=>?_⟩;rw[Za5]at c
 cases c
 refine(G h l w p D.sub E t).mono ?_;rintro e q ⟨d,a,rfl,hl,hp,hq,hbl⟩;have x:HSub h q:=Zim D.sub (λb r=>hbl.block b r)
 have y:Px.Holds h l [] q:=⟨x,λid o m=>(by simp at m),λi j u=>by obtain⟨⟨o,e⟩,_⟩:=u;simp[oget]at e⟩
 have z:endH {} d.length a=some (a,[]):=by
  simp_all[Za5,lentH,endH]
 exact⟨d,h,l,a,a,[],rfl,hq,z,⟨hl,λi v s J C=>.pure _ _ (hp i v s J C)⟩,y,λi u=>(by obtain⟨⟨o,e⟩,_⟩:=u;simp[oget]at e),⟨λi L m=>(by simp at m),λid m=>(by simp[Zb1]at m)⟩,HLe.refl h,λb _ _ o e=>e,
  ⟨hbl.os,hbl.tape,hbl.output,hbl.size,λk K _=>hbl.block k K⟩⟩
def arr_of{a:Array Value}{l:List Value}(h:a.toList=l):a=l.toArray:=by rw[<-h]
def err_is{h:Hp}{w:World}(b:HSub h w)(g:Gl h w){k:Nat}(a:(k,[SV.ifc 450 .unk])∈Zbf){n:String}(c:prog.globalNamed n=some k):∃p,w.var? prog n=some #[.iface 450 p]:=by
 obtain⟨_,j,t,l,d,i⟩:=g.size _ a;obtain⟨v,e,f⟩:=g.cells _ a 0 _ rfl;have m:=b _ _ _ e
 cases f with
 |ifc _ p _ _=>
  refine⟨p,?_⟩;unfold World.var?;rw[c];simp only[Option.bind_some,d];congr 1
  grind [World.cell?]
def PiR(s:BA)(r:List SV):Prop:=
 ∃(v:Int) (e:SV),r=[I v,e]/\((Lib.parseIntB 64 s.data.toList= .ok v/\e= .val .nilIface)\/((∀u,Lib.parseIntB 64 s.data.toList≠ .ok u)/\e= .ifc 428 .unk))
def pint_fn(s:BA)(g:s.size<=281474976710656):Ct prog 245 {} [S s,I 10,I 64] (PiR s):=by
 refine ct_of_callsR func245 Vk Vk _ _ (λh m w j b c d=>?_);obtain rfl:j= #[.string s,.int .i64 10,.int .i64 64]:=arr_of (Znw j.toList [.string s,.int .i64 10,.int .i64 64] d)
 cases hp:Lib.parseIntB 64 s.data.toList with
 |ok v=>
  refine(Tryz.strconv_ParseInt_10_at64_ok s Vo v hp w).mono ?_;rintro e l ⟨rfl,hw⟩;refine⟨[.int .i64 v,.nilIface],[I v,.val .nilIface],rfl,rfl,?_,⟨v,_,rfl,.inl ⟨hp,rfl⟩⟩,?_⟩
  .intro i x y hx a
   match i,hx,a with
   |0,hx,a=>cases hx;cases a;exact .val _
   |1,hx,a=>cases hx;cases a;exact .val _
   |i+2,hx,a=>simp at hx
  .rcases hw with rfl|⟨t,rfl⟩
   .exact Below.refl _ _
   .exact Lib.bytesWorld_below _ _ _
 |range=>
  obtain⟨p,f⟩:=err_is b c (k:=3) (by simp[Zbf]) (n:= "strconv.ErrRange") Vk
  refine(Tryz.strconv_ParseInt_10_at64_range_var s g hp _ p w f).mono ?_;rintro e l ⟨N,rfl,_,_,hbl⟩;refine⟨[.int .i64 (Lib.intSat 64 s.data.toList),.iface 428 (.pointer (some ⟨N,0,none⟩))],[I (Lib.intSat 64 s.data.toList),.ifc 428 .unk],rfl,rfl,?_,⟨Lib.intSat 64 s.data.toList,_,rfl,.inr ⟨λu=>by rw[hp];simp,rfl⟩⟩,hbl⟩;intro i x y hx a
  match i,hx,a with
  |0,hx,a=>cases hx;cases a;exact .val _
  |1,hx,a=>cases hx;cases a;exact .ifc _ _ _ (.unk _)
  |i+2,hx,a=>simp at hx
 |_=>
  obtain⟨p,f⟩:=err_is b c (k:=2) (by simp[Zbf]) (n:= "strconv.ErrSyntax") Vk
  refine(Tryz.strconv_ParseInt_10_at64_syntax_var s g hp _ p w f).mono ?_;rintro e l ⟨N,rfl,_,_,hbl⟩;refine⟨[.int .i64 0,.iface 428 (.pointer (some ⟨N,0,none⟩))],[I 0,.ifc 428 .unk],rfl,rfl,?_,⟨0,_,rfl,.inr ⟨λu=>by rw[hp];simp,rfl⟩⟩,hbl⟩;intro i x y hx a
  match i,hx,a with
  |0,hx,a=>cases hx;cases a;exact .val _
  |1,hx,a=>cases hx;cases a;exact .ifc _ _ _ (.unk _)
  |i+2,hx,a=>simp at hx
end Jou
namespace Jou
open Go Go.Px Go.Proofs Cod Seg Sgr Snp Sx Row Dsk Tryz
def Zm6:∀(l:List UInt8) (j a:Nat),(∀c∈l,isD c)->a<10^j->j+l.length<=8->Lib.parseUintM (2^64-1) a l= .ok (l.foldl (λn c=>10*n+(c.toNat-48)) a)
 | [],_,_,_,_,_=>rfl
 |c::l,j,a,h,ha,hj=>by have b:=h c Vs;unfold isD at b;simp only[List.length_cons]at hj;have e:(10:Nat)^(j+1)<=10^8:=Nat.pow_le_pow_right Vo Vo;have f:(10:Nat)^(j+1)=10^j*10:=Nat.pow_succ ..;have g:(10:Nat)^8=100000000:=rfl;rw[Lib.parseUintM,if_pos b,if_neg Vo,if_neg Vo];have:=Zm6 l (j+1) (a*10+(c.toNat-48)) (λd hd=>h d (by simp[hd])) Vo Vo;rw[this,List.foldl_cons,show 10*a+(c.toNat-48)=a*10+(c.toNat-48) by omega]
def parse8{l:List UInt8}(h:∀c∈l,isD c)(a:l.length=8):Lib.parseIntB 64 l= .ok ((vD l:Nat):Int):=by
 have b:=Zm6 l 0 0 h Vs Vo;have d:=vD_lt l h;rw[a]at d
 cases l with
 |nil=>simp at a
 |cons c r=>
  have f:=h c Vs;unfold isD at f;have e:Lib.parseUintB 64 (c::r)= .ok (vD (c::r)):=(by unfold Lib.parseUintB;rw[if_neg Vs];exact b);unfold Lib.parseIntB
  dsimp only
  rw[if_neg Vo,e]
  dsimp only
  rw[if_neg Vo,if_neg Vo,if_neg Vo]
def Zoy{s:BA}(h:numS s≠0):s.data.toList.take 4=spre/\(s.data.toList.drop 4).length=8/\(∀c∈s.data.toList.drop 4,isD c)/\((vD (s.data.toList.drop 4):Nat):Int)=numS s:=by
 obtain⟨b,d⟩:=Zc0 h;have e:s.data.toList=spre++dgs 8 (numS s).toNat:=(by rw[<-Zcn,<-d]);rw[e];refine⟨rfl,by simp[Zd9],λc a=>Zti _ _ c (by simpa using a),?_⟩;have:=Zuj b;rw[Zcn]at this;exact this
def Zvk{a b:BA}:(a.toList==b.toList)=decide (a=b):=by
 by_cases h:a=b
 .simp[h]
 .have:a.toList≠b.toList:=λe=>h ((toList_iff _ _).1 e);simp[h,this]
def scutG_fn(s p:BA):Ct prog 244 {} [S s,S p] (λr=>r=if s.data.toList.take p.data.toList.length=p.data.toList then[S (ssub s (slen p) (slen s)),B true]else[S s,B false]):=by
 have c:=Zg9 s;have a:=Zg9 p;refine Ztz (Cl.ofQ (Zpu s p (λr=>r=if s.data.toList.take p.data.toList.length=p.data.toList then[S (ssub s (slen p) (slen s)),B true]else[S s,B false]) ?_) ?_)
 .have b:Ct prog 287 {} [S s,S p] (λr=>r=[B (decide (s.data.toList.take p.data.toList.length=p.data.toList))]):=by
   refine Zub (Zaa (λh=>⟨⟨Vo,Vo,by simp only[ige_eq,decide_eq_true_eq]at h;omega⟩,?_⟩) (λh=>?_))
   .rw[seq_bl,Zpc,a,Int.toNat_natCast];rfl
   .have:¬s.data.toList.take p.data.toList.length=p.data.toList:=λe=>by have:=congrArg List.length e;simp only[ige_eq,decide_eq_false_iff_not]at h;simp only[List.length_take]at this;omega
    rw[decide_eq_false this]
  refine Cl.of b ⟨_,rfl,Zaa (λh=>?_) (λh=>⟨⟨Vo,?_,Vo⟩,?_⟩)⟩
  .rw[if_neg (by simpa using h)]
  .simp only[bnot,YA,decide_eq_true_eq]at h;have:=congrArg List.length h;simp only[List.length_take]at this;omega
  .rw[if_pos (by simpa using h)]
 .rintro r rfl
  split
  .exact⟨_,_,rfl,rfl⟩
  .exact⟨_,_,rfl,rfl⟩
def jnum_fn(s:BA):Ct prog 160 {} [S s] (λr=>r=[I (numS s)]):=by
 have C:(bA [115,101,103,46]).data.toList=spre:=rfl;have D:slen (bA [115,101,103,46])=4:=Vd;have E:=Zg9 s
 have zero:(s.data.toList.take 4≠spre\/(s.data.toList.drop 4).length≠8\/(∃c∈s.data.toList.drop 4,¬isD c))->numS s=0:=λh=>Classical.byContradiction λq=>by
  obtain⟨a,b,c,_⟩:=Zoy q
  rcases h with h|h|⟨x,hx,h⟩
  .exact h a
  .exact h b
  .exact h (c x hx)
 refine jnum_nf (Cl.of (scutG_fn s _) ?_);rw[C,D,show spre.length=4 from rfl];by_cases hp:s.data.toList.take 4=spre
 rotate_left
 .rw[if_neg hp];exact⟨_,_,rfl,Zaa (λ_=>by rw[zero (.inl hp)]) (λh=>by simp at h)⟩
 rw[if_pos hp];generalize hd:ssub s 4 (slen s)=d;have g:d.data.toList=s.data.toList.drop 4:=(by rw[<-hd,Zpc,E,Int.toNat_natCast,Y7];rfl);have G:=Zg9 d;refine⟨_,_,rfl,Zaa (λh=>?_) (λh=>?_)⟩
 .have:(s.data.toList.drop 4).length≠8:=(by rw[<-g];simp at h;intro e;rw[<-Zb0]at e;omega);rw[zero (.inr (.inl this))]
 have l:(s.data.toList.drop 4).length=8:=(by rw[<-g,<-Zb0];simp at h;omega);have p:d.size<=281474976710656:=by rw[Zb0,g,l];omega
 have m:∀x:Int,(∀u,Lib.parseIntB 64 d.data.toList= .ok u->u=x)->(Lib.parseIntB 64 d.data.toList= .ok x\/∀u,Lib.parseIntB 64 d.data.toList≠ .ok u)->(1<=x->nmG x=s->numS s=x)/\(numS s≠0->numS s=x):=λx f H=>by
  have t:numS s≠0->numS s=x:=λq=>by obtain⟨_,b,c,e⟩:=Zoy q;have:=parse8 c b;rw[<-g]at this;rw[<-e,<-g];exact f _ this
  refine⟨λhx k=>?_,t⟩;have j:inN x:=Classical.byContradiction λq=>by rw[nmG_no q]at k;rw[<-k]at l;simp at l
  rw[<-k,Zhm j,Zuk j]
 have fin:∀x:Int,(1<=x->nmG x=s->numS s=x)/\(numS s≠0->numS s=x)->ifB (bpick false true (ilt x 1)) ([I 0]=[I (numS s)]) (Cl prog 68 sP [I x] (λn=>ej2 n λy=>(ifB (sne y s) ([I 0]=[I (numS s)]) ([I x]=[I (numS s)])))):=λx ⟨z,A⟩=>by
  have w:¬(1<=x/\nmG x=s)->numS s=0:=λq=>Classical.byContradiction λr=>by have e:=A r;obtain⟨a,b⟩:=Zc0 r;rw[e]at a b;exact q ⟨a.1,by rw[Zhm a];exact b.symm⟩
  refine Zaa (λh=>?_) (λh=>Cl.of (sname_fn x) ⟨_,rfl,Zaa (λf=>?_) (λf=>?_)⟩)
  .simp at h;rw[w Vo]
  .have f:nmG x≠s:=(by rw[sne_eq,Zvk]at f;simpa using f);rw[w (λq=>f q.2)]
  .have f:nmG x=s:=(by rw[sne_eq,Zvk]at f;simpa using f);simp at h;rw[z Vo f]
 refine Cl.ofQ (pint_fn d p) ?_;rintro r ⟨v,e,rfl,⟨f,rfl⟩|⟨f,rfl⟩⟩
 .refine⟨v,true,?_⟩;show _/\_;exact⟨rfl,rfl,fin v (m v (λu o=>by rw[f]at o;cases o;rfl) (.inl f))⟩
 .refine⟨v,false,?_⟩;show∃i:TypeId,_;have F:numS s=0:=Classical.byContradiction λq=>by obtain⟨_,b,c,e⟩:=Zoy q;have:=parse8 c b;rw[<-g]at this;exact f _ this
  refine⟨_,rfl,rfl,Zaa (λ_=>by rw[F]) (λh=>by simp[Zhp]at h)⟩
structure PtK(p:Pt):Prop where
 ok:ScOK p.d
 num:inN p.d.num
 n:p.n<=65536
 le:(segL p.d).length<=p.n
def PtK.ne{p:Pt}(h:PtK p):p.d.num≠0:=by have:=h.num.1;omega
def PtK.bs{p:Pt}(h:PtK p):ctxOK p.d.bs p.d.ba:=(h.ok.head h.ne).2
def PtK.s{p:Pt}(h:PtK p):ctxOK p.d.s p.d.a:=by
 have:=Zn6 p.d.ev p.d.bs p.d.ba [] h.bs (h.ok.evs h.ne);rw[<-h.ok.fin h.ne]at this;exact this
def jfol_fn(p a:Pt)(b:inN a.d.num):Ct prog 161 {} [.agg (ptRow p),.agg (ptRow a)] (λr=>r=[B (decide (foll p.d a.d))]):=by
 refine Zsu ?_;rw[Zac (by have:=b.1;omega) (by have:=b.2;omega)];unfold foll;congr 2;simp[Zmw];rw[Bool.eq_iff_iff];simp[and_assoc];exact decide_eq_true_iff.symm
def byF_iU(f:FiD):byF f=iU (f.su++f.lo):=rfl
def read_at(a:d.P)(b:d.dn=false)(c:n<d.fs.length):Zft d d.fs[n].nm=(d.fs[n].su++d.fs[n].lo,0):=by
 have e:=a.2.2.1 _ (List.getElem_mem c);unfold Zft;rw[if_neg (by rw[er_ok a b e e];simp),Snp.get_at a c]
def Zlv(a:FiD->Sc)(l:List FiD)(f:FiD):rowsD a (l++[f])=rstep a (rowsD a l) f:=by
 unfold rowsD;rw[List.foldl_append];rfl
def jrows_fn(d:DiD)(hd:d.ok)(F:d.P)(H:d.dn=false):Ct prog 97 {} [d.sv] (λr=>r=[SL 11 (ptR (rowsD scF d.fs).1),SL 1 (nR (rowsD scF d.fs).2)]/\∀p∈(rowsD scF d.fs).1,PtK p):=by
 have X:=F.1.1;refine jrows_nf (Cl.of (Zvz d Vo) ⟨_,rfl,?_⟩);have L:rlen (nR (d.fs.map FiD.nm))=d.fs.length:=by simp[rlen]
 dsimp only
 rw[L];refine⟨λJ K x=>0<=x/\x<=d.fs.length/\∃R O,J=ptR R/\K=nR O/\rowsD scF (d.fs.take x.toNat)=(R,O)/\R.length<=x/\O.length<=x/\∀p∈R,PtK p,λ_ _ x=>(d.fs.length-x).toNat,⟨Vo,Vo,[],[],rfl,rfl,rfl,Vs,Vs,Vs⟩,?_⟩;rintro J K x ⟨x0,hx,R,O,rfl,rfl,he,hR,hO,hK⟩;refine Zaa (λh=>?_) (λh=>?_)
 rotate_left
 .simp at h;have e:x.toNat=d.fs.length:=Vo;rw[e,Y7]at he;rw[he];exact⟨rfl,hK⟩
 simp at h;have t:x.toNat<d.fs.length:=Vo;have Y:wadd IntKind.i64 x 1=x+1:=Zac;have u:d.fs.take (x+1).toNat=d.fs.take x.toNat++[d.fs[x.toNat]]:=(by rw[show(x+1).toNat=x.toNat+1 by omega,List.take_succ_eq_append_getElem t]);have v:Nl (d.fs.length-(x+1)).toNat (d.fs.length-x).toNat:=mlt Vo;rw[Y];refine⟨inM _ x0 (by simpa using h),d.fs[x.toNat].nm,(Zbm _ _ x x0 (by simpa using h)).trans Vs,Cl.of (jnum_fn _) ⟨_,rfl,Zaa (λi=>⟨rfl,⟨Vo,Vo,R,O,rfl,rfl,?_,Vo,Vo,hK⟩,v⟩) (λi=>Cl.of (Zn3 d hd _) ⟨_,_,rfl,?_⟩)⟩⟩
 .simp at i;rw[u,Zlv,he];unfold rstep;rw[if_pos i]
 simp at i;rw[read_at F H t];refine Zaa (λj=>by simp at j) (λ_=>?_);have M:(d.fs[x.toNat].su++d.fs[x.toNat].lo).length<=65536:=Zo0 F t;have N:=Zsh (d.fs[x.toNat].su++d.fs[x.toNat].lo)
 dsimp only
 rw[uR_bR];refine Cl.ofQ (Zn7 _ N (by simp only[List.length_map];omega)) ?_;rintro r ⟨sc,st,rfl,hr⟩;have c:scF d.fs[x.toNat]=sc:=Zv5 (by rw[byF_iU];exact hr);have w:=hr.pre.length_le;refine⟨_,_,_,_,_,_,_,_,_,_,rfl,⟨Vo,Vo,by have:=w;simp only[rlen_eq,List.length_map]at this|-;omega⟩,?_⟩;have G:rsub (bR (iU (d.fs[x.toNat].su++d.fs[x.toNat].lo))) 0 ((segL sc).length:Nat)=bR (segL sc):=(by rw[Zjx];simp only[Int.toNat_natCast,Int.toNat_zero,List.drop_zero];rw[<-WT.1 hr.pre]);rw[G];have Q:Byts (segL sc):=λy n=>N y (hr.pre.subset n);refine Cl.ofQ (Zn7 _ Q (by have:=w;simp only[List.length_map]at this;omega)) ?_;rintro r ⟨sc2,st2,rfl,hr2⟩;obtain⟨rfl,rfl⟩:=hr2.whole hr.ok;have C:ptRow (ptF scF d.fs[x.toNat])=[I sc2.num,I sc2.bs,I sc2.ba,SL 1 [],SL 7 (evR sc2.ev),I sc2.s,I sc2.a,SL 1 (nR sc2.m),I (endW 1 sc2.sl),I ((segL sc2).length:Nat),I (rlen (bR (iU (d.fs[x.toNat].su++d.fs[x.toNat].lo))))]:=(by show ptRow ⟨scF d.fs[x.toNat],d.fs[x.toNat].len⟩=_;rw[c];simp[ptRow,FiD.len]);have T:inN (numS d.fs[x.toNat].nm):=(Zc0 i).1
 have D:mayR scF R O d.fs[x.toNat]->0<=x+1/\x+1<=d.fs.length/\∃f k,rapp (ptR R) [ptRow (ptF scF d.fs[x.toNat])]=ptR f/\nR O=nR k/\rowsD scF (d.fs.take (x+1).toNat)=(f,k)/\f.length<=x+1/\k.length<=x+1/\∀p∈f,PtK p:=λn=>by
  refine⟨Vo,Vo,R++[ptF scF d.fs[x.toNat]],O,by simp[rapp],rfl,?_,Vm,Vo,?_⟩
  .rw[u,Zlv,he];unfold rstep;rw[if_neg i,if_pos n]
  .intro p o
   rcases List.mem_append.1 o with o|o
   .exact hK p o
   .have:p=ptF scF d.fs[x.toNat]:=(by simpa using o);subst this;refine⟨by show ScOK (scF _);rw[c];exact hr.ok,?_,by show d.fs[x.toNat].len<=_;unfold FiD.len;simpa using M,by show(segL (scF _)).length<=d.fs[x.toNat].len;rw[c];unfold FiD.len;simpa using w⟩;show inN (scF _).num;rw[n.2.1];exact T
 have no:¬mayR scF R O d.fs[x.toNat]->0<=x+1/\x+1<=d.fs.length/\∃f k,ptR R=ptR f/\rapp (nR O) [[S d.fs[x.toNat].nm]]=nR k/\rowsD scF (d.fs.take (x+1).toNat)=(f,k)/\f.length<=x+1/\k.length<=x+1/\∀p∈f,PtK p:=λn=>by refine⟨Vo,Vo,R,O++[d.fs[x.toNat].nm],rfl,by simp[rapp],?_,Vo,Vm,hK⟩;rw[u,Zlv,he];unfold rstep;rw[if_neg i,if_neg n]
 have U:rlen (ptR R)=R.length:=Vs;have a0:rlen (nR O)=O.length:=Vs;refine⟨_,_,_,_,_,_,_,_,_,_,rfl,?_⟩
 dsimp only
 rw[<-C];refine Zaa (λj=>?_) (λj=>Zaa (λb=>?_) (λb=>?_))
 .simp at j;obtain⟨⟨l,g⟩,A⟩:=j;have z:R.length-1<R.length:=Vo;have Z:wsub IntKind.i64 (rlen (ptR R)) 1=((R.length-1:Nat):Int):=by rw[U,Zap];omega
  have V:R.getLast?=some R[R.length-1]:=(by rw[List.getLast?_eq_getElem?];simp[z]);have E:mayR scF R O d.fs[x.toNat]↔foll (scF d.fs[x.toNat]) R[R.length-1].d:=(by unfold mayR;rw[V,c];exact⟨λq=>q.2.2,λq=>⟨by simpa using l,g,q⟩⟩);rw[Z];refine⟨inM _ Vo Vo,inM _ Vo Vo,_,_,_,_,_,_,_,_,_,_,_,Zfo z,?_⟩;have W:=jfol_fn (ptF scF d.fs[x.toNat]) R[R.length-1] (hK _ (List.getElem_mem z)).num;rw[C]at W;refine Cl.of W ⟨_,rfl,Zaa (λb=>⟨Vm,rfl,D (E.2 (by simpa using b)),v⟩) (λb=>⟨Vm,rfl,no (λq=>by simp at b;exact b (E.1 q)),v⟩)⟩
 .simp at j b;obtain⟨l,g⟩:=b
  have A:R=[]:=by
   rcases WF R.length with e|e
   .exact Ys.1 e
   .have:=j l g;omega
  exact⟨Vm,rfl,D ⟨by simpa using l,by rw[c];exact g,by rw[A];trivial⟩,v⟩
 .simp at b;refine⟨Vm,rfl,no (λq=>b (by simpa using q.1) (by rw[<-c];exact q.2.1)),v⟩
end Jou
namespace Sx
open Go Go.Px Go.Proofs Cmp Tryz
theorem new_P{d:BA}{b a:Int}(c:namB d=true)(l:1<=b/\b<=3)(e:timP a):(newC d b a).1.P:=by
 unfold newC;rw[if_neg (by simp[c]),if_neg Vo,if_neg (by simp[e])];have z:heldP 0:=Vd;have f:hisP 0 0 0 0 0 0 0 0 0 0:=Vd;have g:bktP 10 10:=Vd;by_cases h:b=1
 .rw[if_pos h];have i:=Znu e (w:=10) Vo;have j:Zff (zer 4):=Zka 4
  have k:winP 10 (a/10) (zer 4):=⟨Vd,i,Vd,j⟩
  exact P1 c ⟨z,z,z⟩ h ⟨⟨(by decide:(0:Int)<=0/\(0:Int)<=2),k⟩,f,rfl,rfl⟩
 .rw[if_neg h];by_cases h':b=2
  .exact P2 c ⟨z,z,z⟩ h' ⟨⟨⟨rfl,rfl,rfl,rfl⟩,⟨rfl,rfl,rfl,rfl,rfl,rfl,rfl,rfl,rfl⟩,rfl⟩,g⟩
  .exact P3 c ⟨z,z,z⟩ (show b=3 by omega) ⟨⟨(by decide:(0:Int)<=0/\(0:Int)<=2147483647),rfl,rfl,rfl⟩,f,g⟩
def nxt_P{e:EvD}(m:MayS g e):(nxtS g e).P:=by
 unfold nxtS;by_cases hk:e.k=1
 .rw[if_pos hk];obtain⟨_,f,d,h,_⟩:=chkE_zero m.chk
  grind [lo1,hi1,namB,new_P]
 .rw[if_neg hk];obtain⟨i,a,b,j,c⟩:=m.old hk;rw[b,Zir a];exact tell_P (Zot.1 c)
def app_P{e:EvD}(h:(appS g e).2=0):(appS g e).1.P/\(appS g e).1.q=g.q+1/\g.t<=(appS g e).1.t:=by
 obtain⟨d,i⟩:=Zuh h;have m:=Zhu d;obtain⟨_,_,_,b,f⟩:=chkE_zero m.chk;have j:=m.p.1.1;rw[i];refine⟨⟨⟨?_,f.1,f.2,b.1,b.2⟩,λc a=>?_,Zbo m.p.2.2⟩,m.sq,m.tm⟩
 .show(withB CoD.nm g.cs (nxtS g e)).length<=12;rw[nxt_len m]
  split
  .have:=(m.new (by assumption)).2;omega
  .omega
 .rcases Zeq.1 a with rfl|⟨a,_⟩
  .exact nxt_P m
  .exact m.p.2.1 c a
def fold_P:∀(l:List EvD) {d:StD},d.P->(foldS d l).1.P/\(foldS d l).1.q=d.q+(foldS d l).2.1/\d.t<=(foldS d l).1.t
 | [],d,h=>⟨h,by simp[foldS],Yd _⟩
 |e::l,d,h=>by
  rw[fold_cons]
  split
  .grind
  .rename_i a;have a:(appS d e).2=0:=Vg;obtain⟨b,c,f⟩:=app_P a;obtain⟨g,i,j⟩:=fold_P l b
   grind
end Sx
namespace Li
open Go Go.Px Go.Proofs Cmp Sx Tryz
deriving instance DecidableEq for EvD
def SgT:FuncId->Sig:=(λf=>{})
def SvT:TypeId->Sig:=λ_=>{}
end Li
namespace Jou
open Go Go.Px Go.Proofs Cod Seg Sgr Snp Sx Row Tryz
def base_P(l:List FiD):(baseF l).P:=by
 unfold baseF
 cases h:newF l with
 |none=>exact(by decide:st0.P)
 |some s=>
  unfold newF at h
  split at h
  next hx=>
   cases h
   obtain⟨f,_,a⟩:=hx.choose_spec.1;exact a.1
  .cases h
def stR_P(r:List Pt)(l:List FiD):(stR r (keptF l) (baseF l)).P:=(fold_P _ (base_P l)).1
structure Fct(j:JoD):Prop where
 len:j.sg.length<=64
 fs:j.dk.fs.length<=64
 cx:ctxB j.cx.s j.cx.a j.cx.m=true
 ps:∀p∈j.sg,(0<=p.sz/\p.sz<=65536)/\(1<=p.num/\p.num<=99999999)/\(0<=p.fi/\p.fi<=p.la/\p.la<=4294967296)/\(0<=p.fr/\p.fr<=1099511627776)
 st:j.st.P
def segs_le(l:List FiD):(segs l).length<=l.length:=List.length_filter_le ..
def Ztx(h:ScOK D)(b:D.num≠0):ctxOK D.bs D.ba/\ctxOK D.s D.a/\ctxB D.s D.a D.m=true:=by
 have c:=(h.head b).2;have e:=Zn6 D.ev D.bs D.ba [] c (h.evs b);have f:=Zp5 D.ev D.bs D.ba [] (Seg.ctx_nil.2 c) (h.evs b);rw[<-h.fin b]at e f;exact⟨c,e,f⟩
def RightJ.fct{j:JoD}(h:RightJ j):Fct j:=by
 have a:=h.par;have i:=h.dk.1.1;have v:=segs_le j.dk.fs;have l:=a.dkr.bytes a.all;have hst:j.st.P:=(by rw[a.st];exact stR_P _ _);refine⟨by rw[a.sg];simp;omega,i,?_,?_,hst⟩
 .rw[a.cx];unfold Zbg
  cases hg:((segs j.dk.fs).map (ptF scF)).getLast? with
  |none=>exact Seg.ctx_nil.2 (show ctxOK 0 0 by unfold ctxOK;omega)
  |some p=>
   dsimp only
   split
   .exact Seg.ctx_nil.2 (show ctxOK 0 0 by unfold ctxOK;omega)
   .obtain⟨f,b,rfl⟩:=Ya.1 (Ws hg);obtain⟨g,_,b3,c⟩:=l f b;exact(Ztx g (by rw[b3];exact c)).2.2
 .intro p d;rw[a.sg]at d;obtain⟨q,k,rfl⟩:=Ya.1 d;obtain⟨f,b,rfl⟩:=Ya.1 k;obtain⟨g,m,b3,c⟩:=l f b;have r:(scF f).num≠0:=by rw[b3];exact c
  obtain⟨n,o,_⟩:=Ztx g r;have t:=a.good.cnt _ k;have e:inN (scF f).num:=by rw[b3];exact(Zc0 c).1
  have u:=congrArg List.length m;rw[Zis]at u;have y:=Zfu (List.mem_filter.1 b).1;have z:=h.dk.2.1;have w:=h.dk.1.2.2.1;unfold ctxOK at n o;unfold inN at e;simp only[sgOf];have x:((scF f).ev.length:Int)=(scF f).s-(scF f).bs:=t;refine⟨⟨Vo,Vo⟩,e,⟨Vo,Vo,Vo⟩,Vo,Vo⟩

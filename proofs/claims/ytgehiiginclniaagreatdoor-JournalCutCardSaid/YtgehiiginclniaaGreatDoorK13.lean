import Derived.Test.YtgehiiginclniaaGreatDoorK12
import Derived.WalkKit
import Derived.TacticsInMore
import Derived.LoopNIn
import Derived.LoopIn
import Derived.Shelf.Abstract
import Derived.Test.YtgehiiginclniaaGreatDoorProg
import Derived.Shelf.LaysC
import Derived.Shelf.Strconv.ParseIntPublic10
import Derived.Shelf.Strconv.ErrVarParseInt
import Derived.Lib.AtoiErrMem
set_option linter.all false
set_option maxRecDepth 100000
namespace Go.Proofs.YtgehiiginclniaaGreatDoor
namespace Jou
open Go Go.Px Go.Proofs Cod Seg Sgr Snp Sx Row Tryz
def rowK_map{l a:List FiD}{h:FiD→FiD}(k:srt FiD.nm a)(c:segs a=(segs l).map h)(d:∀f∈segs l,(h f).nm=f.nm∧scF (h f)=scF f)(m:keptF a=keptF l)(i:DkR l (segs l)):rowK a=(((segs l).map h).map (ptF scF),[]):=by
 have j:DkR a (segs a):=by
  refine⟨k,rfl,by rw[c];exact Zla d i.inr,λp b=>?_⟩;rw[c]at b;rw[m]
  rcases Y1 (segs l)with e|⟨gs,g,e⟩
  ·rw[e]at b;simp at b
  ·rw[List.concat_eq_append]at e;have n:=d g (by rw[e];simp);have o:=i.kept (ptF scF g) (by rw[e];simp);rw[e]at b;have e1:p=ptF scF (h g):=(by simpa using b.symm);subst e1;show keptF l≤(scF (h g)).s;rw[n.2];exact o
 rw[Zcq j,c]
def Zxj(r:List Pt)(o:List BA)(x:BA):mendS r (o++[x])=(λd=>Za5 d x)::mendS r o:=by
 unfold mendS;rw[List.reverse_append];rfl
def Zm0:∀(r:List Pt) {s:DiD→DiD×Int} {b:List (DiD→DiD×Int)},r.flatMap cutS=s::b→∃(Y:List Pt) (p:Pt) (X:List Pt),r=Y++p::X∧(∀q∈Y,cutS q=[])∧cutS p=[s]∧X.flatMap cutS=b
 | [],s,b,h=>by cases h
 |p::r,s,b,h=>by
  rw[List.flatMap_cons]at h;by_cases hp:(segL p.d).length<p.n
  ·have e:cutS p=[λd=>opCut d (segNm p.d.num) (segL p.d).length]:=(by unfold cutS;rw[if_pos hp]);rw[e]at h;simp only[List.singleton_append,List.cons.injEq]at h;exact⟨[],p,r,rfl,λq c=>(by cases c),by rw[e,h.1],h.2⟩
  ·have e:cutS p=[]:=(by unfold cutS;rw[if_neg hp]);rw[e,List.nil_append]at h;obtain⟨Y,q,X,f,g,i,j⟩:=Zm0 r h;refine⟨p::Y,q,X,by rw[f];rfl,λz a=>?_,i,j⟩
   rcases List.mem_cons.1 a with rfl|a
   ·exact e
   ·exact g z a
def Zsa{d b:DiD}{gs B:List FiD}{f:FiD}(h:srt FiD.nm d.fs)(l:(segs d.fs).drop (nK d.fs)=B++[f])(m:Za5 d f.nm=(b,0)):Same d b∧rowK b.fs=((rowK d.fs).1,B.map FiD.nm):=by
 obtain⟨_,_,e1,e2,n⟩:=Zfb m;have a:=List.take_append_drop (nK d.fs) (segs d.fs);rw[l,←List.append_assoc]at a;have e:numS f.nm≠0:=Zbl f (by rw[←a];simp);have g:segs b.fs=(segs d.fs).take (nK d.fs)++B:=by rw[e1,Zqo,←a];refine(Zqp ?_).trans (by rw[a]);rw[a];exact Yw _ h
 have j:Same d b:=⟨by rw[e1];exact srt_wout h,by rw[e1];exact(Zgr e).1,by rw[e1];exact(Zgr e).2,e2,n⟩
 refine⟨j,?_⟩;have o:=nK_le d.fs;have c:((segs d.fs).take (nK d.fs)).length=nK d.fs:=by rw[List.length_take];omega
 have k:segs b.fs=(segs d.fs).take (nK d.fs+B.length):=(by rw[g];have:=List.take_left' (l₁:=(segs d.fs).take (nK d.fs)++B) (l₂:=[f]) (i:=nK d.fs+B.length) (by rw[List.length_append,c]);rw[a]at this;exact this.symm);rw[rowK_take k j.kept (by omega),Zpj d.fs];congr 2;have:(segs d.fs).take (nK d.fs+B.length)=(segs d.fs).take (nK d.fs)++B:=(by rw[←k,g]);rw[this,YO (by rw[c];exact Nat.le_refl _),Ym (by rw[c];exact Nat.le_refl _),List.nil_append]
def dkR_rowN{l:List FiD}(a:srt FiD.nm l)(h:(segs l).drop (nK l)=[]):DkR l (segs l):=by
 refine dkR_of a ?_;rw[Zpj,h];rfl
def cutF_len{f:FiD}(h:(scF f).num≠0):(cutF f).len=(segL (scF f)).length:=by rw[←Zhc,Zon h]
def Zts{f:FiD}(h:(scF f).num≠0):scF (cutF f)=scF f:=Zbo (Zf2 h).1 (Zon h)
def step_cut{d b:DiD}{X Y:List FiD}{f:FiD}(c:srt FiD.nm d.fs)(q:DkR d.fs (segs d.fs))(e:segs d.fs=X++f::Y)(r:(segL (scF f)).length<f.len)(y:opCut d (segNm (scF f).num) (segL (scF f)).length=(b,0)):Same d b∧rowK b.fs=((X++cutF f::Y).map (ptF scF),[]):=by
 have i:numS f.nm≠0:=Zbl f (by rw[e];simp);have k:(scF f).num=numS f.nm:=Zbi q.inr f (by rw[e];simp);have t:(scF f).num≠0:=(by rw[k];exact i);obtain⟨_,g,n,_,_,a,A,C⟩:=Zkd y;have u:segNm (scF f).num=f.nm:=(by rw[k];exact Zfh i);rw[u]at n a;have j:f∈d.fs:=(List.mem_filter.1 (show f∈d.fs.filter isSeg by rw[show d.fs.filter isSeg=X++f::Y from e];simp)).1;rw[Zg6 c j]at n
 cases n
 have v:cutF f=⟨f.nm,f.su.take ((segL (scF f)).length:Int).toNat,f.lo.take (((segL (scF f)).length:Int).toNat-f.su.length)⟩:=(by unfold cutF;rw[if_pos r];simp);rw[←v]at a;have l:numS (cutF f).nm≠0:=by rw[Zc7];exact i
 have o:Same d b:=⟨by rw[a];exact Zbn c,by rw[a];exact Zci l,by rw[a];exact Zdr l,A,C⟩
 refine⟨o,?_⟩;have m:segs b.fs=(segs d.fs).map λg=>if g.nm=(cutF f).nm then cutF f else g:=(by rw[a];exact Zpe c ⟨f,j,(Zc7 f).symm⟩);have p:segs b.fs=X++cutF f::Y:=by rw[a];exact Zu5 c e (Zc7 f).symm
 have D:=rowK_map (h:=λg=>if g.nm=(cutF f).nm then cutF f else g) o.srt m (λx z=>by
  by_cases hxn:x.nm=(cutF f).nm
  ·have w:x=f:=(by have s:x∈d.fs:=(List.mem_filter.1 z).1;exact Zlz c s j (by rw[hxn,Zc7]));subst w;show(if x.nm=(cutF x).nm then cutF x else x).nm=x.nm∧scF (if x.nm=(cutF x).nm then cutF x else x)=scF x;rw[if_pos hxn];exact⟨Zc7 x,Zts t⟩
  ·show(if x.nm=(cutF f).nm then cutF f else x).nm=x.nm∧scF (if x.nm=(cutF f).nm then cutF f else x)=scF x;rw[if_neg hxn]
   exact⟨rfl,rfl⟩) o.kept q
 rw[D,←m,p]
def synS_d{r a:List Pt}(h:r.getLast?.map (·.d)=a.getLast?.map (·.d)):synS r=synS a:=by
 unfold synS
 cases hr:r.getLast? with
 |none=>
  cases hr':a.getLast? with
  |none=>rfl
  |some q=>rw[hr,hr']at h;cases h
 |some p=>
  cases hr':a.getLast? with
  |none=>rw[hr,hr']at h;cases h
  |some q=>rw[hr,hr']at h;have h:p.d=q.d:=(by simpa using h);simp only[h]
def step_mend{d g:DiD}{s:DiD→DiD×Int}{c:List (DiD→DiD×Int)}(k:srt FiD.nm d.fs)(h:mendS (rowK d.fs).1 (rowK d.fs).2=s::c)(C:c≠[])(t:s d=(g,0)):Same d g∧mendS (rowK g.fs).1 (rowK g.fs).2=c:=by
 rcases Y1 ((segs d.fs).drop (nK d.fs))with hd|⟨B,f,hd⟩
 ·have r:=dkR_rowN k hd;rw[Zcq r]at h;unfold mendS at h;simp only[List.reverse_nil,List.map_nil,List.nil_append]at h
  cases hfm:((segs d.fs).map (ptF scF)).reverse.flatMap cutS with
  |nil=>
   rw[hfm,List.nil_append]at h;exfalso;unfold synS at h
   split at h
   ·cases h
   ·split at h
    ·cases h
    ·simp only[List.cons.injEq]at h;exact C h.2.symm
  |cons N O=>
   rw[hfm]at h;simp only[List.cons_append,List.cons.injEq]at h;obtain⟨rfl,l⟩:=h;obtain⟨D,p,E,e1,e2,a,F⟩:=Zm0 _ hfm;have M:(segs d.fs).map (ptF scF)=E.reverse++p::D.reverse:=(by have:=congrArg List.reverse e1;rw[Y01]at this;rw[this];simp);obtain⟨X,R,i,G,H⟩:=List.map_eq_append_iff.1 M;obtain⟨f,Y,J,K,L⟩:=List.map_eq_cons_iff.1 H;subst J;subst K
   have j:(segL (scF f)).length<f.len:=by
    unfold cutS at a
    split at a
    next q=>exact q
    ·cases a
   have v:N=λd=>opCut d (segNm (scF f).num) (segL (scF f)).length:=(by unfold cutS at a;rw[if_pos (show(segL (ptF scF f).d).length<(ptF scF f).n from j)]at a;simp only[List.cons.injEq,and_true]at a;exact a.symm);subst v;obtain⟨m,o⟩:=step_cut k r i j t;refine⟨m,?_⟩;have w:numS f.nm≠0:=Zbl f (by rw[i];simp);have b:(scF f).num≠0:=(by rw[Zbi r.inr f (by rw[i];simp)];exact w);rw[o];unfold mendS;simp only[List.reverse_nil,List.map_nil,List.nil_append];have x:cutS (ptF scF (cutF f))=[]:=by unfold cutS;rw[if_neg];show¬(segL (scF (cutF f))).length<(cutF f).len;rw[Zts b,cutF_len b];omega
   have z:(Y.map (ptF scF)).reverse.flatMap cutS=[]:=by
    apply List.flatMap_eq_nil_iff.2;intro q u;refine e2 q ?_;rw[L]at u
    simpa using u
   have A:(X.map (ptF scF)).reverse.flatMap cutS=O:=(by rw[G,Y01];exact F);rw[List.map_append,List.map_cons,List.reverse_append,List.reverse_cons,List.flatMap_append,List.flatMap_append,z,A];simp only[List.flatMap_cons,WN,x,List.nil_append];rw[←l];congr 1;apply synS_d;rw[i,List.map_append,List.map_cons]
   cases Y with
   |nil=>simp only[List.map_nil,List.getLast?_concat,YC];exact congrArg some (Zts b)
   |cons y Y=>rw[Y02,Y02];simp[WP]
 ·rw[List.concat_eq_append]at hd;have e:=Zpj d.fs;rw[hd,List.map_append]at e;rw[e]at h;simp only[List.map_cons,List.map_nil]at h;rw[Zxj]at h;simp only[List.cons.injEq]at h;obtain⟨rfl,l⟩:=h;obtain⟨m,o⟩:=Zsa (gs:=[]) k hd t;refine⟨m,?_⟩;rw[o,e];exact l
def Zwg:∀(a b:List (DiD→DiD×Int)) {d c:DiD},srt FiD.nm d.fs→mendS (rowK d.fs).1 (rowK d.fs).2=a++b→b≠[]→runS d a=(c,0)→mendS (rowK c.fs).1 (rowK c.fs).2=b∧(srt FiD.nm c.fs∧keptF c.fs=keptF d.fs)
 | [],b,d,c,hs,h,hb,h1=>by simp only[runS,Prod.mk.injEq]at h1;rw[←h1.1];exact⟨h,hs,rfl⟩
 |s::a,b,d,c,hs,h,hb,h1=>by obtain⟨m,f,g⟩:=Zf3 h1;obtain⟨e,i⟩:=step_mend hs h (by simp[hb]) f;obtain⟨j,k,l⟩:=Zwg a b e.srt i hb g;exact⟨j,k,l.trans e.kept⟩
inductive Stp where
 |cre (s:BA)
 |wri (s:BA) (x:List UInt8)
 |syn (s:BA)
 |rem (s:BA)
 |cut (s:BA) (n:Int)
def Stp.run:Stp→DiD→DiD×Int
 | .cre s,d=>Za9 d s
 | .wri s x,d=>Zau d s x
 | .syn s,d=>Zaz d s
 | .rem s,d=>Za5 d s
 | .cut s n,d=>opCut d s n
def runP:DiD→List Stp→DiD×Int
 |d,[]=>(d,0)
 |d,s::l=>if(s.run d).2≠0 then s.run d else runP (s.run d).1 l
def Zzx:∀(l:List Stp) (d:DiD),runP d l=runS d (l.map Stp.run)
 | [],d=>rfl
 |s::l,d=>by rw[runP,List.map_cons,runS,Zzx l]
abbrev nmG(n:Int):BA:=Sgr.segNm n
def Zep{n:Int}(h:inN n):nmG n=Jou.segNm n:=by
 unfold nmG Sgr.segNm;rw[if_pos (show 1≤n∧n≤99999999 from h)];rfl
def nmG_no{n:Int}(h:¬inN n):nmG n=ByteArray.mk #[]:=by
 unfold nmG Sgr.segNm;rw[if_neg (show¬(1≤n∧n≤99999999)from h)]
def cutP(p:Pt):List Stp:=if(segL p.d).length<p.n then[.cut (nmG p.d.num) (segL p.d).length]else[]
def synP(r:List Pt):List Stp:=match r.getLast? with
 |none=>[]
 |some p=>if p.d.sl=true then[]else[.syn (nmG p.d.num)]
def mendP(r:List Pt)(o:List BA):List Stp:=o.reverse.map Stp.rem++(r.reverse.flatMap cutP++synP r)
def Zrz{r:List Pt}{o:List BA}(h:∀p∈r,inN p.d.num):(mendP r o).map Stp.run=mendS r o:=by
 unfold mendP mendS;rw[List.map_append,List.map_append,List.map_map];congr 1;congr 1
 ·rw[List.map_flatMap]
  have:∀p∈r.reverse,(cutP p).map Stp.run=cutS p:=λp b=>by
   unfold cutP cutS;rw[Zep (h p (by simpa using b))]
   split<;>rfl
  revert this
  generalize r.reverse=l;intro this
  induction l with
  |nil=>rfl
  |cons x l c=>rw[List.flatMap_cons,List.flatMap_cons,this x (by simp),c λp b=>this p (by simp[b])]
 ·unfold synP synS
  cases hr:r.getLast? with
  |none=>rfl
  |some p=>
   dsimp only
   rw[Zep (h p (List.mem_of_getLast? hr))]
   split<;>rfl
def repE(k:Int):StD→List Cod.EvD→StD×Bool
 |s,[]=>(s,true)
 |s,e::l=>if e.s≤k then repE k s l else if(appS s (toE e)).2≠0 then((appS s (toE e)).1,false)else repE k (appS s (toE e)).1 l
def repR(k:Int):StD→List Pt→StD×Bool
 |s,[]=>(s,true)
 |s,p::r=>if(p.d.ev.length:Int)≠p.d.s-p.d.bs then(s,false)else if(repE k s p.d.ev).2=false then repE k s p.d.ev else repR k (repE k s p.d.ev).1 r
def repP(r:List Pt)(s:StD):StD×Bool:=match r.head?,r.getLast? with
 |some p,some q=>if s.q<p.d.bs then(s,false)else if(repR s.q s r).2=false then repR s.q s r else((repR s.q s r).1,decide (q.d.a=(repR s.q s r).1.t))
 |_,_=>(s,true)
def Zhy(k:Int):∀(l:List Cod.EvD) (s:StD),repE k s l=((foldS s ((l.map toE).filter λe=>decide (k<e.s))).1,decide ((foldS s ((l.map toE).filter λe=>decide (k<e.s))).2.2=0))∨((repE k s l).2=false∧(foldS s ((l.map toE).filter λe=>decide (k<e.s))).2.2≠0)
 | [],s=>.inl rfl
 |e::l,s=>by
  rw[repE,List.map_cons,List.filter_cons];by_cases h:e.s≤k
  ·have a:decide (k<(toE e).s)=false:=decide_eq_false (Int.not_lt.2 h);rw[if_pos h,a];exact Zhy k l s
  ·have a:decide (k<(toE e).s)=true:=decide_eq_true (Int.not_le.1 h);rw[if_neg h,a,if_pos rfl,foldS];by_cases h2:(appS s (toE e)).2≠0
   ·rw[if_pos h2,if_pos h2];exact .inr ⟨rfl,h2⟩
   ·rw[if_neg h2,if_neg h2];exact Zhy k l _
def Zkw:∀(l m:List Cmp.EvD) (s:StD),(foldS s l).2.2=0→(foldS s (l++m)).1=(foldS (foldS s l).1 m).1∧(foldS s (l++m)).2.2=(foldS (foldS s l).1 m).2.2
 | [],m,s,_=>⟨rfl,rfl⟩
 |e::l,m,s,h=>by
  rw[foldS]at h;rw[List.cons_append,foldS,foldS];by_cases h2:(appS s e).2≠0
  ·rw[if_pos h2]at h;exact absurd h h2
  ·rw[if_neg h2]at h;rw[if_neg h2,if_neg h2];exact Zkw l m _ h
def Zhz:∀(l m:List Cmp.EvD) (s:StD),(foldS s l).2.2≠0→(foldS s (l++m)).2.2≠0
 | [],m,s,h=>absurd rfl h
 |e::l,m,s,h=>by
  rw[foldS]at h;rw[List.cons_append,foldS];by_cases h2:(appS s e).2≠0
  ·rw[if_pos h2];exact h2
  ·rw[if_neg h2]at h⊢;exact Zhz l m _ h
def Zn5(k:Int):∀(r:List Pt) (s:StD),(repR k s r).2=true→(∀p∈r,(p.d.ev.length:Int)=p.d.s-p.d.bs)∧(foldS s ((evsR r).filter λe=>decide (k<e.s))).2.2=0∧(repR k s r).1=(foldS s ((evsR r).filter λe=>decide (k<e.s))).1
 | [],s,_=>⟨by simp,rfl,rfl⟩
 |p::r,s,h=>by
  rw[repR]at h⊢;by_cases h1:(p.d.ev.length:Int)≠p.d.s-p.d.bs
  ·rw[if_pos h1]at h;cases h
  rw[if_neg h1]at h⊢;by_cases h2:(repE k s p.d.ev).2=false
  ·rw[if_pos h2]at h;rw[h2]at h;cases h
  rw[if_neg h2]at h⊢;have l:evsR (p::r)=p.d.ev.map toE++evsR r:=rfl
  rcases Zhy k p.d.ev s with e|⟨e,_⟩
  ·rw[e]at h2 h⊢;have g:(foldS s ((p.d.ev.map toE).filter λe=>decide (k<e.s))).2.2=0:=(by simpa using h2);obtain⟨a,b,c⟩:=Zn5 k r _ h;rw[l,List.filter_append];obtain⟨i,j⟩:=Zkw _ ((evsR r).filter λe=>decide (k<e.s)) s g;refine⟨?_,by rw[j];exact b,by rw[i];exact c⟩;intro q f
   rcases List.mem_cons.1 f with rfl|f
   ·simpa using h1
   ·exact a q f
  ·exact absurd e h2
def Zn6(k:Int):∀(r:List Pt) (s:StD),(∀p∈r,(p.d.ev.length:Int)=p.d.s-p.d.bs)→(foldS s ((evsR r).filter λe=>decide (k<e.s))).2.2=0→(repR k s r).2=true
 | [],s,_,_=>rfl
 |p::r,s,h,h0=>by
  have b:evsR (p::r)=p.d.ev.map toE++evsR r:=rfl;rw[b,List.filter_append]at h0;rw[repR,if_neg (by simpa using h p (by simp))]
  rcases Zhy k p.d.ev s with e|⟨_,e⟩
  ·by_cases h2:(foldS s ((p.d.ev.map toE).filter λe=>decide (k<e.s))).2.2=0
   ·rw[e];rw[if_neg (by simpa using h2)];rw[(Zkw _ _ s h2).2]at h0;exact Zn6 k r _ (λq a=>h q (by simp[a])) h0
   ·exact absurd h0 (Zhz _ _ s h2)
  ·exact absurd h0 (Zhz _ _ s e)
def repP_iff{r:List Pt}{s:StD}:(repP r s).2=true↔GoodR r s.q s:=by
 unfold repP
 cases hr:r.head? with
 |none=>have:r=[]:=WV.1 hr;subst this;exact⟨λ_=>⟨by simp,by simp,rfl,by simp⟩,λ_=>rfl⟩
 |some p=>
  obtain⟨q,hq⟩:∃q,r.getLast?=some q:=by
   cases r with
   |nil=>cases hr
   |cons x l=>exact⟨_,Wu (by simp)⟩
  rw[hq]
  dsimp only
  constructor
  ·intro h
   split at h
   ·cases h
   rename_i j
   split at h
   next e=>rw[e]at h;cases h
   rename_i e;have g:(repR s.q s r).2=true:=(by simpa using e);obtain⟨a,b,c⟩:=Zn5 s.q r s g;refine⟨λx f=>?_,a,b,λx f=>?_⟩
   ·rw[hr]at f;cases f;omega
   ·rw[hq]at f;cases f;have i:q.d.a=(repR s.q s r).1.t:=(by simpa using h);rw[i,c];rfl
  ·intro h;have e:=Zn6 s.q r s h.cnt h.app;obtain⟨_,_,c⟩:=Zn5 s.q r s e;rw[if_neg (by have:=h.bs p hr;omega),if_neg (by rw[e];simp)];have:=h.at_ q hq;show decide _=true;rw[decide_eq_true_eq,c];exact this
def repP_st{r:List Pt}{s:StD}(h:GoodR r s.q s):(repP r s).1=stR r s.q s:=by
 unfold repP
 cases hr:r.head? with
 |none=>have:r=[]:=WV.1 hr;subst this;rfl
 |some p=>
  obtain⟨q,hq⟩:∃q,r.getLast?=some q:=by
   cases r with
   |nil=>cases hr
   |cons x l=>exact⟨_,Wu (by simp)⟩
  rw[hq]
  dsimp only
  have a:=Zn6 s.q r s h.cnt h.app;obtain⟨_,_,c⟩:=Zn5 s.q r s a;rw[if_neg (by have:=h.bs p hr;omega),if_neg (by rw[a];simp)];exact c
instance (b g:Int):Decidable (mayC b g):=inferInstanceAs (Decidable (_∧_))
def jo0(d:DiD):JoD:=⟨d,0,0,[],⟨0,0,[]⟩,st0,0,0,false⟩
noncomputable def menD(d:DiD):DiD×Int:=runP d (mendP (rowK d.fs).1 (rowK d.fs).2)
open Classical in
noncomputable def openP(d:DiD)(cb cg:Int):JoD×Int:=
 if¬(d.P∧mayC cb cg)then(jo0 d,1)else if d.dn=true then(jo0 d,16)
 else if¬GoodR (rowK d.fs).1 (keptF d.fs) (baseF d.fs)then(jo0 d,11)
 else if(menD d).2≠0 then(jo0 (menD d).1,(menD d).2)
 else(⟨(menD d).1,cb,cg,(rowK d.fs).1.map sgOf,Zbp (rowK d.fs).1,stR (rowK d.fs).1 (keptF d.fs) (baseF d.fs),(stR (rowK d.fs).1 (keptF d.fs) (baseF d.fs)).q,keptF d.fs,false⟩,0)
open Classical in
noncomputable def mayJ(j:JoD):Int:=if j.dk.P∧j.dk.dn=true then 16 else if¬RightJ j then 1 else 0
def Zcg{j:JoD}:mayJ j=0↔RightJ j:=by
 unfold mayJ;constructor
 ·intro h
  split at h
  ·cases h
  split at h
  ·cases h
  rename_i g;exact Yj.1 g
 ·intro h;rw[if_neg (λq=>by rw[h.up]at q;cases q.2),if_neg (by simp[h])]
structure WrD where
 j:JoD
 td:List Stp
 sz:Int
def bys(l:List Int):List UInt8:=l.map λn=>UInt8.ofNat n.toNat
def putW(w:WrD)(l:List SgD)(p:SgD)(b:List Int):WrD:=⟨{w.j with sg:=l++[{p with sz:=p.sz+b.length}]},w.td++[.wri (nmG p.num) (bys b)],w.sz+b.length⟩
def selB(j:JoD)(p:SgD):List Int:=fr 3 (slP (p.la-p.fi) j.cx.s j.cx.a)
def sealW(w:WrD)(l:List SgD)(p:SgD):WrD:=
 ⟨{w.j with sg:=l++[{p with sz:=p.sz+(selB w.j p).length,sl:=true}],cx:=⟨0,0,[]⟩,sure:=w.j.st.q},w.td++[.wri (nmG p.num) (bys (selB w.j p)),.syn (nmG p.num)],w.sz+(selB w.j p).length⟩
def lasS(l:List SgD):Option (List SgD×SgD):=match l.getLast? with|none=>none|some p=>some (l.dropLast,p)
def Zae(l:List SgD)(p:SgD):lasS (l++[p])=some (l,p):=by simp[lasS]
def nxtN(w:WrD):Int:=match lasS w.j.sg with|none=>1|some (_,p)=>p.num+1
def hedB(j:JoD)(n:Int):List Int:=fr 1 (hdP n j.st.q j.st.t)
def begW(w:WrD):Option WrD:=if¬inN (nxtN w)∨64<w.j.dk.fs.length+1 then none else
 some ⟨{w.j with sg:=w.j.sg++[⟨nxtN w,w.j.st.q,w.j.st.q,w.j.st.t,w.j.st.t,(hedB w.j (nxtN w)).length,false⟩],cx:=⟨w.j.st.q,w.j.st.t,[]⟩},w.td++[.cre (nmG (nxtN w)),.wri (nmG (nxtN w)) (bys (hedB w.j (nxtN w)))],w.sz+(hedB w.j (nxtN w)).length⟩
def recL'(j:JoD)(e:Cod.EvD):List Int:=fr 2 (encL j.cx.s j.cx.a j.cx.m e)
def recW(w:WrD)(e:Cod.EvD):Option WrD:=match lasS w.j.sg with
 |none=>none
 |some (l,p)=>if encE w.j.cx.s w.j.cx.a w.j.cx.m e≠0 then none else
  some ⟨{w.j with sg:=l++[{p with sz:=p.sz+(recL' w.j e).length,la:=e.s,ti:=e.a}],cx:=⟨e.s,e.a,bhdN w.j.cx.m e.c⟩},w.td++[.wri (nmG p.num) (bys (recL' w.j e))],w.sz+(recL' w.j e).length⟩
def opnW(w:WrD):Bool:=match lasS w.j.sg with|none=>false|some (_,p)=>!p.sl
def ovrB(j:JoD)(e:Cod.EvD):Bool:=match lasS j.sg with
 |none=>false
 |some (_,p)=>if p.sl=true∨p.la≤p.fi then false else if encE j.cx.s j.cx.a j.cx.m e≠0∨j.cb<p.sz+(recL' j e).length then true else decide (j.cg<e.a-p.fr)
def shtJ(j:JoD):JoD×Int:=({j with shut:=true},13)
def w0(j:JoD):WrD:=⟨j,[],0⟩
def w1(j:JoD)(e:Cod.EvD):WrD:=match lasS j.sg with|some (l,p)=>if ovrB j e=true then sealW (w0 j) l p else w0 j|none=>w0 j
def w2(j:JoD)(e:Cod.EvD):Option WrD:=if opnW (w1 j e)=true then some (w1 j e)else begW (w1 j e)
def w3(j:JoD)(e:Cod.EvD):Option WrD:=match w2 j e with|none=>none|some w=>recW w e
def endJ(j:JoD)(s:StD)(w:WrD):JoD×Int:=if j.dk.rm<usedL j.dk.fs+w.sz then shtJ j else if(runP j.dk w.td).2≠0 then({j with dk:=(runP j.dk w.td).1},(runP j.dk w.td).2)else({w.j with dk:=(runP j.dk w.td).1,st:=s},0)
def evN(j:JoD)(e:Cod.EvD):Cod.EvD:={e with s:=j.st.q+1}
def appQ(j:JoD)(e:Cod.EvD):JoD×Int:=
 if(appS j.st (toE (evN j e))).2≠0 then(j,(appS j.st (toE (evN j e))).2)else if j.shut=true then(j,13)else match w3 j (evN j e)with
 |none=>shtJ j
 |some w=>endJ j (appS j.st (toE (evN j e))).1 w
noncomputable def appP(j:JoD)(e:Cod.EvD):JoD×Int:=if mayJ j≠0 then(j,mayJ j)else appQ j e
def synQ(j:JoD):JoD×Int:=match lasS j.sg with
 |none=>({j with sure:=j.st.q},0)
 |some (_,p)=>if p.sl=true then({j with sure:=j.st.q},0)else if(Zaz j.dk (nmG p.num)).2≠0 then({j with dk:=(Zaz j.dk (nmG p.num)).1},(Zaz j.dk (nmG p.num)).2)else({j with dk:=(Zaz j.dk (nmG p.num)).1,sure:=j.st.q},0)
noncomputable def synJ(j:JoD):JoD×Int:=if mayJ j≠0 then(j,mayJ j)else synQ j
def rotQ(j:JoD):JoD×Int:=match lasS j.sg with
 |none=>(j,14)
 |some (l,p)=>if p.sl=true∨p.la≤p.fi then(j,14)else endJ j j.st (sealW (w0 j) l p)
noncomputable def rotJ(j:JoD):JoD×Int:=if mayJ j≠0 then(j,mayJ j)else rotQ j
open Classical in
noncomputable def evsJ(j:JoD):List Cod.EvD:=if RightJ j then(rowK j.dk.fs).1.flatMap (·.d.ev)else[]
end Jou
namespace Jou
open Go Go.Px Go.Proofs Go.RowKit Go.Shelf Tryz
set_option maxHeartbeats 2000000
attribute [local go_sem] Oper.semAt_some
def backS:Zmb prog 183 (λc=>c 0) 1:=by
 refine⟨enters_of func183 (by kernel_rfl) rfl,?_⟩;intro l o q p b off len h r s t J Kp d j u W f v w;have A:=f W (d W);refine callsIn_of_wp func183 rfl trivial ?_ rfl;simp only[Tryz.ntmps183,YH,List.length_cons,Y5,Nat.reduceAdd,Nat.reduceSub,Wq,Wr,WE,Wy,List.nil_append,List.cons_append]
 gi_wp2
 gi_loopw [3] (λi wr=>∃k:Nat,k≤len∧i= .int .i64 ((len:Int)-1-k)∧J k wr∧Kp W wr)
  (λi _=>(intOf i+1).toNat)
 case atStart=>exact⟨0,WA _,by simp,w,d _⟩
 case round=>
  obtain⟨k,K,rfl,g,a⟩:=hrel;have E:wr.cell? ⟨o,q,none⟩=some (.slice p len h):=f wr a;by_cases hlt:k<len
  ·obtain⟨L,x,m,y,M,z⟩:=u k wr g hlt;have n:=s (by omega);subst n;have C:wr.cell? ⟨b,off+(len-1-k),none⟩=some (r (len-1-k) 0):=by have:=v (len-1-k) (by omega) 0 (by omega) wr a;simpa using this
   have F:(0:Int)≤(len:Int)-1-k:=(by omega);have D:(len:Int)-1-k<len:=(by omega);have G:((len:Int)-1-k).toNat=len-1-k:=by omega
   gi_wp2
   refine z.mono ?_;rintro e H ⟨rfl,hJ3,hk3⟩
   gi_wp2
   go_roundw
   case rel=>exact⟨k+1,by omega,by simp;omega,hJ3,j a hk3⟩
   case measure=>simp[intOf];omega
  ·obtain rfl:k=len:=by omega
   gi_wp2
   go_end0
   exact⟨⟨_,rfl⟩,g⟩
def backP:Zmb prog 185 (λc=>.agg #[c 0,c 1,c 2,c 3,c 4,c 5,c 6,c 7,c 8,c 9,c 10]) 11:=by
 refine⟨enters_of func185 (by kernel_rfl) rfl,?_⟩;intro l s t p b off len m d u v J Kp g n w W h f x;have C:=h W (g W);refine callsIn_of_wp func185 rfl trivial ?_ rfl;simp only[Tryz.ntmps185,YH,List.length_cons,Y5,Nat.reduceAdd,Nat.reduceSub,Wq,Wr,WE,Wy,List.nil_append,List.cons_append]
 gi_wp2
 gi_loopw [3] (λi wr=>∃k:Nat,k≤len∧i= .int .i64 ((len:Int)-1-k)∧J k wr∧Kp W wr)
  (λi _=>(intOf i+1).toNat)
 case atStart=>exact⟨0,WA _,by simp,x,g _⟩
 case round=>
  obtain⟨k,V,rfl,j,a⟩:=hrel;have Q:wr.cell? ⟨s,t,none⟩=some (.slice p len m):=h wr a;by_cases hlt:k<len
  ·obtain⟨X,y,o,z,Y,A⟩:=w k wr j hlt;have q:=u (by omega);subst q;have D:wr.cell? ⟨b,off+(len-1-k)*11,none⟩=some (d (len-1-k) 0):=by have:=f (len-1-k) (by omega) 0 (by omega) wr a;simpa using this
   have E:wr.cell? ⟨b,off+(len-1-k)*11+1,none⟩=some (d (len-1-k) 1):=(by have:=f (len-1-k) (by omega) 1 (by omega) wr a;simpa using this);have F:wr.cell? ⟨b,off+(len-1-k)*11+2,none⟩=some (d (len-1-k) 2):=(by have:=f (len-1-k) (by omega) 2 (by omega) wr a;simpa using this);have G:wr.cell? ⟨b,off+(len-1-k)*11+3,none⟩=some (d (len-1-k) 3):=(by have:=f (len-1-k) (by omega) 3 (by omega) wr a;simpa using this);have H:wr.cell? ⟨b,off+(len-1-k)*11+4,none⟩=some (d (len-1-k) 4):=(by have:=f (len-1-k) (by omega) 4 (by omega) wr a;simpa using this);have K:wr.cell? ⟨b,off+(len-1-k)*11+5,none⟩=some (d (len-1-k) 5):=(by have:=f (len-1-k) (by omega) 5 (by omega) wr a;simpa using this);have L:wr.cell? ⟨b,off+(len-1-k)*11+6,none⟩=some (d (len-1-k) 6):=(by have:=f (len-1-k) (by omega) 6 (by omega) wr a;simpa using this);have M:wr.cell? ⟨b,off+(len-1-k)*11+7,none⟩=some (d (len-1-k) 7):=(by have:=f (len-1-k) (by omega) 7 (by omega) wr a;simpa using this);have N:wr.cell? ⟨b,off+(len-1-k)*11+8,none⟩=some (d (len-1-k) 8):=(by have:=f (len-1-k) (by omega) 8 (by omega) wr a;simpa using this);have O:wr.cell? ⟨b,off+(len-1-k)*11+9,none⟩=some (d (len-1-k) 9):=(by have:=f (len-1-k) (by omega) 9 (by omega) wr a;simpa using this);have r:wr.cell? ⟨b,off+(len-1-k)*11+10,none⟩=some (d (len-1-k) 10):=(by have:=f (len-1-k) (by omega) 10 (by omega) wr a;simpa using this);have R:(0:Int)≤(len:Int)-1-k:=(by omega);have P:(len:Int)-1-k<len:=(by omega);have T:((len:Int)-1-k).toNat=len-1-k:=by omega
   gi_wp2
   refine A.mono ?_;rintro e U ⟨rfl,hJ3,hk3⟩
   gi_wp2
   go_roundw
   case rel=>exact⟨k+1,by omega,by simp;omega,hJ3,n a hk3⟩
   case measure=>simp[intOf];omega
  ·obtain rfl:k=len:=by omega
   gi_wp2
   go_end0
   exact⟨⟨_,rfl⟩,j⟩
def ItJ:Nat→Option (FuncId×TypeId):=λp=>bif Nat.beq p 12 then some (183,9)else bif Nat.beq p 22 then some (185,114)else none
def hItJ:∀p f e z,ItJ p=some (f,e)→szT prog e=some z→Zmb prog f (elOf prog e z) z:=by
 intro p f e z a b;unfold ItJ at a
 cases h1:Nat.beq p 12 with
 |true=>simp only[h1,cond_true,YR,Prod.mk.injEq]at a;obtain⟨rfl,rfl⟩:=a;obtain rfl:=Option.some.inj (b.symm.trans (show szT prog 9=some 1 by kernel_rfl));exact(show elOf prog 9 1=(λc=>c 0) by kernel_rfl)▸backS
 |false=>
  simp only[h1,cond_false]at a
  cases h2:Nat.beq p 22 with
  |true=>simp only[h2,cond_true,YR,Prod.mk.injEq]at a;obtain⟨rfl,rfl⟩:=a;obtain rfl:=Option.some.inj (b.symm.trans (show szT prog 114=some 11 by kernel_rfl));exact(show elOf prog 114 11=(λc=>.agg #[c 0,c 1,c 2,c 3,c 4,c 5,c 6,c 7,c 8,c 9,c 10]) by kernel_rfl)▸backP
  |false=>simp only[h2,cond_false]at a;cases a
end Jou
namespace Jou
open Go Go.Px Go.Proofs Cod Tryz
abbrev dk4(rows:LL)(b a:Int)(c:Bool):SV:=.agg [SL 3 rows,I b,I a,B c]
abbrev st3(rows:LL)(s a:Int):SV:=.agg [SL 21 rows,I s,I a]
abbrev cx3(s a:Int)(b:LL):SV:=.agg [I s,I a,SL 1 b]
abbrev ev7(s a k:Int)(c:BA)(x y z:Int):SV:=.agg [I s,I a,I k,S c,I x,I y,I z]
abbrev sg7(n f l fr b c:Int)(a:Bool):SV:=.agg [I n,I f,I l,I fr,I b,I c,B a]
abbrev sc10(num bs b:Int)(c ev:LL)(a d:Int)(e:LL)(f g:Int):SV:=.agg [I num,I bs,I b,SL 1 c,SL 7 ev,I a,I d,SL 1 e,I f,I g]
abbrev pt11(num bs c:Int)(d ev:LL)(a e:Int)(f:LL)(g h b:Int):SV:=.agg [I num,I bs,I c,SL 1 d,SL 7 ev,I a,I e,SL 1 f,I g,I h,I b]
abbrev fd7(row out:LL)(b:Int)(d:LL)(s a:Int)(c:Bool):SV:=.agg [SL 11 row,SL 1 out,I b,SL 21 d,I s,I a,B c]
abbrev jr16(rows:LL)(b a:Int)(c:Bool)(f g:Int)(segs:LL)(h i:Int)(j k:LL)(l m d e:Int)(shut:Bool):SV:=.agg [SL 3 rows,I b,I a,B c,I f,I g,SL 7 segs,I h,I i,SL 1 j,SL 21 k,I l,I m,I d,I e,B shut]
abbrev wr18(rows:LL)(b a:Int)(c:Bool)(h i:Int)(segs:LL)(j k:Int)(l m:LL)(n o d e:Int)(shut:Bool)(f:LL)(g:Int):SV:=.agg [SL 3 rows,I b,I a,B c,I h,I i,SL 7 segs,I j,I k,SL 1 l,SL 21 m,I n,I o,I d,I e,B shut,SL 1 f,I g]
abbrev mm7(row b d:LL)(s a c e:Int):SV:=.agg [SL 10 row,SL 1 b,SL 21 d,I s,I a,I c,I e]
abbrev sm(x:LL):Prop:=Option.some x=Option.some x
abbrev inR(x:Int)(l:LL):Prop:=(0:Int)≤x∧x<rlen l
abbrev ej0(r:List SV)(K:Nat→(List SV)→Prop):Prop:=∃a:Nat,∃b:List SV,(r=[SV.clo a b])∧K a b
abbrev ej1(r:List SV)(K:LL→Int→Int→Bool→Int→Prop):Prop:=∃a:LL,∃b:Int,∃c:Int,∃d:Bool,∃e:Int,(r=[dk4 a b c d,I e])∧K a b c d e
abbrev ej2(r:List SV)(K:BA→Prop):Prop:=∃a:BA,(r=[S a])∧K a
abbrev ej3(r:List SV)(K:Int→Int→Int→LL→LL→Int→Int→LL→Int→Int→Int→Prop):Prop:=∃b:Int,∃c:Int,∃d:Int,∃e:LL,∃f:LL,∃g:Int,∃h:Int,∃i:LL,∃j:Int,∃k:Int,∃a:Int,(r=[I b,I c,I d,SL 1 e,SL 7 f,I g,I h,SL 1 i,I j,I k,I a])∧K b c d e f g h i j k a
abbrev ej4(r:List SV)(K:Bool→Prop):Prop:=∃a:Bool,(r=[B a])∧K a
abbrev ej5(r:List SV)(K:Int→Int→Int→Int→Int→Int→Bool→Prop):Prop:=∃a:Int,∃b:Int,∃c:Int,∃d:Int,∃e:Int,∃f:Int,∃g:Bool,(r=[I a,I b,I c,I d,I e,I f,B g])∧K a b c d e f g
abbrev ej6(r:List SV)(K:LL→Int→Int→LL→Int→Prop):Prop:=∃a:LL,∃b:Int,∃c:Int,∃d:LL,∃e:Int,(r=[SL 1 a,cx3 b c d,I e])∧K a b c d e
abbrev ej7(r:List SV)(K:LL→Int→Prop):Prop:=∃a:LL,∃b:Int,(r=[SL 1 a,I b])∧K a b
abbrev ej8(r:List SV)(K:LL→Int→Int→Bool→Int→Int→LL→Int→Int→LL→LL→Int→Int→Int→Int→Bool→LL→Int→Prop):Prop:=∃i:LL,∃j:Int,∃k:Int,∃l:Bool,∃m:Int,∃n:Int,∃o:LL,∃p:Int,∃q:Int,∃s:LL,∃a:LL,∃b:Int,∃c:Int,∃d:Int,∃e:Int,∃f:Bool,∃g:LL,∃h:Int,(r=[wr18 i j k l m n o p q s a b c d e f g h])∧K i j k l m n o p q s a b c d e f g h
abbrev ej9(r:List SV)(K:LL→Prop):Prop:=∃a:LL,(r=[SL 1 a])∧K a
abbrev ej10(r:List SV)(K:Int→Prop):Prop:=∃a:Int,(r=[I a])∧K a
abbrev ej11(r:List SV)(K:Int→Int→Int→LL→LL→Int→Int→LL→Int→Int→Prop):Prop:=∃a:Int,∃b:Int,∃c:Int,∃d:LL,∃e:LL,∃f:Int,∃g:Int,∃h:LL,∃i:Int,∃j:Int,(r=[sc10 a b c d e f g h i j])∧K a b c d e f g h i j
abbrev ej12(r:List SV)(K:LL→LL→Prop):Prop:=∃a:LL,∃b:LL,(r=[SL 11 a,SL 1 b])∧K a b
abbrev ej13(r:List SV)(K:LL→Int→Int→Int→Prop):Prop:=∃a:LL,∃b:Int,∃c:Int,∃d:Int,(r=[st3 a b c,I d])∧K a b c d
abbrev ej14(r:List SV)(K:LL→Int→Int→Bool→Prop):Prop:=∃a:LL,∃b:Int,∃c:Int,∃d:Bool,(r=[st3 a b c,B d])∧K a b c d
abbrev ej15(r:List SV)(K:LL→LL→Int→LL→Int→Int→Bool→Prop):Prop:=∃a:LL,∃b:LL,∃c:Int,∃d:LL,∃e:Int,∃f:Int,∃g:Bool,(r=[fd7 a b c d e f g])∧K a b c d e f g
abbrev ej16(r:List SV)(K:LL→Prop):Prop:=∃a:LL,(r=[SL 7 a])∧K a
abbrev ej17(r:List SV)(K:Int→Int→LL→Prop):Prop:=∃a:Int,∃b:Int,∃c:LL,(r=[cx3 a b c])∧K a b c
abbrev ej18(r:List SV)(K:Bool→LL→Int→Int→Bool→Int→Int→LL→Int→Int→LL→LL→Int→Int→Int→Int→Bool→LL→Int→Prop):Prop:=∃j:Bool,∃k:LL,∃l:Int,∃m:Int,∃n:Bool,∃o:Int,∃p:Int,∃q:LL,∃s:Int,∃t:Int,∃a:LL,∃b:LL,∃c:Int,∃d:Int,∃e:Int,∃f:Int,∃g:Bool,∃h:LL,∃i:Int,(r=[B j,wr18 k l m n o p q s t a b c d e f g h i])∧K j k l m n o p q s t a b c d e f g h i
abbrev ej19(r:List SV)(K:LL→Int→Int→Bool→Int→Int→LL→Int→Int→LL→LL→Int→Int→Int→Int→Bool→Int→Prop):Prop:=∃h:LL,∃i:Int,∃j:Int,∃k:Bool,∃l:Int,∃m:Int,∃n:LL,∃o:Int,∃p:Int,∃q:LL,∃a:LL,∃b:Int,∃c:Int,∃d:Int,∃e:Int,∃f:Bool,∃g:Int,(r=[jr16 h i j k l m n o p q a b c d e f,I g])∧K h i j k l m n o p q a b c d e f g
abbrev ej20(r:List SV)(K:BA→Bool→Prop):Prop:=∃a:BA,∃b:Bool,(r=[S a,B b])∧K a b
abbrev ej21(r:List SV)(K:Int→Int→Int→BA→Int→Int→Int→Prop):Prop:=∃a:Int,∃b:Int,∃c:Int,∃d:BA,∃e:Int,∃f:Int,∃g:Int,(r=[I a,I b,I c,S d,I e,I f,I g])∧K a b c d e f g
abbrev sgW:Sig:=⟨[.lend [false,false,false,false,false,false,true,false,false,false,false,false,false,false,false,false,true,false]],[]⟩
abbrev sgP:Sig:=⟨[.lend [false,false,false,false,false,false,true,false,false,false,false,false,false,false,false,false,true,false,false,false,false,false,false,false,false,false,false,false,false,false,false,false,false,false,false,false,false,false,false,false,false,false,false,false,false,false,false,false,false,false,false,false,false,false,false,false,false,false,false,false,false,false,false,false,false,false,false,false,false,false,true]],[]⟩
def SgT:FuncId→Sig:=(λf=>bif Nat.beq f 70 then⟨[],[.own]⟩else bif Nat.beq f 72 then sgW else bif Nat.beq f 74 then sgW else bif Nat.beq f 75 then sgW else bif Nat.beq f 76 then sgW else bif Nat.beq f 140 then sgP else bif Nat.beq f 141 then⟨[],[.own,.pure]⟩else bif Nat.beq f 202 then⟨[],[.own,.pure]⟩else bif Nat.beq f 220 then⟨[],[.own]⟩else bif Nat.beq f 242 then⟨[],[.own]⟩else bif Nat.beq f 287 then⟨[],[.own]⟩else bif Nat.beq f 307 then⟨[],[.own]⟩else{})
def SvT:TypeId→Sig:=(λf=>{})
def jmaybe_nf{b a:Int}{Q:QQ}(h:Q [B (bpick (bpick (bpick (ige b 64) (ile b 65536) false) (ige a 1) false) (ile a 1099511627776) false)]):Ct prog 50 {} [.agg [I b,I a]] Q:=
 fN SgT SvT func50 h
def jrun_nf{rows:LL}{d c:Int}{e:Bool}{a:LL}{Q:QQ}(h:∃g:Int→LL→Int→Int→Bool→Prop,∃m:Int→LL→Int→Int→Bool→Nat,(g 0 rows d c e)∧∀x l,∀i j b,(g x l i j b)→ifB (ilt x (rlen a)) ((inR x a)∧ej0 (rget a x) λf t=>(Cl prog f sP ((dk4 l i j b)::t) (λr=>ej1 r λn o p q s=>(ifB (ine s 0) (Q ([dk4 n o p q,I s])) ((sm ([[SV.slice 3 [] 1,I 0,I 0,B false]]))∧(g (wadd .i64 x 1) n o p q)∧Nat.le (Nat.succ (m (wadd .i64 x 1) n o p q)) (m x l i j b)))))) (Q ([dk4 l i j b,I 0]))):Ct prog 52 {} [dk4 rows d c e,SL 1 a] Q:=
 fO SgT SvT (λk=>bif Nat.beq k 12 then some {slots:=[(11,false,[.int .i64])],boxes:=[(256,[.sl 3,.int .i64,.int .i64,.bool])],fixed:=[512]}else none) func52 h
def mend_nf(row out:LL)(d:Int)(u:LL)(s a:Int)(e:Bool)(Q:QQ)(h:Cl prog 115 sP [SL 1 out] (λD=>ej0 D λf z=>(∃l,(f=183)∧(z=[SV.ref 0 [SL 1 l]])∧((rlen l)≤2147483648)∧∃j:Int→LL→Prop,(j 0 [])∧(∀x,((0:Int)≤x)→(x<(rlen l))→∀m,(j x m)→ej2 (rget l (kdn (rlen l) x)) λo=>(Cl prog 116 sP [S o] (λp=>ej0 p λv i=>(((lsum (rlen m) (rlen ([[SV.clo v i]])))≤2147483648)∧(sm ([[SL 11 row,SL 1 out,I d,SL 21 u,I s,I a,B e]]))∧j (kup x) (rapp m ([[SV.clo v i]]))))))∧∀m,(j (rlen l) m)→Cl prog 117 sP [SL 11 row] (λp=>ej0 p λv i=>(∃n,(v=185)∧(i=[SV.ref 0 [SL 11 n]])∧((rlen n)≤2147483648)∧∃b:Int→LL→Prop,(b 0 m)∧(∀x,((0:Int)≤x)→(x<(rlen n))→∀c,(b x c)→ej3 (rget n (kdn (rlen n) x)) λA E F G H J C K L w y=>(ifB (igt y w) (Cl prog 88 sP [I A] (λq=>ej2 q λo=>(Cl prog 118 sP [S o,I w] (λr=>ej0 r λt g=>(((lsum (rlen c) (rlen ([[SV.clo t g]])))≤2147483648)∧(sm ([[SL 11 row,SL 1 out,I d,SL 21 u,I s,I a,B e]]))∧b (kup x) (rapp c ([[SV.clo t g]]))))))) ((sm ([[SL 11 row,SL 1 out,I d,SL 21 u,I s,I a,B e]]))∧b (kup x) c)))∧∀c,(b (rlen n) c)→ifB (igt (rlen row) 0) ((inR (wsub .i64 (rlen row) 1) row)∧ej3 (rget row (wsub .i64 (rlen row) 1)) λx A E G H F J K C L w=>(ifB (ine C 4) ((inR (wsub .i64 (rlen row) 1) row)∧ej3 (rget row (wsub .i64 (rlen row) 1)) λy U M V W N O X P R T=>(Cl prog 88 sP [I y] (λq=>ej2 q λo=>(Cl prog 87 sP [S o] (λr=>ej0 r λt g=>(((lsum (rlen c) (rlen ([[SV.clo t g]])))≤2147483648)∧Q ([SL 1 (rapp c ([[SV.clo t g]]))]))))))) (Q [SL 1 c]))) (Q [SL 1 c])))))):Ct prog 53 {} [fd7 row out d u s a e] Q:=
 fnR_of (f:=53) SgT SvT (λk=>bif Nat.beq k 5000012 then some {slots:=[],boxes:=[(384,[.own 1])],fixed:=[128]}else bif Nat.beq k 5000022 then some {slots:=[],boxes:=[(384,[.own 1])],fixed:=[128]}else none) hItJ Tryz.f53 func53 (by kernel_rfl) (by kernel_rfl) h
def jsegs_nf{row:LL}{Q:QQ}(h:∃a:LL→Int→Prop,∃m:LL→Int→Nat,(a [] 0)∧∀l x,(a l x)→ifB (ilt x (rlen row)) ((inR x row)∧ej3 (rget row x) λb c d k n e g o i j p=>(((lsum (rlen l) (rlen ([[I b,I c,I e,I d,I g,I j,B (ieq i 4)]])))≤2147483648)∧((Option.some []:Option LL)=Option.some [])∧(a (rapp l ([[I b,I c,I e,I d,I g,I j,B (ieq i 4)]])) (wadd .i64 x 1))∧Nat.le (Nat.succ (m (rapp l ([[I b,I c,I e,I d,I g,I j,B (ieq i 4)]])) (wadd .i64 x 1))) (m l x))) (Q [SL 7 l])):Ct prog 54 {} [SL 11 row] Q:=
 fN SgT SvT func54 h
def jahead_nf{row:LL}{Q:QQ}(h:ifB (ieq (rlen row) 0) (Q ([cx3 0 0 []])) ((inR (wsub .i64 (rlen row) 1) row)∧ej3 (rget row (wsub .i64 (rlen row) 1)) λx k m l n o p q c r s=>(ifB (ieq c 4) (Q ([cx3 0 0 []])) ((inR (wsub .i64 (rlen row) 1) row)∧ej3 (rget row (wsub .i64 (rlen row) 1)) λt u e v w a b d g i j=>(Q ([cx3 a b d])))))):Ct prog 55 {} [SL 11 row] Q:=
 fN SgT SvT func55 h
def jsame_nf{a c:Int}{d:LL}{e g:Int}{i:LL}{Q:QQ}(h:ifB (bpick (ieq a e) (ieq c g) false) (Cl prog 120 sP [SL 1 d,SL 1 i] (λj=>ej4 j λb=>(Q [B b]))) (Q [B false])):Ct prog 58 {} [cx3 a c d,cx3 e g i] Q:=
 fN SgT SvT func58 h
def jmay_nf{rows:LL}{d a:Int}{c:Bool}{i j:Int}{segs:LL}{k l:Int}{m n:LL}{o p e g:Int}{shut:Bool}{Q:QQ}(h:Cl prog 46 sP ([dk4 rows d a c]) (λr=>ej4 r λb=>(ifB (bpick b c false) (Q [I 16]) (Cl prog 17 sP ([jr16 rows d a c i j segs k l m n o p e g shut]) (λq=>ej4 q λs=>(ifB (bnot s) (Q [I 1]) (Q [I 0]))))))):Ct prog 68 {} [jr16 rows d a c i j segs k l m n o p e g shut] Q:=
 fN SgT SvT func68 h
def jover_nf{rows:LL}{c a:Int}{d:Bool}{j k:Int}{segs:LL}{m n:Int}{o v:LL}{w y e g:Int}{shut:Bool}{p i q:Int}{r:BA}{s t u:Int}{Q:QQ}(h:ifB (ieq (rlen segs) 0) (Q [B false]) ((inR (wsub .i64 (rlen segs) 1) segs)∧ej5 (rget segs (wsub .i64 (rlen segs) 1)) λx z A C G D b=>(ifB (bpick b true (ile A z)) (Q [B false]) (Cl prog 138 sP ([cx3 m n o,ev7 p i q r s t u]) (λE=>ej6 E λl H J K F=>(ifB (bpick (ine F 0) true (igt (wadd .i64 D (rlen l)) j)) (Q [B true]) (Q [B (igt (wsub .i64 i C) k)]))))))):Ct prog 71 {} [jr16 rows c a d j k segs m n o v w y e g shut,ev7 p i q r s t u] Q:=
 fN SgT SvT func71 h
def wopen_nf{rows:LL}{c a:Int}{d:Bool}{k l:Int}{segs:LL}{m n:Int}{o p:LL}{q r e g:Int}{shut:Bool}{i:LL}{j:Int}{Q:QQ}(h:ifB (igt (rlen segs) 0) ((inR (wsub .i64 (rlen segs) 1) segs)∧(inR (wsub .i64 (rlen segs) 1) segs)∧ej5 (rget segs (wsub .i64 (rlen segs) 1)) λx s t u v w b=>(Q ([B (bnot b),wr18 rows c a d k l segs m n o p q r e g shut i j]))) (Q ([B false,wr18 rows c a d k l segs m n o p q r e g shut i j]))):Ct prog 74 sgW [wr18 rows c a d k l segs m n o p q r e g shut i j] Q:=
 fN SgT SvT func74 h
def wput_nf{rows:LL}{d c:Int}{e:Bool}{t u:Int}{segs:LL}{v w:Int}{y z:LL}{A C g i:Int}{shut:Bool}{a:LL}{j:Int}{bs:LL}{Q:QQ}(h:(inR (wsub .i64 (rlen segs) 1) segs)∧(inR (wsub .i64 (rlen segs) 1) segs)∧ej5 (rget segs (wsub .i64 (rlen segs) 1)) λx N O P R m b=>((inR (wsub .i64 (rlen segs) 1) segs)∧ej5 (rget segs (wsub .i64 (rlen segs) 1)) λn o p q k G r=>((inR (wsub .i64 (rlen segs) 1) (rset segs (wsub .i64 (rlen segs) 1) [I n,I o,I p,I q,I k,I (wadd .i64 m (rlen bs)),B r]))∧ej5 (rget (rset segs (wsub .i64 (rlen segs) 1) [I n,I o,I p,I q,I k,I (wadd .i64 m (rlen bs)),B r]) (wsub .i64 (rlen segs) 1)) λD H J K L M T=>(Cl prog 88 sP [I D] (λF=>ej2 F λs=>(Cl prog 205 sP [S s,SL 1 bs] (λE=>ej0 E λf l=>(((lsum (rlen a) (rlen ([[SV.clo f l]])))≤2147483648)∧Q ([wr18 rows d c e t u (rset segs (wsub .i64 (rlen segs) 1) [I n,I o,I p,I q,I k,I (wadd .i64 m (rlen bs)),B r]) v w y z A C g i shut (rapp a ([[SV.clo f l]])) (wadd .i64 j (rlen bs))]))))))))):Ct prog 140 sgP [wr18 rows d c e t u segs v w y z A C g i shut a j,SL 1 bs] Q:=
 fN SgT SvT func140 h
def wseal_nf{rows:LL}{c a:Int}{d:Bool}{r t:Int}{segs:LL}{m n:Int}{o u:LL}{v w e g:Int}{shut:Bool}{i:LL}{j:Int}{Q:QQ}(h:(inR (wsub .i64 (rlen segs) 1) segs)∧(inR (wsub .i64 (rlen segs) 1) segs)∧ej5 (rget segs (wsub .i64 (rlen segs) 1)) λx x1 V x3 x4 x5 b=>((inR (wsub .i64 (rlen segs) 1) segs)∧ej5 (rget segs (wsub .i64 (rlen segs) 1)) λx6 W x8 x9 a0 a1 b1=>(Cl prog 139 sP ([I (wsub .i64 V W),cx3 m n o]) (λX=>ej7 X λl y=>(ifB (ine y 0) (Q ([B false,wr18 rows c a d r t segs m n o u v w e g shut i j])) (Cl prog 140 sgP ([wr18 rows c a d r t segs m n o u v w e g shut i j,SL 1 l]) (λz=>ej8 z λY A C Z D E k a2 a3 l3 l4 p F a4 G b3 H J=>((inR (wsub .i64 (rlen segs) 1) k)∧ej5 (rget k (wsub .i64 (rlen segs) 1)) λK a5 a6 a7 a8 a9 b4=>(Cl prog 88 sP [I K] (λL=>ej2 L λs=>(Cl prog 87 sP [S s] (λM=>ej0 M λf q=>(((lsum (rlen H) (rlen ([[SV.clo f q]])))≤2147483648)∧(inR (wsub .i64 (rlen segs) 1) k)∧ej5 (rget k (wsub .i64 (rlen segs) 1)) λN O P R T U b5=>(Q ([B true,wr18 Y A C Z D E (rset k (wsub .i64 (rlen segs) 1) [I N,I O,I P,I R,I T,I U,B true]) 0 0 [] l4 p F p G b3 (rapp H ([[SV.clo f q]])) J]))))))))))))))):Ct prog 72 sgW [wr18 rows c a d r t segs m n o u v w e g shut i j] Q:=
 fN SgT SvT func72 h
def wbegin_nf{rows:LL}{g a:Int}{i:Bool}{o p:Int}{segs:LL}{q r:Int}{t u:LL}{c d j k:Int}{shut:Bool}{e:LL}{m:Int}{Q:QQ}(h:ifB (igt (rlen segs) 0) ((inR (wsub .i64 (rlen segs) 1) segs)∧(inR (wsub .i64 (rlen segs) 1) segs)∧ej5 (rget segs (wsub .i64 (rlen segs) 1)) λx M N O P Y b=>(Cl prog 88 sP [I (wadd .i64 x 1)] (λC=>ej2 C λs=>(ifB (bpick (seq s (bA [])) true (igt (wadd .i64 (rlen rows) 1) 64)) (Q ([B false,wr18 rows g a i o p segs q r t u c d j k shut e m])) (Cl prog 141 (Sig.mk [] [Md.own,Md.pure]) ([I (wadd .i64 x 1),cx3 c d []]) (λv=>ej7 v λl R=>(ifB (ine R 0) (Q ([B false,wr18 rows g a i o p segs q r t u c d j k shut e m])) (Cl prog 142 sP [S s] (λw=>ej0 w λf n=>(((lsum (rlen e) (rlen ([[SV.clo f n]])))≤2147483648)∧((lsum (rlen segs) (rlen ([[I (wadd .i64 x 1),I c,I c,I d,I d,I 0,B false]])))≤2147483648)∧Cl prog 140 sgP ([wr18 rows g a i o p (rapp segs ([[I (wadd .i64 x 1),I c,I c,I d,I d,I 0,B false]])) q r t u c d j k shut (rapp e ([[SV.clo f n]])) m,SL 1 l]) (λy=>ej8 y λD E F G H z J A a0 Z K T U V W b2 L X=>(Q ([B true,wr18 D E F G H z J c d [] K T U V W b2 L X]))))))))))))) (Cl prog 88 sP [I 1] (λC=>ej2 C λs=>(ifB (bpick (seq s (bA [])) true (igt (wadd .i64 (rlen rows) 1) 64)) (Q ([B false,wr18 rows g a i o p segs q r t u c d j k shut e m])) (Cl prog 141 (Sig.mk [] [Md.own,Md.pure]) ([I 1,cx3 c d []]) (λv=>ej7 v λl x=>(ifB (ine x 0) (Q ([B false,wr18 rows g a i o p segs q r t u c d j k shut e m])) (Cl prog 142 sP [S s] (λw=>ej0 w λf n=>(((lsum (rlen e) (rlen ([[SV.clo f n]])))≤2147483648)∧((lsum (rlen segs) (rlen ([[I 1,I c,I c,I d,I d,I 0,B false]])))≤2147483648)∧Cl prog 140 sgP ([wr18 rows g a i o p (rapp segs ([[I 1,I c,I c,I d,I d,I 0,B false]])) q r t u c d j k shut (rapp e ([[SV.clo f n]])) m,SL 1 l]) (λy=>ej8 y λD M N b O P J Y R Z K E F H z G L A=>(Q ([B true,wr18 D M N b O P J c d [] K E F H z G L A]))))))))))))):Ct prog 75 sgW [wr18 rows g a i o p segs q r t u c d j k shut e m] Q:=
 fN SgT SvT func75 h
def wrec_nf{rows:LL}{d c:Int}{e:Bool}{w y:Int}{segs:LL}{s t:Int}{u z:LL}{A C g i:Int}{shut:Bool}{j:LL}{k:Int}{r D P:Int}{R:BA}{T U V:Int}{Q:QQ}(h:(Cl prog 138 sP ([cx3 s t u,ev7 r D P R T U V]) (λW=>ej6 W λl x X Y Z=>(ifB (ine Z 0) (Q ([B false,wr18 rows d c e w y segs s t u z A C g i shut j k])) (Cl prog 140 sgP ([wr18 rows d c e w y segs s t u z A C g i shut j k,SL 1 l]) (λE=>ej8 E λl2 x3 x4 b x5 x6 a x7 x8 l4 l5 x9 F G H b1 l6 J=>((inR (wsub .i64 (rlen a) 1) a)∧(inR (wsub .i64 (rlen a) 1) a)∧ej5 (rget a (wsub .i64 (rlen a) 1)) λm n a0 o p q v=>((inR (wsub .i64 (rlen a) 1) (rset a (wsub .i64 (rlen a) 1) [I m,I n,I r,I o,I p,I q,B v]))∧ej5 (rget (rset a (wsub .i64 (rlen a) 1) [I m,I n,I r,I o,I p,I q,B v]) (wsub .i64 (rlen a) 1)) λK L M N a1 O b3=>(Q ([B true,wr18 l2 x3 x4 b x5 x6 (rset (rset a (wsub .i64 (rlen a) 1) [I m,I n,I r,I o,I p,I q,B v]) (wsub .i64 (rlen a) 1) [I K,I L,I M,I N,I D,I O,B b3]) x X Y l5 x9 F G H b1 l6 J])))))))))∧Cl prog 138 sP ([cx3 s t u,ev7 r D P R T U V]) (λW=>ej6 W λl x X Y Z=>(ifB (ine Z 0) (Q ([B false,wr18 rows d c e w y segs s t u z A C g i shut j k])) (Cl prog 140 sgP ([wr18 rows d c e w y segs s t u z A C g i shut j k,SL 1 l]) (λE=>ej8 E λl2 x3 x4 b x5 x6 a x7 x8 l4 l5 x9 F G H b1 l6 J=>((inR (wsub .i64 (rlen a) 1) a)∧(inR (wsub .i64 (rlen a) 1) a)∧ej5 (rget a (wsub .i64 (rlen a) 1)) λm n a0 o p q v=>((inR (wsub .i64 (rlen a) 1) (rset a (wsub .i64 (rlen a) 1) [I m,I n,I r,I o,I p,I q,B v]))∧ej5 (rget (rset a (wsub .i64 (rlen a) 1) [I m,I n,I r,I o,I p,I q,B v]) (wsub .i64 (rlen a) 1)) λK L M N a1 O b3=>(Q ([B true,wr18 l2 x3 x4 b x5 x6 (rset (rset a (wsub .i64 (rlen a) 1) [I m,I n,I r,I o,I p,I q,B v]) (wsub .i64 (rlen a) 1) [I K,I L,I M,I N,I D,I O,B b3]) x X Y l5 x9 F G H b1 l6 J]))))))))):Ct prog 76 sgW [wr18 rows d c e w y segs s t u z A C g i shut j k,ev7 r D P R T U V] Q:=
 fN SgT SvT func76 h
def jsync_nf{n:BA}{Q:QQ}(h:Q ([SV.clo 150 ([SV.ref 0 [S n]])])):Ct prog 87 {} [S n] Q:=
 fN SgT SvT func87 h
def Zx7{n:BA}{Q:QQ}(h:Q ([SV.clo 184 ([SV.ref 0 [S n]])])):Ct prog 116 {} [S n] Q:=
 fN SgT SvT func116 h
def jcut_nf{n:BA}{k:Int}{Q:QQ}(h:Q ([SV.clo 186 ([SV.ref 0 [S n],SV.ref 0 [I k]])])):Ct prog 118 {} [S n,I k] Q:=
 fN SgT SvT func118 h
def Zx8{n:BA}{Q:QQ}(h:Q ([SV.clo 206 ([SV.ref 0 [S n]])])):Ct prog 142 {} [S n] Q:=
 fN SgT SvT func142 h
def jwrite_nf{n:BA}{bs:LL}{Q:QQ}(h:Q ([SV.clo 276 ([SV.ref 0 [S n],SV.ref 0 [SL 1 bs]])])):Ct prog 205 {} [S n,SL 1 bs] Q:=
 fN SgT SvT func205 h
def jsync1_nf{rows:LL}{c a:Int}{d:Bool}{n:BA}{Q:QQ}(h:Cl prog 151 sP ([dk4 rows c a d,S n]) (λe=>ej1 e λl x g b i=>(Q ([dk4 l x g b,I i])))):Ct prog 150 {} [dk4 rows c a d,.ref 0 [S n]] Q:=
 fN SgT SvT func150 h
def Zsx{rows:LL}{c a:Int}{d:Bool}{n:BA}{Q:QQ}(h:Cl prog 106 sP ([dk4 rows c a d,S n]) (λe=>ej1 e λl x g b i=>(Q ([dk4 l x g b,I i])))):Ct prog 184 {} [dk4 rows c a d,.ref 0 [S n]] Q:=
 fN SgT SvT func184 h
def jcut1_nf{rows:LL}{c a:Int}{d:Bool}{n:BA}{k:Int}{Q:QQ}(h:Cl prog 33 sP ([dk4 rows c a d,S n,I k]) (λe=>ej1 e λl x g b i=>(Q ([dk4 l x g b,I i])))):Ct prog 186 {} [dk4 rows c a d,.ref 0 [S n],.ref 0 [I k]] Q:=
 fN SgT SvT func186 h
def Zsy{rows:LL}{c a:Int}{d:Bool}{n:BA}{Q:QQ}(h:Cl prog 168 sP ([dk4 rows c a d,S n]) (λe=>ej1 e λl x g b i=>(Q ([dk4 l x g b,I i])))):Ct prog 206 {} [dk4 rows c a d,.ref 0 [S n]] Q:=
 fN SgT SvT func206 h
def Zx9{rows:LL}{c a:Int}{d:Bool}{n:BA}{bs:LL}{Q:QQ}(h:Cl prog 169 sP ([dk4 rows c a d,S n,SL 1 bs]) (λe=>ej1 e λl x g b i=>(Q ([dk4 l x g b,I i])))):Ct prog 276 {} [dk4 rows c a d,.ref 0 [S n],.ref 0 [SL 1 bs]] Q:=
 fN SgT SvT func276 h
def Zsz{num bs g:Int}{q ev:LL}{i r:Int}{s:LL}{t u j:Int}{a k l:Int}{m n:LL}{b c:Int}{o:LL}{d p e:Int}{Q:QQ}(h:Q [B (bpick (bpick (bpick (ieq d 4) (ieq num (wadd .i64 a 1)) false) (ieq bs b) false) (ieq g c) false)]):Ct prog 181 {} [pt11 num bs g q ev i r s t u j,pt11 a k l m n b c o d p e] Q:=
 fN SgT SvT func181 h
def jrows_nf{rows:LL}{e c:Int}{g:Bool}{Q:QQ}(h:Cl prog 107 sP ([dk4 rows e c g]) (λU=>ej9 U λl=>(∃j:LL→LL→Int→Prop,∃m:LL→LL→Int→Nat,(j [] [] 0)∧∀a d x,(j a d x)→ifB (ilt x (rlen l)) ((inR x l)∧ej2 (rget l x) λs=>(Cl prog 179 sP [S s] (λA=>ej10 A λy=>(ifB (ieq y 0) ((sm ([[SL 3 rows,I e,I c,B g]]))∧(j a d (wadd .i64 x 1))∧Nat.le (Nat.succ (m a d (wadd .i64 x 1))) (m a d x)) (Cl prog 32 sP ([dk4 rows e c g,S s]) (λC=>ej7 C λt V=>(ifB (ine V 0) ((sm ([[SL 3 rows,I e,I c,B g]]))∧(j a d (wadd .i64 x 1))∧Nat.le (Nat.succ (m a d (wadd .i64 x 1))) (m a d x)) (Cl prog 180 sP [SL 1 t] (λD=>ej11 D λW X Y Z l5 x6 x7 l6 x8 z=>((((0:Int)≤0)∧((0:Int)≤z)∧z≤(rlen t))∧Cl prog 180 sP [SL 1 (rsub t 0 z)] (λE=>ej11 E λi k n u v o p w q r=>(ifB (bpick (bpick (ieq (rlen d) 0) (ieq i y) false) (igt (rlen a) 0) false) ((inR (wsub .i64 (rlen a) 1) a)∧(inR (wsub .i64 (rlen a) 1) a)∧ej3 (rget a (wsub .i64 (rlen a) 1)) λF G H J K L M N O P R=>(Cl prog 181 sP ([pt11 i k n u v o p w q r (rlen t),pt11 F G H J K L M N O P R]) (λT=>ej4 T λb=>(ifB b (((lsum (rlen a) (rlen ([[I i,I k,I n,SL 1 u,SL 7 v,I o,I p,SL 1 w,I q,I r,I (rlen t)]])))≤2147483648)∧(sm ([[SL 3 rows,I e,I c,B g]]))∧(j (rapp a ([[I i,I k,I n,SL 1 u,SL 7 v,I o,I p,SL 1 w,I q,I r,I (rlen t)]])) d (wadd .i64 x 1))∧Nat.le (Nat.succ (m (rapp a ([[I i,I k,I n,SL 1 u,SL 7 v,I o,I p,SL 1 w,I q,I r,I (rlen t)]])) d (wadd .i64 x 1))) (m a d x)) (((lsum (rlen d) (rlen ([[S s]])))≤2147483648)∧(sm ([[SL 3 rows,I e,I c,B g]]))∧(j a (rapp d ([[S s]])) (wadd .i64 x 1))∧Nat.le (Nat.succ (m a (rapp d ([[S s]])) (wadd .i64 x 1))) (m a d x)))))) (ifB (bpick (ieq (rlen d) 0) (ieq i y) false) (((lsum (rlen a) (rlen ([[I i,I k,I n,SL 1 u,SL 7 v,I o,I p,SL 1 w,I q,I r,I (rlen t)]])))≤2147483648)∧(sm ([[SL 3 rows,I e,I c,B g]]))∧(j (rapp a ([[I i,I k,I n,SL 1 u,SL 7 v,I o,I p,SL 1 w,I q,I r,I (rlen t)]])) d (wadd .i64 x 1))∧Nat.le (Nat.succ (m (rapp a ([[I i,I k,I n,SL 1 u,SL 7 v,I o,I p,SL 1 w,I q,I r,I (rlen t)]])) d (wadd .i64 x 1))) (m a d x)) (((lsum (rlen d) (rlen ([[S s]])))≤2147483648)∧(sm ([[SL 3 rows,I e,I c,B g]]))∧(j a (rapp d ([[S s]])) (wadd .i64 x 1))∧Nat.le (Nat.succ (m a (rapp d ([[S s]])) (wadd .i64 x 1))) (m a d x))))))))))))))) (Q [SL 11 a,SL 1 d])))):Ct prog 112 {} [dk4 rows e c g] Q:=
 fN SgT SvT func112 h
def jlook_nf{rows:LL}{i g:Int}{j:Bool}{Q:QQ}(h:Cl prog 112 sP ([dk4 rows i g j]) (λH=>ej12 H λl n=>(Cl prog 113 sP ([dk4 rows i g j]) (λy=>ej13 y λp x q J=>(ifB (ieq J 0) (ifB (igt (rlen l) 0) ((inR (wsub .i64 (rlen l) 1) l)∧ej3 (rget l (wsub .i64 (rlen l) 1)) λr t K u L w M N O P z=>(ifB (ilt w x) (∃k:LL→Int→Prop,∃m:LL→Int→Nat,(k [] 0)∧∀d a,(k d a)→ifB (ilt a (rlen l)) ((inR a l)∧ej3 (rget l a) λe o A v R C D T E F G=>(Cl prog 88 sP [I e] (λc=>ej2 c λs=>(((lsum (rlen d) (rlen ([[S s]])))≤2147483648)∧(sm ([[SL 21 p,I x,I q],[SL 11 l,SL 1 n,I x,SL 21 p,I x,I q,B false],[SV.slice 11 [] 1,SV.slice 1 [] 1,I 0,SV.slice 21 [] 1,I 0,I 0,B false],[SL 3 rows,I i,I g,B j]]))∧(k (rapp d ([[S s]])) (wadd .i64 a 1))∧Nat.le (Nat.succ (m (rapp d ([[S s]])) (wadd .i64 a 1))) (m d a))))) (((lsum (rlen d) (rlen n))≤2147483648)∧Cl prog 114 sP ([SL 11 [],st3 p x q]) (λc=>ej14 c λv e o b=>(Q ([fd7 [] (rapp d n) x v e o b]))))) (Cl prog 114 sP ([SL 11 l,st3 p x q]) (λc=>ej14 c λd a e b=>(Q ([fd7 l n x d a e b])))))) (Cl prog 114 sP ([SL 11 l,st3 p x q]) (λc=>ej14 c λu r t b=>(Q ([fd7 l n x u r t b]))))) (ifB (igt (rlen l) 0) ((inR (wsub .i64 (rlen l) 1) l)∧ej3 (rget l (wsub .i64 (rlen l) 1)) λr t K u L w M N O P z=>(ifB (ilt w 0) (∃k:LL→Int→Prop,∃m:LL→Int→Nat,(k [] 0)∧∀d a,(k d a)→ifB (ilt a (rlen l)) ((inR a l)∧ej3 (rget l a) λe o A v R C D T E F G=>(Cl prog 88 sP [I e] (λc=>ej2 c λs=>(((lsum (rlen d) (rlen ([[S s]])))≤2147483648)∧(sm ([[SL 21 p,I x,I q],[SL 11 l,SL 1 n,I 0,SV.slice 21 [] 1,I 0,I 0,B false],[SV.slice 11 [] 1,SV.slice 1 [] 1,I 0,SV.slice 21 [] 1,I 0,I 0,B false],[SL 3 rows,I i,I g,B j]]))∧(k (rapp d ([[S s]])) (wadd .i64 a 1))∧Nat.le (Nat.succ (m (rapp d ([[S s]])) (wadd .i64 a 1))) (m d a))))) (((lsum (rlen d) (rlen n))≤2147483648)∧Cl prog 114 sP ([SL 11 [],st3 [] 0 0]) (λc=>ej14 c λv e o b=>(Q ([fd7 [] (rapp d n) 0 v e o b]))))) (Cl prog 114 sP ([SL 11 l,st3 [] 0 0]) (λc=>ej14 c λd a e b=>(Q ([fd7 l n 0 d a e b])))))) (Cl prog 114 sP ([SL 11 l,st3 [] 0 0]) (λc=>ej14 c λu r t b=>(Q ([fd7 l n 0 u r t b])))))))))):Ct prog 51 {} [dk4 rows i g j] Q:=
 fN SgT SvT func51 h
def jopen_nf{rows:LL}{d a:Int}{c:Bool}{e g:Int}{Q:QQ}(h:Cl prog 46 sP ([dk4 rows d a c]) (λy=>ej4 y λb=>(ifB (bnot b) (Q ([jr16 rows d a c 0 0 [] 0 0 [] [] 0 0 0 0 false,I 1])) (Cl prog 50 sP ([SV.agg [I e,I g]]) (λj=>ej4 j λz=>(ifB (bnot z) (Q ([jr16 rows d a c 0 0 [] 0 0 [] [] 0 0 0 0 false,I 1])) (ifB c (Q ([jr16 rows d a c 0 0 [] 0 0 [] [] 0 0 0 0 false,I 16])) (Cl prog 51 sP ([dk4 rows d a c]) (λk=>ej15 k λl A x m i n o=>(ifB (bnot o) (Q ([jr16 rows d a c 0 0 [] 0 0 [] [] 0 0 0 0 false,I 11])) (Cl prog 53 sP ([fd7 l A x m i n o]) (λp=>ej9 p λC=>(Cl prog 52 sP ([dk4 rows d a c,SL 1 C]) (λq=>ej1 q λr s t b3 u=>(ifB (ine u 0) (Q ([jr16 r s t b3 0 0 [] 0 0 [] [] 0 0 0 0 false,I u])) (Cl prog 54 sP [SL 11 l] (λv=>ej16 v λD=>(Cl prog 55 sP [SL 11 l] (λw=>ej17 w λE F G=>(Q ([jr16 r s t b3 e g D E F G m i n i x false,I 0]))))))))))))))))))))):Ct prog 13 {} [dk4 rows d a c,.agg [I e,I g]] Q:=
 fN SgT SvT func13 h
def jright_nf{rows:LL}{d a:Int}{c:Bool}{n o:Int}{segs:LL}{p q:Int}{r s:LL}{k t e g:Int}{shut:Bool}{Q:QQ}(h:Cl prog 50 sP ([SV.agg [I n,I o]]) (λP=>ej4 P λb=>(ifB (bnot b) (Q [B false]) (Cl prog 46 sP ([dk4 rows d a c]) (λu=>ej4 u λR=>(ifB (bpick (bnot R) true c) (Q [B false]) (Cl prog 51 sP ([dk4 rows d a c]) (λv=>ej15 v λl w x y z A C=>(ifB (bpick (bnot C) true (igt (rlen w) 0)) (Q [B false]) (∃j:Bool→Int→Prop,∃m:Bool→Int→Nat,(j false 0)∧∀b3 i,(j b3 i)→ifB (ilt i (rlen l)) ((inR i l)∧ej3 (rget l i) λD E V F G W X Y Z H J=>(ifB (igt J H) (Q [B false]) ((sm ([[SL 11 l,SL 1 w,I x,SL 21 y,I z,I A,B C],[SL 3 rows,I d,I a,B c,I n,I o,SL 7 segs,I p,I q,SL 1 r,SL 21 s,I k,I t,I e,I g,B shut]]))∧(j b3 (wadd .i64 i 1))∧Nat.le (Nat.succ (m b3 (wadd .i64 i 1))) (m b3 i)))) (Cl prog 54 sP [SL 11 l] (λK=>ej16 K λF=>(Cl prog 57 sP [SL 7 segs,SL 7 F] (λL=>ej4 L λT=>(ifB (bnot T) (Q [B false]) (Cl prog 55 sP [SL 11 l] (λM=>ej17 M λD E G=>(Cl prog 58 sP ([cx3 p q r,cx3 D E G]) (λN=>ej4 N λb5=>(ifB (bnot b5) (Q [B false]) (Cl prog 36 sP ([st3 s k t,st3 y z A]) (λO=>ej4 O λU=>(ifB (bpick (bnot U) true (ine g x)) (Q [B false]) (Q [B (bpick (ige e g) (ile e k) false)])))))))))))))))))))))))):Ct prog 17 {} [jr16 rows d a c n o segs p q r s k t e g shut] Q:=
 fN SgT SvT func17 h
def Zya{rows:LL}{c a:Int}{d:Bool}{o p:Int}{segs:LL}{q r:Int}{s j:LL}{i n e g:Int}{shut:Bool}{es O P:Int}{R:BA}{T U V:Int}{Q:QQ}(h:Cl prog 68 sP ([jr16 rows c a d o p segs q r s j i n e g shut]) (λrs=>ej10 rs λx=>(ifB (ine x 0) (Q ([jr16 rows c a d o p segs q r s j i n e g shut,I x])) (Cl prog 69 sP ([st3 j i n,ev7 (wadd .i64 i 1) O P R T U V]) (λaz=>ej13 az λl x1 x2 x3=>(ifB (ine x3 0) (Q ([jr16 rows c a d o p segs q r s j i n e g shut,I x3])) (ifB shut (Q ([jr16 rows c a d o p segs q r s j i n e g shut,I 13])) (Cl prog 70 sO [SL 7 segs] (λb0=>ej16 b0 λl1=>(∃ay:Bool→LL→Int→Int→Bool→Int→Int→LL→Int→Int→LL→LL→Int→Int→Int→Int→Bool→LL→Int→Prop,∃m:Bool→LL→Int→Int→Bool→Int→Int→LL→Int→Int→LL→LL→Int→Int→Int→Int→Bool→LL→Int→Nat,(Cl prog 71 sP ([jr16 rows c a d o p segs q r s j i n e g shut,ev7 (wadd .i64 i 1) O P R T U V]) (λt=>ej4 t λb=>(ifB b (Cl prog 72 sgW ([wr18 rows c a d o p l1 q r s j i n e g shut [] 0]) (λu=>ej18 u λb1 l2 x4 x5 b2 x6 x7 l3 x8 x9 l4 l5 a7 a8 a9 aa b3 l6 ab=>((sm ([[SL 3 rows,I c,I a,B d,I o,I p,SL 7 segs,I q,I r,SL 1 s,SL 21 j,I i,I n,I e,I g,B shut],[I (wadd .i64 i 1),I O,I P,S R,I T,I U,I V],[SV.slice 3 [] 1,I 0,I 0,B false,I 0,I 0,SV.slice 7 [] 1,I 0,I 0,SV.slice 1 [] 1,SV.slice 21 [] 1,I 0,I 0,I 0,I 0,B false],[SL 21 l,I x1,I x2]]))∧ay (bnot b1) l2 x4 x5 b2 x6 x7 l3 x8 x9 l4 l5 a7 a8 a9 aa b3 l6 ab))) ((sm ([[SL 3 rows,I c,I a,B d,I o,I p,SL 7 segs,I q,I r,SL 1 s,SL 21 j,I i,I n,I e,I g,B shut],[I (wadd .i64 i 1),I O,I P,S R,I T,I U,I V],[SV.slice 3 [] 1,I 0,I 0,B false,I 0,I 0,SV.slice 7 [] 1,I 0,I 0,SV.slice 1 [] 1,SV.slice 21 [] 1,I 0,I 0,I 0,I 0,B false],[SL 21 l,I x1,I x2]]))∧ay false rows c a d o p l1 q r s j i n e g shut [] 0))))∧∀b l2,∀x4 x5,∀b1 x6,∀x7 l3,∀x8 x9,∀l4 l5,∀a7 a8,∀a9 aa,∀b2 l6 ab,(ay b l2 x4 x5 b1 x6 x7 l3 x8 x9 l4 l5 a7 a8 a9 aa b2 l6 ab)→ifB b (Cl prog 73 sP ([jr16 rows c a d o p segs q r s j i n e g shut]) (λt=>ej19 t λl7 v w b3 y z l8 A C l9 D E F G H b4 J=>(Q ([jr16 l7 v w b3 y z l8 A C l9 D E F G H b4,I J])))) (∃a6:Bool→LL→Int→Int→Bool→Int→Int→LL→Int→Int→LL→LL→Int→Int→Int→Int→Bool→LL→Int→Prop,∃m1:Bool→LL→Int→Int→Bool→Int→Int→LL→Int→Int→LL→LL→Int→Int→Int→Int→Bool→LL→Int→Nat,(Cl prog 74 sgW ([wr18 l2 x4 x5 b1 x6 x7 l3 x8 x9 l4 l5 a7 a8 a9 aa b2 l6 ab]) (λt=>ej18 t λb3 l7 v w b4 y z l8 A C l9 D E F G H b5 W J=>(ifB (bnot b3) (Cl prog 75 sgW ([wr18 l7 v w b4 y z l8 A C l9 D E F G H b5 W J]) (λu=>ej18 u λb6 ac ad ae b7 X Y Z a0 a1 a2 af ag ah a3 a4 b8 ai a5=>((sm ([[SL 3 rows,I c,I a,B d,I o,I p,SL 7 segs,I q,I r,SL 1 s,SL 21 j,I i,I n,I e,I g,B shut],[I (wadd .i64 i 1),I O,I P,S R,I T,I U,I V],[SV.slice 3 [] 1,I 0,I 0,B false,I 0,I 0,SV.slice 7 [] 1,I 0,I 0,SV.slice 1 [] 1,SV.slice 21 [] 1,I 0,I 0,I 0,I 0,B false],[SL 21 l,I x1,I x2]]))∧a6 (bnot b6) ac ad ae b7 X Y Z a0 a1 a2 af ag ah a3 a4 b8 ai a5))) ((sm ([[SL 3 rows,I c,I a,B d,I o,I p,SL 7 segs,I q,I r,SL 1 s,SL 21 j,I i,I n,I e,I g,B shut],[I (wadd .i64 i 1),I O,I P,S R,I T,I U,I V],[SV.slice 3 [] 1,I 0,I 0,B false,I 0,I 0,SV.slice 7 [] 1,I 0,I 0,SV.slice 1 [] 1,SV.slice 21 [] 1,I 0,I 0,I 0,I 0,B false],[SL 21 l,I x1,I x2]]))∧a6 false l7 v w b4 y z l8 A C l9 D E F G H b5 W J))))∧∀b3 l7,∀v w,∀b4 y,∀z l8,∀A C,∀l9 D,∀E F,∀G H,∀b5 W J,(a6 b3 l7 v w b4 y z l8 A C l9 D E F G H b5 W J)→ifB b3 (Cl prog 73 sP ([jr16 rows c a d o p segs q r s j i n e g shut]) (λt=>ej19 t λac ad ae b6 X Y Z a0 a1 a2 af ag ah a3 a4 b7 a5=>(Q ([jr16 ac ad ae b6 X Y Z a0 a1 a2 af ag ah a3 a4 b7,I a5])))) (Cl prog 76 sgW ([wr18 l7 v w b4 y z l8 A C l9 D E F G H b5 W J,ev7 (wadd .i64 i 1) O P R T U V]) (λt=>ej18 t λb6 ac ad ae b7 X Y Z a0 a1 a2 af ag ah a3 a4 b8 ai a5=>(ifB (bnot b6) (Cl prog 73 sP ([jr16 rows c a d o p segs q r s j i n e g shut]) (λu=>ej19 u λK aj L b9 M N ak al am an ao ap aq ar au av aw=>(Q ([jr16 K aj L b9 M N ak al am an ao ap aq ar au av,I aw])))) (Cl prog 77 sP ([dk4 rows c a d]) (λu=>ej10 u λaj=>(ifB (igt (wadd .i64 aj a5) c) (Cl prog 73 sP ([jr16 rows c a d o p segs q r s j i n e g shut]) (λax=>ej19 ax λK L M b9 N al ak am ap an ao aq ar au aw av ba=>(Q ([jr16 K L M b9 N al ak am ap an ao aq ar au aw av,I ba])))) (Cl prog 52 sP ([dk4 rows c a d,SL 1 ai]) (λax=>ej1 ax λK L M b9 N=>(ifB (ine N 0) (Q ([jr16 K L M b9 o p segs q r s j i n e g shut,I N])) (Q ([jr16 K L M b9 X Y Z a0 a1 a2 l x1 x2 a3 a4 b8,I 0])))))))))))))))))))))):Ct prog 20 {} [jr16 rows c a d o p segs q r s j i n e g shut,ev7 es O P R T U V] Q:=
 fO SgT SvT (λk=>bif Nat.beq k 1000012 then some {slots:=[(49,false,[.bool])],boxes:=[(1152,[.sl 3,.int .i64,.int .i64,.bool,.int .i64,.int .i64,.own 7,.int .i64,.int .i64,.sl 1,.sl 21,.int .i64,.int .i64,.int .i64,.int .i64,.bool,.own 1,.int .i64])],fixed:=[256,384,512,896]}else bif Nat.beq k 1000014 then some {slots:=[(59,false,[.bool])],boxes:=[(1152,[.sl 3,.int .i64,.int .i64,.bool,.int .i64,.int .i64,.own 7,.int .i64,.int .i64,.sl 1,.sl 21,.int .i64,.int .i64,.int .i64,.int .i64,.bool,.own 1,.int .i64])],fixed:=[256,384,512,896]}else none) func20 h
def jsyn_nf{rows:LL}{c a:Int}{d:Bool}{q r:Int}{segs:LL}{t u:Int}{v w:LL}{i y g e:Int}{shut:Bool}{Q:QQ}(h:Cl prog 68 sP ([jr16 rows c a d q r segs t u v w i y g e shut]) (λK=>ej10 K λx=>(ifB (ine x 0) (Q ([jr16 rows c a d q r segs t u v w i y g e shut,I x])) (ifB (igt (rlen segs) 0) ((inR (wsub .i64 (rlen segs) 1) segs)∧ej5 (rget segs (wsub .i64 (rlen segs) 1)) λO P R T U V b=>(ifB (bnot b) (∃A:Int→LL→Int→Int→Bool→Prop,∃m:Int→LL→Int→Int→Bool→Nat,((inR (wsub .i64 (rlen segs) 1) segs)∧ej5 (rget segs (wsub .i64 (rlen segs) 1)) λE G H L M N J=>((Cl prog 88 sP [I E] (λF=>ej2 F λs=>((Cl prog 87 sP [S s] (λD=>ej0 D λf z=>(((Cl prog 52 sP ([dk4 rows c a d,SL 1 ([[SV.clo f z]])]) (λj=>ej1 j λl n o C p=>((sm ([[SL 3 rows,I c,I a,B d,I q,I r,SL 7 segs,I t,I u,SL 1 v,SL 21 w,I i,I y,I g,I e,B shut],[SV.slice 3 [] 1,I 0,I 0,B false,I 0,I 0,SV.slice 7 [] 1,I 0,I 0,SV.slice 1 [] 1,SV.slice 21 [] 1,I 0,I 0,I 0,I 0,B false]]))∧A p l n o C)))∧Cl prog 52 sP ([dk4 rows c a d,SL 1 ([[SV.clo f z]])]) (λj=>ej1 j λl n o C p=>((sm ([[SL 3 rows,I c,I a,B d,I q,I r,SL 7 segs,I t,I u,SL 1 v,SL 21 w,I i,I y,I g,I e,B shut],[SV.slice 3 [] 1,I 0,I 0,B false,I 0,I 0,SV.slice 7 [] 1,I 0,I 0,SV.slice 1 [] 1,SV.slice 21 [] 1,I 0,I 0,I 0,I 0,B false]]))∧A p l n o C)))∧Cl prog 52 sP ([dk4 rows c a d,SL 1 ([[SV.clo f z]])]) (λj=>ej1 j λl n o C p=>((sm ([[SL 3 rows,I c,I a,B d,I q,I r,SL 7 segs,I t,I u,SL 1 v,SL 21 w,I i,I y,I g,I e,B shut],[SV.slice 3 [] 1,I 0,I 0,B false,I 0,I 0,SV.slice 7 [] 1,I 0,I 0,SV.slice 1 [] 1,SV.slice 21 [] 1,I 0,I 0,I 0,I 0,B false]]))∧A p l n o C)))))∧Cl prog 87 sP [S s] (λD=>ej0 D λf z=>(Cl prog 52 sP ([dk4 rows c a d,SL 1 ([[SV.clo f z]])]) (λj=>ej1 j λl n o C p=>((sm ([[SL 3 rows,I c,I a,B d,I q,I r,SL 7 segs,I t,I u,SL 1 v,SL 21 w,I i,I y,I g,I e,B shut],[SV.slice 3 [] 1,I 0,I 0,B false,I 0,I 0,SV.slice 7 [] 1,I 0,I 0,SV.slice 1 [] 1,SV.slice 21 [] 1,I 0,I 0,I 0,I 0,B false]]))∧A p l n o C)))))))∧Cl prog 88 sP [I E] (λF=>ej2 F λs=>(Cl prog 87 sP [S s] (λD=>ej0 D λf z=>(Cl prog 52 sP ([dk4 rows c a d,SL 1 ([[SV.clo f z]])]) (λj=>ej1 j λl n o C p=>((sm ([[SL 3 rows,I c,I a,B d,I q,I r,SL 7 segs,I t,I u,SL 1 v,SL 21 w,I i,I y,I g,I e,B shut],[SV.slice 3 [] 1,I 0,I 0,B false,I 0,I 0,SV.slice 7 [] 1,I 0,I 0,SV.slice 1 [] 1,SV.slice 21 [] 1,I 0,I 0,I 0,I 0,B false]]))∧A p l n o C))))))))∧∀E l,∀G H J,(A E l G H J)→ifB (ine E 0) (Q ([jr16 l G H J q r segs t u v w i y g e shut,I E])) (Q ([jr16 l G H J q r segs t u v w i y i e shut,I 0]))) (Q ([jr16 rows c a d q r segs t u v w i y i e shut,I 0])))) (Q ([jr16 rows c a d q r segs t u v w i y i e shut,I 0])))))):Ct prog 22 {} [jr16 rows c a d q r segs t u v w i y g e shut] Q:=
 fO SgT SvT (λk=>bif Nat.beq k 1000006 then some {slots:=[(7,false,[.int .i64])],boxes:=[(768,[.sl 3,.int .i64,.int .i64,.bool])],fixed:=[128,256],ptrs:=[(6,768)]}else none) func22 h
def jrot_nf{rows:LL}{c a:Int}{d:Bool}{i j:Int}{segs:LL}{k m:Int}{n o:LL}{p q e g:Int}{shut:Bool}{Q:QQ}(h:Cl prog 68 sP ([jr16 rows c a d i j segs k m n o p q e g shut]) (λrs=>ej10 rs λx=>(ifB (ine x 0) (Q ([jr16 rows c a d i j segs k m n o p q e g shut,I x])) (ifB (ieq (rlen segs) 0) (Q ([jr16 rows c a d i j segs k m n o p q e g shut,I 14])) ((inR (wsub .i64 (rlen segs) 1) segs)∧ej5 (rget segs (wsub .i64 (rlen segs) 1)) λx1 x2 x3 x4 x5 x6 b=>(ifB b (Q ([jr16 rows c a d i j segs k m n o p q e g shut,I 14])) ((inR (wsub .i64 (rlen segs) 1) segs)∧ej5 (rget segs (wsub .i64 (rlen segs) 1)) λx7 x8 x9 a2 a3 a4 b1=>((inR (wsub .i64 (rlen segs) 1) segs)∧ej5 (rget segs (wsub .i64 (rlen segs) 1)) λa5 N a6 a7 a8 a9 b2=>(ifB (ile x9 N) (Q ([jr16 rows c a d i j segs k m n o p q e g shut,I 14])) (Cl prog 70 sO [SL 7 segs] (λO=>ej16 O λl=>(Cl prog 72 sgW ([wr18 rows c a d i j l k m n o p q e g shut [] 0]) (λP=>ej18 P λb3 l1 aa ab b4 R T l2 U V l3 l4 W X Y Z b5 l5 a0=>(ifB (bnot b3) (Cl prog 73 sP ([jr16 rows c a d i j segs k m n o p q e g shut]) (λw=>ej19 w λu y r v s t J z A K L C D E F M G=>(Q ([jr16 u y r v s t J z A K L C D E F M,I G])))) (Cl prog 77 sP ([dk4 rows c a d]) (λw=>ej10 w λy=>(ifB (igt (wadd .i64 y a0) c) (Cl prog 73 sP ([jr16 rows c a d i j segs k m n o p q e g shut]) (λH=>ej19 H λu r s v t z J A C K L D E F G M a1=>(Q ([jr16 u r s v t z J A C K L D E F G M,I a1])))) (Cl prog 52 sP ([dk4 rows c a d,SL 1 l5]) (λH=>ej1 H λu r s v t=>(ifB (ine t 0) (Q ([jr16 u r s v i j segs k m n o p q e g shut,I t])) (Q ([jr16 u r s v R T l2 U V l3 l4 W X Y Z b5,I 0])))))))))))))))))))))):Ct prog 24 {} [jr16 rows c a d i j segs k m n o p q e g shut] Q:=
 fN SgT SvT func24 h
def Zyb{rows:LL}{c a:Int}{d:Bool}{n o:Int}{segs:LL}{p q:Int}{r s:LL}{t u e g:Int}{shut:Bool}{Q:QQ}(h:Cl prog 17 sP ([jr16 rows c a d n o segs p q r s t u e g shut]) (λy=>ej4 y λb=>(ifB (bnot b) (Q ([SL 7 []])) (Cl prog 51 sP ([dk4 rows c a d]) (λw=>ej15 w λl C x D E F G=>(∃k:LL→Int→Prop,∃m:LL→Int→Nat,(k [] 0)∧∀j i,(k j i)→ifB (ilt i (rlen l)) ((inR i l)∧ej3 (rget l i) λH J K L v M N O P z A=>(((lsum (rlen j) (rlen v))≤2147483648)∧(sm ([[SL 3 rows,I c,I a,B d,I n,I o,SL 7 segs,I p,I q,SL 1 r,SL 21 s,I t,I u,I e,I g,B shut]]))∧(k (rapp j v) (wadd .i64 i 1))∧Nat.le (Nat.succ (m (rapp j v) (wadd .i64 i 1))) (m j i))) (Q [SL 7 j]))))))):Ct prog 15 {} [jr16 rows c a d n o segs p q r s t u e g shut] Q:=
 fN SgT SvT func15 h
def jnum_nf{n:BA}{Q:QQ}(h:Cl prog 178 sP ([S n,S (bA [115,101,103,46])]) (λe=>ej20 e λs b=>(ifB (bpick (bnot b) true (ine (slen s) 8)) (Q [I 0]) (Cl prog 253 sP [S s,I 10,I 64] (λc=>∃x g,ifB g ((c=[I x,SV.val Value.nilIface])∧(isIfc (SV.val Value.nilIface)=true)∧ifB (bpick (Bool.rec true false (Zh1 (SV.val Value.nilIface))) true (ilt x 1)) (Q [I 0]) (Cl prog 88 sP [I x] (λa=>ej2 a λd=>(ifB (sne d n) (Q [I 0]) (Q [I x]))))) (∃i,(c=[I x,SV.ifc i SV.unk])∧(isIfc (SV.ifc i SV.unk)=true)∧ifB (bpick (Bool.rec true false (Zh1 (SV.ifc i SV.unk))) true (ilt x 1)) (Q [I 0]) (Cl prog 88 sP [I x] (λa=>ej2 a λd=>(ifB (sne d n) (Q [I 0]) (Q [I x])))))))))):Ct prog 179 {} [S n] Q:=
 fN SgT SvT func179 h
def Zyc{row:LL}{E:LL}{s a:Int}{Q:QQ}(h:ifB (ieq (rlen row) 0) (Q ([st3 E s a,B true])) ((inR 0 row)∧ej3 (rget row 0) λx T W l X Y Z l2 x5 x6 x7=>(ifB (igt T s) (Q ([st3 E s a,B false])) (∃A:Int→LL→Int→Int→Prop,∃m:Int→LL→Int→Int→Nat,(A 0 E s a)∧∀n C,∀D e,(A n C D e)→ifB (ilt n (rlen row)) ((inR n row)∧ej3 (rget row n) λr o t H j p q J u v w=>(ifB (ine (rlen j) (wsub .i64 p o)) (Q ([st3 C D e,B false])) (∃g:Int→LL→Int→Int→Prop,∃F:Int→LL→Int→Int→Nat,(g 0 C D e)∧∀b i,∀c d,(g b i c d)→ifB (ilt b (rlen j)) ((inR b j)∧ej21 (rget j b) λG L M U N O P=>(ifB (ile G s) ((sm ([[SV.slice 21 [] 1,I 0,I 0],[I r,I o,I t,SL 1 H,SL 7 j,I p,I q,SL 1 J,I u,I v,I w]]))∧(g (wadd .i64 b 1) i c d)∧Nat.le (Nat.succ (F (wadd .i64 b 1) i c d)) (F b i c d)) (Cl prog 69 sP ([st3 i c d,ev7 G L M U N O P]) (λV=>ej13 V λK y z R=>(ifB (ine R 0) (Q ([st3 K y z,B false])) ((sm ([[SV.slice 21 [] 1,I 0,I 0],[I r,I o,I t,SL 1 H,SL 7 j,I p,I q,SL 1 J,I u,I v,I w]]))∧(g (wadd .i64 b 1) K y z)∧Nat.le (Nat.succ (F (wadd .i64 b 1) K y z)) (F b i c d))))))) ((sm ([[SV.slice 21 [] 1,I 0,I 0]]))∧(A (wadd .i64 n 1) i c d)∧Nat.le (Nat.succ (m (wadd .i64 n 1) i c d)) (m n C D e))))) ((inR (wsub .i64 (rlen row) 1) row)∧ej3 (rget row (wsub .i64 (rlen row) 1)) λr o t H j p q J u v w=>(Q ([st3 C D e,B (ieq q e)]))))))):Ct prog 114 {} [SL 11 row,st3 E s a] Q:=
 fO SgT SvT (λk=>bif Nat.beq k 30 then some {slots:=[(29,false,[.int .i64])],boxes:=[(384,[.sl 21,.int .i64,.int .i64])],fixed:=[512]}else bif Nat.beq k 53 then some {slots:=[(52,false,[.int .i64])],boxes:=[(384,[.sl 21,.int .i64,.int .i64])],fixed:=[512,1024]}else none) func114 h
def segeq_nf{a b:LL}{Q:QQ}(h:ifB (ine (rlen a) (rlen b)) (Q [B false]) (∃c:Bool→Int→Prop,∃m:Bool→Int→Nat,(c false 0)∧∀d x,(c d x)→ifB (ilt x (rlen a)) ((inR x a)∧ej5 (rget a x) λj k l n o p q=>((inR x b)∧ej5 (rget b x) λr s t e g i b3=>(ifB (bnot (band (ieq j r) (band (ieq k s) (band (ieq l t) (band (ieq n e) (band (ieq o g) (band (ieq p i) (band (beqB q b3) true)))))))) (Q [B false]) (((Option.some []:Option LL)=Option.some [])∧(c d (wadd .i64 x 1))∧Nat.le (Nat.succ (m d (wadd .i64 x 1))) (m d x))))) (Q [B true]))):Ct prog 57 {} [SL 7 a,SL 7 b] Q:=
 fN SgT SvT func57 h
def streq_nf{a b:LL}{Q:QQ}(h:ifB (ine (rlen a) (rlen b)) (Q [B false]) (∃c:Bool→Int→Prop,∃m:Bool→Int→Nat,(c false 0)∧∀d x,(c d x)→ifB (ilt x (rlen a)) ((inR x a)∧ej2 (rget a x) λs=>((inR x b)∧ej2 (rget b x) λe=>(ifB (sne s e) (Q [B false]) (((Option.some []:Option LL)=Option.some [])∧(c d (wadd .i64 x 1))∧Nat.le (Nat.succ (m d (wadd .i64 x 1))) (m d x))))) (Q [B true]))):Ct prog 120 {} [SL 1 a,SL 1 b] Q:=
 fN SgT SvT func120 h
def segcl_nf{a:LL}{Q:QQ}(h:∀b,((b=true)→rlen a=0)→ifB b (Q ([SL 7 []])) (((lsum (rlen []) (rlen a))≤2147483648)∧Q ([SL 7 (rapp [] a)]))):Ct prog 70 ⟨[],[.own]⟩ [SL 7 a] Q:=
 fN SgT SvT func70 h
def backs_nf{a:LL}{Q:QQ}(h:Q ([SV.clo 183 ([SV.ref 0 [SL 1 a]])])):Ct prog 115 {} [SL 1 a] Q:=
 fN SgT SvT func115 h
def backp_nf{a:LL}{Q:QQ}(h:Q ([SV.clo 185 ([SV.ref 0 [SL 11 a]])])):Ct prog 117 {} [SL 11 a] Q:=
 fN SgT SvT func117 h
def jshut_nf{rows:LL}{b a:Int}{c:Bool}{g i:Int}{segs:LL}{j k:Int}{l m:LL}{n o d e:Int}{shut:Bool}{Q:QQ}(h:Q ([jr16 rows b a c g i segs j k l m n o d e true,I 13])):Ct prog 73 {} [jr16 rows b a c g i segs j k l m n o d e shut] Q:=
 fN SgT SvT func73 h
end Jou
namespace Jou
open Go Go.Px Go.Proofs Cod Seg Sgr Snp Sx Row Dsk Tryz
def inM{a:Type}(g:a→List SV){l:List a}{x:Int}(b:0≤x)(h:x<l.length):inR x (l.map g):=⟨b,by simpa using h⟩
def Stp.row:Stp→List SV
 | .cre s=>[.clo 206 [.ref 0 [S s]]]
 | .wri s x=>[.clo 276 [.ref 0 [S s],.ref 0 [SL 1 (uR x)]]]
 | .syn s=>[.clo 150 [.ref 0 [S s]]]
 | .rem s=>[.clo 184 [.ref 0 [S s]]]
 | .cut s n=>[.clo 186 [.ref 0 [S s],.ref 0 [I n]]]
def Stp.ok:Stp→Prop
 | .wri s x=>x.length≤9223372036854775807
 |_=>True
abbrev tR(l:List Stp):LL:=l.map Stp.row
def run_ok{s:Stp}{d:DiD}(h:d.ok):(s.run d).1.ok:=by
 have hst:(s.run d).1.st≤d.st:=by
  cases s
  ·exact Zs4
  ·exact Zs5
  ·exact Zq0
  ·exact Zlr
  ·exact Zvr
 by_cases hP:d.P
 ·have a:(s.run d).1.P:=by
   cases s
   ·exact Zi6 hP
   ·exact Zi7 hP
   ·exact Zib hP
   ·exact Zi8 hP
   ·exact Zo2 hP
  obtain⟨b,c,e,f⟩:=a;exact⟨by omega,by omega,by have:=h.2.2;omega⟩
 ·have:(s.run d).1=d:=by
   cases s<;>simp only[Stp.run,Za9,Zau,Zaz,Za5,opCut,DiD.er,if_neg hP]<;>rfl
  rw[this];exact h
def run_fn(s:Stp)(b:s.ok)(d:DiD)(h:d.ok):∃f a,s.row=[.clo f a]∧Ct prog f {} (d.sv::a) (λr=>r=[(s.run d).1.sv,I (s.run d).2]):=by
 cases s with
 |cre s=>exact⟨_,_,rfl,Zsy (Cl.of (Zw9 d h s) ⟨_,_,_,_,_,rfl,rfl⟩)⟩
 |wri s x=>exact⟨_,_,rfl,Zx9 (Cl.of (Zxa d h s x b) ⟨_,_,_,_,_,rfl,rfl⟩)⟩
 |syn s=>exact⟨_,_,rfl,jsync1_nf (Cl.of (dsync_fn d h s) ⟨_,_,_,_,_,rfl,rfl⟩)⟩
 |rem s=>exact⟨_,_,rfl,Zsx (Cl.of (Zxb d h s) ⟨_,_,_,_,_,rfl,rfl⟩)⟩
 |cut s n=>exact⟨_,_,rfl,jcut1_nf (Cl.of (Zz0 d h s n) ⟨_,_,_,_,_,rfl,rfl⟩)⟩
def Zoe(d:DiD)(o:d.ok)(c:List Stp)(p:∀s∈c,s.ok)(t:c.length≤1000000):Ct prog 52 {} [d.sv,SL 1 (tR c)] (λr=>r=[(runP d c).1.sv,I (runP d c).2]):=by
 refine jrun_nf ⟨λx l k m b=>∃g:DiD,g.ok∧l=fR g.fs∧k=g.rm∧m=g.st∧b=g.dn∧0≤x∧x≤c.length∧runP g (c.drop x.toNat)=runP d c,λx _ _ _ _=>(c.length-x).toNat,⟨d,o,rfl,rfl,rfl,rfl,by omega,by omega,by simp⟩,?_⟩;rintro x l k m b ⟨g,hd',rfl,rfl,rfl,rfl,x0,hx,he⟩;have n:rlen (tR c)=c.length:=(by simp);rw[n];refine Zaa (λh=>?_) (λh=>?_)
 ·simp at h;have j:x.toNat<c.length:=(by omega);rw[List.drop_eq_getElem_cons j,runP]at he;obtain⟨f,q,e1,e2⟩:=run_fn c[x.toNat] (p _ (List.getElem_mem j)) g hd';refine⟨inM _ x0 h,f,q,(Zbb _ _ _ x0 h).trans e1,Cl.of e2 ⟨_,_,_,_,_,rfl,Zaa (λi=>?_) (λi=>⟨rfl,?_,?_⟩)⟩⟩
  ·simp at i;rw[if_pos i]at he;rw[←he]
  ·simp at i;rw[if_neg (by simpa using i)]at he;rw[Zac (by omega) (by omega)];exact⟨_,run_ok hd',rfl,rfl,rfl,rfl,by omega,by omega,by rw[show(x+1).toNat=x.toNat+1 by omega];exact he⟩
  ·rw[Zac (by omega) (by omega)];exact mlt (by first|omega|(dsimp only;omega))
 ·simp at h;have e:x.toNat=c.length:=(by omega);rw[e,List.drop_length,runP]at he;rw[←he]
def SgD.row(p:SgD):List SV:=[I p.num,I p.fi,I p.la,I p.fr,I p.ti,I p.sz,B p.sl]
abbrev sgR(l:List SgD):LL:=l.map SgD.row
abbrev CxD.sv(c:CxD):SV:=cx3 c.s c.a (nR c.m)
def ptRow(p:Pt):List SV:=[I p.d.num,I p.d.bs,I p.d.ba,SL 1 [],SL 7 (evR p.d.ev),I p.d.s,I p.d.a,SL 1 (nR p.d.m),I (endW 1 p.d.sl),I ((segL p.d).length:Nat),I (p.n:Nat)]
abbrev ptR(l:List Pt):LL:=l.map ptRow
def Zm2(b:Bool):decide (endW 1 b=4)=b:=by cases b<;>rfl
def Zfz{l:List Pt}{i:Nat}(h:i<l.length):rget (ptR l) (i:Int)=ptRow l[i]:=by simp[rget,h]
def Zus(r:List Pt)(d:r.length≤1000000):Ct prog 54 {} [SL 11 (ptR r)] (λx=>x=[SL 7 (sgR (r.map sgOf))]):=by
 refine jsegs_nf ⟨λl x=>0≤x∧x≤r.length∧l=sgR ((r.take x.toNat).map sgOf),λ_ x=>(r.length-x).toNat,⟨by omega,by omega,by simp⟩,?_⟩;rintro l x ⟨x0,hx,rfl⟩;have a:rlen (ptR r)=r.length:=(by simp);rw[a];refine Zaa (λh=>?_) (λh=>?_)
 ·simp at h;have b:x.toNat<r.length:=(by omega);have c:r.take (x+1).toNat=r.take x.toNat++[r[x.toNat]]:=(by rw[show(x+1).toNat=x.toNat+1 by omega,List.take_succ_eq_append_getElem b]);refine⟨inM _ x0 h,_,_,_,_,_,_,_,_,_,_,_,Zbb ptRow r x x0 h,?_,rfl,?_,?_⟩
  ·simp;omega
  ·rw[Zac (by omega) (by omega)];refine⟨by omega,by omega,?_⟩;rw[c];simp only[List.map_append,List.map_cons,List.map_nil,rapp,sgOf,SgD.row,ieq_eq,Zm2]
  ·rw[Zac (by omega) (by omega)];exact mlt (by first|omega|(dsimp only;omega))
 ·simp at h;have e:x.toNat=r.length:=(by omega);rw[e,Yd]
def Zqd(r:List Pt)(g:r.length≤1000000):Ct prog 55 {} [SL 11 (ptR r)] (λx=>x=[(Zbp r).sv]):=by
 refine jahead_nf ?_;have c:rlen (ptR r)=r.length:=(by simp);rw[c];refine Zaa (λh=>?_) (λh=>?_)
 ·simp at h;subst h;rfl
 ·simp at h;have i:0<r.length:=Ww.2 h;have b:r.length-1<r.length:=(by omega);have e:wsub IntKind.i64 (r.length:Int) 1=((r.length-1:Nat):Int):=by rw[Zar (by omega) (by omega)];omega
  have f:r.getLast?=some r[r.length-1]:=(by rw[List.getLast?_eq_getElem?];simp[b]);rw[e];refine⟨inM _ (by omega) (by omega),_,_,_,_,_,_,_,_,_,_,_,Zfz b,Zaa (λa=>?_) (λa=>⟨inM _ (by omega) (by omega),_,_,_,_,_,_,_,_,_,_,_,Zfz b,?_⟩)⟩
  ·have a:r[r.length-1].d.sl=true:=(by rw[←Zm2 r[r.length-1].d.sl];simpa using a);unfold Zbp;rw[f];simp[a]
  ·have a:r[r.length-1].d.sl=false:=(by rw[←Zm2 r[r.length-1].d.sl];simpa using a);unfold Zbp;rw[f];simp[a]
def Zqe(b a:Int):Ct prog 50 {} [.agg [I b,I a]] (λr=>r=[B (decide (mayC b a))]):=by
 refine jmaybe_nf ?_;congr 3;unfold mayC;simp;by_cases h1:64≤b<;>by_cases h2:b≤65536<;>by_cases h3:1≤a<;>by_cases h4:a≤1099511627776<;>simp[h1,h2,h3,h4]
end Jou
end Go.Proofs.YtgehiiginclniaaGreatDoor
namespace Go.Proofs
open Go.Shelf
def Tryz.laysC174_ren:Go.Shelf.Ren:=⟨λ|174=>253|247=>314|245=>315|287=>348|279=>349|280=>350|281=>351|282=>352|321=>361|322=>362|316=>363|171=>365|205=>364|243=>373|246=>222|283=>289|284=>290|285=>291|286=>292|129=>336|317=>335|318=>337|319=>338|320=>339|337=>358|338=>359|n=>n,λ|9=>9|3=>3|2=>2|75=>286|85=>315|4=>4|167=>400|5=>5|53=>219|175=>401|46=>250|168=>403|37=>72|0=>0|210=>413|21=>21|127=>350|145=>427|143=>425|171=>341|173=>344|212=>387|51=>310|20=>20|213=>388|232=>422|233=>423|80=>290|n=>n,λ|15=>2|16=>3|17=>0|18=>4|19=>5|n=>n⟩
def Tryz.laysC174:Go.Proofs.LaysC.n174 prog Tryz.laysC174_ren:={
 mixed:=by kernel_rfl
 f129:=func336.trans (congrArg some (by kernel_rfl))
 f171:=func365.trans (congrArg some (by kernel_rfl))
 f174:=func253.trans (congrArg some (by kernel_rfl))
 f205:=func364.trans (congrArg some (by kernel_rfl))
 f243:=func373.trans (congrArg some (by kernel_rfl))
 f245:=func315.trans (congrArg some (by kernel_rfl))
 f246:=func222.trans (congrArg some (by kernel_rfl))
 f247:=func314.trans (congrArg some (by kernel_rfl))
 f279:=func349.trans (congrArg some (by kernel_rfl))
 f280:=func350.trans (congrArg some (by kernel_rfl))
 f281:=func351.trans (congrArg some (by kernel_rfl))
 f282:=func352.trans (congrArg some (by kernel_rfl))
 f283:=func289.trans (congrArg some (by kernel_rfl))
 f284:=func290.trans (congrArg some (by kernel_rfl))
 f285:=func291.trans (congrArg some (by kernel_rfl))
 f286:=func292.trans (congrArg some (by kernel_rfl))
 f287:=func348.trans (congrArg some (by kernel_rfl))
 f316:=func363.trans (congrArg some (by kernel_rfl))
 f317:=func335.trans (congrArg some (by kernel_rfl))
 f318:=func337.trans (congrArg some (by kernel_rfl))
 f319:=func338.trans (congrArg some (by kernel_rfl))
 f320:=func339.trans (congrArg some (by kernel_rfl))
 f321:=func361.trans (congrArg some (by kernel_rfl))
 f322:=func362.trans (congrArg some (by kernel_rfl))
 f337:=func358.trans (congrArg some (by kernel_rfl))
 f338:=func359.trans (congrArg some (by kernel_rfl))
 t0:=Tryz.underlying0
 a0:=Tryz.isAgg0
 z0:=Tryz.sizeOf0
 v0:=Tryz.zeroValue0
 t2:=Tryz.underlying2
 a2:=Tryz.isAgg2
 z2:=Tryz.sizeOf2
 v2:=Tryz.zeroValue2
 t3:=Tryz.underlying3
 a3:=Tryz.isAgg3
 z3:=Tryz.sizeOf3
 v3:=Tryz.zeroValue3
 t4:=Tryz.underlying4
 a4:=Tryz.isAgg4
 z4:=Tryz.sizeOf4
 v4:=Tryz.zeroValue4
 t5:=Tryz.underlying5
 a5:=Tryz.isAgg5
 z5:=Tryz.sizeOf5
 v5:=Tryz.zeroValue5
 t9:=Tryz.underlying9
 a9:=Tryz.isAgg9
 z9:=Tryz.sizeOf9
 v9:=Tryz.zeroValue9
 t20:=Tryz.underlying20
 a20:=Tryz.isAgg20
 z20:=Tryz.sizeOf20
 v20:=Tryz.zeroValue20
 t21:=Tryz.underlying21
 a21:=Tryz.isAgg21
 z21:=Tryz.sizeOf21
 v21:=Tryz.zeroValue21
 t37:=Tryz.underlying72
 a37:=Tryz.isAgg72
 z37:=Tryz.sizeOf72
 v37:=Tryz.zeroValue72
 t46:=Tryz.underlying250
 a46:=Tryz.isAgg250
 z46:=Tryz.sizeOf250
 v46:=Tryz.zeroValue250
 t51:=Tryz.underlying310
 a51:=Tryz.isAgg310
 z51:=Tryz.sizeOf310
 v51:=Tryz.zeroValue310
 t53:=Tryz.underlying219
 a53:=Tryz.isAgg219
 z53:=Tryz.sizeOf219
 v53:=Tryz.zeroValue219
 t75:=Tryz.underlying286
 a75:=Tryz.isAgg286
 z75:=Tryz.sizeOf286
 v75:=Tryz.zeroValue286
 t85:=Tryz.underlying315
 a85:=Tryz.isAgg315
 z85:=Tryz.sizeOf315
 v85:=Tryz.zeroValue315
 t127:=Tryz.underlying350
 a127:=Tryz.isAgg350
 z127:=Tryz.sizeOf350
 v127:=Tryz.zeroValue350
 t143:=Tryz.underlying425
 a143:=Tryz.isAgg425
 z143:=Tryz.sizeOf425
 v143:=Tryz.zeroValue425
 t145:=Tryz.underlying427
 a145:=Tryz.isAgg427
 z145:=Tryz.sizeOf427
 v145:=Tryz.zeroValue427
 t167:=Tryz.underlying400
 a167:=Tryz.isAgg400
 z167:=Tryz.sizeOf400
 v167:=Tryz.zeroValue400
 t168:=Tryz.underlying403
 a168:=Tryz.isAgg403
 z168:=Tryz.sizeOf403
 v168:=Tryz.zeroValue403
 t171:=Tryz.underlying341
 a171:=Tryz.isAgg341
 z171:=Tryz.sizeOf341
 v171:=Tryz.zeroValue341
 t173:=Tryz.underlying344
 a173:=Tryz.isAgg344
 z173:=Tryz.sizeOf344
 v173:=Tryz.zeroValue344
 t175:=Tryz.underlying401
 a175:=Tryz.isAgg401
 z175:=Tryz.sizeOf401
 v175:=Tryz.zeroValue401
 t210:=Tryz.underlying413
 a210:=Tryz.isAgg413
 z210:=Tryz.sizeOf413
 v210:=Tryz.zeroValue413
 t212:=Tryz.underlying387
 a212:=Tryz.isAgg387
 z212:=Tryz.sizeOf387
 v212:=Tryz.zeroValue387
 t213:=Tryz.underlying388
 a213:=Tryz.isAgg388
 z213:=Tryz.sizeOf388
 t232:=Tryz.underlying422
 a232:=Tryz.isAgg422
 z232:=Tryz.sizeOf422
 v232:=Tryz.zeroValue422
 t233:=Tryz.underlying423
 a233:=Tryz.isAgg423
 z233:=Tryz.sizeOf423
 v233:=Tryz.zeroValue423
 g15:=by kernel_rfl
 g16:=by kernel_rfl
 g17:=by kernel_rfl
 g18:=by kernel_rfl
 g19:=by kernel_rfl
 t80:=Tryz.underlying290
 a80:=Tryz.isAgg290
 z80:=Tryz.sizeOf290
 v80:=Tryz.zeroValue290
 i0:=by kernel_rfl
 i2:=by kernel_rfl
 i3:=by kernel_rfl
 i4:=by kernel_rfl
 i5:=by kernel_rfl
 i9:=by kernel_rfl
 i20:=by kernel_rfl
 i21:=by kernel_rfl
 i37:=by kernel_rfl
 i46:=by kernel_rfl
 i51:=by kernel_rfl
 i53:=by kernel_rfl
 i75:=by kernel_rfl
 i80:=by kernel_rfl
 i85:=by kernel_rfl
 i127:=by kernel_rfl
 i143:=by kernel_rfl
 i145:=by kernel_rfl
 i167:=by kernel_rfl
 i168:=by kernel_rfl
 i171:=by kernel_rfl
 i173:=by kernel_rfl
 i175:=by kernel_rfl
 i210:=by kernel_rfl
 i212:=by kernel_rfl
 i232:=by kernel_rfl
 i233:=by kernel_rfl
 m15:=by kernel_rfl
 m16:=by kernel_rfl
 m17:=by kernel_rfl
 m18:=by kernel_rfl
 m19:=by kernel_rfl
 c0:=by kernel_rfl
 c2:=by kernel_rfl
 c3:=by kernel_rfl
 c4:=by kernel_rfl
 c5:=by kernel_rfl
 c9:=by kernel_rfl
 c20:=by kernel_rfl
 c21:=by kernel_rfl
 c37:=by kernel_rfl
 c46:=by kernel_rfl
 c51:=by kernel_rfl
 c53:=by kernel_rfl
 c75:=by kernel_rfl
 c80:=by kernel_rfl
 c85:=by kernel_rfl
 c127:=by kernel_rfl
 c143:=by kernel_rfl
 c145:=by kernel_rfl
 c167:=by kernel_rfl
 c168:=by kernel_rfl
 c171:=by kernel_rfl
 c173:=by kernel_rfl
 c175:=by kernel_rfl
 c210:=by kernel_rfl
 c212:=by kernel_rfl
 c213:=by kernel_rfl
 c232:=by kernel_rfl
 c233:=by kernel_rfl}
open Go.RowKit in
def Tryz.strconv_ParseInt_10_at64_ok(s:BA)(a:s.size≤9223372036854775806)(v:Int)(h:Lib.parseIntB 64 s.data.toList= .ok v)(w:World):
  Calls prog 253 #[.string s,.int .i64 10,.int .i64 64] w λe b=>e= .returned (.tuple #[.int .i64 v,.nilIface])∧(b=w∨∃t,b=Lib.bytesWorld w 5 t):=Any.strconv_ParseInt_10_at64_ok Tryz.laysC174 s a v h w
open Go.RowKit in
def Tryz.strconv_ParseInt_10_at64_syntax_var(s:BA)(a:s.size≤281474976710656)(h:Lib.parseIntB 64 s.data.toList=Lib.parseIntB 64 [])(b:TypeId)(p:Value)(w:World)(c:w.var? prog "strconv.ErrSyntax" =some #[.iface b p]):
  Calls prog 253 #[.string s,.int .i64 10,.int .i64 64] w λe d=>∃N,e= .returned (.tuple #[.int .i64 (0),.iface 403 (.pointer (some ⟨N,0,none⟩))])∧w.heap.size≤N∧d.heap[N]?=some (.cells #[.string ⟨#[80,97,114,115,101,73,110,116]⟩,.string s,.iface b p] 413 (0,0))∧Below w.heap.size w d:=Any.strconv_ParseInt_10_at64_syntax_var Tryz.laysC174 s a h b p w c
open Go.RowKit in
def Tryz.strconv_ParseInt_10_at64_range_var(s:BA)(a:s.size≤281474976710656)(h:Lib.parseIntB 64 s.data.toList= .range)(b:TypeId)(p:Value)(w:World)(c:w.var? prog "strconv.ErrRange" =some #[.iface b p]):
  Calls prog 253 #[.string s,.int .i64 10,.int .i64 64] w λe d=>∃N,e= .returned (.tuple #[.int .i64 (Lib.intSat 64 s.data.toList),.iface 403 (.pointer (some ⟨N,0,none⟩))])∧w.heap.size≤N∧d.heap[N]?=some (.cells #[.string ⟨#[80,97,114,115,101,73,110,116]⟩,.string s,.iface b p] 413 (0,0))∧Below w.heap.size w d:=Any.strconv_ParseInt_10_at64_range_var Tryz.laysC174 s a h b p w c
end Go.Proofs
namespace Go.Proofs.YtgehiiginclniaaGreatDoor
namespace Jou
open Go Go.Px Go.Proofs Go.RowKit Tryz
def Zqu{P:Program}{f:FuncId}{n:Func}(F:P.funcs[f]?=some n)(r:n.body.isSome=true)(A:(n.name== "runtime.NumGoroutine")=false)(g:List SV)(Q:List SV→Prop)
  (G:∀(h:Hp) (l:Nat→Px.Loc) (w:World) (p:Array Value),HSub h w→Gl h w→Zwu h l p.toList g→Calls P f p w λe q=>∃(d:List Value) (a:List SV),e= .returned (rets d)∧d.length=a.length∧
   (∀(i:Nat) v s,d[i]?=some v→a[i]?=some s→PRep h v s)∧Q a∧Below w.heap.size w q):Ct P f {} g Q:=by
 refine⟨⟨n,F,r,λe=>by rw[e]at A;simp at A⟩,λC H c h l w p D E t=>?_⟩;rw[Zbf]at c
 cases c
 refine(G h l w p D.sub E t).mono ?_;rintro e q ⟨d,a,rfl,hl,hp,hq,hbl⟩;have x:HSub h q:=Ziw D.sub (λb r=>hbl.block b r)
 have y:Px.Holds h l [] q:=⟨x,λid o m=>(by simp at m),λi j u=>by obtain⟨⟨o,e⟩,_⟩:=u;simp[oget]at e⟩
 have z:endH {} d.length a=some (a,[]):=by unfold endH;rw[hl];simp[Zbf,lentH]
 exact⟨d,h,l,a,a,[],rfl,hq,z,⟨hl,λi v s J C=>.pure _ _ (hp i v s J C)⟩,y,λi u=>(by obtain⟨⟨o,e⟩,_⟩:=u;simp[oget]at e),⟨λi L m=>(by simp at m),λid m=>(by simp[Zb4]at m)⟩,HLe.refl h,λb _ _ o e=>e,
  ⟨hbl.os,hbl.tape,hbl.output,hbl.size,λk K _=>hbl.block k K⟩⟩
def arr_of{a:Array Value}{l:List Value}(h:a.toList=l):a=l.toArray:=by rw[←h]
def err_is{h:Hp}{w:World}(e:HSub h w)(g:Gl h w){k:Nat}(b:(k,[SV.ifc 425 .unk])∈Zbm){n:String}(f:prog.globalNamed n=some k):∃p,w.var? prog n=some #[.iface 425 p]:=by
 obtain⟨_,i,t,o,c,d⟩:=g.size _ b;obtain⟨v,j,m⟩:=g.cells _ b 0 _ rfl;have a:=e _ _ _ j
 cases m with
 |ifc _ p _ _=>
  refine⟨p,?_⟩;unfold World.var?;rw[f];simp only[Option.bind_some,c];congr 1;simp only[World.cell?,c]at a
  rcases i with⟨l⟩
  match l,d with
  | [x],_=>simp at a;rw[a]
def PiR(s:BA)(r:List SV):Prop:=
 ∃(v:Int) (e:SV),r=[I v,e]∧((Lib.parseIntB 64 s.data.toList= .ok v∧e= .val .nilIface)∨((∀u,Lib.parseIntB 64 s.data.toList≠ .ok u)∧e= .ifc 403 .unk))
def pint_fn(s:BA)(j:s.size≤281474976710656):Ct prog 253 {} [S s,I 10,I 64] (PiR s):=by
 refine Zqu func253 (by kernel_rfl) (by kernel_rfl) _ _ (λh o w l c d f=>?_);obtain rfl:l= #[.string s,.int .i64 10,.int .i64 64]:=arr_of (Zny l.toList [.string s,.int .i64 10,.int .i64 64] f)
 cases hp:Lib.parseIntB 64 s.data.toList with
 |ok v=>
  refine(Tryz.strconv_ParseInt_10_at64_ok s (by omega) v hp w).mono ?_;rintro e m ⟨rfl,hw⟩;refine⟨[.int .i64 v,.nilIface],[I v,.val .nilIface],rfl,rfl,?_,⟨v,_,rfl,.inl ⟨hp,rfl⟩⟩,?_⟩
  ·intro i x y a b
   match i,a,b with
   |0,a,b=>cases a;cases b;exact .val _
   |1,a,b=>cases a;cases b;exact .val _
   |i+2,a,b=>simp at a
  ·rcases hw with rfl|⟨t,rfl⟩
   ·exact Below.refl _ _
   ·exact Lib.bytesWorld_below _ _ _
 |range=>
  obtain⟨p,g⟩:=err_is c d (k:=3) (by simp[Zbm]) (n:= "strconv.ErrRange") (by kernel_rfl)
  refine(Tryz.strconv_ParseInt_10_at64_range_var s j hp _ p w g).mono ?_;rintro e m ⟨N,rfl,_,_,hbl⟩;refine⟨[.int .i64 (Lib.intSat 64 s.data.toList),.iface 403 (.pointer (some ⟨N,0,none⟩))],[I (Lib.intSat 64 s.data.toList),.ifc 403 .unk],rfl,rfl,?_,⟨Lib.intSat 64 s.data.toList,_,rfl,.inr ⟨λu=>by rw[hp];simp,rfl⟩⟩,hbl⟩;intro i x y a b
  match i,a,b with
  |0,a,b=>cases a;cases b;exact .val _
  |1,a,b=>cases a;cases b;exact .ifc _ _ _ (.unk _)
  |i+2,a,b=>simp at a
 |_=>
  obtain⟨p,g⟩:=err_is c d (k:=2) (by simp[Zbm]) (n:= "strconv.ErrSyntax") (by kernel_rfl)
  refine(Tryz.strconv_ParseInt_10_at64_syntax_var s j hp _ p w g).mono ?_;rintro e m ⟨N,rfl,_,_,hbl⟩;refine⟨[.int .i64 0,.iface 403 (.pointer (some ⟨N,0,none⟩))],[I 0,.ifc 403 .unk],rfl,rfl,?_,⟨0,_,rfl,.inr ⟨λu=>by rw[hp];simp,rfl⟩⟩,hbl⟩;intro i x y a b
  match i,a,b with
  |0,a,b=>cases a;cases b;exact .val _
  |1,a,b=>cases a;cases b;exact .ifc _ _ _ (.unk _)
  |i+2,a,b=>simp at a
end Jou
namespace Jou
open Go Go.Px Go.Proofs Cod Seg Sgr Snp Sx Row Dsk Tryz
def Znc:∀(l:List UInt8) (j a:Nat),(∀c∈l,isD c)→a<10^j→j+l.length≤8→Lib.parseUintM (2^64-1) a l= .ok (l.foldl (λn c=>10*n+(c.toNat-48)) a)
 | [],_,_,_,_,_=>rfl
 |c::l,j,a,h,ha,hj=>by have b:=h c (by simp);unfold isD at b;simp only[List.length_cons]at hj;have f:(10:Nat)^(j+1)≤10^8:=Nat.pow_le_pow_right (by omega) (by omega);have g:(10:Nat)^(j+1)=10^j*10:=Nat.pow_succ ..;have i:(10:Nat)^8=100000000:=rfl;rw[Lib.parseUintM,if_pos b,if_neg (by omega),if_neg (by omega)];have:=Znc l (j+1) (a*10+(c.toNat-48)) (λd e=>h d (by simp[e])) (by omega) (by omega);rw[this,List.foldl_cons,show 10*a+(c.toNat-48)=a*10+(c.toNat-48) by omega]
def parse8{l:List UInt8}(h:∀c∈l,isD c)(a:l.length=8):Lib.parseIntB 64 l= .ok ((vD l:Nat):Int):=by
 have b:=Znc l 0 0 h (by simp) (by omega);have d:=vD_lt l h;rw[a]at d
 cases l with
 |nil=>simp at a
 |cons c r=>
  have f:=h c (by simp);unfold isD at f;have e:Lib.parseUintB 64 (c::r)= .ok (vD (c::r)):=(by unfold Lib.parseUintB;rw[if_neg (by simp)];exact b);unfold Lib.parseIntB
  dsimp only
  rw[if_neg (by omega),e]
  dsimp only
  rw[if_neg (by omega),if_neg (by omega),if_neg (by omega)]
def Zo0{s:BA}(h:numS s≠0):s.data.toList.take 4=spre∧(s.data.toList.drop 4).length=8∧(∀c∈s.data.toList.drop 4,isD c)∧((vD (s.data.toList.drop 4):Nat):Int)=numS s:=by
 obtain⟨b,d⟩:=Zc6 h;have e:s.data.toList=spre++dgs 8 (numS s).toNat:=(by rw[←Zcd,←d]);rw[e];refine⟨rfl,by simp[Zdn],λc a=>Ztp _ _ c (by simpa using a),?_⟩;have:=Zuq b;rw[Zcd]at this;exact this
def Zvo{a b:BA}:(a.toList==b.toList)=decide (a=b):=by
 by_cases h:a=b
 ·simp[h]
 ·have:a.toList≠b.toList:=λe=>h ((Zev _ _).1 e);simp[h,this]
def scutG_fn(s p:BA):Ct prog 178 {} [S s,S p] (λr=>r=if s.data.toList.take p.data.toList.length=p.data.toList then[S (ssub s (slen p) (slen s)),B true]else[S s,B false]):=by
 have c:=Zhj s;have a:=Zhj p;refine Zt5 (Cl.ofQ (Zp1 s p (λr=>r=if s.data.toList.take p.data.toList.length=p.data.toList then[S (ssub s (slen p) (slen s)),B true]else[S s,B false]) ?_) ?_)
 ·have b:Ct prog 295 {} [S s,S p] (λr=>r=[B (decide (s.data.toList.take p.data.toList.length=p.data.toList))]):=by
   refine Zuf (Zaa (λh=>⟨⟨by omega,by omega,by simp only[ige_eq,decide_eq_true_eq]at h;omega⟩,?_⟩) (λh=>?_))
   ·rw[seq_bl,Zph,a,Int.toNat_natCast];rfl
   ·have:¬s.data.toList.take p.data.toList.length=p.data.toList:=λe=>by have:=congrArg List.length e;simp only[ige_eq,decide_eq_false_iff_not]at h;simp only[List.length_take]at this;omega
    rw[decide_eq_false this]
  refine Cl.of b ⟨_,rfl,Zaa (λh=>?_) (λh=>⟨⟨by omega,?_,by omega⟩,?_⟩)⟩
  ·rw[if_neg (by simpa using h)]
  ·simp only[bnot,Yv,decide_eq_true_eq]at h;have:=congrArg List.length h;simp only[List.length_take]at this;omega
  ·rw[if_pos (by simpa using h)]
 ·rintro r rfl
  split
  ·exact⟨_,_,rfl,rfl⟩
  ·exact⟨_,_,rfl,rfl⟩
def jnum_fn(s:BA):Ct prog 179 {} [S s] (λr=>r=[I (numS s)]):=by
 have D:(bA [115,101,103,46]).data.toList=spre:=rfl;have E:slen (bA [115,101,103,46])=4:=(by decide);have F:=Zhj s
 have zero:(s.data.toList.take 4≠spre∨(s.data.toList.drop 4).length≠8∨(∃c∈s.data.toList.drop 4,¬isD c))→numS s=0:=λh=>Classical.byContradiction λq=>by
  obtain⟨a,b,c,_⟩:=Zo0 q
  rcases h with h|h|⟨x,n,h⟩
  ·exact h a
  ·exact h b
  ·exact h (c x n)
 refine jnum_nf (Cl.of (scutG_fn s _) ?_);rw[D,E,show spre.length=4 from rfl];by_cases hp:s.data.toList.take 4=spre
 rotate_left
 ·rw[if_neg hp];exact⟨_,_,rfl,Zaa (λ_=>by rw[zero (.inl hp)]) (λh=>by simp at h)⟩
 rw[if_pos hp];generalize hd:ssub s 4 (slen s)=d;have g:d.data.toList=s.data.toList.drop 4:=(by rw[←hd,Zph,F,Int.toNat_natCast,Yd];rfl);have H:=Zhj d;refine⟨_,_,rfl,Zaa (λh=>?_) (λh=>?_)⟩
 ·have:(s.data.toList.drop 4).length≠8:=(by rw[←g];simp at h;intro e;rw[←Zc5]at e;omega);rw[zero (.inr (.inl this))]
 have l:(s.data.toList.drop 4).length=8:=(by rw[←g,←Zc5];simp at h;omega);have t:d.size≤281474976710656:=by rw[Zc5,g,l];omega
 have m:∀x:Int,(∀u,Lib.parseIntB 64 d.data.toList= .ok u→u=x)→(Lib.parseIntB 64 d.data.toList= .ok x∨∀u,Lib.parseIntB 64 d.data.toList≠ .ok u)→(1≤x→nmG x=s→numS s=x)∧(numS s≠0→numS s=x):=λx f J=>by
  have w:numS s≠0→numS s=x:=λq=>by obtain⟨_,b,c,e⟩:=Zo0 q;have:=parse8 c b;rw[←g]at this;rw[←e,←g];exact f _ this
  refine⟨λn k=>?_,w⟩;have j:inN x:=Classical.byContradiction λq=>by rw[nmG_no q]at k;rw[←k]at l;simp at l
  rw[←k,Zep j,Zkb j]
 have fin:∀x:Int,(1≤x→nmG x=s→numS s=x)∧(numS s≠0→numS s=x)→ifB (bpick false true (ilt x 1)) ([I 0]=[I (numS s)]) (Cl prog 88 sP [I x] (λo=>ej2 o λz=>(ifB (sne z s) ([I 0]=[I (numS s)]) ([I x]=[I (numS s)])))):=λx ⟨A,C⟩=>by
  have y:¬(1≤x∧nmG x=s)→numS s=0:=λq=>Classical.byContradiction λr=>by have e:=C r;obtain⟨a,b⟩:=Zc6 r;rw[e]at a b;exact q ⟨a.1,by rw[Zep a];exact b.symm⟩
  refine Zaa (λh=>?_) (λh=>Cl.of (Zda x) ⟨_,rfl,Zaa (λf=>?_) (λf=>?_)⟩)
  ·simp at h;rw[y (by omega)]
  ·have f:nmG x≠s:=(by rw[sne_eq,Zvo]at f;simpa using f);rw[y (λq=>f q.2)]
  ·have f:nmG x=s:=(by rw[sne_eq,Zvo]at f;simpa using f);simp at h;rw[A (by omega) f]
 refine Cl.ofQ (pint_fn d t) ?_;rintro r ⟨v,e,rfl,⟨f,rfl⟩|⟨f,rfl⟩⟩
 ·refine⟨v,true,?_⟩;show _∧_;exact⟨rfl,rfl,fin v (m v (λu p=>by rw[f]at p;cases p;rfl) (.inl f))⟩
 ·refine⟨v,false,?_⟩;show∃i:TypeId,_;have G:numS s=0:=Classical.byContradiction λq=>by obtain⟨_,b,c,e⟩:=Zo0 q;have:=parse8 c b;rw[←g]at this;exact f _ this
  refine⟨_,rfl,rfl,Zaa (λ_=>by rw[G]) (λh=>by simp[Zh1]at h)⟩
structure PtK(p:Pt):Prop where
 ok:ScOK p.d
 num:inN p.d.num
 n:p.n≤65536
 le:(segL p.d).length≤p.n
def PtK.ne{p:Pt}(h:PtK p):p.d.num≠0:=by have:=h.num.1;omega
def PtK.bs{p:Pt}(h:PtK p):ctxOK p.d.bs p.d.ba:=(h.ok.head h.ne).2
def PtK.s{p:Pt}(h:PtK p):ctxOK p.d.s p.d.a:=by
 have:=Zoa p.d.ev p.d.bs p.d.ba [] h.bs (h.ok.evs h.ne);rw[←h.ok.fin h.ne]at this;exact this
def jfol_fn(p a:Pt)(b:inN a.d.num):Ct prog 181 {} [.agg (ptRow p),.agg (ptRow a)] (λr=>r=[B (decide (foll p.d a.d))]):=by
 refine Zsz ?_;rw[Zac (by have:=b.1;omega) (by have:=b.2;omega)];unfold foll;congr 2;simp[Zm2];rw[Bool.eq_iff_iff];simp[and_assoc];exact decide_eq_true_iff.symm
def byF_iU(f:FiD):byF f=iU (f.su++f.lo):=rfl
def read_at{d:DiD}(a:d.P)(b:d.dn=false){i:Nat}(c:i<d.fs.length):Zf6 d d.fs[i].nm=(d.fs[i].su++d.fs[i].lo,0):=by
 have e:=a.2.2.1 _ (List.getElem_mem c);unfold Zf6;rw[if_neg (by rw[er_ok a b e e];simp),Snp.get_at a c]
def Zl3(a:FiD→Sc)(l:List FiD)(f:FiD):rowsD a (l++[f])=rstep a (rowsD a l) f:=by
 unfold rowsD;rw[List.foldl_append];rfl
def jrows_fn(d:DiD)(X:d.ok)(F:d.P)(H:d.dn=false):Ct prog 112 {} [d.sv] (λr=>r=[SL 11 (ptR (rowsD scF d.fs).1),SL 1 (nR (rowsD scF d.fs).2)]∧∀p∈(rowsD scF d.fs).1,PtK p):=by
 have Y:=F.1.1;refine jrows_nf (Cl.of (Zv3 d (by omega)) ⟨_,rfl,?_⟩);have L:rlen (nR (d.fs.map FiD.nm))=d.fs.length:=by simp[rlen]
 dsimp only
 rw[L];refine⟨λJ K x=>0≤x∧x≤d.fs.length∧∃R O,J=ptR R∧K=nR O∧rowsD scF (d.fs.take x.toNat)=(R,O)∧R.length≤x∧O.length≤x∧∀p∈R,PtK p,λ_ _ x=>(d.fs.length-x).toNat,⟨by omega,by omega,[],[],rfl,rfl,rfl,by simp,by simp,by simp⟩,?_⟩;rintro J K x ⟨x0,hx,R,O,rfl,rfl,he,hR,hO,hK⟩;refine Zaa (λh=>?_) (λh=>?_)
 rotate_left
 ·simp at h;have e:x.toNat=d.fs.length:=(by omega);rw[e,Yd]at he;rw[he];exact⟨rfl,hK⟩
 simp at h;have t:x.toNat<d.fs.length:=(by omega);have Z:wadd IntKind.i64 x 1=x+1:=Zac (by omega) (by omega);have u:d.fs.take (x+1).toNat=d.fs.take x.toNat++[d.fs[x.toNat]]:=(by rw[show(x+1).toNat=x.toNat+1 by omega,List.take_succ_eq_append_getElem t]);have v:Nat.le (Nat.succ (d.fs.length-(x+1)).toNat) (d.fs.length-x).toNat:=mlt (by omega);rw[Z];refine⟨inM _ x0 (by simpa using h),d.fs[x.toNat].nm,(Zbb _ _ x x0 (by simpa using h)).trans (by simp),Cl.of (jnum_fn _) ⟨_,rfl,Zaa (λi=>⟨rfl,⟨by omega,by omega,R,O,rfl,rfl,?_,by omega,by omega,hK⟩,v⟩) (λi=>Cl.of (Zn7 d X _) ⟨_,_,rfl,?_⟩)⟩⟩
 ·simp at i;rw[u,Zl3,he];unfold rstep;rw[if_pos i]
 simp at i;rw[read_at F H t];refine Zaa (λj=>by simp at j) (λ_=>?_);have M:(d.fs[x.toNat].su++d.fs[x.toNat].lo).length≤65536:=Zvs F t;have N:=iU_byts (d.fs[x.toNat].su++d.fs[x.toNat].lo)
 dsimp only
 rw[uR_bR];refine Cl.ofQ (Zup _ N (by simp only[List.length_map];omega)) ?_;rintro r ⟨sc,st,rfl,hr⟩;have c:scF d.fs[x.toNat]=sc:=scF_eq (by rw[byF_iU];exact hr);have w:=hr.pre.length_le;refine⟨_,_,_,_,_,_,_,_,_,_,rfl,⟨by omega,by omega,by have:=w;simp only[rlen_eq,List.length_map]at this⊢;omega⟩,?_⟩;have G:rsub (bR (iU (d.fs[x.toNat].su++d.fs[x.toNat].lo))) 0 ((segL sc).length:Nat)=bR (segL sc):=(by rw[Zj7];simp only[Int.toNat_natCast,Int.toNat_zero,List.drop_zero];rw[←WQ.1 hr.pre]);rw[G];have Q:Byts (segL sc):=λy n=>N y (hr.pre.subset n);refine Cl.ofQ (Zup _ Q (by have:=w;simp only[List.length_map]at this;omega)) ?_;rintro r ⟨sc2,st2,rfl,hr2⟩;obtain⟨rfl,rfl⟩:=hr2.whole hr.ok;have C:ptRow (ptF scF d.fs[x.toNat])=[I sc2.num,I sc2.bs,I sc2.ba,SL 1 [],SL 7 (evR sc2.ev),I sc2.s,I sc2.a,SL 1 (nR sc2.m),I (endW 1 sc2.sl),I ((segL sc2).length:Nat),I (rlen (bR (iU (d.fs[x.toNat].su++d.fs[x.toNat].lo))))]:=(by show ptRow ⟨scF d.fs[x.toNat],d.fs[x.toNat].len⟩=_;rw[c];simp[ptRow,FiD.len]);have T:inN (numS d.fs[x.toNat].nm):=(Zc6 i).1
 have D:mayR scF R O d.fs[x.toNat]→0≤x+1∧x+1≤d.fs.length∧∃f k,rapp (ptR R) [ptRow (ptF scF d.fs[x.toNat])]=ptR f∧nR O=nR k∧rowsD scF (d.fs.take (x+1).toNat)=(f,k)∧f.length≤x+1∧k.length≤x+1∧∀p∈f,PtK p:=λn=>by
  refine⟨by omega,by omega,R++[ptF scF d.fs[x.toNat]],O,by simp[rapp],rfl,?_,by simp;omega,by omega,?_⟩
  ·rw[u,Zl3,he];unfold rstep;rw[if_neg i,if_pos n]
  ·intro p o
   rcases List.mem_append.1 o with o|o
   ·exact hK p o
   ·have:p=ptF scF d.fs[x.toNat]:=(by simpa using o);subst this;refine⟨by show ScOK (scF _);rw[c];exact hr.ok,?_,by show d.fs[x.toNat].len≤_;unfold FiD.len;simpa using M,by show(segL (scF _)).length≤d.fs[x.toNat].len;rw[c];unfold FiD.len;simpa using w⟩;show inN (scF _).num;rw[n.2.1];exact T
 have no:¬mayR scF R O d.fs[x.toNat]→0≤x+1∧x+1≤d.fs.length∧∃f k,ptR R=ptR f∧rapp (nR O) [[S d.fs[x.toNat].nm]]=nR k∧rowsD scF (d.fs.take (x+1).toNat)=(f,k)∧f.length≤x+1∧k.length≤x+1∧∀p∈f,PtK p:=λn=>by refine⟨by omega,by omega,R,O++[d.fs[x.toNat].nm],rfl,by simp[rapp],?_,by omega,by simp;omega,hK⟩;rw[u,Zl3,he];unfold rstep;rw[if_neg i,if_neg n]
 have U:rlen (ptR R)=R.length:=(by simp);have a0:rlen (nR O)=O.length:=(by simp);refine⟨_,_,_,_,_,_,_,_,_,_,rfl,?_⟩
 dsimp only
 rw[←C];refine Zaa (λj=>?_) (λj=>Zaa (λb=>?_) (λb=>?_))
 ·simp at j;obtain⟨⟨l,g⟩,A⟩:=j;have z:R.length-1<R.length:=(by omega);have ew:wsub IntKind.i64 (rlen (ptR R)) 1=((R.length-1:Nat):Int):=by rw[U,Zar (by omega) (by omega)];omega
  have V:R.getLast?=some R[R.length-1]:=(by rw[List.getLast?_eq_getElem?];simp[z]);have E:mayR scF R O d.fs[x.toNat]↔foll (scF d.fs[x.toNat]) R[R.length-1].d:=(by unfold mayR;rw[V,c];exact⟨λq=>q.2.2,λq=>⟨by simpa using l,g,q⟩⟩);rw[ew];refine⟨inM _ (by omega) (by omega),inM _ (by omega) (by omega),_,_,_,_,_,_,_,_,_,_,_,Zfz z,?_⟩;have W:=jfol_fn (ptF scF d.fs[x.toNat]) R[R.length-1] (hK _ (List.getElem_mem z)).num;rw[C]at W;refine Cl.of W ⟨_,rfl,Zaa (λb=>⟨by simp;omega,rfl,D (E.2 (by simpa using b)),v⟩) (λb=>⟨by simp;omega,rfl,no (λq=>by simp at b;exact b (E.1 q)),v⟩)⟩
 ·simp at j b;obtain⟨l,g⟩:=b
  have A:R=[]:=by
   rcases W6 R.length with e|e
   ·exact Ys.1 e
   ·have:=j l g;omega
  exact⟨by simp;omega,rfl,D ⟨by simpa using l,by rw[c];exact g,by rw[A];trivial⟩,v⟩
 ·simp at b;refine⟨by simp;omega,rfl,no (λq=>b (by simpa using q.1) (by rw[←c];exact q.2.1)),v⟩

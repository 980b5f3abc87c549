import Derived.Test.YtgehiiginclniaaGreatDoorK12
import Derived.WalkKit
import Derived.TacticsInMore
import Derived.LoopNIn
import Derived.LoopIn
import Derived.Shelf.Abstract
import Derived.Test.YtgehiiginclniaaGreatDoorProg
import Derived.Shelf.LaysC
import Derived.Shelf.Strconv.ParseIntPublic10
import Derived.Shelf.Strconv.ErrVarParseInt
import Derived.Lib.AtoiErrMem
set_option linter.all false
set_option maxRecDepth 100000
namespace Go.Proofs.YtgehiiginclniaaGreatDoor
namespace Jou
open Go Go.Px Go.Proofs Cod Seg Sgr Snp Sx Row Tryz
theorem run_st:∀(l:List (DiD→DiD×Int)) {d a:DiD} {k:Int},(∀s∈l,∀d:DiD,(s d).1.st≤d.st)→runS d l=(a,k)→a.st≤d.st
 | [],d,a,k,_,e=>by simp only[runS,Prod.mk.injEq]at e;rw[←e.1];exact Int.le_refl _
 |s::l,d,a,k,hs,e=>by
  rw[runS]at e;have b:=hs s (by simp) d
  split at e
  ·rw[e]at b;exact b
  ·exact Int.le_trans (run_st l (λt c=>hs t (by simp[c])) e) b
theorem Zq6{r:List Pt}{o:List ByteArray}{s:DiD→DiD×Int}(h:s∈mendS r o):(∃n,s=λd=>Za4 d n)∨(∃n k,s=λd=>opCut d n k)∨(∃n,s=λd=>Za3 d n):=by
 unfold mendS at h
 rcases List.mem_append.1 h with h|h
 ·obtain⟨n,_,rfl⟩:=Y3.1 h;exact .inl ⟨n,rfl⟩
 ·rcases List.mem_append.1 h with h|h
  ·obtain⟨p,_,a⟩:=List.mem_flatMap.1 h;unfold cutS at a
   split at a
   ·have:=List.mem_singleton.1 a;exact .inr (.inl ⟨_,_,this⟩)
   ·cases a
  ·unfold synS at h
   split at h
   ·cases h
   ·split at h
    ·cases h
    ·exact .inr (.inr ⟨_,List.mem_singleton.1 h⟩)
theorem mendS_P{r:List Pt}{o:List ByteArray}:∀s∈mendS r o,∀d:DiD,d.P→(s d).1.P:=by
 intro s b d a
 rcases Zq6 b with⟨n,rfl⟩|⟨n,k,rfl⟩|⟨n,rfl⟩
 ·exact Zi2 a
 ·exact Zsr a
 ·exact Zj8 a
theorem mendS_st{r:List Pt}{o:List ByteArray}:∀s∈mendS r o,∀d:DiD,(s d).1.st≤d.st:=by
 intro s a d
 rcases Zq6 a with⟨n,rfl⟩|⟨n,k,rfl⟩|⟨n,rfl⟩
 ·exact Zlo
 ·exact Zvg
 ·exact Zqm
theorem Zyr{d a:DiD}(w:d.P)(x:d.dn=false)(hst:d.st= -1)(y:GoodR (rowK d.fs).1 (keptF d.fs) (baseF d.fs))(h:runS d (mendS (rowK d.fs).1 (rowK d.fs).2)=(a,0)):
  a.P∧a.dn=false∧a.st= -1∧(rowK a.fs).2=[]∧GoodR (rowK a.fs).1 (keptF a.fs) (baseF a.fs)∧(∀p∈(rowK a.fs).1,p.n=(segL p.d).length)∧runS a (mendS (rowK a.fs).1 (rowK a.fs).2)=(a,0)∧
   stR (rowK a.fs).1 (keptF a.fs) (baseF a.fs)=stR (rowK d.fs).1 (keptF d.fs) (baseF d.fs):=by
 obtain⟨z,e,A,u,b,C,D,c⟩:=Ztk w.2.2.2 h;have i:=run_P _ mendS_P w h;have j:a.st= -1:=(by have J:=run_st _ mendS_st h;have K:=i.1.2.2.2;omega);have k:a.dn=false:=(by rw[b.dn];exact x);have l:=Zc5 D;rw[c]at l;have H:z.map ptW=(segs a.fs).map (ptF scF):=congrArg Prod.fst l;have v:∀p∈(segs a.fs).map (ptF scF),p.n=(segL p.d).length:=by intro p m;rw[←H]at m;obtain⟨f,_,rfl⟩:=Y3.1 m;rfl
 have o:∀g,(segs a.fs).getLast?=some g→(scF g).sl=false→g.lo=[]:=(by intro g q r;rw[C,List.getLast?_map]at q;obtain⟨f,G,rfl⟩:=Option.map_eq_some_iff.1 q;have s:f∈z:=List.mem_of_getLast? G;have t:(scF f).num≠0:=(by rw[Zbh A f s];exact u f s);have E:=(Zgx t).1;have F:scF (menF f)=scF f:=Zbo E (menF_by t);rw[F]at r;unfold menF;rw[if_neg (by rw[r];simp)]);refine⟨i,k,j,by rw[c],?_,?_,Zyk i k j D v o,?_⟩
 ·rw[c,b.kept,b.base];rw[e]at y;exact Zp8 y
 ·rw[c];intro p m;obtain⟨f,_,rfl⟩:=Y3.1 m;rfl
 ·rw[c,b.kept,b.base,e];exact Zr3 _ _ _
def follO(d:Sc):Option Sc→Prop
 |none=>True
 |some a=>foll d a
instance (d:Sc) (p:Option Sc):Decidable (follO d p):=by
 cases p with
 |none=>exact isTrue trivial
 |some a=>exact inferInstanceAs (Decidable (foll d a))
def rowN(a:FiD→Sc):Option Sc→List FiD→Nat
 |_,[]=>0
 |p,f::l=>if(a f).num=numS f.nm∧follO (a f) p then rowN a (some (a f)) l+1 else 0
theorem Zs1(a:FiD→Sc):∀(l:List FiD) (p:Option Sc),rowN a p l≤l.length
 | [],p=>Nat.le_refl _
 |f::l,p=>by
  unfold rowN;have:=Zs1 a l (some (a f))
  split
  ·rw[List.length_cons];omega
  ·exact Wv _
theorem Zs2(a:FiD→Sc):∀(l:List FiD) (p:Option Sc),inRow a p (l.take (rowN a p l))
 | [],p=>by simp[rowN,inRow]
 |f::l,p=>by
  unfold rowN
  split
  ·rename_i h;rw[List.take_succ_cons];exact⟨h.1,by cases p<;>exact h.2,Zs2 a l _⟩
  ·exact trivial
theorem Zqy(b:FiD→Sc):∀(l:List FiD) (r:List Pt),(∀f∈l,numS f.nm≠0)→l.foldl (rstep b) (r,[])=(r++(l.take (rowN b (r.getLast?.map (·.d)) l)).map (ptF b),(l.drop (rowN b (r.getLast?.map (·.d)) l)).map FiD.nm)
 | [],r,_=>by simp
 |f::l,r,hn=>by
  rw[List.foldl_cons]
  have c:mayR b r [] f↔((b f).num=numS f.nm∧follO (b f) (r.getLast?.map (·.d))):=by
   unfold mayR follO
   cases r.getLast? with
   |none=>simp
   |some a=>simp
  by_cases hm:mayR b r [] f
  ·rw[show rstep b (r,[]) f=(r++[ptF b f],[])from by unfold rstep;rw[if_neg (hn f (by simp)),if_pos hm]];rw[Zqy b l (r++[ptF b f]) λg h=>hn g (by simp[h])];have e:rowN b (r.getLast?.map (·.d)) (f::l)=rowN b (some (b f)) l+1:=(by rw[rowN,if_pos (c.1 hm)]);rw[e,List.take_succ_cons,List.drop_succ_cons];simp
  ·rw[show rstep b (r,[]) f=(r,[]++[f.nm])from by unfold rstep;rw[if_neg (hn f (by simp)),if_neg hm]];have e:rowN b (r.getLast?.map (·.d)) (f::l)=0:=(by rw[rowN,if_neg (λq=>hm (c.2 q))]);rw[e,Zli b l r _ (λg h=>hn g (by simp[h])) (by simp)];simp
theorem Zyn(l:List FiD):rowsD scF l=(((segs l).take (rowN scF none (segs l))).map (ptF scF),((segs l).drop (rowN scF none (segs l))).map FiD.nm):=by
 unfold rowsD;rw[Zco,Zqy scF _ [] Zbk];simp
theorem Zqz(a:FiD→Sc):∀(l:List FiD) (p:Option Sc) (m:Nat),rowN a p (l.take m)=min (rowN a p l) m
 | [],p,m=>by simp[rowN]
 |f::l,p,0=>by simp[rowN]
 |f::l,p,m+1=>by
  rw[List.take_succ_cons,rowN,rowN]
  split
  ·rw[Zqz a l _ m];omega
  ·simp
theorem Zo8:∀(gs:List FiD) (g:FiD) (p:Option Sc),inRow scF p (gs++[g])→(∀f∈gs++[g],numS f.nm≠0)→∀f∈gs++[g],(scF f).s≤(scF g).s
 | [],g,p,h,hn,f,hf=>by have:f=g:=(by simpa using hf);subst this;exact Int.le_refl _
 |x::gs,g,p,h,hn,f,hf=>by
  obtain⟨_,_,h3⟩:=h
  rcases List.mem_cons.1 hf with rfl|hf
  ·-- the part behind begins where this one ends
   have key:∀y l',gs++[g]=y::l'→(scF f).s≤(scF y).s:=by
    intro y l' e;have h3':inRow scF (some (scF f)) (gs++[g]):=h3;rw[e]at h3';obtain⟨y1,y2,_⟩:=h3';have hy0:(scF y).num≠0:=by rw[y1];exact hn y (by rw[List.cons_append,e];simp)
    have hok:=(Zgx hy0).1;have h5:=Zl9 _ _ _ _ (hok.evs hy0);have h6:=hok.fin hy0;simp only[WX]at h6;rw[←h6.1]at h5;have h7:(scF y).bs=(scF f).s:=y2.2.2.1;omega
   cases gs with
   |nil=>exact key g [] rfl
   |cons y gs=>have h1:=key y (gs++[g]) rfl;have h2:=Zo8 (y::gs) g (some (scF f)) h3 (λz hz=>hn z (by simp at hz⊢;exact .inr hz)) y (by simp);exact Int.le_trans h1 h2
  ·exact Zo8 gs g (some (scF x)) h3 (λz hz=>hn z (by simp at hz⊢;exact .inr hz)) f hf
noncomputable def nK(l:List FiD):Nat:=match((segs l).take (rowN scF none (segs l))).getLast? with
 |none=>rowN scF none (segs l)
 |some g=>if(scF g).s<keptF l then 0 else rowN scF none (segs l)
theorem nK_le(l:List FiD):nK l≤(segs l).length:=by
 have:=Zs1 scF (segs l) none;unfold nK
 split
 ·exact this
 ·split
  ·exact Wv _
  ·exact this
theorem Zpe(l:List FiD):rowK l=(((segs l).take (nK l)).map (ptF scF),((segs l).drop (nK l)).map FiD.nm):=by
 have b:=Zs2 scF (segs l) none;unfold rowK nK;rw[Zyn,List.getLast?_map]
 cases hg:((segs l).take (rowN scF none (segs l))).getLast? with
 |none=>rfl
 |some g=>
  simp only[Yt];by_cases hk:(scF g).s<keptF l
  ·rw[if_pos hk,if_pos (show(ptF scF g).d.s<keptF l from hk)];have e:(((segs l).take (rowN scF none (segs l))).map (ptF scF)).map (λp=>segNm p.d.num)=((segs l).take (rowN scF none (segs l))).map FiD.nm:=(by rw[List.map_map];apply List.map_congr_left;intro f a;show segNm (scF f).num=f.nm;rw[Zbh b f a];exact Zfe (Zbk f (List.mem_of_mem_take a)));rw[e,←List.map_append,List.take_append_drop];simp
  ·rw[if_neg hk,if_neg (show¬(ptF scF g).d.s<keptF l from hk)]
theorem nK_take{l b:List FiD}{m:Nat}(j:segs b=(segs l).take m)(k:keptF b=keptF l)(v:nK l≤m):nK b=nK l:=by
 have h:rowN scF none (segs b)=min (rowN scF none (segs l)) m:=(by rw[j,Zqz]);have o:=Zs2 scF (segs l) none;have c:(segs b).take (rowN scF none (segs b))=(segs l).take (min (rowN scF none (segs l)) m):=by rw[h,j,List.take_take];congr 1;omega
 cases hg:((segs l).take (rowN scF none (segs l))).getLast? with
 |none=>have a:nK l=rowN scF none (segs l):=(by unfold nK;rw[hg]);have e1:min (rowN scF none (segs l)) m=rowN scF none (segs l):=(by omega);unfold nK at a⊢;rw[c,e1,hg,h,e1]
 |some g=>
  by_cases hs:(scF g).s<keptF l
  ·have a:nK l=0:=(by unfold nK;rw[hg];exact if_pos hs);rw[a];unfold nK;rw[c]
   cases hg':((segs l).take (min (rowN scF none (segs l)) m)).getLast? with
   |none=>simp only;have u:(segs l).take (min (rowN scF none (segs l)) m)=[]:=List.getLast?_eq_none_iff.1 hg';have d:=congrArg List.length u;have p:=Zs1 scF (segs l) none;rw[List.length_take]at d;simp only[Y6]at d;rw[h];omega
   |some q=>
    simp only;obtain⟨n,e⟩:=Wz.1 hg
    have i:q∈n++[g]:=by
     rw[←e];have d:=List.mem_of_getLast? hg';have p:(segs l).take (min (rowN scF none (segs l)) m)=((segs l).take (rowN scF none (segs l))).take m:=by rw[List.take_take];congr 1;omega
     rw[p]at d;exact List.mem_of_mem_take d
    have r:=Zo8 n g none (by rw[←e];exact o) (λf t=>Zbk f (List.mem_of_mem_take (by rw[e];exact t))) q i;rw[if_pos (by rw[k];omega)]
  ·have a:nK l=rowN scF none (segs l):=(by unfold nK;rw[hg];exact if_neg hs);have e1:min (rowN scF none (segs l)) m=rowN scF none (segs l):=(by omega);rw[a];unfold nK;rw[c,e1,hg];simp only;rw[if_neg (by rw[k];exact hs),h,e1]
theorem rowK_take{l a:List FiD}{m:Nat}(b:segs a=(segs l).take m)(c:keptF a=keptF l)(d:nK l≤m):rowK a=(((segs l).take (nK l)).map (ptF scF),(((segs l).take m).drop (nK l)).map FiD.nm):=by
 rw[Zpe,nK_take b c d,b,List.take_take];congr 3;omega
theorem rowK_map{l a:List FiD}{h:FiD→FiD}(k:srt FiD.nm a)(c:segs a=(segs l).map h)(d:∀f∈segs l,(h f).nm=f.nm∧scF (h f)=scF f)(m:keptF a=keptF l)(i:DkR l (segs l)):rowK a=(((segs l).map h).map (ptF scF),[]):=by
 have j:DkR a (segs a):=by
  refine⟨k,rfl,by rw[c];exact Zk3 d i.inr,λp b=>?_⟩;rw[c]at b;rw[m]
  rcases Y2 (segs l)with e|⟨gs,g,e⟩
  ·rw[e]at b;simp at b
  ·rw[List.concat_eq_append]at e;have n:=d g (by rw[e];simp);have o:=i.kept (ptF scF g) (by rw[e];simp);rw[e]at b;have e1:p=ptF scF (h g):=(by simpa using b.symm);subst e1;show keptF l≤(scF (h g)).s;rw[n.2];exact o
 rw[Zc5 j,c]
theorem Zxe(r:List Pt)(o:List ByteArray)(x:ByteArray):mendS r (o++[x])=(λd=>Za4 d x)::mendS r o:=by
 unfold mendS;rw[List.reverse_append];rfl
theorem Zmx:∀(r:List Pt) {s:DiD→DiD×Int} {b:List (DiD→DiD×Int)},r.flatMap cutS=s::b→∃(Y:List Pt) (p:Pt) (X:List Pt),r=Y++p::X∧(∀q∈Y,cutS q=[])∧cutS p=[s]∧X.flatMap cutS=b
 | [],s,b,h=>by cases h
 |p::r,s,b,h=>by
  rw[List.flatMap_cons]at h;by_cases hp:(segL p.d).length<p.n
  ·have e:cutS p=[λd=>opCut d (segNm p.d.num) (segL p.d).length]:=(by unfold cutS;rw[if_pos hp]);rw[e]at h;simp only[List.singleton_append,List.cons.injEq]at h;exact⟨[],p,r,rfl,λq c=>(by cases c),by rw[e,h.1],h.2⟩
  ·have e:cutS p=[]:=(by unfold cutS;rw[if_neg hp]);rw[e,List.nil_append]at h;obtain⟨Y,q,X,f,g,i,j⟩:=Zmx r h;refine⟨p::Y,q,X,by rw[f];rfl,λz a=>?_,i,j⟩
   rcases List.mem_cons.1 a with rfl|a
   ·exact e
   ·exact g z a
theorem Zrw{d b:DiD}{gs B:List FiD}{f:FiD}(h:srt FiD.nm d.fs)(l:(segs d.fs).drop (nK d.fs)=B++[f])(m:Za4 d f.nm=(b,0)):Same d b∧rowK b.fs=((rowK d.fs).1,B.map FiD.nm):=by
 obtain⟨_,_,e1,e2,n⟩:=Zg4 m;have a:=List.take_append_drop (nK d.fs) (segs d.fs);rw[l,←List.append_assoc]at a;have e:numS f.nm≠0:=Zbk f (by rw[←a];simp);have g:segs b.fs=(segs d.fs).take (nK d.fs)++B:=by rw[e1,Zqc,←a];refine(Zqd ?_).trans (by rw[a]);rw[a];exact Yy _ h
 have j:Same d b:=⟨by rw[e1];exact srt_wout h,by rw[e1];exact(Zgi e).1,by rw[e1];exact(Zgi e).2,e2,n⟩
 refine⟨j,?_⟩;have o:=nK_le d.fs;have c:((segs d.fs).take (nK d.fs)).length=nK d.fs:=by rw[List.length_take];omega
 have k:segs b.fs=(segs d.fs).take (nK d.fs+B.length):=(by rw[g];have:=List.take_left' (l₁:=(segs d.fs).take (nK d.fs)++B) (l₂:=[f]) (i:=nK d.fs+B.length) (by rw[List.length_append,c]);rw[a]at this;exact this.symm);rw[rowK_take k j.kept (by omega),Zpe d.fs];congr 2;have:(segs d.fs).take (nK d.fs+B.length)=(segs d.fs).take (nK d.fs)++B:=(by rw[←k,g]);rw[this,YM (by rw[c];exact Nat.le_refl _),List.drop_of_length_le (by rw[c];exact Nat.le_refl _),List.nil_append]
theorem dkR_rowN{l:List FiD}(a:srt FiD.nm l)(h:(segs l).drop (nK l)=[]):DkR l (segs l):=by
 refine dkR_of a ?_;rw[Zpe,h];rfl
theorem cutF_len{f:FiD}(h:(scF f).num≠0):(cutF f).len=(segL (scF f)).length:=by rw[←Zg5,Zol h]
theorem Ztf{f:FiD}(h:(scF f).num≠0):scF (cutF f)=scF f:=Zbo (Zgx h).1 (Zol h)
theorem step_cut{d b:DiD}{X Y:List FiD}{f:FiD}(c:srt FiD.nm d.fs)(q:DkR d.fs (segs d.fs))(e:segs d.fs=X++f::Y)(r:(segL (scF f)).length<f.len)(y:opCut d (segNm (scF f).num) (segL (scF f)).length=(b,0)):Same d b∧rowK b.fs=((X++cutF f::Y).map (ptF scF),[]):=by
 have i:numS f.nm≠0:=Zbk f (by rw[e];simp);have k:(scF f).num=numS f.nm:=Zbh q.inr f (by rw[e];simp);have t:(scF f).num≠0:=(by rw[k];exact i);obtain⟨_,g,n,_,_,a,A,C⟩:=Zoh y;have u:segNm (scF f).num=f.nm:=(by rw[k];exact Zfe i);rw[u]at n a;have j:f∈d.fs:=(List.mem_filter.1 (show f∈d.fs.filter isSeg by rw[show d.fs.filter isSeg=X++f::Y from e];simp)).1;rw[Zjj c j]at n
 cases n
 have v:cutF f=⟨f.nm,f.su.take ((segL (scF f)).length:Int).toNat,f.lo.take (((segL (scF f)).length:Int).toNat-f.su.length)⟩:=(by unfold cutF;rw[if_pos r];simp);rw[←v]at a;have l:numS (cutF f).nm≠0:=by rw[Zc6];exact i
 have o:Same d b:=⟨by rw[a];exact Zbn c,by rw[a];exact Zcg l,by rw[a];exact Zdq l,A,C⟩
 refine⟨o,?_⟩;have m:segs b.fs=(segs d.fs).map λg=>if g.nm=(cutF f).nm then cutF f else g:=(by rw[a];exact Zo9 c ⟨f,j,(Zc6 f).symm⟩);have p:segs b.fs=X++cutF f::Y:=by rw[a];exact Zux c e (Zc6 f).symm
 have D:=rowK_map (h:=λg=>if g.nm=(cutF f).nm then cutF f else g) o.srt m (λx z=>by
  by_cases hxn:x.nm=(cutF f).nm
  ·have w:x=f:=(by have s:x∈d.fs:=(List.mem_filter.1 z).1;exact Zlx c s j (by rw[hxn,Zc6]));subst w;show(if x.nm=(cutF x).nm then cutF x else x).nm=x.nm∧scF (if x.nm=(cutF x).nm then cutF x else x)=scF x;rw[if_pos hxn];exact⟨Zc6 x,Ztf t⟩
  ·show(if x.nm=(cutF f).nm then cutF f else x).nm=x.nm∧scF (if x.nm=(cutF f).nm then cutF f else x)=scF x;rw[if_neg hxn]
   exact⟨rfl,rfl⟩) o.kept q
 rw[D,←m,p]
theorem synS_d{r a:List Pt}(h:r.getLast?.map (·.d)=a.getLast?.map (·.d)):synS r=synS a:=by
 unfold synS
 cases hr:r.getLast? with
 |none=>
  cases hr':a.getLast? with
  |none=>rfl
  |some q=>rw[hr,hr']at h;cases h
 |some p=>
  cases hr':a.getLast? with
  |none=>rw[hr,hr']at h;cases h
  |some q=>rw[hr,hr']at h;have h:p.d=q.d:=(by simpa using h);simp only[h]
theorem step_mend{d g:DiD}{s:DiD→DiD×Int}{c:List (DiD→DiD×Int)}(k:srt FiD.nm d.fs)(h:mendS (rowK d.fs).1 (rowK d.fs).2=s::c)(C:c≠[])(t:s d=(g,0)):Same d g∧mendS (rowK g.fs).1 (rowK g.fs).2=c:=by
 rcases Y2 ((segs d.fs).drop (nK d.fs))with hd|⟨B,f,hd⟩
 ·have r:=dkR_rowN k hd;rw[Zc5 r]at h;unfold mendS at h;simp only[List.reverse_nil,List.map_nil,List.nil_append]at h
  cases hfm:((segs d.fs).map (ptF scF)).reverse.flatMap cutS with
  |nil=>
   rw[hfm,List.nil_append]at h;exfalso;unfold synS at h
   split at h
   ·cases h
   ·split at h
    ·cases h
    ·simp only[List.cons.injEq]at h;exact C h.2.symm
  |cons N O=>
   rw[hfm]at h;simp only[List.cons_append,List.cons.injEq]at h;obtain⟨rfl,l⟩:=h;obtain⟨D,p,E,e1,e2,a,F⟩:=Zmx _ hfm;have M:(segs d.fs).map (ptF scF)=E.reverse++p::D.reverse:=(by have:=congrArg List.reverse e1;rw[WT]at this;rw[this];simp);obtain⟨X,R,i,G,H⟩:=List.map_eq_append_iff.1 M;obtain⟨f,Y,J,K,L⟩:=List.map_eq_cons_iff.1 H;subst J;subst K
   have j:(segL (scF f)).length<f.len:=by
    unfold cutS at a
    split at a
    ·rename_i q;exact q
    ·cases a
   have v:N=λd=>opCut d (segNm (scF f).num) (segL (scF f)).length:=(by unfold cutS at a;rw[if_pos (show(segL (ptF scF f).d).length<(ptF scF f).n from j)]at a;simp only[List.cons.injEq,and_true]at a;exact a.symm);subst v;obtain⟨m,o⟩:=step_cut k r i j t;refine⟨m,?_⟩;have w:numS f.nm≠0:=Zbk f (by rw[i];simp);have b:(scF f).num≠0:=(by rw[Zbh r.inr f (by rw[i];simp)];exact w);rw[o];unfold mendS;simp only[List.reverse_nil,List.map_nil,List.nil_append];have x:cutS (ptF scF (cutF f))=[]:=by unfold cutS;rw[if_neg];show¬(segL (scF (cutF f))).length<(cutF f).len;rw[Ztf b,cutF_len b];omega
   have z:(Y.map (ptF scF)).reverse.flatMap cutS=[]:=by
    apply List.flatMap_eq_nil_iff.2;intro q u;refine e2 q ?_;rw[L]at u
    simpa using u
   have A:(X.map (ptF scF)).reverse.flatMap cutS=O:=(by rw[G,WT];exact F);rw[List.map_append,List.map_cons,List.reverse_append,List.reverse_cons,List.flatMap_append,List.flatMap_append,z,A];simp only[List.flatMap_cons,WE,x,List.nil_append];rw[←l];congr 1;apply synS_d;rw[i,List.map_append,List.map_cons]
   cases Y with
   |nil=>simp only[List.map_nil,List.getLast?_concat,Yt];exact congrArg some (Ztf b)
   |cons y Y=>rw[WU,WU];simp[WG]
 ·rw[List.concat_eq_append]at hd;have e:=Zpe d.fs;rw[hd,List.map_append]at e;rw[e]at h;simp only[List.map_cons,List.map_nil]at h;rw[Zxe]at h;simp only[List.cons.injEq]at h;obtain⟨rfl,l⟩:=h;obtain⟨m,o⟩:=Zrw (gs:=[]) k hd t;refine⟨m,?_⟩;rw[o,e];exact l
theorem Zpj:∀(a b:List (DiD→DiD×Int)) {d c:DiD},srt FiD.nm d.fs→mendS (rowK d.fs).1 (rowK d.fs).2=a++b→b≠[]→runS d a=(c,0)→mendS (rowK c.fs).1 (rowK c.fs).2=b∧(srt FiD.nm c.fs∧keptF c.fs=keptF d.fs)
 | [],b,d,c,hs,h,hb,h1=>by simp only[runS,Prod.mk.injEq]at h1;rw[←h1.1];exact⟨h,hs,rfl⟩
 |s::a,b,d,c,hs,h,hb,h1=>by obtain⟨m,f,g⟩:=Zfx h1;obtain⟨e,i⟩:=step_mend hs h (by simp[hb]) f;obtain⟨j,k,l⟩:=Zpj a b e.srt i hb g;exact⟨j,k,l.trans e.kept⟩
inductive Stp where
 |cre (s:ByteArray)
 |wri (s:ByteArray) (x:List UInt8)
 |syn (s:ByteArray)
 |rem (s:ByteArray)
 |cut (s:ByteArray) (n:Int)
def Stp.run:Stp→DiD→DiD×Int
 | .cre s,d=>Zbf d s
 | .wri s x,d=>Zaw d s x
 | .syn s,d=>Za3 d s
 | .rem s,d=>Za4 d s
 | .cut s n,d=>opCut d s n
def runP:DiD→List Stp→DiD×Int
 |d,[]=>(d,0)
 |d,s::l=>if(s.run d).2≠0 then s.run d else runP (s.run d).1 l
theorem Zpw:∀(l:List Stp) (d:DiD),runP d l=runS d (l.map Stp.run)
 | [],d=>rfl
 |s::l,d=>by rw[runP,List.map_cons,runS,Zpw l]
abbrev nmG(n:Int):ByteArray:=Sgr.segNm n
theorem Zgt{n:Int}(h:inN n):nmG n=Jou.segNm n:=by
 unfold nmG Sgr.segNm;rw[if_pos (show 1≤n∧n≤99999999 from h)];rfl
theorem nmG_no{n:Int}(h:¬inN n):nmG n=ByteArray.mk #[]:=by
 unfold nmG Sgr.segNm;rw[if_neg (show¬(1≤n∧n≤99999999)from h)]
def cutP(p:Pt):List Stp:=if(segL p.d).length<p.n then[.cut (nmG p.d.num) (segL p.d).length]else[]
def synP(r:List Pt):List Stp:=match r.getLast? with
 |none=>[]
 |some p=>if p.d.sl=true then[]else[.syn (nmG p.d.num)]
def mendP(r:List Pt)(o:List ByteArray):List Stp:=o.reverse.map Stp.rem++(r.reverse.flatMap cutP++synP r)
theorem Zn5{r:List Pt}{o:List ByteArray}(h:∀p∈r,inN p.d.num):(mendP r o).map Stp.run=mendS r o:=by
 unfold mendP mendS;rw[List.map_append,List.map_append,List.map_map];congr 1;congr 1
 ·rw[List.map_flatMap]
  have:∀p∈r.reverse,(cutP p).map Stp.run=cutS p:=λp b=>by
   unfold cutP cutS;rw[Zgt (h p (by simpa using b))]
   split<;>rfl
  revert this
  generalize r.reverse=l;intro this
  induction l with
  |nil=>rfl
  |cons x l c=>rw[List.flatMap_cons,List.flatMap_cons,this x (by simp),c λp b=>this p (by simp[b])]
 ·unfold synP synS
  cases hr:r.getLast? with
  |none=>rfl
  |some p=>
   dsimp only
   rw[Zgt (h p (List.mem_of_getLast? hr))]
   split<;>rfl
def repE(k:Int):StD→List Cod.EvD→StD×Bool
 |s,[]=>(s,true)
 |s,e::l=>if e.s≤k then repE k s l else if(appS s (toE e)).2≠0 then((appS s (toE e)).1,false)else repE k (appS s (toE e)).1 l
def repR(k:Int):StD→List Pt→StD×Bool
 |s,[]=>(s,true)
 |s,p::r=>if(p.d.ev.length:Int)≠p.d.s-p.d.bs then(s,false)else if(repE k s p.d.ev).2=false then repE k s p.d.ev else repR k (repE k s p.d.ev).1 r
def repP(r:List Pt)(s:StD):StD×Bool:=match r.head?,r.getLast? with
 |some p,some q=>if s.q<p.d.bs then(s,false)else if(repR s.q s r).2=false then repR s.q s r else((repR s.q s r).1,decide (q.d.a=(repR s.q s r).1.t))
 |_,_=>(s,true)
theorem Zhw(k:Int):∀(l:List Cod.EvD) (s:StD),repE k s l=((foldS s ((l.map toE).filter λe=>decide (k<e.s))).1,decide ((foldS s ((l.map toE).filter λe=>decide (k<e.s))).2.2=0))∨((repE k s l).2=false∧(foldS s ((l.map toE).filter λe=>decide (k<e.s))).2.2≠0)
 | [],s=>.inl rfl
 |e::l,s=>by
  rw[repE,List.map_cons,List.filter_cons];by_cases h:e.s≤k
  ·have a:decide (k<(toE e).s)=false:=decide_eq_false (Int.not_lt.2 h);rw[if_pos h,a];exact Zhw k l s
  ·have a:decide (k<(toE e).s)=true:=decide_eq_true (Int.not_le.1 h);rw[if_neg h,a,if_pos rfl,foldS];by_cases h2:(appS s (toE e)).2≠0
   ·rw[if_pos h2,if_pos h2];exact .inr ⟨rfl,h2⟩
   ·rw[if_neg h2,if_neg h2];exact Zhw k l _
theorem Zkp:∀(l m:List Cmp.EvD) (s:StD),(foldS s l).2.2=0→(foldS s (l++m)).1=(foldS (foldS s l).1 m).1∧(foldS s (l++m)).2.2=(foldS (foldS s l).1 m).2.2
 | [],m,s,_=>⟨rfl,rfl⟩
 |e::l,m,s,h=>by
  rw[foldS]at h;rw[List.cons_append,foldS,foldS];by_cases h2:(appS s e).2≠0
  ·rw[if_pos h2]at h;exact absurd h h2
  ·rw[if_neg h2]at h;rw[if_neg h2,if_neg h2];exact Zkp l m _ h
theorem Zkq:∀(l m:List Cmp.EvD) (s:StD),(foldS s l).2.2≠0→(foldS s (l++m)).2.2≠0
 | [],m,s,h=>absurd rfl h
 |e::l,m,s,h=>by
  rw[foldS]at h;rw[List.cons_append,foldS];by_cases h2:(appS s e).2≠0
  ·rw[if_pos h2];exact h2
  ·rw[if_neg h2]at h⊢;exact Zkq l m _ h
theorem Zn6(k:Int):∀(r:List Pt) (s:StD),(repR k s r).2=true→(∀p∈r,(p.d.ev.length:Int)=p.d.s-p.d.bs)∧(foldS s ((evsR r).filter λe=>decide (k<e.s))).2.2=0∧(repR k s r).1=(foldS s ((evsR r).filter λe=>decide (k<e.s))).1
 | [],s,_=>⟨by simp,rfl,rfl⟩
 |p::r,s,h=>by
  rw[repR]at h⊢;by_cases h1:(p.d.ev.length:Int)≠p.d.s-p.d.bs
  ·rw[if_pos h1]at h;cases h
  rw[if_neg h1]at h⊢;by_cases h2:(repE k s p.d.ev).2=false
  ·rw[if_pos h2]at h;rw[h2]at h;cases h
  rw[if_neg h2]at h⊢;have l:evsR (p::r)=p.d.ev.map toE++evsR r:=rfl
  rcases Zhw k p.d.ev s with e|⟨e,_⟩
  ·rw[e]at h2 h⊢;have g:(foldS s ((p.d.ev.map toE).filter λe=>decide (k<e.s))).2.2=0:=(by simpa using h2);obtain⟨a,b,c⟩:=Zn6 k r _ h;rw[l,List.filter_append];obtain⟨i,j⟩:=Zkp _ ((evsR r).filter λe=>decide (k<e.s)) s g;refine⟨?_,by rw[j];exact b,by rw[i];exact c⟩;intro q f
   rcases List.mem_cons.1 f with rfl|f
   ·simpa using h1
   ·exact a q f
  ·exact absurd e h2
theorem Zn7(k:Int):∀(r:List Pt) (s:StD),(∀p∈r,(p.d.ev.length:Int)=p.d.s-p.d.bs)→(foldS s ((evsR r).filter λe=>decide (k<e.s))).2.2=0→(repR k s r).2=true
 | [],s,_,_=>rfl
 |p::r,s,h,h0=>by
  have b:evsR (p::r)=p.d.ev.map toE++evsR r:=rfl;rw[b,List.filter_append]at h0;rw[repR,if_neg (by simpa using h p (by simp))]
  rcases Zhw k p.d.ev s with e|⟨_,e⟩
  ·by_cases h2:(foldS s ((p.d.ev.map toE).filter λe=>decide (k<e.s))).2.2=0
   ·rw[e];rw[if_neg (by simpa using h2)];rw[(Zkp _ _ s h2).2]at h0;exact Zn7 k r _ (λq a=>h q (by simp[a])) h0
   ·exact absurd h0 (Zkq _ _ s h2)
  ·exact absurd h0 (Zkq _ _ s e)
theorem repP_iff{r:List Pt}{s:StD}:(repP r s).2=true↔GoodR r s.q s:=by
 unfold repP
 cases hr:r.head? with
 |none=>have:r=[]:=WL.1 hr;subst this;exact⟨λ_=>⟨by simp,by simp,rfl,by simp⟩,λ_=>rfl⟩
 |some p=>
  obtain⟨q,hq⟩:∃q,r.getLast?=some q:=by
   cases r with
   |nil=>cases hr
   |cons x l=>exact⟨_,Wr (by simp)⟩
  rw[hq]
  dsimp only
  constructor
  ·intro h
   split at h
   ·cases h
   rename_i j
   split at h
   ·rename_i e;rw[e]at h;cases h
   rename_i e;have g:(repR s.q s r).2=true:=(by simpa using e);obtain⟨a,b,c⟩:=Zn6 s.q r s g;refine⟨λx f=>?_,a,b,λx f=>?_⟩
   ·rw[hr]at f;cases f;omega
   ·rw[hq]at f;cases f;have i:q.d.a=(repR s.q s r).1.t:=(by simpa using h);rw[i,c];rfl
  ·intro h;have e:=Zn7 s.q r s h.cnt h.app;obtain⟨_,_,c⟩:=Zn6 s.q r s e;rw[if_neg (by have:=h.bs p hr;omega),if_neg (by rw[e];simp)];have:=h.at_ q hq;show decide _=true;rw[decide_eq_true_eq,c];exact this
theorem repP_st{r:List Pt}{s:StD}(h:GoodR r s.q s):(repP r s).1=stR r s.q s:=by
 unfold repP
 cases hr:r.head? with
 |none=>have:r=[]:=WL.1 hr;subst this;rfl
 |some p=>
  obtain⟨q,hq⟩:∃q,r.getLast?=some q:=by
   cases r with
   |nil=>cases hr
   |cons x l=>exact⟨_,Wr (by simp)⟩
  rw[hq]
  dsimp only
  have a:=Zn7 s.q r s h.cnt h.app;obtain⟨_,_,c⟩:=Zn6 s.q r s a;rw[if_neg (by have:=h.bs p hr;omega),if_neg (by rw[a];simp)];exact c
instance (b g:Int):Decidable (mayC b g):=inferInstanceAs (Decidable (_∧_))
def jo0(d:DiD):JoD:=⟨d,0,0,[],⟨0,0,[]⟩,st0,0,0,false⟩
noncomputable def menD(d:DiD):DiD×Int:=runP d (mendP (rowK d.fs).1 (rowK d.fs).2)
open Classical in
noncomputable def openP(d:DiD)(a b:Int):JoD×Int:=
 if¬(d.P∧mayC a b)then(jo0 d,1)else if d.dn=true then(jo0 d,16)
 else if¬GoodR (rowK d.fs).1 (keptF d.fs) (baseF d.fs)then(jo0 d,11)
 else if(menD d).2≠0 then(jo0 (menD d).1,(menD d).2)
 else(⟨(menD d).1,a,b,(rowK d.fs).1.map sgOf,Zbl (rowK d.fs).1,stR (rowK d.fs).1 (keptF d.fs) (baseF d.fs),(stR (rowK d.fs).1 (keptF d.fs) (baseF d.fs)).q,keptF d.fs,false⟩,0)
open Classical in
noncomputable def mayJ(j:JoD):Int:=if j.dk.P∧j.dk.dn=true then 16 else if¬RightJ j then 1 else 0
theorem Zfq{j:JoD}:mayJ j=0↔RightJ j:=by
 unfold mayJ;constructor
 ·intro h
  split at h
  ·cases h
  split at h
  ·cases h
  rename_i g;exact Yo.1 g
 ·intro h;rw[if_neg (λq=>by rw[h.up]at q;cases q.2),if_neg (by simp[h])]
structure WrD where
 j:JoD
 td:List Stp
 sz:Int
def bys(l:List Int):List UInt8:=l.map λn=>UInt8.ofNat n.toNat
def putW(w:WrD)(l:List SgD)(p:SgD)(b:List Int):WrD:=⟨{w.j with sg:=l++[{p with sz:=p.sz+b.length}]},w.td++[.wri (nmG p.num) (bys b)],w.sz+b.length⟩
def selB(j:JoD)(p:SgD):List Int:=fr 3 (slP (p.la-p.fi) j.cx.s j.cx.a)
def sealW(w:WrD)(l:List SgD)(p:SgD):WrD:=
 ⟨{w.j with sg:=l++[{p with sz:=p.sz+(selB w.j p).length,sl:=true}],cx:=⟨0,0,[]⟩,sure:=w.j.st.q},w.td++[.wri (nmG p.num) (bys (selB w.j p)),.syn (nmG p.num)],w.sz+(selB w.j p).length⟩
def lasS(l:List SgD):Option (List SgD×SgD):=match l.getLast? with|none=>none|some p=>some (l.dropLast,p)
theorem Zas(l:List SgD)(p:SgD):lasS (l++[p])=some (l,p):=by simp[lasS]
def nxtN(w:WrD):Int:=match lasS w.j.sg with|none=>1|some (_,p)=>p.num+1
def hedB(j:JoD)(n:Int):List Int:=fr 1 (hdP n j.st.q j.st.t)
def begW(w:WrD):Option WrD:=if¬inN (nxtN w)∨64<w.j.dk.fs.length+1 then none else
 some ⟨{w.j with sg:=w.j.sg++[⟨nxtN w,w.j.st.q,w.j.st.q,w.j.st.t,w.j.st.t,(hedB w.j (nxtN w)).length,false⟩],cx:=⟨w.j.st.q,w.j.st.t,[]⟩},w.td++[.cre (nmG (nxtN w)),.wri (nmG (nxtN w)) (bys (hedB w.j (nxtN w)))],w.sz+(hedB w.j (nxtN w)).length⟩
def recL'(j:JoD)(e:Cod.EvD):List Int:=fr 2 (encL j.cx.s j.cx.a j.cx.m e)
def recW(w:WrD)(e:Cod.EvD):Option WrD:=match lasS w.j.sg with
 |none=>none
 |some (l,p)=>if encE w.j.cx.s w.j.cx.a w.j.cx.m e≠0 then none else
  some ⟨{w.j with sg:=l++[{p with sz:=p.sz+(recL' w.j e).length,la:=e.s,ti:=e.a}],cx:=⟨e.s,e.a,bhdN w.j.cx.m e.c⟩},w.td++[.wri (nmG p.num) (bys (recL' w.j e))],w.sz+(recL' w.j e).length⟩
def opnW(w:WrD):Bool:=match lasS w.j.sg with|none=>false|some (_,p)=>!p.sl
def ovrB(j:JoD)(e:Cod.EvD):Bool:=match lasS j.sg with
 |none=>false
 |some (_,p)=>if p.sl=true∨p.la≤p.fi then false else if encE j.cx.s j.cx.a j.cx.m e≠0∨j.cb<p.sz+(recL' j e).length then true else decide (j.cg<e.a-p.fr)
def shtJ(j:JoD):JoD×Int:=({j with shut:=true},13)
def w0(j:JoD):WrD:=⟨j,[],0⟩
def w1(j:JoD)(e:Cod.EvD):WrD:=match lasS j.sg with|some (l,p)=>if ovrB j e=true then sealW (w0 j) l p else w0 j|none=>w0 j
def w2(j:JoD)(e:Cod.EvD):Option WrD:=if opnW (w1 j e)=true then some (w1 j e)else begW (w1 j e)
def w3(j:JoD)(e:Cod.EvD):Option WrD:=match w2 j e with|none=>none|some w=>recW w e
def endJ(j:JoD)(s:StD)(w:WrD):JoD×Int:=if j.dk.rm<usedL j.dk.fs+w.sz then shtJ j else if(runP j.dk w.td).2≠0 then({j with dk:=(runP j.dk w.td).1},(runP j.dk w.td).2)else({w.j with dk:=(runP j.dk w.td).1,st:=s},0)
def evN(j:JoD)(e:Cod.EvD):Cod.EvD:={e with s:=j.st.q+1}
def appQ(j:JoD)(e:Cod.EvD):JoD×Int:=
 if(appS j.st (toE (evN j e))).2≠0 then(j,(appS j.st (toE (evN j e))).2)else if j.shut=true then(j,13)else match w3 j (evN j e)with
 |none=>shtJ j
 |some w=>endJ j (appS j.st (toE (evN j e))).1 w
noncomputable def appP(j:JoD)(e:Cod.EvD):JoD×Int:=if mayJ j≠0 then(j,mayJ j)else appQ j e
def synQ(j:JoD):JoD×Int:=match lasS j.sg with
 |none=>({j with sure:=j.st.q},0)
 |some (_,p)=>if p.sl=true then({j with sure:=j.st.q},0)else if(Za3 j.dk (nmG p.num)).2≠0 then({j with dk:=(Za3 j.dk (nmG p.num)).1},(Za3 j.dk (nmG p.num)).2)else({j with dk:=(Za3 j.dk (nmG p.num)).1,sure:=j.st.q},0)
noncomputable def synJ(j:JoD):JoD×Int:=if mayJ j≠0 then(j,mayJ j)else synQ j
def rotQ(j:JoD):JoD×Int:=match lasS j.sg with
 |none=>(j,14)
 |some (l,p)=>if p.sl=true∨p.la≤p.fi then(j,14)else endJ j j.st (sealW (w0 j) l p)
noncomputable def rotJ(j:JoD):JoD×Int:=if mayJ j≠0 then(j,mayJ j)else rotQ j
open Classical in
noncomputable def evsJ(j:JoD):List Cod.EvD:=if RightJ j then(rowK j.dk.fs).1.flatMap (·.d.ev)else[]
end Jou
namespace Jou
open Go Go.Px Go.Proofs Go.RowKit Go.Shelf Tryz
set_option maxHeartbeats 2000000
attribute [local go_sem] Oper.semAt_some
theorem backS:Zl8 prog 183 (λc=>c 0) 1:=by
 refine⟨enters_of func183 (by kernel_rfl) rfl,?_⟩;intro l o q p b off len h r s t J Kp d j u W f v w;have A:=f W (d W);refine callsIn_of_wp func183 rfl trivial ?_ rfl;simp only[Tryz.ntmps183,YE,List.length_cons,Y6,Nat.reduceAdd,Nat.reduceSub,Wn,Wo,Wy,Wu,List.nil_append,List.cons_append]
 gi_wp2
 gi_loopw [3] (λi wr=>∃k:Nat,k≤len∧i= .int .i64 ((len:Int)-1-k)∧J k wr∧Kp W wr)
  (λi _=>(intOf i+1).toNat)
 case atStart=>exact⟨0,Wv _,by simp,w,d _⟩
 case round=>
  obtain⟨k,K,rfl,g,a⟩:=hrel;have E:wr.cell? ⟨o,q,none⟩=some (.slice p len h):=f wr a;by_cases hlt:k<len
  ·obtain⟨L,x,m,y,M,z⟩:=u k wr g hlt;have n:=s (by omega);subst n;have C:wr.cell? ⟨b,off+(len-1-k),none⟩=some (r (len-1-k) 0):=by have:=v (len-1-k) (by omega) 0 (by omega) wr a;simpa using this
   have F:(0:Int)≤(len:Int)-1-k:=(by omega);have D:(len:Int)-1-k<len:=(by omega);have G:((len:Int)-1-k).toNat=len-1-k:=by omega
   gi_wp2
   refine z.mono ?_;rintro e H ⟨rfl,hJ3,hk3⟩
   gi_wp2
   go_roundw
   case rel=>exact⟨k+1,by omega,by simp;omega,hJ3,j a hk3⟩
   case measure=>simp[intOf];omega
  ·obtain rfl:k=len:=by omega
   gi_wp2
   go_end0
   exact⟨⟨_,rfl⟩,g⟩
theorem backP:Zl8 prog 185 (λc=>.agg #[c 0,c 1,c 2,c 3,c 4,c 5,c 6,c 7,c 8,c 9,c 10]) 11:=by
 refine⟨enters_of func185 (by kernel_rfl) rfl,?_⟩;intro l s t p b off len m d u v J Kp g n w W h f x;have C:=h W (g W);refine callsIn_of_wp func185 rfl trivial ?_ rfl;simp only[Tryz.ntmps185,YE,List.length_cons,Y6,Nat.reduceAdd,Nat.reduceSub,Wn,Wo,Wy,Wu,List.nil_append,List.cons_append]
 gi_wp2
 gi_loopw [3] (λi wr=>∃k:Nat,k≤len∧i= .int .i64 ((len:Int)-1-k)∧J k wr∧Kp W wr)
  (λi _=>(intOf i+1).toNat)
 case atStart=>exact⟨0,Wv _,by simp,x,g _⟩
 case round=>
  obtain⟨k,V,rfl,j,a⟩:=hrel;have Q:wr.cell? ⟨s,t,none⟩=some (.slice p len m):=h wr a;by_cases hlt:k<len
  ·obtain⟨X,y,o,z,Y,A⟩:=w k wr j hlt;have q:=u (by omega);subst q;have D:wr.cell? ⟨b,off+(len-1-k)*11,none⟩=some (d (len-1-k) 0):=by have:=f (len-1-k) (by omega) 0 (by omega) wr a;simpa using this
   have E:wr.cell? ⟨b,off+(len-1-k)*11+1,none⟩=some (d (len-1-k) 1):=(by have:=f (len-1-k) (by omega) 1 (by omega) wr a;simpa using this);have F:wr.cell? ⟨b,off+(len-1-k)*11+2,none⟩=some (d (len-1-k) 2):=(by have:=f (len-1-k) (by omega) 2 (by omega) wr a;simpa using this);have G:wr.cell? ⟨b,off+(len-1-k)*11+3,none⟩=some (d (len-1-k) 3):=(by have:=f (len-1-k) (by omega) 3 (by omega) wr a;simpa using this);have H:wr.cell? ⟨b,off+(len-1-k)*11+4,none⟩=some (d (len-1-k) 4):=(by have:=f (len-1-k) (by omega) 4 (by omega) wr a;simpa using this);have K:wr.cell? ⟨b,off+(len-1-k)*11+5,none⟩=some (d (len-1-k) 5):=(by have:=f (len-1-k) (by omega) 5 (by omega) wr a;simpa using this);have L:wr.cell? ⟨b,off+(len-1-k)*11+6,none⟩=some (d (len-1-k) 6):=(by have:=f (len-1-k) (by omega) 6 (by omega) wr a;simpa using this);have M:wr.cell? ⟨b,off+(len-1-k)*11+7,none⟩=some (d (len-1-k) 7):=(by have:=f (len-1-k) (by omega) 7 (by omega) wr a;simpa using this);have N:wr.cell? ⟨b,off+(len-1-k)*11+8,none⟩=some (d (len-1-k) 8):=(by have:=f (len-1-k) (by omega) 8 (by omega) wr a;simpa using this);have O:wr.cell? ⟨b,off+(len-1-k)*11+9,none⟩=some (d (len-1-k) 9):=(by have:=f (len-1-k) (by omega) 9 (by omega) wr a;simpa using this);have r:wr.cell? ⟨b,off+(len-1-k)*11+10,none⟩=some (d (len-1-k) 10):=(by have:=f (len-1-k) (by omega) 10 (by omega) wr a;simpa using this);have R:(0:Int)≤(len:Int)-1-k:=(by omega);have P:(len:Int)-1-k<len:=(by omega);have T:((len:Int)-1-k).toNat=len-1-k:=by omega
   gi_wp2
   refine A.mono ?_;rintro e U ⟨rfl,hJ3,hk3⟩
   gi_wp2
   go_roundw
   case rel=>exact⟨k+1,by omega,by simp;omega,hJ3,n a hk3⟩
   case measure=>simp[intOf];omega
  ·obtain rfl:k=len:=by omega
   gi_wp2
   go_end0
   exact⟨⟨_,rfl⟩,j⟩
def ItJ:Nat→Option (FuncId×TypeId):=λp=>bif Nat.beq p 12 then some (183,9)else bif Nat.beq p 22 then some (185,114)else none
theorem hItJ:∀p f e z,ItJ p=some (f,e)→szT prog e=some z→Zl8 prog f (elOf prog e z) z:=by
 intro p f e z a b;unfold ItJ at a
 cases h1:Nat.beq p 12 with
 |true=>simp only[h1,cond_true,Option.some.injEq,Prod.mk.injEq]at a;obtain⟨rfl,rfl⟩:=a;obtain rfl:=Option.some.inj (b.symm.trans (show szT prog 9=some 1 by kernel_rfl));exact(show elOf prog 9 1=(λc=>c 0) by kernel_rfl)▸backS
 |false=>
  simp only[h1,cond_false]at a
  cases h2:Nat.beq p 22 with
  |true=>simp only[h2,cond_true,Option.some.injEq,Prod.mk.injEq]at a;obtain⟨rfl,rfl⟩:=a;obtain rfl:=Option.some.inj (b.symm.trans (show szT prog 114=some 11 by kernel_rfl));exact(show elOf prog 114 11=(λc=>.agg #[c 0,c 1,c 2,c 3,c 4,c 5,c 6,c 7,c 8,c 9,c 10]) by kernel_rfl)▸backP
  |false=>simp only[h2,cond_false]at a;cases a
end Jou
namespace Jou
open Go Go.Px Go.Proofs Cod Tryz
abbrev dk4(rows:List (List SV))(b a:Int)(c:Bool):SV:=.agg [SL 3 rows,I b,I a,B c]
abbrev st3(rows:List (List SV))(s a:Int):SV:=.agg [SL 21 rows,I s,I a]
abbrev cx3(s a:Int)(b:List (List SV)):SV:=.agg [I s,I a,SL 1 b]
abbrev ev7(s a k:Int)(c:ByteArray)(x y z:Int):SV:=.agg [I s,I a,I k,S c,I x,I y,I z]
abbrev sg7(n f l fr b c:Int)(a:Bool):SV:=.agg [I n,I f,I l,I fr,I b,I c,B a]
abbrev sc10(num bs b:Int)(c ev:List (List SV))(a d:Int)(e:List (List SV))(f g:Int):SV:=.agg [I num,I bs,I b,SL 1 c,SL 7 ev,I a,I d,SL 1 e,I f,I g]
abbrev pt11(num bs c:Int)(d ev:List (List SV))(a e:Int)(f:List (List SV))(g h b:Int):SV:=.agg [I num,I bs,I c,SL 1 d,SL 7 ev,I a,I e,SL 1 f,I g,I h,I b]
abbrev fd7(row out:List (List SV))(b:Int)(d:List (List SV))(s a:Int)(c:Bool):SV:=.agg [SL 11 row,SL 1 out,I b,SL 21 d,I s,I a,B c]
abbrev jr16(rows:List (List SV))(b a:Int)(c:Bool)(g h:Int)(segs:List (List SV))(i j:Int)(k l:List (List SV))(m n d e:Int)(f:Bool):SV:=.agg [SL 3 rows,I b,I a,B c,I g,I h,SL 7 segs,I i,I j,SL 1 k,SL 21 l,I m,I n,I d,I e,B f]
abbrev wr18(rows:List (List SV))(b a:Int)(c:Bool)(i j:Int)(segs:List (List SV))(k l:Int)(m n:List (List SV))(o p d e:Int)(f:Bool)(g:List (List SV))(h:Int):SV:=.agg [SL 3 rows,I b,I a,B c,I i,I j,SL 7 segs,I k,I l,SL 1 m,SL 21 n,I o,I p,I d,I e,B f,SL 1 g,I h]
abbrev mm7(row b d:List (List SV))(s a c e:Int):SV:=.agg [SL 10 row,SL 1 b,SL 21 d,I s,I a,I c,I e]
abbrev sm(x:List (List SV)):Prop:=Option.some x=Option.some x
abbrev inR(x:Int)(l:List (List SV)):Prop:=(0:Int)≤x∧x<rlen l
abbrev ej0(r:List SV)(K:Nat→(List SV)→Prop):Prop:=∃a:Nat,∃b:List SV,(r=[SV.clo a b])∧K a b
abbrev ej1(r:List SV)(K:(List (List SV))→Int→Int→Bool→Int→Prop):Prop:=∃a:List (List SV),∃b:Int,∃c:Int,∃d:Bool,∃e:Int,(r=[dk4 a b c d,I e])∧K a b c d e
abbrev ej2(r:List SV)(K:ByteArray→Prop):Prop:=∃a:ByteArray,(r=[S a])∧K a
abbrev ej3(r:List SV)(K:Int→Int→Int→(List (List SV))→(List (List SV))→Int→Int→(List (List SV))→Int→Int→Int→Prop):Prop:=∃b:Int,∃c:Int,∃d:Int,∃e:List (List SV),∃f:List (List SV),∃g:Int,∃h:Int,∃i:List (List SV),∃j:Int,∃k:Int,∃a:Int,(r=[I b,I c,I d,SL 1 e,SL 7 f,I g,I h,SL 1 i,I j,I k,I a])∧K b c d e f g h i j k a
abbrev ej4(r:List SV)(K:Bool→Prop):Prop:=∃a:Bool,(r=[B a])∧K a
abbrev ej5(r:List SV)(K:Int→Int→Int→Int→Int→Int→Bool→Prop):Prop:=∃a:Int,∃b:Int,∃c:Int,∃d:Int,∃e:Int,∃f:Int,∃g:Bool,(r=[I a,I b,I c,I d,I e,I f,B g])∧K a b c d e f g
abbrev ej6(r:List SV)(K:(List (List SV))→Int→Int→(List (List SV))→Int→Prop):Prop:=∃a:List (List SV),∃b:Int,∃c:Int,∃d:List (List SV),∃e:Int,(r=[SL 1 a,cx3 b c d,I e])∧K a b c d e
abbrev ej7(r:List SV)(K:(List (List SV))→Int→Prop):Prop:=∃a:List (List SV),∃b:Int,(r=[SL 1 a,I b])∧K a b
abbrev ej8(r:List SV)(K:(List (List SV))→Int→Int→Bool→Int→Int→(List (List SV))→Int→Int→(List (List SV))→(List (List SV))→Int→Int→Int→Int→Bool→(List (List SV))→Int→Prop):Prop:=∃i:List (List SV),∃j:Int,∃k:Int,∃l:Bool,∃m:Int,∃n:Int,∃o:List (List SV),∃p:Int,∃q:Int,∃s:List (List SV),∃a:List (List SV),∃b:Int,∃c:Int,∃d:Int,∃e:Int,∃f:Bool,∃g:List (List SV),∃h:Int,(r=[wr18 i j k l m n o p q s a b c d e f g h])∧K i j k l m n o p q s a b c d e f g h
abbrev ej9(r:List SV)(K:(List (List SV))→Prop):Prop:=∃a:List (List SV),(r=[SL 1 a])∧K a
abbrev ej10(r:List SV)(K:Int→Prop):Prop:=∃a:Int,(r=[I a])∧K a
abbrev ej11(r:List SV)(K:Int→Int→Int→(List (List SV))→(List (List SV))→Int→Int→(List (List SV))→Int→Int→Prop):Prop:=∃a:Int,∃b:Int,∃c:Int,∃d:List (List SV),∃e:List (List SV),∃f:Int,∃g:Int,∃h:List (List SV),∃i:Int,∃j:Int,(r=[sc10 a b c d e f g h i j])∧K a b c d e f g h i j
abbrev ej12(r:List SV)(K:(List (List SV))→(List (List SV))→Prop):Prop:=∃a:List (List SV),∃b:List (List SV),(r=[SL 11 a,SL 1 b])∧K a b
abbrev ej13(r:List SV)(K:(List (List SV))→Int→Int→Int→Prop):Prop:=∃a:List (List SV),∃b:Int,∃c:Int,∃d:Int,(r=[st3 a b c,I d])∧K a b c d
abbrev ej14(r:List SV)(K:(List (List SV))→Int→Int→Bool→Prop):Prop:=∃a:List (List SV),∃b:Int,∃c:Int,∃d:Bool,(r=[st3 a b c,B d])∧K a b c d
abbrev ej15(r:List SV)(K:(List (List SV))→(List (List SV))→Int→(List (List SV))→Int→Int→Bool→Prop):Prop:=∃a:List (List SV),∃b:List (List SV),∃c:Int,∃d:List (List SV),∃e:Int,∃f:Int,∃g:Bool,(r=[fd7 a b c d e f g])∧K a b c d e f g
abbrev ej16(r:List SV)(K:(List (List SV))→Prop):Prop:=∃a:List (List SV),(r=[SL 7 a])∧K a
abbrev ej17(r:List SV)(K:Int→Int→(List (List SV))→Prop):Prop:=∃a:Int,∃b:Int,∃c:List (List SV),(r=[cx3 a b c])∧K a b c
abbrev ej18(r:List SV)(K:Bool→(List (List SV))→Int→Int→Bool→Int→Int→(List (List SV))→Int→Int→(List (List SV))→(List (List SV))→Int→Int→Int→Int→Bool→(List (List SV))→Int→Prop):Prop:=∃j:Bool,∃k:List (List SV),∃l:Int,∃m:Int,∃n:Bool,∃o:Int,∃p:Int,∃q:List (List SV),∃s:Int,∃t:Int,∃a:List (List SV),∃b:List (List SV),∃c:Int,∃d:Int,∃e:Int,∃f:Int,∃g:Bool,∃h:List (List SV),∃i:Int,(r=[B j,wr18 k l m n o p q s t a b c d e f g h i])∧K j k l m n o p q s t a b c d e f g h i
abbrev ej19(r:List SV)(K:(List (List SV))→Int→Int→Bool→Int→Int→(List (List SV))→Int→Int→(List (List SV))→(List (List SV))→Int→Int→Int→Int→Bool→Int→Prop):Prop:=∃h:List (List SV),∃i:Int,∃j:Int,∃k:Bool,∃l:Int,∃m:Int,∃n:List (List SV),∃o:Int,∃p:Int,∃q:List (List SV),∃a:List (List SV),∃b:Int,∃c:Int,∃d:Int,∃e:Int,∃f:Bool,∃g:Int,(r=[jr16 h i j k l m n o p q a b c d e f,I g])∧K h i j k l m n o p q a b c d e f g
abbrev ej20(r:List SV)(K:ByteArray→Bool→Prop):Prop:=∃a:ByteArray,∃b:Bool,(r=[S a,B b])∧K a b
abbrev ej21(r:List SV)(K:Int→Int→Int→ByteArray→Int→Int→Int→Prop):Prop:=∃a:Int,∃b:Int,∃c:Int,∃d:ByteArray,∃e:Int,∃f:Int,∃g:Int,(r=[I a,I b,I c,S d,I e,I f,I g])∧K a b c d e f g
abbrev sgW:Sig:=⟨[.lend [false,false,false,false,false,false,true,false,false,false,false,false,false,false,false,false,true,false]],[]⟩
abbrev sgP:Sig:=⟨[.lend [false,false,false,false,false,false,true,false,false,false,false,false,false,false,false,false,true,false,false,false,false,false,false,false,false,false,false,false,false,false,false,false,false,false,false,false,false,false,false,false,false,false,false,false,false,false,false,false,false,false,false,false,false,false,false,false,false,false,false,false,false,false,false,false,false,false,false,false,false,false,true]],[]⟩
def SgT:FuncId→Sig:=(λf=>bif Nat.beq f 70 then⟨[],[.own]⟩else bif Nat.beq f 72 then sgW else bif Nat.beq f 74 then sgW else bif Nat.beq f 75 then sgW else bif Nat.beq f 76 then sgW else bif Nat.beq f 140 then sgP else bif Nat.beq f 141 then⟨[],[.own,.pure]⟩else bif Nat.beq f 202 then⟨[],[.own,.pure]⟩else bif Nat.beq f 220 then⟨[],[.own]⟩else bif Nat.beq f 242 then⟨[],[.own]⟩else bif Nat.beq f 287 then⟨[],[.own]⟩else bif Nat.beq f 307 then⟨[],[.own]⟩else{})
def SvT:TypeId→Sig:=(λf=>{})
theorem jmaybe_nf{b a:Int}{Q:QQ}(h:Q [B (bpick (bpick (bpick (ige b 64) (ile b 65536) false) (ige a 1) false) (ile a 1099511627776) false)]):Ct prog 50 {} [.agg [I b,I a]] Q:=
 fN SgT SvT func50 h
theorem jrun_nf{rows:LL}{d c:Int}{e:Bool}{a:LL}{Q:QQ}(h:∃g:Int→(LL)→Int→Int→Bool→Prop,∃m:Int→(LL)→Int→Int→Bool→Nat,(g 0 rows d c e)∧∀x l,∀i j b,(g x l i j b)→ifB (ilt x (rlen a)) ((inR x a)∧ej0 (rget a x) λf t=>(Cl prog f sP ((dk4 l i j b)::t) (λr=>ej1 r λn o p q s=>(ifB (ine s 0) (Q ([dk4 n o p q,I s])) ((sm ([[SV.slice 3 [] 1,I 0,I 0,B false]]))∧(g (wadd .i64 x 1) n o p q)∧Nat.le (Nat.succ (m (wadd .i64 x 1) n o p q)) (m x l i j b)))))) (Q ([dk4 l i j b,I 0]))):Ct prog 52 {} [dk4 rows d c e,SL 1 a] Q:=
 fO SgT SvT (λk=>bif Nat.beq k 12 then some {slots:=[(11,false,[.int .i64])],boxes:=[(256,[.sl 3,.int .i64,.int .i64,.bool])],fixed:=[512]}else none) func52 h
theorem mend_nf(row out:LL)(d:Int)(u:LL)(s a:Int)(e:Bool)(Q:QQ)(h:Cl prog 115 sP [SL 1 out] (λD=>ej0 D λf z=>(∃l,(f=183)∧(z=[SV.ref 0 [SL 1 l]])∧((rlen l)≤2147483648)∧∃j:Int→(LL)→Prop,(j 0 [])∧(∀x,((0:Int)≤x)→(x<(rlen l))→∀m,(j x m)→ej2 (rget l (kdn (rlen l) x)) λo=>(Cl prog 116 sP [S o] (λp=>ej0 p λv i=>(((lsum (rlen m) (rlen ([[SV.clo v i]])))≤2147483648)∧(sm ([[SL 11 row,SL 1 out,I d,SL 21 u,I s,I a,B e]]))∧j (kup x) (rapp m ([[SV.clo v i]]))))))∧∀m,(j (rlen l) m)→Cl prog 117 sP [SL 11 row] (λp=>ej0 p λv i=>(∃n,(v=185)∧(i=[SV.ref 0 [SL 11 n]])∧((rlen n)≤2147483648)∧∃b:Int→(LL)→Prop,(b 0 m)∧(∀x,((0:Int)≤x)→(x<(rlen n))→∀c,(b x c)→ej3 (rget n (kdn (rlen n) x)) λA E F G H J C K L w y=>(ifB (igt y w) (Cl prog 88 sP [I A] (λq=>ej2 q λo=>(Cl prog 118 sP [S o,I w] (λr=>ej0 r λt g=>(((lsum (rlen c) (rlen ([[SV.clo t g]])))≤2147483648)∧(sm ([[SL 11 row,SL 1 out,I d,SL 21 u,I s,I a,B e]]))∧b (kup x) (rapp c ([[SV.clo t g]]))))))) ((sm ([[SL 11 row,SL 1 out,I d,SL 21 u,I s,I a,B e]]))∧b (kup x) c)))∧∀c,(b (rlen n) c)→ifB (igt (rlen row) 0) ((inR (wsub .i64 (rlen row) 1) row)∧ej3 (rget row (wsub .i64 (rlen row) 1)) λx A E G H F J K C L w=>(ifB (ine C 4) ((inR (wsub .i64 (rlen row) 1) row)∧ej3 (rget row (wsub .i64 (rlen row) 1)) λy U M V W N O X P R T=>(Cl prog 88 sP [I y] (λq=>ej2 q λo=>(Cl prog 87 sP [S o] (λr=>ej0 r λt g=>(((lsum (rlen c) (rlen ([[SV.clo t g]])))≤2147483648)∧Q ([SL 1 (rapp c ([[SV.clo t g]]))]))))))) (Q [SL 1 c]))) (Q [SL 1 c])))))):Ct prog 53 {} [fd7 row out d u s a e] Q:=
 fnR_of (f:=53) SgT SvT (λk=>bif Nat.beq k 5000012 then some {slots:=[],boxes:=[(384,[.own 1])],fixed:=[128]}else bif Nat.beq k 5000022 then some {slots:=[],boxes:=[(384,[.own 1])],fixed:=[128]}else none) hItJ Tryz.f53 func53 (by kernel_rfl) (by kernel_rfl) h
theorem jsegs_nf{row:LL}{Q:QQ}(h:∃a:(LL)→Int→Prop,∃m:(LL)→Int→Nat,(a [] 0)∧∀l x,(a l x)→ifB (ilt x (rlen row)) ((inR x row)∧ej3 (rget row x) λb c d k n e g o i j p=>(((lsum (rlen l) (rlen ([[I b,I c,I e,I d,I g,I j,B (ieq i 4)]])))≤2147483648)∧((Option.some []:Option (LL))=Option.some [])∧(a (rapp l ([[I b,I c,I e,I d,I g,I j,B (ieq i 4)]])) (wadd .i64 x 1))∧Nat.le (Nat.succ (m (rapp l ([[I b,I c,I e,I d,I g,I j,B (ieq i 4)]])) (wadd .i64 x 1))) (m l x))) (Q [SL 7 l])):Ct prog 54 {} [SL 11 row] Q:=
 fN SgT SvT func54 h
theorem jahead_nf{row:LL}{Q:QQ}(h:ifB (ieq (rlen row) 0) (Q ([cx3 0 0 []])) ((inR (wsub .i64 (rlen row) 1) row)∧ej3 (rget row (wsub .i64 (rlen row) 1)) λx k m l n o p q c r s=>(ifB (ieq c 4) (Q ([cx3 0 0 []])) ((inR (wsub .i64 (rlen row) 1) row)∧ej3 (rget row (wsub .i64 (rlen row) 1)) λt u e v w a b d g i j=>(Q ([cx3 a b d])))))):Ct prog 55 {} [SL 11 row] Q:=
 fN SgT SvT func55 h
theorem jsame_nf{a c:Int}{d:LL}{e g:Int}{i:LL}{Q:QQ}(h:ifB (bpick (ieq a e) (ieq c g) false) (Cl prog 120 sP [SL 1 d,SL 1 i] (λj=>ej4 j λb=>(Q [B b]))) (Q [B false])):Ct prog 58 {} [cx3 a c d,cx3 e g i] Q:=
 fN SgT SvT func58 h
theorem jmay_nf{rows:LL}{d a:Int}{c:Bool}{j k:Int}{segs:LL}{l m:Int}{n o:LL}{p q e g:Int}{i:Bool}{Q:QQ}(h:Cl prog 46 sP ([dk4 rows d a c]) (λs=>ej4 s λb=>(ifB (bpick b c false) (Q [I 16]) (Cl prog 17 sP ([jr16 rows d a c j k segs l m n o p q e g i]) (λr=>ej4 r λt=>(ifB (bnot t) (Q [I 1]) (Q [I 0]))))))):Ct prog 68 {} [jr16 rows d a c j k segs l m n o p q e g i] Q:=
 fN SgT SvT func68 h
theorem jover_nf{rows:LL}{c a:Int}{d:Bool}{k m:Int}{segs:LL}{n o:Int}{p w:LL}{y z e g:Int}{i:Bool}{q j r:Int}{s:ByteArray}{t u v:Int}{Q:QQ}(h:ifB (ieq (rlen segs) 0) (Q [B false]) ((inR (wsub .i64 (rlen segs) 1) segs)∧ej5 (rget segs (wsub .i64 (rlen segs) 1)) λx A C D H E b=>(ifB (bpick b true (ile C A)) (Q [B false]) (Cl prog 138 sP ([cx3 n o p,ev7 q j r s t u v]) (λF=>ej6 F λl J K L G=>(ifB (bpick (ine G 0) true (igt (wadd .i64 E (rlen l)) k)) (Q [B true]) (Q [B (igt (wsub .i64 j D) m)]))))))):Ct prog 71 {} [jr16 rows c a d k m segs n o p w y z e g i,ev7 q j r s t u v] Q:=
 fN SgT SvT func71 h
theorem wopen_nf{rows:LL}{c a:Int}{d:Bool}{l m:Int}{segs:LL}{n o:Int}{p q:LL}{r s e g:Int}{i:Bool}{j:LL}{k:Int}{Q:QQ}(h:ifB (igt (rlen segs) 0) ((inR (wsub .i64 (rlen segs) 1) segs)∧(inR (wsub .i64 (rlen segs) 1) segs)∧ej5 (rget segs (wsub .i64 (rlen segs) 1)) λx t u v w y b=>(Q ([B (bnot b),wr18 rows c a d l m segs n o p q r s e g i j k]))) (Q ([B false,wr18 rows c a d l m segs n o p q r s e g i j k]))):Ct prog 74 sgW [wr18 rows c a d l m segs n o p q r s e g i j k] Q:=
 fN SgT SvT func74 h
theorem wput_nf{rows:LL}{d c:Int}{e:Bool}{u v:Int}{segs:LL}{w y:Int}{z A:LL}{C D g i:Int}{j:Bool}{a:LL}{k:Int}{bs:LL}{Q:QQ}(h:(inR (wsub .i64 (rlen segs) 1) segs)∧(inR (wsub .i64 (rlen segs) 1) segs)∧ej5 (rget segs (wsub .i64 (rlen segs) 1)) λx O P R T n b=>((inR (wsub .i64 (rlen segs) 1) segs)∧ej5 (rget segs (wsub .i64 (rlen segs) 1)) λo p q r l H t=>((inR (wsub .i64 (rlen segs) 1) (rset segs (wsub .i64 (rlen segs) 1) [I o,I p,I q,I r,I l,I (wadd .i64 n (rlen bs)),B t]))∧ej5 (rget (rset segs (wsub .i64 (rlen segs) 1) [I o,I p,I q,I r,I l,I (wadd .i64 n (rlen bs)),B t]) (wsub .i64 (rlen segs) 1)) λE J K L M N U=>(Cl prog 88 sP [I E] (λG=>ej2 G λs=>(Cl prog 205 sP [S s,SL 1 bs] (λF=>ej0 F λf m=>(((lsum (rlen a) (rlen ([[SV.clo f m]])))≤2147483648)∧Q ([wr18 rows d c e u v (rset segs (wsub .i64 (rlen segs) 1) [I o,I p,I q,I r,I l,I (wadd .i64 n (rlen bs)),B t]) w y z A C D g i j (rapp a ([[SV.clo f m]])) (wadd .i64 k (rlen bs))]))))))))):Ct prog 140 sgP [wr18 rows d c e u v segs w y z A C D g i j a k,SL 1 bs] Q:=
 fN SgT SvT func140 h
theorem wseal_nf{rows:LL}{c a:Int}{d:Bool}{t u:Int}{segs:LL}{n o:Int}{p v:LL}{w y e g:Int}{i:Bool}{j:LL}{k:Int}{Q:QQ}(h:(inR (wsub .i64 (rlen segs) 1) segs)∧(inR (wsub .i64 (rlen segs) 1) segs)∧ej5 (rget segs (wsub .i64 (rlen segs) 1)) λx x1 W x3 x4 x5 b=>((inR (wsub .i64 (rlen segs) 1) segs)∧ej5 (rget segs (wsub .i64 (rlen segs) 1)) λx6 X x8 x9 a0 a1 b1=>(Cl prog 139 sP ([I (wsub .i64 W X),cx3 n o p]) (λY=>ej7 Y λl z=>(ifB (ine z 0) (Q ([B false,wr18 rows c a d t u segs n o p v w y e g i j k])) (Cl prog 140 sgP ([wr18 rows c a d t u segs n o p v w y e g i j k,SL 1 l]) (λA=>ej8 A λZ C D b2 E F m a2 a3 l3 l4 q G a4 H b3 J K=>((inR (wsub .i64 (rlen segs) 1) m)∧ej5 (rget m (wsub .i64 (rlen segs) 1)) λL a5 a6 a7 a8 a9 b4=>(Cl prog 88 sP [I L] (λM=>ej2 M λs=>(Cl prog 87 sP [S s] (λN=>ej0 N λf r=>(((lsum (rlen J) (rlen ([[SV.clo f r]])))≤2147483648)∧(inR (wsub .i64 (rlen segs) 1) m)∧ej5 (rget m (wsub .i64 (rlen segs) 1)) λO P R T U V b5=>(Q ([B true,wr18 Z C D b2 E F (rset m (wsub .i64 (rlen segs) 1) [I O,I P,I R,I T,I U,I V,B true]) 0 0 [] l4 q G q H b3 (rapp J ([[SV.clo f r]])) K]))))))))))))))):Ct prog 72 sgW [wr18 rows c a d t u segs n o p v w y e g i j k] Q:=
 fN SgT SvT func72 h
theorem wbegin_nf{rows:LL}{g a:Int}{i:Bool}{p q:Int}{segs:LL}{r t:Int}{u v:LL}{c d j k:Int}{m:Bool}{e:LL}{n:Int}{Q:QQ}(h:ifB (igt (rlen segs) 0) ((inR (wsub .i64 (rlen segs) 1) segs)∧(inR (wsub .i64 (rlen segs) 1) segs)∧ej5 (rget segs (wsub .i64 (rlen segs) 1)) λx N O P R Z b=>(Cl prog 88 sP [I (wadd .i64 x 1)] (λD=>ej2 D λs=>(ifB (bpick (seq s (bA [])) true (igt (wadd .i64 (rlen rows) 1) 64)) (Q ([B false,wr18 rows g a i p q segs r t u v c d j k m e n])) (Cl prog 141 (Sig.mk [] [Md.own,Md.pure]) ([I (wadd .i64 x 1),cx3 c d []]) (λw=>ej7 w λl T=>(ifB (ine T 0) (Q ([B false,wr18 rows g a i p q segs r t u v c d j k m e n])) (Cl prog 142 sP [S s] (λy=>ej0 y λf o=>(((lsum (rlen e) (rlen ([[SV.clo f o]])))≤2147483648)∧((lsum (rlen segs) (rlen ([[I (wadd .i64 x 1),I c,I c,I d,I d,I 0,B false]])))≤2147483648)∧Cl prog 140 sgP ([wr18 rows g a i p q (rapp segs ([[I (wadd .i64 x 1),I c,I c,I d,I d,I 0,B false]])) r t u v c d j k m (rapp e ([[SV.clo f o]])) n,SL 1 l]) (λz=>ej8 z λE F G H J A K C a0 l3 L U V W X b2 M Y=>(Q ([B true,wr18 E F G H J A K c d [] L U V W X b2 M Y]))))))))))))) (Cl prog 88 sP [I 1] (λD=>ej2 D λs=>(ifB (bpick (seq s (bA [])) true (igt (wadd .i64 (rlen rows) 1) 64)) (Q ([B false,wr18 rows g a i p q segs r t u v c d j k m e n])) (Cl prog 141 (Sig.mk [] [Md.own,Md.pure]) ([I 1,cx3 c d []]) (λw=>ej7 w λl x=>(ifB (ine x 0) (Q ([B false,wr18 rows g a i p q segs r t u v c d j k m e n])) (Cl prog 142 sP [S s] (λy=>ej0 y λf o=>(((lsum (rlen e) (rlen ([[SV.clo f o]])))≤2147483648)∧((lsum (rlen segs) (rlen ([[I 1,I c,I c,I d,I d,I 0,B false]])))≤2147483648)∧Cl prog 140 sgP ([wr18 rows g a i p q (rapp segs ([[I 1,I c,I c,I d,I d,I 0,B false]])) r t u v c d j k m (rapp e ([[SV.clo f o]])) n,SL 1 l]) (λz=>ej8 z λE N O b P R K Z T l3 L F G J A H M C=>(Q ([B true,wr18 E N O b P R K c d [] L F G J A H M C]))))))))))))):Ct prog 75 sgW [wr18 rows g a i p q segs r t u v c d j k m e n] Q:=
 fN SgT SvT func75 h
theorem wrec_nf{rows:LL}{d c:Int}{e:Bool}{y z:Int}{segs:LL}{t u:Int}{v A:LL}{C D g i:Int}{j:Bool}{k:LL}{m:Int}{s E R:Int}{T:ByteArray}{U V W:Int}{Q:QQ}(h:(Cl prog 138 sP ([cx3 t u v,ev7 s E R T U V W]) (λX=>ej6 X λl x Y Z x2=>(ifB (ine x2 0) (Q ([B false,wr18 rows d c e y z segs t u v A C D g i j k m])) (Cl prog 140 sgP ([wr18 rows d c e y z segs t u v A C D g i j k m,SL 1 l]) (λF=>ej8 F λl2 x3 x4 b x5 x6 a x7 x8 l4 l5 x9 G H J b1 l6 K=>((inR (wsub .i64 (rlen a) 1) a)∧(inR (wsub .i64 (rlen a) 1) a)∧ej5 (rget a (wsub .i64 (rlen a) 1)) λn o a0 p q r w=>((inR (wsub .i64 (rlen a) 1) (rset a (wsub .i64 (rlen a) 1) [I n,I o,I s,I p,I q,I r,B w]))∧ej5 (rget (rset a (wsub .i64 (rlen a) 1) [I n,I o,I s,I p,I q,I r,B w]) (wsub .i64 (rlen a) 1)) λL M N O a1 P b3=>(Q ([B true,wr18 l2 x3 x4 b x5 x6 (rset (rset a (wsub .i64 (rlen a) 1) [I n,I o,I s,I p,I q,I r,B w]) (wsub .i64 (rlen a) 1) [I L,I M,I N,I O,I E,I P,B b3]) x Y Z l5 x9 G H J b1 l6 K])))))))))∧Cl prog 138 sP ([cx3 t u v,ev7 s E R T U V W]) (λX=>ej6 X λl x Y Z x2=>(ifB (ine x2 0) (Q ([B false,wr18 rows d c e y z segs t u v A C D g i j k m])) (Cl prog 140 sgP ([wr18 rows d c e y z segs t u v A C D g i j k m,SL 1 l]) (λF=>ej8 F λl2 x3 x4 b x5 x6 a x7 x8 l4 l5 x9 G H J b1 l6 K=>((inR (wsub .i64 (rlen a) 1) a)∧(inR (wsub .i64 (rlen a) 1) a)∧ej5 (rget a (wsub .i64 (rlen a) 1)) λn o a0 p q r w=>((inR (wsub .i64 (rlen a) 1) (rset a (wsub .i64 (rlen a) 1) [I n,I o,I s,I p,I q,I r,B w]))∧ej5 (rget (rset a (wsub .i64 (rlen a) 1) [I n,I o,I s,I p,I q,I r,B w]) (wsub .i64 (rlen a) 1)) λL M N O a1 P b3=>(Q ([B true,wr18 l2 x3 x4 b x5 x6 (rset (rset a (wsub .i64 (rlen a) 1) [I n,I o,I s,I p,I q,I r,B w]) (wsub .i64 (rlen a) 1) [I L,I M,I N,I O,I E,I P,B b3]) x Y Z l5 x9 G H J b1 l6 K]))))))))):Ct prog 76 sgW [wr18 rows d c e y z segs t u v A C D g i j k m,ev7 s E R T U V W] Q:=
 fN SgT SvT func76 h
theorem jsync_nf{n:ByteArray}{Q:QQ}(h:Q ([SV.clo 150 ([SV.ref 0 [S n]])])):Ct prog 87 {} [S n] Q:=
 fN SgT SvT func87 h
theorem Zx1{n:ByteArray}{Q:QQ}(h:Q ([SV.clo 184 ([SV.ref 0 [S n]])])):Ct prog 116 {} [S n] Q:=
 fN SgT SvT func116 h
theorem jcut_nf{n:ByteArray}{k:Int}{Q:QQ}(h:Q ([SV.clo 186 ([SV.ref 0 [S n],SV.ref 0 [I k]])])):Ct prog 118 {} [S n,I k] Q:=
 fN SgT SvT func118 h
theorem Zx2{n:ByteArray}{Q:QQ}(h:Q ([SV.clo 206 ([SV.ref 0 [S n]])])):Ct prog 142 {} [S n] Q:=
 fN SgT SvT func142 h
theorem jwrite_nf{n:ByteArray}{bs:LL}{Q:QQ}(h:Q ([SV.clo 276 ([SV.ref 0 [S n],SV.ref 0 [SL 1 bs]])])):Ct prog 205 {} [S n,SL 1 bs] Q:=
 fN SgT SvT func205 h
theorem jsync1_nf{rows:LL}{c a:Int}{d:Bool}{n:ByteArray}{Q:QQ}(h:Cl prog 151 sP ([dk4 rows c a d,S n]) (λe=>ej1 e λl x g b i=>(Q ([dk4 l x g b,I i])))):Ct prog 150 {} [dk4 rows c a d,.ref 0 [S n]] Q:=
 fN SgT SvT func150 h
theorem Zsj{rows:LL}{c a:Int}{d:Bool}{n:ByteArray}{Q:QQ}(h:Cl prog 106 sP ([dk4 rows c a d,S n]) (λe=>ej1 e λl x g b i=>(Q ([dk4 l x g b,I i])))):Ct prog 184 {} [dk4 rows c a d,.ref 0 [S n]] Q:=
 fN SgT SvT func184 h
theorem jcut1_nf{rows:LL}{c a:Int}{d:Bool}{n:ByteArray}{k:Int}{Q:QQ}(h:Cl prog 33 sP ([dk4 rows c a d,S n,I k]) (λe=>ej1 e λl x g b i=>(Q ([dk4 l x g b,I i])))):Ct prog 186 {} [dk4 rows c a d,.ref 0 [S n],.ref 0 [I k]] Q:=
 fN SgT SvT func186 h
theorem Zsk{rows:LL}{c a:Int}{d:Bool}{n:ByteArray}{Q:QQ}(h:Cl prog 168 sP ([dk4 rows c a d,S n]) (λe=>ej1 e λl x g b i=>(Q ([dk4 l x g b,I i])))):Ct prog 206 {} [dk4 rows c a d,.ref 0 [S n]] Q:=
 fN SgT SvT func206 h
theorem Zx3{rows:LL}{c a:Int}{d:Bool}{n:ByteArray}{bs:LL}{Q:QQ}(h:Cl prog 169 sP ([dk4 rows c a d,S n,SL 1 bs]) (λe=>ej1 e λl x g b i=>(Q ([dk4 l x g b,I i])))):Ct prog 276 {} [dk4 rows c a d,.ref 0 [S n],.ref 0 [SL 1 bs]] Q:=
 fN SgT SvT func276 h
theorem Zsl{num bs g:Int}{q ev:LL}{i r:Int}{s:LL}{t u j:Int}{a k l:Int}{m n:LL}{b c:Int}{o:LL}{d p e:Int}{Q:QQ}(h:Q [B (bpick (bpick (bpick (ieq d 4) (ieq num (wadd .i64 a 1)) false) (ieq bs b) false) (ieq g c) false)]):Ct prog 181 {} [pt11 num bs g q ev i r s t u j,pt11 a k l m n b c o d p e] Q:=
 fN SgT SvT func181 h
theorem jrows_nf{rows:LL}{e c:Int}{g:Bool}{Q:QQ}(h:Cl prog 107 sP ([dk4 rows e c g]) (λU=>ej9 U λl=>(∃j:(LL)→(LL)→Int→Prop,∃m:(LL)→(LL)→Int→Nat,(j [] [] 0)∧∀a d x,(j a d x)→ifB (ilt x (rlen l)) ((inR x l)∧ej2 (rget l x) λs=>(Cl prog 179 sP [S s] (λA=>ej10 A λy=>(ifB (ieq y 0) ((sm ([[SL 3 rows,I e,I c,B g]]))∧(j a d (wadd .i64 x 1))∧Nat.le (Nat.succ (m a d (wadd .i64 x 1))) (m a d x)) (Cl prog 32 sP ([dk4 rows e c g,S s]) (λC=>ej7 C λt V=>(ifB (ine V 0) ((sm ([[SL 3 rows,I e,I c,B g]]))∧(j a d (wadd .i64 x 1))∧Nat.le (Nat.succ (m a d (wadd .i64 x 1))) (m a d x)) (Cl prog 180 sP [SL 1 t] (λD=>ej11 D λW X Y Z l5 x6 x7 l6 x8 z=>((((0:Int)≤0)∧((0:Int)≤z)∧z≤(rlen t))∧Cl prog 180 sP [SL 1 (rsub t 0 z)] (λE=>ej11 E λi k n u v o p w q r=>(ifB (bpick (bpick (ieq (rlen d) 0) (ieq i y) false) (igt (rlen a) 0) false) ((inR (wsub .i64 (rlen a) 1) a)∧(inR (wsub .i64 (rlen a) 1) a)∧ej3 (rget a (wsub .i64 (rlen a) 1)) λF G H J K L M N O P R=>(Cl prog 181 sP ([pt11 i k n u v o p w q r (rlen t),pt11 F G H J K L M N O P R]) (λT=>ej4 T λb=>(ifB b (((lsum (rlen a) (rlen ([[I i,I k,I n,SL 1 u,SL 7 v,I o,I p,SL 1 w,I q,I r,I (rlen t)]])))≤2147483648)∧(sm ([[SL 3 rows,I e,I c,B g]]))∧(j (rapp a ([[I i,I k,I n,SL 1 u,SL 7 v,I o,I p,SL 1 w,I q,I r,I (rlen t)]])) d (wadd .i64 x 1))∧Nat.le (Nat.succ (m (rapp a ([[I i,I k,I n,SL 1 u,SL 7 v,I o,I p,SL 1 w,I q,I r,I (rlen t)]])) d (wadd .i64 x 1))) (m a d x)) (((lsum (rlen d) (rlen ([[S s]])))≤2147483648)∧(sm ([[SL 3 rows,I e,I c,B g]]))∧(j a (rapp d ([[S s]])) (wadd .i64 x 1))∧Nat.le (Nat.succ (m a (rapp d ([[S s]])) (wadd .i64 x 1))) (m a d x)))))) (ifB (bpick (ieq (rlen d) 0) (ieq i y) false) (((lsum (rlen a) (rlen ([[I i,I k,I n,SL 1 u,SL 7 v,I o,I p,SL 1 w,I q,I r,I (rlen t)]])))≤2147483648)∧(sm ([[SL 3 rows,I e,I c,B g]]))∧(j (rapp a ([[I i,I k,I n,SL 1 u,SL 7 v,I o,I p,SL 1 w,I q,I r,I (rlen t)]])) d (wadd .i64 x 1))∧Nat.le (Nat.succ (m (rapp a ([[I i,I k,I n,SL 1 u,SL 7 v,I o,I p,SL 1 w,I q,I r,I (rlen t)]])) d (wadd .i64 x 1))) (m a d x)) (((lsum (rlen d) (rlen ([[S s]])))≤2147483648)∧(sm ([[SL 3 rows,I e,I c,B g]]))∧(j a (rapp d ([[S s]])) (wadd .i64 x 1))∧Nat.le (Nat.succ (m a (rapp d ([[S s]])) (wadd .i64 x 1))) (m a d x))))))))))))))) (Q [SL 11 a,SL 1 d])))):Ct prog 112 {} [dk4 rows e c g] Q:=
 fN SgT SvT func112 h
theorem jlook_nf{rows:LL}{i g:Int}{j:Bool}{Q:QQ}(h:Cl prog 112 sP ([dk4 rows i g j]) (λH=>ej12 H λl n=>(Cl prog 113 sP ([dk4 rows i g j]) (λy=>ej13 y λp x q J=>(ifB (ieq J 0) (ifB (igt (rlen l) 0) ((inR (wsub .i64 (rlen l) 1) l)∧ej3 (rget l (wsub .i64 (rlen l) 1)) λr t K u L w M N O P z=>(ifB (ilt w x) (∃k:(LL)→Int→Prop,∃m:(LL)→Int→Nat,(k [] 0)∧∀d a,(k d a)→ifB (ilt a (rlen l)) ((inR a l)∧ej3 (rget l a) λe o A v R C D T E F G=>(Cl prog 88 sP [I e] (λc=>ej2 c λs=>(((lsum (rlen d) (rlen ([[S s]])))≤2147483648)∧(sm ([[SL 21 p,I x,I q],[SL 11 l,SL 1 n,I x,SL 21 p,I x,I q,B false],[SV.slice 11 [] 1,SV.slice 1 [] 1,I 0,SV.slice 21 [] 1,I 0,I 0,B false],[SL 3 rows,I i,I g,B j]]))∧(k (rapp d ([[S s]])) (wadd .i64 a 1))∧Nat.le (Nat.succ (m (rapp d ([[S s]])) (wadd .i64 a 1))) (m d a))))) (((lsum (rlen d) (rlen n))≤2147483648)∧Cl prog 114 sP ([SL 11 [],st3 p x q]) (λc=>ej14 c λv e o b=>(Q ([fd7 [] (rapp d n) x v e o b]))))) (Cl prog 114 sP ([SL 11 l,st3 p x q]) (λc=>ej14 c λd a e b=>(Q ([fd7 l n x d a e b])))))) (Cl prog 114 sP ([SL 11 l,st3 p x q]) (λc=>ej14 c λu r t b=>(Q ([fd7 l n x u r t b]))))) (ifB (igt (rlen l) 0) ((inR (wsub .i64 (rlen l) 1) l)∧ej3 (rget l (wsub .i64 (rlen l) 1)) λr t K u L w M N O P z=>(ifB (ilt w 0) (∃k:(LL)→Int→Prop,∃m:(LL)→Int→Nat,(k [] 0)∧∀d a,(k d a)→ifB (ilt a (rlen l)) ((inR a l)∧ej3 (rget l a) λe o A v R C D T E F G=>(Cl prog 88 sP [I e] (λc=>ej2 c λs=>(((lsum (rlen d) (rlen ([[S s]])))≤2147483648)∧(sm ([[SL 21 p,I x,I q],[SL 11 l,SL 1 n,I 0,SV.slice 21 [] 1,I 0,I 0,B false],[SV.slice 11 [] 1,SV.slice 1 [] 1,I 0,SV.slice 21 [] 1,I 0,I 0,B false],[SL 3 rows,I i,I g,B j]]))∧(k (rapp d ([[S s]])) (wadd .i64 a 1))∧Nat.le (Nat.succ (m (rapp d ([[S s]])) (wadd .i64 a 1))) (m d a))))) (((lsum (rlen d) (rlen n))≤2147483648)∧Cl prog 114 sP ([SL 11 [],st3 [] 0 0]) (λc=>ej14 c λv e o b=>(Q ([fd7 [] (rapp d n) 0 v e o b]))))) (Cl prog 114 sP ([SL 11 l,st3 [] 0 0]) (λc=>ej14 c λd a e b=>(Q ([fd7 l n 0 d a e b])))))) (Cl prog 114 sP ([SL 11 l,st3 [] 0 0]) (λc=>ej14 c λu r t b=>(Q ([fd7 l n 0 u r t b])))))))))):Ct prog 51 {} [dk4 rows i g j] Q:=
 fN SgT SvT func51 h
theorem jopen_nf{rows:LL}{d a:Int}{c:Bool}{e g:Int}{Q:QQ}(h:Cl prog 46 sP ([dk4 rows d a c]) (λy=>ej4 y λb=>(ifB (bnot b) (Q ([jr16 rows d a c 0 0 [] 0 0 [] [] 0 0 0 0 false,I 1])) (Cl prog 50 sP ([SV.agg [I e,I g]]) (λj=>ej4 j λz=>(ifB (bnot z) (Q ([jr16 rows d a c 0 0 [] 0 0 [] [] 0 0 0 0 false,I 1])) (ifB c (Q ([jr16 rows d a c 0 0 [] 0 0 [] [] 0 0 0 0 false,I 16])) (Cl prog 51 sP ([dk4 rows d a c]) (λk=>ej15 k λl A x m i n o=>(ifB (bnot o) (Q ([jr16 rows d a c 0 0 [] 0 0 [] [] 0 0 0 0 false,I 11])) (Cl prog 53 sP ([fd7 l A x m i n o]) (λp=>ej9 p λC=>(Cl prog 52 sP ([dk4 rows d a c,SL 1 C]) (λq=>ej1 q λr s t b3 u=>(ifB (ine u 0) (Q ([jr16 r s t b3 0 0 [] 0 0 [] [] 0 0 0 0 false,I u])) (Cl prog 54 sP [SL 11 l] (λv=>ej16 v λD=>(Cl prog 55 sP [SL 11 l] (λw=>ej17 w λE F G=>(Q ([jr16 r s t b3 e g D E F G m i n i x false,I 0]))))))))))))))))))))):Ct prog 13 {} [dk4 rows d a c,.agg [I e,I g]] Q:=
 fN SgT SvT func13 h
theorem jright_nf{rows:LL}{d a:Int}{c:Bool}{o p:Int}{segs:LL}{q r:Int}{s t:LL}{n u e g:Int}{j:Bool}{Q:QQ}(h:Cl prog 50 sP ([SV.agg [I o,I p]]) (λR=>ej4 R λb=>(ifB (bnot b) (Q [B false]) (Cl prog 46 sP ([dk4 rows d a c]) (λv=>ej4 v λT=>(ifB (bpick (bnot T) true c) (Q [B false]) (Cl prog 51 sP ([dk4 rows d a c]) (λw=>ej15 w λl y x z A C D=>(ifB (bpick (bnot D) true (igt (rlen y) 0)) (Q [B false]) (∃k:Bool→Int→Prop,∃m:Bool→Int→Nat,(k false 0)∧∀b3 i,(k b3 i)→ifB (ilt i (rlen l)) ((inR i l)∧ej3 (rget l i) λE F W G H X Y Z x9 J K=>(ifB (igt K J) (Q [B false]) ((sm ([[SL 11 l,SL 1 y,I x,SL 21 z,I A,I C,B D],[SL 3 rows,I d,I a,B c,I o,I p,SL 7 segs,I q,I r,SL 1 s,SL 21 t,I n,I u,I e,I g,B j]]))∧(k b3 (wadd .i64 i 1))∧Nat.le (Nat.succ (m b3 (wadd .i64 i 1))) (m b3 i)))) (Cl prog 54 sP [SL 11 l] (λL=>ej16 L λG=>(Cl prog 57 sP [SL 7 segs,SL 7 G] (λM=>ej4 M λU=>(ifB (bnot U) (Q [B false]) (Cl prog 55 sP [SL 11 l] (λN=>ej17 N λE F H=>(Cl prog 58 sP ([cx3 q r s,cx3 E F H]) (λO=>ej4 O λb5=>(ifB (bnot b5) (Q [B false]) (Cl prog 36 sP ([st3 t n u,st3 z A C]) (λP=>ej4 P λV=>(ifB (bpick (bnot V) true (ine g x)) (Q [B false]) (Q [B (bpick (ige e g) (ile e n) false)])))))))))))))))))))))))):Ct prog 17 {} [jr16 rows d a c o p segs q r s t n u e g j] Q:=
 fN SgT SvT func17 h
theorem Zx4{rows:LL}{c a:Int}{d:Bool}{p q:Int}{segs:LL}{r s:Int}{t n:LL}{j o g i:Int}{e:Bool}{es P R:Int}{T:ByteArray}{U V W:Int}{Q:QQ}(h:Cl prog 68 sP ([jr16 rows c a d p q segs r s t n j o g i e]) (λrs=>ej10 rs λx=>(ifB (ine x 0) (Q ([jr16 rows c a d p q segs r s t n j o g i e,I x])) (Cl prog 69 sP ([st3 n j o,ev7 (wadd .i64 j 1) P R T U V W]) (λb0=>ej13 b0 λl x1 x2 x3=>(ifB (ine x3 0) (Q ([jr16 rows c a d p q segs r s t n j o g i e,I x3])) (ifB e (Q ([jr16 rows c a d p q segs r s t n j o g i e,I 13])) (Cl prog 70 sO [SL 7 segs] (λba=>ej16 ba λl1=>(∃az:Bool→(LL)→Int→Int→Bool→Int→Int→(LL)→Int→Int→(LL)→(LL)→Int→Int→Int→Int→Bool→(LL)→Int→Prop,∃m:Bool→(LL)→Int→Int→Bool→Int→Int→(LL)→Int→Int→(LL)→(LL)→Int→Int→Int→Int→Bool→(LL)→Int→Nat,(Cl prog 71 sP ([jr16 rows c a d p q segs r s t n j o g i e,ev7 (wadd .i64 j 1) P R T U V W]) (λu=>ej4 u λb=>(ifB b (Cl prog 72 sgW ([wr18 rows c a d p q l1 r s t n j o g i e [] 0]) (λv=>ej18 v λb1 l2 x4 x5 b2 x6 x7 l3 x8 x9 l4 l5 a8 a9 aa ab b3 l6 ac=>((sm ([[SL 3 rows,I c,I a,B d,I p,I q,SL 7 segs,I r,I s,SL 1 t,SL 21 n,I j,I o,I g,I i,B e],[I (wadd .i64 j 1),I P,I R,S T,I U,I V,I W],[SV.slice 3 [] 1,I 0,I 0,B false,I 0,I 0,SV.slice 7 [] 1,I 0,I 0,SV.slice 1 [] 1,SV.slice 21 [] 1,I 0,I 0,I 0,I 0,B false],[SL 21 l,I x1,I x2]]))∧az (bnot b1) l2 x4 x5 b2 x6 x7 l3 x8 x9 l4 l5 a8 a9 aa ab b3 l6 ac))) ((sm ([[SL 3 rows,I c,I a,B d,I p,I q,SL 7 segs,I r,I s,SL 1 t,SL 21 n,I j,I o,I g,I i,B e],[I (wadd .i64 j 1),I P,I R,S T,I U,I V,I W],[SV.slice 3 [] 1,I 0,I 0,B false,I 0,I 0,SV.slice 7 [] 1,I 0,I 0,SV.slice 1 [] 1,SV.slice 21 [] 1,I 0,I 0,I 0,I 0,B false],[SL 21 l,I x1,I x2]]))∧az false rows c a d p q l1 r s t n j o g i e [] 0))))∧∀b l2,∀x4 x5,∀b1 x6,∀x7 l3,∀x8 x9,∀l4 l5,∀a8 a9,∀aa ab,∀b2 l6 ac,(az b l2 x4 x5 b1 x6 x7 l3 x8 x9 l4 l5 a8 a9 aa ab b2 l6 ac)→ifB b (Cl prog 73 sP ([jr16 rows c a d p q segs r s t n j o g i e]) (λu=>ej19 u λl7 w y b3 z A l8 C D l9 E F G H J b4 K=>(Q ([jr16 l7 w y b3 z A l8 C D l9 E F G H J b4,I K])))) (∃a7:Bool→(LL)→Int→Int→Bool→Int→Int→(LL)→Int→Int→(LL)→(LL)→Int→Int→Int→Int→Bool→(LL)→Int→Prop,∃m1:Bool→(LL)→Int→Int→Bool→Int→Int→(LL)→Int→Int→(LL)→(LL)→Int→Int→Int→Int→Bool→(LL)→Int→Nat,(Cl prog 74 sgW ([wr18 l2 x4 x5 b1 x6 x7 l3 x8 x9 l4 l5 a8 a9 aa ab b2 l6 ac]) (λu=>ej18 u λb3 l7 w y b4 z A l8 C D l9 E F G H J b5 X K=>(ifB (bnot b3) (Cl prog 75 sgW ([wr18 l7 w y b4 z A l8 C D l9 E F G H J b5 X K]) (λv=>ej18 v λb6 ad ae af b7 Y Z a0 a1 a2 a3 ag ah ai a4 a5 b8 aj a6=>((sm ([[SL 3 rows,I c,I a,B d,I p,I q,SL 7 segs,I r,I s,SL 1 t,SL 21 n,I j,I o,I g,I i,B e],[I (wadd .i64 j 1),I P,I R,S T,I U,I V,I W],[SV.slice 3 [] 1,I 0,I 0,B false,I 0,I 0,SV.slice 7 [] 1,I 0,I 0,SV.slice 1 [] 1,SV.slice 21 [] 1,I 0,I 0,I 0,I 0,B false],[SL 21 l,I x1,I x2]]))∧a7 (bnot b6) ad ae af b7 Y Z a0 a1 a2 a3 ag ah ai a4 a5 b8 aj a6))) ((sm ([[SL 3 rows,I c,I a,B d,I p,I q,SL 7 segs,I r,I s,SL 1 t,SL 21 n,I j,I o,I g,I i,B e],[I (wadd .i64 j 1),I P,I R,S T,I U,I V,I W],[SV.slice 3 [] 1,I 0,I 0,B false,I 0,I 0,SV.slice 7 [] 1,I 0,I 0,SV.slice 1 [] 1,SV.slice 21 [] 1,I 0,I 0,I 0,I 0,B false],[SL 21 l,I x1,I x2]]))∧a7 false l7 w y b4 z A l8 C D l9 E F G H J b5 X K))))∧∀b3 l7,∀w y,∀b4 z,∀A l8,∀C D,∀l9 E,∀F G,∀H J,∀b5 X K,(a7 b3 l7 w y b4 z A l8 C D l9 E F G H J b5 X K)→ifB b3 (Cl prog 73 sP ([jr16 rows c a d p q segs r s t n j o g i e]) (λu=>ej19 u λad ae af b6 Y Z a0 a1 a2 a3 ag ah ai a4 a5 b7 a6=>(Q ([jr16 ad ae af b6 Y Z a0 a1 a2 a3 ag ah ai a4 a5 b7,I a6])))) (Cl prog 76 sgW ([wr18 l7 w y b4 z A l8 C D l9 E F G H J b5 X K,ev7 (wadd .i64 j 1) P R T U V W]) (λu=>ej18 u λb6 ad ae af b7 Y Z a0 a1 a2 a3 ag ah ai a4 a5 b8 aj a6=>(ifB (bnot b6) (Cl prog 73 sP ([jr16 rows c a d p q segs r s t n j o g i e]) (λv=>ej19 v λL ak M b9 N O al am an ao ap aq ar au av aw ax=>(Q ([jr16 L ak M b9 N O al am an ao ap aq ar au av aw,I ax])))) (Cl prog 77 sP ([dk4 rows c a d]) (λv=>ej10 v λak=>(ifB (igt (wadd .i64 ak a6) c) (Cl prog 73 sP ([jr16 rows c a d p q segs r s t n j o g i e]) (λay=>ej19 ay λL M N b9 O am al an aq ao ap ar au av ax aw bb=>(Q ([jr16 L M N b9 O am al an aq ao ap ar au av ax aw,I bb])))) (Cl prog 52 sP ([dk4 rows c a d,SL 1 aj]) (λay=>ej1 ay λL M N b9 O=>(ifB (ine O 0) (Q ([jr16 L M N b9 p q segs r s t n j o g i e,I O])) (Q ([jr16 L M N b9 Y Z a0 a1 a2 a3 l x1 x2 a4 a5 b8,I 0])))))))))))))))))))))):Ct prog 20 {} [jr16 rows c a d p q segs r s t n j o g i e,ev7 es P R T U V W] Q:=
 fO SgT SvT (λk=>bif Nat.beq k 1000012 then some {slots:=[(49,false,[.bool])],boxes:=[(1152,[.sl 3,.int .i64,.int .i64,.bool,.int .i64,.int .i64,.own 7,.int .i64,.int .i64,.sl 1,.sl 21,.int .i64,.int .i64,.int .i64,.int .i64,.bool,.own 1,.int .i64])],fixed:=[256,384,512,896]}else bif Nat.beq k 1000014 then some {slots:=[(59,false,[.bool])],boxes:=[(1152,[.sl 3,.int .i64,.int .i64,.bool,.int .i64,.int .i64,.own 7,.int .i64,.int .i64,.sl 1,.sl 21,.int .i64,.int .i64,.int .i64,.int .i64,.bool,.own 1,.int .i64])],fixed:=[256,384,512,896]}else none) func20 h
theorem jsyn_nf{rows:LL}{c a:Int}{d:Bool}{r t:Int}{segs:LL}{u v:Int}{w y:LL}{j z i e:Int}{g:Bool}{Q:QQ}(h:Cl prog 68 sP ([jr16 rows c a d r t segs u v w y j z i e g]) (λL=>ej10 L λx=>(ifB (ine x 0) (Q ([jr16 rows c a d r t segs u v w y j z i e g,I x])) (ifB (igt (rlen segs) 0) ((inR (wsub .i64 (rlen segs) 1) segs)∧ej5 (rget segs (wsub .i64 (rlen segs) 1)) λP R T U V W b=>(ifB (bnot b) (∃C:Int→(LL)→Int→Int→Bool→Prop,∃m:Int→(LL)→Int→Int→Bool→Nat,((inR (wsub .i64 (rlen segs) 1) segs)∧ej5 (rget segs (wsub .i64 (rlen segs) 1)) λF H J M N O K=>((Cl prog 88 sP [I F] (λG=>ej2 G λs=>((Cl prog 87 sP [S s] (λE=>ej0 E λf A=>(((Cl prog 52 sP ([dk4 rows c a d,SL 1 ([[SV.clo f A]])]) (λn=>ej1 n λl o p D q=>((sm ([[SL 3 rows,I c,I a,B d,I r,I t,SL 7 segs,I u,I v,SL 1 w,SL 21 y,I j,I z,I i,I e,B g],[SV.slice 3 [] 1,I 0,I 0,B false,I 0,I 0,SV.slice 7 [] 1,I 0,I 0,SV.slice 1 [] 1,SV.slice 21 [] 1,I 0,I 0,I 0,I 0,B false]]))∧C q l o p D)))∧Cl prog 52 sP ([dk4 rows c a d,SL 1 ([[SV.clo f A]])]) (λn=>ej1 n λl o p D q=>((sm ([[SL 3 rows,I c,I a,B d,I r,I t,SL 7 segs,I u,I v,SL 1 w,SL 21 y,I j,I z,I i,I e,B g],[SV.slice 3 [] 1,I 0,I 0,B false,I 0,I 0,SV.slice 7 [] 1,I 0,I 0,SV.slice 1 [] 1,SV.slice 21 [] 1,I 0,I 0,I 0,I 0,B false]]))∧C q l o p D)))∧Cl prog 52 sP ([dk4 rows c a d,SL 1 ([[SV.clo f A]])]) (λn=>ej1 n λl o p D q=>((sm ([[SL 3 rows,I c,I a,B d,I r,I t,SL 7 segs,I u,I v,SL 1 w,SL 21 y,I j,I z,I i,I e,B g],[SV.slice 3 [] 1,I 0,I 0,B false,I 0,I 0,SV.slice 7 [] 1,I 0,I 0,SV.slice 1 [] 1,SV.slice 21 [] 1,I 0,I 0,I 0,I 0,B false]]))∧C q l o p D)))))∧Cl prog 87 sP [S s] (λE=>ej0 E λf A=>(Cl prog 52 sP ([dk4 rows c a d,SL 1 ([[SV.clo f A]])]) (λn=>ej1 n λl o p D q=>((sm ([[SL 3 rows,I c,I a,B d,I r,I t,SL 7 segs,I u,I v,SL 1 w,SL 21 y,I j,I z,I i,I e,B g],[SV.slice 3 [] 1,I 0,I 0,B false,I 0,I 0,SV.slice 7 [] 1,I 0,I 0,SV.slice 1 [] 1,SV.slice 21 [] 1,I 0,I 0,I 0,I 0,B false]]))∧C q l o p D)))))))∧Cl prog 88 sP [I F] (λG=>ej2 G λs=>(Cl prog 87 sP [S s] (λE=>ej0 E λf A=>(Cl prog 52 sP ([dk4 rows c a d,SL 1 ([[SV.clo f A]])]) (λn=>ej1 n λl o p D q=>((sm ([[SL 3 rows,I c,I a,B d,I r,I t,SL 7 segs,I u,I v,SL 1 w,SL 21 y,I j,I z,I i,I e,B g],[SV.slice 3 [] 1,I 0,I 0,B false,I 0,I 0,SV.slice 7 [] 1,I 0,I 0,SV.slice 1 [] 1,SV.slice 21 [] 1,I 0,I 0,I 0,I 0,B false]]))∧C q l o p D))))))))∧∀F l,∀H J K,(C F l H J K)→ifB (ine F 0) (Q ([jr16 l H J K r t segs u v w y j z i e g,I F])) (Q ([jr16 l H J K r t segs u v w y j z j e g,I 0]))) (Q ([jr16 rows c a d r t segs u v w y j z j e g,I 0])))) (Q ([jr16 rows c a d r t segs u v w y j z j e g,I 0])))))):Ct prog 22 {} [jr16 rows c a d r t segs u v w y j z i e g] Q:=
 fO SgT SvT (λk=>bif Nat.beq k 1000006 then some {slots:=[(7,false,[.int .i64])],boxes:=[(768,[.sl 3,.int .i64,.int .i64,.bool])],fixed:=[128,256],ptrs:=[(6,768)]}else none) func22 h
theorem Zx5{rows:LL}{c a:Int}{d:Bool}{o p:Int}{segs:LL}{q r:Int}{s t:LL}{u v e g:Int}{i:Bool}{Q:QQ}(h:Cl prog 17 sP ([jr16 rows c a d o p segs q r s t u v e g i]) (λz=>ej4 z λb=>(ifB (bnot b) (Q ([SL 7 []])) (Cl prog 51 sP ([dk4 rows c a d]) (λy=>ej15 y λl D x E F G H=>(∃n:(LL)→Int→Prop,∃m:(LL)→Int→Nat,(n [] 0)∧∀k j,(n k j)→ifB (ilt j (rlen l)) ((inR j l)∧ej3 (rget l j) λJ K L M w N O P R A C=>(((lsum (rlen k) (rlen w))≤2147483648)∧(sm ([[SL 3 rows,I c,I a,B d,I o,I p,SL 7 segs,I q,I r,SL 1 s,SL 21 t,I u,I v,I e,I g,B i]]))∧(n (rapp k w) (wadd .i64 j 1))∧Nat.le (Nat.succ (m (rapp k w) (wadd .i64 j 1))) (m k j))) (Q [SL 7 k]))))))):Ct prog 15 {} [jr16 rows c a d o p segs q r s t u v e g i] Q:=
 fN SgT SvT func15 h
theorem jnum_nf{n:ByteArray}{Q:QQ}(h:Cl prog 178 sP ([S n,S (bA [115,101,103,46])]) (λe=>ej20 e λs b=>(ifB (bpick (bnot b) true (ine (slen s) 8)) (Q [I 0]) (Cl prog 253 sP [S s,I 10,I 64] (λc=>∃x g,ifB g ((c=[I x,SV.val Value.nilIface])∧(isIfc (SV.val Value.nilIface)=true)∧ifB (bpick (Bool.rec true false (Zhy (SV.val Value.nilIface))) true (ilt x 1)) (Q [I 0]) (Cl prog 88 sP [I x] (λa=>ej2 a λd=>(ifB (sne d n) (Q [I 0]) (Q [I x]))))) (∃i,(c=[I x,SV.ifc i SV.unk])∧(isIfc (SV.ifc i SV.unk)=true)∧ifB (bpick (Bool.rec true false (Zhy (SV.ifc i SV.unk))) true (ilt x 1)) (Q [I 0]) (Cl prog 88 sP [I x] (λa=>ej2 a λd=>(ifB (sne d n) (Q [I 0]) (Q [I x])))))))))):Ct prog 179 {} [S n] Q:=
 fN SgT SvT func179 h
theorem Zx6{row:LL}{E:LL}{s a:Int}{Q:QQ}(h:ifB (ieq (rlen row) 0) (Q ([st3 E s a,B true])) ((inR 0 row)∧ej3 (rget row 0) λx T W l X Y Z l2 x5 x6 x7=>(ifB (igt T s) (Q ([st3 E s a,B false])) (∃A:Int→(LL)→Int→Int→Prop,∃m:Int→(LL)→Int→Int→Nat,(A 0 E s a)∧∀n C,∀D e,(A n C D e)→ifB (ilt n (rlen row)) ((inR n row)∧ej3 (rget row n) λr o t H j p q J u v w=>(ifB (ine (rlen j) (wsub .i64 p o)) (Q ([st3 C D e,B false])) (∃g:Int→(LL)→Int→Int→Prop,∃F:Int→(LL)→Int→Int→Nat,(g 0 C D e)∧∀b i,∀c d,(g b i c d)→ifB (ilt b (rlen j)) ((inR b j)∧ej21 (rget j b) λG L M U N O P=>(ifB (ile G s) ((sm ([[SV.slice 21 [] 1,I 0,I 0],[I r,I o,I t,SL 1 H,SL 7 j,I p,I q,SL 1 J,I u,I v,I w]]))∧(g (wadd .i64 b 1) i c d)∧Nat.le (Nat.succ (F (wadd .i64 b 1) i c d)) (F b i c d)) (Cl prog 69 sP ([st3 i c d,ev7 G L M U N O P]) (λV=>ej13 V λK y z R=>(ifB (ine R 0) (Q ([st3 K y z,B false])) ((sm ([[SV.slice 21 [] 1,I 0,I 0],[I r,I o,I t,SL 1 H,SL 7 j,I p,I q,SL 1 J,I u,I v,I w]]))∧(g (wadd .i64 b 1) K y z)∧Nat.le (Nat.succ (F (wadd .i64 b 1) K y z)) (F b i c d))))))) ((sm ([[SV.slice 21 [] 1,I 0,I 0]]))∧(A (wadd .i64 n 1) i c d)∧Nat.le (Nat.succ (m (wadd .i64 n 1) i c d)) (m n C D e))))) ((inR (wsub .i64 (rlen row) 1) row)∧ej3 (rget row (wsub .i64 (rlen row) 1)) λr o t H j p q J u v w=>(Q ([st3 C D e,B (ieq q e)]))))))):Ct prog 114 {} [SL 11 row,st3 E s a] Q:=
 fO SgT SvT (λk=>bif Nat.beq k 30 then some {slots:=[(29,false,[.int .i64])],boxes:=[(384,[.sl 21,.int .i64,.int .i64])],fixed:=[512]}else bif Nat.beq k 53 then some {slots:=[(52,false,[.int .i64])],boxes:=[(384,[.sl 21,.int .i64,.int .i64])],fixed:=[512,1024]}else none) func114 h
theorem segeq_nf{a b:LL}{Q:QQ}(h:ifB (ine (rlen a) (rlen b)) (Q [B false]) (∃c:Bool→Int→Prop,∃m:Bool→Int→Nat,(c false 0)∧∀d x,(c d x)→ifB (ilt x (rlen a)) ((inR x a)∧ej5 (rget a x) λj k l n o p q=>((inR x b)∧ej5 (rget b x) λr s t e g i b3=>(ifB (bnot (band (ieq j r) (band (ieq k s) (band (ieq l t) (band (ieq n e) (band (ieq o g) (band (ieq p i) (band (beqB q b3) true)))))))) (Q [B false]) (((Option.some []:Option (LL))=Option.some [])∧(c d (wadd .i64 x 1))∧Nat.le (Nat.succ (m d (wadd .i64 x 1))) (m d x))))) (Q [B true]))):Ct prog 57 {} [SL 7 a,SL 7 b] Q:=
 fN SgT SvT func57 h
theorem streq_nf{a b:LL}{Q:QQ}(h:ifB (ine (rlen a) (rlen b)) (Q [B false]) (∃c:Bool→Int→Prop,∃m:Bool→Int→Nat,(c false 0)∧∀d x,(c d x)→ifB (ilt x (rlen a)) ((inR x a)∧ej2 (rget a x) λs=>((inR x b)∧ej2 (rget b x) λe=>(ifB (sne s e) (Q [B false]) (((Option.some []:Option (LL))=Option.some [])∧(c d (wadd .i64 x 1))∧Nat.le (Nat.succ (m d (wadd .i64 x 1))) (m d x))))) (Q [B true]))):Ct prog 120 {} [SL 1 a,SL 1 b] Q:=
 fN SgT SvT func120 h
theorem segcl_nf{a:LL}{Q:QQ}(h:∀b,((b=true)→rlen a=0)→ifB b (Q ([SL 7 []])) (((lsum (rlen []) (rlen a))≤2147483648)∧Q ([SL 7 (rapp [] a)]))):Ct prog 70 ⟨[],[.own]⟩ [SL 7 a] Q:=
 fN SgT SvT func70 h
theorem backs_nf{a:LL}{Q:QQ}(h:Q ([SV.clo 183 ([SV.ref 0 [SL 1 a]])])):Ct prog 115 {} [SL 1 a] Q:=
 fN SgT SvT func115 h
theorem backp_nf{a:LL}{Q:QQ}(h:Q ([SV.clo 185 ([SV.ref 0 [SL 11 a]])])):Ct prog 117 {} [SL 11 a] Q:=
 fN SgT SvT func117 h
theorem jshut_nf{rows:LL}{b a:Int}{c:Bool}{i j:Int}{segs:LL}{k l:Int}{m n:LL}{o p d e:Int}{g:Bool}{Q:QQ}(h:Q ([jr16 rows b a c i j segs k l m n o p d e true,I 13])):Ct prog 73 {} [jr16 rows b a c i j segs k l m n o p d e g] Q:=
 fN SgT SvT func73 h
end Jou
namespace Jou
open Go Go.Px Go.Proofs Cod Seg Sgr Snp Sx Row Dsk Tryz
theorem inM{a:Type}(g:a→List SV){l:List a}{x:Int}(b:0≤x)(h:x<l.length):inR x (l.map g):=⟨b,by simpa using h⟩
def Stp.row:Stp→List SV
 | .cre s=>[.clo 206 [.ref 0 [S s]]]
 | .wri s x=>[.clo 276 [.ref 0 [S s],.ref 0 [SL 1 (uR x)]]]
 | .syn s=>[.clo 150 [.ref 0 [S s]]]
 | .rem s=>[.clo 184 [.ref 0 [S s]]]
 | .cut s n=>[.clo 186 [.ref 0 [S s],.ref 0 [I n]]]
def Stp.ok:Stp→Prop
 | .wri s x=>x.length≤9223372036854775807
 |_=>True
abbrev tR(l:List Stp):List (List SV):=l.map Stp.row
theorem run_ok{s:Stp}{d:DiD}(h:d.ok):(s.run d).1.ok:=by
 have hst:(s.run d).1.st≤d.st:=by
  cases s
  ·exact Zsp
  ·exact Zsq
  ·exact Zqm
  ·exact Zlo
  ·exact Zvg
 by_cases hP:d.P
 ·have a:(s.run d).1.P:=by
   cases s
   ·exact Znc hP
   ·exact Znd hP
   ·exact Zj8 hP
   ·exact Zi2 hP
   ·exact Zsr hP
  obtain⟨b,c,e,f⟩:=a;exact⟨by omega,by omega,by have:=h.2.2;omega⟩
 ·have:(s.run d).1=d:=by
   cases s<;>simp only[Stp.run,Zbf,Zaw,Za3,Za4,opCut,DiD.er,if_neg hP]<;>rfl
  rw[this];exact h
theorem run_fn(s:Stp)(b:s.ok)(d:DiD)(h:d.ok):∃f a,s.row=[.clo f a]∧Ct prog f {} (d.sv::a) (λr=>r=[(s.run d).1.sv,I (s.run d).2]):=by
 cases s with
 |cre s=>exact⟨_,_,rfl,Zsk (Cl.of (Zw4 d h s) ⟨_,_,_,_,_,rfl,rfl⟩)⟩
 |wri s x=>exact⟨_,_,rfl,Zx3 (Cl.of (Zw5 d h s x b) ⟨_,_,_,_,_,rfl,rfl⟩)⟩
 |syn s=>exact⟨_,_,rfl,jsync1_nf (Cl.of (dsync_fn d h s) ⟨_,_,_,_,_,rfl,rfl⟩)⟩
 |rem s=>exact⟨_,_,rfl,Zsj (Cl.of (Zw6 d h s) ⟨_,_,_,_,_,rfl,rfl⟩)⟩
 |cut s n=>exact⟨_,_,rfl,jcut1_nf (Cl.of (dcut_fn d h s n) ⟨_,_,_,_,_,rfl,rfl⟩)⟩
theorem Zrz(d:DiD)(o:d.ok)(c:List Stp)(p:∀s∈c,s.ok)(t:c.length≤1000000):Ct prog 52 {} [d.sv,SL 1 (tR c)] (λr=>r=[(runP d c).1.sv,I (runP d c).2]):=by
 refine jrun_nf ⟨λx l k m b=>∃g:DiD,g.ok∧l=fR g.fs∧k=g.rm∧m=g.st∧b=g.dn∧0≤x∧x≤c.length∧runP g (c.drop x.toNat)=runP d c,λx _ _ _ _=>(c.length-x).toNat,⟨d,o,rfl,rfl,rfl,rfl,by omega,by omega,by simp⟩,?_⟩;rintro x l k m b ⟨g,hd',rfl,rfl,rfl,rfl,x0,hx,he⟩;have n:rlen (tR c)=c.length:=(by simp);rw[n];refine Zaa (λh=>?_) (λh=>?_)
 ·simp at h;have j:x.toNat<c.length:=(by omega);rw[List.drop_eq_getElem_cons j,runP]at he;obtain⟨f,q,e1,e2⟩:=run_fn c[x.toNat] (p _ (List.getElem_mem j)) g hd';refine⟨inM _ x0 h,f,q,(Za9 _ _ _ x0 h).trans e1,Cl.of e2 ⟨_,_,_,_,_,rfl,Zaa (λi=>?_) (λi=>⟨rfl,?_,?_⟩)⟩⟩
  ·simp at i;rw[if_pos i]at he;rw[←he]
  ·simp at i;rw[if_neg (by simpa using i)]at he;rw[Zac (by omega) (by omega)];exact⟨_,run_ok hd',rfl,rfl,rfl,rfl,by omega,by omega,by rw[show(x+1).toNat=x.toNat+1 by omega];exact he⟩
  ·rw[Zac (by omega) (by omega)];exact mlt (by first|omega|(dsimp only;omega))
 ·simp at h;have e:x.toNat=c.length:=(by omega);rw[e,List.drop_length,runP]at he;rw[←he]
def SgD.row(p:SgD):List SV:=[I p.num,I p.fi,I p.la,I p.fr,I p.ti,I p.sz,B p.sl]
abbrev sgR(l:List SgD):List (List SV):=l.map SgD.row
abbrev CxD.sv(c:CxD):SV:=cx3 c.s c.a (nR c.m)
def ptRow(p:Pt):List SV:=[I p.d.num,I p.d.bs,I p.d.ba,SL 1 [],SL 7 (evR p.d.ev),I p.d.s,I p.d.a,SL 1 (nR p.d.m),I (endW 1 p.d.sl),I ((segL p.d).length:Nat),I (p.n:Nat)]
abbrev ptR(l:List Pt):List (List SV):=l.map ptRow
theorem Zmz(b:Bool):decide (endW 1 b=4)=b:=by cases b<;>rfl
theorem Zfu{l:List Pt}{i:Nat}(h:i<l.length):rget (ptR l) (i:Int)=ptRow l[i]:=by simp[rget,h]
theorem Zuk(r:List Pt)(d:r.length≤1000000):Ct prog 54 {} [SL 11 (ptR r)] (λx=>x=[SL 7 (sgR (r.map sgOf))]):=by
 refine jsegs_nf ⟨λl x=>0≤x∧x≤r.length∧l=sgR ((r.take x.toNat).map sgOf),λ_ x=>(r.length-x).toNat,⟨by omega,by omega,by simp⟩,?_⟩;rintro l x ⟨x0,hx,rfl⟩;have a:rlen (ptR r)=r.length:=(by simp);rw[a];refine Zaa (λh=>?_) (λh=>?_)
 ·simp at h;have b:x.toNat<r.length:=(by omega);have c:r.take (x+1).toNat=r.take x.toNat++[r[x.toNat]]:=(by rw[show(x+1).toNat=x.toNat+1 by omega,List.take_succ_eq_append_getElem b]);refine⟨inM _ x0 h,_,_,_,_,_,_,_,_,_,_,_,Za9 ptRow r x x0 h,?_,rfl,?_,?_⟩
  ·simp;omega
  ·rw[Zac (by omega) (by omega)];refine⟨by omega,by omega,?_⟩;rw[c];simp only[List.map_append,List.map_cons,List.map_nil,rapp,sgOf,SgD.row,ieq_eq,Zmz]
  ·rw[Zac (by omega) (by omega)];exact mlt (by first|omega|(dsimp only;omega))
 ·simp at h;have e:x.toNat=r.length:=(by omega);rw[e,Yb]
theorem Zp2(r:List Pt)(g:r.length≤1000000):Ct prog 55 {} [SL 11 (ptR r)] (λx=>x=[(Zbl r).sv]):=by
 refine jahead_nf ?_;have c:rlen (ptR r)=r.length:=(by simp);rw[c];refine Zaa (λh=>?_) (λh=>?_)
 ·simp at h;subst h;rfl
 ·simp at h;have i:0<r.length:=Wt.2 h;have b:r.length-1<r.length:=(by omega);have e:wsub IntKind.i64 (r.length:Int) 1=((r.length-1:Nat):Int):=by rw[Zar (by omega) (by omega)];omega
  have f:r.getLast?=some r[r.length-1]:=(by rw[List.getLast?_eq_getElem?];simp[b]);rw[e];refine⟨inM _ (by omega) (by omega),_,_,_,_,_,_,_,_,_,_,_,Zfu b,Zaa (λa=>?_) (λa=>⟨inM _ (by omega) (by omega),_,_,_,_,_,_,_,_,_,_,_,Zfu b,?_⟩)⟩
  ·have a:r[r.length-1].d.sl=true:=(by rw[←Zmz r[r.length-1].d.sl];simpa using a);unfold Zbl;rw[f];simp[a]
  ·have a:r[r.length-1].d.sl=false:=(by rw[←Zmz r[r.length-1].d.sl];simpa using a);unfold Zbl;rw[f];simp[a]
theorem Zp3(b a:Int):Ct prog 50 {} [.agg [I b,I a]] (λr=>r=[B (decide (mayC b a))]):=by
 refine jmaybe_nf ?_;congr 3;unfold mayC;simp;by_cases h1:64≤b<;>by_cases h2:b≤65536<;>by_cases h3:1≤a<;>by_cases h4:a≤1099511627776<;>simp[h1,h2,h3,h4]
end Jou
end Go.Proofs.YtgehiiginclniaaGreatDoor
namespace Go.Proofs
open Go.Shelf
def Tryz.laysC174_ren:Go.Shelf.Ren:=⟨λ|174=>253|247=>314|245=>315|287=>348|279=>349|280=>350|281=>351|282=>352|321=>361|322=>362|316=>363|171=>365|205=>364|243=>373|246=>222|283=>289|284=>290|285=>291|286=>292|129=>336|317=>335|318=>337|319=>338|320=>339|337=>358|338=>359|n=>n,λ|9=>9|3=>3|2=>2|75=>286|85=>315|4=>4|167=>400|5=>5|53=>219|175=>401|46=>250|168=>403|37=>72|0=>0|210=>413|21=>21|127=>350|145=>427|143=>425|171=>341|173=>344|212=>387|51=>310|20=>20|213=>388|232=>422|233=>423|80=>290|n=>n,λ|15=>2|16=>3|17=>0|18=>4|19=>5|n=>n⟩
theorem Tryz.laysC174:Go.Proofs.LaysC.n174 prog Tryz.laysC174_ren:={
 mixed:=by kernel_rfl
 f129:=func336.trans (congrArg some (by kernel_rfl))
 f171:=func365.trans (congrArg some (by kernel_rfl))
 f174:=func253.trans (congrArg some (by kernel_rfl))
 f205:=func364.trans (congrArg some (by kernel_rfl))
 f243:=func373.trans (congrArg some (by kernel_rfl))
 f245:=func315.trans (congrArg some (by kernel_rfl))
 f246:=func222.trans (congrArg some (by kernel_rfl))
 f247:=func314.trans (congrArg some (by kernel_rfl))
 f279:=func349.trans (congrArg some (by kernel_rfl))
 f280:=func350.trans (congrArg some (by kernel_rfl))
 f281:=func351.trans (congrArg some (by kernel_rfl))
 f282:=func352.trans (congrArg some (by kernel_rfl))
 f283:=func289.trans (congrArg some (by kernel_rfl))
 f284:=func290.trans (congrArg some (by kernel_rfl))
 f285:=func291.trans (congrArg some (by kernel_rfl))
 f286:=func292.trans (congrArg some (by kernel_rfl))
 f287:=func348.trans (congrArg some (by kernel_rfl))
 f316:=func363.trans (congrArg some (by kernel_rfl))
 f317:=func335.trans (congrArg some (by kernel_rfl))
 f318:=func337.trans (congrArg some (by kernel_rfl))
 f319:=func338.trans (congrArg some (by kernel_rfl))
 f320:=func339.trans (congrArg some (by kernel_rfl))
 f321:=func361.trans (congrArg some (by kernel_rfl))
 f322:=func362.trans (congrArg some (by kernel_rfl))
 f337:=func358.trans (congrArg some (by kernel_rfl))
 f338:=func359.trans (congrArg some (by kernel_rfl))
 t0:=Tryz.underlying0
 a0:=Tryz.isAgg0
 z0:=Tryz.sizeOf0
 v0:=Tryz.zeroValue0
 t2:=Tryz.underlying2
 a2:=Tryz.isAgg2
 z2:=Tryz.sizeOf2
 v2:=Tryz.zeroValue2
 t3:=Tryz.underlying3
 a3:=Tryz.isAgg3
 z3:=Tryz.sizeOf3
 v3:=Tryz.zeroValue3
 t4:=Tryz.underlying4
 a4:=Tryz.isAgg4
 z4:=Tryz.sizeOf4
 v4:=Tryz.zeroValue4
 t5:=Tryz.underlying5
 a5:=Tryz.isAgg5
 z5:=Tryz.sizeOf5
 v5:=Tryz.zeroValue5
 t9:=Tryz.underlying9
 a9:=Tryz.isAgg9
 z9:=Tryz.sizeOf9
 v9:=Tryz.zeroValue9
 t20:=Tryz.underlying20
 a20:=Tryz.isAgg20
 z20:=Tryz.sizeOf20
 v20:=Tryz.zeroValue20
 t21:=Tryz.underlying21
 a21:=Tryz.isAgg21
 z21:=Tryz.sizeOf21
 v21:=Tryz.zeroValue21
 t37:=Tryz.underlying72
 a37:=Tryz.isAgg72
 z37:=Tryz.sizeOf72
 v37:=Tryz.zeroValue72
 t46:=Tryz.underlying250
 a46:=Tryz.isAgg250
 z46:=Tryz.sizeOf250
 v46:=Tryz.zeroValue250
 t51:=Tryz.underlying310
 a51:=Tryz.isAgg310
 z51:=Tryz.sizeOf310
 v51:=Tryz.zeroValue310
 t53:=Tryz.underlying219
 a53:=Tryz.isAgg219
 z53:=Tryz.sizeOf219
 v53:=Tryz.zeroValue219
 t75:=Tryz.underlying286
 a75:=Tryz.isAgg286
 z75:=Tryz.sizeOf286
 v75:=Tryz.zeroValue286
 t85:=Tryz.underlying315
 a85:=Tryz.isAgg315
 z85:=Tryz.sizeOf315
 v85:=Tryz.zeroValue315
 t127:=Tryz.underlying350
 a127:=Tryz.isAgg350
 z127:=Tryz.sizeOf350
 v127:=Tryz.zeroValue350
 t143:=Tryz.underlying425
 a143:=Tryz.isAgg425
 z143:=Tryz.sizeOf425
 v143:=Tryz.zeroValue425
 t145:=Tryz.underlying427
 a145:=Tryz.isAgg427
 z145:=Tryz.sizeOf427
 v145:=Tryz.zeroValue427
 t167:=Tryz.underlying400
 a167:=Tryz.isAgg400
 z167:=Tryz.sizeOf400
 v167:=Tryz.zeroValue400
 t168:=Tryz.underlying403
 a168:=Tryz.isAgg403
 z168:=Tryz.sizeOf403
 v168:=Tryz.zeroValue403
 t171:=Tryz.underlying341
 a171:=Tryz.isAgg341
 z171:=Tryz.sizeOf341
 v171:=Tryz.zeroValue341
 t173:=Tryz.underlying344
 a173:=Tryz.isAgg344
 z173:=Tryz.sizeOf344
 v173:=Tryz.zeroValue344
 t175:=Tryz.underlying401
 a175:=Tryz.isAgg401
 z175:=Tryz.sizeOf401
 v175:=Tryz.zeroValue401
 t210:=Tryz.underlying413
 a210:=Tryz.isAgg413
 z210:=Tryz.sizeOf413
 v210:=Tryz.zeroValue413
 t212:=Tryz.underlying387
 a212:=Tryz.isAgg387
 z212:=Tryz.sizeOf387
 v212:=Tryz.zeroValue387
 t213:=Tryz.underlying388
 a213:=Tryz.isAgg388
 z213:=Tryz.sizeOf388
 t232:=Tryz.underlying422
 a232:=Tryz.isAgg422
 z232:=Tryz.sizeOf422
 v232:=Tryz.zeroValue422
 t233:=Tryz.underlying423
 a233:=Tryz.isAgg423
 z233:=Tryz.sizeOf423
 v233:=Tryz.zeroValue423
 g15:=by kernel_rfl
 g16:=by kernel_rfl
 g17:=by kernel_rfl
 g18:=by kernel_rfl
 g19:=by kernel_rfl
 t80:=Tryz.underlying290
 a80:=Tryz.isAgg290
 z80:=Tryz.sizeOf290
 v80:=Tryz.zeroValue290
 i0:=by kernel_rfl
 i2:=by kernel_rfl
 i3:=by kernel_rfl
 i4:=by kernel_rfl
 i5:=by kernel_rfl
 i9:=by kernel_rfl
 i20:=by kernel_rfl
 i21:=by kernel_rfl
 i37:=by kernel_rfl
 i46:=by kernel_rfl
 i51:=by kernel_rfl
 i53:=by kernel_rfl
 i75:=by kernel_rfl
 i80:=by kernel_rfl
 i85:=by kernel_rfl
 i127:=by kernel_rfl
 i143:=by kernel_rfl
 i145:=by kernel_rfl
 i167:=by kernel_rfl
 i168:=by kernel_rfl
 i171:=by kernel_rfl
 i173:=by kernel_rfl
 i175:=by kernel_rfl
 i210:=by kernel_rfl
 i212:=by kernel_rfl
 i232:=by kernel_rfl
 i233:=by kernel_rfl
 m15:=by kernel_rfl
 m16:=by kernel_rfl
 m17:=by kernel_rfl
 m18:=by kernel_rfl
 m19:=by kernel_rfl
 c0:=by kernel_rfl
 c2:=by kernel_rfl
 c3:=by kernel_rfl
 c4:=by kernel_rfl
 c5:=by kernel_rfl
 c9:=by kernel_rfl
 c20:=by kernel_rfl
 c21:=by kernel_rfl
 c37:=by kernel_rfl
 c46:=by kernel_rfl
 c51:=by kernel_rfl
 c53:=by kernel_rfl
 c75:=by kernel_rfl
 c80:=by kernel_rfl
 c85:=by kernel_rfl
 c127:=by kernel_rfl
 c143:=by kernel_rfl
 c145:=by kernel_rfl
 c167:=by kernel_rfl
 c168:=by kernel_rfl
 c171:=by kernel_rfl
 c173:=by kernel_rfl
 c175:=by kernel_rfl
 c210:=by kernel_rfl
 c212:=by kernel_rfl
 c213:=by kernel_rfl
 c232:=by kernel_rfl
 c233:=by kernel_rfl}
open Go.RowKit in
theorem Tryz.strconv_ParseInt_10_at64_ok(s:ByteArray)(a:s.size≤9223372036854775806)(v:Int)(h:Lib.parseIntB 64 s.data.toList= .ok v)(w:World):
  Calls prog 253 #[.string s,.int .i64 10,.int .i64 64] w λe b=>e= .returned (.tuple #[.int .i64 v,.nilIface])∧(b=w∨∃t,b=Lib.bytesWorld w 5 t):=Any.strconv_ParseInt_10_at64_ok Tryz.laysC174 s a v h w
open Go.RowKit in
theorem Tryz.strconv_ParseInt_10_at64_syntax_var(s:ByteArray)(hlim:s.size≤281474976710656)(h:Lib.parseIntB 64 s.data.toList=Lib.parseIntB 64 [])(tp:TypeId)(p:Value)(w:World)(hvar:w.var? prog "strconv.ErrSyntax" =some #[.iface tp p]):
  Calls prog 253 #[.string s,.int .i64 10,.int .i64 64] w λe w'=>∃N,e= .returned (.tuple #[.int .i64 (0),.iface 403 (.pointer (some ⟨N,0,none⟩))])∧w.heap.size≤N∧w'.heap[N]?=some (.cells #[.string ⟨#[80,97,114,115,101,73,110,116]⟩,.string s,.iface tp p] 413 (0,0))∧Below w.heap.size w w':=Any.strconv_ParseInt_10_at64_syntax_var Tryz.laysC174 s hlim h tp p w hvar
open Go.RowKit in
theorem Tryz.strconv_ParseInt_10_at64_range_var(s:ByteArray)(a:s.size≤281474976710656)(h:Lib.parseIntB 64 s.data.toList= .range)(b:TypeId)(p:Value)(w:World)(c:w.var? prog "strconv.ErrRange" =some #[.iface b p]):
  Calls prog 253 #[.string s,.int .i64 10,.int .i64 64] w λe d=>∃N,e= .returned (.tuple #[.int .i64 (Lib.intSat 64 s.data.toList),.iface 403 (.pointer (some ⟨N,0,none⟩))])∧w.heap.size≤N∧d.heap[N]?=some (.cells #[.string ⟨#[80,97,114,115,101,73,110,116]⟩,.string s,.iface b p] 413 (0,0))∧Below w.heap.size w d:=Any.strconv_ParseInt_10_at64_range_var Tryz.laysC174 s a h b p w c
end Go.Proofs
namespace Go.Proofs.YtgehiiginclniaaGreatDoor
namespace Jou
open Go Go.Px Go.Proofs Go.RowKit Tryz
theorem Zqg{P:Program}{f:FuncId}{m:Func}(F:P.funcs[f]?=some m)(r:m.body.isSome=true)(A:(m.name== "runtime.NumGoroutine")=false)(g:List SV)(Q:List SV→Prop)
  (G:∀(h:Hp) (l:Nat→Px.Loc) (w:World) (n:Array Value),HSub h w→Gl h w→Zwo h l n.toList g→Calls P f n w λe p=>∃(d:List Value) (a:List SV),e= .returned (rets d)∧d.length=a.length∧
   (∀(i:Nat) v s,d[i]?=some v→a[i]?=some s→PRep h v s)∧Q a∧Below w.heap.size w p):Ct P f {} g Q:=by
 refine⟨⟨m,F,r,λe=>by rw[e]at A;simp at A⟩,λC H c h l w n D E t=>?_⟩;rw[Zbc]at c
 cases c
 refine(G h l w n D.sub E t).mono ?_;rintro e p ⟨d,a,rfl,hl,hp,hq,hbl⟩;have x:HSub h p:=Ziv D.sub (λb r=>hbl.block b r)
 have y:Px.Holds h l [] p:=⟨x,λid o q=>(by simp at q),λi j u=>by obtain⟨⟨o,e⟩,_⟩:=u;simp[oget]at e⟩
 have z:endH {} d.length a=some (a,[]):=by unfold endH;rw[hl];simp[Zbc,lentH]
 exact⟨d,h,l,a,a,[],rfl,hq,z,⟨hl,λi v s J C=>.pure _ _ (hp i v s J C)⟩,y,λi u=>(by obtain⟨⟨o,e⟩,_⟩:=u;simp[oget]at e),⟨λi L q=>(by simp at q),λid q=>rfl⟩,HLe.refl h,λb _ _ o e=>e,
  ⟨hbl.os,hbl.tape,hbl.output,hbl.size,λk K _=>hbl.block k K⟩⟩
theorem arr_of{a:Array Value}{l:List Value}(h:a.toList=l):a=l.toArray:=by rw[←h]
theorem err_is{h:Hp}{w:World}(e:HSub h w)(g:Gl h w){k:Nat}(b:(k,[SV.ifc 425 .unk])∈Zbm){n:String}(f:prog.globalNamed n=some k):∃p,w.var? prog n=some #[.iface 425 p]:=by
 obtain⟨_,i,t,o,c,d⟩:=g.size _ b;obtain⟨v,j,m⟩:=g.cells _ b 0 _ rfl;have a:=e _ _ _ j
 cases m with
 |ifc _ p _ _=>
  refine⟨p,?_⟩;unfold World.var?;rw[f];simp only[Option.bind_some,c];congr 1;simp only[World.cell?,c]at a
  rcases i with⟨l⟩
  match l,d with
  | [x],_=>simp at a;rw[a]
def PiR(s:ByteArray)(r:List SV):Prop:=
 ∃(v:Int) (e:SV),r=[I v,e]∧((Lib.parseIntB 64 s.data.toList= .ok v∧e= .val .nilIface)∨((∀u,Lib.parseIntB 64 s.data.toList≠ .ok u)∧e= .ifc 403 .unk))
theorem pint_fn(s:ByteArray)(hs:s.size≤281474976710656):Ct prog 253 {} [S s,I 10,I 64] (PiR s):=by
 refine Zqg func253 (by kernel_rfl) (by kernel_rfl) _ _ (λh ρ w vs hsub hgl hrep=>?_);obtain rfl:vs= #[.string s,.int .i64 10,.int .i64 64]:=arr_of (Zny vs.toList [.string s,.int .i64 10,.int .i64 64] hrep)
 cases hp:Lib.parseIntB 64 s.data.toList with
 |ok v=>
  refine(Tryz.strconv_ParseInt_10_at64_ok s (by omega) v hp w).mono ?_;rintro e w' ⟨rfl,hw⟩;refine⟨[.int .i64 v,.nilIface],[I v,.val .nilIface],rfl,rfl,?_,⟨v,_,rfl,.inl ⟨hp,rfl⟩⟩,?_⟩
  ·intro i x y hx hy
   match i,hx,hy with
   |0,hx,hy=>cases hx;cases hy;exact .val _
   |1,hx,hy=>cases hx;cases hy;exact .val _
   |i+2,hx,hy=>simp at hx
  ·rcases hw with rfl|⟨t,rfl⟩
   ·exact Below.refl _ _
   ·exact Lib.bytesWorld_below _ _ _
 |range=>
  obtain⟨p,hv⟩:=err_is hsub hgl (k:=3) (by simp[Zbm]) (n:= "strconv.ErrRange") (by kernel_rfl)
  refine(Tryz.strconv_ParseInt_10_at64_range_var s hs hp _ p w hv).mono ?_;rintro e w' ⟨N,rfl,_,_,hbl⟩;refine⟨[.int .i64 (Lib.intSat 64 s.data.toList),.iface 403 (.pointer (some ⟨N,0,none⟩))],[I (Lib.intSat 64 s.data.toList),.ifc 403 .unk],rfl,rfl,?_,⟨Lib.intSat 64 s.data.toList,_,rfl,.inr ⟨λu=>by rw[hp];simp,rfl⟩⟩,hbl⟩;intro i x y hx hy
  match i,hx,hy with
  |0,hx,hy=>cases hx;cases hy;exact .val _
  |1,hx,hy=>cases hx;cases hy;exact .ifc _ _ _ (.unk _)
  |i+2,hx,hy=>simp at hx
 |_=>
  obtain⟨p,hv⟩:=err_is hsub hgl (k:=2) (by simp[Zbm]) (n:= "strconv.ErrSyntax") (by kernel_rfl)
  refine(Tryz.strconv_ParseInt_10_at64_syntax_var s hs hp _ p w hv).mono ?_;rintro e w' ⟨N,rfl,_,_,hbl⟩;refine⟨[.int .i64 0,.iface 403 (.pointer (some ⟨N,0,none⟩))],[I 0,.ifc 403 .unk],rfl,rfl,?_,⟨0,_,rfl,.inr ⟨λu=>by rw[hp];simp,rfl⟩⟩,hbl⟩;intro i x y hx hy
  match i,hx,hy with
  |0,hx,hy=>cases hx;cases hy;exact .val _
  |1,hx,hy=>cases hx;cases hy;exact .ifc _ _ _ (.unk _)
  |i+2,hx,hy=>simp at hx

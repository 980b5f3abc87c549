import Derived.Test.YtgehiiginclniaaGreatDoorK11
import Derived.WalkKit
import Derived.TacticsInMore
import Derived.LoopNIn
import Derived.LoopIn
import Derived.Shelf.Abstract
import Derived.Test.YtgehiiginclniaaGreatDoorProg
set_option linter.all false
set_option maxRecDepth 100000
variable{b i j k:Int}{m n:Nat}{s:BA}{Y y:List Go.Px.FiD}{d:Go.Px.DiD}{F f:Go.Px.FiD}{g:Go.Proofs.YtgehiiginclniaaGreatDoor.Sx.StD}{D:Go.Proofs.YtgehiiginclniaaGreatDoor.Seg.Sc}{N:List BA}
namespace Go.Proofs.YtgehiiginclniaaGreatDoor
namespace Jou
open Go Go.Px Go.Proofs Cod Seg Sgr Snp Tryz
abbrev spre:List UInt8:=[115,101,103,46]
def segNm(n:Int):BA:=⟨(spre++dgs 8 n.toNat).toArray⟩
def inN(n:Int):Prop:=1≤n∧n≤99999999
instance (n:Int):Decidable (inN n):=inferInstanceAs (Decidable (_∧_))
theorem Zcj(n:Int):(segNm n).data.toList=spre++dgs 8 n.toNat:=by simp[segNm]
def Zvo{n:Int}(h:inN n):(vD ((segNm n).data.toList.drop 4):Int)=n:=by
 unfold inN at h;rw[Zcj,show(spre++dgs 8 n.toNat).drop 4=dgs 8 n.toNat from rfl,Zr3 8 _ (by omega)];omega
def numS(s:BA):Int:=if inN (vD (s.data.toList.drop 4):Int)∧s=segNm (vD (s.data.toList.drop 4):Int)then(vD (s.data.toList.drop 4):Int)else 0
theorem Zh6{n:Int}(h:inN n):numS (segNm n)=n:=by
 unfold numS;rw[Zvo h,if_pos ⟨h,rfl⟩]
def Zdd(h:numS s≠0):inN (numS s)∧s=segNm (numS s):=by
 unfold numS at h⊢
 split
 next g=>exact g
 next g=>rw[if_neg g]at h;exact absurd rfl h
def lex_app:∀{a b:List UInt8} (x y:List UInt8),a.length=b.length→a<b→a++x<b++y
 | [],[],x,y,_,h=>absurd h (List.lt_irrefl _)
 | [],_::_,_,_,hl,_=>by simp at hl
 |_::_,[],_,_,hl,_=>by simp at hl
 |c::a,d::b,x,y,hl,h=>by
  rw[Y5,Y5,YD]
  rcases YD.1 h with h|⟨h1,h2⟩
  ·exact .inl h
  ·exact .inr ⟨h1,lex_app x y (by simpa using hl) h2⟩
def Zsx:∀(p:List UInt8) {a b:List UInt8},a<b→p++a<p++b
 | [],_,_,h=>h
 |c::p,a,b,h=>by rw[Y5,Y5,YD];exact .inr ⟨rfl,Zsx p h⟩
def dgs_lt:∀(k a b:Nat),a<b→b<10^k→dgs k a<dgs k b
 |0,a,b,h,hb=>by simp at hb;omega
 |k+1,a,b,h,hb=>by
  rw[dgs,dgs];by_cases e:a/10=b/10
  ·rw[e];refine Zsx _ ?_;rw[YD]
   left
   rw[UInt8.lt_iff_toNat_lt];simp only[UInt8.toNat_ofNat'];omega
  ·refine lex_app _ _ (by rw[Zdu,Zdu]) (dgs_lt k _ _ (by omega) ?_);rw[Nat.pow_succ]at hb;omega
def Zvp(c:inN i)(d:inN b)(h:i<b):nlt (segNm i) (segNm b):=by
 unfold nlt;rw[Zcj,Zcj];unfold inN at c d;exact Zsx _ (dgs_lt 8 _ _ (by omega) (by omega))
structure Pt where
 d:Sc
 n:Nat
def foll(p a:Sc):Prop:=a.sl=true∧p.num=a.num+1∧p.bs=a.s∧p.ba=a.a
instance (p a:Sc):Decidable (foll p a):=inferInstanceAs (Decidable (_∧_))
def isSeg(f:FiD):Bool:=decide (numS f.nm≠0)
def segs(l:List FiD):List FiD:=l.filter isSeg
abbrev ptF(a:FiD→Sc)(f:FiD):Pt:=⟨a f,f.len⟩
def mayR(b:FiD→Sc)(r:List Pt)(o:List BA)(f:FiD):Prop:=o=[]∧(b f).num=numS f.nm∧(match r.getLast? with|none=>True|some a=>foll (b f) a.d)
instance (sc:FiD→Sc) (r:List Pt) (o:List BA) (f:FiD):Decidable (mayR sc r o f):=by
 unfold mayR
 cases r.getLast?<;>infer_instance
def rstep(b:FiD→Sc)(a:List Pt×List BA)(f:FiD):List Pt×List BA:=
 if numS f.nm=0 then a else if mayR b a.1 a.2 f then(a.1++[ptF b f],a.2)else(a.1,a.2++[f.nm])
def rowsD(a:FiD→Sc)(l:List FiD):List Pt×List BA:=l.foldl (rstep a) ([],[])
def Zcg(b:FiD→Sc):∀(l:List FiD) (a:List Pt×List BA),l.foldl (rstep b) a=(segs l).foldl (rstep b) a
 | [],a=>rfl
 |f::l,a=>by
  unfold segs;rw[List.foldl_cons,List.filter_cons];by_cases h:numS f.nm=0
  ·have e:isSeg f=false:=(by unfold isSeg;simp[h]);rw[e,if_neg (by simp),show rstep b a f=a from if_pos h];exact Zcg b l a
  ·have e:isSeg f=true:=(by unfold isSeg;simp[h]);rw[e,if_pos rfl,List.foldl_cons];exact Zcg b l _
def inRow(b:FiD→Sc):Option Sc→List FiD→Prop
 |_,[]=>True
 |p,f::l=>(b f).num=numS f.nm∧(match p with|none=>True|some a=>foll (b f) a)∧inRow b (some (b f)) l
def Zoz(b:FiD→Sc):∀(l:List FiD) (r:List Pt),(∀f∈l,numS f.nm≠0)→inRow b (r.getLast?.map (·.d)) l→l.foldl (rstep b) (r,[])=(r++l.map (ptF b),[])
 | [],r,_,_=>by simp
 |f::l,r,hn,h=>by
  obtain⟨i,e,j⟩:=h;rw[List.foldl_cons]
  have k:mayR b r [] f:=by
   refine⟨rfl,i,?_⟩
   cases c:r.getLast? with
   |none=>trivial
   |some a=>rw[c]at e;exact e
  rw[show rstep b (r,[]) f=(r++[ptF b f],[])from by unfold rstep;rw[if_neg (hn f (by simp)),if_pos k]];rw[Zoz b l (r++[ptF b f]) (λg c=>hn g (by simp[c])) (by simpa using j)];simp
def Zo0(a:FiD→Sc):∀(l:List FiD) (r:List Pt) (o:List BA),o≠[]→((l.foldl (rstep a) (r,o)).2≠[])
 | [],r,o,h=>h
 |f::l,r,o,h=>by
  rw[List.foldl_cons];unfold rstep
  split
  ·exact Zo0 a l r o h
  ·rw[if_neg (λq=>h q.1)];exact Zo0 a l r _ (by simp)
def rows_in'(b:FiD→Sc):∀(l:List FiD) (r:List Pt),(∀f∈l,numS f.nm≠0)→(l.foldl (rstep b) (r,[])).2=[]→inRow b (r.getLast?.map (·.d)) l
 | [],r,_,_=>trivial
 |f::l,r,hn,h=>by
  rw[List.foldl_cons]at h;by_cases hm:mayR b r [] f
  ·rw[show rstep b (r,[]) f=(r++[ptF b f],[])from by unfold rstep;rw[if_neg (hn f (by simp)),if_pos hm]]at h;obtain⟨_,i,e⟩:=hm;refine⟨i,?_,?_⟩
   ·cases c:r.getLast? with
    |none=>trivial
    |some a=>rw[c]at e;exact e
   ·have:=rows_in' b l (r++[ptF b f]) (λg c=>hn g (by simp[c])) h
    simpa using this
  ·rw[show rstep b (r,[]) f=(r,[]++[f.nm])from by unfold rstep;rw[if_neg (hn f (by simp)),if_neg hm]]at h;exact absurd h (Zo0 b l r _ (by simp))
def Zbn:∀f∈segs y,numS f.nm≠0:=λf a=>by
 have:=(List.mem_filter.1 a).2
 simpa[isSeg]using this
def rows_iff{a:FiD→Sc}:(rowsD a y).2=[]↔inRow a none (segs y):=by
 unfold rowsD;rw[Zcg];exact⟨λh=>rows_in' a _ [] Zbn h,λh=>by rw[Zoz a _ [] Zbn h]⟩
def Zo1{a:FiD→Sc}(h:inRow a none (segs y)):rowsD a y=((segs y).map (ptF a),[]):=by
 unfold rowsD;rw[Zcg,Zoz a _ [] Zbn h];simp
theorem withB_map(a:srt FiD.nm y)(b:∃g∈y,g.nm=f.nm):withB FiD.nm y f=y.map λg=>if g.nm=f.nm then f else g:=by
 obtain⟨g,c,e⟩:=b;obtain⟨i,d,rfl⟩:=List.mem_iff_getElem.1 c;rw[←Zgj a d e.symm];apply List.ext_getElem
 ·simp
 grind [srt_inj]
theorem segs_map{g:FiD→FiD}(h:∀x,(g x).nm=x.nm):segs (y.map g)=(segs y).map g:=by
 unfold segs;rw[List.filter_map];congr 1;apply List.filter_congr
 grind [isSeg]
def Zp3(a:srt FiD.nm y)(b:∃g∈y,g.nm=f.nm):segs (withB FiD.nm y f)=(segs y).map λg=>if g.nm=f.nm then f else g:=by
 grind [withB_map,segs_map]
def Zmr{l a:List FiD}{g f:FiD}(c:srt FiD.nm l)(e:segs l=a++[g])(d:g.nm=f.nm):segs (withB FiD.nm l f)=a++[f]:=by
 have h:g∈l:=(List.mem_filter.1 (show g∈l.filter isSeg by rw[show l.filter isSeg=a++[g]from e];simp)).1;rw[Zp3 c ⟨g,h,d⟩,e,List.map_append];congr 1
 ·have b:srt FiD.nm (segs l):=Yx _ c;rw[e]at b;have i:=(List.pairwise_append.1 b).2.2
  conv=>rhs;rw[←YX a]
  apply List.map_congr_left
  simp_all[Zj6]
 ·simp[d]
def Zc2(b:FiD→Sc):∀(l:List FiD) (p:Option Sc) (f:FiD),inRow b p (l++[f])↔inRow b p l∧(b f).num=numS f.nm∧(match(l.getLast?.map b).or p with|none=>True|some a=>foll (b f) a)
 | [],p,f=>by cases p<;>simp[inRow]
 |g::l,p,f=>by
  rw[Y5];show _∧_∧inRow b (some (b g)) (l++[f])↔(_∧_∧inRow b (some (b g)) l)∧_;rw[Zc2 b l (some (b g)) f]
  grind
def Zw7(a b:List FiD):segs (a++b)=segs a++segs b:=List.filter_append ..
def Zw8{l:List FiD}{f:FiD}(v:srt FiD.nm l)(hno:∀g∈l,g.nm≠f.nm)(m:numS f.nm≠0)(j:∀g∈segs l,numS g.nm<numS f.nm):segs (withB FiD.nm l f)=segs l++[f]:=by
 rw[Zd4 hno];have c:ahd FiD.nm l f.nm++bhd FiD.nm l f.nm=l:=Wj
 have k:segs (bhd FiD.nm l f.nm)=[]:=by
  apply We.2;intro x n b;have o:x∈l:=by rw[←c];exact List.mem_append.2 (.inr n)
  have q:numS x.nm≠0:=(by simpa[isSeg]using b);have C:=j x (List.mem_filter.2 ⟨o,b⟩);obtain⟨w,e1⟩:=Zdd q;obtain⟨A,e2⟩:=Zdd m;have s:nlt x.nm f.nm:=by rw[e1,e2];exact Zvp w A C
  have d:∀y∈bhd FiD.nm l f.nm,¬nlt y.nm f.nm:=by
   intro y a h;have i:srt FiD.nm (bhd FiD.nm l f.nm):=by have:=v;rw[←c]at this;exact(List.pairwise_append.1 this).2.1
   cases hbb:bhd FiD.nm l f.nm with
   |nil=>rw[hbb]at a;cases a
   |cons z r=>
    have t:¬nlt z.nm f.nm:=by
     have:=List.head?_dropWhile_not (p:=λg:FiD=>decide (nlt g.nm f.nm)) l;unfold bhd at hbb;rw[hbb]at this
     simpa using this
    rw[hbb]at a i
    rcases List.mem_cons.1 a with rfl|a
    ·exact t h
    ·have D:nlt z.nm y.nm:=(List.pairwise_cons.1 i).1 y a;exact t (Y01 D h)
  exact d x n s
 have e:segs l=segs (ahd FiD.nm l f.nm):=by
  conv=>lhs;rw[←c,Zw7,k,List.append_nil]
 show segs (ahd FiD.nm l f.nm++f::bhd FiD.nm l f.nm)=_;rw[Zw7,e];congr 1
 show segs (f::bhd FiD.nm l f.nm)=[f]
 have u:isSeg f=true:=(by simp[isSeg,m]);unfold segs at k⊢;rw[List.filter_cons,u,if_pos rfl,k]
def byF(f:FiD):List Int:=(f.su++f.lo).map λb=>(b.toNat:Int)
open Classical in
noncomputable def scF(f:FiD):Sc:=if h:∃d st,RdO (byF f) d st then h.choose else sc0
def Zw9{f:FiD}{d:Sc}{st:Int}(h:RdO (byF f) d st):scF f=d:=by
 have a:∃d st,RdO (byF f) d st:=⟨d,st,h⟩
 grind [scF,rdO_uniq]
def rdO_self(h:ScOK D):RdO (segL D) D (endW 1 D.sl):=by
 refine⟨h,List.prefix_rfl,.inl ⟨1,(nextR []).2.1,(nextR []).2.2.1,(nextR []).2.2.2,by decide,?_,rfl⟩⟩;rw[List.drop_length];rfl
def Zbq{f:FiD}{d:Sc}(h:ScOK d)(a:byF f=segL d):scF f=d:=Zw9 (st:=endW 1 d.sl) (by rw[a];exact rdO_self h)
def byF_app(s:BA)(a c x:List UInt8):byF ⟨s,a,c++x⟩=byF ⟨s,a,c⟩++x.map λb=>(b.toNat:Int):=by
 grind [byF]
end Jou
namespace Jou
open Go Go.Px Go.Proofs Cod Seg Sgr Snp Sx Row Tryz
open Classical in
noncomputable def newF(l:List FiD):Option StD:=if h:∃s,Best l (some s)then some h.choose else none
def Zqj{o:Option StD}(b:srt FiD.nm y)(h:Best y o):newF y=o:=by
 unfold newF
 cases o with
 |none=>rw[dif_neg];rintro⟨s,c⟩;exact h s c.1
 |some s=>
  have a:∃s,Best y (some s):=⟨s,h⟩
  rw[dif_pos a];exact congrArg some (best_uniq b a.choose_spec h)
theorem Zel(h:numS s≠0)(q:Int):s≠snNm q:=by
 intro e;obtain⟨_,e2⟩:=Zdd h;have:=congrArg (λb:BA=>b.data.toList.length) (e.symm.trans e2);simp only[Ze8,Zcj,List.length_append,Zdu]at this;simp at this
def cand_seg(b:numS f.nm≠0)(t:StD):Cand (withB FiD.nm y f) t↔Cand y t:=by
 constructor
 ·rintro⟨g,a,h⟩
  rcases Zas.1 a with rfl|⟨a,_⟩
  ·exact absurd h.2.1 (Zel b _)
  ·exact⟨g,a,h⟩
 ·rintro⟨g,a,h⟩;exact⟨g,Zas.2 (.inr ⟨a,λe=>Zel b _ (e.symm.trans h.2.1)⟩),h⟩
def Zz0(h:∀t,Cand y t↔Cand Y t){o:Option StD}:Best y o↔Best Y o:=by
 cases o with
 |none=>exact⟨λg t q=>g t ((h t).2 q),λg t q=>g t ((h t).1 q)⟩
 |some s=>exact⟨λg=>⟨(h s).1 g.1,λt q=>g.2 t ((h t).2 q)⟩,λg=>⟨(h s).2 g.1,λt q=>g.2 t ((h t).1 q)⟩⟩
def Zn9{l a:List FiD}(h:∀t,Cand l t↔Cand a t):newF l=newF a:=by
 have e:Best l=Best a:=funext λo=>propext (Zz0 h);unfold newF;rw[e]
def Zxu{l:List FiD}{f:FiD}(a:numS f.nm≠0):newF (withB FiD.nm l f)=newF l:=Zn9 λt=>cand_seg a t
noncomputable def keptF(l:List FiD):Int:=match newF l with|none=>0|some s=>s.q
noncomputable def baseF(l:List FiD):StD:=match newF l with|none=>st0|some s=>s
def toE(e:Cod.EvD):Cmp.EvD:=⟨e.s,e.a,e.k,e.c,e.x,e.y,e.z⟩
def evsR(r:List Pt):List Cmp.EvD:=r.flatMap λp=>p.d.ev.map toE
def stR(r:List Pt)(k:Int)(s:StD):StD:=(foldS s ((evsR r).filter λe=>decide (k<e.s))).1
structure GoodR(r:List Pt)(k:Int)(s:StD):Prop where
 bs:∀p∈r.head?,p.d.bs≤k
 cnt:∀p∈r,(p.d.ev.length:Int)=p.d.s-p.d.bs
 app:(foldS s ((evsR r).filter λe=>decide (k<e.s))).2.2=0
 at_:∀p∈r.getLast?,p.d.a=(stR r k s).t
def Zjp:∀(l:List Cmp.EvD) (d:StD) (e:Cmp.EvD),(foldS d l).2.2=0→(appS (foldS d l).1 e).2=0→(foldS d (l++[e])).1=(appS (foldS d l).1 e).1∧(foldS d (l++[e])).2.2=0
 | [],d,e,_,h=>by simp only[foldS]at h⊢;rw[List.nil_append,foldS,if_neg (by simpa using h)];exact⟨rfl,rfl⟩
 |x::l,d,e,h0,h=>by
  rw[foldS]at h0 h;rw[Y5,foldS,foldS];by_cases hx:(appS d x).2≠0
  ·rw[if_pos hx]at h0;exact absurd h0 hx
  ·rw[if_neg hx]at h0 h⊢;rw[if_neg hx];exact Zjp l _ e h0 h
theorem Zsa{e:Cmp.EvD}(h:(appS g e).2=0):(appS g e).1.q=e.s∧(appS g e).1.t=e.a:=by
 unfold appS at h⊢
 split
 next d=>rw[if_pos d]at h;exact absurd h d
 ·exact⟨rfl,rfl⟩
def Zg0(a b:List Pt):evsR (a++b)=evsR a++evsR b:=by unfold evsR;rw[List.flatMap_append]
def goodR_add{b:List Pt}{p q:Pt}{e:Cod.EvD}(h:GoodR (b++[p]) k g)(f:q.d.bs=p.d.bs)(i:q.d.ev=p.d.ev++[e])(m:q.d.s=e.s)(n:q.d.a=e.a)(j:e.s=p.d.s+1)(o:k<e.s)(ok:(appS (stR (b++[p]) k g) (toE e)).2=0):
  GoodR (b++[q]) k g∧stR (b++[q]) k g=(appS (stR (b++[p]) k g) (toE e)).1:=by
 have l:(evsR (b++[q])).filter (λe=>decide (k<e.s))=(evsR (b++[p])).filter (λe=>decide (k<e.s))++[toE e]:=(by rw[Zg0,Zg0];have u:evsR [q]=evsR [p]++[toE e]:=(by simp[evsR,i]);rw[u,←List.append_assoc,List.filter_append];congr 1;simp[toE,o]);obtain⟨r,t⟩:=Zjp _ g (toE e) h.app (by have:=ok;unfold stR at this;exact this);have hst:stR (b++[q]) k g=(appS (stR (b++[p]) k g) (toE e)).1:=(by unfold stR;rw[l,r]);refine⟨⟨?_,?_,?_,?_⟩,hst⟩
 ·intro x c
  cases b with
  |nil=>have:x=q:=(by simpa using c.symm);subst this;rw[f];exact h.bs p (by simp)
  |cons s b=>exact h.bs x (by simpa using c)
 ·intro x c
  rcases List.mem_append.1 c with c|c
  ·exact h.cnt x (by simp[c])
  ·have:x=q:=(by simpa using c);subst this;have:=h.cnt p (by simp);rw[i,f,m,j,List.length_append];simp only[YT];omega
 ·rw[l];exact t
 ·intro x c;have:x=q:=(by simpa using c.symm);subst this;rw[hst,(Zsa ok).2,n];rfl
def Zz1{b:List Pt}{p q:Pt}{k:Int}{s:StD}(h:GoodR (b++[p]) k s)(e:q.d.bs=p.d.bs)(f:q.d.ev=p.d.ev)(j:q.d.s=p.d.s)(l:q.d.a=p.d.a):
  GoodR (b++[q]) k s∧stR (b++[q]) k s=stR (b++[p]) k s:=by
 have i:evsR (b++[q])=evsR (b++[p]):=(by rw[Zg0,Zg0];simp[evsR,f]);have hst:stR (b++[q]) k s=stR (b++[p]) k s:=(by unfold stR;rw[i]);refine⟨⟨?_,?_,by rw[i];exact h.app,?_⟩,hst⟩
 ·intro x c
  cases b with
  |nil=>have:x=q:=(by simpa using c.symm);subst this;rw[e];exact h.bs p (by simp)
  |cons g b=>exact h.bs x (by simpa using c)
 ·intro x c
  rcases List.mem_append.1 c with c|c
  ·exact h.cnt x (by simp[c])
  ·have:x=q:=(by simpa using c);subst this;have:=h.cnt p (by simp);rw[f,e,j];exact this
 ·intro x c;have:x=q:=(by simpa using c.symm);subst this;rw[hst,l];exact h.at_ p (by simp)
def goodR_new{r:List Pt}{q:Pt}{e:Cod.EvD}(h:GoodR r k g)(c:q.d.ev=[e])(l:q.d.s=e.s)(m:q.d.a=e.a)(f:e.s=q.d.bs+1)(n:k<e.s)(i:r=[]→q.d.bs≤k)(ok:(appS (stR r k g) (toE e)).2=0):
  GoodR (r++[q]) k g∧stR (r++[q]) k g=(appS (stR r k g) (toE e)).1:=by
 have j:(evsR (r++[q])).filter (λe=>decide (k<e.s))=(evsR r).filter (λe=>decide (k<e.s))++[toE e]:=(by rw[Zg0,List.filter_append];congr 1;simp[evsR,c,toE,n]);obtain⟨o,p⟩:=Zjp _ g (toE e) h.app (by have:=ok;unfold stR at this;exact this);have hst:stR (r++[q]) k g=(appS (stR r k g) (toE e)).1:=(by unfold stR;rw[j,o]);refine⟨⟨?_,?_,by rw[j];exact p,?_⟩,hst⟩
 ·intro x b
  cases r with
  |nil=>have:x=q:=(by simpa using b.symm);subst this;exact i rfl
  |cons s t=>exact h.bs x (by simpa using b)
 ·intro x b
  rcases List.mem_append.1 b with b|b
  ·exact h.cnt x b
  ·have:x=q:=(by simpa using b);subst this;rw[c,l,f];simp only[YT];omega
 ·intro x b;have:x=q:=(by simpa using b.symm);subst this;rw[hst,(Zsa ok).2,m];rfl
def Zhd(f:FiD):(byF f).length=f.len:=by unfold byF FiD.len;simp
def Zga(h:(scF f).num≠0):ScOK (scF f)∧segL (scF f)<+:byF f:=by
 by_cases hx:∃d b,RdO (byF f) d b
 ·obtain⟨d,b,a⟩:=hx;rw[Zw9 a];exact⟨a.ok,a.pre⟩
 ·exfalso;apply h;unfold scF;rw[dif_neg hx];rfl
def scF_all(h:(scF f).num≠0)(a:f.len=(segL (scF f)).length):byF f=segL (scF f):=by
 obtain⟨_,b⟩:=Zga h;exact(b.eq_of_length (by rw[Zhd,a])).symm
theorem Zrd{d b a:Sc}(c:b.num=d.num)(e:b.bs=d.bs)(f:b.ba=d.ba):foll b a↔foll d a:=by
 unfold foll;rw[c,e,f]
def row_last{l i:List FiD}{g f:FiD}{b:Sc}(p:srt FiD.nm l)(c:inRow scF none (segs l))(e:segs l=i++[g])(k:g.nm=f.nm)(m:ScOK b)(q:byF f=segL b)(n:b.num=(scF g).num)(r:b.bs=(scF g).bs)(s:b.ba=(scF g).ba):
  inRow scF none (segs (withB FiD.nm l f))∧rowsD scF (withB FiD.nm l f)=(i.map (ptF scF)++[⟨b,f.len⟩],[])∧segs (withB FiD.nm l f)=i++[f]:=by
 have d:=Zmr p e k;have j:scF f=b:=Zbq m q;rw[e,Zc2]at c
 have h:inRow scF none (segs (withB FiD.nm l f)):=by
  rw[d,Zc2];refine⟨c.1,by rw[j,n,c.2.1,k],?_⟩;have o:=c.2.2
  cases hg:(i.getLast?.map scF).or none with
  |none=>trivial
  |some a=>rw[hg]at o;rw[j];exact(Zrd n r s).2 o
 refine⟨h,?_,d⟩;rw[Zo1 h,d,List.map_append];simp[ptF,j]
def row_new{l:List FiD}{f:FiD}{a:Sc}(m:srt FiD.nm l)(i:inRow scF none (segs l))(hno:∀g∈l,g.nm≠f.nm)(j:numS f.nm≠0)(d:∀g∈segs l,numS g.nm<numS f.nm)(k:ScOK a)(n:byF f=segL a)(o:a.num=numS f.nm)(e:∀g,(segs l).getLast?=some g→foll a (scF g)):
  inRow scF none (segs (withB FiD.nm l f))∧rowsD scF (withB FiD.nm l f)=((segs l).map (ptF scF)++[⟨a,f.len⟩],[])∧segs (withB FiD.nm l f)=segs l++[f]:=by
 have b:=Zw8 m hno j d;have h:scF f=a:=Zbq k n
 have c:inRow scF none (segs (withB FiD.nm l f)):=by
  rw[b,Zc2];refine⟨i,by rw[h,o],?_⟩
  cases hg:(segs l).getLast? with
  |none=>trivial
  |some g=>show foll (scF f) (scF g);rw[h];exact e g hg
 refine⟨c,?_,b⟩;rw[Zo1 c,b,List.map_append];simp[ptF,h]
structure SgD where
 num:Int
 fi:Int
 la:Int
 fr:Int
 ti:Int
 sz:Int
 sl:Bool
deriving DecidableEq
structure CxD where
 s:Int
 a:Int
 m:List BA
deriving DecidableEq
structure JoD where
 dk:DiD
 cb:Int
 cg:Int
 sg:List SgD
 cx:CxD
 st:StD
 sure:Int
 kept:Int
 shut:Bool
def sgOf(p:Pt):SgD:=⟨p.d.num,p.d.bs,p.d.s,p.d.ba,p.d.a,(segL p.d).length,p.d.sl⟩
def Zbo(r:List Pt):CxD:=match r.getLast? with|none=>⟨0,0,[]⟩|some p=>if p.d.sl=true then⟨0,0,[]⟩else⟨p.d.s,p.d.a,p.d.m⟩
def mayC(b g:Int):Prop:=64≤b∧b≤65536∧1≤g∧g≤1099511627776
noncomputable def rowK(l:List FiD):List Pt×List BA:=match(rowsD scF l).1.getLast? with
 |none=>rowsD scF l
 |some p=>if p.d.s<keptF l then([],(rowsD scF l).1.map (λp=>segNm p.d.num)++(rowsD scF l).2)else rowsD scF l
noncomputable def anewJ(a:DiD)(d e b:Int)(c:Bool):JoD:=
 ⟨a,d,e,(rowK a.fs).1.map sgOf,Zbo (rowK a.fs).1,stR (rowK a.fs).1 (keptF a.fs) (baseF a.fs),b,keptF a.fs,c⟩
structure RightJ(j:JoD):Prop where
 cfg:mayC j.cb j.cg
 dk:j.dk.P
 up:j.dk.dn=false
 out:(rowK j.dk.fs).2=[]
 good:GoodR (rowK j.dk.fs).1 (keptF j.dk.fs) (baseF j.dk.fs)
 all:∀p∈(rowK j.dk.fs).1,p.n=(segL p.d).length
 eq:j=anewJ j.dk j.cb j.cg j.sure j.shut
 sure:keptF j.dk.fs≤j.sure∧j.sure≤j.st.q
structure DkR(l gs:List FiD):Prop where
 srt:srt FiD.nm l
 eq:segs l=gs
 inr:inRow scF none gs
 kept:∀p,(gs.map (ptF scF)).getLast?=some p→keptF l≤p.d.s
def Zcx{l a:List FiD}(h:DkR l a):rowK l=(a.map (ptF scF),[]):=by
 have e:rowsD scF l=(a.map (ptF scF),[]):=(by rw[Zo1 (by rw[h.eq];exact h.inr),h.eq]);unfold rowK;rw[e]
 cases hg:(a.map (ptF scF)).getLast? with
 |none=>rfl
 |some p=>have:=h.kept p hg;simp only;rw[if_neg (by omega)]
def dkR_of(c:srt FiD.nm y)(h:(rowK y).2=[]):DkR y (segs y):=by
 have a:(rowsD scF y).2=[]∧∀p,(rowsD scF y).1.getLast?=some p→keptF y≤p.d.s:=by
  unfold rowK at h
  cases hg:(rowsD scF y).1.getLast? with
  |none=>rw[hg]at h;exact⟨h,λp q=>by cases q⟩
  |some p=>
   rw[hg]at h;simp only at h
   split at h
   ·exfalso;have:=List.append_eq_nil_iff.1 h;have g:(rowsD scF y).1=[]:=(by simpa using this.1);rw[g]at hg;cases hg
   ·exact⟨h,λq e=>by cases e;omega⟩
 have b:=rows_iff.1 a.1;refine⟨c,rfl,b,λp f=>a.2 p ?_⟩;rw[Zo1 b];exact f
def Zcp{l:List FiD}{f:FiD}(a:numS f.nm≠0):keptF (withB FiD.nm l f)=keptF l:=by unfold keptF;rw[Zxu a]
def Zdy{l:List FiD}{f:FiD}(a:numS f.nm≠0):baseF (withB FiD.nm l f)=baseF l:=by unfold baseF;rw[Zxu a]
def Cns:Int→List Cmp.EvD→Int→Prop
 |a,[],b=>a=b
 |a,e::l,b=>e.s=a+1∧Cns e.s l b
def cns_le:∀{l:List Cmp.EvD} {a b:Int},Cns a l b→b=a+l.length
 | [],a,b,h=>by simp only[Cns]at h;simp[h]
 |e::l,a,b,h=>by obtain⟨d,c⟩:=h;have:=cns_le c;rw[List.length_cons];omega
def cns_app:∀{l m:List Cmp.EvD} {a b c:Int},Cns a l b→Cns b m c→Cns a (l++m) c
 | [],m,a,b,c,h,k=>by simp only[Cns]at h;subst h;exact k
 |e::l,m,a,b,c,h,k=>⟨h.1,cns_app h.2 k⟩
def Zv1:∀(l:List Cod.EvD) (s a:Int) (m:List BA),okL s a m l→(fin3 s a m l).1=s+l.length→Cns s (l.map toE) (fin3 s a m l).1
 | [],s,a,m,_,_=>rfl
 |e::l,s,a,m,h,hf=>by obtain⟨f,b⟩:=h;have g:=Zm0 l e.s e.a (bhdN m e.c) b;have i:=f.seq;have d:(fin3 e.s e.a (bhdN m e.c) l).1=s+(l.length+1):=(by have:(fin3 s a m (e::l)).1=(fin3 e.s e.a (bhdN m e.c) l).1:=rfl;rw[←this,hf,List.length_cons];omega);have e1:e.s=s+1:=(by omega);refine⟨e1,?_⟩;exact Zv1 l e.s e.a (bhdN m e.c) b (by rw[d];omega)
def Zpc(h:ScOK D)(b:D.num≠0)(c:(D.ev.length:Int)=D.s-D.bs):Cns D.bs (D.ev.map toE) D.s:=by
 have a:=h.fin b;simp only[Wq]at a;have:=Zv1 D.ev D.bs D.ba [] (h.evs b) (by rw[←a.1];omega);rw[←a.1]at this;exact this
def Zs9:∀(b:List FiD) (g:FiD),inRow scF none (b++[g])→(∀f∈b++[g],numS f.nm≠0)→(∀p∈(b++[g]).map (ptF scF),(p.d.ev.length:Int)=p.d.s-p.d.bs)→∀p∈((b++[g]).map (ptF scF)).head?,Cns p.d.bs (evsR ((b++[g]).map (ptF scF))) (scF g).s:=by
 intro b
 induction hlen:b.length generalizing b with
 |zero=>
  have:b=[]:=Yt.1 hlen;subst this;intro g h j l p m;have e:p=ptF scF g:=(by simpa using m.symm);subst e;have c:(scF g).num≠0:=(by have:=h.1;rw[this];exact j g (by simp));have:=Zpc (Zga c).1 c (l (ptF scF g) (by simp))
  simpa[evsR,ptF]using this
 |succ k o=>
  rcases Y1 b with rfl|⟨b,x,rfl⟩
  ·simp at hlen
  rw[List.concat_eq_append]at hlen⊢;have o:=o b (by simpa using hlen);intro g h j l p m;rw[Zc2]at h;obtain⟨v,w,z⟩:=h;have c:(scF g).num≠0:=by rw[w];exact j g (by simp)
  have t:p∈((b++[x]).map (ptF scF)).head?:=by
   cases b with
   |nil=>simpa using m
   |cons y b=>simpa using m
  have C:=o x v (λf i=>j f (by simp at i⊢;rcases i with i|i;exact .inl i;exact .inr (.inl i))) (λq r=>l q (by simp at r⊢;rcases r with⟨a,A,e⟩|e;exact .inl ⟨a,A,e⟩;exact .inr (.inl e))) p t;have u:foll (scF g) (scF x):=(by simpa using z);have n:=Zpc (Zga c).1 c (l (ptF scF g) (by simp));rw[u.2.2.1]at n;rw[List.map_append,Zg0];refine cns_app C ?_
  simpa[evsR,ptF]using n
def Znr:∀{l:List Cmp.EvD} {a b:Int} (k:Int),Cns a l b→a≤k→k≤b→Cns k (l.filter λe=>decide (k<e.s)) b
 | [],a,b,k,h,h1,h2=>by simp only[Cns]at h;subst h;show Cns k [] a;simp only[Cns];omega
 |e::l,a,b,k,h,h1,h2=>by
  obtain⟨f,d⟩:=h;rw[List.filter_cons];by_cases hk:k<e.s
  ·rw[if_pos (by simpa using hk)];have e1:k=a:=(by omega);subst e1;refine⟨f,?_⟩
   have:(l.filter λe=>decide (k<e.s))=l:=by
    apply List.filter_eq_self.2;intro x c
    have g:∀{l:List Cmp.EvD} {a b:Int},Cns a l b→∀x∈l,a<x.s:=by
     intro l
     induction l with
     |nil=>intro a b _ x c;cases c
     |cons y l i=>
      intro a b h x c
      rcases List.mem_cons.1 c with rfl|c
      ·have:=h.1;omega
      ·have:=i h.2 x c;have:=h.1;omega
    have:=g d x c;simp;omega
   rw[this];exact d
  ·rw[if_neg (by simpa using hk)];exact Znr k d (by omega) h2
def fold_q:∀{l:List Cmp.EvD} {d:StD} {b:Int},Cns d.q l b→(foldS d l).2.2=0→(foldS d l).1.q=b
 | [],d,b,h,_=>h
 |e::l,d,b,h,h0=>by
  rw[foldS]at h0⊢;by_cases a:(appS d e).2≠0
  ·rw[if_pos a]at h0;exact absurd h0 a
  ·rw[if_neg a]at h0⊢;have a:(appS d e).2=0:=(by simpa using a);refine fold_q ?_ h0;rw[(Zsa a).1];exact h.2
theorem Zrc(l:List FiD):(baseF l).q=keptF l:=by
 unfold baseF keptF
 cases newF l<;>rfl
def stR_q(h:DkR y (Y++[f]))(b:GoodR ((Y++[f]).map (ptF scF)) (keptF y) (baseF y)):(stR ((Y++[f]).map (ptF scF)) (keptF y) (baseF y)).q=(scF f).s:=by
 have c:∀g∈Y++[f],numS g.nm≠0:=by rw[←h.eq];exact Zbn
 obtain⟨p,hp⟩:∃p,((Y++[f]).map (ptF scF)).head?=some p:=by
  cases Y with
  |nil=>exact⟨_,rfl⟩
  |cons l Y=>exact⟨_,rfl⟩
 have d:=Zs9 Y f h.inr c b.cnt p hp;have e:=b.bs p hp;have i:=h.kept (ptF scF f) (by simp);have j:=Znr (keptF y) d e i;unfold stR;exact fold_q (by rw[Zrc];exact j) b.app
def RightJ.dkr{j:JoD}(h:RightJ j):DkR j.dk.fs (segs j.dk.fs):=dkR_of h.dk.2.2.2 h.out
theorem RightJ.row{j:JoD}(h:RightJ j):(rowK j.dk.fs).1=(segs j.dk.fs).map (ptF scF):=by rw[Zcx h.dkr]
def DkR.bytes(h:DkR y Y)(k:∀p∈Y.map (ptF scF),p.n=(segL p.d).length):∀f∈Y,ScOK (scF f)∧byF f=segL (scF f)∧(scF f).num=numS f.nm∧numS f.nm≠0:=by
 intro f a;have e:numS f.nm≠0:=Zbn f (by rw[h.eq];exact a)
 have g:∀(y:List FiD) (p:Option Sc),inRow scF p y→∀f∈y,(scF f).num=numS f.nm:=by
  intro y
  induction y with
  |nil=>intro p _ f a;cases a
  |cons x y m=>
   intro p c f a
   rcases List.mem_cons.1 a with rfl|a
   ·exact c.1
   ·exact m _ c.2.2 f a
 have i:=g Y none h.inr f a;have j:(scF f).num≠0:=(by rw[i];exact e);exact⟨(Zga j).1,scF_all j (k (ptF scF f) (Y3.2 ⟨f,a,rfl⟩)),i,e⟩
def Zlq{l b:List FiD}{g f:FiD}{a:Sc}(h:DkR l (b++[g]))(o:g.nm=f.nm)(i:numS f.nm≠0)(c:ScOK a)(j:byF f=segL a)(q:a.num=(scF g).num)(r:a.bs=(scF g).bs)(t:a.ba=(scF g).ba)(u:keptF l≤a.s):
  DkR (withB FiD.nm l f) (b++[f])∧rowK (withB FiD.nm l f)=(b.map (ptF scF)++[⟨a,f.len⟩],[]):=by
 have m:inRow scF none (segs l):=(by rw[h.eq];exact h.inr);obtain⟨w,x,k⟩:=row_last h.srt m h.eq o c j q r t;have d:scF f=a:=Zbq c j
 have n:DkR (withB FiD.nm l f) (b++[f]):=⟨Zba h.srt,k,by rw[←k];exact w,λp v=>by
  have e:p=ptF scF f:=(by simpa using v.symm);subst e;rw[Zcp i];show keptF l≤(scF f).s
  rw[d];exact u⟩
 refine⟨n,?_⟩;rw[Zcx n,List.map_append];simp[ptF,d]
def rowK_new{f:FiD}{d':Sc}(h:DkR y Y)(hno:∀g∈y,g.nm≠f.nm)(b:numS f.nm≠0)(i:∀g∈Y,numS g.nm<numS f.nm)(c:ScOK d')(m:byF f=segL d')(q:d'.num=numS f.nm)(j:∀g,Y.getLast?=some g→foll d' (scF g))(r:keptF y≤d'.s):
  DkR (withB FiD.nm y f) (Y++[f])∧rowK (withB FiD.nm y f)=(Y.map (ptF scF)++[⟨d',f.len⟩],[]):=by
 have n:inRow scF none (segs y):=(by rw[h.eq];exact h.inr);obtain⟨u,v,k⟩:=row_new h.srt n hno b (by rw[h.eq];exact i) c m q (by rw[h.eq];exact j);rw[h.eq]at k;have d:scF f=d':=Zbq c m
 have o:DkR (withB FiD.nm y f) (Y++[f]):=⟨Zba h.srt,k,by rw[←k];exact u,λp t=>by
  have e:p=ptF scF f:=(by simpa using t.symm);subst e;rw[Zcp b];show keptF y≤(scF f).s
  rw[d];exact r⟩
 refine⟨o,?_⟩;rw[Zcx o,List.map_append];simp[ptF,d]
structure Par(j:JoD)(gs:List FiD):Prop where
 dkr:DkR j.dk.fs gs
 good:GoodR (gs.map (ptF scF)) (keptF j.dk.fs) (baseF j.dk.fs)
 all:∀p∈gs.map (ptF scF),p.n=(segL p.d).length
 st:j.st=stR (gs.map (ptF scF)) (keptF j.dk.fs) (baseF j.dk.fs)
 sg:j.sg=(gs.map (ptF scF)).map sgOf
 cx:j.cx=Zbo (gs.map (ptF scF))
 kept:j.kept=keptF j.dk.fs
def RightJ.par{j:JoD}(h:RightJ j):Par j (segs j.dk.fs):=by
 have d:=h.row;have e:=h.good;have f:=h.all;have a:=h.eq;rw[d]at e f;have e1:j.st=(anewJ j.dk j.cb j.cg j.sure j.shut).st:=congrArg JoD.st a;have e2:j.sg=(anewJ j.dk j.cb j.cg j.sure j.shut).sg:=congrArg JoD.sg a;have b:j.cx=(anewJ j.dk j.cb j.cg j.sure j.shut).cx:=congrArg JoD.cx a;have c:j.kept=(anewJ j.dk j.cb j.cg j.sure j.shut).kept:=congrArg JoD.kept a;unfold anewJ at e1 e2 b c;simp only at e1 e2 b c;rw[d]at e1 e2 b;exact⟨h.dkr,e,f,e1,e2,b,c⟩
def Par.q{j:JoD}{a:List FiD}{g:FiD}(h:Par j (a++[g])):j.st.q=(scF g).s:=by rw[h.st];exact stR_q h.dkr h.good
def Par.q0{j:JoD}(h:Par j []):j.st.q=j.kept:=by
 rw[h.st,h.kept];show(baseF j.dk.fs).q=_;exact Zrc _
def Par.kq{j:JoD}(h:Par j y):j.kept≤j.st.q:=by
 rcases Y1 y with rfl|⟨y,g,rfl⟩
 ·rw[h.q0];exact Int.le_refl _
 ·rw[List.concat_eq_append]at h;rw[h.q,h.kept];exact h.dkr.kept (ptF scF g) (by simp)
def anew_add{j:JoD}{i:List FiD}{g:FiD}(h:Par j (i++[g]))(A:(scF g).sl=false){e:Cod.EvD}(Z:e.s=j.st.q+1)(ok:EncOK (scF g).s (scF g).a (scF g).m e)(N:(appS j.st (toE e)).2=0){x:List UInt8}(O:(x.map λb=>(b.toNat:Int))=recB (scF g) e){d:DiD}(o:d.fs=withB FiD.nm j.dk.fs ⟨g.nm,g.su,g.lo++x⟩)(t u k:Int)(l:Bool):
  anewJ d t u k l=⟨d,t,u,((i.map (ptF scF)).map sgOf)++[sgOf ⟨addS (scF g) e,g.len+x.length⟩],⟨e.s,e.a,bhdN (scF g).m e.c⟩,(appS j.st (toE e)).1,k,j.kept,l⟩∧
   Par (anewJ d t u k l) (i++[⟨g.nm,g.su,g.lo++x⟩]):=by
 have W:=h.dkr.bytes h.all g (by simp);obtain⟨P,Q,b3,y⟩:=W;have E:(scF g).num≠0:=(by rw[b3];exact y);obtain⟨G,R⟩:=addS_ok P E A ok;have v:byF ⟨g.nm,g.su,g.lo++x⟩=segL (addS (scF g) e):=(by rw[byF_app,O,R,←Q]);have hq:=h.q;have a0:=h.kq;have X:keptF j.dk.fs≤(addS (scF g) e).s:=(by show _≤e.s;rw[←h.kept];omega);obtain⟨T,H⟩:=Zlq (f:=⟨g.nm,g.su,g.lo++x⟩) h.dkr rfl y G v rfl rfl rfl X;have n:(⟨g.nm,g.su,g.lo++x⟩:FiD).len=g.len+x.length:=(by unfold FiD.len;simp;omega);rw[n]at H;have J:=h.good;rw[List.map_append]at J;have hst:=h.st;rw[List.map_append]at hst
 obtain⟨U,V⟩:=goodR_add (p:=ptF scF g) (q:=⟨addS (scF g) e,g.len+x.length⟩) J rfl rfl rfl rfl (by show e.s=(scF g).s+1;omega) (by rw[←h.kept];omega) (by
  have:stR (i.map (ptF scF)++[ptF scF g]) (keptF j.dk.fs) (baseF j.dk.fs)=j.st:=hst.symm
  rw[this];exact N)
 have C:keptF d.fs=keptF j.dk.fs:=(by rw[o];exact Zcp y);have D:baseF d.fs=baseF j.dk.fs:=(by rw[o];exact Zdy y);have z:rowK d.fs=(i.map (ptF scF)++[⟨addS (scF g) e,g.len+x.length⟩],[]):=(by rw[o];exact H);have F:stR (i.map (ptF scF)++[⟨addS (scF g) e,g.len+x.length⟩]) (keptF j.dk.fs) (baseF j.dk.fs)=(appS j.st (toE e)).1:=(by rw[V];have:stR (i.map (ptF scF)++[ptF scF g]) (keptF j.dk.fs) (baseF j.dk.fs)=j.st:=hst.symm;rw[this]);have K:Zbo (i.map (ptF scF)++[⟨addS (scF g) e,g.len+x.length⟩])=⟨e.s,e.a,bhdN (scF g).m e.c⟩:=(by unfold Zbo;rw[List.getLast?_concat];simp[addS,A]);have L:anewJ d t u k l=⟨d,t,u,((i.map (ptF scF)).map sgOf)++[sgOf ⟨addS (scF g) e,g.len+x.length⟩],⟨e.s,e.a,bhdN (scF g).m e.c⟩,(appS j.st (toE e)).1,k,j.kept,l⟩:=(by unfold anewJ;rw[z,C,D,F,K,List.map_append,h.kept];rfl);refine⟨L,?_⟩;have M:scF ⟨g.nm,g.su,g.lo++x⟩=addS (scF g) e:=Zbq G v;have w:(i++[(⟨g.nm,g.su,g.lo++x⟩:FiD)]).map (ptF scF)=i.map (ptF scF)++[⟨addS (scF g) e,g.len+x.length⟩]:=(by rw[List.map_append];simp only[List.map_cons,List.map_nil,ptF,M,n]);refine⟨?_,?_,?_,?_,?_,?_,?_⟩
 ·show DkR d.fs _;rw[o];exact T
 ·show GoodR _ (keptF d.fs) (baseF d.fs);rw[w,C,D];exact U
 ·intro p r;rw[w]at r
  rcases List.mem_append.1 r with r|r
  ·exact h.all p (by rw[List.map_append];exact List.mem_append.2 (.inl r))
  ·have Y:p=⟨addS (scF g) e,g.len+x.length⟩:=(by simpa using r);subst Y;show g.len+x.length=_;rw[←n,←Zhd,v]
 ·show stR (rowK d.fs).1 _ _=stR _ (keptF d.fs) (baseF d.fs);rw[w,z]
 ·show(rowK d.fs).1.map sgOf=_;rw[w,z]
 ·show Zbo (rowK d.fs).1=_;rw[w,z]
 ·rfl
def par_of{j:JoD}{S:StD}(o:∀p∈y.map (ptF scF),p.n=(segL p.d).length)(u:DkR d.fs (y++[f]))(s:scF f=D)(t:byF f=segL D)(k:rowK d.fs=(y.map (ptF scF)++[⟨D,f.len⟩],[]))
  (l:keptF d.fs=keptF j.dk.fs) (m:baseF d.fs=baseF j.dk.fs) (v:j.kept=keptF j.dk.fs) (w:GoodR (y.map (ptF scF)++[⟨D,f.len⟩]) (keptF j.dk.fs) (baseF j.dk.fs)) (hst:stR (y.map (ptF scF)++[⟨D,f.len⟩]) (keptF j.dk.fs) (baseF j.dk.fs)=S) (q r e:Int) (g:Bool):
  anewJ d q r e g=⟨d,q,r,((y.map (ptF scF)).map sgOf)++[sgOf ⟨D,f.len⟩],Zbo (y.map (ptF scF)++[⟨D,f.len⟩]),S,e,j.kept,g⟩∧Par (anewJ d q r e g) (y++[f]):=by
 have i:(y++[f]).map (ptF scF)=y.map (ptF scF)++[⟨D,f.len⟩]:=(by rw[List.map_append];simp only[List.map_cons,List.map_nil,ptF,s]);refine⟨?_,⟨u,?_,?_,?_,?_,?_,rfl⟩⟩
 ·unfold anewJ;rw[k,l,m,hst,List.map_append,v];rfl
 ·show GoodR _ (keptF d.fs) (baseF d.fs);rw[i,l,m];exact w
 ·intro p h;rw[i]at h
  rcases List.mem_append.1 h with h|h
  ·exact o p h
  ·have x:p=⟨D,f.len⟩:=(by simpa using h);subst x;show f.len=_;rw[←Zhd,t]
 ·show stR (rowK d.fs).1 _ _=stR _ (keptF d.fs) (baseF d.fs);rw[i,k]
 ·show(rowK d.fs).1.map sgOf=_;rw[i,k]
 ·show Zbo (rowK d.fs).1=_;rw[i,k]
def anew_seal{j:JoD}{g f:FiD}(h:Par j (y++[g]))(r:(scF g).sl=false)(t:g.nm=f.nm)(A:byF f=byF g++seaB (scF g))(a:d.fs=withB FiD.nm j.dk.fs f)(m n b:Int)(c:Bool):
  anewJ d m n b c=⟨d,m,n,((y.map (ptF scF)).map sgOf)++[sgOf ⟨sealS (scF g),f.len⟩],⟨0,0,[]⟩,j.st,b,j.kept,c⟩∧Par (anewJ d m n b c) (y++[f]):=by
 obtain⟨D,E,b3,u⟩:=h.dkr.bytes h.all g (by simp);have o:(scF g).num≠0:=by rw[b3];exact u
 obtain⟨v,F⟩:=Zu5 D o r;have i:byF f=segL (sealS (scF g)):=(by rw[A,F,←E]);have k:numS f.nm≠0:=by rw[←t];exact u
 have L:keptF j.dk.fs≤(sealS (scF g)).s:=h.dkr.kept (ptF scF g) (by simp);obtain⟨G,H⟩:=Zlq (f:=f) h.dkr t k v i rfl rfl rfl L;have w:=h.good;rw[List.map_append]at w;have hst:=h.st;rw[List.map_append]at hst;obtain⟨J,K⟩:=Zz1 (p:=ptF scF g) (q:=⟨sealS (scF g),f.len⟩) w rfl rfl rfl rfl;have x:keptF d.fs=keptF j.dk.fs:=(by rw[a];exact Zcp k);have l:baseF d.fs=baseF j.dk.fs:=(by rw[a];exact Zdy k);have e:=par_of (j:=j) (S:=j.st) (λp C=>h.all p (by rw[List.map_append];exact List.mem_append.2 (.inl C))) (by rw[a];exact G) (Zbq v i) i (by rw[a];exact H) x l h.kept J (K.trans hst.symm) m n b c;have z:Zbo (y.map (ptF scF)++[⟨sealS (scF g),f.len⟩])=⟨0,0,[]⟩:=(by unfold Zbo;rw[List.getLast?_concat];simp[sealS]);rw[z]at e;exact e
def anew_new{j:JoD}{b:List FiD}{f:FiD}{n:Int}{e:Cod.EvD}(h:Par j b)(A:∀g,b.getLast?=some g→(scF g).sl=true∧n=(scF g).num+1)(C:inN n)(a0:b=[]→n=1)(D:f.nm=segNm n)(hno:∀g∈j.dk.fs,g.nm≠f.nm)(y:∀g∈b,numS g.nm<n)
  (E:e.s=j.st.q+1) (F:headOK n j.st.q j.st.t) (ok:EncOK j.st.q j.st.t [] e) (N:(appS j.st (toE e)).2=0) (O:byF f=fr 1 (hdP n j.st.q j.st.t)++fr 2 (encL j.st.q j.st.t [] e)) {d:DiD} (l:d.fs=withB FiD.nm j.dk.fs f) (r u i:Int) (k:Bool):
  anewJ d r u i k=⟨d,r,u,((b.map (ptF scF)).map sgOf)++[sgOf ⟨newS n j.st.q j.st.t e,f.len⟩],⟨e.s,e.a,bhdN [] e.c⟩,(appS j.st (toE e)).1,i,j.kept,k⟩∧Par (anewJ d r u i k) (b++[f]):=by
 obtain⟨G,P⟩:=newS_ok F ok;have m:byF f=segL (newS n j.st.q j.st.t e):=(by rw[O,P]);have o:numS f.nm=n:=by rw[D];exact Zh6 C
 have p:numS f.nm≠0:=(by rw[o];have:=C.1;omega);have a3:=h.kq;have Z:(newS n j.st.q j.st.t e).s=e.s:=rfl;have hk:keptF j.dk.fs≤(newS n j.st.q j.st.t e).s:=(by rw[Z,←h.kept];omega);have w:∀g,b.getLast?=some g→(scF g).s=j.st.q∧(scF g).a=j.st.t:=by intro g v;obtain⟨x,rfl⟩:∃x,b=x++[g]:=WF.1 v;refine⟨h.q.symm,?_⟩;have:=h.good.at_ (ptF scF g) (by simp);rw[←h.st]at this;exact this
 obtain⟨Q,R⟩:=rowK_new (f:=f) (d':=newS n j.st.q j.st.t e) h.dkr hno p (by rw[o];exact y) G m (by rw[o];rfl) (λg v=>by
  obtain⟨T,U⟩:=w g v;obtain⟨V,W⟩:=A g v
  exact⟨V,W,T.symm,U.symm⟩) hk
 have hst:=h.st
 obtain⟨X,Y⟩:=goodR_new (q:=⟨newS n j.st.q j.st.t e,f.len⟩) (e:=e) h.good rfl rfl rfl (by show e.s=j.st.q+1;exact E) (by rw[←h.kept];omega) (λz=>by
  have H:b=[]:=(by simpa using z);subst H;show j.st.q≤_
  rw[h.q0,h.kept];exact Int.le_refl _) (by rw[←hst];exact N)
 have J:keptF d.fs=keptF j.dk.fs:=(by rw[l];exact Zcp p);have K:baseF d.fs=baseF j.dk.fs:=(by rw[l];exact Zdy p);have L:=par_of (j:=j) (S:=(appS j.st (toE e)).1) h.all (by rw[l];exact Q) (Zbq G m) m (by rw[l];exact R) J K h.kept X (by rw[Y,←hst]) r u i k;have M:Zbo (b.map (ptF scF)++[⟨newS n j.st.q j.st.t e,f.len⟩])=⟨e.s,e.a,bhdN [] e.c⟩:=(by unfold Zbo;rw[List.getLast?_concat];rfl);rw[M]at L;exact L
def Zif{d:DiD}{f:FiD}(b:srt FiD.nm d.fs)(a:f∈d.fs):d.get f.nm=some f:=by
 unfold DiD.get
 cases h:d.fs.find? (λg=>decide (g.nm=f.nm))with
 |none=>have:=List.find?_eq_none.1 h f a;simp at this
 |some g=>have c:=W0 h;have e:=YH h;rw[Zmm b e a (by simpa using c)]
def get_none(h:d.get s=none):∀g∈d.fs,g.nm≠s:=by
 intro g a e;have:=List.find?_eq_none.1 h g a;simp[e]at this
def Zpd(h:d.get s=some f):f∈d.fs∧f.nm=s:=by
 refine⟨YH h,?_⟩;have:=W0 h
 simpa using this
def Zd0{d a:DiD}{x:List UInt8}(h:Zav d s x=(a,0)):d.er s s=0∧∃f,d.get s=some f∧a.fs=withB FiD.nm d.fs ⟨s,f.su,f.lo++x⟩∧a.rm=d.rm∧a.dn=d.dn:=by
 unfold Zav at h
 split at h
 next g=>simp only[Prod.mk.injEq]at h;exact absurd h.2 g
 ·rename_i g;refine⟨by simpa using g,?_⟩
  split at h
  ·simp at h
  next f b=>
   split at h
   ·simp at h
   ·split at h
    ·simp at h
    ·simp only[Prod.mk.injEq]at h;refine⟨f,b,?_⟩;rw[←h.1];exact⟨rfl,rfl,rfl⟩
def Zpe{d a:DiD}(h:d.perf y=(a,0)):a.fs=y∧a.rm=d.rm∧a.dn=d.dn:=by
 unfold DiD.perf at h
 split at h
 ·simp at h
 ·simp only[Prod.mk.injEq]at h;rw[←h.1];exact⟨rfl,rfl,rfl⟩
def Zgc{d a:DiD}(h:Za0 d s=(a,0)):d.er s s=0∧∃f,d.get s=some f∧a.fs=withB FiD.nm d.fs ⟨s,f.su++f.lo,[]⟩∧a.rm=d.rm∧a.dn=d.dn:=by
 unfold Za0 at h
 split at h
 next g=>simp only[Prod.mk.injEq]at h;exact absurd h.2 g
 ·rename_i g;refine⟨by simpa using g,?_⟩
  split at h
  ·simp at h
  next f b=>exact⟨f,b,Zpe h⟩
def Zl2{d a:DiD}(h:Zbi d s=(a,0)):d.er s s=0∧d.get s=none∧a.fs=withB FiD.nm d.fs ⟨s,[],[]⟩∧a.rm=d.rm∧a.dn=d.dn:=by
 unfold Zbi at h
 split at h
 next g=>simp only[Prod.mk.injEq]at h;exact absurd h.2 g
 ·rename_i g;refine⟨by simpa using g,?_⟩
  split at h
  ·simp at h
  next b=>
   split at h
   ·simp at h
   ·exact⟨b,Zpe h⟩
def Zpf{d a:DiD}{f:FiD}(b:srt FiD.nm d.fs)(e:a.fs=withB FiD.nm d.fs f):a.get f.nm=some f:=get_withB b e
def app_app{d b c:DiD}{x y:List UInt8}(e:srt FiD.nm d.fs)(h:Zav d s x=(b,0))(i:Zav b s y=(c,0)):∃f,d.get s=some f∧c.fs=withB FiD.nm d.fs ⟨s,f.su,f.lo++(x++y)⟩:=by
 obtain⟨_,f,j,e1,_⟩:=Zd0 h;obtain⟨_,l,a,e2,_⟩:=Zd0 i;have k:=Zpf (f:=⟨s,f.su,f.lo++x⟩) e e1;rw[k]at a
 cases a
 refine⟨f,j,?_⟩;rw[e2,e1,Zhk (nm:=FiD.nm) (f:=⟨s,f.su,f.lo++x⟩) (g:=⟨s,f.su,f.lo++x++y⟩) rfl,List.append_assoc]
def app_sync{d b c:DiD}{x:List UInt8}(e:srt FiD.nm d.fs)(h:Zav d s x=(b,0))(i:Za0 b s=(c,0)):∃f,d.get s=some f∧c.fs=withB FiD.nm d.fs ⟨s,f.su++(f.lo++x),[]⟩:=by
 obtain⟨_,f,j,e1,_⟩:=Zd0 h;obtain⟨_,l,a,e2,_⟩:=Zgc i;have k:=Zpf (f:=⟨s,f.su,f.lo++x⟩) e e1;rw[k]at a
 cases a
 refine⟨f,j,?_⟩;rw[e2,e1,Zhk (nm:=FiD.nm) (f:=⟨s,f.su,f.lo++x⟩) (g:=⟨s,f.su++(f.lo++x),[]⟩) rfl]
def new_app{d a c e:DiD}{x y:List UInt8}(h:srt FiD.nm d.fs)(k:Zbi d s=(a,0))(l:Zav a s x=(c,0))(m:Zav c s y=(e,0)):(∀g∈d.fs,g.nm≠s)∧e.fs=withB FiD.nm d.fs ⟨s,[],x++y⟩:=by
 obtain⟨_,n,b,_⟩:=Zl2 k;have j:srt FiD.nm a.fs:=by rw[b];exact Zba h
 obtain⟨f,i,e2⟩:=app_app j l m;have o:=Zpf (f:=⟨s,[],[]⟩) h b;rw[o]at i
 cases i
 refine⟨get_none n,?_⟩;rw[e2,b,Zhk (nm:=FiD.nm) (f:=⟨s,[],[]⟩) (g:=⟨s,[],[]++(x++y)⟩) rfl,List.nil_append]
def appS_may{e:Cmp.EvD}(h:(appS g e).2=0):MayS g e:=by
 refine Zia ?_;unfold appS at h
 split at h
 next d=>exact absurd h d
 next d=>simpa using d
def Zv4(h:g.P):ctxOK g.q g.t:=by
 obtain⟨⟨_,a,b,c,e⟩,_⟩:=h;exact⟨a,b,c,e⟩
def ctx_nil(h:ctxOK i j):ctxB i j []=true:=by
 unfold ctxB rgtB;obtain⟨b,c,d,e⟩:=h;simp[b,c,d,e]
def Par.name{j:JoD}(h:Par j y):∀f∈y,f.nm=segNm (scF f).num∧inN (scF f).num:=by
 intro f b;obtain⟨g,i,b3,c⟩:=h.dkr.bytes h.all f b;obtain⟨d,e⟩:=Zdd c;rw[b3];exact⟨e,d⟩
def Par.big{j:JoD}{c:List FiD}{g:FiD}(h:Par j (c++[g])):∀f∈c++[g],numS f.nm<(scF g).num+1:=by
 have o:srt FiD.nm (c++[g]):=(by rw[←h.dkr.eq];exact Yx _ h.dkr.srt);obtain⟨_,_,c3,k⟩:=h.dkr.bytes h.all g (by simp);intro f a;obtain⟨_,_,b3,l⟩:=h.dkr.bytes h.all f a
 rcases List.mem_append.1 a with a|a
 ·have b:=(List.pairwise_append.1 o).2.2 f a g (by simp);obtain⟨m,d⟩:=Zdd l;obtain⟨n,e⟩:=Zdd k;rw[c3]
  rcases Wn (numS f.nm) (numS g.nm)with q|q
  ·omega
  ·exfalso;have i:numS g.nm<numS f.nm∨numS g.nm=numS f.nm:=by omega
   rcases i with q2|q2
   ·have:=Zvp n m q2;rw[←e,←d]at this;exact Zmi _ (Y01 b this)
   ·rw[d,e,q2]at b;exact Zmi _ b
 ·have:f=g:=(by simpa using a);subst this;rw[c3];omega
def Zl6(a:FiD→Sc):∀(l:List FiD) (r:List Pt) (o:List BA),(∀f∈l,numS f.nm≠0)→o≠[]→l.foldl (rstep a) (r,o)=(r,o++l.map FiD.nm)
 | [],r,o,_,_=>by simp
 |f::l,r,o,hn,ho=>by rw[List.foldl_cons,show rstep a (r,o) f=(r,o++[f.nm])from by unfold rstep;rw[if_neg (hn f (by simp)),if_neg (λq=>ho q.1)]];rw[Zl6 a l r _ (λg b=>hn g (by simp[b])) (by simp)];simp
def Znx(b:FiD→Sc):∀(l:List FiD) (r:List Pt),(∀f∈l,numS f.nm≠0)→∃n,l.foldl (rstep b) (r,[])=(r++(l.take n).map (ptF b),(l.drop n).map FiD.nm)∧inRow b (r.getLast?.map (·.d)) (l.take n)
 | [],r,_=>⟨0,by simp,trivial⟩
 |f::l,r,hn=>by
  rw[List.foldl_cons];by_cases hm:mayR b r [] f
  ·rw[show rstep b (r,[]) f=(r++[ptF b f],[])from by unfold rstep;rw[if_neg (hn f (by simp)),if_pos hm]];obtain⟨n,h,i⟩:=Znx b l (r++[ptF b f]) λg c=>hn g (by simp[c]);refine⟨n+1,by rw[h];simp,?_⟩;rw[List.take_succ_cons];obtain⟨_,j,e⟩:=hm;refine⟨j,?_,by simpa using i⟩
   cases c:r.getLast? with
   |none=>trivial
   |some a=>rw[c]at e;exact e
  ·rw[show rstep b (r,[]) f=(r,[]++[f.nm])from by unfold rstep;rw[if_neg (hn f (by simp)),if_neg hm]];refine⟨0,?_,trivial⟩;rw[Zl6 b l r _ (λg c=>hn g (by simp[c])) (by simp)];simp
def Ztn(l:List FiD):∃n,rowsD scF l=(((segs l).take n).map (ptF scF),((segs l).drop n).map FiD.nm)∧inRow scF none ((segs l).take n):=by
 unfold rowsD;rw[Zcg];obtain⟨n,a,b⟩:=Znx scF (segs l) [] Zbn;exact⟨n,by simpa using a,b⟩
def Zbk{a:FiD→Sc}:∀{l:List FiD} {p:Option Sc},inRow a p l→∀f∈l,(a f).num=numS f.nm
 | [],_,_,f,hf=>by cases hf
 |g::l,p,h,f,hf=>by
  rcases List.mem_cons.1 hf with rfl|hf
  ·exact h.1
  ·exact Zbk h.2.2 f hf
theorem Zfn(h:numS f.nm≠0):segNm (numS f.nm)=f.nm:=(Zdd h).2.symm
def Zgv(l:List FiD):∃n,rowK l=(((segs l).take n).map (ptF scF),((segs l).drop n).map FiD.nm)∧inRow scF none ((segs l).take n)∧∀p,(((segs l).take n).map (ptF scF)).getLast?=some p→keptF l≤p.d.s:=by
 obtain⟨n,h,b⟩:=Ztn l;unfold rowK;rw[h]
 cases hg:(((segs l).take n).map (ptF scF)).getLast? with
 |none=>exact⟨n,rfl,b,λp c=>by rw[hg]at c;cases c⟩
 |some p=>
  simp only;by_cases hk:p.d.s<keptF l
  ·rw[if_pos hk];refine⟨0,?_,trivial,λq a=>by simp at a⟩;have e:(((segs l).take n).map (ptF scF)).map (λp=>segNm p.d.num)=((segs l).take n).map FiD.nm:=(by rw[List.map_map];apply List.map_congr_left;intro f g;show segNm (scF f).num=f.nm;rw[Zbk b f g];exact Zfn (Zbn f (List.mem_of_mem_take g)));rw[e,←List.map_append,List.take_append_drop];simp
  ·rw[if_neg hk];exact⟨n,rfl,b,λq a=>by rw[hg]at a;cases a;omega⟩
def Zrg:segs (wout FiD.nm y s)=wout FiD.nm (segs y) s:=by
 unfold segs wout;rw[List.filter_filter,List.filter_filter];apply List.filter_congr;intro x _;exact Bool.and_comm _ _
def cand_wout{l:List FiD}(h:numS s≠0)(t:StD):Cand (wout FiD.nm l s) t↔Cand l t:=by
 constructor
 ·rintro⟨g,a,q⟩;exact⟨g,(Zfo.1 a).1,q⟩
 ·rintro⟨g,a,q⟩;exact⟨g,Zfo.2 ⟨a,λe=>Zel h _ (e.symm.trans q.2.1)⟩,q⟩
def Zgw{l:List FiD}(h:numS s≠0):keptF (wout FiD.nm l s)=keptF l∧baseF (wout FiD.nm l s)=baseF l:=by
 have e:=Zn9 λt=>cand_wout (l:=l) h t;unfold keptF baseF;rw[e];exact⟨rfl,rfl⟩
def Zrh{l:List FiD}{f:FiD}(a:srt FiD.nm (l++[f])):wout FiD.nm (l++[f]) f.nm=l:=by
 unfold wout;rw[List.filter_append]
 have c:(l.filter λg=>decide (g.nm≠f.nm))=l:=by
  apply List.filter_eq_self.2;intro x b;have:=Zj6 ((List.pairwise_append.1 a).2.2 x b f (by simp))
  simpa using this
 rw[c];simp
def Zlt{h:FiD→FiD}:∀{l:List FiD} {p:Option Sc},(∀f∈l,(h f).nm=f.nm∧scF (h f)=scF f)→inRow scF p l→inRow scF p (l.map h)
 | [],_,_,_=>trivial
 |f::l,p,hh,hi=>by obtain⟨c,a⟩:=hh f (by simp);obtain⟨d,e,i⟩:=hi;refine⟨by rw[c,a];exact d,by rw[a];exact e,?_⟩;rw[a];exact Zlt (λg b=>hh g (by simp[b])) i
noncomputable def ptW(f:FiD):Pt:=⟨scF f,(segL (scF f)).length⟩
theorem Zlu{h:FiD→FiD}(u:srt FiD.nm Y)(m:segs Y=((segs y).take n).map h)(i:inRow scF none ((segs y).take n))(j:∀p,(((segs y).take n).map (ptF scF)).getLast?=some p→keptF y≤p.d.s)
  (o:∀f∈(segs y).take n,(h f).nm=f.nm∧byF (h f)=segL (scF f)) (v:keptF Y=keptF y):DkR Y (segs Y)∧rowK Y=(((segs y).take n).map ptW,[]):=by
 have q:∀f∈(segs y).take n,ScOK (scF f):=λf a=>by have w:=Zbk i f a;exact(Zga (by rw[w];exact Zbn f (List.mem_of_mem_take a))).1
 have k:∀f∈(segs y).take n,(h f).nm=f.nm∧scF (h f)=scF f:=λf a=>⟨(o f a).1,Zbq (q f a) (o f a).2⟩
 have r:(((segs y).take n).map h).map (ptF scF)=((segs y).take n).map ptW:=by
  rw[List.map_map];apply List.map_congr_left;intro f a
  show(⟨scF (h f),(h f).len⟩:Pt)=⟨scF f,(segL (scF f)).length⟩
  rw[(k f a).2,←Zhd,(o f a).2]
 have t:DkR Y (segs Y):=by
  refine⟨u,rfl,by rw[m];exact Zlt k i,λp c=>?_⟩;rw[m,r]at c;rw[v]
  rcases Y1 ((segs y).take n)with e|⟨gs,g,e⟩
  ·rw[e]at c;simp at c
  ·rw[List.concat_eq_append]at e;rw[e]at c j;have e1:p=ptW g:=(by simpa using c.symm);subst e1;exact j (ptF scF g) (by simp)
 refine⟨t,?_⟩;rw[Zcx t,m,r]
def Zvz(l:List FiD):evsR (l.map ptW)=evsR (l.map (ptF scF)):=by
 unfold evsR;rw[List.flatMap_map,List.flatMap_map];rfl
theorem Zs6(l:List FiD)(k:Int)(s:StD):stR (l.map ptW) k s=stR (l.map (ptF scF)) k s:=by unfold stR;rw[Zvz]
theorem Zra{l:List FiD}{k:Int}{s:StD}(h:GoodR (l.map (ptF scF)) k s):GoodR (l.map ptW) k s:=by
 refine⟨λp a=>?_,λp a=>?_,by rw[Zvz];exact h.app,λp a=>?_⟩
 ·cases l with
  |nil=>simp at a
  |cons f l=>have e:p=ptW f:=(by simpa using a.symm);subst e;exact h.bs (ptF scF f) (by simp)
 ·obtain⟨f,b,rfl⟩:=Y3.1 a;exact h.cnt (ptF scF f) (Y3.2 ⟨f,b,rfl⟩)
 ·rw[Zs6]
  rcases Y1 l with rfl|⟨gs,g,rfl⟩
  ·simp at a
  ·rw[List.concat_eq_append]at a h⊢;have e:p=ptW g:=(by simpa using a.symm);subst e;exact h.at_ (ptF scF g) (by simp)
def byF_cut:byF ⟨f.nm,f.su.take n,f.lo.take (n-f.su.length)⟩=(byF f).take n:=by
 unfold byF;rw[←List.map_take,List.take_append]
def Zs7(h:(scF f).num≠0):byF ⟨f.nm,f.su.take (segL (scF f)).length,f.lo.take ((segL (scF f)).length-f.su.length)⟩=segL (scF f):=by
 rw[byF_cut];exact WO.1 (Zga h).2|>.symm
theorem Zv0(s:BA)(f:FiD):byF ⟨s,f.su++f.lo,[]⟩=byF f:=by unfold byF;simp
def Zfh{d a:DiD}(h:Zbb d s=(a,0)):d.er s s=0∧(∃f,d.get s=some f)∧a.fs=wout FiD.nm d.fs s∧a.rm=d.rm∧a.dn=d.dn:=by
 unfold Zbb at h
 split at h
 next g=>simp only[Prod.mk.injEq]at h;exact absurd h.2 g
 ·rename_i g;refine⟨by simpa using g,?_⟩
  split at h
  ·simp at h
  next f b=>exact⟨⟨f,b⟩,Zpe h⟩
def Zkq{d a:DiD}(h:opCut d s i=(a,0)):d.er s s=0∧∃f,d.get s=some f∧0≤i∧i≤f.len∧a.fs=withB FiD.nm d.fs ⟨s,f.su.take i.toNat,f.lo.take (i.toNat-f.su.length)⟩∧a.rm=d.rm∧a.dn=d.dn:=by
 unfold opCut at h
 split at h
 next g=>simp only[Prod.mk.injEq]at h;exact absurd h.2 g
 ·rename_i g;refine⟨by simpa using g,?_⟩
  split at h
  ·simp at h
  next f b=>
   split at h
   ·simp at h
   next c=>have:=Zpe h;exact⟨f,b,by omega,by omega,this⟩
def runS:DiD→List (DiD→DiD×Int)→DiD×Int
 |d,[]=>(d,0)
 |d,s::l=>if(s d).2≠0 then s d else runS (s d).1 l
def Zgb{d a:DiD}{s:DiD→DiD×Int}{l:List (DiD→DiD×Int)}(h:runS d (s::l)=(a,0)):∃b,s d=(b,0)∧runS b l=(a,0):=by
 rw[runS]at h
 split at h
 next g=>rw[h]at g;exact absurd rfl g
 next g=>have g:(s d).2=0:=(by simpa using g);exact⟨(s d).1,by rw[←g],h⟩
def Zkr:∀(a b:List (DiD→DiD×Int)) {d c:DiD},runS d (a++b)=(c,0)→∃e,runS d a=(e,0)∧runS e b=(c,0)
 | [],b,d,c,h=>⟨d,rfl,h⟩
 |s::a,b,d,c,h=>by obtain⟨e,f,g⟩:=Zgb h;obtain⟨i,j,k⟩:=Zkr a b g;refine⟨i,?_,k⟩;rw[runS,f,if_neg (by simp)];exact j
structure Same(d d':DiD):Prop where
 srt:srt FiD.nm d'.fs
 kept:keptF d'.fs=keptF d.fs
 base:baseF d'.fs=baseF d.fs
 rm:d'.rm=d.rm
 dn:d'.dn=d.dn
def Same.trans{a b c:DiD}(h:Same a b)(k:Same b c):Same a c:=⟨k.srt,k.kept.trans h.kept,k.base.trans h.base,k.rm.trans h.rm,k.dn.trans h.dn⟩
theorem Same.refl(h:Go.Px.srt FiD.nm d.fs):Same d d:=⟨h,rfl,rfl,rfl,rfl⟩
def srt_wout(h:srt FiD.nm y):srt FiD.nm (wout FiD.nm y s):=Yx _ h
def Zv6{l X Y:List FiD}(d:srt FiD.nm l)(e:segs l=X++F::Y)(a:F.nm=f.nm):segs (withB FiD.nm l f)=X++f::Y:=by
 have j:F∈l:=(List.mem_filter.1 (show F∈l.filter isSeg by rw[show l.filter isSeg=X++F::Y from e];simp)).1;rw[Zp3 d ⟨F,j,a⟩,e,List.map_append,List.map_cons,if_pos a];have b:srt FiD.nm (segs l):=Yx _ d;rw[e]at b;obtain⟨k,h,i⟩:=List.pairwise_append.1 b;congr 1
 ·conv=>rhs;rw[←YX X]
  apply List.map_congr_left;intro x c;rw[if_neg (λq=>Zj6 (i x c F (by simp)) (q.trans a.symm))];rfl
 ·congr 1
  conv=>rhs;rw[←YX Y]
  apply List.map_congr_left;intro x c;rw[if_neg (λq=>Zj6 ((List.pairwise_cons.1 h).1 x c) (a.trans q.symm))];rfl
def Zy0:∀(k:Nat) (A B:List FiD) (d a:DiD),B.length=k→srt FiD.nm d.fs→segs d.fs=A++B→runS d ((B.map FiD.nm).reverse.map λs d=>Zbb d s)=(a,0)→segs a.fs=A∧Same d a:=by
 intro k
 induction k with
 |zero=>intro A B d a b c e h;have:B=[]:=Yt.1 b;subst this;simp only[List.map_nil,List.reverse_nil,runS,Prod.mk.injEq]at h;rw[←h.1];exact⟨by simpa using e,Same.refl c⟩
 |succ k r=>
  intro A B d a b c e h
  rcases Y1 B with rfl|⟨B,f,rfl⟩
  ·simp at b
  ·rw[List.concat_eq_append]at b e h;rw[List.map_append,List.reverse_append]at h;simp only[List.map_cons,List.map_nil,List.reverse_cons,List.reverse_nil,List.nil_append,List.singleton_append]at h;obtain⟨j,m,n⟩:=Zgb h;obtain⟨_,_,e1,e2,o⟩:=Zfh m;have g:numS f.nm≠0:=Zbn f (by rw[e];simp);have i:srt FiD.nm j.fs:=by rw[e1];exact srt_wout c
   have l:segs j.fs=A++B:=(by rw[e1,Zrg,e,←List.append_assoc];refine Zrh ?_;rw[List.append_assoc,←e];exact Yx _ c);obtain⟨p,q⟩:=r A B j a (by simpa using b) i l n;refine⟨p,Same.trans ⟨i,?_,?_,e2,o⟩ q⟩
   ·rw[e1];exact(Zgw g).1
   ·rw[e1];exact(Zgw g).2
noncomputable def cutF(f:FiD):FiD:=if(segL (scF f)).length<f.len then⟨f.nm,f.su.take (segL (scF f)).length,f.lo.take ((segL (scF f)).length-f.su.length)⟩else f
def Zde(f:FiD):(cutF f).nm=f.nm:=by unfold cutF;split<;>rfl
theorem Ztf(h:(scF f).num≠0):byF (cutF f)=segL (scF f):=by
 unfold cutF
 split
 ·exact Zs7 h
 next g=>have a:=(Zga h).2;exact(a.eq_of_length (by have:=a.length_le;rw[Zhd]at this⊢;omega)).symm
noncomputable def cutS(p:Pt):List (DiD→DiD×Int):=if(segL p.d).length<p.n then[λd=>opCut d (segNm p.d.num) (segL p.d).length]else[]
def run_cut:∀(k:Nat) (A B C:List FiD) (d a:DiD),B.length=k→srt FiD.nm d.fs→segs d.fs=A++(B++C)→(∀f∈B,(scF f).num=numS f.nm)→runS d ((B.map (ptF scF)).reverse.flatMap cutS)=(a,0)→segs a.fs=A++(B.map cutF++C)∧Same d a:=by
 intro k
 induction k with
 |zero=>intro A B C d a j b e p h;have:B=[]:=Yt.1 j;subst this;simp only[List.map_nil,List.reverse_nil,WM,runS,Prod.mk.injEq]at h;rw[←h.1];exact⟨by simpa using e,Same.refl b⟩
 |succ k K=>
  intro A B C d a j b e p h
  rcases Y1 B with rfl|⟨B,f,rfl⟩
  ·simp at j
  ·rw[List.concat_eq_append]at j e h p⊢;rw[List.map_append,List.reverse_append]at h;simp only[List.map_cons,List.map_nil,List.reverse_cons,List.reverse_nil,List.nil_append,List.singleton_append,Yb]at h;obtain⟨q,m,y⟩:=Zkr _ _ h;have n:numS f.nm≠0:=Zbn f (by rw[e];simp);have t:=p f (by simp)
   have u:segs q.fs=A++(B++(cutF f::C))∧Same d q:=by
    have v:segs d.fs=(A++B)++f::C:=(by rw[e];simp);unfold cutS at m
    split at m
    ·rename_i l;obtain⟨z,D,r⟩:=Zgb m;simp only[runS,Prod.mk.injEq]at r;have r:z=q:=r.1;subst r;obtain⟨_,g,i,_,_,c,E,F⟩:=Zkq D;have w:segNm (ptF scF f).d.num=f.nm:=(by show segNm (scF f).num=f.nm;rw[t];exact Zfn n);rw[w]at i c;have x:f∈d.fs:=(List.mem_filter.1 (show f∈d.fs.filter isSeg by rw[show d.fs.filter isSeg=(A++B)++f::C from v];simp)).1;rw[Zif b x]at i
     cases i
     have o:cutF f=⟨f.nm,f.su.take ((segL (ptF scF f).d).length:Int).toNat,f.lo.take (((segL (ptF scF f).d).length:Int).toNat-f.su.length)⟩:=(by unfold cutF;rw[if_pos l];simp);rw[←o]at c;refine⟨?_,by rw[c];exact Zba b,?_,?_,E,F⟩
     ·rw[c,Zv6 b v (Zde f).symm];simp
     ·rw[c];exact Zcp (by rw[Zde];exact n)
     ·rw[c];exact Zdy (by rw[Zde];exact n)
    ·rename_i l;simp only[runS,Prod.mk.injEq]at m;rw[←m.1];have o:cutF f=f:=by unfold cutF;rw[if_neg l]
     rw[o,e];exact⟨by simp,Same.refl b⟩
   obtain⟨G,s⟩:=u;obtain⟨H,J⟩:=K A B (cutF f::C) q a (by simpa using j) s.srt G (λg i=>p g (by simp[i])) y;exact⟨by rw[H];simp,s.trans J⟩
def Zxs{c:FiD→Sc}:∀{a:List FiD} {g:FiD} {p:Option Sc},inRow c p (a++[g])→∀f∈a,(c f).sl=true
 | [],_,_,_,f,hf=>by cases hf
 |x::a,g,p,h,f,hf=>by
  obtain⟨_,_,b⟩:=h
  rcases List.mem_cons.1 hf with rfl|hf
  ·cases a with
   |nil=>exact b.2.1.1
   |cons y a=>exact b.2.1.1
  ·exact Zxs b f hf
def synS(r:List Pt):List (DiD→DiD×Int):=match r.getLast? with
 |none=>[]
 |some p=>if p.d.sl=true then[]else[λd=>Za0 d (segNm p.d.num)]
noncomputable def mendS(r:List Pt)(o:List BA):List (DiD→DiD×Int):=(o.reverse.map λs d=>Zbb d s)++(r.reverse.flatMap cutS++synS r)
noncomputable def menF(f:FiD):FiD:=if(scF f).sl=true then cutF f else⟨(cutF f).nm,(cutF f).su++(cutF f).lo,[]⟩
theorem Zup(f:FiD):(menF f).nm=f.nm:=by unfold menF;split<;>exact Zde f
theorem menF_by(h:(scF f).num≠0):byF (menF f)=segL (scF f):=by
 grind [Zv0,menF,Ztf]
def Zuq{d c:DiD}(A:srt FiD.nm d.fs)(h:runS d (mendS (rowK d.fs).1 (rowK d.fs).2)=(c,0)):
  ∃m:List FiD,(rowK d.fs).1=m.map (ptF scF)∧inRow scF none m∧(∀f∈m,numS f.nm≠0)∧Same d c∧segs c.fs=m.map menF∧DkR c.fs (segs c.fs)∧rowK c.fs=(m.map ptW,[]):=by
 obtain⟨n,e,j,N⟩:=Zgv d.fs;rw[e]at h;refine⟨(segs d.fs).take n,by rw[e],j,λf i=>Zbn f (List.mem_of_mem_take i),?_⟩;obtain⟨v,C,D⟩:=Zkr _ _ h;obtain⟨k,E,a⟩:=Zkr _ _ D;obtain⟨F,G⟩:=Zy0 ((segs d.fs).drop n).length ((segs d.fs).take n) ((segs d.fs).drop n) d v rfl A (List.take_append_drop n _).symm C;have p:=Zbk j;obtain⟨b,o⟩:=run_cut ((segs d.fs).take n).length [] ((segs d.fs).take n) [] v k rfl G.srt (by rw[F];simp) p E;have w:∀f∈(segs d.fs).take n,(scF f).num≠0:=λf i=>by rw[p f i];exact Zbn f (List.mem_of_mem_take i)
 have b:segs k.fs=((segs d.fs).take n).map cutF:=by rw[b];simp
 have O:segs c.fs=((segs d.fs).take n).map menF∧Same k c:=by
  rcases Y1 ((segs d.fs).take n)with q|⟨gs,g,q⟩
  ·rw[q]at a b⊢;simp only[synS,List.map_nil,List.getLast?_nil,runS,Prod.mk.injEq]at a;rw[←a.1,b];exact⟨rfl,Same.refl o.srt⟩
  ·rw[List.concat_eq_append]at q;rw[q]at a b j w p⊢;have P:=Zxs j
   have x:gs.map menF=gs.map cutF:=by
    simp_all[menF]
   rw[List.map_append]at b⊢;rw[x];unfold synS at a;rw[List.map_append]at a;simp only[List.map_cons,List.map_nil,List.getLast?_concat]at a b⊢;by_cases hg:(scF g).sl=true
   ·rw[if_pos (show(ptF scF g).d.sl=true from hg)]at a;simp only[runS,Prod.mk.injEq]at a;rw[←a.1,b];have:menF g=cutF g:=(by grind [menF]);rw[this];exact⟨rfl,Same.refl o.srt⟩
   ·rw[if_neg (show¬(ptF scF g).d.sl=true from hg)]at a;obtain⟨H,J,s⟩:=Zgb a;simp only[runS,Prod.mk.injEq]at s;have s:H=c:=s.1;subst s;obtain⟨_,f,i,l,K,L⟩:=Zgc J;have y:numS g.nm≠0:=by grind
    have t:segNm (ptF scF g).d.num=g.nm:=by
     grind [segNm,scF,Zfn]
    rw[t]at i l;have z:cutF g∈k.fs:=(List.mem_filter.1 (show cutF g∈k.fs.filter isSeg by rw[show k.fs.filter isSeg=gs.map cutF++[cutF g]from b];simp)).1;have r:=Zif o.srt z;rw[Zde,i]at r
    cases r
    have M:menF g=⟨g.nm,(cutF g).su++(cutF g).lo,[]⟩:=(by unfold menF;rw[if_neg hg,Zde]);rw[←M]at l;have u:numS (menF g).nm≠0:=(by rw[Zup];exact y);refine⟨?_,by rw[l];exact Zba o.srt,by rw[l];exact Zcp u,by rw[l];exact Zdy u,K,L⟩;rw[l,Zmr o.srt b (by rw[Zde,Zup])]
 grind [Same,Zlu,menF,Zup,menF_by]
def Zqi{d a:DiD}(s:srt FiD.nm d.fs)(t:GoodR (rowK d.fs).1 (keptF d.fs) (baseF d.fs))(h:runS d (mendS (rowK d.fs).1 (rowK d.fs).2)=(a,0))(n o b:Int)(c:Bool):
  anewJ a n o b c=⟨a,n,o,(rowK d.fs).1.map sgOf,Zbo (rowK d.fs).1,stR (rowK d.fs).1 (keptF d.fs) (baseF d.fs),b,keptF d.fs,c⟩∧Par (anewJ a n o b c) (segs a.fs):=by
 obtain⟨i,e,w,u,k,x,r,l⟩:=Zuq s h;have y:∀f∈i,True:=λ_ _=>trivial;rw[e]at t⊢;have v:(i.map ptW).map sgOf=(i.map (ptF scF)).map sgOf:=by rw[List.map_map,List.map_map];rfl
 have z:Zbo (i.map ptW)=Zbo (i.map (ptF scF)):=by
  rcases Y1 i with rfl|⟨gs,g,rfl⟩
  ·rfl
  ·rw[List.concat_eq_append,List.map_append,List.map_append];unfold Zbo;simp only[List.map_cons,List.map_nil,List.getLast?_concat];rfl
 have j:=Zcx r;rw[l]at j;have m:i.map ptW=(segs a.fs).map (ptF scF):=congrArg Prod.fst j;refine⟨?_,⟨r,?_,?_,?_,?_,?_,rfl⟩⟩
 ·grind [k.kept,k.base,Zs6,anewJ]
 ·show GoodR _ (keptF a.fs) (baseF a.fs)
  grind [k.kept,k.base,Zra]
 ·intro p q;rw[←m]at q;obtain⟨f,_,rfl⟩:=Y3.1 q;rfl
 ·show stR (rowK a.fs).1 _ _=stR _ (keptF a.fs) (baseF a.fs);rw[←m,l]
 ·show(rowK a.fs).1.map sgOf=_;rw[←m,l]
 ·show Zbo (rowK a.fs).1=_;rw[←m,l]
def dgs_D:∀(k n:Nat),∀c∈dgs k n,isD c
 |0,n,c,hc=>by cases hc
 |k+1,n,c,hc=>by
  rw[dgs]at hc
  rcases List.mem_append.1 hc with hc|hc
  ·exact dgs_D k _ c hc
  ·have:c=UInt8.ofNat (48+n%10):=(by simpa using hc);subst this;unfold isD;simp only[UInt8.toNat_ofNat'];omega
def Zpt(n:Int):fnB (segNm n)=true:=by
 have b:=Zcj n;have d:(segNm n).size=12:=(by have:(segNm n).data.toList.length=12:=(by rw[b,List.length_append,Zdu];rfl);rw[Array.length_toList]at this;exact this);unfold fnB;rw[d,b];simp only[Bool.and_eq_true,decide_eq_true_eq,List.all_eq_true];refine⟨by omega,λc a=>?_⟩;unfold fchr;rw[decide_eq_true_eq]
 rcases List.mem_append.1 a with a|a
 ·simp only[spre,List.mem_cons,YV,or_false]at a
  rcases a with rfl|rfl|rfl|rfl<;>decide
 ·have:=dgs_D _ _ c a;unfold isD at this;omega
def Zzr{l:List FiD}{g:FiD}(a:srt FiD.nm l)(b:g∈l):withB FiD.nm l g=l:=by
 obtain⟨i,c,rfl⟩:=List.mem_iff_getElem.1 b;rw[←Zgj a c rfl];simp
def sync_same{d:DiD}{g:FiD}(b:d.P)(c:d.dn=false)(hst:d.st= -1)(f:g∈d.fs)(h:fnB g.nm=true)(a:g.lo=[]):Za0 d g.nm=(d,0):=by
 unfold Za0;rw[er_of b c h h,if_neg (by simp),Zif b.2.2.2 f]
 have e:(⟨g.nm,g.su++g.lo,[]⟩:FiD)=g:=by
  rw[a,List.append_nil]
  cases g
  simp at a;subst a;rfl
 show d.perf (withB FiD.nm d.fs ⟨g.nm,g.su++g.lo,[]⟩)=_;rw[e,Zzr b.2.2.2 f];unfold DiD.perf DiD.tick;rw[if_neg (by omega),if_neg (by omega)]
def Zzs(j:d.P)(f:d.dn=false)(hst:d.st= -1)(h:DkR d.fs (segs d.fs))(b:∀p∈(segs d.fs).map (ptF scF),p.n=(segL p.d).length)(c:∀g,(segs d.fs).getLast?=some g→(scF g).sl=false→g.lo=[]):runS d (mendS (rowK d.fs).1 (rowK d.fs).2)=(d,0):=by
 rw[Zcx h];unfold mendS;have m:((segs d.fs).map (ptF scF)).reverse.flatMap cutS=[]:=(by apply List.flatMap_eq_nil_iff.2;intro p k;have:=b p (List.mem_reverse.1 k);unfold cutS;rw[if_neg (by omega)]);simp only[List.reverse_nil,List.map_nil,List.nil_append,m];unfold synS
 rcases Y1 (segs d.fs)with e|⟨gs,g,e⟩
 ·rw[e];rfl
 ·rw[List.concat_eq_append]at e;rw[e,List.map_append];simp only[List.map_cons,List.map_nil,List.getLast?_concat];by_cases hg:(scF g).sl=true
  ·rw[if_pos (show(ptF scF g).d.sl=true from hg)];rfl
  ·rw[if_neg (show¬(ptF scF g).d.sl=true from hg)];have i:g∈d.fs:=(List.mem_filter.1 (show g∈d.fs.filter isSeg by rw[show d.fs.filter isSeg=gs++[g]from e];simp)).1;obtain⟨r,s,b3,l⟩:=h.bytes b g (by rw[e];simp);have a:segNm (ptF scF g).d.num=g.nm:=(by show segNm (scF g).num=g.nm;rw[b3];exact Zfn l);have o:fnB g.nm=true:=(by rw[←a];exact Zpt _);have q:=sync_same j f hst i o (c g (by rw[e];simp) (by simpa using hg));rw[runS,a,q];rfl
def run_P:∀(l:List (DiD→DiD×Int)) {d a:DiD} {k:Int},(∀s∈l,∀d:DiD,d.P→(s d).1.P)→d.P→runS d l=(a,k)→a.P
 | [],d,a,k,_,h,e=>by simp only[runS,Prod.mk.injEq]at e;rw[←e.1];exact h
 |s::l,d,a,k,hs,h,e=>by
  rw[runS]at e;have b:=hs s (by simp) d h
  split at e
  ·rw[e]at b;exact b
  ·exact run_P l (λt c=>hs t (by simp[c])) b e
def run_st:∀(l:List (DiD→DiD×Int)) {d a:DiD} {k:Int},(∀s∈l,∀d:DiD,(s d).1.st≤d.st)→runS d l=(a,k)→a.st≤d.st
 | [],d,a,k,_,e=>by simp only[runS,Prod.mk.injEq]at e;rw[←e.1];exact Int.le_refl _
 |s::l,d,a,k,hs,e=>by
  rw[runS]at e;have b:=hs s (by simp) d
  split at e
  ·rw[e]at b;exact b
  ·exact Int.le_trans (run_st l (λt c=>hs t (by simp[c])) e) b
def Zr7{r:List Pt}{s:DiD→DiD×Int}(h:s∈mendS r N):(∃n,s=λd=>Zbb d n)∨(∃n k,s=λd=>opCut d n k)∨(∃n,s=λd=>Za0 d n):=by
 unfold mendS at h
 rcases List.mem_append.1 h with h|h
 ·obtain⟨n,_,rfl⟩:=Y3.1 h;exact .inl ⟨n,rfl⟩
 ·rcases List.mem_append.1 h with h|h
  ·obtain⟨p,_,a⟩:=List.mem_flatMap.1 h;unfold cutS at a
   split at a
   ·have:=List.mem_singleton.1 a;exact .inr (.inl ⟨_,_,this⟩)
   ·cases a
  ·unfold synS at h
   split at h
   ·cases h
   ·split at h
    ·cases h
    ·exact .inr (.inr ⟨_,List.mem_singleton.1 h⟩)
def mendS_P{r:List Pt}:∀s∈mendS r N,∀d:DiD,d.P→(s d).1.P:=by
 intro s b d a
 rcases Zr7 b with⟨n,rfl⟩|⟨n,k,rfl⟩|⟨n,rfl⟩
 ·exact Zji a
 ·exact Ztw a
 ·exact Zim a
def mendS_st{r:List Pt}:∀s∈mendS r N,∀d:DiD,(s d).1.st≤d.st:=by
 intro s a d
 rcases Zr7 a with⟨n,rfl⟩|⟨n,k,rfl⟩|⟨n,rfl⟩
 ·exact Zhh
 ·exact Zpr
 ·exact Zil
def Zn8{d a:DiD}(w:d.P)(x:d.dn=false)(hst:d.st= -1)(y:GoodR (rowK d.fs).1 (keptF d.fs) (baseF d.fs))(h:runS d (mendS (rowK d.fs).1 (rowK d.fs).2)=(a,0)):
  a.P∧a.dn=false∧a.st= -1∧(rowK a.fs).2=[]∧GoodR (rowK a.fs).1 (keptF a.fs) (baseF a.fs)∧(∀p∈(rowK a.fs).1,p.n=(segL p.d).length)∧runS a (mendS (rowK a.fs).1 (rowK a.fs).2)=(a,0)∧
   stR (rowK a.fs).1 (keptF a.fs) (baseF a.fs)=stR (rowK d.fs).1 (keptF d.fs) (baseF d.fs):=by
 obtain⟨z,e,A,u,b,C,D,c⟩:=Zuq w.2.2.2 h;have i:=run_P _ mendS_P w h;have j:a.st= -1:=(by have J:=run_st _ mendS_st h;have K:=i.1.2.2.2;omega);have k:a.dn=false:=(by rw[b.dn];exact x);have l:=Zcx D;rw[c]at l;have H:z.map ptW=(segs a.fs).map (ptF scF):=congrArg Prod.fst l;have v:∀p∈(segs a.fs).map (ptF scF),p.n=(segL p.d).length:=by intro p m;rw[←H]at m;obtain⟨f,_,rfl⟩:=Y3.1 m;rfl
 have o:∀g,(segs a.fs).getLast?=some g→(scF g).sl=false→g.lo=[]:=(by intro g q r;rw[C,List.getLast?_map]at q;obtain⟨f,G,rfl⟩:=Option.map_eq_some_iff.1 q;have s:f∈z:=List.mem_of_getLast? G;have t:(scF f).num≠0:=(by rw[Zbk A f s];exact u f s);have E:=(Zga t).1;have F:scF (menF f)=scF f:=Zbq E (menF_by t);rw[F]at r;unfold menF;rw[if_neg (by rw[r];simp)]);refine⟨i,k,j,by rw[c],?_,?_,Zzs i k j D v o,?_⟩
 ·rw[c,b.kept,b.base];rw[e]at y;exact Zra y
 ·rw[c];intro p m;obtain⟨f,_,rfl⟩:=Y3.1 m;rfl
 ·rw[c,b.kept,b.base,e];exact Zs6 _ _ _
def follO(d:Sc):Option Sc→Prop
 |none=>True
 |some a=>foll d a
instance (d:Sc) (p:Option Sc):Decidable (follO d p):=by
 cases p with
 |none=>exact isTrue trivial
 |some a=>exact inferInstanceAs (Decidable (foll d a))
def rowN(a:FiD→Sc):Option Sc→List FiD→Nat
 |_,[]=>0
 |p,f::l=>if(a f).num=numS f.nm∧follO (a f) p then rowN a (some (a f)) l+1 else 0
def Zt6(a:FiD→Sc):∀(l:List FiD) (p:Option Sc),rowN a p l≤l.length
 | [],p=>Nat.le_refl _
 |f::l,p=>by
  unfold rowN;have:=Zt6 a l (some (a f))
  split
  ·rw[List.length_cons];omega
  ·exact Wy _
def Zt7(a:FiD→Sc):∀(l:List FiD) (p:Option Sc),inRow a p (l.take (rowN a p l))
 | [],p=>by simp[rowN,inRow]
 |f::l,p=>by
  unfold rowN
  split
  next h=>rw[List.take_succ_cons];exact⟨h.1,by cases p<;>exact h.2,Zt7 a l _⟩
  ·exact trivial
def Zr0(b:FiD→Sc):∀(l:List FiD) (r:List Pt),(∀f∈l,numS f.nm≠0)→l.foldl (rstep b) (r,[])=(r++(l.take (rowN b (r.getLast?.map (·.d)) l)).map (ptF b),(l.drop (rowN b (r.getLast?.map (·.d)) l)).map FiD.nm)
 | [],r,_=>by simp
 |f::l,r,hn=>by
  rw[List.foldl_cons]
  have c:mayR b r [] f↔((b f).num=numS f.nm∧follO (b f) (r.getLast?.map (·.d))):=by
   unfold mayR follO
   cases r.getLast? with
   |none=>simp
   |some a=>simp
  by_cases hm:mayR b r [] f
  ·rw[show rstep b (r,[]) f=(r++[ptF b f],[])from by unfold rstep;rw[if_neg (hn f (by simp)),if_pos hm]];rw[Zr0 b l (r++[ptF b f]) λg h=>hn g (by simp[h])];have e:rowN b (r.getLast?.map (·.d)) (f::l)=rowN b (some (b f)) l+1:=(by rw[rowN,if_pos (c.1 hm)]);rw[e,List.take_succ_cons,List.drop_succ_cons];simp
  ·rw[show rstep b (r,[]) f=(r,[]++[f.nm])from by unfold rstep;rw[if_neg (hn f (by simp)),if_neg hm]];have e:rowN b (r.getLast?.map (·.d)) (f::l)=0:=(by rw[rowN,if_neg (λq=>hm (c.2 q))]);rw[e,Zl6 b l r _ (λg h=>hn g (by simp[h])) (by simp)];simp
def Zzv(l:List FiD):rowsD scF l=(((segs l).take (rowN scF none (segs l))).map (ptF scF),((segs l).drop (rowN scF none (segs l))).map FiD.nm):=by
 unfold rowsD;rw[Zcg,Zr0 scF _ [] Zbn];simp
def Zr1(a:FiD→Sc):∀(l:List FiD) (p:Option Sc) (m:Nat),rowN a p (l.take m)=min (rowN a p l) m
 | [],p,m=>by simp[rowN]
 |f::l,p,0=>by simp[rowN]
 |f::l,p,m+1=>by
  rw[List.take_succ_cons,rowN,rowN]
  split
  ·rw[Zr1 a l _ m];omega
  ·simp
def Zp2:∀(gs:List FiD) (g:FiD) (p:Option Sc),inRow scF p (gs++[g])→(∀f∈gs++[g],numS f.nm≠0)→∀f∈gs++[g],(scF f).s≤(scF g).s
 | [],g,p,h,hn,f,hf=>by have:f=g:=(by simpa using hf);subst this;exact Int.le_refl _
 |x::gs,g,p,h,hn,f,hf=>by
  obtain⟨_,_,h3⟩:=h
  rcases List.mem_cons.1 hf with rfl|hf
  ·-- the part behind begins where this one ends
   have key:∀y l',gs++[g]=y::l'→(scF f).s≤(scF y).s:=by
    intro y l' e;have h3':inRow scF (some (scF f)) (gs++[g]):=h3;rw[e]at h3';obtain⟨y1,y2,_⟩:=h3';have hy0:(scF y).num≠0:=by rw[y1];exact hn y (by rw[Y5,e];simp)
    have hok:=(Zga hy0).1;have h5:=Zm0 _ _ _ _ (hok.evs hy0);have h6:=hok.fin hy0;simp only[Wq]at h6;rw[←h6.1]at h5;have h7:(scF y).bs=(scF f).s:=y2.2.2.1;omega
   cases gs with
   |nil=>exact key g [] rfl
   |cons y gs=>have h1:=key y (gs++[g]) rfl;have h2:=Zp2 (y::gs) g (some (scF f)) h3 (λz hz=>hn z (by simp at hz⊢;exact .inr hz)) y (by simp);exact Int.le_trans h1 h2
  ·exact Zp2 gs g (some (scF x)) h3 (λz hz=>hn z (by simp at hz⊢;exact .inr hz)) f hf
noncomputable def nK(l:List FiD):Nat:=match((segs l).take (rowN scF none (segs l))).getLast? with
 |none=>rowN scF none (segs l)
 |some g=>if(scF g).s<keptF l then 0 else rowN scF none (segs l)
def nK_le(l:List FiD):nK l≤(segs l).length:=by
 have:=Zt6 scF (segs l) none;unfold nK
 split
 ·exact this
 ·split
  ·exact Wy _
  ·exact this
def Zp8(l:List FiD):rowK l=(((segs l).take (nK l)).map (ptF scF),((segs l).drop (nK l)).map FiD.nm):=by
 have b:=Zt7 scF (segs l) none;unfold rowK nK;rw[Zzv,List.getLast?_map]
 cases hg:((segs l).take (rowN scF none (segs l))).getLast? with
 |none=>rfl
 |some g=>
  simp only[YL];by_cases hk:(scF g).s<keptF l
  ·rw[if_pos hk,if_pos (show(ptF scF g).d.s<keptF l from hk)];have e:(((segs l).take (rowN scF none (segs l))).map (ptF scF)).map (λp=>segNm p.d.num)=((segs l).take (rowN scF none (segs l))).map FiD.nm:=(by rw[List.map_map];apply List.map_congr_left;intro f a;show segNm (scF f).num=f.nm;rw[Zbk b f a];exact Zfn (Zbn f (List.mem_of_mem_take a)));rw[e,←List.map_append,List.take_append_drop];simp
  ·rw[if_neg hk,if_neg (show¬(ptF scF g).d.s<keptF l from hk)]
def nK_take{l b:List FiD}{m:Nat}(j:segs b=(segs l).take m)(k:keptF b=keptF l)(v:nK l≤m):nK b=nK l:=by
 have h:rowN scF none (segs b)=min (rowN scF none (segs l)) m:=(by rw[j,Zr1]);have o:=Zt7 scF (segs l) none;have c:(segs b).take (rowN scF none (segs b))=(segs l).take (min (rowN scF none (segs l)) m):=by rw[h,j,List.take_take];congr 1;omega
 cases hg:((segs l).take (rowN scF none (segs l))).getLast? with
 |none=>have a:nK l=rowN scF none (segs l):=(by unfold nK;rw[hg]);have e1:min (rowN scF none (segs l)) m=rowN scF none (segs l):=(by omega);unfold nK at a⊢;rw[c,e1,hg,h,e1]
 |some g=>
  by_cases hs:(scF g).s<keptF l
  ·have a:nK l=0:=(by unfold nK;rw[hg];exact if_pos hs);rw[a];unfold nK;rw[c]
   cases hg':((segs l).take (min (rowN scF none (segs l)) m)).getLast? with
   |none=>simp only;have u:(segs l).take (min (rowN scF none (segs l)) m)=[]:=WG.1 hg';have d:=congrArg List.length u;have p:=Zt6 scF (segs l) none;rw[List.length_take]at d;simp only[Y6]at d;rw[h];omega
   |some q=>
    simp only;obtain⟨n,e⟩:=WF.1 hg
    have i:q∈n++[g]:=by
     rw[←e];have d:=List.mem_of_getLast? hg';have p:(segs l).take (min (rowN scF none (segs l)) m)=((segs l).take (rowN scF none (segs l))).take m:=by rw[List.take_take];congr 1;omega
     rw[p]at d;exact List.mem_of_mem_take d
    have r:=Zp2 n g none (by rw[←e];exact o) (λf t=>Zbn f (List.mem_of_mem_take (by rw[e];exact t))) q i;rw[if_pos (by rw[k];omega)]
  ·have a:nK l=rowN scF none (segs l):=(by unfold nK;rw[hg];exact if_neg hs);have e1:min (rowN scF none (segs l)) m=rowN scF none (segs l):=(by omega);rw[a];unfold nK;rw[c,e1,hg];simp only;rw[if_neg (by rw[k];exact hs),h,e1]
def rowK_take(b:segs Y=(segs y).take m)(c:keptF Y=keptF y)(d:nK y≤m):rowK Y=(((segs y).take (nK y)).map (ptF scF),(((segs y).take m).drop (nK y)).map FiD.nm):=by
 rw[Zp8,nK_take b c d,b,List.take_take];congr 3;omega
def rowK_map{h:FiD→FiD}(k:srt FiD.nm Y)(c:segs Y=(segs y).map h)(d:∀f∈segs y,(h f).nm=f.nm∧scF (h f)=scF f)(m:keptF Y=keptF y)(i:DkR y (segs y)):rowK Y=(((segs y).map h).map (ptF scF),[]):=by
 have j:DkR Y (segs Y):=by
  refine⟨k,rfl,by rw[c];exact Zlt d i.inr,λp b=>?_⟩;rw[c]at b;rw[m]
  rcases Y1 (segs y)with e|⟨gs,g,e⟩
  ·rw[e]at b;simp at b
  ·rw[List.concat_eq_append]at e;have n:=d g (by rw[e];simp);have o:=i.kept (ptF scF g) (by rw[e];simp);rw[e]at b;have e1:p=ptF scF (h g):=(by simpa using b.symm);subst e1;show keptF y≤(scF (h g)).s;rw[n.2];exact o
 rw[Zcx j,c]
def Zym(r:List Pt)(o:List BA)(x:BA):mendS r (o++[x])=(λd=>Zbb d x)::mendS r o:=by
 unfold mendS;rw[List.reverse_append];rfl
def Zno:∀(r:List Pt) {s:DiD→DiD×Int} {b:List (DiD→DiD×Int)},r.flatMap cutS=s::b→∃(Y:List Pt) (p:Pt) (X:List Pt),r=Y++p::X∧(∀q∈Y,cutS q=[])∧cutS p=[s]∧X.flatMap cutS=b
 | [],s,b,h=>by cases h
 |p::r,s,b,h=>by
  rw[Yb]at h;by_cases hp:(segL p.d).length<p.n
  ·have e:cutS p=[λd=>opCut d (segNm p.d.num) (segL p.d).length]:=(by unfold cutS;rw[if_pos hp]);rw[e]at h;simp only[List.singleton_append,List.cons.injEq]at h;exact⟨[],p,r,rfl,λq c=>(by cases c),by rw[e,h.1],h.2⟩
  ·have e:cutS p=[]:=(by unfold cutS;rw[if_neg hp]);rw[e,List.nil_append]at h;obtain⟨Y,q,X,f,g,i,j⟩:=Zno r h;refine⟨p::Y,q,X,by rw[f];rfl,λz a=>?_,i,j⟩
   rcases List.mem_cons.1 a with rfl|a
   ·exact e
   ·exact g z a
def Zs0{d b:DiD}{gs B:List FiD}(h:srt FiD.nm d.fs)(l:(segs d.fs).drop (nK d.fs)=B++[f])(m:Zbb d f.nm=(b,0)):Same d b∧rowK b.fs=((rowK d.fs).1,B.map FiD.nm):=by
 obtain⟨_,_,e1,e2,n⟩:=Zfh m;have a:=List.take_append_drop (nK d.fs) (segs d.fs);rw[l,←List.append_assoc]at a;have e:numS f.nm≠0:=Zbn f (by rw[←a];simp);have g:segs b.fs=(segs d.fs).take (nK d.fs)++B:=by rw[e1,Zrg,←a];refine(Zrh ?_).trans (by rw[a]);rw[a];exact Yx _ h
 have j:Same d b:=⟨by rw[e1];exact srt_wout h,by rw[e1];exact(Zgw e).1,by rw[e1];exact(Zgw e).2,e2,n⟩
 refine⟨j,?_⟩;have o:=nK_le d.fs;have c:((segs d.fs).take (nK d.fs)).length=nK d.fs:=by rw[List.length_take];omega
 have k:segs b.fs=(segs d.fs).take (nK d.fs+B.length):=(by rw[g];have:=List.take_left' (l₁:=(segs d.fs).take (nK d.fs)++B) (l₂:=[f]) (i:=nK d.fs+B.length) (by rw[List.length_append,c]);rw[a]at this;exact this.symm);rw[rowK_take k j.kept (by omega),Zp8 d.fs];congr 2;have:(segs d.fs).take (nK d.fs+B.length)=(segs d.fs).take (nK d.fs)++B:=(by rw[←k,g]);rw[this,YN (by rw[c];exact Nat.le_refl _),Yn (by rw[c];exact Nat.le_refl _),List.nil_append]
def dkR_rowN(a:srt FiD.nm y)(h:(segs y).drop (nK y)=[]):DkR y (segs y):=by
 refine dkR_of a ?_;rw[Zp8,h];rfl
def cutF_len(h:(scF f).num≠0):(cutF f).len=(segL (scF f)).length:=by rw[←Zhd,Ztf h]
def Zul(h:(scF f).num≠0):scF (cutF f)=scF f:=Zbq (Zga h).1 (Ztf h)
def step_cut{d b:DiD}(c:srt FiD.nm d.fs)(q:DkR d.fs (segs d.fs))(e:segs d.fs=y++f::Y)(r:(segL (scF f)).length<f.len)(X:opCut d (segNm (scF f).num) (segL (scF f)).length=(b,0)):Same d b∧rowK b.fs=((y++cutF f::Y).map (ptF scF),[]):=by
 have i:numS f.nm≠0:=Zbn f (by rw[e];simp);have k:(scF f).num=numS f.nm:=Zbk q.inr f (by rw[e];simp);have t:(scF f).num≠0:=(by rw[k];exact i);obtain⟨_,g,n,_,_,a,A,C⟩:=Zkq X;have u:segNm (scF f).num=f.nm:=(by rw[k];exact Zfn i);rw[u]at n a;have j:f∈d.fs:=(List.mem_filter.1 (show f∈d.fs.filter isSeg by rw[show d.fs.filter isSeg=y++f::Y from e];simp)).1;rw[Zif c j]at n
 cases n
 have v:cutF f=⟨f.nm,f.su.take ((segL (scF f)).length:Int).toNat,f.lo.take (((segL (scF f)).length:Int).toNat-f.su.length)⟩:=(by unfold cutF;rw[if_pos r];simp);rw[←v]at a;have l:numS (cutF f).nm≠0:=by rw[Zde];exact i
 have o:Same d b:=⟨by rw[a];exact Zba c,by rw[a];exact Zcp l,by rw[a];exact Zdy l,A,C⟩
 refine⟨o,?_⟩;have m:segs b.fs=(segs d.fs).map λg=>if g.nm=(cutF f).nm then cutF f else g:=(by rw[a];exact Zp3 c ⟨f,j,(Zde f).symm⟩);have p:segs b.fs=y++cutF f::Y:=by rw[a];exact Zv6 c e (Zde f).symm
 have D:=rowK_map (h:=λg=>if g.nm=(cutF f).nm then cutF f else g) o.srt m (λx z=>by
  by_cases hxn:x.nm=(cutF f).nm
  ·have w:x=f:=(by have s:x∈d.fs:=(List.mem_filter.1 z).1;exact Zmm c s j (by rw[hxn,Zde]));subst w;show(if x.nm=(cutF x).nm then cutF x else x).nm=x.nm∧scF (if x.nm=(cutF x).nm then cutF x else x)=scF x;rw[if_pos hxn];exact⟨Zde x,Zul t⟩
  ·show(if x.nm=(cutF f).nm then cutF f else x).nm=x.nm∧scF (if x.nm=(cutF f).nm then cutF f else x)=scF x;rw[if_neg hxn]
   exact⟨rfl,rfl⟩) o.kept q
 rw[D,←m,p]
def synS_d{r a:List Pt}(h:r.getLast?.map (·.d)=a.getLast?.map (·.d)):synS r=synS a:=by
 unfold synS
 cases hr:r.getLast? with
 |none=>
  cases hr':a.getLast? with
  |none=>rfl
  |some q=>rw[hr,hr']at h;cases h
 |some p=>
  cases hr':a.getLast? with
  |none=>rw[hr,hr']at h;cases h
  |some q=>rw[hr,hr']at h;have h:p.d=q.d:=(by simpa using h);simp only[h]
def step_mend{d g:DiD}{s:DiD→DiD×Int}{c:List (DiD→DiD×Int)}(k:srt FiD.nm d.fs)(h:mendS (rowK d.fs).1 (rowK d.fs).2=s::c)(C:c≠[])(t:s d=(g,0)):Same d g∧mendS (rowK g.fs).1 (rowK g.fs).2=c:=by
 rcases Y1 ((segs d.fs).drop (nK d.fs))with hd|⟨B,f,hd⟩
 ·have r:=dkR_rowN k hd;rw[Zcx r]at h;unfold mendS at h;simp only[List.reverse_nil,List.map_nil,List.nil_append]at h
  cases hfm:((segs d.fs).map (ptF scF)).reverse.flatMap cutS with
  |nil=>
   rw[hfm,List.nil_append]at h;exfalso;unfold synS at h
   split at h
   ·cases h
   ·split at h
    ·cases h
    ·simp only[List.cons.injEq]at h;exact C h.2.symm
  |cons N O=>
   rw[hfm]at h;simp only[Y5,List.cons.injEq]at h;obtain⟨rfl,l⟩:=h;obtain⟨D,p,E,e1,e2,a,F⟩:=Zno _ hfm;have M:(segs d.fs).map (ptF scF)=E.reverse++p::D.reverse:=(by have:=congrArg List.reverse e1;rw[WZ]at this;rw[this];simp);obtain⟨X,R,i,G,H⟩:=List.map_eq_append_iff.1 M;obtain⟨f,Y,J,K,L⟩:=List.map_eq_cons_iff.1 H;subst J;subst K
   have j:(segL (scF f)).length<f.len:=by
    unfold cutS at a
    split at a
    next q=>exact q
    ·cases a
   have v:N=λd=>opCut d (segNm (scF f).num) (segL (scF f)).length:=(by unfold cutS at a;rw[if_pos (show(segL (ptF scF f).d).length<(ptF scF f).n from j)]at a;simp only[List.cons.injEq,and_true]at a;exact a.symm);subst v;obtain⟨m,o⟩:=step_cut k r i j t;refine⟨m,?_⟩;have w:numS f.nm≠0:=Zbn f (by rw[i];simp);have b:(scF f).num≠0:=(by rw[Zbk r.inr f (by rw[i];simp)];exact w);rw[o];unfold mendS;simp only[List.reverse_nil,List.map_nil,List.nil_append];have x:cutS (ptF scF (cutF f))=[]:=by unfold cutS;rw[if_neg];show¬(segL (scF (cutF f))).length<(cutF f).len;rw[Zul b,cutF_len b];omega
   have z:(Y.map (ptF scF)).reverse.flatMap cutS=[]:=by
    apply List.flatMap_eq_nil_iff.2;intro q u;refine e2 q ?_;rw[L]at u
    simpa using u
   have A:(X.map (ptF scF)).reverse.flatMap cutS=O:=(by rw[G,WZ];exact F);rw[List.map_append,List.map_cons,List.reverse_append,List.reverse_cons,List.flatMap_append,List.flatMap_append,z,A];simp only[Yb,WM,x,List.nil_append];rw[←l];congr 1;apply synS_d;rw[i,List.map_append,List.map_cons]
   cases Y with
   |nil=>simp only[List.map_nil,List.getLast?_concat,YL];exact congrArg some (Zul b)
   |cons y Y=>rw[Y00,Y00];simp[List.getLast?_cons_cons]
 ·rw[List.concat_eq_append]at hd;have e:=Zp8 d.fs;rw[hd,List.map_append]at e;rw[e]at h;simp only[List.map_cons,List.map_nil]at h;rw[Zym]at h;simp only[List.cons.injEq]at h;obtain⟨rfl,l⟩:=h;obtain⟨m,o⟩:=Zs0 (gs:=[]) k hd t;refine⟨m,?_⟩;rw[o,e];exact l
def Zqe:∀(a b:List (DiD→DiD×Int)) {d c:DiD},srt FiD.nm d.fs→mendS (rowK d.fs).1 (rowK d.fs).2=a++b→b≠[]→runS d a=(c,0)→mendS (rowK c.fs).1 (rowK c.fs).2=b∧(srt FiD.nm c.fs∧keptF c.fs=keptF d.fs)
 | [],b,d,c,hs,h,hb,h1=>by simp only[runS,Prod.mk.injEq]at h1;rw[←h1.1];exact⟨h,hs,rfl⟩
 |s::a,b,d,c,hs,h,hb,h1=>by obtain⟨m,f,g⟩:=Zgb h1;obtain⟨e,i⟩:=step_mend hs h (by simp[hb]) f;obtain⟨j,k,l⟩:=Zqe a b e.srt i hb g;exact⟨j,k,l.trans e.kept⟩
inductive Stp where
 |cre (s:BA)
 |wri (s:BA) (x:List UInt8)
 |syn (s:BA)
 |rem (s:BA)
 |cut (s:BA) (n:Int)
def Stp.run:Stp→DiD→DiD×Int
 | .cre s,d=>Zbi d s
 | .wri s x,d=>Zav d s x
 | .syn s,d=>Za0 d s
 | .rem s,d=>Zbb d s
 | .cut s n,d=>opCut d s n
def runP:DiD→List Stp→DiD×Int
 |d,[]=>(d,0)
 |d,s::l=>if(s.run d).2≠0 then s.run d else runP (s.run d).1 l
def Zqx:∀(l:List Stp) (d:DiD),runP d l=runS d (l.map Stp.run)
 | [],d=>rfl
 |s::l,d=>by rw[runP,List.map_cons,runS,Zqx l]
abbrev nmG(n:Int):BA:=Sgr.segNm n
theorem Zed{n:Int}(h:inN n):nmG n=Jou.segNm n:=by
 unfold nmG Sgr.segNm;rw[if_pos (show 1≤n∧n≤99999999 from h)];rfl
def nmG_no(h:¬inN i):nmG i=ByteArray.mk #[]:=by
 unfold nmG Sgr.segNm;rw[if_neg (show¬(1≤i∧i≤99999999)from h)]
def cutP(p:Pt):List Stp:=if(segL p.d).length<p.n then[.cut (nmG p.d.num) (segL p.d).length]else[]
def synP(r:List Pt):List Stp:=match r.getLast? with
 |none=>[]
 |some p=>if p.d.sl=true then[]else[.syn (nmG p.d.num)]
def mendP(r:List Pt)(o:List BA):List Stp:=o.reverse.map Stp.rem++(r.reverse.flatMap cutP++synP r)
def Zot{r:List Pt}{o:List BA}(h:∀p∈r,inN p.d.num):(mendP r o).map Stp.run=mendS r o:=by
 unfold mendP mendS;rw[List.map_append,List.map_append,List.map_map];congr 1;congr 1
 ·rw[List.map_flatMap]
  have:∀p∈r.reverse,(cutP p).map Stp.run=cutS p:=λp b=>by
   unfold cutP cutS;rw[Zed (h p (by simpa using b))]
   split<;>rfl
  revert this
  generalize r.reverse=l;intro this
  induction l with
  |nil=>rfl
  |cons x l c=>
   grind
 ·unfold synP synS
  cases hr:r.getLast? with
  |none=>rfl
  |some p=>
   dsimp only
   rw[Zed (h p (List.mem_of_getLast? hr))]
   split<;>rfl
def repE(k:Int):StD→List Cod.EvD→StD×Bool
 |s,[]=>(s,true)
 |s,e::l=>if e.s≤k then repE k s l else if(appS s (toE e)).2≠0 then((appS s (toE e)).1,false)else repE k (appS s (toE e)).1 l
def repR(k:Int):StD→List Pt→StD×Bool
 |s,[]=>(s,true)
 |s,p::r=>if(p.d.ev.length:Int)≠p.d.s-p.d.bs then(s,false)else if(repE k s p.d.ev).2=false then repE k s p.d.ev else repR k (repE k s p.d.ev).1 r
def repP(r:List Pt)(s:StD):StD×Bool:=match r.head?,r.getLast? with
 |some p,some q=>if s.q<p.d.bs then(s,false)else if(repR s.q s r).2=false then repR s.q s r else((repR s.q s r).1,decide (q.d.a=(repR s.q s r).1.t))
 |_,_=>(s,true)
def Zh1(k:Int):∀(l:List Cod.EvD) (s:StD),repE k s l=((foldS s ((l.map toE).filter λe=>decide (k<e.s))).1,decide ((foldS s ((l.map toE).filter λe=>decide (k<e.s))).2.2=0))∨((repE k s l).2=false∧(foldS s ((l.map toE).filter λe=>decide (k<e.s))).2.2≠0)
 | [],s=>.inl rfl
 |e::l,s=>by
  rw[repE,List.map_cons,List.filter_cons];by_cases h:e.s≤k
  ·have a:decide (k<(toE e).s)=false:=decide_eq_false (Int.not_lt.2 h);rw[if_pos h,a];exact Zh1 k l s
  ·have a:decide (k<(toE e).s)=true:=decide_eq_true (Int.not_le.1 h);rw[if_neg h,a,if_pos rfl,foldS];by_cases h2:(appS s (toE e)).2≠0
   ·grind
   simp_all[Zh1]
theorem Zld:∀(l m:List Cmp.EvD) (s:StD),(foldS s l).2.2=0→(foldS s (l++m)).1=(foldS (foldS s l).1 m).1∧(foldS s (l++m)).2.2=(foldS (foldS s l).1 m).2.2
 | [],m,s,_=>⟨rfl,rfl⟩
 |e::l,m,s,h=>by
  rw[foldS]at h;rw[Y5,foldS,foldS];by_cases h2:(appS s e).2≠0
  ·grind
  simp_all[Zld]
theorem Zh2:∀(l m:List Cmp.EvD) (s:StD),(foldS s l).2.2≠0→(foldS s (l++m)).2.2≠0
 | [],m,s,h=>absurd rfl h
 |e::l,m,s,h=>by
  rw[foldS]at h;rw[Y5,foldS];by_cases h2:(appS s e).2≠0
  ·grind
  simp_all[Zh2]
def Zou(k:Int):∀(r:List Pt) (s:StD),(repR k s r).2=true→(∀p∈r,(p.d.ev.length:Int)=p.d.s-p.d.bs)∧(foldS s ((evsR r).filter λe=>decide (k<e.s))).2.2=0∧(repR k s r).1=(foldS s ((evsR r).filter λe=>decide (k<e.s))).1
 | [],s,_=>⟨by simp,rfl,rfl⟩
 |p::r,s,h=>by
  rw[repR]at h⊢;by_cases h1:(p.d.ev.length:Int)≠p.d.s-p.d.bs
  ·grind
  rw[if_neg h1]at h⊢;by_cases h2:(repE k s p.d.ev).2=false
  ·grind
  rw[if_neg h2]at h⊢;have g:evsR (p::r)=p.d.ev.map toE++evsR r:=rfl
  rcases Zh1 k p.d.ev s with e|⟨e,_⟩
  ·rw[e]at h2 h⊢;have f:(foldS s ((p.d.ev.map toE).filter λe=>decide (k<e.s))).2.2=0:=(by grind);obtain⟨a,b,c⟩:=Zou k r _ h
   grind [Zld,evsR]
  grind
def Zov(k:Int):∀(r:List Pt) (s:StD),(∀p∈r,(p.d.ev.length:Int)=p.d.s-p.d.bs)→(foldS s ((evsR r).filter λe=>decide (k<e.s))).2.2=0→(repR k s r).2=true
 | [],s,_,_=>rfl
 |p::r,s,h,h0=>by
  have a:evsR (p::r)=p.d.ev.map toE++evsR r:=rfl;rw[a,List.filter_append]at h0;rw[repR,if_neg (by simpa using h p (by simp))]
  rcases Zh1 k p.d.ev s with e|⟨_,e⟩
  ·by_cases h2:(foldS s ((p.d.ev.map toE).filter λe=>decide (k<e.s))).2.2=0
   ·simp_all[Zld,Zov]
   grind [Zh2]
  grind [Zh2]
def repP_iff{r:List Pt}{s:StD}:(repP r s).2=true↔GoodR r s.q s:=by
 unfold repP
 cases hr:r.head? with
 |none=>have:r=[]:=WT.1 hr;subst this;exact⟨λ_=>⟨by simp,by simp,rfl,by simp⟩,λ_=>rfl⟩
 |some p=>
  obtain⟨q,hq⟩:∃q,r.getLast?=some q:=by
   cases r with
   |nil=>cases hr
   |cons x l=>exact⟨_,Ws (by simp)⟩
  rw[hq]
  dsimp only
  constructor
  ·intro h
   split at h
   ·cases h
   rename_i j
   split at h
   ·grind
   rename_i f;have g:(repR s.q s r).2=true:=(by grind);obtain⟨a,b,c⟩:=Zou s.q r s g;refine⟨λx e=>?_,a,b,λx e=>?_⟩
   ·grind
   ·rw[hq]at e;cases e;have i:q.d.a=(repR s.q s r).1.t:=(by simpa using h);rw[i,c];rfl
  ·intro h;have f:=Zov s.q r s h.cnt h.app;obtain⟨_,_,c⟩:=Zou s.q r s f;rw[if_neg (by have:=h.bs p hr;omega),if_neg (by rw[f];simp)];have:=h.at_ q hq;show decide _=true;rw[decide_eq_true_eq,c];exact this
theorem repP_st{r:List Pt}{s:StD}(h:GoodR r s.q s):(repP r s).1=stR r s.q s:=by
 unfold repP
 cases hr:r.head? with
 |none=>have:r=[]:=WT.1 hr;subst this;rfl
 |some p=>
  obtain⟨q,hq⟩:∃q,r.getLast?=some q:=by
   cases r with
   |nil=>cases hr
   |cons x l=>exact⟨_,Ws (by simp)⟩
  rw[hq]
  dsimp only
  have a:=Zov s.q r s h.cnt h.app;obtain⟨_,_,c⟩:=Zou s.q r s a;rw[if_neg (by have:=h.bs p hr;omega),if_neg (by rw[a];simp)];exact c
instance (b g:Int):Decidable (mayC b g):=inferInstanceAs (Decidable (_∧_))
def jo0(d:DiD):JoD:=⟨d,0,0,[],⟨0,0,[]⟩,st0,0,0,false⟩
noncomputable def menD(d:DiD):DiD×Int:=runP d (mendP (rowK d.fs).1 (rowK d.fs).2)
open Classical in
noncomputable def openP(d:DiD)(cb cg:Int):JoD×Int:=
 if¬(d.P∧mayC cb cg)then(jo0 d,1)else if d.dn=true then(jo0 d,16)
 else if¬GoodR (rowK d.fs).1 (keptF d.fs) (baseF d.fs)then(jo0 d,11)
 else if(menD d).2≠0 then(jo0 (menD d).1,(menD d).2)
 else(⟨(menD d).1,cb,cg,(rowK d.fs).1.map sgOf,Zbo (rowK d.fs).1,stR (rowK d.fs).1 (keptF d.fs) (baseF d.fs),(stR (rowK d.fs).1 (keptF d.fs) (baseF d.fs)).q,keptF d.fs,false⟩,0)
open Classical in
noncomputable def mayJ(j:JoD):Int:=if j.dk.P∧j.dk.dn=true then 16 else if¬RightJ j then 1 else 0
def Zcm{j:JoD}:mayJ j=0↔RightJ j:=by
 unfold mayJ;constructor
 ·grind
 ·intro h;rw[if_neg (λq=>by rw[h.up]at q;cases q.2),if_neg (by simp[h])]
structure WrD where
 j:JoD
 td:List Stp
 sz:Int
def bys(l:List Int):List UInt8:=l.map λn=>UInt8.ofNat n.toNat
def putW(w:WrD)(l:List SgD)(p:SgD)(b:List Int):WrD:=⟨{w.j with sg:=l++[{p with sz:=p.sz+b.length}]},w.td++[.wri (nmG p.num) (bys b)],w.sz+b.length⟩
def selB(j:JoD)(p:SgD):List Int:=fr 3 (slP (p.la-p.fi) j.cx.s j.cx.a)
def sealW(w:WrD)(l:List SgD)(p:SgD):WrD:=
 ⟨{w.j with sg:=l++[{p with sz:=p.sz+(selB w.j p).length,sl:=true}],cx:=⟨0,0,[]⟩,sure:=w.j.st.q},w.td++[.wri (nmG p.num) (bys (selB w.j p)),.syn (nmG p.num)],w.sz+(selB w.j p).length⟩
def lasS(l:List SgD):Option (List SgD×SgD):=match l.getLast? with|none=>none|some p=>some (l.dropLast,p)
theorem Zae(l:List SgD)(p:SgD):lasS (l++[p])=some (l,p):=by simp[lasS]
def nxtN(w:WrD):Int:=match lasS w.j.sg with|none=>1|some (_,p)=>p.num+1
def hedB(j:JoD)(n:Int):List Int:=fr 1 (hdP n j.st.q j.st.t)
def begW(w:WrD):Option WrD:=if¬inN (nxtN w)∨64<w.j.dk.fs.length+1 then none else
 some ⟨{w.j with sg:=w.j.sg++[⟨nxtN w,w.j.st.q,w.j.st.q,w.j.st.t,w.j.st.t,(hedB w.j (nxtN w)).length,false⟩],cx:=⟨w.j.st.q,w.j.st.t,[]⟩},w.td++[.cre (nmG (nxtN w)),.wri (nmG (nxtN w)) (bys (hedB w.j (nxtN w)))],w.sz+(hedB w.j (nxtN w)).length⟩
def recL'(j:JoD)(e:Cod.EvD):List Int:=fr 2 (encL j.cx.s j.cx.a j.cx.m e)
def recW(w:WrD)(e:Cod.EvD):Option WrD:=match lasS w.j.sg with
 |none=>none
 |some (l,p)=>if encE w.j.cx.s w.j.cx.a w.j.cx.m e≠0 then none else
  some ⟨{w.j with sg:=l++[{p with sz:=p.sz+(recL' w.j e).length,la:=e.s,ti:=e.a}],cx:=⟨e.s,e.a,bhdN w.j.cx.m e.c⟩},w.td++[.wri (nmG p.num) (bys (recL' w.j e))],w.sz+(recL' w.j e).length⟩
def opnW(w:WrD):Bool:=match lasS w.j.sg with|none=>false|some (_,p)=>!p.sl
def ovrB(j:JoD)(e:Cod.EvD):Bool:=match lasS j.sg with
 |none=>false
 |some (_,p)=>if p.sl=true∨p.la≤p.fi then false else if encE j.cx.s j.cx.a j.cx.m e≠0∨j.cb<p.sz+(recL' j e).length then true else decide (j.cg<e.a-p.fr)
def shtJ(j:JoD):JoD×Int:=({j with shut:=true},13)
def w0(j:JoD):WrD:=⟨j,[],0⟩
def w1(j:JoD)(e:Cod.EvD):WrD:=match lasS j.sg with|some (l,p)=>if ovrB j e=true then sealW (w0 j) l p else w0 j|none=>w0 j
def w2(j:JoD)(e:Cod.EvD):Option WrD:=if opnW (w1 j e)=true then some (w1 j e)else begW (w1 j e)
def w3(j:JoD)(e:Cod.EvD):Option WrD:=match w2 j e with|none=>none|some w=>recW w e
def endJ(j:JoD)(s:StD)(w:WrD):JoD×Int:=if j.dk.rm<usedL j.dk.fs+w.sz then shtJ j else if(runP j.dk w.td).2≠0 then({j with dk:=(runP j.dk w.td).1},(runP j.dk w.td).2)else({w.j with dk:=(runP j.dk w.td).1,st:=s},0)
def evN(j:JoD)(e:Cod.EvD):Cod.EvD:={e with s:=j.st.q+1}
def appQ(j:JoD)(e:Cod.EvD):JoD×Int:=
 if(appS j.st (toE (evN j e))).2≠0 then(j,(appS j.st (toE (evN j e))).2)else if j.shut=true then(j,13)else match w3 j (evN j e)with
 |none=>shtJ j
 |some w=>endJ j (appS j.st (toE (evN j e))).1 w
noncomputable def appP(j:JoD)(e:Cod.EvD):JoD×Int:=if mayJ j≠0 then(j,mayJ j)else appQ j e
def synQ(j:JoD):JoD×Int:=match lasS j.sg with
 |none=>({j with sure:=j.st.q},0)
 |some (_,p)=>if p.sl=true then({j with sure:=j.st.q},0)else if(Za0 j.dk (nmG p.num)).2≠0 then({j with dk:=(Za0 j.dk (nmG p.num)).1},(Za0 j.dk (nmG p.num)).2)else({j with dk:=(Za0 j.dk (nmG p.num)).1,sure:=j.st.q},0)
noncomputable def synJ(j:JoD):JoD×Int:=if mayJ j≠0 then(j,mayJ j)else synQ j
def rotQ(j:JoD):JoD×Int:=match lasS j.sg with
 |none=>(j,14)
 |some (l,p)=>if p.sl=true∨p.la≤p.fi then(j,14)else endJ j j.st (sealW (w0 j) l p)
noncomputable def rotJ(j:JoD):JoD×Int:=if mayJ j≠0 then(j,mayJ j)else rotQ j
open Classical in
noncomputable def evsJ(j:JoD):List Cod.EvD:=if RightJ j then(rowK j.dk.fs).1.flatMap (·.d.ev)else[]
end Jou
namespace Jou
open Go Go.Px Go.Proofs Go.RowKit Go.Shelf Tryz
set_option maxHeartbeats 2000000
attribute [local go_sem] Oper.semAt_some
def backS:Zmy prog 183 (λc=>c 0) 1:=by
 refine⟨enters_of func183 (by kernel_rfl) rfl,?_⟩;intro l o q p b off len h r s t J Kp d j u W f v w;have A:=f W (d W);refine callsIn_of_wp func183 rfl trivial ?_ rfl;simp only[Tryz.ntmps183,YG,List.length_cons,Y6,Nat.reduceAdd,Nat.reduceSub,Wl,Wm,WD,Ww,List.nil_append,Y5]
 gi_wp2
 gi_loopw [3] (λi wr=>∃k:Nat,k≤len∧i= .int .i64 ((len:Int)-1-k)∧J k wr∧Kp W wr)
  (λi _=>(intOf i+1).toNat)
 case atStart=>exact⟨0,Wy _,by simp,w,d _⟩
 case round=>
  obtain⟨k,K,rfl,g,a⟩:=hrel;have E:wr.cell? ⟨o,q,none⟩=some (.slice p len h):=f wr a;by_cases hlt:k<len
  ·obtain⟨L,x,m,y,M,z⟩:=u k wr g hlt;have n:=s (by omega);subst n;have C:wr.cell? ⟨b,off+(len-1-k),none⟩=some (r (len-1-k) 0):=by have:=v (len-1-k) (by omega) 0 (by omega) wr a;simpa using this
   have F:(0:Int)≤(len:Int)-1-k:=(by omega);have D:(len:Int)-1-k<len:=(by omega);have G:((len:Int)-1-k).toNat=len-1-k:=by omega
   gi_wp2
   refine z.mono ?_;rintro e H ⟨rfl,hJ3,hk3⟩
   gi_wp2
   go_roundw
   case rel=>exact⟨k+1,by omega,by simp;omega,hJ3,j a hk3⟩
   case measure=>simp[intOf];omega
  ·obtain rfl:k=len:=by omega
   gi_wp2
   go_end0
   exact⟨⟨_,rfl⟩,g⟩
def backP:Zmy prog 185 (λc=>.agg #[c 0,c 1,c 2,c 3,c 4,c 5,c 6,c 7,c 8,c 9,c 10]) 11:=by
 refine⟨enters_of func185 (by kernel_rfl) rfl,?_⟩;intro l s t p b off len m d u v J Kp g n w W h f x;have C:=h W (g W);refine callsIn_of_wp func185 rfl trivial ?_ rfl;simp only[Tryz.ntmps185,YG,List.length_cons,Y6,Nat.reduceAdd,Nat.reduceSub,Wl,Wm,WD,Ww,List.nil_append,Y5]
 gi_wp2
 gi_loopw [3] (λi wr=>∃k:Nat,k≤len∧i= .int .i64 ((len:Int)-1-k)∧J k wr∧Kp W wr)
  (λi _=>(intOf i+1).toNat)
 case atStart=>exact⟨0,Wy _,by simp,x,g _⟩
 case round=>
  obtain⟨k,V,rfl,j,a⟩:=hrel;have Q:wr.cell? ⟨s,t,none⟩=some (.slice p len m):=h wr a;by_cases hlt:k<len
  ·obtain⟨X,y,o,z,Y,A⟩:=w k wr j hlt;have q:=u (by omega);subst q;have D:wr.cell? ⟨b,off+(len-1-k)*11,none⟩=some (d (len-1-k) 0):=by have:=f (len-1-k) (by omega) 0 (by omega) wr a;simpa using this
   have E:wr.cell? ⟨b,off+(len-1-k)*11+1,none⟩=some (d (len-1-k) 1):=(by have:=f (len-1-k) (by omega) 1 (by omega) wr a;simpa using this);have F:wr.cell? ⟨b,off+(len-1-k)*11+2,none⟩=some (d (len-1-k) 2):=(by have:=f (len-1-k) (by omega) 2 (by omega) wr a;simpa using this);have G:wr.cell? ⟨b,off+(len-1-k)*11+3,none⟩=some (d (len-1-k) 3):=(by have:=f (len-1-k) (by omega) 3 (by omega) wr a;simpa using this);have H:wr.cell? ⟨b,off+(len-1-k)*11+4,none⟩=some (d (len-1-k) 4):=(by have:=f (len-1-k) (by omega) 4 (by omega) wr a;simpa using this);have K:wr.cell? ⟨b,off+(len-1-k)*11+5,none⟩=some (d (len-1-k) 5):=(by have:=f (len-1-k) (by omega) 5 (by omega) wr a;simpa using this);have L:wr.cell? ⟨b,off+(len-1-k)*11+6,none⟩=some (d (len-1-k) 6):=(by have:=f (len-1-k) (by omega) 6 (by omega) wr a;simpa using this);have M:wr.cell? ⟨b,off+(len-1-k)*11+7,none⟩=some (d (len-1-k) 7):=(by have:=f (len-1-k) (by omega) 7 (by omega) wr a;simpa using this);have N:wr.cell? ⟨b,off+(len-1-k)*11+8,none⟩=some (d (len-1-k) 8):=(by have:=f (len-1-k) (by omega) 8 (by omega) wr a;simpa using this);have O:wr.cell? ⟨b,off+(len-1-k)*11+9,none⟩=some (d (len-1-k) 9):=(by have:=f (len-1-k) (by omega) 9 (by omega) wr a;simpa using this);have r:wr.cell? ⟨b,off+(len-1-k)*11+10,none⟩=some (d (len-1-k) 10):=(by have:=f (len-1-k) (by omega) 10 (by omega) wr a;simpa using this);have R:(0:Int)≤(len:Int)-1-k:=(by omega);have P:(len:Int)-1-k<len:=(by omega);have T:((len:Int)-1-k).toNat=len-1-k:=by omega
   gi_wp2
   refine A.mono ?_;rintro e U ⟨rfl,hJ3,hk3⟩
   gi_wp2
   go_roundw
   case rel=>exact⟨k+1,by omega,by simp;omega,hJ3,n a hk3⟩
   case measure=>simp[intOf];omega
  ·obtain rfl:k=len:=by omega
   gi_wp2
   go_end0
   exact⟨⟨_,rfl⟩,j⟩
def ItJ:Nat→Option (FuncId×TypeId):=λp=>bif Nat.beq p 12 then some (183,9)else bif Nat.beq p 22 then some (185,114)else none
def hItJ:∀p f e z,ItJ p=some (f,e)→szT prog e=some z→Zmy prog f (elOf prog e z) z:=by
 intro p f e z a b;unfold ItJ at a
 cases h1:Nat.beq p 12 with
 |true=>simp only[h1,cond_true,YQ,Prod.mk.injEq]at a;obtain⟨rfl,rfl⟩:=a;obtain rfl:=Option.some.inj (b.symm.trans (show szT prog 9=some 1 by kernel_rfl));exact(show elOf prog 9 1=(λc=>c 0) by kernel_rfl)▸backS
 |false=>
  simp only[h1,cond_false]at a
  cases h2:Nat.beq p 22 with
  |true=>simp only[h2,cond_true,YQ,Prod.mk.injEq]at a;obtain⟨rfl,rfl⟩:=a;obtain rfl:=Option.some.inj (b.symm.trans (show szT prog 114=some 11 by kernel_rfl));exact(show elOf prog 114 11=(λc=>.agg #[c 0,c 1,c 2,c 3,c 4,c 5,c 6,c 7,c 8,c 9,c 10]) by kernel_rfl)▸backP
  |false=>simp only[h2,cond_false]at a;cases a

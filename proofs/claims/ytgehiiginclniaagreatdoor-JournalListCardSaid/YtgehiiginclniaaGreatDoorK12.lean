import Derived.Test.YtgehiiginclniaaGreatDoorK11
import Derived.WalkKit
import Derived.TacticsInMore
import Derived.LoopNIn
import Derived.LoopIn
import Derived.Shelf.Abstract
import Derived.Test.YtgehiiginclniaaGreatDoorProg
set_option linter.all false
set_option maxRecDepth 100000
namespace Go.Proofs.YtgehiiginclniaaGreatDoor
namespace Snp
open Go Go.Px Go.Proofs Cod Seg Sgr Sx Row Dsk Tryz
def isF(f:FiD)(t:StD):Prop:=t.P∧f.nm=snNm t.q∧f.su++f.lo=snU t
def Cand(l:List FiD)(t:StD):Prop:=∃f∈l,isF f t
def Best(l:List FiD)(o:Option StD):Prop:=match o with|none=>∀t,¬Cand l t|some s=>Cand l s∧∀t,Cand l t→t.q≤s.q
def NewR(d:DiD)(s:StD)(e:Int):Prop:=
 (¬d.P∧s=st0∧e=1)∨(d.P∧d.dn=true∧s=st0∧e=16)∨(d.P∧d.dn=false∧((e=0∧Best d.fs (some s))∨(e=14∧s=st0∧Best d.fs none)))
def cand_uniq{l:List FiD}(c:srt FiD.nm l){a b:StD}(d:Cand l a)(h:Cand l b)(e:a.q=b.q):a=b:=by
 obtain⟨f,i,j,k,m⟩:=d;obtain⟨g,n,o,p,r⟩:=h;have:f=g:=Zol c i n (by rw[k,p,e]);subst this;exact Zn2 j o (by rw[←snU_i,←snU_i,←m,←r])
def Zp7{l:List FiD}(e:srt FiD.nm l){a b:StD}(c:Best l (some a))(d:Best l (some b)):a=b:=
 cand_uniq e c.1 d.1 (Int.le_antisymm (d.2 a c.1) (c.2 b d.1))
def NewR.eq{d:DiD}{s t:StD}{e f:Int}(h:NewR d s e)(k:NewR d t f):s=t∧e=f:=by
 rcases h with⟨a,rfl,rfl⟩|⟨a,h2,rfl,rfl⟩|⟨a,h2,c⟩<;>rcases k with⟨b,rfl,rfl⟩|⟨b,k2,rfl,rfl⟩|⟨b,k2,g⟩
 ·exact⟨rfl,rfl⟩
 ·exact absurd b a
 ·exact absurd b a
 ·exact absurd a b
 ·exact⟨rfl,rfl⟩
 ·rw[h2]at k2;cases k2
 ·exact absurd a b
 ·rw[h2]at k2;cases k2
 ·rcases c with⟨rfl,c⟩|⟨rfl,rfl,c⟩<;>rcases g with⟨rfl,g⟩|⟨rfl,rfl,g⟩
  ·exact⟨Zp7 a.2.2.2 c g,rfl⟩
  ·exact absurd c.1 (g _)
  ·exact absurd g.1 (c _)
  ·exact⟨rfl,rfl⟩
def Zf0{l:List FiD}{f:FiD}{t:StD}:Cand (l++[f]) t↔Cand l t∨isF f t:=by
 unfold Cand;constructor
 ·rintro⟨g,a,h⟩
  rcases List.mem_append.1 a with a|a
  ·exact .inl ⟨g,a,h⟩
  ·simp at a;subst a;exact .inr h
 ·rintro(⟨g,a,h⟩|h)
  ·exact⟨g,by simp[a],h⟩
  ·exact⟨f,by simp,h⟩
def best_skip{l:List FiD}{f:FiD}{o:Option StD}(h:Best l o)(b:∀t,isF f t→∃s,o=some s∧t.q≤s.q):Best (l++[f]) o:=by
 cases o with
 |none=>
  intro t a
  rcases Zf0.1 a with a|a
  ·exact h t a
  ·obtain⟨s,e,_⟩:=b t a;cases e
 |some s=>
  refine⟨Zf0.2 (.inl h.1),λt a=>?_⟩
  rcases Zf0.1 a with a|a
  ·exact h.2 t a
  ·obtain⟨d,e,c⟩:=b t a;cases e;exact c
def best_take{l:List FiD}{f:FiD}{o:Option StD}{s:StD}(h:Best l o)(b:isF f s)(c:∀t,o=some t→t.q<s.q):Best (l++[f]) (some s):=by
 refine⟨Zf0.2 (.inr b),λt a=>?_⟩
 rcases Zf0.1 a with a|a
 ·cases o with
  |none=>exact absurd a (h t)
  |some u=>have:=h.2 t a;have:=c u rfl;omega
 ·have e:t=s:=Zn2 a.1 b.1 (by rw[←snU_i,←snU_i,←a.2.2,←b.2.2]);rw[e];exact Int.le_refl _
def Hold(o:Option StD)(l:LL)(q t:Int):Prop:=match o with
 |none=>q= -1
 |some s=>l=coR s.cs∧q=s.q∧t=s.t∧s.P
def Zur{d:DiD}(h:d.P){i:Nat}(a:i<d.fs.length):(d.fs[i].su++d.fs[i].lo).length≤65536:=by
 have b:=h.1;have c:=h.2.1;have:=Zhx (List.getElem_mem a);unfold FiD.len at this;rw[List.length_append];omega
def get_at{d:DiD}(h:d.P){i:Nat}(a:i<d.fs.length):d.get d.fs[i].nm=some d.fs[i]:=(get_iff h.2.2.2).2 ⟨List.getElem_mem a,rfl⟩
def isF_of{f:FiD}{s:StD}{n e:Int}(a:SnD (iU (f.su++f.lo)) s e)(b:e=0)(c:NumR f.nm n true)(d:s.q=n):isF f s:=by
 subst b
 rcases a with⟨g,i,_⟩|⟨_,_,h⟩
 ·refine⟨g,?_,(snU_iff.1 i).symm⟩
  rcases c with⟨q,_,e,rfl,_⟩|⟨_,_,e⟩
  ·rw[d];exact e
  ·cases e
 ·exact absurd h.symm (Zt9 _)
def isF_num{f:FiD}{t:StD}{n:Int}{b:Bool}(h:isF f t)(d:NumR f.nm n b):b=true∧n=t.q:=by
 have c:=stP_q h.1
 rcases d with⟨q,a,e,rfl,rfl⟩|⟨a,_,_⟩
 ·exact⟨rfl,Zvc a c (e.symm.trans h.2.1)⟩
 ·exact absurd h.2.1 (a _ c)
def isF_dec{f:FiD}{t s:StD}{e:Int}(h:isF f t)(c:SnD (iU (f.su++f.lo)) s e):e=0∧s=t:=by
 have b:snB t=iU (f.su++f.lo):=snU_iff.2 h.2.2.symm
 rcases c with⟨a,d,g⟩|⟨a,_,_⟩
 ·exact⟨g,Zn2 a h.1 (d.trans b.symm)⟩
 ·exact absurd b (a t h.1)
def nnew_fn(d:DiD)(D:d.ok):Ct prog 113 {} [d.sv] (λr=>∃s e,r=[StD.sv s,I e]∧NewR d s e):=by
 refine nnew_nf (Cl.of (Zf4 d D) ⟨_,rfl,Zaa (λh=>?_) (λh=>?_)⟩)
 ·simp at h;exact⟨st0,1,rfl,.inl ⟨h,rfl,rfl⟩⟩
 simp at h;refine Zaa (λg=>⟨st0,16,rfl,.inr (.inl ⟨h,g,rfl,rfl⟩)⟩) (λg=>?_);have P:=h.1.1;refine Cl.of (Zu2 d (by omega)) ⟨_,rfl,?_⟩;have F:rlen (nR (d.fs.map FiD.nm))=d.fs.length:=(by simp[rlen]);rw[F];refine⟨λx y c z=>0≤x∧x≤d.fs.length∧∃o,Best (d.fs.take x.toNat) o∧Hold o y c z,λx _ _ _=>(d.fs.length-x).toNat,⟨by omega,by omega,none,(by rintro t ⟨f,A,_⟩;simp at A),rfl⟩,?_⟩;rintro x y c z ⟨x0,hx,o,hb,hh⟩
 have R: -1≤c:=by
  cases o with
  |none=>have:c= -1:=hh;omega
  |some s=>obtain⟨_,e,_,p⟩:=hh;have:=(stP_q p).1;omega
 have w:x<d.fs.length→wadd IntKind.i64 x 1=x+1:=λ_=>Zac (by omega) (by omega);refine Zaa (λk=>?_) (λk=>?_)
 ·simp at k;have a:x.toNat<d.fs.length:=(by omega);have i:d.fs.take (x+1).toNat=d.fs.take x.toNat++[d.fs[x.toNat]]:=by rw[show(x+1).toNat=x.toNat+1 by omega,List.take_succ_eq_append_getElem a]
  have skip:(∀t,isF d.fs[x.toNat] t→∃s,o=some s∧t.q≤s.q)→0≤x+1∧x+1≤d.fs.length∧∃o,Best (d.fs.take (x+1).toNat) o∧Hold o y c z:=λA=>
   ⟨by omega,by omega,o,by rw[i];exact best_skip hb A,hh⟩
  have C:Nat.le (Nat.succ (d.fs.length-(x+1)).toNat) (d.fs.length-x).toNat:=mlt (by omega);rw[w k];refine⟨⟨x0,k⟩,d.fs[x.toNat].nm,by simp[rget,a],Cl.ofQ (nnum_fn _) ?_⟩;rintro r ⟨n,b,rfl,hn⟩;refine⟨_,_,rfl,Zaa (λl=>⟨rfl,skip λt m=>?_,C⟩) (λl=>?_)⟩
  ·obtain⟨E,Q⟩:=isF_num m hn;subst E;have G:n≤c:=by simpa using l
   cases o with
   |none=>have:c= -1:=hh;have:=(stP_q m.1).1;omega
   |some s=>obtain⟨_,e,_,_⟩:=hh;exact⟨s,rfl,by omega⟩
  ·rw[bor_f]at l;have H:b=true:=(by simpa using l.1);subst H;have G:c<n:=by have:=l.2;simp at this;omega
   have er:d.er d.fs[x.toNat].nm d.fs[x.toNat].nm=0:=Zcp.2 ⟨h,g,h.2.2.1 _ (List.getElem_mem a),h.2.2.1 _ (List.getElem_mem a)⟩;have J:Zhw d d.fs[x.toNat].nm=(d.fs[x.toNat].su++d.fs[x.toNat].lo,0):=(by unfold Zhw;rw[er,get_at h a];rfl);refine Cl.of (Ztm d D _) ⟨_,_,rfl,?_⟩;rw[J];refine Zaa (λh=>by simp at h) (λ_=>?_);have K:=Zur h a;have v:=ndec_fn (iU (d.fs[x.toNat].su++d.fs[x.toNat].lo)) (by simp at K⊢;omega) (iU_byts _);rw[←uR_bR]at v;refine Cl.ofQ v ?_;rintro r ⟨s,e,rfl,hs⟩;refine⟨_,_,_,_,rfl,Zaa (λu=>⟨rfl,⟨by omega,by omega,some s,?_,rfl,rfl,rfl,?_⟩,C⟩) (λu=>⟨rfl,skip λt m=>?_,C⟩)⟩
   ·have j:e=0∧s.q=n:=by
     by_cases e0:e=0
     ·exact⟨e0,by simpa[e0]using u⟩
     ·simp[e0]at u
    rw[i];refine best_take hb (isF_of hs j.1 hn j.2) λt L=>?_;subst L;obtain⟨_,e1,_,_⟩:=hh;omega
   ·have j:e=0:=by
     by_cases e0:e=0
     ·exact e0
     ·simp[e0]at u
    rcases hs with⟨p,_,_⟩|⟨_,_,p⟩
    ·exact p
    ·exact absurd (p.symm.trans j) (Zt9 _)
   ·exfalso;obtain⟨M,N⟩:=isF_dec m hs;obtain⟨_,O⟩:=isF_num m hn;subst M N O;simp at u
 ·simp at k;have i:d.fs.take x.toNat=d.fs:=List.take_of_length_le (by omega);rw[i]at hb
  cases o with
  |none=>have:c= -1:=hh;subst this;exact Zaa (λ_=>⟨st0,14,rfl,.inr (.inr ⟨h,g,.inr ⟨rfl,rfl,hb⟩⟩)⟩) (λh=>by simp at h)
  |some s=>obtain⟨rfl,rfl,rfl,p⟩:=hh;have:=(stP_q p).1;exact Zaa (λh=>by simp at h;omega) (λ_=>⟨s,0,rfl,.inr (.inr ⟨h,g,.inl ⟨rfl,hb⟩⟩)⟩)
def Hold2(o:Option StD)(e:Int)(l:LL)(q t:Int):Prop:=match o with
 |none=>e=14∧l=[]∧q=0∧t=0
 |some s=>e=0∧l=coR s.cs∧q=s.q∧t=s.t
def Eqv(a b:List FiD):Prop:=∀f:FiD,f.nm≠tmpB→(f∈a↔f∈b)
def Eqv.refl(a:List FiD):Eqv a a:=λ_ _=>Iff.rfl
def Eqv.trans{a b c:List FiD}(h:Eqv a b)(k:Eqv b c):Eqv a c:=λf d=>(h f d).trans (k f d)
def Eqv.symm{a b:List FiD}(h:Eqv a b):Eqv b a:=λf c=>(h f c).symm
def er_ok{d:DiD}(h:d.P)(c:d.dn=false){a b:BA}(e:fnB a=true)(f:fnB b=true):d.er a b=0:=Zcp.2 ⟨h,c,e,f⟩
def newFile(s:StD):FiD:=⟨snNm s.q,snU s,[]⟩
inductive SaveR(d:DiD)(s:StD):DiD×Int→Prop
 |full (h:d.rm+oldN d<usedL d.fs+(snU s).length∨64<d.fs.length+newF d):SaveR d s (d,13)
 |down (x:DiD) (hp:x.P) (hst:d.st≠-1) (he:Eqv x.fs d.fs) (hg:Good d→Good x):SaveR d s (x,16)
 |ok (x:DiD) (hp:x.P) (hd:x.dn=false) (hst:d.st= -1→x.st= -1) (hrm:x.rm=d.rm) (hf:x.fs=withB FiD.nm (wout FiD.nm d.fs tmpB) (newFile s)) (hg:Good d→Good x):SaveR d s (x,0)
end Snp
namespace Jou
open Go Go.Px Go.Proofs Cod Seg Tryz
def rdO_uniq{l:List Int}{d i:Sc}{q f:Int}(h:RdO l d q)(b:RdO l i f):d=i∧q=f:=by
 have t:=h.far b.ok b.pre;have u:=b.far h.ok h.pre;have v:=Beg.len b.ok h.ok t;have x:=Beg.len h.ok b.ok u;have e:i=d:=v.2 (by omega);subst e;refine⟨rfl,?_⟩
 rcases h.ext with⟨w,k,p,n,r,c,rfl⟩|⟨k,p,n,c,ht,rfl⟩
 ·rcases b.ext with⟨s,j,m,o,g,a,rfl⟩|⟨j,m,o,a,ht',rfl⟩
  ·rw[c]at a;simp only[Prod.mk.injEq]at a;rw[a.1]
  ·rw[c]at a;simp only[Prod.mk.injEq]at a;exact absurd a.1 r
 ·rcases b.ext with⟨s,j,m,o,g,a,rfl⟩|⟨j,m,o,a,ht',rfl⟩
  ·rw[c]at a;simp only[Prod.mk.injEq]at a;exact absurd a.1.symm g
  ·rfl
def addS(d:Sc)(e:EvD):Sc:={d with ev:=d.ev++[e],s:=e.s,a:=e.a,m:=bhdN d.m e.c}
def recB(d:Sc)(e:EvD):List Int:=fr 2 (encL d.s d.a d.m e)
def Zya{d:Sc}{e:EvD}(h:ScOK d)(b:d.num≠0)(k:d.sl=false)(ok:EncOK d.s d.a d.m e):ScOK (addS d e)∧segL (addS d e)=segL d++recB d e:=by
 have g:=h.fin b;simp only[Prod.ext_iff]at g;obtain⟨n,o,p⟩:=g;have i:(fin3 d.bs d.ba [] d.ev).1=d.s:=n.symm;have j:(fin3 d.bs d.ba [] d.ev).2.1=d.a:=o.symm;have f:(fin3 d.bs d.ba [] d.ev).2.2=d.m:=p.symm;refine⟨⟨λl=>absurd l b,λ_=>h.head b,λ_=>?_,λ_=>?_⟩,?_⟩
 ·show okL d.bs d.ba [] (d.ev++[e]);rw[Znr,i,j,f];exact⟨h.evs b,ok⟩
 ·show(e.s,e.a,bhdN d.m e.c)=fin3 d.bs d.ba [] (d.ev++[e]);rw[Zks,f]
 ·rw[Zcj (show(addS d e).num≠0 from b),Zcj b];unfold slx addS recB;simp only[k,Bool.false_eq_true,if_false,List.append_nil];rw[Zkt,i,j,f,List.append_assoc]
def sealS(d:Sc):Sc:={d with sl:=true}
def seaB(d:Sc):List Int:=fr 3 (slP d.ev.length d.s d.a)
def Zta{d:Sc}(h:ScOK d)(a:d.num≠0)(b:d.sl=false):ScOK (sealS d)∧segL (sealS d)=segL d++seaB d:=by
 refine⟨⟨λc=>absurd c a,λ_=>h.head a,λ_=>h.evs a,λ_=>h.fin a⟩,?_⟩;rw[Zcj (show(sealS d).num≠0 from a),Zcj a];unfold slx sealS seaB;simp only[b,Bool.false_eq_true,if_false,if_true,List.append_nil,List.append_assoc]
def newS(n s a:Int)(e:EvD):Sc:=mkS n s a [e] false
def Zyb{n s a:Int}{e:EvD}(h:headOK n s a)(ok:EncOK s a [] e):ScOK (newS n s a e)∧segL (newS n s a e)=fr 1 (hdP n s a)++fr 2 (encL s a [] e):=by
 have b:n≠0:=(by have:=h.1.1;omega);refine⟨mkS_ok false h ⟨ok,trivial⟩,?_⟩;unfold newS;rw[segL_mk b];simp[recL]
end Jou
namespace Jou
open Go Go.Px Go.Proofs Cod Seg Sgr Snp Tryz
abbrev spre:List UInt8:=[115,101,103,46]
def segNm(n:Int):BA:=⟨(spre++dgs 8 n.toNat).toArray⟩
def inN(n:Int):Prop:=1≤n∧n≤99999999
instance (n:Int):Decidable (inN n):=inferInstanceAs (Decidable (_∧_))
def Zca(n:Int):(segNm n).data.toList=spre++dgs 8 n.toNat:=by simp[segNm]
def Zts{n:Int}(h:inN n):(vD ((segNm n).data.toList.drop 4):Int)=n:=by
 unfold inN at h;rw[Zca,show(spre++dgs 8 n.toNat).drop 4=dgs 8 n.toNat from rfl,Zqj 8 _ (by omega)];omega
def numS(s:BA):Int:=if inN (vD (s.data.toList.drop 4):Int)∧s=segNm (vD (s.data.toList.drop 4):Int)then(vD (s.data.toList.drop 4):Int)else 0
def Zjy{n:Int}(h:inN n):numS (segNm n)=n:=by
 unfold numS;rw[Zts h,if_pos ⟨h,rfl⟩]
def Zc1{s:BA}(h:numS s≠0):inN (numS s)∧s=segNm (numS s):=by
 unfold numS at h⊢
 split
 next g=>exact g
 next g=>rw[if_neg g]at h;exact absurd rfl h
def Zzd:∀{a b:List UInt8} (x y:List UInt8),a.length=b.length→a<b→a++x<b++y
 | [],[],x,y,_,h=>absurd h (List.lt_irrefl _)
 | [],_::_,_,_,hl,_=>by simp at hl
 |_::_,[],_,_,hl,_=>by simp at hl
 |c::a,d::b,x,y,hl,h=>by
  rw[List.cons_append,List.cons_append,YD]
  rcases YD.1 h with h|⟨h1,h2⟩
  ·exact .inl h
  ·exact .inr ⟨h1,Zzd x y (by simpa using hl) h2⟩
def Zrb:∀(p:List UInt8) {a b:List UInt8},a<b→p++a<p++b
 | [],_,_,h=>h
 |c::p,a,b,h=>by rw[List.cons_append,List.cons_append,YD];exact .inr ⟨rfl,Zrb p h⟩
def dgs_lt:∀(k a b:Nat),a<b→b<10^k→dgs k a<dgs k b
 |0,a,b,h,hb=>by simp at hb;omega
 |k+1,a,b,h,hb=>by
  rw[dgs,dgs];by_cases e:a/10=b/10
  ·rw[e];refine Zrb _ ?_;rw[YD]
   left
   rw[UInt8.lt_iff_toNat_lt];simp only[UInt8.toNat_ofNat'];omega
  ·refine Zzd _ _ (by rw[Zdi,Zdi]) (dgs_lt k _ _ (by omega) ?_);rw[Nat.pow_succ]at hb;omega
def Ztt{a b:Int}(c:inN a)(d:inN b)(h:a<b):nlt (segNm a) (segNm b):=by
 unfold nlt;rw[Zca,Zca];unfold inN at c d;exact Zrb _ (dgs_lt 8 _ _ (by omega) (by omega))
structure Pt where
 d:Sc
 n:Nat
def foll(p a:Sc):Prop:=a.sl=true∧p.num=a.num+1∧p.bs=a.s∧p.ba=a.a
instance (p a:Sc):Decidable (foll p a):=inferInstanceAs (Decidable (_∧_))
def isSeg(f:FiD):Bool:=decide (numS f.nm≠0)
def segs(l:List FiD):List FiD:=l.filter isSeg
abbrev ptF(a:FiD→Sc)(f:FiD):Pt:=⟨a f,f.len⟩
def mayR(b:FiD→Sc)(r:List Pt)(o:List BA)(f:FiD):Prop:=o=[]∧(b f).num=numS f.nm∧(match r.getLast? with|none=>True|some a=>foll (b f) a.d)
instance (sc:FiD→Sc) (r:List Pt) (o:List BA) (f:FiD):Decidable (mayR sc r o f):=by
 unfold mayR
 cases r.getLast?<;>infer_instance
def rstep(b:FiD→Sc)(a:List Pt×List BA)(f:FiD):List Pt×List BA:=
 if numS f.nm=0 then a else if mayR b a.1 a.2 f then(a.1++[ptF b f],a.2)else(a.1,a.2++[f.nm])
def rowsD(a:FiD→Sc)(l:List FiD):List Pt×List BA:=l.foldl (rstep a) ([],[])
def Zdm(b:FiD→Sc):∀(l:List FiD) (a:List Pt×List BA),l.foldl (rstep b) a=(segs l).foldl (rstep b) a
 | [],a=>rfl
 |f::l,a=>by
  unfold segs;rw[List.foldl_cons,List.filter_cons];by_cases h:numS f.nm=0
  ·have e:isSeg f=false:=(by unfold isSeg;simp[h]);rw[e,if_neg (by simp),show rstep b a f=a from if_pos h];exact Zdm b l a
  ·have e:isSeg f=true:=(by unfold isSeg;simp[h]);rw[e,if_pos rfl,List.foldl_cons];exact Zdm b l _
def inRow(b:FiD→Sc):Option Sc→List FiD→Prop
 |_,[]=>True
 |p,f::l=>(b f).num=numS f.nm∧(match p with|none=>True|some a=>foll (b f) a)∧inRow b (some (b f)) l
def Zrc(b:FiD→Sc):∀(l:List FiD) (r:List Pt),(∀f∈l,numS f.nm≠0)→inRow b (r.getLast?.map (·.d)) l→l.foldl (rstep b) (r,[])=(r++l.map (ptF b),[])
 | [],r,_,_=>by simp
 |f::l,r,hn,h=>by
  obtain⟨i,e,j⟩:=h;rw[List.foldl_cons]
  have k:mayR b r [] f:=by
   refine⟨rfl,i,?_⟩
   cases c:r.getLast? with
   |none=>trivial
   |some a=>rw[c]at e;exact e
  rw[show rstep b (r,[]) f=(r++[ptF b f],[])from by unfold rstep;rw[if_neg (hn f (by simp)),if_pos k]];rw[Zrc b l (r++[ptF b f]) (λg c=>hn g (by simp[c])) (by simpa using j)];simp
def Znt(a:FiD→Sc):∀(l:List FiD) (r:List Pt) (o:List BA),o≠[]→((l.foldl (rstep a) (r,o)).2≠[])
 | [],r,o,h=>h
 |f::l,r,o,h=>by
  rw[List.foldl_cons];unfold rstep
  split
  ·exact Znt a l r o h
  ·rw[if_neg (λq=>h q.1)];exact Znt a l r _ (by simp)
def rows_in'(b:FiD→Sc):∀(l:List FiD) (r:List Pt),(∀f∈l,numS f.nm≠0)→(l.foldl (rstep b) (r,[])).2=[]→inRow b (r.getLast?.map (·.d)) l
 | [],r,_,_=>trivial
 |f::l,r,hn,h=>by
  rw[List.foldl_cons]at h;by_cases hm:mayR b r [] f
  ·rw[show rstep b (r,[]) f=(r++[ptF b f],[])from by unfold rstep;rw[if_neg (hn f (by simp)),if_pos hm]]at h;obtain⟨_,i,e⟩:=hm;refine⟨i,?_,?_⟩
   ·cases c:r.getLast? with
    |none=>trivial
    |some a=>rw[c]at e;exact e
   ·have:=rows_in' b l (r++[ptF b f]) (λg c=>hn g (by simp[c])) h
    simpa using this
  ·rw[show rstep b (r,[]) f=(r,[]++[f.nm])from by unfold rstep;rw[if_neg (hn f (by simp)),if_neg hm]]at h;exact absurd h (Znt b l r _ (by simp))
def Zcl{l:List FiD}:∀f∈segs l,numS f.nm≠0:=λf a=>by
 have:=(List.mem_filter.1 a).2
 simpa[isSeg]using this
def rows_iff{a:FiD→Sc}{l:List FiD}:(rowsD a l).2=[]↔inRow a none (segs l):=by
 unfold rowsD;rw[Zdm];exact⟨λh=>rows_in' a _ [] Zcl h,λh=>by rw[Zrc a _ [] Zcl h]⟩
def Znu{a:FiD→Sc}{l:List FiD}(h:inRow a none (segs l)):rowsD a l=((segs l).map (ptF a),[]):=by
 unfold rowsD;rw[Zdm,Zrc a _ [] Zcl h];simp
def withB_map{l:List FiD}{f:FiD}(a:srt FiD.nm l)(c:∃g∈l,g.nm=f.nm):withB FiD.nm l f=l.map λg=>if g.nm=f.nm then f else g:=by
 obtain⟨g,h,e⟩:=c;obtain⟨i,b,rfl⟩:=List.mem_iff_getElem.1 h;rw[←Zh2 a b e.symm];apply YI
 ·simp
 ·intro j d k;rw[List.getElem_set,Wj];by_cases hij:i=j
  ·subst hij;rw[if_pos rfl,if_pos e]
  ·rw[if_neg hij,if_neg (λq=>hij (srt_inj a b (by simpa using d) (e.trans q.symm)))]
def segs_map{l:List FiD}{g:FiD→FiD}(h:∀x,(g x).nm=x.nm):segs (l.map g)=(segs l).map g:=by
 unfold segs;rw[List.filter_map];congr 1;apply List.filter_congr;intro x _;show isSeg (g x)=isSeg x;unfold isSeg;rw[h x]
def Zu5{l:List FiD}{f:FiD}(a:srt FiD.nm l)(b:∃g∈l,g.nm=f.nm):segs (withB FiD.nm l f)=(segs l).map λg=>if g.nm=f.nm then f else g:=by
 rw[withB_map a b];refine segs_map λx=>?_
 split
 next h=>exact h.symm
 ·rfl
def Zqh{l a:List FiD}{g f:FiD}(d:srt FiD.nm l)(e:segs l=a++[g])(c:g.nm=f.nm):segs (withB FiD.nm l f)=a++[f]:=by
 have j:g∈l:=(List.mem_filter.1 (show g∈l.filter isSeg by rw[show l.filter isSeg=a++[g]from e];simp)).1;rw[Zu5 d ⟨g,j,c⟩,e,List.map_append];congr 1
 ·have b:srt FiD.nm (segs l):=YG _ d;rw[e]at b;have h:=(List.pairwise_append.1 b).2.2
  conv=>rhs;rw[←YY a]
  apply List.map_congr_left;intro x i;have:=Zjh (h x i g (by simp));rw[if_neg (λq=>this (q.trans c.symm))];rfl
 ·simp[c]
def Zdf(b:FiD→Sc):∀(l:List FiD) (p:Option Sc) (f:FiD),inRow b p (l++[f])↔inRow b p l∧(b f).num=numS f.nm∧(match(l.getLast?.map b).or p with|none=>True|some a=>foll (b f) a)
 | [],p,f=>by cases p<;>simp[inRow]
 |g::l,p,f=>by
  rw[List.cons_append];show _∧_∧inRow b (some (b g)) (l++[f])↔(_∧_∧inRow b (some (b g)) l)∧_;rw[Zdf b l (some (b g)) f]
  have e:((g::l).getLast?.map b).or p=(l.getLast?.map b).or (some (b g)):=by
   cases l with
   |nil=>simp
   |cons h l=>
    rw[List.getLast?_cons_cons]
    cases hh:(h::l).getLast? with
    |none=>simp at hh
    |some x=>simp
  rw[e];constructor
  ·rintro⟨c,d,i,j,k⟩;exact⟨⟨c,d,i⟩,j,k⟩
  ·rintro⟨⟨c,d,i⟩,j,k⟩;exact⟨c,d,i,j,k⟩
def Zu6(a b:List FiD):segs (a++b)=segs a++segs b:=List.filter_append ..
def segs_new{l:List FiD}{f:FiD}(v:srt FiD.nm l)(hno:∀g∈l,g.nm≠f.nm)(m:numS f.nm≠0)(j:∀g∈segs l,numS g.nm<numS f.nm):segs (withB FiD.nm l f)=segs l++[f]:=by
 rw[Zdt hno];have c:ahd FiD.nm l f.nm++bhd FiD.nm l f.nm=l:=Wo
 have k:segs (bhd FiD.nm l f.nm)=[]:=by
  apply List.filter_eq_nil_iff.2;intro x n b;have o:x∈l:=by rw[←c];exact List.mem_append.2 (.inr n)
  have q:numS x.nm≠0:=(by simpa[isSeg]using b);have C:=j x (List.mem_filter.2 ⟨o,b⟩);obtain⟨w,e1⟩:=Zc1 q;obtain⟨A,e2⟩:=Zc1 m;have s:nlt x.nm f.nm:=by rw[e1,e2];exact Ztt w A C
  have d:∀y∈bhd FiD.nm l f.nm,¬nlt y.nm f.nm:=by
   intro y a h;have i:srt FiD.nm (bhd FiD.nm l f.nm):=by have:=v;rw[←c]at this;exact(List.pairwise_append.1 this).2.1
   cases hbb:bhd FiD.nm l f.nm with
   |nil=>rw[hbb]at a;cases a
   |cons z r=>
    have t:¬nlt z.nm f.nm:=by
     have:=List.head?_dropWhile_not (p:=λg:FiD=>decide (nlt g.nm f.nm)) l;unfold bhd at hbb;rw[hbb]at this
     simpa using this
    rw[hbb]at a i
    rcases List.mem_cons.1 a with rfl|a
    ·exact t h
    ·have D:nlt z.nm y.nm:=(List.pairwise_cons.1 i).1 y a;exact t (WV D h)
  exact d x n s
 have e:segs l=segs (ahd FiD.nm l f.nm):=by
  conv=>lhs;rw[←c,Zu6,k,List.append_nil]
 show segs (ahd FiD.nm l f.nm++f::bhd FiD.nm l f.nm)=_;rw[Zu6,e];congr 1
 show segs (f::bhd FiD.nm l f.nm)=[f]
 have u:isSeg f=true:=(by simp[isSeg,m]);unfold segs at k⊢;rw[List.filter_cons,u,if_pos rfl,k]
def byF(f:FiD):List Int:=(f.su++f.lo).map λb=>(b.toNat:Int)
open Classical in
noncomputable def scF(f:FiD):Sc:=if h:∃d st,RdO (byF f) d st then h.choose else sc0
def scF_eq{f:FiD}{d:Sc}{st:Int}(h:RdO (byF f) d st):scF f=d:=by
 have a:∃d st,RdO (byF f) d st:=⟨d,st,h⟩
 unfold scF;rw[dif_pos a];obtain⟨c,b⟩:=a.choose_spec;exact(rdO_uniq b h).1
def rdO_self{d:Sc}(h:ScOK d):RdO (segL d) d (endW 1 d.sl):=by
 refine⟨h,List.prefix_rfl,.inl ⟨1,(nextR []).2.1,(nextR []).2.2.1,(nextR []).2.2.2,by decide,?_,rfl⟩⟩;rw[List.drop_length];rfl
def Zbx{f:FiD}{d:Sc}(h:ScOK d)(a:byF f=segL d):scF f=d:=scF_eq (st:=endW 1 d.sl) (by rw[a];exact rdO_self h)
def byF_app(s:BA)(a c x:List UInt8):byF ⟨s,a,c++x⟩=byF ⟨s,a,c⟩++x.map λb=>(b.toNat:Int):=by
 unfold byF;simp
end Jou
namespace Jou
open Go Go.Px Go.Proofs Cod Seg Sgr Snp Sx Row Tryz
open Classical in
noncomputable def newF(l:List FiD):Option StD:=if h:∃s,Best l (some s)then some h.choose else none
def Zo3{l:List FiD}{o:Option StD}(b:srt FiD.nm l)(h:Best l o):newF l=o:=by
 unfold newF
 cases o with
 |none=>rw[dif_neg];rintro⟨s,c⟩;exact h s c.1
 |some s=>
  have a:∃s,Best l (some s):=⟨s,h⟩
  rw[dif_pos a];exact congrArg some (Zp7 b a.choose_spec h)
def Zea{s:BA}(h:numS s≠0)(q:Int):s≠snNm q:=by
 intro e;obtain⟨_,e2⟩:=Zc1 h;have:=congrArg (λb:BA=>b.data.toList.length) (e.symm.trans e2);simp only[Zey,Zca,List.length_append,Zdi]at this;simp at this
def cand_seg{l:List FiD}{f:FiD}(b:numS f.nm≠0)(t:StD):Cand (withB FiD.nm l f) t↔Cand l t:=by
 constructor
 ·rintro⟨g,a,h⟩
  rcases Zay.1 a with rfl|⟨a,_⟩
  ·exact absurd h.2.1 (Zea b _)
  ·exact⟨g,a,h⟩
 ·rintro⟨g,a,h⟩;exact⟨g,Zay.2 (.inr ⟨a,λe=>Zea b _ (e.symm.trans h.2.1)⟩),h⟩
def Zxt{l a:List FiD}(h:∀t,Cand l t↔Cand a t){o:Option StD}:Best l o↔Best a o:=by
 cases o with
 |none=>exact⟨λg t q=>g t ((h t).2 q),λg t q=>g t ((h t).1 q)⟩
 |some s=>exact⟨λg=>⟨(h s).1 g.1,λt q=>g.2 t ((h t).2 q)⟩,λg=>⟨(h s).2 g.1,λt q=>g.2 t ((h t).1 q)⟩⟩
def Zm5{l a:List FiD}(h:∀t,Cand l t↔Cand a t):newF l=newF a:=by
 have e:Best l=Best a:=funext λo=>propext (Zxt h);unfold newF;rw[e]
def Zvs{l:List FiD}{f:FiD}(a:numS f.nm≠0):newF (withB FiD.nm l f)=newF l:=Zm5 λt=>cand_seg a t
noncomputable def keptF(l:List FiD):Int:=match newF l with|none=>0|some s=>s.q
noncomputable def baseF(l:List FiD):StD:=match newF l with|none=>st0|some s=>s
def toE(e:Cod.EvD):Cmp.EvD:=⟨e.s,e.a,e.k,e.c,e.x,e.y,e.z⟩
def evsR(r:List Pt):List Cmp.EvD:=r.flatMap λp=>p.d.ev.map toE
def stR(r:List Pt)(k:Int)(s:StD):StD:=(foldS s ((evsR r).filter λe=>decide (k<e.s))).1
structure GoodR(r:List Pt)(k:Int)(s:StD):Prop where
 bs:∀p∈r.head?,p.d.bs≤k
 cnt:∀p∈r,(p.d.ev.length:Int)=p.d.s-p.d.bs
 app:(foldS s ((evsR r).filter λe=>decide (k<e.s))).2.2=0
 at_:∀p∈r.getLast?,p.d.a=(stR r k s).t
def Zi2:∀(l:List Cmp.EvD) (d:StD) (e:Cmp.EvD),(foldS d l).2.2=0→(appS (foldS d l).1 e).2=0→(foldS d (l++[e])).1=(appS (foldS d l).1 e).1∧(foldS d (l++[e])).2.2=0
 | [],d,e,_,h=>by simp only[foldS]at h⊢;rw[List.nil_append,foldS,if_neg (by simpa using h)];exact⟨rfl,rfl⟩
 |x::l,d,e,h0,h=>by
  rw[foldS]at h0 h;rw[List.cons_append,foldS,foldS];by_cases hx:(appS d x).2≠0
  ·rw[if_pos hx]at h0;exact absurd h0 hx
  ·rw[if_neg hx]at h0 h⊢;rw[if_neg hx];exact Zi2 l _ e h0 h
def Zqo{d:StD}{e:Cmp.EvD}(h:(appS d e).2=0):(appS d e).1.q=e.s∧(appS d e).1.t=e.a:=by
 unfold appS at h⊢
 split
 next g=>rw[if_pos g]at h;exact absurd h g
 ·exact⟨rfl,rfl⟩
def Zgk(a b:List Pt):evsR (a++b)=evsR a++evsR b:=by unfold evsR;rw[List.flatMap_append]
def goodR_add{b:List Pt}{p q:Pt}{k:Int}{s:StD}{e:Cod.EvD}(h:GoodR (b++[p]) k s)(f:q.d.bs=p.d.bs)(i:q.d.ev=p.d.ev++[e])(m:q.d.s=e.s)(n:q.d.a=e.a)(j:e.s=p.d.s+1)(o:k<e.s)(ok:(appS (stR (b++[p]) k s) (toE e)).2=0):
  GoodR (b++[q]) k s∧stR (b++[q]) k s=(appS (stR (b++[p]) k s) (toE e)).1:=by
 have l:(evsR (b++[q])).filter (λe=>decide (k<e.s))=(evsR (b++[p])).filter (λe=>decide (k<e.s))++[toE e]:=(by rw[Zgk,Zgk];have u:evsR [q]=evsR [p]++[toE e]:=(by simp[evsR,i]);rw[u,←List.append_assoc,List.filter_append];congr 1;simp[toE,o]);obtain⟨r,t⟩:=Zi2 _ s (toE e) h.app (by have:=ok;unfold stR at this;exact this);have hst:stR (b++[q]) k s=(appS (stR (b++[p]) k s) (toE e)).1:=(by unfold stR;rw[l,r]);refine⟨⟨?_,?_,?_,?_⟩,hst⟩
 ·intro x c
  cases b with
  |nil=>have:x=q:=(by simpa using c.symm);subst this;rw[f];exact h.bs p (by simp)
  |cons g b=>exact h.bs x (by simpa using c)
 ·intro x c
  rcases List.mem_append.1 c with c|c
  ·exact h.cnt x (by simp[c])
  ·have:x=q:=(by simpa using c);subst this;have:=h.cnt p (by simp);rw[i,f,m,j,List.length_append];simp only[Wn];omega
 ·rw[l];exact t
 ·intro x c;have:x=q:=(by simpa using c.symm);subst this;rw[hst,(Zqo ok).2,n];rfl
def Zxu{b:List Pt}{p q:Pt}{k:Int}{s:StD}(h:GoodR (b++[p]) k s)(e:q.d.bs=p.d.bs)(f:q.d.ev=p.d.ev)(j:q.d.s=p.d.s)(l:q.d.a=p.d.a):
  GoodR (b++[q]) k s∧stR (b++[q]) k s=stR (b++[p]) k s:=by
 have i:evsR (b++[q])=evsR (b++[p]):=(by rw[Zgk,Zgk];simp[evsR,f]);have hst:stR (b++[q]) k s=stR (b++[p]) k s:=(by unfold stR;rw[i]);refine⟨⟨?_,?_,by rw[i];exact h.app,?_⟩,hst⟩
 ·intro x c
  cases b with
  |nil=>have:x=q:=(by simpa using c.symm);subst this;rw[e];exact h.bs p (by simp)
  |cons g b=>exact h.bs x (by simpa using c)
 ·intro x c
  rcases List.mem_append.1 c with c|c
  ·exact h.cnt x (by simp[c])
  ·have:x=q:=(by simpa using c);subst this;have:=h.cnt p (by simp);rw[f,e,j];exact this
 ·intro x c;have:x=q:=(by simpa using c.symm);subst this;rw[hst,l];exact h.at_ p (by simp)
def goodR_new{r:List Pt}{q:Pt}{k:Int}{s:StD}{e:Cod.EvD}(h:GoodR r k s)(c:q.d.ev=[e])(l:q.d.s=e.s)(m:q.d.a=e.a)(f:e.s=q.d.bs+1)(n:k<e.s)(i:r=[]→q.d.bs≤k)(ok:(appS (stR r k s) (toE e)).2=0):
  GoodR (r++[q]) k s∧stR (r++[q]) k s=(appS (stR r k s) (toE e)).1:=by
 have j:(evsR (r++[q])).filter (λe=>decide (k<e.s))=(evsR r).filter (λe=>decide (k<e.s))++[toE e]:=(by rw[Zgk,List.filter_append];congr 1;simp[evsR,c,toE,n]);obtain⟨o,p⟩:=Zi2 _ s (toE e) h.app (by have:=ok;unfold stR at this;exact this);have hst:stR (r++[q]) k s=(appS (stR r k s) (toE e)).1:=(by unfold stR;rw[j,o]);refine⟨⟨?_,?_,by rw[j];exact p,?_⟩,hst⟩
 ·intro x b
  cases r with
  |nil=>have:x=q:=(by simpa using b.symm);subst this;exact i rfl
  |cons g t=>exact h.bs x (by simpa using b)
 ·intro x b
  rcases List.mem_append.1 b with b|b
  ·exact h.cnt x b
  ·have:x=q:=(by simpa using b);subst this;rw[c,l,f];simp only[Wn];omega
 ·intro x b;have:x=q:=(by simpa using b.symm);subst this;rw[hst,(Zqo ok).2,m];rfl
def Ziq(f:FiD):(byF f).length=f.len:=by unfold byF FiD.len;simp
def Zk4{f:FiD}(h:(scF f).num≠0):ScOK (scF f)∧segL (scF f)<+:byF f:=by
 by_cases hx:∃d b,RdO (byF f) d b
 ·obtain⟨d,b,a⟩:=hx;rw[scF_eq a];exact⟨a.ok,a.pre⟩
 ·exfalso;apply h;unfold scF;rw[dif_neg hx];rfl
def scF_all{f:FiD}(h:(scF f).num≠0)(a:f.len=(segL (scF f)).length):byF f=segL (scF f):=by
 obtain⟨_,b⟩:=Zk4 h;exact(b.eq_of_length (by rw[Ziq,a])).symm
def Zz7{d b a:Sc}(c:b.num=d.num)(e:b.bs=d.bs)(f:b.ba=d.ba):foll b a↔foll d a:=by
 unfold foll;rw[c,e,f]
def row_last{l i:List FiD}{g f:FiD}{b:Sc}(p:srt FiD.nm l)(c:inRow scF none (segs l))(e:segs l=i++[g])(k:g.nm=f.nm)(m:ScOK b)(q:byF f=segL b)(n:b.num=(scF g).num)(r:b.bs=(scF g).bs)(s:b.ba=(scF g).ba):
  inRow scF none (segs (withB FiD.nm l f))∧rowsD scF (withB FiD.nm l f)=(i.map (ptF scF)++[⟨b,f.len⟩],[])∧segs (withB FiD.nm l f)=i++[f]:=by
 have d:=Zqh p e k;have j:scF f=b:=Zbx m q;rw[e,Zdf]at c
 have h:inRow scF none (segs (withB FiD.nm l f)):=by
  rw[d,Zdf];refine⟨c.1,by rw[j,n,c.2.1,k],?_⟩;have o:=c.2.2
  cases hg:(i.getLast?.map scF).or none with
  |none=>trivial
  |some a=>rw[hg]at o;rw[j];exact(Zz7 n r s).2 o
 refine⟨h,?_,d⟩;rw[Znu h,d,List.map_append];simp[ptF,j]
def row_new{l:List FiD}{f:FiD}{a:Sc}(m:srt FiD.nm l)(i:inRow scF none (segs l))(hno:∀g∈l,g.nm≠f.nm)(j:numS f.nm≠0)(d:∀g∈segs l,numS g.nm<numS f.nm)(k:ScOK a)(n:byF f=segL a)(o:a.num=numS f.nm)(e:∀g,(segs l).getLast?=some g→foll a (scF g)):
  inRow scF none (segs (withB FiD.nm l f))∧rowsD scF (withB FiD.nm l f)=((segs l).map (ptF scF)++[⟨a,f.len⟩],[])∧segs (withB FiD.nm l f)=segs l++[f]:=by
 have b:=segs_new m hno j d;have h:scF f=a:=Zbx k n
 have c:inRow scF none (segs (withB FiD.nm l f)):=by
  rw[b,Zdf];refine⟨i,by rw[h,o],?_⟩
  cases hg:(segs l).getLast? with
  |none=>trivial
  |some g=>show foll (scF f) (scF g);rw[h];exact e g hg
 refine⟨c,?_,b⟩;rw[Znu c,b,List.map_append];simp[ptF,h]
structure SgD where
 num:Int
 fi:Int
 la:Int
 fr:Int
 ti:Int
 sz:Int
 sl:Bool
deriving DecidableEq
structure CxD where
 s:Int
 a:Int
 m:List BA
deriving DecidableEq
structure JoD where
 dk:DiD
 cb:Int
 cg:Int
 sg:List SgD
 cx:CxD
 st:StD
 sure:Int
 kept:Int
 shut:Bool
def sgOf(p:Pt):SgD:=⟨p.d.num,p.d.bs,p.d.s,p.d.ba,p.d.a,(segL p.d).length,p.d.sl⟩
def Zbl(r:List Pt):CxD:=match r.getLast? with|none=>⟨0,0,[]⟩|some p=>if p.d.sl=true then⟨0,0,[]⟩else⟨p.d.s,p.d.a,p.d.m⟩
def mayC(b g:Int):Prop:=64≤b∧b≤65536∧1≤g∧g≤1099511627776
noncomputable def rowK(l:List FiD):List Pt×List BA:=match(rowsD scF l).1.getLast? with
 |none=>rowsD scF l
 |some p=>if p.d.s<keptF l then([],(rowsD scF l).1.map (λp=>segNm p.d.num)++(rowsD scF l).2)else rowsD scF l
noncomputable def anewJ(a:DiD)(c d b:Int)(shut:Bool):JoD:=
 ⟨a,c,d,(rowK a.fs).1.map sgOf,Zbl (rowK a.fs).1,stR (rowK a.fs).1 (keptF a.fs) (baseF a.fs),b,keptF a.fs,shut⟩
structure RightJ(j:JoD):Prop where
 cfg:mayC j.cb j.cg
 dk:j.dk.P
 up:j.dk.dn=false
 out:(rowK j.dk.fs).2=[]
 good:GoodR (rowK j.dk.fs).1 (keptF j.dk.fs) (baseF j.dk.fs)
 all:∀p∈(rowK j.dk.fs).1,p.n=(segL p.d).length
 eq:j=anewJ j.dk j.cb j.cg j.sure j.shut
 sure:keptF j.dk.fs≤j.sure∧j.sure≤j.st.q
structure DkR(l gs:List FiD):Prop where
 srt:srt FiD.nm l
 eq:segs l=gs
 inr:inRow scF none gs
 kept:∀p,(gs.map (ptF scF)).getLast?=some p→keptF l≤p.d.s
def Ze8{l a:List FiD}(h:DkR l a):rowK l=(a.map (ptF scF),[]):=by
 have e:rowsD scF l=(a.map (ptF scF),[]):=(by rw[Znu (by rw[h.eq];exact h.inr),h.eq]);unfold rowK;rw[e]
 cases hg:(a.map (ptF scF)).getLast? with
 |none=>rfl
 |some p=>have:=h.kept p hg;simp only;rw[if_neg (by omega)]
def dkR_of{l:List FiD}(c:srt FiD.nm l)(h:(rowK l).2=[]):DkR l (segs l):=by
 have a:(rowsD scF l).2=[]∧∀p,(rowsD scF l).1.getLast?=some p→keptF l≤p.d.s:=by
  unfold rowK at h
  cases hg:(rowsD scF l).1.getLast? with
  |none=>rw[hg]at h;exact⟨h,λp q=>by cases q⟩
  |some p=>
   rw[hg]at h;simp only at h
   split at h
   ·exfalso;have:=List.append_eq_nil_iff.1 h;have g:(rowsD scF l).1=[]:=(by simpa using this.1);rw[g]at hg;cases hg
   ·exact⟨h,λq e=>by cases e;omega⟩
 have b:=rows_iff.1 a.1;refine⟨c,rfl,b,λp f=>a.2 p ?_⟩;rw[Znu b];exact f
def Zcw{l:List FiD}{f:FiD}(a:numS f.nm≠0):keptF (withB FiD.nm l f)=keptF l:=by unfold keptF;rw[Zvs a]
def Zeo{l:List FiD}{f:FiD}(a:numS f.nm≠0):baseF (withB FiD.nm l f)=baseF l:=by unfold baseF;rw[Zvs a]
def Cns:Int→List Cmp.EvD→Int→Prop
 |a,[],b=>a=b
 |a,e::l,b=>e.s=a+1∧Cns e.s l b
def Zz5:∀{l m:List Cmp.EvD} {a b c:Int},Cns a l b→Cns b m c→Cns a (l++m) c
 | [],m,a,b,c,h,k=>by simp only[Cns]at h;subst h;exact k
 |e::l,m,a,b,c,h,k=>⟨h.1,Zz5 h.2 k⟩
def Zt5:∀(l:List Cod.EvD) (s a:Int) (m:List BA),okL s a m l→(fin3 s a m l).1=s+l.length→Cns s (l.map toE) (fin3 s a m l).1
 | [],s,a,m,_,_=>rfl
 |e::l,s,a,m,h,hf=>by obtain⟨f,b⟩:=h;have g:=Zo2 l e.s e.a (bhdN m e.c) b;have i:=f.seq;have d:(fin3 e.s e.a (bhdN m e.c) l).1=s+(l.length+1):=(by have:(fin3 s a m (e::l)).1=(fin3 e.s e.a (bhdN m e.c) l).1:=rfl;rw[←this,hf,List.length_cons];omega);have e1:e.s=s+1:=(by omega);refine⟨e1,?_⟩;exact Zt5 l e.s e.a (bhdN m e.c) b (by rw[d];omega)
def Zt6{d:Sc}(h:ScOK d)(b:d.num≠0)(c:(d.ev.length:Int)=d.s-d.bs):Cns d.bs (d.ev.map toE) d.s:=by
 have a:=h.fin b;simp only[Prod.ext_iff]at a;have:=Zt5 d.ev d.bs d.ba [] (h.evs b) (by rw[←a.1];omega);rw[←a.1]at this;exact this
def Zz6:∀(b:List FiD) (g:FiD),inRow scF none (b++[g])→(∀f∈b++[g],numS f.nm≠0)→(∀p∈(b++[g]).map (ptF scF),(p.d.ev.length:Int)=p.d.s-p.d.bs)→∀p∈((b++[g]).map (ptF scF)).head?,Cns p.d.bs (evsR ((b++[g]).map (ptF scF))) (scF g).s:=by
 intro b
 induction hlen:b.length generalizing b with
 |zero=>
  have:b=[]:=List.length_eq_zero_iff.1 hlen;subst this;intro g h j l p m;have e:p=ptF scF g:=(by simpa using m.symm);subst e;have c:(scF g).num≠0:=(by have:=h.1;rw[this];exact j g (by simp));have:=Zt6 (Zk4 c).1 c (l (ptF scF g) (by simp))
  simpa[evsR,ptF]using this
 |succ k o=>
  rcases Y2 b with rfl|⟨b,x,rfl⟩
  ·simp at hlen
  rw[List.concat_eq_append]at hlen⊢;have o:=o b (by simpa using hlen);intro g h j l p m;rw[Zdf]at h;obtain⟨v,w,z⟩:=h;have c:(scF g).num≠0:=by rw[w];exact j g (by simp)
  have t:p∈((b++[x]).map (ptF scF)).head?:=by
   cases b with
   |nil=>simpa using m
   |cons y b=>simpa using m
  have C:=o x v (λf i=>j f (by simp at i⊢;rcases i with i|i;exact .inl i;exact .inr (.inl i))) (λq r=>l q (by simp at r⊢;rcases r with⟨a,A,e⟩|e;exact .inl ⟨a,A,e⟩;exact .inr (.inl e))) p t;have u:foll (scF g) (scF x):=(by simpa using z);have n:=Zt6 (Zk4 c).1 c (l (ptF scF g) (by simp));rw[u.2.2.1]at n;rw[List.map_append,Zgk];refine Zz5 C ?_
  simpa[evsR,ptF]using n
def Zmm:∀{l:List Cmp.EvD} {a b:Int} (k:Int),Cns a l b→a≤k→k≤b→Cns k (l.filter λe=>decide (k<e.s)) b
 | [],a,b,k,h,h1,h2=>by simp only[Cns]at h;subst h;show Cns k [] a;simp only[Cns];omega
 |e::l,a,b,k,h,h1,h2=>by
  obtain⟨f,d⟩:=h;rw[List.filter_cons];by_cases hk:k<e.s
  ·rw[if_pos (by simpa using hk)];have e1:k=a:=(by omega);subst e1;refine⟨f,?_⟩
   have:(l.filter λe=>decide (k<e.s))=l:=by
    apply List.filter_eq_self.2;intro x c
    have g:∀{l:List Cmp.EvD} {a b:Int},Cns a l b→∀x∈l,a<x.s:=by
     intro l
     induction l with
     |nil=>intro a b _ x c;cases c
     |cons y l i=>
      intro a b h x c
      rcases List.mem_cons.1 c with rfl|c
      ·have:=h.1;omega
      ·have:=i h.2 x c;have:=h.1;omega
    have:=g d x c;simp;omega
   rw[this];exact d
  ·rw[if_neg (by simpa using hk)];exact Zmm k d (by omega) h2
def fold_q:∀{l:List Cmp.EvD} {d:StD} {b:Int},Cns d.q l b→(foldS d l).2.2=0→(foldS d l).1.q=b
 | [],d,b,h,_=>h
 |e::l,d,b,h,h0=>by
  rw[foldS]at h0⊢;by_cases a:(appS d e).2≠0
  ·rw[if_pos a]at h0;exact absurd h0 a
  ·rw[if_neg a]at h0⊢;have a:(appS d e).2=0:=(by simpa using a);refine fold_q ?_ h0;rw[(Zqo a).1];exact h.2
def Zmn(l:List FiD):(baseF l).q=keptF l:=by
 unfold baseF keptF
 cases newF l<;>rfl
def stR_q{l a:List FiD}{g:FiD}(h:DkR l (a++[g]))(b:GoodR ((a++[g]).map (ptF scF)) (keptF l) (baseF l)):(stR ((a++[g]).map (ptF scF)) (keptF l) (baseF l)).q=(scF g).s:=by
 have c:∀f∈a++[g],numS f.nm≠0:=by rw[←h.eq];exact Zcl
 obtain⟨p,hp⟩:∃p,((a++[g]).map (ptF scF)).head?=some p:=by
  cases a with
  |nil=>exact⟨_,rfl⟩
  |cons y a=>exact⟨_,rfl⟩
 have d:=Zz6 a g h.inr c b.cnt p hp;have e:=b.bs p hp;have i:=h.kept (ptF scF g) (by simp);have j:=Zmm (keptF l) d e i;unfold stR;exact fold_q (by rw[Zmn];exact j) b.app
def RightJ.dkr{j:JoD}(h:RightJ j):DkR j.dk.fs (segs j.dk.fs):=dkR_of h.dk.2.2.2 h.out
def RightJ.row{j:JoD}(h:RightJ j):(rowK j.dk.fs).1=(segs j.dk.fs).map (ptF scF):=by rw[Ze8 h.dkr]
def DkR.bytes{l b:List FiD}(h:DkR l b)(k:∀p∈b.map (ptF scF),p.n=(segL p.d).length):∀f∈b,ScOK (scF f)∧byF f=segL (scF f)∧(scF f).num=numS f.nm∧numS f.nm≠0:=by
 intro f a;have e:numS f.nm≠0:=Zcl f (by rw[h.eq];exact a)
 have g:∀(l:List FiD) (p:Option Sc),inRow scF p l→∀f∈l,(scF f).num=numS f.nm:=by
  intro l
  induction l with
  |nil=>intro p _ f a;cases a
  |cons x l m=>
   intro p c f a
   rcases List.mem_cons.1 a with rfl|a
   ·exact c.1
   ·exact m _ c.2.2 f a
 have i:=g b none h.inr f a;have j:(scF f).num≠0:=(by rw[i];exact e);exact⟨(Zk4 j).1,scF_all j (k (ptF scF f) (Y3.2 ⟨f,a,rfl⟩)),i,e⟩
def Zkv{l b:List FiD}{g f:FiD}{a:Sc}(h:DkR l (b++[g]))(o:g.nm=f.nm)(i:numS f.nm≠0)(c:ScOK a)(j:byF f=segL a)(q:a.num=(scF g).num)(r:a.bs=(scF g).bs)(t:a.ba=(scF g).ba)(u:keptF l≤a.s):
  DkR (withB FiD.nm l f) (b++[f])∧rowK (withB FiD.nm l f)=(b.map (ptF scF)++[⟨a,f.len⟩],[]):=by
 have m:inRow scF none (segs l):=(by rw[h.eq];exact h.inr);obtain⟨w,x,k⟩:=row_last h.srt m h.eq o c j q r t;have d:scF f=a:=Zbx c j
 have n:DkR (withB FiD.nm l f) (b++[f]):=⟨Zbq h.srt,k,by rw[←k];exact w,λp v=>by
  have e:p=ptF scF f:=(by simpa using v.symm);subst e;rw[Zcw i];show keptF l≤(scF f).s
  rw[d];exact u⟩
 refine⟨n,?_⟩;rw[Ze8 n,List.map_append];simp[ptF,d]
def rowK_new{l a:List FiD}{f:FiD}{d':Sc}(h:DkR l a)(hno:∀g∈l,g.nm≠f.nm)(b:numS f.nm≠0)(i:∀g∈a,numS g.nm<numS f.nm)(c:ScOK d')(m:byF f=segL d')(q:d'.num=numS f.nm)(j:∀g,a.getLast?=some g→foll d' (scF g))(r:keptF l≤d'.s):
  DkR (withB FiD.nm l f) (a++[f])∧rowK (withB FiD.nm l f)=(a.map (ptF scF)++[⟨d',f.len⟩],[]):=by
 have n:inRow scF none (segs l):=(by rw[h.eq];exact h.inr);obtain⟨u,v,k⟩:=row_new h.srt n hno b (by rw[h.eq];exact i) c m q (by rw[h.eq];exact j);rw[h.eq]at k;have d:scF f=d':=Zbx c m
 have o:DkR (withB FiD.nm l f) (a++[f]):=⟨Zbq h.srt,k,by rw[←k];exact u,λp t=>by
  have e:p=ptF scF f:=(by simpa using t.symm);subst e;rw[Zcw b];show keptF l≤(scF f).s
  rw[d];exact r⟩
 refine⟨o,?_⟩;rw[Ze8 o,List.map_append];simp[ptF,d]
structure Par(j:JoD)(gs:List FiD):Prop where
 dkr:DkR j.dk.fs gs
 good:GoodR (gs.map (ptF scF)) (keptF j.dk.fs) (baseF j.dk.fs)
 all:∀p∈gs.map (ptF scF),p.n=(segL p.d).length
 st:j.st=stR (gs.map (ptF scF)) (keptF j.dk.fs) (baseF j.dk.fs)
 sg:j.sg=(gs.map (ptF scF)).map sgOf
 cx:j.cx=Zbl (gs.map (ptF scF))
 kept:j.kept=keptF j.dk.fs
def RightJ.par{j:JoD}(h:RightJ j):Par j (segs j.dk.fs):=by
 have d:=h.row;have e:=h.good;have f:=h.all;have a:=h.eq;rw[d]at e f;have e1:j.st=(anewJ j.dk j.cb j.cg j.sure j.shut).st:=congrArg JoD.st a;have e2:j.sg=(anewJ j.dk j.cb j.cg j.sure j.shut).sg:=congrArg JoD.sg a;have b:j.cx=(anewJ j.dk j.cb j.cg j.sure j.shut).cx:=congrArg JoD.cx a;have c:j.kept=(anewJ j.dk j.cb j.cg j.sure j.shut).kept:=congrArg JoD.kept a;unfold anewJ at e1 e2 b c;simp only at e1 e2 b c;rw[d]at e1 e2 b;exact⟨h.dkr,e,f,e1,e2,b,c⟩
def Par.q{j:JoD}{a:List FiD}{g:FiD}(h:Par j (a++[g])):j.st.q=(scF g).s:=by rw[h.st];exact stR_q h.dkr h.good
def Par.q0{j:JoD}(h:Par j []):j.st.q=j.kept:=by
 rw[h.st,h.kept];show(baseF j.dk.fs).q=_;exact Zmn _
def Par.kq{j:JoD}{a:List FiD}(h:Par j a):j.kept≤j.st.q:=by
 rcases Y2 a with rfl|⟨a,g,rfl⟩
 ·rw[h.q0];exact Int.le_refl _
 ·rw[List.concat_eq_append]at h;rw[h.q,h.kept];exact h.dkr.kept (ptF scF g) (by simp)
def anew_add{j:JoD}{i:List FiD}{g:FiD}(h:Par j (i++[g]))(z:(scF g).sl=false){e:Cod.EvD}(Y:e.s=j.st.q+1)(ok:EncOK (scF g).s (scF g).a (scF g).m e)(M:(appS j.st (toE e)).2=0){x:List UInt8}(N:(x.map λb=>(b.toNat:Int))=recB (scF g) e){d:DiD}(n:d.fs=withB FiD.nm j.dk.fs ⟨g.nm,g.su,g.lo++x⟩)(r t k:Int)(shut:Bool):
  anewJ d r t k shut=⟨d,r,t,((i.map (ptF scF)).map sgOf)++[sgOf ⟨addS (scF g) e,g.len+x.length⟩],⟨e.s,e.a,bhdN (scF g).m e.c⟩,(appS j.st (toE e)).1,k,j.kept,shut⟩∧
   Par (anewJ d r t k shut) (i++[⟨g.nm,g.su,g.lo++x⟩]):=by
 have V:=h.dkr.bytes h.all g (by simp);obtain⟨O,P,b3,w⟩:=V;have D:(scF g).num≠0:=(by rw[b3];exact w);obtain⟨F,Q⟩:=Zya O D z ok;have u:byF ⟨g.nm,g.su,g.lo++x⟩=segL (addS (scF g) e):=(by rw[byF_app,N,Q,←P]);have hq:=h.q;have Z:=h.kq;have W:keptF j.dk.fs≤(addS (scF g) e).s:=(by show _≤e.s;rw[←h.kept];omega);obtain⟨R,G⟩:=Zkv (f:=⟨g.nm,g.su,g.lo++x⟩) h.dkr rfl w F u rfl rfl rfl W;have l:(⟨g.nm,g.su,g.lo++x⟩:FiD).len=g.len+x.length:=(by unfold FiD.len;simp;omega);rw[l]at G;have H:=h.good;rw[List.map_append]at H;have hst:=h.st;rw[List.map_append]at hst
 obtain⟨T,U⟩:=goodR_add (p:=ptF scF g) (q:=⟨addS (scF g) e,g.len+x.length⟩) H rfl rfl rfl rfl (by show e.s=(scF g).s+1;omega) (by rw[←h.kept];omega) (by
  have:stR (i.map (ptF scF)++[ptF scF g]) (keptF j.dk.fs) (baseF j.dk.fs)=j.st:=hst.symm
  rw[this];exact M)
 have A:keptF d.fs=keptF j.dk.fs:=(by rw[n];exact Zcw w);have C:baseF d.fs=baseF j.dk.fs:=(by rw[n];exact Zeo w);have y:rowK d.fs=(i.map (ptF scF)++[⟨addS (scF g) e,g.len+x.length⟩],[]):=(by rw[n];exact G);have E:stR (i.map (ptF scF)++[⟨addS (scF g) e,g.len+x.length⟩]) (keptF j.dk.fs) (baseF j.dk.fs)=(appS j.st (toE e)).1:=(by rw[U];have:stR (i.map (ptF scF)++[ptF scF g]) (keptF j.dk.fs) (baseF j.dk.fs)=j.st:=hst.symm;rw[this]);have J:Zbl (i.map (ptF scF)++[⟨addS (scF g) e,g.len+x.length⟩])=⟨e.s,e.a,bhdN (scF g).m e.c⟩:=(by unfold Zbl;rw[List.getLast?_concat];simp[addS,z]);have K:anewJ d r t k shut=⟨d,r,t,((i.map (ptF scF)).map sgOf)++[sgOf ⟨addS (scF g) e,g.len+x.length⟩],⟨e.s,e.a,bhdN (scF g).m e.c⟩,(appS j.st (toE e)).1,k,j.kept,shut⟩:=(by unfold anewJ;rw[y,A,C,E,J,List.map_append,h.kept];rfl);refine⟨K,?_⟩;have L:scF ⟨g.nm,g.su,g.lo++x⟩=addS (scF g) e:=Zbx F u;have v:(i++[(⟨g.nm,g.su,g.lo++x⟩:FiD)]).map (ptF scF)=i.map (ptF scF)++[⟨addS (scF g) e,g.len+x.length⟩]:=(by rw[List.map_append];simp only[List.map_cons,List.map_nil,ptF,L,l]);refine⟨?_,?_,?_,?_,?_,?_,?_⟩
 ·show DkR d.fs _;rw[n];exact R
 ·show GoodR _ (keptF d.fs) (baseF d.fs);rw[v,A,C];exact T
 ·intro p o;rw[v]at o
  rcases List.mem_append.1 o with o|o
  ·exact h.all p (by rw[List.map_append];exact List.mem_append.2 (.inl o))
  ·have X:p=⟨addS (scF g) e,g.len+x.length⟩:=(by simpa using o);subst X;show g.len+x.length=_;rw[←l,←Ziq,u]
 ·show stR (rowK d.fs).1 _ _=stR _ (keptF d.fs) (baseF d.fs);rw[v,y]
 ·show(rowK d.fs).1.map sgOf=_;rw[v,y]
 ·show Zbl (rowK d.fs).1=_;rw[v,y]
 ·rfl
def par_of{j:JoD}{a:DiD}{b:List FiD}{f:FiD}{c:Sc}{S:StD}(m:∀p∈b.map (ptF scF),p.n=(segL p.d).length)(t:DkR a.fs (b++[f]))(r:scF f=c)(s:byF f=segL c)(i:rowK a.fs=(b.map (ptF scF)++[⟨c,f.len⟩],[]))
  (k:keptF a.fs=keptF j.dk.fs) (l:baseF a.fs=baseF j.dk.fs) (u:j.kept=keptF j.dk.fs) (v:GoodR (b.map (ptF scF)++[⟨c,f.len⟩]) (keptF j.dk.fs) (baseF j.dk.fs)) (hst:stR (b.map (ptF scF)++[⟨c,f.len⟩]) (keptF j.dk.fs) (baseF j.dk.fs)=S) (o q e:Int) (shut:Bool):
  anewJ a o q e shut=⟨a,o,q,((b.map (ptF scF)).map sgOf)++[sgOf ⟨c,f.len⟩],Zbl (b.map (ptF scF)++[⟨c,f.len⟩]),S,e,j.kept,shut⟩∧Par (anewJ a o q e shut) (b++[f]):=by
 have h:(b++[f]).map (ptF scF)=b.map (ptF scF)++[⟨c,f.len⟩]:=(by rw[List.map_append];simp only[List.map_cons,List.map_nil,ptF,r]);refine⟨?_,⟨t,?_,?_,?_,?_,?_,rfl⟩⟩
 ·unfold anewJ;rw[i,k,l,hst,List.map_append,u];rfl
 ·show GoodR _ (keptF a.fs) (baseF a.fs);rw[h,k,l];exact v
 ·intro p g;rw[h]at g
  rcases List.mem_append.1 g with g|g
  ·exact m p g
  ·have w:p=⟨c,f.len⟩:=(by simpa using g);subst w;show f.len=_;rw[←Ziq,s]
 ·show stR (rowK a.fs).1 _ _=stR _ (keptF a.fs) (baseF a.fs);rw[h,i]
 ·show(rowK a.fs).1.map sgOf=_;rw[h,i]
 ·show Zbl (rowK a.fs).1=_;rw[h,i]
def Zx3{j:JoD}{k:List FiD}{g f:FiD}(h:Par j (k++[g]))(o:(scF g).sl=false)(r:g.nm=f.nm)(z:byF f=byF g++seaB (scF g)){a:DiD}(c:a.fs=withB FiD.nm j.dk.fs f)(l m b:Int)(shut:Bool):
  anewJ a l m b shut=⟨a,l,m,((k.map (ptF scF)).map sgOf)++[sgOf ⟨sealS (scF g),f.len⟩],⟨0,0,[]⟩,j.st,b,j.kept,shut⟩∧Par (anewJ a l m b shut) (k++[f]):=by
 obtain⟨C,D,b3,t⟩:=h.dkr.bytes h.all g (by simp);have n:(scF g).num≠0:=by rw[b3];exact t
 obtain⟨u,E⟩:=Zta C n o;have d:byF f=segL (sealS (scF g)):=(by rw[z,E,←D]);have i:numS f.nm≠0:=by rw[←r];exact t
 have K:keptF j.dk.fs≤(sealS (scF g)).s:=h.dkr.kept (ptF scF g) (by simp);obtain⟨F,G⟩:=Zkv (f:=f) h.dkr r i u d rfl rfl rfl K;have v:=h.good;rw[List.map_append]at v;have hst:=h.st;rw[List.map_append]at hst;obtain⟨H,J⟩:=Zxu (p:=ptF scF g) (q:=⟨sealS (scF g),f.len⟩) v rfl rfl rfl rfl;have w:keptF a.fs=keptF j.dk.fs:=(by rw[c];exact Zcw i);have x:baseF a.fs=baseF j.dk.fs:=(by rw[c];exact Zeo i);have e:=par_of (j:=j) (S:=j.st) (λp A=>h.all p (by rw[List.map_append];exact List.mem_append.2 (.inl A))) (by rw[c];exact F) (Zbx u d) d (by rw[c];exact G) w x h.kept H (J.trans hst.symm) l m b shut;have y:Zbl (k.map (ptF scF)++[⟨sealS (scF g),f.len⟩])=⟨0,0,[]⟩:=(by unfold Zbl;rw[List.getLast?_concat];simp[sealS]);rw[y]at e;exact e
def anew_new{j:JoD}{b:List FiD}{f:FiD}{n:Int}{e:Cod.EvD}(h:Par j b)(z:∀g,b.getLast?=some g→(scF g).sl=true∧n=(scF g).num+1)(A:inN n)(a0:b=[]→n=1)(C:f.nm=segNm n)(hno:∀g∈j.dk.fs,g.nm≠f.nm)(x:∀g∈b,numS g.nm<n)
  (D:e.s=j.st.q+1) (E:headOK n j.st.q j.st.t) (ok:EncOK j.st.q j.st.t [] e) (M:(appS j.st (toE e)).2=0) (N:byF f=fr 1 (hdP n j.st.q j.st.t)++fr 2 (encL j.st.q j.st.t [] e)) {d:DiD} (k:d.fs=withB FiD.nm j.dk.fs f) (p r i:Int) (shut:Bool):
  anewJ d p r i shut=⟨d,p,r,((b.map (ptF scF)).map sgOf)++[sgOf ⟨newS n j.st.q j.st.t e,f.len⟩],⟨e.s,e.a,bhdN [] e.c⟩,(appS j.st (toE e)).1,i,j.kept,shut⟩∧Par (anewJ d p r i shut) (b++[f]):=by
 obtain⟨F,O⟩:=Zyb E ok;have l:byF f=segL (newS n j.st.q j.st.t e):=(by rw[N,O]);have m:numS f.nm=n:=by rw[C];exact Zjy A
 have o:numS f.nm≠0:=(by rw[m];have:=A.1;omega);have a3:=h.kq;have Y:(newS n j.st.q j.st.t e).s=e.s:=rfl;have Z:keptF j.dk.fs≤(newS n j.st.q j.st.t e).s:=(by rw[Y,←h.kept];omega);have v:∀g,b.getLast?=some g→(scF g).s=j.st.q∧(scF g).a=j.st.t:=by intro g u;obtain⟨w,rfl⟩:∃w,b=w++[g]:=List.getLast?_eq_some_iff.1 u;refine⟨h.q.symm,?_⟩;have:=h.good.at_ (ptF scF g) (by simp);rw[←h.st]at this;exact this
 obtain⟨P,Q⟩:=rowK_new (f:=f) (d':=newS n j.st.q j.st.t e) h.dkr hno o (by rw[m];exact x) F l (by rw[m];rfl) (λg u=>by
  obtain⟨R,T⟩:=v g u;obtain⟨U,V⟩:=z g u
  exact⟨U,V,R.symm,T.symm⟩) Z
 have hst:=h.st
 obtain⟨W,X⟩:=goodR_new (q:=⟨newS n j.st.q j.st.t e,f.len⟩) (e:=e) h.good rfl rfl rfl (by show e.s=j.st.q+1;exact D) (by rw[←h.kept];omega) (λy=>by
  have G:b=[]:=(by simpa using y);subst G;show j.st.q≤_
  rw[h.q0,h.kept];exact Int.le_refl _) (by rw[←hst];exact M)
 have H:keptF d.fs=keptF j.dk.fs:=(by rw[k];exact Zcw o);have J:baseF d.fs=baseF j.dk.fs:=(by rw[k];exact Zeo o);have K:=par_of (j:=j) (S:=(appS j.st (toE e)).1) h.all (by rw[k];exact P) (Zbx F l) l (by rw[k];exact Q) H J h.kept W (by rw[X,←hst]) p r i shut;have L:Zbl (b.map (ptF scF)++[⟨newS n j.st.q j.st.t e,f.len⟩])=⟨e.s,e.a,bhdN [] e.c⟩:=(by unfold Zbl;rw[List.getLast?_concat];rfl);rw[L]at K;exact K
def Zpu{d:DiD}{f:FiD}(b:srt FiD.nm d.fs)(a:f∈d.fs):d.get f.nm=some f:=by
 unfold DiD.get
 cases h:d.fs.find? (λg=>decide (g.nm=f.nm))with
 |none=>have:=List.find?_eq_none.1 h f a;simp at this
 |some g=>have c:=Wp h;have e:=WA h;rw[Zol b e a (by simpa using c)]
def get_none{d:DiD}{s:BA}(h:d.get s=none):∀g∈d.fs,g.nm≠s:=by
 intro g a e;have:=List.find?_eq_none.1 h g a;simp[e]at this
def Zdo{d a:DiD}{s:BA}{x:List UInt8}(h:Zat d s x=(a,0)):d.er s s=0∧∃f,d.get s=some f∧a.fs=withB FiD.nm d.fs ⟨s,f.su,f.lo++x⟩∧a.rm=d.rm∧a.dn=d.dn:=by
 unfold Zat at h
 split at h
 next g=>simp only[Prod.mk.injEq]at h;exact absurd h.2 g
 ·rename_i g;refine⟨by simpa using g,?_⟩
  split at h
  ·simp at h
  next f b=>
   split at h
   ·simp at h
   ·split at h
    ·simp at h
    ·simp only[Prod.mk.injEq]at h;refine⟨f,b,?_⟩;rw[←h.1];exact⟨rfl,rfl,rfl⟩
def Zn3{d a:DiD}{b:List FiD}(h:d.perf b=(a,0)):a.fs=b∧a.rm=d.rm∧a.dn=d.dn:=by
 unfold DiD.perf at h
 split at h
 ·simp at h
 ·simp only[Prod.mk.injEq]at h;rw[←h.1];exact⟨rfl,rfl,rfl⟩
def Zhs{d a:DiD}{s:BA}(h:Za3 d s=(a,0)):d.er s s=0∧∃f,d.get s=some f∧a.fs=withB FiD.nm d.fs ⟨s,f.su++f.lo,[]⟩∧a.rm=d.rm∧a.dn=d.dn:=by
 unfold Za3 at h
 split at h
 next g=>simp only[Prod.mk.injEq]at h;exact absurd h.2 g
 ·rename_i g;refine⟨by simpa using g,?_⟩
  split at h
  ·simp at h
  next f b=>exact⟨f,b,Zn3 h⟩
def Zla{d a:DiD}{s:BA}(h:Za7 d s=(a,0)):d.er s s=0∧d.get s=none∧a.fs=withB FiD.nm d.fs ⟨s,[],[]⟩∧a.rm=d.rm∧a.dn=d.dn:=by
 unfold Za7 at h
 split at h
 next g=>simp only[Prod.mk.injEq]at h;exact absurd h.2 g
 ·rename_i g;refine⟨by simpa using g,?_⟩
  split at h
  ·simp at h
  next b=>
   split at h
   ·simp at h
   ·exact⟨b,Zn3 h⟩
def Zn4{d a:DiD}{f:FiD}(b:srt FiD.nm d.fs)(e:a.fs=withB FiD.nm d.fs f):a.get f.nm=some f:=get_withB b e
def app_app{d b c:DiD}{s:BA}{x y:List UInt8}(e:srt FiD.nm d.fs)(h:Zat d s x=(b,0))(i:Zat b s y=(c,0)):∃f,d.get s=some f∧c.fs=withB FiD.nm d.fs ⟨s,f.su,f.lo++(x++y)⟩:=by
 obtain⟨_,f,j,e1,_⟩:=Zdo h;obtain⟨_,l,a,e2,_⟩:=Zdo i;have k:=Zn4 (f:=⟨s,f.su,f.lo++x⟩) e e1;rw[k]at a
 cases a
 refine⟨f,j,?_⟩;rw[e2,e1,Zg3 (nm:=FiD.nm) (f:=⟨s,f.su,f.lo++x⟩) (g:=⟨s,f.su,f.lo++x++y⟩) rfl,List.append_assoc]
def app_sync{d b c:DiD}{s:BA}{x:List UInt8}(e:srt FiD.nm d.fs)(h:Zat d s x=(b,0))(i:Za3 b s=(c,0)):∃f,d.get s=some f∧c.fs=withB FiD.nm d.fs ⟨s,f.su++(f.lo++x),[]⟩:=by
 obtain⟨_,f,j,e1,_⟩:=Zdo h;obtain⟨_,l,a,e2,_⟩:=Zhs i;have k:=Zn4 (f:=⟨s,f.su,f.lo++x⟩) e e1;rw[k]at a
 cases a
 refine⟨f,j,?_⟩;rw[e2,e1,Zg3 (nm:=FiD.nm) (f:=⟨s,f.su,f.lo++x⟩) (g:=⟨s,f.su++(f.lo++x),[]⟩) rfl]
def new_app{d a c e:DiD}{s:BA}{x y:List UInt8}(h:srt FiD.nm d.fs)(k:Za7 d s=(a,0))(l:Zat a s x=(c,0))(m:Zat c s y=(e,0)):(∀g∈d.fs,g.nm≠s)∧e.fs=withB FiD.nm d.fs ⟨s,[],x++y⟩:=by
 obtain⟨_,n,b,_⟩:=Zla k;have j:srt FiD.nm a.fs:=by rw[b];exact Zbq h
 obtain⟨f,i,e2⟩:=app_app j l m;have o:=Zn4 (f:=⟨s,[],[]⟩) h b;rw[o]at i
 cases i
 refine⟨get_none n,?_⟩;rw[e2,b,Zg3 (nm:=FiD.nm) (f:=⟨s,[],[]⟩) (g:=⟨s,[],[]++(x++y)⟩) rfl,List.nil_append]
def appS_may{d:StD}{e:Cmp.EvD}(h:(appS d e).2=0):MayS d e:=by
 refine Zfx ?_;unfold appS at h
 split at h
 next g=>exact absurd h g
 next g=>simpa using g
def st_ctx{d:StD}(h:d.P):ctxOK d.q d.t:=by
 obtain⟨⟨_,a,b,c,e⟩,_⟩:=h;exact⟨a,b,c,e⟩
def ctx_nil{s a:Int}(h:ctxOK s a):ctxB s a []=true:=by
 unfold ctxB rgtB;obtain⟨b,c,d,e⟩:=h;simp[b,c,d,e]
def Par.t{j:JoD}{b:List FiD}{g:FiD}(h:Par j (b++[g])):j.st.t=(scF g).a:=by
 have:=h.good.at_ (ptF scF g) (by simp);rw[←h.st]at this;exact this.symm
def Par.ctx{j:JoD}{a:List FiD}{g:FiD}(h:Par j (a++[g])):ScOK (scF g)∧(scF g).num≠0:=by
 obtain⟨b,d,b3,c⟩:=h.dkr.bytes h.all g (by simp);exact⟨b,by rw[b3];exact c⟩
def Par.name{j:JoD}{a:List FiD}(h:Par j a):∀f∈a,f.nm=segNm (scF f).num∧inN (scF f).num:=by
 intro f b;obtain⟨g,i,b3,c⟩:=h.dkr.bytes h.all f b;obtain⟨d,e⟩:=Zc1 c;rw[b3];exact⟨e,d⟩
def Par.big{j:JoD}{c:List FiD}{g:FiD}(h:Par j (c++[g])):∀f∈c++[g],numS f.nm<(scF g).num+1:=by
 have o:srt FiD.nm (c++[g]):=(by rw[←h.dkr.eq];exact YG _ h.dkr.srt);obtain⟨_,_,c3,k⟩:=h.dkr.bytes h.all g (by simp);intro f a;obtain⟨_,_,b3,l⟩:=h.dkr.bytes h.all f a
 rcases List.mem_append.1 a with a|a
 ·have b:=(List.pairwise_append.1 o).2.2 f a g (by simp);obtain⟨m,d⟩:=Zc1 l;obtain⟨n,e⟩:=Zc1 k;rw[c3]
  rcases Ws (numS f.nm) (numS g.nm)with q|q
  ·omega
  ·exfalso;have i:numS g.nm<numS f.nm∨numS g.nm=numS f.nm:=by omega
   rcases i with q2|q2
   ·have:=Ztt n m q2;rw[←e,←d]at this;exact Zlk _ (WV b this)
   ·rw[d,e,q2]at b;exact Zlk _ b
 ·have:f=g:=(by simpa using a);subst this;rw[c3];omega
def Zpw(a:FiD→Sc):∀(l:List FiD) (r:List Pt) (o:List BA),(∀f∈l,numS f.nm≠0)→o≠[]→l.foldl (rstep a) (r,o)=(r,o++l.map FiD.nm)
 | [],r,o,_,_=>by simp
 |f::l,r,o,hn,ho=>by rw[List.foldl_cons,show rstep a (r,o) f=(r,o++[f.nm])from by unfold rstep;rw[if_neg (hn f (by simp)),if_neg (λq=>ho q.1)]];rw[Zpw a l r _ (λg b=>hn g (by simp[b])) (by simp)];simp
def Zmr(b:FiD→Sc):∀(l:List FiD) (r:List Pt),(∀f∈l,numS f.nm≠0)→∃n,l.foldl (rstep b) (r,[])=(r++(l.take n).map (ptF b),(l.drop n).map FiD.nm)∧inRow b (r.getLast?.map (·.d)) (l.take n)
 | [],r,_=>⟨0,by simp,trivial⟩
 |f::l,r,hn=>by
  rw[List.foldl_cons];by_cases hm:mayR b r [] f
  ·rw[show rstep b (r,[]) f=(r++[ptF b f],[])from by unfold rstep;rw[if_neg (hn f (by simp)),if_pos hm]];obtain⟨n,h,i⟩:=Zmr b l (r++[ptF b f]) λg c=>hn g (by simp[c]);refine⟨n+1,by rw[h];simp,?_⟩;rw[List.take_succ_cons];obtain⟨_,j,e⟩:=hm;refine⟨j,?_,by simpa using i⟩
   cases c:r.getLast? with
   |none=>trivial
   |some a=>rw[c]at e;exact e
  ·rw[show rstep b (r,[]) f=(r,[]++[f.nm])from by unfold rstep;rw[if_neg (hn f (by simp)),if_neg hm]];refine⟨0,?_,trivial⟩;rw[Zpw b l r _ (λg c=>hn g (by simp[c])) (by simp)];simp
def Zrv(l:List FiD):∃n,rowsD scF l=(((segs l).take n).map (ptF scF),((segs l).drop n).map FiD.nm)∧inRow scF none ((segs l).take n):=by
 unfold rowsD;rw[Zdm];obtain⟨n,a,b⟩:=Zmr scF (segs l) [] Zcl;exact⟨n,by simpa using a,b⟩
def Zdq{a:FiD→Sc}:∀{l:List FiD} {p:Option Sc},inRow a p l→∀f∈l,(a f).num=numS f.nm
 | [],_,_,f,hf=>by cases hf
 |g::l,p,h,f,hf=>by
  rcases List.mem_cons.1 hf with rfl|hf
  ·exact h.1
  ·exact Zdq h.2.2 f hf
def Zoa{f:FiD}(h:numS f.nm≠0):segNm (numS f.nm)=f.nm:=(Zc1 h).2.symm
def Zms(l:List FiD):∃n,rowK l=(((segs l).take n).map (ptF scF),((segs l).drop n).map FiD.nm)∧inRow scF none ((segs l).take n)∧∀p,(((segs l).take n).map (ptF scF)).getLast?=some p→keptF l≤p.d.s:=by
 obtain⟨n,h,b⟩:=Zrv l;unfold rowK;rw[h]
 cases hg:(((segs l).take n).map (ptF scF)).getLast? with
 |none=>exact⟨n,rfl,b,λp c=>by rw[hg]at c;cases c⟩
 |some p=>
  simp only;by_cases hk:p.d.s<keptF l
  ·rw[if_pos hk];refine⟨0,?_,trivial,λq a=>by simp at a⟩;have e:(((segs l).take n).map (ptF scF)).map (λp=>segNm p.d.num)=((segs l).take n).map FiD.nm:=(by rw[List.map_map];apply List.map_congr_left;intro f g;show segNm (scF f).num=f.nm;rw[Zdq b f g];exact Zoa (Zcl f (List.mem_of_mem_take g)));rw[e,←List.map_append,List.take_append_drop];simp
  ·rw[if_neg hk];exact⟨n,rfl,b,λq a=>by rw[hg]at a;cases a;omega⟩
def segs_wout{l:List FiD}{s:BA}:segs (wout FiD.nm l s)=wout FiD.nm (segs l) s:=by
 unfold segs wout;rw[List.filter_filter,List.filter_filter];apply List.filter_congr;intro x _;exact Bool.and_comm _ _
def cand_wout{l:List FiD}{s:BA}(h:numS s≠0)(t:StD):Cand (wout FiD.nm l s) t↔Cand l t:=by
 constructor
 ·rintro⟨g,a,q⟩;exact⟨g,(Zgh.1 a).1,q⟩
 ·rintro⟨g,a,q⟩;exact⟨g,Zgh.2 ⟨a,λe=>Zea h _ (e.symm.trans q.2.1)⟩,q⟩
def Zmt{l:List FiD}{s:BA}(h:numS s≠0):keptF (wout FiD.nm l s)=keptF l∧baseF (wout FiD.nm l s)=baseF l:=by
 have e:=Zm5 λt=>cand_wout (l:=l) h t;unfold keptF baseF;rw[e];exact⟨rfl,rfl⟩
def wout_last{l:List FiD}{f:FiD}(a:srt FiD.nm (l++[f])):wout FiD.nm (l++[f]) f.nm=l:=by
 unfold wout;rw[List.filter_append]
 have c:(l.filter λg=>decide (g.nm≠f.nm))=l:=by
  apply List.filter_eq_self.2;intro x b;have:=Zjh ((List.pairwise_append.1 a).2.2 x b f (by simp))
  simpa using this
 rw[c];simp
def Zpr{h:FiD→FiD}:∀{l:List FiD} {p:Option Sc},(∀f∈l,(h f).nm=f.nm∧scF (h f)=scF f)→inRow scF p l→inRow scF p (l.map h)
 | [],_,_,_=>trivial
 |f::l,p,hh,hi=>by obtain⟨c,a⟩:=hh f (by simp);obtain⟨d,e,i⟩:=hi;refine⟨by rw[c,a];exact d,by rw[a];exact e,?_⟩;rw[a];exact Zpr (λg b=>hh g (by simp[b])) i
noncomputable def ptW(f:FiD):Pt:=⟨scF f,(segL (scF f)).length⟩
def Zk0{l b:List FiD}{n:Nat}{h:FiD→FiD}(u:srt FiD.nm b)(m:segs b=((segs l).take n).map h)(i:inRow scF none ((segs l).take n))(j:∀p,(((segs l).take n).map (ptF scF)).getLast?=some p→keptF l≤p.d.s)
  (o:∀f∈(segs l).take n,(h f).nm=f.nm∧byF (h f)=segL (scF f)) (v:keptF b=keptF l):DkR b (segs b)∧rowK b=(((segs l).take n).map ptW,[]):=by
 have q:∀f∈(segs l).take n,ScOK (scF f):=λf a=>by have w:=Zdq i f a;exact(Zk4 (by rw[w];exact Zcl f (List.mem_of_mem_take a))).1
 have k:∀f∈(segs l).take n,(h f).nm=f.nm∧scF (h f)=scF f:=λf a=>⟨(o f a).1,Zbx (q f a) (o f a).2⟩
 have r:(((segs l).take n).map h).map (ptF scF)=((segs l).take n).map ptW:=by
  rw[List.map_map];apply List.map_congr_left;intro f a
  show(⟨scF (h f),(h f).len⟩:Pt)=⟨scF f,(segL (scF f)).length⟩
  rw[(k f a).2,←Ziq,(o f a).2]
 have t:DkR b (segs b):=by
  refine⟨u,rfl,by rw[m];exact Zpr k i,λp c=>?_⟩;rw[m,r]at c;rw[v]
  rcases Y2 ((segs l).take n)with e|⟨gs,g,e⟩
  ·rw[e]at c;simp at c
  ·rw[List.concat_eq_append]at e;rw[e]at c j;have e1:p=ptW g:=(by simpa using c.symm);subst e1;exact j (ptF scF g) (by simp)
 refine⟨t,?_⟩;rw[Ze8 t,m,r]
def Zt2(l:List FiD):evsR (l.map ptW)=evsR (l.map (ptF scF)):=by
 unfold evsR;rw[List.flatMap_map,List.flatMap_map];rfl
def Zz1(l:List FiD)(k:Int)(s:StD):stR (l.map ptW) k s=stR (l.map (ptF scF)) k s:=by unfold stR;rw[Zt2]
def Zz2{l:List FiD}{k:Int}{s:StD}(h:GoodR (l.map (ptF scF)) k s):GoodR (l.map ptW) k s:=by
 refine⟨λp a=>?_,λp a=>?_,by rw[Zt2];exact h.app,λp a=>?_⟩
 ·cases l with
  |nil=>simp at a
  |cons f l=>have e:p=ptW f:=(by simpa using a.symm);subst e;exact h.bs (ptF scF f) (by simp)
 ·obtain⟨f,b,rfl⟩:=Y3.1 a;exact h.cnt (ptF scF f) (Y3.2 ⟨f,b,rfl⟩)
 ·rw[Zz1]
  rcases Y2 l with rfl|⟨gs,g,rfl⟩
  ·simp at a
  ·rw[List.concat_eq_append]at a h⊢;have e:p=ptW g:=(by simpa using a.symm);subst e;exact h.at_ (ptF scF g) (by simp)
def byF_cut{f:FiD}{n:Nat}:byF ⟨f.nm,f.su.take n,f.lo.take (n-f.su.length)⟩=(byF f).take n:=by
 unfold byF;rw[←List.map_take,List.take_append]
def Zrj{f:FiD}(h:(scF f).num≠0):byF ⟨f.nm,f.su.take (segL (scF f)).length,f.lo.take ((segL (scF f)).length-f.su.length)⟩=segL (scF f):=by
 rw[byF_cut];exact WH.1 (Zk4 h).2|>.symm
def Zt3(s:BA)(f:FiD):byF ⟨s,f.su++f.lo,[]⟩=byF f:=by unfold byF;simp
def Zk1{d a:DiD}{s:BA}(h:Zbg d s=(a,0)):d.er s s=0∧(∃f,d.get s=some f)∧a.fs=wout FiD.nm d.fs s∧a.rm=d.rm∧a.dn=d.dn:=by
 unfold Zbg at h
 split at h
 next g=>simp only[Prod.mk.injEq]at h;exact absurd h.2 g
 ·rename_i g;refine⟨by simpa using g,?_⟩
  split at h
  ·simp at h
  next f b=>exact⟨⟨f,b⟩,Zn3 h⟩
def Zt4{d a:DiD}{s:BA}{n:Int}(h:opCut d s n=(a,0)):d.er s s=0∧∃f,d.get s=some f∧0≤n∧n≤f.len∧a.fs=withB FiD.nm d.fs ⟨s,f.su.take n.toNat,f.lo.take (n.toNat-f.su.length)⟩∧a.rm=d.rm∧a.dn=d.dn:=by
 unfold opCut at h
 split at h
 next g=>simp only[Prod.mk.injEq]at h;exact absurd h.2 g
 ·rename_i g;refine⟨by simpa using g,?_⟩
  split at h
  ·simp at h
  next f b=>
   split at h
   ·simp at h
   next c=>have:=Zn3 h;exact⟨f,b,by omega,by omega,this⟩
def runS:DiD→List (DiD→DiD×Int)→DiD×Int
 |d,[]=>(d,0)
 |d,s::l=>if(s d).2≠0 then s d else runS (s d).1 l
def Zhr{d a:DiD}{s:DiD→DiD×Int}{l:List (DiD→DiD×Int)}(h:runS d (s::l)=(a,0)):∃b,s d=(b,0)∧runS b l=(a,0):=by
 rw[runS]at h
 split at h
 next g=>rw[h]at g;exact absurd rfl g
 next g=>have g:(s d).2=0:=(by simpa using g);exact⟨(s d).1,by rw[←g],h⟩
def Zjz:∀(a b:List (DiD→DiD×Int)) {d c:DiD},runS d (a++b)=(c,0)→∃e,runS d a=(e,0)∧runS e b=(c,0)
 | [],b,d,c,h=>⟨d,rfl,h⟩
 |s::a,b,d,c,h=>by obtain⟨e,f,g⟩:=Zhr h;obtain⟨i,j,k⟩:=Zjz a b g;refine⟨i,?_,k⟩;rw[runS,f,if_neg (by simp)];exact j
structure Same(d d':DiD):Prop where
 srt:srt FiD.nm d'.fs
 kept:keptF d'.fs=keptF d.fs
 base:baseF d'.fs=baseF d.fs
 rm:d'.rm=d.rm
 dn:d'.dn=d.dn
def Same.trans{a b c:DiD}(h:Same a b)(k:Same b c):Same a c:=⟨k.srt,k.kept.trans h.kept,k.base.trans h.base,k.rm.trans h.rm,k.dn.trans h.dn⟩
def Same.refl{d:DiD}(h:Go.Px.srt FiD.nm d.fs):Same d d:=⟨h,rfl,rfl,rfl,rfl⟩
def srt_wout{l:List FiD}{s:BA}(h:srt FiD.nm l):srt FiD.nm (wout FiD.nm l s):=YG _ h
def segs_mid{l X Y:List FiD}{g f:FiD}(d:srt FiD.nm l)(e:segs l=X++g::Y)(a:g.nm=f.nm):segs (withB FiD.nm l f)=X++f::Y:=by
 have j:g∈l:=(List.mem_filter.1 (show g∈l.filter isSeg by rw[show l.filter isSeg=X++g::Y from e];simp)).1;rw[Zu5 d ⟨g,j,a⟩,e,List.map_append,List.map_cons,if_pos a];have b:srt FiD.nm (segs l):=YG _ d;rw[e]at b;obtain⟨k,h,i⟩:=List.pairwise_append.1 b;congr 1
 ·conv=>rhs;rw[←YY X]
  apply List.map_congr_left;intro x c;rw[if_neg (λq=>Zjh (i x c g (by simp)) (q.trans a.symm))];rfl
 ·congr 1
  conv=>rhs;rw[←YY Y]
  apply List.map_congr_left;intro x c;rw[if_neg (λq=>Zjh ((List.pairwise_cons.1 h).1 x c) (a.trans q.symm))];rfl
def Zwy:∀(k:Nat) (A B:List FiD) (d a:DiD),B.length=k→srt FiD.nm d.fs→segs d.fs=A++B→runS d ((B.map FiD.nm).reverse.map λs d=>Zbg d s)=(a,0)→segs a.fs=A∧Same d a:=by
 intro k
 induction k with
 |zero=>intro A B d a b c e h;have:B=[]:=List.length_eq_zero_iff.1 b;subst this;simp only[List.map_nil,Wk,runS,Prod.mk.injEq]at h;rw[←h.1];exact⟨by simpa using e,Same.refl c⟩
 |succ k r=>
  intro A B d a b c e h
  rcases Y2 B with rfl|⟨B,f,rfl⟩
  ·simp at b
  ·rw[List.concat_eq_append]at b e h;rw[List.map_append,WX]at h;simp only[List.map_cons,List.map_nil,List.reverse_cons,Wk,List.nil_append,WQ]at h;obtain⟨j,m,n⟩:=Zhr h;obtain⟨_,_,e1,e2,o⟩:=Zk1 m;have g:numS f.nm≠0:=Zcl f (by rw[e];simp);have i:srt FiD.nm j.fs:=by rw[e1];exact srt_wout c
   have l:segs j.fs=A++B:=(by rw[e1,segs_wout,e,←List.append_assoc];refine wout_last ?_;rw[List.append_assoc,←e];exact YG _ c);obtain⟨p,q⟩:=r A B j a (by simpa using b) i l n;refine⟨p,Same.trans ⟨i,?_,?_,e2,o⟩ q⟩
   ·rw[e1];exact(Zmt g).1
   ·rw[e1];exact(Zmt g).2
noncomputable def cutF(f:FiD):FiD:=if(segL (scF f)).length<f.len then⟨f.nm,f.su.take (segL (scF f)).length,f.lo.take ((segL (scF f)).length-f.su.length)⟩else f
def Zgx(f:FiD):(cutF f).nm=f.nm:=by unfold cutF;split<;>rfl
def cutF_by{f:FiD}(h:(scF f).num≠0):byF (cutF f)=segL (scF f):=by
 unfold cutF
 split
 ·exact Zrj h
 next g=>have a:=(Zk4 h).2;exact(a.eq_of_length (by have:=a.length_le;rw[Ziq]at this⊢;omega)).symm
noncomputable def cutS(p:Pt):List (DiD→DiD×Int):=if(segL p.d).length<p.n then[λd=>opCut d (segNm p.d.num) (segL p.d).length]else[]
def run_cut:∀(k:Nat) (A B C:List FiD) (d a:DiD),B.length=k→srt FiD.nm d.fs→segs d.fs=A++(B++C)→(∀f∈B,(scF f).num=numS f.nm)→runS d ((B.map (ptF scF)).reverse.flatMap cutS)=(a,0)→segs a.fs=A++(B.map cutF++C)∧Same d a:=by
 intro k
 induction k with
 |zero=>intro A B C d a j b e p h;have:B=[]:=List.length_eq_zero_iff.1 j;subst this;simp only[List.map_nil,Wk,List.flatMap_nil,runS,Prod.mk.injEq]at h;rw[←h.1];exact⟨by simpa using e,Same.refl b⟩
 |succ k K=>
  intro A B C d a j b e p h
  rcases Y2 B with rfl|⟨B,f,rfl⟩
  ·simp at j
  ·rw[List.concat_eq_append]at j e h p⊢;rw[List.map_append,WX]at h;simp only[List.map_cons,List.map_nil,List.reverse_cons,Wk,List.nil_append,WQ,List.flatMap_cons]at h;obtain⟨q,m,y⟩:=Zjz _ _ h;have n:numS f.nm≠0:=Zcl f (by rw[e];simp);have t:=p f (by simp)
   have u:segs q.fs=A++(B++(cutF f::C))∧Same d q:=by
    have v:segs d.fs=(A++B)++f::C:=(by rw[e];simp);unfold cutS at m
    split at m
    ·rename_i l;obtain⟨z,D,r⟩:=Zhr m;simp only[runS,Prod.mk.injEq]at r;have r:z=q:=r.1;subst r;obtain⟨_,g,i,_,_,c,E,F⟩:=Zt4 D;have w:segNm (ptF scF f).d.num=f.nm:=(by show segNm (scF f).num=f.nm;rw[t];exact Zoa n);rw[w]at i c;have x:f∈d.fs:=(List.mem_filter.1 (show f∈d.fs.filter isSeg by rw[show d.fs.filter isSeg=(A++B)++f::C from v];simp)).1;rw[Zpu b x]at i
     cases i
     have o:cutF f=⟨f.nm,f.su.take ((segL (ptF scF f).d).length:Int).toNat,f.lo.take (((segL (ptF scF f).d).length:Int).toNat-f.su.length)⟩:=(by unfold cutF;rw[if_pos l];simp);rw[←o]at c;refine⟨?_,by rw[c];exact Zbq b,?_,?_,E,F⟩
     ·rw[c,segs_mid b v (Zgx f).symm];simp
     ·rw[c];exact Zcw (by rw[Zgx];exact n)
     ·rw[c];exact Zeo (by rw[Zgx];exact n)
    ·rename_i l;simp only[runS,Prod.mk.injEq]at m;rw[←m.1];have o:cutF f=f:=by unfold cutF;rw[if_neg l]
     rw[o,e];exact⟨by simp,Same.refl b⟩
   obtain⟨G,s⟩:=u;obtain⟨H,J⟩:=K A B (cutF f::C) q a (by simpa using j) s.srt G (λg i=>p g (by simp[i])) y;exact⟨by rw[H];simp,s.trans J⟩
def Zvp{c:FiD→Sc}:∀{a:List FiD} {g:FiD} {p:Option Sc},inRow c p (a++[g])→∀f∈a,(c f).sl=true
 | [],_,_,_,f,hf=>by cases hf
 |x::a,g,p,h,f,hf=>by
  obtain⟨_,_,b⟩:=h
  rcases List.mem_cons.1 hf with rfl|hf
  ·cases a with
   |nil=>exact b.2.1.1
   |cons y a=>exact b.2.1.1
  ·exact Zvp b f hf
def synS(r:List Pt):List (DiD→DiD×Int):=match r.getLast? with
 |none=>[]
 |some p=>if p.d.sl=true then[]else[λd=>Za3 d (segNm p.d.num)]
noncomputable def mendS(r:List Pt)(o:List BA):List (DiD→DiD×Int):=(o.reverse.map λs d=>Zbg d s)++(r.reverse.flatMap cutS++synS r)
noncomputable def menF(f:FiD):FiD:=if(scF f).sl=true then cutF f else⟨(cutF f).nm,(cutF f).su++(cutF f).lo,[]⟩
def Zsv(f:FiD):(menF f).nm=f.nm:=by unfold menF;split<;>exact Zgx f
def menF_by{f:FiD}(h:(scF f).num≠0):byF (menF f)=segL (scF f):=by
 unfold menF
 split
 ·exact cutF_by h
 ·rw[Zt3];exact cutF_by h
def mend_ok{d c:DiD}(J:srt FiD.nm d.fs)(h:runS d (mendS (rowK d.fs).1 (rowK d.fs).2)=(c,0)):
  ∃p:List FiD,(rowK d.fs).1=p.map (ptF scF)∧inRow scF none p∧(∀f∈p,numS f.nm≠0)∧Same d c∧segs c.fs=p.map menF∧DkR c.fs (segs c.fs)∧rowK c.fs=(p.map ptW,[]):=by
 obtain⟨n,e,j,x⟩:=Zms d.fs;rw[e]at h;refine⟨(segs d.fs).take n,by rw[e],j,λf b=>Zcl f (List.mem_of_mem_take b),?_⟩;obtain⟨y,K,L⟩:=Zjz _ _ h;obtain⟨l,M,a⟩:=Zjz _ _ L;obtain⟨N,z⟩:=Zwy ((segs d.fs).drop n).length ((segs d.fs).take n) ((segs d.fs).drop n) d y rfl J (List.take_append_drop n _).symm K;have k:=Zdq j;obtain⟨i,m⟩:=run_cut ((segs d.fs).take n).length [] ((segs d.fs).take n) [] y l rfl z.srt (by rw[N];simp) k M;have r:∀f∈(segs d.fs).take n,(scF f).num≠0:=λf b=>by rw[k f b];exact Zcl f (List.mem_of_mem_take b)
 have i:segs l.fs=((segs d.fs).take n).map cutF:=by rw[i];simp
 have D:segs c.fs=((segs d.fs).take n).map menF∧Same l c:=by
  rcases Y2 ((segs d.fs).take n)with q|⟨gs,g,q⟩
  ·rw[q]at a i⊢;simp only[synS,List.map_nil,List.getLast?_nil,runS,Prod.mk.injEq]at a;rw[←a.1,i];exact⟨rfl,Same.refl m.srt⟩
  ·rw[List.concat_eq_append]at q;rw[q]at a i j r k⊢;have E:=Zvp j;have F:gs.map menF=gs.map cutF:=(by apply List.map_congr_left;intro f b;unfold menF;rw[if_pos (E f b)]);rw[List.map_append]at i⊢;rw[F];unfold synS at a;rw[List.map_append]at a;simp only[List.map_cons,List.map_nil,List.getLast?_concat]at a i⊢;by_cases hg:(scF g).sl=true
   ·rw[if_pos (show(ptF scF g).d.sl=true from hg)]at a;simp only[runS,Prod.mk.injEq]at a;rw[←a.1,i];have:menF g=cutF g:=by unfold menF;rw[if_pos hg]
    rw[this];exact⟨rfl,Same.refl m.srt⟩
   ·rw[if_neg (show¬(ptF scF g).d.sl=true from hg)]at a;obtain⟨O,P,t⟩:=Zhr a;simp only[runS,Prod.mk.injEq]at t;have t:O=c:=t.1;subst t;obtain⟨_,f,b,o,Q,R⟩:=Zhs P;have v:numS g.nm≠0:=by rw[←k g (by simp)];exact r g (by simp)
    have u:segNm (ptF scF g).d.num=g.nm:=(by show segNm (scF g).num=g.nm;rw[k g (by simp)];exact Zoa v);rw[u]at b o;have G:cutF g∈l.fs:=(List.mem_filter.1 (show cutF g∈l.fs.filter isSeg by rw[show l.fs.filter isSeg=gs.map cutF++[cutF g]from i];simp)).1;have s:=Zpu m.srt G;rw[Zgx,b]at s
    cases s
    have T:menF g=⟨g.nm,(cutF g).su++(cutF g).lo,[]⟩:=(by unfold menF;rw[if_neg hg,Zgx]);rw[←T]at o;have w:numS (menF g).nm≠0:=(by rw[Zsv];exact v);refine⟨?_,by rw[o];exact Zbq m.srt,by rw[o];exact Zcw w,by rw[o];exact Zeo w,Q,R⟩;rw[o,Zqh m.srt i (by rw[Zgx,Zsv])]
 obtain⟨A,C⟩:=D;have H:Same d c:=(z.trans m).trans C;refine⟨H,A,?_⟩;exact Zk0 (h:=menF) C.srt A j x (λf b=>⟨Zsv f,menF_by (r f b)⟩) H.kept
def Zvq{d a:DiD}(u:srt FiD.nm d.fs)(q:GoodR (rowK d.fs).1 (keptF d.fs) (baseF d.fs))(h:runS d (mendS (rowK d.fs).1 (rowK d.fs).2)=(a,0))(m n b:Int)(shut:Bool):
  anewJ a m n b shut=⟨a,m,n,(rowK d.fs).1.map sgOf,Zbl (rowK d.fs).1,stR (rowK d.fs).1 (keptF d.fs) (baseF d.fs),b,keptF d.fs,shut⟩∧Par (anewJ a m n b shut) (segs a.fs):=by
 obtain⟨c,e,w,v,l,x,s,i⟩:=mend_ok u h;have y:∀f∈c,True:=λ_ _=>trivial;rw[e]at q⊢;have o:(c.map ptW).map sgOf=(c.map (ptF scF)).map sgOf:=by rw[List.map_map,List.map_map];rfl
 have t:Zbl (c.map ptW)=Zbl (c.map (ptF scF)):=by
  rcases Y2 c with rfl|⟨gs,g,rfl⟩
  ·rfl
  ·rw[List.concat_eq_append,List.map_append,List.map_append];unfold Zbl;simp only[List.map_cons,List.map_nil,List.getLast?_concat];rfl
 have j:=Ze8 s;rw[i]at j;have k:c.map ptW=(segs a.fs).map (ptF scF):=congrArg Prod.fst j;refine⟨?_,⟨s,?_,?_,?_,?_,?_,rfl⟩⟩
 ·unfold anewJ;rw[i,l.kept,l.base];simp only;rw[o,t,Zz1]
 ·show GoodR _ (keptF a.fs) (baseF a.fs);rw[←k,l.kept,l.base];exact Zz2 q
 ·intro p r;rw[←k]at r;obtain⟨f,_,rfl⟩:=Y3.1 r;rfl
 ·show stR (rowK a.fs).1 _ _=stR _ (keptF a.fs) (baseF a.fs);rw[←k,i]
 ·show(rowK a.fs).1.map sgOf=_;rw[←k,i]
 ·show Zbl (rowK a.fs).1=_;rw[←k,i]
def dgs_D:∀(k n:Nat),∀c∈dgs k n,isD c
 |0,n,c,hc=>by cases hc
 |k+1,n,c,hc=>by
  rw[dgs]at hc
  rcases List.mem_append.1 hc with hc|hc
  ·exact dgs_D k _ c hc
  ·have:c=UInt8.ofNat (48+n%10):=(by simpa using hc);subst this;unfold isD;simp only[UInt8.toNat_ofNat'];omega
def segNm_ok(n:Int):fnB (segNm n)=true:=by
 have b:=Zca n;have d:(segNm n).size=12:=(by have:(segNm n).data.toList.length=12:=(by rw[b,List.length_append,Zdi];rfl);rw[Array.length_toList]at this;exact this);unfold fnB;rw[d,b];simp only[Bool.and_eq_true,decide_eq_true_eq,List.all_eq_true];refine⟨by omega,λc a=>?_⟩;unfold fchr;rw[decide_eq_true_eq]
 rcases List.mem_append.1 a with a|a
 ·simp only[spre,List.mem_cons,YW,or_false]at a
  rcases a with rfl|rfl|rfl|rfl<;>decide
 ·have:=dgs_D _ _ c a;unfold isD at this;omega
def follO(d:Sc):Option Sc→Prop
 |none=>True
 |some a=>foll d a
instance (d:Sc) (p:Option Sc):Decidable (follO d p):=by
 cases p with
 |none=>exact isTrue trivial
 |some a=>exact inferInstanceAs (Decidable (foll d a))
def rowN(a:FiD→Sc):Option Sc→List FiD→Nat
 |_,[]=>0
 |p,f::l=>if(a f).num=numS f.nm∧follO (a f) p then rowN a (some (a f)) l+1 else 0
inductive Stp where
 |cre (s:BA)
 |wri (s:BA) (x:List UInt8)
 |syn (s:BA)
 |rem (s:BA)
 |cut (s:BA) (n:Int)
def Stp.run:Stp→DiD→DiD×Int
 | .cre s,d=>Za7 d s
 | .wri s x,d=>Zat d s x
 | .syn s,d=>Za3 d s
 | .rem s,d=>Zbg d s
 | .cut s n,d=>opCut d s n
def runP:DiD→List Stp→DiD×Int
 |d,[]=>(d,0)
 |d,s::l=>if(s.run d).2≠0 then s.run d else runP (s.run d).1 l
def runP_S:∀(l:List Stp) (d:DiD),runP d l=runS d (l.map Stp.run)
 | [],d=>rfl
 |s::l,d=>by rw[runP,List.map_cons,runS,runP_S l]
abbrev nmG(n:Int):BA:=Sgr.segNm n
def Zfr{n:Int}(h:inN n):nmG n=Jou.segNm n:=by
 unfold nmG Sgr.segNm;rw[if_pos (show 1≤n∧n≤99999999 from h)];rfl
def nmG_no{n:Int}(h:¬inN n):nmG n=ByteArray.mk #[]:=by
 unfold nmG Sgr.segNm;rw[if_neg (show¬(1≤n∧n≤99999999)from h)]
def cutP(p:Pt):List Stp:=if(segL p.d).length<p.n then[.cut (nmG p.d.num) (segL p.d).length]else[]
def synP(r:List Pt):List Stp:=match r.getLast? with
 |none=>[]
 |some p=>if p.d.sl=true then[]else[.syn (nmG p.d.num)]
def mendP(r:List Pt)(o:List BA):List Stp:=o.reverse.map Stp.rem++(r.reverse.flatMap cutP++synP r)
def mendP_S{r:List Pt}{o:List BA}(h:∀p∈r,inN p.d.num):(mendP r o).map Stp.run=mendS r o:=by
 unfold mendP mendS;rw[List.map_append,List.map_append,List.map_map];congr 1;congr 1
 ·rw[List.map_flatMap]
  have:∀p∈r.reverse,(cutP p).map Stp.run=cutS p:=λp b=>by
   unfold cutP cutS;rw[Zfr (h p (by simpa using b))]
   split<;>rfl
  revert this
  generalize r.reverse=l;intro this
  induction l with
  |nil=>rfl
  |cons x l c=>rw[List.flatMap_cons,List.flatMap_cons,this x (by simp),c λp b=>this p (by simp[b])]
 ·unfold synP synS
  cases hr:r.getLast? with
  |none=>rfl
  |some p=>
   dsimp only
   rw[Zfr (h p (WU hr))]
   split<;>rfl
def repE(k:Int):StD→List Cod.EvD→StD×Bool
 |s,[]=>(s,true)
 |s,e::l=>if e.s≤k then repE k s l else if(appS s (toE e)).2≠0 then((appS s (toE e)).1,false)else repE k (appS s (toE e)).1 l
def repR(k:Int):StD→List Pt→StD×Bool
 |s,[]=>(s,true)
 |s,p::r=>if(p.d.ev.length:Int)≠p.d.s-p.d.bs then(s,false)else if(repE k s p.d.ev).2=false then repE k s p.d.ev else repR k (repE k s p.d.ev).1 r
def repP(r:List Pt)(s:StD):StD×Bool:=match r.head?,r.getLast? with
 |some p,some q=>if s.q<p.d.bs then(s,false)else if(repR s.q s r).2=false then repR s.q s r else((repR s.q s r).1,decide (q.d.a=(repR s.q s r).1.t))
 |_,_=>(s,true)
def Zhj(k:Int):∀(l:List Cod.EvD) (s:StD),repE k s l=((foldS s ((l.map toE).filter λe=>decide (k<e.s))).1,decide ((foldS s ((l.map toE).filter λe=>decide (k<e.s))).2.2=0))∨((repE k s l).2=false∧(foldS s ((l.map toE).filter λe=>decide (k<e.s))).2.2≠0)
 | [],s=>.inl rfl
 |e::l,s=>by
  rw[repE,List.map_cons,List.filter_cons];by_cases h:e.s≤k
  ·have a:decide (k<(toE e).s)=false:=decide_eq_false (Int.not_lt.2 h);rw[if_pos h,a];exact Zhj k l s
  ·have a:decide (k<(toE e).s)=true:=decide_eq_true (Int.not_le.1 h);rw[if_neg h,a,if_pos rfl,foldS];by_cases h2:(appS s (toE e)).2≠0
   ·rw[if_pos h2,if_pos h2];exact .inr ⟨rfl,h2⟩
   ·rw[if_neg h2,if_neg h2];exact Zhj k l _
def Zkj:∀(l m:List Cmp.EvD) (s:StD),(foldS s l).2.2=0→(foldS s (l++m)).1=(foldS (foldS s l).1 m).1∧(foldS s (l++m)).2.2=(foldS (foldS s l).1 m).2.2
 | [],m,s,_=>⟨rfl,rfl⟩
 |e::l,m,s,h=>by
  rw[foldS]at h;rw[List.cons_append,foldS,foldS];by_cases h2:(appS s e).2≠0
  ·rw[if_pos h2]at h;exact absurd h h2
  ·rw[if_neg h2]at h;rw[if_neg h2,if_neg h2];exact Zkj l m _ h
def Zkk:∀(l m:List Cmp.EvD) (s:StD),(foldS s l).2.2≠0→(foldS s (l++m)).2.2≠0
 | [],m,s,h=>absurd rfl h
 |e::l,m,s,h=>by
  rw[foldS]at h;rw[List.cons_append,foldS];by_cases h2:(appS s e).2≠0
  ·rw[if_pos h2];exact h2
  ·rw[if_neg h2]at h⊢;exact Zkk l m _ h
def Znn(k:Int):∀(r:List Pt) (s:StD),(repR k s r).2=true→(∀p∈r,(p.d.ev.length:Int)=p.d.s-p.d.bs)∧(foldS s ((evsR r).filter λe=>decide (k<e.s))).2.2=0∧(repR k s r).1=(foldS s ((evsR r).filter λe=>decide (k<e.s))).1
 | [],s,_=>⟨by simp,rfl,rfl⟩
 |p::r,s,h=>by
  rw[repR]at h⊢;by_cases h1:(p.d.ev.length:Int)≠p.d.s-p.d.bs
  ·rw[if_pos h1]at h;cases h
  rw[if_neg h1]at h⊢;by_cases h2:(repE k s p.d.ev).2=false
  ·rw[if_pos h2]at h;rw[h2]at h;cases h
  rw[if_neg h2]at h⊢;have l:evsR (p::r)=p.d.ev.map toE++evsR r:=rfl
  rcases Zhj k p.d.ev s with e|⟨e,_⟩
  ·rw[e]at h2 h⊢;have g:(foldS s ((p.d.ev.map toE).filter λe=>decide (k<e.s))).2.2=0:=(by simpa using h2);obtain⟨a,b,c⟩:=Znn k r _ h;rw[l,List.filter_append];obtain⟨i,j⟩:=Zkj _ ((evsR r).filter λe=>decide (k<e.s)) s g;refine⟨?_,by rw[j];exact b,by rw[i];exact c⟩;intro q f
   rcases List.mem_cons.1 f with rfl|f
   ·simpa using h1
   ·exact a q f
  ·exact absurd e h2
def Zno(k:Int):∀(r:List Pt) (s:StD),(∀p∈r,(p.d.ev.length:Int)=p.d.s-p.d.bs)→(foldS s ((evsR r).filter λe=>decide (k<e.s))).2.2=0→(repR k s r).2=true
 | [],s,_,_=>rfl
 |p::r,s,h,h0=>by
  have b:evsR (p::r)=p.d.ev.map toE++evsR r:=rfl;rw[b,List.filter_append]at h0;rw[repR,if_neg (by simpa using h p (by simp))]
  rcases Zhj k p.d.ev s with e|⟨_,e⟩
  ·by_cases h2:(foldS s ((p.d.ev.map toE).filter λe=>decide (k<e.s))).2.2=0
   ·rw[e];rw[if_neg (by simpa using h2)];rw[(Zkj _ _ s h2).2]at h0;exact Zno k r _ (λq a=>h q (by simp[a])) h0
   ·exact absurd h0 (Zkk _ _ s h2)
  ·exact absurd h0 (Zkk _ _ s e)
def repP_iff{r:List Pt}{s:StD}:(repP r s).2=true↔GoodR r s.q s:=by
 unfold repP
 cases hr:r.head? with
 |none=>have:r=[]:=WL.1 hr;subst this;exact⟨λ_=>⟨by simp,by simp,rfl,by simp⟩,λ_=>rfl⟩
 |some p=>
  obtain⟨q,hq⟩:∃q,r.getLast?=some q:=by
   cases r with
   |nil=>cases hr
   |cons x l=>exact⟨_,Wu (by simp)⟩
  rw[hq]
  dsimp only
  constructor
  ·intro h
   split at h
   ·cases h
   rename_i j
   split at h
   next e=>rw[e]at h;cases h
   rename_i e;have g:(repR s.q s r).2=true:=(by simpa using e);obtain⟨a,b,c⟩:=Znn s.q r s g;refine⟨λx f=>?_,a,b,λx f=>?_⟩
   ·rw[hr]at f;cases f;omega
   ·rw[hq]at f;cases f;have i:q.d.a=(repR s.q s r).1.t:=(by simpa using h);rw[i,c];rfl
  ·intro h;have e:=Zno s.q r s h.cnt h.app;obtain⟨_,_,c⟩:=Znn s.q r s e;rw[if_neg (by have:=h.bs p hr;omega),if_neg (by rw[e];simp)];have:=h.at_ q hq;show decide _=true;rw[decide_eq_true_eq,c];exact this
def repP_st{r:List Pt}{s:StD}(h:GoodR r s.q s):(repP r s).1=stR r s.q s:=by
 unfold repP
 cases hr:r.head? with
 |none=>have:r=[]:=WL.1 hr;subst this;rfl
 |some p=>
  obtain⟨q,hq⟩:∃q,r.getLast?=some q:=by
   cases r with
   |nil=>cases hr
   |cons x l=>exact⟨_,Wu (by simp)⟩
  rw[hq]
  dsimp only
  have a:=Zno s.q r s h.cnt h.app;obtain⟨_,_,c⟩:=Znn s.q r s a;rw[if_neg (by have:=h.bs p hr;omega),if_neg (by rw[a];simp)];exact c
instance (b g:Int):Decidable (mayC b g):=inferInstanceAs (Decidable (_∧_))
def jo0(d:DiD):JoD:=⟨d,0,0,[],⟨0,0,[]⟩,st0,0,0,false⟩
noncomputable def menD(d:DiD):DiD×Int:=runP d (mendP (rowK d.fs).1 (rowK d.fs).2)
open Classical in
noncomputable def openP(d:DiD)(cb cg:Int):JoD×Int:=
 if¬(d.P∧mayC cb cg)then(jo0 d,1)else if d.dn=true then(jo0 d,16)
 else if¬GoodR (rowK d.fs).1 (keptF d.fs) (baseF d.fs)then(jo0 d,11)
 else if(menD d).2≠0 then(jo0 (menD d).1,(menD d).2)
 else(⟨(menD d).1,cb,cg,(rowK d.fs).1.map sgOf,Zbl (rowK d.fs).1,stR (rowK d.fs).1 (keptF d.fs) (baseF d.fs),(stR (rowK d.fs).1 (keptF d.fs) (baseF d.fs)).q,keptF d.fs,false⟩,0)
open Classical in
noncomputable def mayJ(j:JoD):Int:=if j.dk.P∧j.dk.dn=true then 16 else if¬RightJ j then 1 else 0
def Zcd{j:JoD}:mayJ j=0↔RightJ j:=by
 unfold mayJ;constructor
 ·intro h
  split at h
  ·cases h
  split at h
  ·cases h
  rename_i g;exact Yi.1 g
 ·intro h;rw[if_neg (λq=>by rw[h.up]at q;cases q.2),if_neg (by simp[h])]
structure WrD where
 j:JoD
 td:List Stp
 sz:Int
def bys(l:List Int):List UInt8:=l.map λn=>UInt8.ofNat n.toNat
def putW(w:WrD)(l:List SgD)(p:SgD)(b:List Int):WrD:=⟨{w.j with sg:=l++[{p with sz:=p.sz+b.length}]},w.td++[.wri (nmG p.num) (bys b)],w.sz+b.length⟩
def selB(j:JoD)(p:SgD):List Int:=fr 3 (slP (p.la-p.fi) j.cx.s j.cx.a)
def sealW(w:WrD)(l:List SgD)(p:SgD):WrD:=
 ⟨{w.j with sg:=l++[{p with sz:=p.sz+(selB w.j p).length,sl:=true}],cx:=⟨0,0,[]⟩,sure:=w.j.st.q},w.td++[.wri (nmG p.num) (bys (selB w.j p)),.syn (nmG p.num)],w.sz+(selB w.j p).length⟩
def lasS(l:List SgD):Option (List SgD×SgD):=match l.getLast? with|none=>none|some p=>some (l.dropLast,p)
def Zae(l:List SgD)(p:SgD):lasS (l++[p])=some (l,p):=by simp[lasS]
def nxtN(w:WrD):Int:=match lasS w.j.sg with|none=>1|some (_,p)=>p.num+1
def hedB(j:JoD)(n:Int):List Int:=fr 1 (hdP n j.st.q j.st.t)
def begW(w:WrD):Option WrD:=if¬inN (nxtN w)∨64<w.j.dk.fs.length+1 then none else
 some ⟨{w.j with sg:=w.j.sg++[⟨nxtN w,w.j.st.q,w.j.st.q,w.j.st.t,w.j.st.t,(hedB w.j (nxtN w)).length,false⟩],cx:=⟨w.j.st.q,w.j.st.t,[]⟩},w.td++[.cre (nmG (nxtN w)),.wri (nmG (nxtN w)) (bys (hedB w.j (nxtN w)))],w.sz+(hedB w.j (nxtN w)).length⟩
def recL'(j:JoD)(e:Cod.EvD):List Int:=fr 2 (encL j.cx.s j.cx.a j.cx.m e)
def recW(w:WrD)(e:Cod.EvD):Option WrD:=match lasS w.j.sg with
 |none=>none
 |some (l,p)=>if encE w.j.cx.s w.j.cx.a w.j.cx.m e≠0 then none else
  some ⟨{w.j with sg:=l++[{p with sz:=p.sz+(recL' w.j e).length,la:=e.s,ti:=e.a}],cx:=⟨e.s,e.a,bhdN w.j.cx.m e.c⟩},w.td++[.wri (nmG p.num) (bys (recL' w.j e))],w.sz+(recL' w.j e).length⟩
def opnW(w:WrD):Bool:=match lasS w.j.sg with|none=>false|some (_,p)=>!p.sl
def ovrB(j:JoD)(e:Cod.EvD):Bool:=match lasS j.sg with
 |none=>false
 |some (_,p)=>if p.sl=true∨p.la≤p.fi then false else if encE j.cx.s j.cx.a j.cx.m e≠0∨j.cb<p.sz+(recL' j e).length then true else decide (j.cg<e.a-p.fr)
def shtJ(j:JoD):JoD×Int:=({j with shut:=true},13)
def w0(j:JoD):WrD:=⟨j,[],0⟩
def w1(j:JoD)(e:Cod.EvD):WrD:=match lasS j.sg with|some (l,p)=>if ovrB j e=true then sealW (w0 j) l p else w0 j|none=>w0 j
def w2(j:JoD)(e:Cod.EvD):Option WrD:=if opnW (w1 j e)=true then some (w1 j e)else begW (w1 j e)
def w3(j:JoD)(e:Cod.EvD):Option WrD:=match w2 j e with|none=>none|some w=>recW w e
def endJ(j:JoD)(s:StD)(w:WrD):JoD×Int:=if j.dk.rm<usedL j.dk.fs+w.sz then shtJ j else if(runP j.dk w.td).2≠0 then({j with dk:=(runP j.dk w.td).1},(runP j.dk w.td).2)else({w.j with dk:=(runP j.dk w.td).1,st:=s},0)
def evN(j:JoD)(e:Cod.EvD):Cod.EvD:={e with s:=j.st.q+1}
def appQ(j:JoD)(e:Cod.EvD):JoD×Int:=
 if(appS j.st (toE (evN j e))).2≠0 then(j,(appS j.st (toE (evN j e))).2)else if j.shut=true then(j,13)else match w3 j (evN j e)with
 |none=>shtJ j
 |some w=>endJ j (appS j.st (toE (evN j e))).1 w
noncomputable def appP(j:JoD)(e:Cod.EvD):JoD×Int:=if mayJ j≠0 then(j,mayJ j)else appQ j e
def synQ(j:JoD):JoD×Int:=match lasS j.sg with
 |none=>({j with sure:=j.st.q},0)
 |some (_,p)=>if p.sl=true then({j with sure:=j.st.q},0)else if(Za3 j.dk (nmG p.num)).2≠0 then({j with dk:=(Za3 j.dk (nmG p.num)).1},(Za3 j.dk (nmG p.num)).2)else({j with dk:=(Za3 j.dk (nmG p.num)).1,sure:=j.st.q},0)
noncomputable def synJ(j:JoD):JoD×Int:=if mayJ j≠0 then(j,mayJ j)else synQ j
def rotQ(j:JoD):JoD×Int:=match lasS j.sg with
 |none=>(j,14)
 |some (l,p)=>if p.sl=true∨p.la≤p.fi then(j,14)else endJ j j.st (sealW (w0 j) l p)
noncomputable def rotJ(j:JoD):JoD×Int:=if mayJ j≠0 then(j,mayJ j)else rotQ j
open Classical in
noncomputable def evsJ(j:JoD):List Cod.EvD:=if RightJ j then(rowK j.dk.fs).1.flatMap (·.d.ev)else[]
end Jou
namespace Jou
open Go Go.Px Go.Proofs Go.RowKit Go.Shelf Tryz
set_option maxHeartbeats 2000000
attribute [local go_sem] Oper.semAt_some
def backS:Zlx prog 183 (λc=>c 0) 1:=by
 refine⟨enters_of func183 (by kernel_rfl) rfl,?_⟩;intro l o q p b off len h r s t J Kp d j u W f v w;have A:=f W (d W);refine callsIn_of_wp func183 rfl trivial ?_ rfl;simp only[Tryz.ntmps183,YF,List.length_cons,Y6,Nat.reduceAdd,Nat.reduceSub,Wq,Wr,Wz,Ww,List.nil_append,List.cons_append]
 gi_wp2
 gi_loopw [3] (λi wr=>∃k:Nat,k≤len∧i= .int .i64 ((len:Int)-1-k)∧J k wr∧Kp W wr)
  (λi _=>(intOf i+1).toNat)
 case atStart=>exact⟨0,Y00 _,by simp,w,d _⟩
 case round=>
  obtain⟨k,K,rfl,g,a⟩:=hrel;have E:wr.cell? ⟨o,q,none⟩=some (.slice p len h):=f wr a;by_cases hlt:k<len
  ·obtain⟨L,x,m,y,M,z⟩:=u k wr g hlt;have n:=s (by omega);subst n;have C:wr.cell? ⟨b,off+(len-1-k),none⟩=some (r (len-1-k) 0):=by have:=v (len-1-k) (by omega) 0 (by omega) wr a;simpa using this
   have F:(0:Int)≤(len:Int)-1-k:=(by omega);have D:(len:Int)-1-k<len:=(by omega);have G:((len:Int)-1-k).toNat=len-1-k:=by omega
   gi_wp2
   refine z.mono ?_;rintro e H ⟨rfl,hJ3,hk3⟩
   gi_wp2
   go_roundw
   case rel=>exact⟨k+1,by omega,by simp;omega,hJ3,j a hk3⟩
   case measure=>simp[intOf];omega
  ·obtain rfl:k=len:=by omega
   gi_wp2
   go_end0
   exact⟨⟨_,rfl⟩,g⟩
def backP:Zlx prog 185 (λc=>.agg #[c 0,c 1,c 2,c 3,c 4,c 5,c 6,c 7,c 8,c 9,c 10]) 11:=by
 refine⟨enters_of func185 (by kernel_rfl) rfl,?_⟩;intro l s t p b off len m d u v J Kp g n w W h f x;have C:=h W (g W);refine callsIn_of_wp func185 rfl trivial ?_ rfl;simp only[Tryz.ntmps185,YF,List.length_cons,Y6,Nat.reduceAdd,Nat.reduceSub,Wq,Wr,Wz,Ww,List.nil_append,List.cons_append]
 gi_wp2
 gi_loopw [3] (λi wr=>∃k:Nat,k≤len∧i= .int .i64 ((len:Int)-1-k)∧J k wr∧Kp W wr)
  (λi _=>(intOf i+1).toNat)
 case atStart=>exact⟨0,Y00 _,by simp,x,g _⟩
 case round=>
  obtain⟨k,V,rfl,j,a⟩:=hrel;have Q:wr.cell? ⟨s,t,none⟩=some (.slice p len m):=h wr a;by_cases hlt:k<len
  ·obtain⟨X,y,o,z,Y,A⟩:=w k wr j hlt;have q:=u (by omega);subst q;have D:wr.cell? ⟨b,off+(len-1-k)*11,none⟩=some (d (len-1-k) 0):=by have:=f (len-1-k) (by omega) 0 (by omega) wr a;simpa using this
   have E:wr.cell? ⟨b,off+(len-1-k)*11+1,none⟩=some (d (len-1-k) 1):=(by have:=f (len-1-k) (by omega) 1 (by omega) wr a;simpa using this);have F:wr.cell? ⟨b,off+(len-1-k)*11+2,none⟩=some (d (len-1-k) 2):=(by have:=f (len-1-k) (by omega) 2 (by omega) wr a;simpa using this);have G:wr.cell? ⟨b,off+(len-1-k)*11+3,none⟩=some (d (len-1-k) 3):=(by have:=f (len-1-k) (by omega) 3 (by omega) wr a;simpa using this);have H:wr.cell? ⟨b,off+(len-1-k)*11+4,none⟩=some (d (len-1-k) 4):=(by have:=f (len-1-k) (by omega) 4 (by omega) wr a;simpa using this);have K:wr.cell? ⟨b,off+(len-1-k)*11+5,none⟩=some (d (len-1-k) 5):=(by have:=f (len-1-k) (by omega) 5 (by omega) wr a;simpa using this);have L:wr.cell? ⟨b,off+(len-1-k)*11+6,none⟩=some (d (len-1-k) 6):=(by have:=f (len-1-k) (by omega) 6 (by omega) wr a;simpa using this);have M:wr.cell? ⟨b,off+(len-1-k)*11+7,none⟩=some (d (len-1-k) 7):=(by have:=f (len-1-k) (by omega) 7 (by omega) wr a;simpa using this);have N:wr.cell? ⟨b,off+(len-1-k)*11+8,none⟩=some (d (len-1-k) 8):=(by have:=f (len-1-k) (by omega) 8 (by omega) wr a;simpa using this);have O:wr.cell? ⟨b,off+(len-1-k)*11+9,none⟩=some (d (len-1-k) 9):=(by have:=f (len-1-k) (by omega) 9 (by omega) wr a;simpa using this);have r:wr.cell? ⟨b,off+(len-1-k)*11+10,none⟩=some (d (len-1-k) 10):=(by have:=f (len-1-k) (by omega) 10 (by omega) wr a;simpa using this);have R:(0:Int)≤(len:Int)-1-k:=(by omega);have P:(len:Int)-1-k<len:=(by omega);have T:((len:Int)-1-k).toNat=len-1-k:=by omega
   gi_wp2
   refine A.mono ?_;rintro e U ⟨rfl,hJ3,hk3⟩
   gi_wp2
   go_roundw
   case rel=>exact⟨k+1,by omega,by simp;omega,hJ3,n a hk3⟩
   case measure=>simp[intOf];omega
  ·obtain rfl:k=len:=by omega
   gi_wp2
   go_end0
   exact⟨⟨_,rfl⟩,j⟩
def ItJ:Nat→Option (FuncId×TypeId):=λp=>bif Nat.beq p 12 then some (183,9)else bif Nat.beq p 22 then some (185,114)else none
def hItJ:∀p f e z,ItJ p=some (f,e)→szT prog e=some z→Zlx prog f (elOf prog e z) z:=by
 intro p f e z a b;unfold ItJ at a
 cases h1:Nat.beq p 12 with
 |true=>simp only[h1,cond_true,Option.some.injEq,Prod.mk.injEq]at a;obtain⟨rfl,rfl⟩:=a;obtain rfl:=Option.some.inj (b.symm.trans (show szT prog 9=some 1 by kernel_rfl));exact(show elOf prog 9 1=(λc=>c 0) by kernel_rfl)▸backS
 |false=>
  simp only[h1,cond_false]at a
  cases h2:Nat.beq p 22 with
  |true=>simp only[h2,cond_true,Option.some.injEq,Prod.mk.injEq]at a;obtain⟨rfl,rfl⟩:=a;obtain rfl:=Option.some.inj (b.symm.trans (show szT prog 114=some 11 by kernel_rfl));exact(show elOf prog 114 11=(λc=>.agg #[c 0,c 1,c 2,c 3,c 4,c 5,c 6,c 7,c 8,c 9,c 10]) by kernel_rfl)▸backP
  |false=>simp only[h2,cond_false]at a;cases a

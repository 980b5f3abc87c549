import Derived.Test.YtgehiiginclniaaGreatDoorK11
set_option linter.all false
set_option maxRecDepth 100000
namespace Go.Proofs.YtgehiiginclniaaGreatDoor
namespace Snp
open Go Go.Px Go.Proofs Cod Seg Sgr Sx Row Tryz
def Zph(s:BA)(l h:Int):(ssub s l h).data.toList=(s.data.toList.take h.toNat).drop l.toNat:=by
 unfold ssub;rw[ByteArray.data_extract,Array.toList_extract];simp[List.extract_eq_take_drop,List.drop_take]
def Zhj(s:BA):slen s=s.data.toList.length:=by
 show((s.size:Nat):Int)=_;rw[Zc5]
def seq_bl(a b:BA):seq a b=decide (a.data.toList=b.data.toList):=by
 rw[seq_d];apply decide_eq_decide.2;rw[←Zev,ByteArray.toList_eq,ByteArray.toList_eq]
def sbyte_bl(s:BA)(i:Int)(a:0≤i)(h:i<s.data.toList.length):sbyte s i=((s.data.toList[i.toNat]'(by omega)).toNat:Int):=by
 have:=Zzp s i.toNat (by rw[Zc5];omega);rw[show((i.toNat:Nat):Int)=i by omega]at this;exact this
def scut_fn(s:BA):Ct prog 178 {} [S s,S (bA [115,110,97,112,46])] (λr=>r=if s.data.toList.take 5=pre then[S (ssub s 5 (slen s)),B true]else[S s,B false]):=by
 have a:slen (bA [115,110,97,112,46])=5:=(by decide);have c:=Zhj s;refine Zt5 (Cl.ofQ (Zp1 s (bA [115,110,97,112,46]) (λr=>r=if s.data.toList.take 5=pre then[S (ssub s 5 (slen s)),B true]else[S s,B false]) ?_) ?_)
 ·rw[a]
  have b:Ct prog 295 {} [S s,S (bA [115,110,97,112,46])] (λr=>r=[B (decide (s.data.toList.take 5=pre))]):=by
   refine Zuf ?_;rw[a];refine Zaa (λh=>⟨⟨by omega,by omega,by simp only[ige_eq,decide_eq_true_eq]at h;omega⟩,?_⟩) (λh=>?_)
   ·rw[seq_bl,Zph];congr 3
   ·have:¬s.data.toList.take 5=pre:=λe=>by have:=congrArg List.length e;simp only[ige_eq,decide_eq_false_iff_not]at h;simp only[List.length_take,show pre.length=5 from rfl]at this;omega
    rw[decide_eq_false this]
  refine Cl.of b ⟨_,rfl,Zaa (λh=>?_) (λh=>⟨⟨by omega,?_,by omega⟩,?_⟩)⟩
  ·simp at h;rw[if_neg h]
  ·simp only[bnot,Yv,decide_eq_true_eq]at h;have:=congrArg List.length h;simp only[List.length_take,show pre.length=5 from rfl]at this;omega
  ·simp at h;rw[if_pos h]
 ·rintro r rfl
  split
  ·exact⟨_,_,rfl,rfl⟩
  ·exact⟨_,_,rfl,rfl⟩
def no_pre{s:BA}(h:¬s.data.toList.take 5=pre):∀q,inQ q→s≠snNm q:=by
 rintro q _ rfl;exact h (by rw[Ze1];rfl)
def no_len{s:BA}(h:¬s.data.toList.length=15):∀q,inQ q→s≠snNm q:=by
 rintro q _ rfl;exact h (by rw[Ze1];simp[Zdn])
def Dig.zero{s:BA}(a:s.data.toList.length=15)(b:s.data.toList.take 5=Snp.pre):Dig s 0 0:=⟨a,b,λj h=>by omega,rfl⟩
def Dig.num{s:BA}{n:Int}(h:Dig s 10 n):if 4294967296<n then NumR s 0 false else NumR s n true:=by
 have f:=h.lt (by omega);have b:=h.done
 split
 next g=>refine .inr ⟨λq a e=>?_,rfl,rfl⟩;have c:=h.val;have d:(s.data.toList.drop 5).take 10=dgs 10 q.toNat:=(by rw[e,Ze1];show(dgs 10 q.toNat).take 10=_;exact List.take_of_length_le (by rw[Zdn];omega));unfold inQ at a;rw[d,Zre 10 _ (by omega)]at c;omega
 ·exact .inl ⟨n,⟨by omega,by omega⟩,b,rfl,rfl⟩
def digit_val{c:UInt8}(h:isD c):wcv IntKind.i64 (wsub IntKind.u8 (c.toNat:Int) 48)=c.toNat-48:=by
 unfold isD at h;have:wsub IntKind.u8 (c.toNat:Int) 48=c.toNat-48:=(by simp[wsub,IntKind.wrap,IntKind.signed,IntKind.bits];omega);rw[this];exact Zbd (by omega) (by omega)
def nnum_fn(s:BA):Ct prog 108 {} [S s] (λr=>∃n b,r=[I n,B b]∧NumR s n b):=by
 have no:(∀q,inQ q→s≠snNm q)→∃n b,([I 0,B false]:List SV)=[I n,B b]∧NumR s n b:=λh=>⟨_,_,rfl,.no h⟩
 have u:=Zhj s;refine nnum_nf (Cl.of (scut_fn s) ?_);by_cases hp:s.data.toList.take 5=pre
 rotate_left
 ·rw[if_neg hp];exact⟨_,_,rfl,Zaa (λ_=>no (no_pre hp)) (λh=>by simp at h)⟩
 rw[if_pos hp];refine⟨_,_,rfl,?_⟩;have d:(ssub s 5 (slen s)).data.toList=s.data.toList.drop 5:=(by rw[Zph,u,Int.toNat_natCast,Yd];rfl);have o:slen (ssub s 5 (slen s))=(s.data.toList.drop 5).length:=(by rw[Zhj,d]);have w:5≤s.data.toList.length:=(by have:=congrArg List.length hp;simp at this⊢;omega);rw[o];refine Zaa (λh=>no (no_len λe=>?_)) (λh=>?_)
 ·simp at h e;omega
 have j:s.data.toList.length=15:=(by simp at h⊢;omega);have m:((s.data.toList.drop 5).length:Int)=10:=(by simp at j⊢;omega);rw[m];have p:∀i:Int,0≤i→i<10→∃l:i.toNat+5<s.data.toList.length,sbyte (ssub s 5 (slen s)) i=((s.data.toList[i.toNat+5]).toNat:Int):=(by intro i t g;refine⟨by omega,?_⟩;rw[sbyte_bl _ _ t (by rw[d];omega)];congr 2;simp only[d,List.getElem_drop];congr 1;omega);refine⟨λ_ _ f a=>0≤a∧a≤10∧Dig s a.toNat f,λ_ _ _ a=>(10-a).toNat,⟨by omega,by omega,.zero j hp⟩,?_⟩;rintro _ _ f a ⟨i0,i1,dg⟩;refine Zaa (λh=>?_) (λh=>?_)
 ·simp at h;obtain⟨l,e⟩:=p a i0 h;rw[e];refine⟨⟨i0,h⟩,Zaa (λg=>no (Zwd l λc=>?_)) (λg=>⟨⟨i0,h⟩,Zaa (λk=>no (Zwd l λc=>?_)) (λk=>?_)⟩)⟩
  ·unfold isD at c;simp only[ilt,decide_eq_true_eq]at g;omega
  ·unfold isD at c;simp only[igt,decide_eq_true_eq]at k;omega
  ·have c:isD (s.data.toList[a.toNat+5]):=(by unfold isD;simp only[ilt,igt,decide_eq_false_iff_not]at g k;omega);have v:=dg.lt (by omega);have hst:=dg.step (by omega) c;rw[digit_val c];unfold isD at c;have w1:wmul IntKind.i64 f 10=f*10:=Zbd (by omega) (by omega);have w2:wadd IntKind.i64 a 1=a+1:=Zac (by omega) (by omega);rw[w1,w2,Zac (by omega) (by omega)];refine⟨⟨i0,h⟩,rfl,⟨by omega,by omega,?_⟩,mlt (by dsimp only;omega)⟩;rw[show(a+1).toNat=a.toNat+1 by omega,Int.mul_comm];exact hst
 ·simp at h;have e:a.toNat=10:=(by omega);rw[e]at dg;have:=dg.num;refine Zaa (λh=>?_) (λh=>?_)
  ·simp at h;rw[if_pos h]at this;exact⟨_,_,rfl,this⟩
  ·simp at h;rw[if_neg (by omega)]at this;exact⟨_,_,rfl,this⟩
abbrev mg:List Int:=[102,98,115,49]
def snB(d:StD):List Int:=sealB (mg++encS d)
def byts_mg:Byts mg:=λx a=>by simp at a;omega
def snB_byts(d:StD):Byts (snB d):=Zje (byts_mg.app (byts_encS d))
def snB_len{d:StD}(h:d.P):(snB d).length≤8008∧8≤(snB d).length:=by
 have:=encS_len h;simp only[snB,Zgh,List.length_append,List.length_cons,Y5];omega
def Zli{a b:List Int}(h:sealB a=sealB b):a=b:=by
 have c:=congrArg List.length h;rw[Zgh,Zgh]at c;unfold sealB at h;exact(List.append_inj h (by omega)).1
def Zom{d e:StD}(a:d.P)(b:e.P)(h:snB d=snB e):d=e:=
 Zug a b (List.append_cancel_left (Zli h))
def decE(l:List Int):Int:=if l.length<4 then 10 else if sealB (l.take (l.length-4))=l then 11 else 12
def SnD(l:List Int)(d:StD)(e:Int):Prop:=(d.P∧snB d=l∧e=0)∨((∀a:StD,a.P→snB a≠l)∧d=st0∧e=decE l)
def SnD.eq{l:List Int}{d t:StD}{e f:Int}(h:SnD l d e)(k:SnD l t f):d=t∧e=f:=by
 rcases h with⟨a,c,rfl⟩|⟨a,rfl,rfl⟩<;>rcases k with⟨b,g,rfl⟩|⟨b,rfl,rfl⟩
 ·exact⟨Zom a b (c.trans g.symm),rfl⟩
 ·exact absurd c (b _ a)
 ·exact absurd g (a _ b)
 ·exact⟨rfl,rfl⟩
def Zu4(l:List Int):decE l≠0:=by
 unfold decE
 split
 ·omega
 ·split<;>omega
def ndec_fn(l:List Int)(o:l.length≤100000)(j:Byts l):Ct prog 182 {} [SL 1 (bR l)] (λr=>∃d e,r=[StD.sv d,I e]∧SnD l d e):=by
 have no:∀e,(∀a:StD,a.P→snB a≠l)→e=decE l→∃d k,([.agg [SL 21 [],I 0,I 0],I e]:List SV)=[StD.sv d,I k]∧SnD l d k:=λe h f=>⟨st0,e,rfl,.inr ⟨h,rfl,f⟩⟩
 refine ndec_nf (Cl.of Zme ⟨_,rfl,Cl.of (Zwq l j (by omega)) ⟨_,_,rfl,?_⟩⟩);unfold openE;by_cases h4:l.length<4
 ·rw[if_pos h4];refine Zaa (λ_=>no 10 (λa h e=>?_) (by unfold decE;rw[if_pos h4])) (λh=>by simp at h);have:=snB_len h;rw[e]at this;omega
 rw[if_neg h4];by_cases hs:sealB (l.take (l.length-4))=l
 rotate_left
 ·rw[if_neg hs];refine Zaa (λ_=>no 12 (λa h e=>hs ?_) (by unfold decE;rw[if_neg h4,if_neg hs])) (λh=>by simp at h);have m:(mg++encS a).length=l.length-4:=by rw[←e,snB,Zgh];omega
  have:l.take (l.length-4)=mg++encS a:=(by rw[←m,←e,snB,sealB,YI]);rw[this];exact e
 rw[if_pos hs];have b:Byts (l.take (l.length-4)):=j.sub λx g=>List.mem_of_mem_take g;have c:decE l=11:=by unfold decE;rw[if_neg h4,if_pos hs]
 refine Zaa (λh=>by simp at h) (λ_=>⟨by simp[rlen],Cl.ofQ (Zvw (l.take (l.length-4)) mg b byts_mg) ?_⟩);rintro r (⟨t,ht,rfl⟩|⟨hno,rfl⟩)
 ·have i:Byts t:=b.sub λx g=>by rw[ht];exact List.mem_append.2 (.inr g)
  have n:t.length≤100000:=(by have:=congrArg List.length ht;simp at this;omega);refine⟨_,_,rfl,Zaa (λh=>by simp at h) (λ_=>Cl.ofQ (rdec_fn t n i) ?_)⟩;rintro r ⟨d,e,rfl,⟨h1,f,rfl⟩|⟨h1,rfl,rfl⟩⟩
  ·refine⟨_,_,_,_,rfl,Zaa (λh=>by simp at h) (λ_=>⟨d,0,rfl,.inl ⟨h1,?_,rfl⟩⟩)⟩;rw[snB,f,←ht,hs]
  ·refine⟨_,_,_,_,rfl,Zaa (λ_=>no 11 (λa h e=>h1 a h ?_) c.symm) (λh=>by simp at h)⟩;rw[←hs,ht]at e;exact List.append_cancel_left (Zli e)
 ·refine⟨_,_,rfl,Zaa (λ_=>no 11 (λa h e=>hno (encS a) ?_) c.symm) (λh=>by simp at h)⟩;rw[←hs]at e;exact(Zli e).symm
abbrev iU(l:List UInt8):List Int:=l.map λb=>(b.toNat:Int)
def snU(d:StD):List UInt8:=(snB d).map λn=>UInt8.ofNat n.toNat
def uR_bR(l:List UInt8):uR l=bR (iU l):=by simp[iU]
def iU_byts(l:List UInt8):Byts (iU l):=by
 intro x a;obtain⟨b,_,rfl⟩:=Y4.1 a;have:=b.toNat_lt;omega
def iU_inj{a b:List UInt8}(h:iU a=iU b):a=b:=uR_inj.1 (by rw[uR_bR,uR_bR,h])
def iU_of{l:List Int}(h:Byts l):iU (l.map λn=>UInt8.ofNat n.toNat)=l:=by
 simp only[iU,List.map_map]
 conv=>rhs;rw[←YW l]
 apply List.map_congr_left;intro x a;have:=h x a;simp[UInt8.toNat_ofNat'];omega
def snU_i(d:StD):iU (snU d)=snB d:=iU_of (snB_byts d)
def snU_iff{d:StD}{l:List UInt8}:snB d=iU l↔snU d=l:=by
 rw[←snU_i];exact⟨iU_inj,λh=>by rw[h]⟩
end Snp
namespace Snp
open Go Go.Px Go.Proofs Cod Seg Sgr Sx Row Dsk Tryz
abbrev tmpB:BA:=bA [116,109,112]
def chn(p:DiD×Int)(f:DiD→DiD×Int):DiD×Int:=if p.2=0 then f p.1 else p
def oldN(d:DiD):Nat:=match d.get tmpB with|some f=>f.len|none=>0
def newF(d:DiD):Nat:=match d.get tmpB with|some _=>0|none=>1
def mkT(d:DiD)(x:List UInt8)(q:Int):DiD×Int:=chn (chn (chn (Za9 d tmpB) λd=>Zau d tmpB x) λd=>Zaz d tmpB) λd=>Zvp d tmpB (snNm q)
def rmT(d:DiD):DiD×Int:=match d.get tmpB with|some _=>Za5 d tmpB|none=>(d,0)
def saveD(d:DiD)(s:StD):DiD×Int:=
 if¬(d.P∧s.P)then(d,1)else if d.dn=true then(d,16)
 else if d.rm+oldN d<usedL d.fs+(snU s).length∨64<d.fs.length+newF d then(d,13)
 else chn (rmT d) λd=>mkT d (snU s) s.q
def Good(d:DiD):Prop:=d.st≤9223372036854775807
def Good.ok{d:DiD}(h:Good d)(a:d.P):d.ok:=DiD.P.ok a h
def stP_q{s:StD}(h:s.P):inQ s.q:=⟨h.1.2.1,h.1.2.2.1⟩
abbrev isP(p:DiD×Int)(e:Int)(l:LL)(a b:Int)(c:Bool):Prop:=e=p.2∧l=fR p.1.fs∧a=p.1.rm∧b=p.1.st∧c=p.1.dn
def isF(f:FiD)(t:StD):Prop:=t.P∧f.nm=snNm t.q∧f.su++f.lo=snU t
def Cand(l:List FiD)(t:StD):Prop:=∃f∈l,isF f t
def Best(l:List FiD)(o:Option StD):Prop:=match o with|none=>∀t,¬Cand l t|some s=>Cand l s∧∀t,Cand l t→t.q≤s.q
def NewR(d:DiD)(s:StD)(e:Int):Prop:=
 (¬d.P∧s=st0∧e=1)∨(d.P∧d.dn=true∧s=st0∧e=16)∨(d.P∧d.dn=false∧((e=0∧Best d.fs (some s))∨(e=14∧s=st0∧Best d.fs none)))
def cand_uniq{l:List FiD}(c:srt FiD.nm l){a b:StD}(d:Cand l a)(h:Cand l b)(e:a.q=b.q):a=b:=by
 obtain⟨f,i,j,k,m⟩:=d;obtain⟨g,n,o,p,r⟩:=h;have:f=g:=Zlz c i n (by rw[k,p,e]);subst this;exact Zom j o (by rw[←snU_i,←snU_i,←m,←r])
def Zq1{l:List FiD}(e:srt FiD.nm l){a b:StD}(c:Best l (some a))(d:Best l (some b)):a=b:=
 cand_uniq e c.1 d.1 (Int.le_antisymm (d.2 a c.1) (c.2 b d.1))
def NewR.eq{d:DiD}{s t:StD}{e f:Int}(h:NewR d s e)(k:NewR d t f):s=t∧e=f:=by
 rcases h with⟨a,rfl,rfl⟩|⟨a,h2,rfl,rfl⟩|⟨a,h2,c⟩<;>rcases k with⟨b,rfl,rfl⟩|⟨b,k2,rfl,rfl⟩|⟨b,k2,g⟩
 ·exact⟨rfl,rfl⟩
 ·exact absurd b a
 ·exact absurd b a
 ·exact absurd a b
 ·exact⟨rfl,rfl⟩
 ·rw[h2]at k2;cases k2
 ·exact absurd a b
 ·rw[h2]at k2;cases k2
 ·rcases c with⟨rfl,c⟩|⟨rfl,rfl,c⟩<;>rcases g with⟨rfl,g⟩|⟨rfl,rfl,g⟩
  ·exact⟨Zq1 a.2.2.2 c g,rfl⟩
  ·exact absurd c.1 (g _)
  ·exact absurd g.1 (c _)
  ·exact⟨rfl,rfl⟩
def Zf8{l:List FiD}{f:FiD}{t:StD}:Cand (l++[f]) t↔Cand l t∨isF f t:=by
 unfold Cand;constructor
 ·rintro⟨g,a,h⟩
  rcases List.mem_append.1 a with a|a
  ·exact .inl ⟨g,a,h⟩
  ·simp at a;subst a;exact .inr h
 ·rintro(⟨g,a,h⟩|h)
  ·exact⟨g,by simp[a],h⟩
  ·exact⟨f,by simp,h⟩
def best_skip{l:List FiD}{f:FiD}{o:Option StD}(h:Best l o)(b:∀t,isF f t→∃s,o=some s∧t.q≤s.q):Best (l++[f]) o:=by
 cases o with
 |none=>
  intro t a
  rcases Zf8.1 a with a|a
  ·exact h t a
  ·obtain⟨s,e,_⟩:=b t a;cases e
 |some s=>
  refine⟨Zf8.2 (.inl h.1),λt a=>?_⟩
  rcases Zf8.1 a with a|a
  ·exact h.2 t a
  ·obtain⟨d,e,c⟩:=b t a;cases e;exact c
def best_take{l:List FiD}{f:FiD}{o:Option StD}{s:StD}(h:Best l o)(b:isF f s)(c:∀t,o=some t→t.q<s.q):Best (l++[f]) (some s):=by
 refine⟨Zf8.2 (.inr b),λt a=>?_⟩
 rcases Zf8.1 a with a|a
 ·cases o with
  |none=>exact absurd a (h t)
  |some u=>have:=h.2 t a;have:=c u rfl;omega
 ·have e:t=s:=Zom a.1 b.1 (by rw[←snU_i,←snU_i,←a.2.2,←b.2.2]);rw[e];exact Int.le_refl _
def Hold(o:Option StD)(l:LL)(q t:Int):Prop:=match o with
 |none=>q= -1
 |some s=>l=coR s.cs∧q=s.q∧t=s.t∧s.P
def Zvs{d:DiD}(h:d.P){i:Nat}(a:i<d.fs.length):(d.fs[i].su++d.fs[i].lo).length≤65536:=by
 have b:=h.1;have c:=h.2.1;have:=Zf7 (List.getElem_mem a);unfold FiD.len at this;rw[List.length_append];omega
def get_at{d:DiD}(h:d.P){i:Nat}(a:i<d.fs.length):d.get d.fs[i].nm=some d.fs[i]:=(get_iff h.2.2.2).2 ⟨List.getElem_mem a,rfl⟩
def isF_of{f:FiD}{s:StD}{n e:Int}(a:SnD (iU (f.su++f.lo)) s e)(b:e=0)(c:NumR f.nm n true)(d:s.q=n):isF f s:=by
 subst b
 rcases a with⟨g,i,_⟩|⟨_,_,h⟩
 ·refine⟨g,?_,(snU_iff.1 i).symm⟩
  rcases c with⟨q,_,e,rfl,_⟩|⟨_,_,e⟩
  ·rw[d];exact e
  ·cases e
 ·exact absurd h.symm (Zu4 _)
def isF_num{f:FiD}{t:StD}{n:Int}{b:Bool}(h:isF f t)(d:NumR f.nm n b):b=true∧n=t.q:=by
 have c:=stP_q h.1
 rcases d with⟨q,a,e,rfl,rfl⟩|⟨a,_,_⟩
 ·exact⟨rfl,Zwc a c (e.symm.trans h.2.1)⟩
 ·exact absurd h.2.1 (a _ c)
def isF_dec{f:FiD}{t s:StD}{e:Int}(h:isF f t)(c:SnD (iU (f.su++f.lo)) s e):e=0∧s=t:=by
 have b:snB t=iU (f.su++f.lo):=snU_iff.2 h.2.2.symm
 rcases c with⟨a,d,g⟩|⟨a,_,_⟩
 ·exact⟨g,Zom a h.1 (d.trans b.symm)⟩
 ·exact absurd b (a t h.1)
def nnew_fn(d:DiD)(D:d.ok):Ct prog 113 {} [d.sv] (λr=>∃s e,r=[StD.sv s,I e]∧NewR d s e):=by
 refine nnew_nf (Cl.of (Zgc d D) ⟨_,rfl,Zaa (λh=>?_) (λh=>?_)⟩)
 ·simp at h;exact⟨st0,1,rfl,.inl ⟨h,rfl,rfl⟩⟩
 simp at h;refine Zaa (λg=>⟨st0,16,rfl,.inr (.inl ⟨h,g,rfl,rfl⟩)⟩) (λg=>?_);have P:=h.1.1;refine Cl.of (Zv3 d (by omega)) ⟨_,rfl,?_⟩;have F:rlen (nR (d.fs.map FiD.nm))=d.fs.length:=(by simp[rlen]);rw[F];refine⟨λx y c z=>0≤x∧x≤d.fs.length∧∃o,Best (d.fs.take x.toNat) o∧Hold o y c z,λx _ _ _=>(d.fs.length-x).toNat,⟨by omega,by omega,none,(by rintro t ⟨f,A,_⟩;simp at A),rfl⟩,?_⟩;rintro x y c z ⟨x0,hx,o,hb,hh⟩
 have R: -1≤c:=by
  cases o with
  |none=>have:c= -1:=hh;omega
  |some s=>obtain⟨_,e,_,p⟩:=hh;have:=(stP_q p).1;omega
 have w:x<d.fs.length→wadd IntKind.i64 x 1=x+1:=λ_=>Zac (by omega) (by omega);refine Zaa (λk=>?_) (λk=>?_)
 ·simp at k;have a:x.toNat<d.fs.length:=(by omega);have i:d.fs.take (x+1).toNat=d.fs.take x.toNat++[d.fs[x.toNat]]:=by rw[show(x+1).toNat=x.toNat+1 by omega,List.take_succ_eq_append_getElem a]
  have skip:(∀t,isF d.fs[x.toNat] t→∃s,o=some s∧t.q≤s.q)→0≤x+1∧x+1≤d.fs.length∧∃o,Best (d.fs.take (x+1).toNat) o∧Hold o y c z:=λA=>
   ⟨by omega,by omega,o,by rw[i];exact best_skip hb A,hh⟩
  have C:Nat.le (Nat.succ (d.fs.length-(x+1)).toNat) (d.fs.length-x).toNat:=mlt (by omega);rw[w k];refine⟨⟨x0,k⟩,d.fs[x.toNat].nm,by simp[rget,a],Cl.ofQ (nnum_fn _) ?_⟩;rintro r ⟨n,b,rfl,hn⟩;refine⟨_,_,rfl,Zaa (λl=>⟨rfl,skip λt m=>?_,C⟩) (λl=>?_)⟩
  ·obtain⟨E,Q⟩:=isF_num m hn;subst E;have G:n≤c:=by simpa using l
   cases o with
   |none=>have:c= -1:=hh;have:=(stP_q m.1).1;omega
   |some s=>obtain⟨_,e,_,_⟩:=hh;exact⟨s,rfl,by omega⟩
  ·rw[bor_f]at l;have H:b=true:=(by simpa using l.1);subst H;have G:c<n:=by have:=l.2;simp at this;omega
   have er:d.er d.fs[x.toNat].nm d.fs[x.toNat].nm=0:=Zct.2 ⟨h,g,h.2.2.1 _ (List.getElem_mem a),h.2.2.1 _ (List.getElem_mem a)⟩;have J:Zf6 d d.fs[x.toNat].nm=(d.fs[x.toNat].su++d.fs[x.toNat].lo,0):=(by unfold Zf6;rw[er,get_at h a];rfl);refine Cl.of (Zn7 d D _) ⟨_,_,rfl,?_⟩;rw[J];refine Zaa (λh=>by simp at h) (λ_=>?_);have K:=Zvs h a;have v:=ndec_fn (iU (d.fs[x.toNat].su++d.fs[x.toNat].lo)) (by simp at K⊢;omega) (iU_byts _);rw[←uR_bR]at v;refine Cl.ofQ v ?_;rintro r ⟨s,e,rfl,hs⟩;refine⟨_,_,_,_,rfl,Zaa (λu=>⟨rfl,⟨by omega,by omega,some s,?_,rfl,rfl,rfl,?_⟩,C⟩) (λu=>⟨rfl,skip λt m=>?_,C⟩)⟩
   ·have j:e=0∧s.q=n:=by
     by_cases e0:e=0
     ·exact⟨e0,by simpa[e0]using u⟩
     ·simp[e0]at u
    rw[i];refine best_take hb (isF_of hs j.1 hn j.2) λt L=>?_;subst L;obtain⟨_,e1,_,_⟩:=hh;omega
   ·have j:e=0:=by
     by_cases e0:e=0
     ·exact e0
     ·simp[e0]at u
    rcases hs with⟨p,_,_⟩|⟨_,_,p⟩
    ·exact p
    ·exact absurd (p.symm.trans j) (Zu4 _)
   ·exfalso;obtain⟨M,N⟩:=isF_dec m hs;obtain⟨_,O⟩:=isF_num m hn;subst M N O;simp at u
 ·simp at k;have i:d.fs.take x.toNat=d.fs:=List.take_of_length_le (by omega);rw[i]at hb
  cases o with
  |none=>have:c= -1:=hh;subst this;exact Zaa (λ_=>⟨st0,14,rfl,.inr (.inr ⟨h,g,.inr ⟨rfl,rfl,hb⟩⟩)⟩) (λh=>by simp at h)
  |some s=>obtain⟨rfl,rfl,rfl,p⟩:=hh;have:=(stP_q p).1;exact Zaa (λh=>by simp at h;omega) (λ_=>⟨s,0,rfl,.inr (.inr ⟨h,g,.inl ⟨rfl,hb⟩⟩)⟩)
def Hold2(o:Option StD)(e:Int)(l:LL)(q t:Int):Prop:=match o with
 |none=>e=14∧l=[]∧q=0∧t=0
 |some s=>e=0∧l=coR s.cs∧q=s.q∧t=s.t
def Eqv(a b:List FiD):Prop:=∀f:FiD,f.nm≠tmpB→(f∈a↔f∈b)
theorem Eqv.refl(a:List FiD):Eqv a a:=λ_ _=>Iff.rfl
def Eqv.trans{a b c:List FiD}(h:Eqv a b)(k:Eqv b c):Eqv a c:=λf d=>(h f d).trans (k f d)
def Eqv.symm{a b:List FiD}(h:Eqv a b):Eqv b a:=λf c=>(h f c).symm
def er_ok{d:DiD}(h:d.P)(c:d.dn=false){a b:BA}(e:fnB a=true)(f:fnB b=true):d.er a b=0:=Zct.2 ⟨h,c,e,f⟩
def newFile(s:StD):FiD:=⟨snNm s.q,snU s,[]⟩
inductive SaveR(d:DiD)(s:StD):DiD×Int→Prop
 |full (h:d.rm+oldN d<usedL d.fs+(snU s).length∨64<d.fs.length+newF d):SaveR d s (d,13)
 |down (x:DiD) (hp:x.P) (hst:d.st≠-1) (he:Eqv x.fs d.fs) (hg:Good d→Good x):SaveR d s (x,16)
 |ok (x:DiD) (hp:x.P) (hd:x.dn=false) (hst:d.st= -1→x.st= -1) (hrm:x.rm=d.rm) (hf:x.fs=withB FiD.nm (wout FiD.nm d.fs tmpB) (newFile s)) (hg:Good d→Good x):SaveR d s (x,0)
end Snp
namespace Jou
open Go Go.Px Go.Proofs Cod Seg Tryz
def rdO_uniq{l:List Int}{d i:Sc}{q f:Int}(h:RdO l d q)(b:RdO l i f):d=i∧q=f:=by
 have t:=h.far b.ok b.pre;have u:=b.far h.ok h.pre;have v:=Beg.len b.ok h.ok t;have x:=Beg.len h.ok b.ok u;have e:i=d:=v.2 (by omega);subst e;refine⟨rfl,?_⟩
 rcases h.ext with⟨w,k,p,n,r,c,rfl⟩|⟨k,p,n,c,ht,rfl⟩
 ·rcases b.ext with⟨s,j,m,o,g,a,rfl⟩|⟨j,m,o,a,ht',rfl⟩
  ·rw[c]at a;simp only[Prod.mk.injEq]at a;rw[a.1]
  ·rw[c]at a;simp only[Prod.mk.injEq]at a;exact absurd a.1 r
 ·rcases b.ext with⟨s,j,m,o,g,a,rfl⟩|⟨j,m,o,a,ht',rfl⟩
  ·rw[c]at a;simp only[Prod.mk.injEq]at a;exact absurd a.1.symm g
  ·rfl
def addS(d:Sc)(e:EvD):Sc:={d with ev:=d.ev++[e],s:=e.s,a:=e.a,m:=bhdN d.m e.c}
def recB(d:Sc)(e:EvD):List Int:=fr 2 (encL d.s d.a d.m e)
def Zze{d:Sc}{e:EvD}(h:ScOK d)(b:d.num≠0)(k:d.sl=false)(ok:EncOK d.s d.a d.m e):ScOK (addS d e)∧segL (addS d e)=segL d++recB d e:=by
 have g:=h.fin b;simp only[Wt]at g;obtain⟨n,o,p⟩:=g;have i:(fin3 d.bs d.ba [] d.ev).1=d.s:=n.symm;have j:(fin3 d.bs d.ba [] d.ev).2.1=d.a:=o.symm;have f:(fin3 d.bs d.ba [] d.ev).2.2=d.m:=p.symm;refine⟨⟨λl=>absurd l b,λ_=>h.head b,λ_=>?_,λ_=>?_⟩,?_⟩
 ·show okL d.bs d.ba [] (d.ev++[e]);rw[Zn9,i,j,f];exact⟨h.evs b,ok⟩
 ·show(e.s,e.a,bhdN d.m e.c)=fin3 d.bs d.ba [] (d.ev++[e]);rw[Zfy,f]
 ·rw[Zcn (show(addS d e).num≠0 from b),Zcn b];unfold slx addS recB;simp only[k,Bool.false_eq_true,if_false,List.append_nil];rw[Zk5,i,j,f,List.append_assoc]
def sealS(d:Sc):Sc:={d with sl:=true}
def seaB(d:Sc):List Int:=fr 3 (slP d.ev.length d.s d.a)
def Zt9{d:Sc}(h:ScOK d)(a:d.num≠0)(b:d.sl=false):ScOK (sealS d)∧segL (sealS d)=segL d++seaB d:=by
 refine⟨⟨λc=>absurd c a,λ_=>h.head a,λ_=>h.evs a,λ_=>h.fin a⟩,?_⟩;rw[Zcn (show(sealS d).num≠0 from a),Zcn a];unfold slx sealS seaB;simp only[b,Bool.false_eq_true,if_false,if_true,List.append_nil,List.append_assoc]
def newS(n s a:Int)(e:EvD):Sc:=mkS n s a [e] false
def Zzf{n s a:Int}{e:EvD}(h:headOK n s a)(ok:EncOK s a [] e):ScOK (newS n s a e)∧segL (newS n s a e)=fr 1 (hdP n s a)++fr 2 (encL s a [] e):=by
 have b:n≠0:=(by have:=h.1.1;omega);refine⟨mkS_ok false h ⟨ok,trivial⟩,?_⟩;unfold newS;rw[segL_mk b];simp[recL]
end Jou
namespace Jou
open Go Go.Px Go.Proofs Cod Seg Sgr Snp Tryz
abbrev spre:List UInt8:=[115,101,103,46]
def segNm(n:Int):BA:=⟨(spre++dgs 8 n.toNat).toArray⟩
def inN(n:Int):Prop:=1≤n∧n≤99999999
instance (n:Int):Decidable (inN n):=inferInstanceAs (Decidable (_∧_))
def Zcd(n:Int):(segNm n).data.toList=spre++dgs 8 n.toNat:=by simp[segNm]
def Zuq{n:Int}(h:inN n):(vD ((segNm n).data.toList.drop 4):Int)=n:=by
 unfold inN at h;rw[Zcd,show(spre++dgs 8 n.toNat).drop 4=dgs 8 n.toNat from rfl,Zre 8 _ (by omega)];omega
def numS(s:BA):Int:=if inN (vD (s.data.toList.drop 4):Int)∧s=segNm (vD (s.data.toList.drop 4):Int)then(vD (s.data.toList.drop 4):Int)else 0
def Zkb{n:Int}(h:inN n):numS (segNm n)=n:=by
 unfold numS;rw[Zuq h,if_pos ⟨h,rfl⟩]
def Zc6{s:BA}(h:numS s≠0):inN (numS s)∧s=segNm (numS s):=by
 unfold numS at h⊢
 split
 next g=>exact g
 next g=>rw[if_neg g]at h;exact absurd rfl h
def lex_app:∀{a b:List UInt8} (x y:List UInt8),a.length=b.length→a<b→a++x<b++y
 | [],[],x,y,_,h=>absurd h (List.lt_irrefl _)
 | [],_::_,_,_,hl,_=>by simp at hl
 |_::_,[],_,_,hl,_=>by simp at hl
 |c::a,d::b,x,y,hl,h=>by
  rw[List.cons_append,List.cons_append,YE]
  rcases YE.1 h with h|⟨h1,h2⟩
  ·exact .inl h
  ·exact .inr ⟨h1,lex_app x y (by simpa using hl) h2⟩
def Zr8:∀(p:List UInt8) {a b:List UInt8},a<b→p++a<p++b
 | [],_,_,h=>h
 |c::p,a,b,h=>by rw[List.cons_append,List.cons_append,YE];exact .inr ⟨rfl,Zr8 p h⟩
def dgs_lt:∀(k a b:Nat),a<b→b<10^k→dgs k a<dgs k b
 |0,a,b,h,hb=>by simp at hb;omega
 |k+1,a,b,h,hb=>by
  rw[dgs,dgs];by_cases e:a/10=b/10
  ·rw[e];refine Zr8 _ ?_;rw[YE]
   left
   rw[UInt8.lt_iff_toNat_lt];simp only[UInt8.toNat_ofNat'];omega
  ·refine lex_app _ _ (by rw[Zdn,Zdn]) (dgs_lt k _ _ (by omega) ?_);rw[Nat.pow_succ]at hb;omega
def Zur{a b:Int}(c:inN a)(d:inN b)(h:a<b):nlt (segNm a) (segNm b):=by
 unfold nlt;rw[Zcd,Zcd];unfold inN at c d;exact Zr8 _ (dgs_lt 8 _ _ (by omega) (by omega))
structure Pt where
 d:Sc
 n:Nat
def foll(p a:Sc):Prop:=a.sl=true∧p.num=a.num+1∧p.bs=a.s∧p.ba=a.a
instance (p a:Sc):Decidable (foll p a):=inferInstanceAs (Decidable (_∧_))
def isSeg(f:FiD):Bool:=decide (numS f.nm≠0)
def segs(l:List FiD):List FiD:=l.filter isSeg
abbrev ptF(a:FiD→Sc)(f:FiD):Pt:=⟨a f,f.len⟩
def mayR(b:FiD→Sc)(r:List Pt)(o:List BA)(f:FiD):Prop:=o=[]∧(b f).num=numS f.nm∧(match r.getLast? with|none=>True|some a=>foll (b f) a.d)
instance (sc:FiD→Sc) (r:List Pt) (o:List BA) (f:FiD):Decidable (mayR sc r o f):=by
 unfold mayR
 cases r.getLast?<;>infer_instance
def rstep(b:FiD→Sc)(a:List Pt×List BA)(f:FiD):List Pt×List BA:=
 if numS f.nm=0 then a else if mayR b a.1 a.2 f then(a.1++[ptF b f],a.2)else(a.1,a.2++[f.nm])
def rowsD(a:FiD→Sc)(l:List FiD):List Pt×List BA:=l.foldl (rstep a) ([],[])
def Zca(b:FiD→Sc):∀(l:List FiD) (a:List Pt×List BA),l.foldl (rstep b) a=(segs l).foldl (rstep b) a
 | [],a=>rfl
 |f::l,a=>by
  unfold segs;rw[List.foldl_cons,List.filter_cons];by_cases h:numS f.nm=0
  ·have e:isSeg f=false:=(by unfold isSeg;simp[h]);rw[e,if_neg (by simp),show rstep b a f=a from if_pos h];exact Zca b l a
  ·have e:isSeg f=true:=(by unfold isSeg;simp[h]);rw[e,if_pos rfl,List.foldl_cons];exact Zca b l _
def inRow(b:FiD→Sc):Option Sc→List FiD→Prop
 |_,[]=>True
 |p,f::l=>(b f).num=numS f.nm∧(match p with|none=>True|some a=>foll (b f) a)∧inRow b (some (b f)) l
def Zob(b:FiD→Sc):∀(l:List FiD) (r:List Pt),(∀f∈l,numS f.nm≠0)→inRow b (r.getLast?.map (·.d)) l→l.foldl (rstep b) (r,[])=(r++l.map (ptF b),[])
 | [],r,_,_=>by simp
 |f::l,r,hn,h=>by
  obtain⟨i,e,j⟩:=h;rw[List.foldl_cons]
  have k:mayR b r [] f:=by
   refine⟨rfl,i,?_⟩
   cases c:r.getLast? with
   |none=>trivial
   |some a=>rw[c]at e;exact e
  rw[show rstep b (r,[]) f=(r++[ptF b f],[])from by unfold rstep;rw[if_neg (hn f (by simp)),if_pos k]];rw[Zob b l (r++[ptF b f]) (λg c=>hn g (by simp[c])) (by simpa using j)];simp
def Zoc(a:FiD→Sc):∀(l:List FiD) (r:List Pt) (o:List BA),o≠[]→((l.foldl (rstep a) (r,o)).2≠[])
 | [],r,o,h=>h
 |f::l,r,o,h=>by
  rw[List.foldl_cons];unfold rstep
  split
  ·exact Zoc a l r o h
  ·rw[if_neg (λq=>h q.1)];exact Zoc a l r _ (by simp)
def rows_in'(b:FiD→Sc):∀(l:List FiD) (r:List Pt),(∀f∈l,numS f.nm≠0)→(l.foldl (rstep b) (r,[])).2=[]→inRow b (r.getLast?.map (·.d)) l
 | [],r,_,_=>trivial
 |f::l,r,hn,h=>by
  rw[List.foldl_cons]at h;by_cases hm:mayR b r [] f
  ·rw[show rstep b (r,[]) f=(r++[ptF b f],[])from by unfold rstep;rw[if_neg (hn f (by simp)),if_pos hm]]at h;obtain⟨_,i,e⟩:=hm;refine⟨i,?_,?_⟩
   ·cases c:r.getLast? with
    |none=>trivial
    |some a=>rw[c]at e;exact e
   ·have:=rows_in' b l (r++[ptF b f]) (λg c=>hn g (by simp[c])) h
    simpa using this
  ·rw[show rstep b (r,[]) f=(r,[]++[f.nm])from by unfold rstep;rw[if_neg (hn f (by simp)),if_neg hm]]at h;exact absurd h (Zoc b l r _ (by simp))
def Zbl{l:List FiD}:∀f∈segs l,numS f.nm≠0:=λf a=>by
 have:=(List.mem_filter.1 a).2
 simpa[isSeg]using this
def rows_iff{a:FiD→Sc}{l:List FiD}:(rowsD a l).2=[]↔inRow a none (segs l):=by
 unfold rowsD;rw[Zca];exact⟨λh=>rows_in' a _ [] Zbl h,λh=>by rw[Zob a _ [] Zbl h]⟩
def Zod{a:FiD→Sc}{l:List FiD}(h:inRow a none (segs l)):rowsD a l=((segs l).map (ptF a),[]):=by
 unfold rowsD;rw[Zca,Zob a _ [] Zbl h];simp
def withB_map{l:List FiD}{f:FiD}(a:srt FiD.nm l)(c:∃g∈l,g.nm=f.nm):withB FiD.nm l f=l.map λg=>if g.nm=f.nm then f else g:=by
 obtain⟨g,h,e⟩:=c;obtain⟨i,b,rfl⟩:=List.mem_iff_getElem.1 h;rw[←Zgd a b e.symm];apply Yu
 ·simp
 ·intro j d k;rw[List.getElem_set,Wi];by_cases hij:i=j
  ·subst hij;rw[if_pos rfl,if_pos e]
  ·rw[if_neg hij,if_neg (λq=>hij (srt_inj a b (by simpa using d) (e.trans q.symm)))]
def segs_map{l:List FiD}{g:FiD→FiD}(h:∀x,(g x).nm=x.nm):segs (l.map g)=(segs l).map g:=by
 unfold segs;rw[List.filter_map];congr 1;apply List.filter_congr;intro x _;show isSeg (g x)=isSeg x;unfold isSeg;rw[h x]
def Zpe{l:List FiD}{f:FiD}(a:srt FiD.nm l)(b:∃g∈l,g.nm=f.nm):segs (withB FiD.nm l f)=(segs l).map λg=>if g.nm=f.nm then f else g:=by
 rw[withB_map a b];refine segs_map λx=>?_
 split
 next h=>exact h.symm
 ·rfl
def Zl4{l a:List FiD}{g f:FiD}(d:srt FiD.nm l)(e:segs l=a++[g])(c:g.nm=f.nm):segs (withB FiD.nm l f)=a++[f]:=by
 have j:g∈l:=(List.mem_filter.1 (show g∈l.filter isSeg by rw[show l.filter isSeg=a++[g]from e];simp)).1;rw[Zpe d ⟨g,j,c⟩,e,List.map_append];congr 1
 ·have b:srt FiD.nm (segs l):=Yw _ d;rw[e]at b;have h:=(List.pairwise_append.1 b).2.2
  conv=>rhs;rw[←YW a]
  apply List.map_congr_left;intro x i;have:=Zju (h x i g (by simp));rw[if_neg (λq=>this (q.trans c.symm))];rfl
 ·simp[c]
def Zcv(b:FiD→Sc):∀(l:List FiD) (p:Option Sc) (f:FiD),inRow b p (l++[f])↔inRow b p l∧(b f).num=numS f.nm∧(match(l.getLast?.map b).or p with|none=>True|some a=>foll (b f) a)
 | [],p,f=>by cases p<;>simp[inRow]
 |g::l,p,f=>by
  rw[List.cons_append];show _∧_∧inRow b (some (b g)) (l++[f])↔(_∧_∧inRow b (some (b g)) l)∧_;rw[Zcv b l (some (b g)) f]
  have e:((g::l).getLast?.map b).or p=(l.getLast?.map b).or (some (b g)):=by
   cases l with
   |nil=>simp
   |cons h l=>
    rw[WP]
    cases hh:(h::l).getLast? with
    |none=>simp at hh
    |some x=>simp
  rw[e];constructor
  ·rintro⟨c,d,i,j,k⟩;exact⟨⟨c,d,i⟩,j,k⟩
  ·rintro⟨⟨c,d,i⟩,j,k⟩;exact⟨c,d,i,j,k⟩
def Zv6(a b:List FiD):segs (a++b)=segs a++segs b:=List.filter_append ..
def segs_new{l:List FiD}{f:FiD}(v:srt FiD.nm l)(hno:∀g∈l,g.nm≠f.nm)(m:numS f.nm≠0)(j:∀g∈segs l,numS g.nm<numS f.nm):segs (withB FiD.nm l f)=segs l++[f]:=by
 rw[Zdx hno];have c:ahd FiD.nm l f.nm++bhd FiD.nm l f.nm=l:=Wn
 have k:segs (bhd FiD.nm l f.nm)=[]:=by
  apply Wg.2;intro x n b;have o:x∈l:=by rw[←c];exact List.mem_append.2 (.inr n)
  have q:numS x.nm≠0:=(by simpa[isSeg]using b);have C:=j x (List.mem_filter.2 ⟨o,b⟩);obtain⟨w,e1⟩:=Zc6 q;obtain⟨A,e2⟩:=Zc6 m;have s:nlt x.nm f.nm:=by rw[e1,e2];exact Zur w A C
  have d:∀y∈bhd FiD.nm l f.nm,¬nlt y.nm f.nm:=by
   intro y a h;have i:srt FiD.nm (bhd FiD.nm l f.nm):=by have:=v;rw[←c]at this;exact(List.pairwise_append.1 this).2.1
   cases hbb:bhd FiD.nm l f.nm with
   |nil=>rw[hbb]at a;cases a
   |cons z r=>
    have t:¬nlt z.nm f.nm:=by
     have:=List.head?_dropWhile_not (p:=λg:FiD=>decide (nlt g.nm f.nm)) l;unfold bhd at hbb;rw[hbb]at this
     simpa using this
    rw[hbb]at a i
    rcases List.mem_cons.1 a with rfl|a
    ·exact t h
    ·have D:nlt z.nm y.nm:=(List.pairwise_cons.1 i).1 y a;exact t (Y03 D h)
  exact d x n s
 have e:segs l=segs (ahd FiD.nm l f.nm):=by
  conv=>lhs;rw[←c,Zv6,k,List.append_nil]
 show segs (ahd FiD.nm l f.nm++f::bhd FiD.nm l f.nm)=_;rw[Zv6,e];congr 1
 show segs (f::bhd FiD.nm l f.nm)=[f]
 have u:isSeg f=true:=(by simp[isSeg,m]);unfold segs at k⊢;rw[List.filter_cons,u,if_pos rfl,k]
def byF(f:FiD):List Int:=(f.su++f.lo).map λb=>(b.toNat:Int)
open Classical in
noncomputable def scF(f:FiD):Sc:=if h:∃d st,RdO (byF f) d st then h.choose else sc0
def scF_eq{f:FiD}{d:Sc}{st:Int}(h:RdO (byF f) d st):scF f=d:=by
 have a:∃d st,RdO (byF f) d st:=⟨d,st,h⟩
 unfold scF;rw[dif_pos a];obtain⟨c,b⟩:=a.choose_spec;exact(rdO_uniq b h).1
def rdO_self{d:Sc}(h:ScOK d):RdO (segL d) d (endW 1 d.sl):=by
 refine⟨h,List.prefix_rfl,.inl ⟨1,(nextR []).2.1,(nextR []).2.2.1,(nextR []).2.2.2,by decide,?_,rfl⟩⟩;rw[List.drop_length];rfl
def Zbo{f:FiD}{d:Sc}(h:ScOK d)(a:byF f=segL d):scF f=d:=scF_eq (st:=endW 1 d.sl) (by rw[a];exact rdO_self h)
def byF_app(s:BA)(a c x:List UInt8):byF ⟨s,a,c++x⟩=byF ⟨s,a,c⟩++x.map λb=>(b.toNat:Int):=by
 unfold byF;simp
end Jou
namespace Jou
open Go Go.Px Go.Proofs Cod Seg Sgr Snp Sx Row Tryz
open Classical in
noncomputable def newF(l:List FiD):Option StD:=if h:∃s,Best l (some s)then some h.choose else none
def Zpt{l:List FiD}{o:Option StD}(b:srt FiD.nm l)(h:Best l o):newF l=o:=by
 unfold newF
 cases o with
 |none=>rw[dif_neg];rintro⟨s,c⟩;exact h s c.1
 |some s=>
  have a:∃s,Best l (some s):=⟨s,h⟩
  rw[dif_pos a];exact congrArg some (Zq1 b a.choose_spec h)
def Zee{s:BA}(h:numS s≠0)(q:Int):s≠snNm q:=by
 intro e;obtain⟨_,e2⟩:=Zc6 h;have:=congrArg (λb:BA=>b.data.toList.length) (e.symm.trans e2);simp only[Ze1,Zcd,List.length_append,Zdn]at this;simp at this
def cand_seg{l:List FiD}{f:FiD}(b:numS f.nm≠0)(t:StD):Cand (withB FiD.nm l f) t↔Cand l t:=by
 constructor
 ·rintro⟨g,a,h⟩
  rcases Zav.1 a with rfl|⟨a,_⟩
  ·exact absurd h.2.1 (Zee b _)
  ·exact⟨g,a,h⟩
 ·rintro⟨g,a,h⟩;exact⟨g,Zav.2 (.inr ⟨a,λe=>Zee b _ (e.symm.trans h.2.1)⟩),h⟩
def Zyx{l a:List FiD}(h:∀t,Cand l t↔Cand a t){o:Option StD}:Best l o↔Best a o:=by
 cases o with
 |none=>exact⟨λg t q=>g t ((h t).2 q),λg t q=>g t ((h t).1 q)⟩
 |some s=>exact⟨λg=>⟨(h s).1 g.1,λt q=>g.2 t ((h t).2 q)⟩,λg=>⟨(h s).2 g.1,λt q=>g.2 t ((h t).1 q)⟩⟩
def Znk{l a:List FiD}(h:∀t,Cand l t↔Cand a t):newF l=newF a:=by
 have e:Best l=Best a:=funext λo=>propext (Zyx h);unfold newF;rw[e]
def Zwt{l:List FiD}{f:FiD}(a:numS f.nm≠0):newF (withB FiD.nm l f)=newF l:=Znk λt=>cand_seg a t
noncomputable def keptF(l:List FiD):Int:=match newF l with|none=>0|some s=>s.q
noncomputable def baseF(l:List FiD):StD:=match newF l with|none=>st0|some s=>s
def toE(e:Cod.EvD):Cmp.EvD:=⟨e.s,e.a,e.k,e.c,e.x,e.y,e.z⟩
def evsR(r:List Pt):List Cmp.EvD:=r.flatMap λp=>p.d.ev.map toE
def stR(r:List Pt)(k:Int)(s:StD):StD:=(foldS s ((evsR r).filter λe=>decide (k<e.s))).1
structure GoodR(r:List Pt)(k:Int)(s:StD):Prop where
 bs:∀p∈r.head?,p.d.bs≤k
 cnt:∀p∈r,(p.d.ev.length:Int)=p.d.s-p.d.bs
 app:(foldS s ((evsR r).filter λe=>decide (k<e.s))).2.2=0
 at_:∀p∈r.getLast?,p.d.a=(stR r k s).t
def Zjf:∀(l:List Cmp.EvD) (d:StD) (e:Cmp.EvD),(foldS d l).2.2=0→(appS (foldS d l).1 e).2=0→(foldS d (l++[e])).1=(appS (foldS d l).1 e).1∧(foldS d (l++[e])).2.2=0
 | [],d,e,_,h=>by simp only[foldS]at h⊢;rw[List.nil_append,foldS,if_neg (by simpa using h)];exact⟨rfl,rfl⟩
 |x::l,d,e,h0,h=>by
  rw[foldS]at h0 h;rw[List.cons_append,foldS,foldS];by_cases hx:(appS d x).2≠0
  ·rw[if_pos hx]at h0;exact absurd h0 hx
  ·rw[if_neg hx]at h0 h⊢;rw[if_neg hx];exact Zjf l _ e h0 h
def Zrk{d:StD}{e:Cmp.EvD}(h:(appS d e).2=0):(appS d e).1.q=e.s∧(appS d e).1.t=e.a:=by
 unfold appS at h⊢
 split
 next g=>rw[if_pos g]at h;exact absurd h g
 ·exact⟨rfl,rfl⟩
def Zgx(a b:List Pt):evsR (a++b)=evsR a++evsR b:=by unfold evsR;rw[List.flatMap_append]
def goodR_add{b:List Pt}{p q:Pt}{k:Int}{s:StD}{e:Cod.EvD}(h:GoodR (b++[p]) k s)(f:q.d.bs=p.d.bs)(i:q.d.ev=p.d.ev++[e])(m:q.d.s=e.s)(n:q.d.a=e.a)(j:e.s=p.d.s+1)(o:k<e.s)(ok:(appS (stR (b++[p]) k s) (toE e)).2=0):
  GoodR (b++[q]) k s∧stR (b++[q]) k s=(appS (stR (b++[p]) k s) (toE e)).1:=by
 have l:(evsR (b++[q])).filter (λe=>decide (k<e.s))=(evsR (b++[p])).filter (λe=>decide (k<e.s))++[toE e]:=(by rw[Zgx,Zgx];have u:evsR [q]=evsR [p]++[toE e]:=(by simp[evsR,i]);rw[u,←List.append_assoc,List.filter_append];congr 1;simp[toE,o]);obtain⟨r,t⟩:=Zjf _ s (toE e) h.app (by have:=ok;unfold stR at this;exact this);have hst:stR (b++[q]) k s=(appS (stR (b++[p]) k s) (toE e)).1:=(by unfold stR;rw[l,r]);refine⟨⟨?_,?_,?_,?_⟩,hst⟩
 ·intro x c
  cases b with
  |nil=>have:x=q:=(by simpa using c.symm);subst this;rw[f];exact h.bs p (by simp)
  |cons g b=>exact h.bs x (by simpa using c)
 ·intro x c
  rcases List.mem_append.1 c with c|c
  ·exact h.cnt x (by simp[c])
  ·have:x=q:=(by simpa using c);subst this;have:=h.cnt p (by simp);rw[i,f,m,j,List.length_append];simp only[Wm];omega
 ·rw[l];exact t
 ·intro x c;have:x=q:=(by simpa using c.symm);subst this;rw[hst,(Zrk ok).2,n];rfl
def Zyy{b:List Pt}{p q:Pt}{k:Int}{s:StD}(h:GoodR (b++[p]) k s)(e:q.d.bs=p.d.bs)(f:q.d.ev=p.d.ev)(j:q.d.s=p.d.s)(l:q.d.a=p.d.a):
  GoodR (b++[q]) k s∧stR (b++[q]) k s=stR (b++[p]) k s:=by
 have i:evsR (b++[q])=evsR (b++[p]):=(by rw[Zgx,Zgx];simp[evsR,f]);have hst:stR (b++[q]) k s=stR (b++[p]) k s:=(by unfold stR;rw[i]);refine⟨⟨?_,?_,by rw[i];exact h.app,?_⟩,hst⟩
 ·intro x c
  cases b with
  |nil=>have:x=q:=(by simpa using c.symm);subst this;rw[e];exact h.bs p (by simp)
  |cons g b=>exact h.bs x (by simpa using c)
 ·intro x c
  rcases List.mem_append.1 c with c|c
  ·exact h.cnt x (by simp[c])
  ·have:x=q:=(by simpa using c);subst this;have:=h.cnt p (by simp);rw[f,e,j];exact this
 ·intro x c;have:x=q:=(by simpa using c.symm);subst this;rw[hst,l];exact h.at_ p (by simp)
def goodR_new{r:List Pt}{q:Pt}{k:Int}{s:StD}{e:Cod.EvD}(h:GoodR r k s)(c:q.d.ev=[e])(l:q.d.s=e.s)(m:q.d.a=e.a)(f:e.s=q.d.bs+1)(n:k<e.s)(i:r=[]→q.d.bs≤k)(ok:(appS (stR r k s) (toE e)).2=0):
  GoodR (r++[q]) k s∧stR (r++[q]) k s=(appS (stR r k s) (toE e)).1:=by
 have j:(evsR (r++[q])).filter (λe=>decide (k<e.s))=(evsR r).filter (λe=>decide (k<e.s))++[toE e]:=(by rw[Zgx,List.filter_append];congr 1;simp[evsR,c,toE,n]);obtain⟨o,p⟩:=Zjf _ s (toE e) h.app (by have:=ok;unfold stR at this;exact this);have hst:stR (r++[q]) k s=(appS (stR r k s) (toE e)).1:=(by unfold stR;rw[j,o]);refine⟨⟨?_,?_,by rw[j];exact p,?_⟩,hst⟩
 ·intro x b
  cases r with
  |nil=>have:x=q:=(by simpa using b.symm);subst this;exact i rfl
  |cons g t=>exact h.bs x (by simpa using b)
 ·intro x b
  rcases List.mem_append.1 b with b|b
  ·exact h.cnt x b
  ·have:x=q:=(by simpa using b);subst this;rw[c,l,f];simp only[Wm];omega
 ·intro x b;have:x=q:=(by simpa using b.symm);subst this;rw[hst,(Zrk ok).2,m];rfl
def Zhc(f:FiD):(byF f).length=f.len:=by unfold byF FiD.len;simp
def Zf2{f:FiD}(h:(scF f).num≠0):ScOK (scF f)∧segL (scF f)<+:byF f:=by
 by_cases hx:∃d b,RdO (byF f) d b
 ·obtain⟨d,b,a⟩:=hx;rw[scF_eq a];exact⟨a.ok,a.pre⟩
 ·exfalso;apply h;unfold scF;rw[dif_neg hx];rfl
def scF_all{f:FiD}(h:(scF f).num≠0)(a:f.len=(segL (scF f)).length):byF f=segL (scF f):=by
 obtain⟨_,b⟩:=Zf2 h;exact(b.eq_of_length (by rw[Zhc,a])).symm
def Zqk{d b a:Sc}(c:b.num=d.num)(e:b.bs=d.bs)(f:b.ba=d.ba):foll b a↔foll d a:=by
 unfold foll;rw[c,e,f]
def row_last{l i:List FiD}{g f:FiD}{b:Sc}(p:srt FiD.nm l)(c:inRow scF none (segs l))(e:segs l=i++[g])(k:g.nm=f.nm)(m:ScOK b)(q:byF f=segL b)(n:b.num=(scF g).num)(r:b.bs=(scF g).bs)(s:b.ba=(scF g).ba):
  inRow scF none (segs (withB FiD.nm l f))∧rowsD scF (withB FiD.nm l f)=(i.map (ptF scF)++[⟨b,f.len⟩],[])∧segs (withB FiD.nm l f)=i++[f]:=by
 have d:=Zl4 p e k;have j:scF f=b:=Zbo m q;rw[e,Zcv]at c
 have h:inRow scF none (segs (withB FiD.nm l f)):=by
  rw[d,Zcv];refine⟨c.1,by rw[j,n,c.2.1,k],?_⟩;have o:=c.2.2
  cases hg:(i.getLast?.map scF).or none with
  |none=>trivial
  |some a=>rw[hg]at o;rw[j];exact(Zqk n r s).2 o
 refine⟨h,?_,d⟩;rw[Zod h,d,List.map_append];simp[ptF,j]
def row_new{l:List FiD}{f:FiD}{a:Sc}(m:srt FiD.nm l)(i:inRow scF none (segs l))(hno:∀g∈l,g.nm≠f.nm)(j:numS f.nm≠0)(d:∀g∈segs l,numS g.nm<numS f.nm)(k:ScOK a)(n:byF f=segL a)(o:a.num=numS f.nm)(e:∀g,(segs l).getLast?=some g→foll a (scF g)):
  inRow scF none (segs (withB FiD.nm l f))∧rowsD scF (withB FiD.nm l f)=((segs l).map (ptF scF)++[⟨a,f.len⟩],[])∧segs (withB FiD.nm l f)=segs l++[f]:=by
 have b:=segs_new m hno j d;have h:scF f=a:=Zbo k n
 have c:inRow scF none (segs (withB FiD.nm l f)):=by
  rw[b,Zcv];refine⟨i,by rw[h,o],?_⟩
  cases hg:(segs l).getLast? with
  |none=>trivial
  |some g=>show foll (scF f) (scF g);rw[h];exact e g hg
 refine⟨c,?_,b⟩;rw[Zod c,b,List.map_append];simp[ptF,h]
structure SgD where
 num:Int
 fi:Int
 la:Int
 fr:Int
 ti:Int
 sz:Int
 sl:Bool
deriving DecidableEq
structure CxD where
 s:Int
 a:Int
 m:List BA
deriving DecidableEq
structure JoD where
 dk:DiD
 cb:Int
 cg:Int
 sg:List SgD
 cx:CxD
 st:StD
 sure:Int
 kept:Int
 shut:Bool
def sgOf(p:Pt):SgD:=⟨p.d.num,p.d.bs,p.d.s,p.d.ba,p.d.a,(segL p.d).length,p.d.sl⟩
def Zbp(r:List Pt):CxD:=match r.getLast? with|none=>⟨0,0,[]⟩|some p=>if p.d.sl=true then⟨0,0,[]⟩else⟨p.d.s,p.d.a,p.d.m⟩
def mayC(b g:Int):Prop:=64≤b∧b≤65536∧1≤g∧g≤1099511627776
noncomputable def rowK(l:List FiD):List Pt×List BA:=match(rowsD scF l).1.getLast? with
 |none=>rowsD scF l
 |some p=>if p.d.s<keptF l then([],(rowsD scF l).1.map (λp=>segNm p.d.num)++(rowsD scF l).2)else rowsD scF l
noncomputable def anewJ(a:DiD)(c d b:Int)(shut:Bool):JoD:=
 ⟨a,c,d,(rowK a.fs).1.map sgOf,Zbp (rowK a.fs).1,stR (rowK a.fs).1 (keptF a.fs) (baseF a.fs),b,keptF a.fs,shut⟩
structure RightJ(j:JoD):Prop where
 cfg:mayC j.cb j.cg
 dk:j.dk.P
 up:j.dk.dn=false
 out:(rowK j.dk.fs).2=[]
 good:GoodR (rowK j.dk.fs).1 (keptF j.dk.fs) (baseF j.dk.fs)
 all:∀p∈(rowK j.dk.fs).1,p.n=(segL p.d).length
 eq:j=anewJ j.dk j.cb j.cg j.sure j.shut
 sure:keptF j.dk.fs≤j.sure∧j.sure≤j.st.q
structure DkR(l gs:List FiD):Prop where
 srt:srt FiD.nm l
 eq:segs l=gs
 inr:inRow scF none gs
 kept:∀p,(gs.map (ptF scF)).getLast?=some p→keptF l≤p.d.s
def Zcq{l a:List FiD}(h:DkR l a):rowK l=(a.map (ptF scF),[]):=by
 have e:rowsD scF l=(a.map (ptF scF),[]):=(by rw[Zod (by rw[h.eq];exact h.inr),h.eq]);unfold rowK;rw[e]
 cases hg:(a.map (ptF scF)).getLast? with
 |none=>rfl
 |some p=>have:=h.kept p hg;simp only;rw[if_neg (by omega)]
def dkR_of{l:List FiD}(c:srt FiD.nm l)(h:(rowK l).2=[]):DkR l (segs l):=by
 have a:(rowsD scF l).2=[]∧∀p,(rowsD scF l).1.getLast?=some p→keptF l≤p.d.s:=by
  unfold rowK at h
  cases hg:(rowsD scF l).1.getLast? with
  |none=>rw[hg]at h;exact⟨h,λp q=>by cases q⟩
  |some p=>
   rw[hg]at h;simp only at h
   split at h
   ·exfalso;have:=List.append_eq_nil_iff.1 h;have g:(rowsD scF l).1=[]:=(by simpa using this.1);rw[g]at hg;cases hg
   ·exact⟨h,λq e=>by cases e;omega⟩
 have b:=rows_iff.1 a.1;refine⟨c,rfl,b,λp f=>a.2 p ?_⟩;rw[Zod b];exact f
def Zci{l:List FiD}{f:FiD}(a:numS f.nm≠0):keptF (withB FiD.nm l f)=keptF l:=by unfold keptF;rw[Zwt a]
def Zdr{l:List FiD}{f:FiD}(a:numS f.nm≠0):baseF (withB FiD.nm l f)=baseF l:=by unfold baseF;rw[Zwt a]
def Cns:Int→List Cmp.EvD→Int→Prop
 |a,[],b=>a=b
 |a,e::l,b=>e.s=a+1∧Cns e.s l b
def cns_le:∀{l:List Cmp.EvD} {a b:Int},Cns a l b→b=a+l.length
 | [],a,b,h=>by simp only[Cns]at h;simp[h]
 |e::l,a,b,h=>by obtain⟨d,c⟩:=h;have:=cns_le c;rw[List.length_cons];omega
def cns_app:∀{l m:List Cmp.EvD} {a b c:Int},Cns a l b→Cns b m c→Cns a (l++m) c
 | [],m,a,b,c,h,k=>by simp only[Cns]at h;subst h;exact k
 |e::l,m,a,b,c,h,k=>⟨h.1,cns_app h.2 k⟩
def Zu0:∀(l:List Cod.EvD) (s a:Int) (m:List BA),okL s a m l→(fin3 s a m l).1=s+l.length→Cns s (l.map toE) (fin3 s a m l).1
 | [],s,a,m,_,_=>rfl
 |e::l,s,a,m,h,hf=>by obtain⟨f,b⟩:=h;have g:=Zmc l e.s e.a (bhdN m e.c) b;have i:=f.seq;have d:(fin3 e.s e.a (bhdN m e.c) l).1=s+(l.length+1):=(by have:(fin3 s a m (e::l)).1=(fin3 e.s e.a (bhdN m e.c) l).1:=rfl;rw[←this,hf,List.length_cons];omega);have e1:e.s=s+1:=(by omega);refine⟨e1,?_⟩;exact Zu0 l e.s e.a (bhdN m e.c) b (by rw[d];omega)
def Zol{d:Sc}(h:ScOK d)(b:d.num≠0)(c:(d.ev.length:Int)=d.s-d.bs):Cns d.bs (d.ev.map toE) d.s:=by
 have a:=h.fin b;simp only[Wt]at a;have:=Zu0 d.ev d.bs d.ba [] (h.evs b) (by rw[←a.1];omega);rw[←a.1]at this;exact this
def Zsj:∀(b:List FiD) (g:FiD),inRow scF none (b++[g])→(∀f∈b++[g],numS f.nm≠0)→(∀p∈(b++[g]).map (ptF scF),(p.d.ev.length:Int)=p.d.s-p.d.bs)→∀p∈((b++[g]).map (ptF scF)).head?,Cns p.d.bs (evsR ((b++[g]).map (ptF scF))) (scF g).s:=by
 intro b
 induction hlen:b.length generalizing b with
 |zero=>
  have:b=[]:=Ys.1 hlen;subst this;intro g h j l p m;have e:p=ptF scF g:=(by simpa using m.symm);subst e;have c:(scF g).num≠0:=(by have:=h.1;rw[this];exact j g (by simp));have:=Zol (Zf2 c).1 c (l (ptF scF g) (by simp))
  simpa[evsR,ptF]using this
 |succ k o=>
  rcases Y1 b with rfl|⟨b,x,rfl⟩
  ·simp at hlen
  rw[List.concat_eq_append]at hlen⊢;have o:=o b (by simpa using hlen);intro g h j l p m;rw[Zcv]at h;obtain⟨v,w,z⟩:=h;have c:(scF g).num≠0:=by rw[w];exact j g (by simp)
  have t:p∈((b++[x]).map (ptF scF)).head?:=by
   cases b with
   |nil=>simpa using m
   |cons y b=>simpa using m
  have C:=o x v (λf i=>j f (by simp at i⊢;rcases i with i|i;exact .inl i;exact .inr (.inl i))) (λq r=>l q (by simp at r⊢;rcases r with⟨a,A,e⟩|e;exact .inl ⟨a,A,e⟩;exact .inr (.inl e))) p t;have u:foll (scF g) (scF x):=(by simpa using z);have n:=Zol (Zf2 c).1 c (l (ptF scF g) (by simp));rw[u.2.2.1]at n;rw[List.map_append,Zgx];refine cns_app C ?_
  simpa[evsR,ptF]using n
def Zm3:∀{l:List Cmp.EvD} {a b:Int} (k:Int),Cns a l b→a≤k→k≤b→Cns k (l.filter λe=>decide (k<e.s)) b
 | [],a,b,k,h,h1,h2=>by simp only[Cns]at h;subst h;show Cns k [] a;simp only[Cns];omega
 |e::l,a,b,k,h,h1,h2=>by
  obtain⟨f,d⟩:=h;rw[List.filter_cons];by_cases hk:k<e.s
  ·rw[if_pos (by simpa using hk)];have e1:k=a:=(by omega);subst e1;refine⟨f,?_⟩
   have:(l.filter λe=>decide (k<e.s))=l:=by
    apply List.filter_eq_self.2;intro x c
    have g:∀{l:List Cmp.EvD} {a b:Int},Cns a l b→∀x∈l,a<x.s:=by
     intro l
     induction l with
     |nil=>intro a b _ x c;cases c
     |cons y l i=>
      intro a b h x c
      rcases List.mem_cons.1 c with rfl|c
      ·have:=h.1;omega
      ·have:=i h.2 x c;have:=h.1;omega
    have:=g d x c;simp;omega
   rw[this];exact d
  ·rw[if_neg (by simpa using hk)];exact Zm3 k d (by omega) h2
def fold_q:∀{l:List Cmp.EvD} {d:StD} {b:Int},Cns d.q l b→(foldS d l).2.2=0→(foldS d l).1.q=b
 | [],d,b,h,_=>h
 |e::l,d,b,h,h0=>by
  rw[foldS]at h0⊢;by_cases a:(appS d e).2≠0
  ·rw[if_pos a]at h0;exact absurd h0 a
  ·rw[if_neg a]at h0⊢;have a:(appS d e).2=0:=(by simpa using a);refine fold_q ?_ h0;rw[(Zrk a).1];exact h.2
def Zm4(l:List FiD):(baseF l).q=keptF l:=by
 unfold baseF keptF
 cases newF l<;>rfl
def stR_q{l a:List FiD}{g:FiD}(h:DkR l (a++[g]))(b:GoodR ((a++[g]).map (ptF scF)) (keptF l) (baseF l)):(stR ((a++[g]).map (ptF scF)) (keptF l) (baseF l)).q=(scF g).s:=by
 have c:∀f∈a++[g],numS f.nm≠0:=by rw[←h.eq];exact Zbl
 obtain⟨p,hp⟩:∃p,((a++[g]).map (ptF scF)).head?=some p:=by
  cases a with
  |nil=>exact⟨_,rfl⟩
  |cons y a=>exact⟨_,rfl⟩
 have d:=Zsj a g h.inr c b.cnt p hp;have e:=b.bs p hp;have i:=h.kept (ptF scF g) (by simp);have j:=Zm3 (keptF l) d e i;unfold stR;exact fold_q (by rw[Zm4];exact j) b.app
def RightJ.dkr{j:JoD}(h:RightJ j):DkR j.dk.fs (segs j.dk.fs):=dkR_of h.dk.2.2.2 h.out
def RightJ.row{j:JoD}(h:RightJ j):(rowK j.dk.fs).1=(segs j.dk.fs).map (ptF scF):=by rw[Zcq h.dkr]
def DkR.bytes{l b:List FiD}(h:DkR l b)(k:∀p∈b.map (ptF scF),p.n=(segL p.d).length):∀f∈b,ScOK (scF f)∧byF f=segL (scF f)∧(scF f).num=numS f.nm∧numS f.nm≠0:=by
 intro f a;have e:numS f.nm≠0:=Zbl f (by rw[h.eq];exact a)
 have g:∀(l:List FiD) (p:Option Sc),inRow scF p l→∀f∈l,(scF f).num=numS f.nm:=by
  intro l
  induction l with
  |nil=>intro p _ f a;cases a
  |cons x l m=>
   intro p c f a
   rcases List.mem_cons.1 a with rfl|a
   ·exact c.1
   ·exact m _ c.2.2 f a
 have i:=g b none h.inr f a;have j:(scF f).num≠0:=(by rw[i];exact e);exact⟨(Zf2 j).1,scF_all j (k (ptF scF f) (Y4.2 ⟨f,a,rfl⟩)),i,e⟩
def Zk7{l b:List FiD}{g f:FiD}{a:Sc}(h:DkR l (b++[g]))(o:g.nm=f.nm)(i:numS f.nm≠0)(c:ScOK a)(j:byF f=segL a)(q:a.num=(scF g).num)(r:a.bs=(scF g).bs)(t:a.ba=(scF g).ba)(u:keptF l≤a.s):
  DkR (withB FiD.nm l f) (b++[f])∧rowK (withB FiD.nm l f)=(b.map (ptF scF)++[⟨a,f.len⟩],[]):=by
 have m:inRow scF none (segs l):=(by rw[h.eq];exact h.inr);obtain⟨w,x,k⟩:=row_last h.srt m h.eq o c j q r t;have d:scF f=a:=Zbo c j
 have n:DkR (withB FiD.nm l f) (b++[f]):=⟨Zbn h.srt,k,by rw[←k];exact w,λp v=>by
  have e:p=ptF scF f:=(by simpa using v.symm);subst e;rw[Zci i];show keptF l≤(scF f).s
  rw[d];exact u⟩
 refine⟨n,?_⟩;rw[Zcq n,List.map_append];simp[ptF,d]
def rowK_new{l a:List FiD}{f:FiD}{d':Sc}(h:DkR l a)(hno:∀g∈l,g.nm≠f.nm)(b:numS f.nm≠0)(i:∀g∈a,numS g.nm<numS f.nm)(c:ScOK d')(m:byF f=segL d')(q:d'.num=numS f.nm)(j:∀g,a.getLast?=some g→foll d' (scF g))(r:keptF l≤d'.s):
  DkR (withB FiD.nm l f) (a++[f])∧rowK (withB FiD.nm l f)=(a.map (ptF scF)++[⟨d',f.len⟩],[]):=by
 have n:inRow scF none (segs l):=(by rw[h.eq];exact h.inr);obtain⟨u,v,k⟩:=row_new h.srt n hno b (by rw[h.eq];exact i) c m q (by rw[h.eq];exact j);rw[h.eq]at k;have d:scF f=d':=Zbo c m
 have o:DkR (withB FiD.nm l f) (a++[f]):=⟨Zbn h.srt,k,by rw[←k];exact u,λp t=>by
  have e:p=ptF scF f:=(by simpa using t.symm);subst e;rw[Zci b];show keptF l≤(scF f).s
  rw[d];exact r⟩
 refine⟨o,?_⟩;rw[Zcq o,List.map_append];simp[ptF,d]
structure Par(j:JoD)(gs:List FiD):Prop where
 dkr:DkR j.dk.fs gs
 good:GoodR (gs.map (ptF scF)) (keptF j.dk.fs) (baseF j.dk.fs)
 all:∀p∈gs.map (ptF scF),p.n=(segL p.d).length
 st:j.st=stR (gs.map (ptF scF)) (keptF j.dk.fs) (baseF j.dk.fs)
 sg:j.sg=(gs.map (ptF scF)).map sgOf
 cx:j.cx=Zbp (gs.map (ptF scF))
 kept:j.kept=keptF j.dk.fs
def RightJ.par{j:JoD}(h:RightJ j):Par j (segs j.dk.fs):=by
 have d:=h.row;have e:=h.good;have f:=h.all;have a:=h.eq;rw[d]at e f;have e1:j.st=(anewJ j.dk j.cb j.cg j.sure j.shut).st:=congrArg JoD.st a;have e2:j.sg=(anewJ j.dk j.cb j.cg j.sure j.shut).sg:=congrArg JoD.sg a;have b:j.cx=(anewJ j.dk j.cb j.cg j.sure j.shut).cx:=congrArg JoD.cx a;have c:j.kept=(anewJ j.dk j.cb j.cg j.sure j.shut).kept:=congrArg JoD.kept a;unfold anewJ at e1 e2 b c;simp only at e1 e2 b c;rw[d]at e1 e2 b;exact⟨h.dkr,e,f,e1,e2,b,c⟩
def Par.q{j:JoD}{a:List FiD}{g:FiD}(h:Par j (a++[g])):j.st.q=(scF g).s:=by rw[h.st];exact stR_q h.dkr h.good
def Par.q0{j:JoD}(h:Par j []):j.st.q=j.kept:=by
 rw[h.st,h.kept];show(baseF j.dk.fs).q=_;exact Zm4 _
def Par.kq{j:JoD}{a:List FiD}(h:Par j a):j.kept≤j.st.q:=by
 rcases Y1 a with rfl|⟨a,g,rfl⟩
 ·rw[h.q0];exact Int.le_refl _
 ·rw[List.concat_eq_append]at h;rw[h.q,h.kept];exact h.dkr.kept (ptF scF g) (by simp)
def anew_add{j:JoD}{i:List FiD}{g:FiD}(h:Par j (i++[g]))(z:(scF g).sl=false){e:Cod.EvD}(Y:e.s=j.st.q+1)(ok:EncOK (scF g).s (scF g).a (scF g).m e)(M:(appS j.st (toE e)).2=0){x:List UInt8}(N:(x.map λb=>(b.toNat:Int))=recB (scF g) e){d:DiD}(n:d.fs=withB FiD.nm j.dk.fs ⟨g.nm,g.su,g.lo++x⟩)(r t k:Int)(shut:Bool):
  anewJ d r t k shut=⟨d,r,t,((i.map (ptF scF)).map sgOf)++[sgOf ⟨addS (scF g) e,g.len+x.length⟩],⟨e.s,e.a,bhdN (scF g).m e.c⟩,(appS j.st (toE e)).1,k,j.kept,shut⟩∧
   Par (anewJ d r t k shut) (i++[⟨g.nm,g.su,g.lo++x⟩]):=by
 have V:=h.dkr.bytes h.all g (by simp);obtain⟨O,P,b3,w⟩:=V;have D:(scF g).num≠0:=(by rw[b3];exact w);obtain⟨F,Q⟩:=Zze O D z ok;have u:byF ⟨g.nm,g.su,g.lo++x⟩=segL (addS (scF g) e):=(by rw[byF_app,N,Q,←P]);have hq:=h.q;have Z:=h.kq;have W:keptF j.dk.fs≤(addS (scF g) e).s:=(by show _≤e.s;rw[←h.kept];omega);obtain⟨R,G⟩:=Zk7 (f:=⟨g.nm,g.su,g.lo++x⟩) h.dkr rfl w F u rfl rfl rfl W;have l:(⟨g.nm,g.su,g.lo++x⟩:FiD).len=g.len+x.length:=(by unfold FiD.len;simp;omega);rw[l]at G;have H:=h.good;rw[List.map_append]at H;have hst:=h.st;rw[List.map_append]at hst
 obtain⟨T,U⟩:=goodR_add (p:=ptF scF g) (q:=⟨addS (scF g) e,g.len+x.length⟩) H rfl rfl rfl rfl (by show e.s=(scF g).s+1;omega) (by rw[←h.kept];omega) (by
  have:stR (i.map (ptF scF)++[ptF scF g]) (keptF j.dk.fs) (baseF j.dk.fs)=j.st:=hst.symm
  rw[this];exact M)
 have A:keptF d.fs=keptF j.dk.fs:=(by rw[n];exact Zci w);have C:baseF d.fs=baseF j.dk.fs:=(by rw[n];exact Zdr w);have y:rowK d.fs=(i.map (ptF scF)++[⟨addS (scF g) e,g.len+x.length⟩],[]):=(by rw[n];exact G);have E:stR (i.map (ptF scF)++[⟨addS (scF g) e,g.len+x.length⟩]) (keptF j.dk.fs) (baseF j.dk.fs)=(appS j.st (toE e)).1:=(by rw[U];have:stR (i.map (ptF scF)++[ptF scF g]) (keptF j.dk.fs) (baseF j.dk.fs)=j.st:=hst.symm;rw[this]);have J:Zbp (i.map (ptF scF)++[⟨addS (scF g) e,g.len+x.length⟩])=⟨e.s,e.a,bhdN (scF g).m e.c⟩:=(by unfold Zbp;rw[List.getLast?_concat];simp[addS,z]);have K:anewJ d r t k shut=⟨d,r,t,((i.map (ptF scF)).map sgOf)++[sgOf ⟨addS (scF g) e,g.len+x.length⟩],⟨e.s,e.a,bhdN (scF g).m e.c⟩,(appS j.st (toE e)).1,k,j.kept,shut⟩:=(by unfold anewJ;rw[y,A,C,E,J,List.map_append,h.kept];rfl);refine⟨K,?_⟩;have L:scF ⟨g.nm,g.su,g.lo++x⟩=addS (scF g) e:=Zbo F u;have v:(i++[(⟨g.nm,g.su,g.lo++x⟩:FiD)]).map (ptF scF)=i.map (ptF scF)++[⟨addS (scF g) e,g.len+x.length⟩]:=(by rw[List.map_append];simp only[List.map_cons,List.map_nil,ptF,L,l]);refine⟨?_,?_,?_,?_,?_,?_,?_⟩
 ·show DkR d.fs _;rw[n];exact R
 ·show GoodR _ (keptF d.fs) (baseF d.fs);rw[v,A,C];exact T
 ·intro p o;rw[v]at o
  rcases List.mem_append.1 o with o|o
  ·exact h.all p (by rw[List.map_append];exact List.mem_append.2 (.inl o))
  ·have X:p=⟨addS (scF g) e,g.len+x.length⟩:=(by simpa using o);subst X;show g.len+x.length=_;rw[←l,←Zhc,u]
 ·show stR (rowK d.fs).1 _ _=stR _ (keptF d.fs) (baseF d.fs);rw[v,y]
 ·show(rowK d.fs).1.map sgOf=_;rw[v,y]
 ·show Zbp (rowK d.fs).1=_;rw[v,y]
 ·rfl
def par_of{j:JoD}{a:DiD}{b:List FiD}{f:FiD}{c:Sc}{S:StD}(m:∀p∈b.map (ptF scF),p.n=(segL p.d).length)(t:DkR a.fs (b++[f]))(r:scF f=c)(s:byF f=segL c)(i:rowK a.fs=(b.map (ptF scF)++[⟨c,f.len⟩],[]))
  (k:keptF a.fs=keptF j.dk.fs) (l:baseF a.fs=baseF j.dk.fs) (u:j.kept=keptF j.dk.fs) (v:GoodR (b.map (ptF scF)++[⟨c,f.len⟩]) (keptF j.dk.fs) (baseF j.dk.fs)) (hst:stR (b.map (ptF scF)++[⟨c,f.len⟩]) (keptF j.dk.fs) (baseF j.dk.fs)=S) (o q e:Int) (shut:Bool):
  anewJ a o q e shut=⟨a,o,q,((b.map (ptF scF)).map sgOf)++[sgOf ⟨c,f.len⟩],Zbp (b.map (ptF scF)++[⟨c,f.len⟩]),S,e,j.kept,shut⟩∧Par (anewJ a o q e shut) (b++[f]):=by
 have h:(b++[f]).map (ptF scF)=b.map (ptF scF)++[⟨c,f.len⟩]:=(by rw[List.map_append];simp only[List.map_cons,List.map_nil,ptF,r]);refine⟨?_,⟨t,?_,?_,?_,?_,?_,rfl⟩⟩
 ·unfold anewJ;rw[i,k,l,hst,List.map_append,u];rfl
 ·show GoodR _ (keptF a.fs) (baseF a.fs);rw[h,k,l];exact v
 ·intro p g;rw[h]at g
  rcases List.mem_append.1 g with g|g
  ·exact m p g
  ·have w:p=⟨c,f.len⟩:=(by simpa using g);subst w;show f.len=_;rw[←Zhc,s]
 ·show stR (rowK a.fs).1 _ _=stR _ (keptF a.fs) (baseF a.fs);rw[h,i]
 ·show(rowK a.fs).1.map sgOf=_;rw[h,i]
 ·show Zbp (rowK a.fs).1=_;rw[h,i]
def Zy8{j:JoD}{k:List FiD}{g f:FiD}(h:Par j (k++[g]))(o:(scF g).sl=false)(r:g.nm=f.nm)(z:byF f=byF g++seaB (scF g)){a:DiD}(c:a.fs=withB FiD.nm j.dk.fs f)(l m b:Int)(shut:Bool):
  anewJ a l m b shut=⟨a,l,m,((k.map (ptF scF)).map sgOf)++[sgOf ⟨sealS (scF g),f.len⟩],⟨0,0,[]⟩,j.st,b,j.kept,shut⟩∧Par (anewJ a l m b shut) (k++[f]):=by
 obtain⟨C,D,b3,t⟩:=h.dkr.bytes h.all g (by simp);have n:(scF g).num≠0:=by rw[b3];exact t
 obtain⟨u,E⟩:=Zt9 C n o;have d:byF f=segL (sealS (scF g)):=(by rw[z,E,←D]);have i:numS f.nm≠0:=by rw[←r];exact t
 have K:keptF j.dk.fs≤(sealS (scF g)).s:=h.dkr.kept (ptF scF g) (by simp);obtain⟨F,G⟩:=Zk7 (f:=f) h.dkr r i u d rfl rfl rfl K;have v:=h.good;rw[List.map_append]at v;have hst:=h.st;rw[List.map_append]at hst;obtain⟨H,J⟩:=Zyy (p:=ptF scF g) (q:=⟨sealS (scF g),f.len⟩) v rfl rfl rfl rfl;have w:keptF a.fs=keptF j.dk.fs:=(by rw[c];exact Zci i);have x:baseF a.fs=baseF j.dk.fs:=(by rw[c];exact Zdr i);have e:=par_of (j:=j) (S:=j.st) (λp A=>h.all p (by rw[List.map_append];exact List.mem_append.2 (.inl A))) (by rw[c];exact F) (Zbo u d) d (by rw[c];exact G) w x h.kept H (J.trans hst.symm) l m b shut;have y:Zbp (k.map (ptF scF)++[⟨sealS (scF g),f.len⟩])=⟨0,0,[]⟩:=(by unfold Zbp;rw[List.getLast?_concat];simp[sealS]);rw[y]at e;exact e
def anew_new{j:JoD}{b:List FiD}{f:FiD}{n:Int}{e:Cod.EvD}(h:Par j b)(z:∀g,b.getLast?=some g→(scF g).sl=true∧n=(scF g).num+1)(A:inN n)(a0:b=[]→n=1)(C:f.nm=segNm n)(hno:∀g∈j.dk.fs,g.nm≠f.nm)(x:∀g∈b,numS g.nm<n)
  (D:e.s=j.st.q+1) (E:headOK n j.st.q j.st.t) (ok:EncOK j.st.q j.st.t [] e) (M:(appS j.st (toE e)).2=0) (N:byF f=fr 1 (hdP n j.st.q j.st.t)++fr 2 (encL j.st.q j.st.t [] e)) {d:DiD} (k:d.fs=withB FiD.nm j.dk.fs f) (p r i:Int) (shut:Bool):
  anewJ d p r i shut=⟨d,p,r,((b.map (ptF scF)).map sgOf)++[sgOf ⟨newS n j.st.q j.st.t e,f.len⟩],⟨e.s,e.a,bhdN [] e.c⟩,(appS j.st (toE e)).1,i,j.kept,shut⟩∧Par (anewJ d p r i shut) (b++[f]):=by
 obtain⟨F,O⟩:=Zzf E ok;have l:byF f=segL (newS n j.st.q j.st.t e):=(by rw[N,O]);have m:numS f.nm=n:=by rw[C];exact Zkb A
 have o:numS f.nm≠0:=(by rw[m];have:=A.1;omega);have a3:=h.kq;have Y:(newS n j.st.q j.st.t e).s=e.s:=rfl;have Z:keptF j.dk.fs≤(newS n j.st.q j.st.t e).s:=(by rw[Y,←h.kept];omega);have v:∀g,b.getLast?=some g→(scF g).s=j.st.q∧(scF g).a=j.st.t:=by intro g u;obtain⟨w,rfl⟩:∃w,b=w++[g]:=WH.1 u;refine⟨h.q.symm,?_⟩;have:=h.good.at_ (ptF scF g) (by simp);rw[←h.st]at this;exact this
 obtain⟨P,Q⟩:=rowK_new (f:=f) (d':=newS n j.st.q j.st.t e) h.dkr hno o (by rw[m];exact x) F l (by rw[m];rfl) (λg u=>by
  obtain⟨R,T⟩:=v g u;obtain⟨U,V⟩:=z g u
  exact⟨U,V,R.symm,T.symm⟩) Z
 have hst:=h.st
 obtain⟨W,X⟩:=goodR_new (q:=⟨newS n j.st.q j.st.t e,f.len⟩) (e:=e) h.good rfl rfl rfl (by show e.s=j.st.q+1;exact D) (by rw[←h.kept];omega) (λy=>by
  have G:b=[]:=(by simpa using y);subst G;show j.st.q≤_
  rw[h.q0,h.kept];exact Int.le_refl _) (by rw[←hst];exact M)
 have H:keptF d.fs=keptF j.dk.fs:=(by rw[k];exact Zci o);have J:baseF d.fs=baseF j.dk.fs:=(by rw[k];exact Zdr o);have K:=par_of (j:=j) (S:=(appS j.st (toE e)).1) h.all (by rw[k];exact P) (Zbo F l) l (by rw[k];exact Q) H J h.kept W (by rw[X,←hst]) p r i shut;have L:Zbp (b.map (ptF scF)++[⟨newS n j.st.q j.st.t e,f.len⟩])=⟨e.s,e.a,bhdN [] e.c⟩:=(by unfold Zbp;rw[List.getLast?_concat];rfl);rw[L]at K;exact K
def Zg6{d:DiD}{f:FiD}(b:srt FiD.nm d.fs)(a:f∈d.fs):d.get f.nm=some f:=by
 unfold DiD.get
 cases h:d.fs.find? (λg=>decide (g.nm=f.nm))with
 |none=>have:=List.find?_eq_none.1 h f a;simp at this
 |some g=>have c:=YZ h;have e:=W0 h;rw[Zlz b e a (by simpa using c)]
def get_none{d:DiD}{s:BA}(h:d.get s=none):∀g∈d.fs,g.nm≠s:=by
 intro g a e;have:=List.find?_eq_none.1 h g a;simp[e]at this
def Zoo{d:DiD}{s:BA}{f:FiD}(h:d.get s=some f):f∈d.fs∧f.nm=s:=by
 refine⟨W0 h,?_⟩;have:=YZ h
 simpa using this
def Zdt{d a:DiD}{s:BA}{x:List UInt8}(h:Zau d s x=(a,0)):d.er s s=0∧∃f,d.get s=some f∧a.fs=withB FiD.nm d.fs ⟨s,f.su,f.lo++x⟩∧a.rm=d.rm∧a.dn=d.dn:=by
 unfold Zau at h
 split at h
 next g=>simp only[Prod.mk.injEq]at h;exact absurd h.2 g
 ·rename_i g;refine⟨by simpa using g,?_⟩
  split at h
  ·simp at h
  next f b=>
   split at h
   ·simp at h
   ·split at h
    ·simp at h
    ·simp only[Prod.mk.injEq]at h;refine⟨f,b,?_⟩;rw[←h.1];exact⟨rfl,rfl,rfl⟩
def Zop{d a:DiD}{b:List FiD}(h:d.perf b=(a,0)):a.fs=b∧a.rm=d.rm∧a.dn=d.dn:=by
 unfold DiD.perf at h
 split at h
 ·simp at h
 ·simp only[Prod.mk.injEq]at h;rw[←h.1];exact⟨rfl,rfl,rfl⟩
def Zf4{d a:DiD}{s:BA}(h:Zaz d s=(a,0)):d.er s s=0∧∃f,d.get s=some f∧a.fs=withB FiD.nm d.fs ⟨s,f.su++f.lo,[]⟩∧a.rm=d.rm∧a.dn=d.dn:=by
 unfold Zaz at h
 split at h
 next g=>simp only[Prod.mk.injEq]at h;exact absurd h.2 g
 ·rename_i g;refine⟨by simpa using g,?_⟩
  split at h
  ·simp at h
  next f b=>exact⟨f,b,Zop h⟩
def Zlk{d a:DiD}{s:BA}(h:Za9 d s=(a,0)):d.er s s=0∧d.get s=none∧a.fs=withB FiD.nm d.fs ⟨s,[],[]⟩∧a.rm=d.rm∧a.dn=d.dn:=by
 unfold Za9 at h
 split at h
 next g=>simp only[Prod.mk.injEq]at h;exact absurd h.2 g
 ·rename_i g;refine⟨by simpa using g,?_⟩
  split at h
  ·simp at h
  next b=>
   split at h
   ·simp at h
   ·exact⟨b,Zop h⟩
def Zoq{d a:DiD}{f:FiD}(b:srt FiD.nm d.fs)(e:a.fs=withB FiD.nm d.fs f):a.get f.nm=some f:=get_withB b e
def app_app{d b c:DiD}{s:BA}{x y:List UInt8}(e:srt FiD.nm d.fs)(h:Zau d s x=(b,0))(i:Zau b s y=(c,0)):∃f,d.get s=some f∧c.fs=withB FiD.nm d.fs ⟨s,f.su,f.lo++(x++y)⟩:=by
 obtain⟨_,f,j,e1,_⟩:=Zdt h;obtain⟨_,l,a,e2,_⟩:=Zdt i;have k:=Zoq (f:=⟨s,f.su,f.lo++x⟩) e e1;rw[k]at a
 cases a
 refine⟨f,j,?_⟩;rw[e2,e1,Zhi (nm:=FiD.nm) (f:=⟨s,f.su,f.lo++x⟩) (g:=⟨s,f.su,f.lo++x++y⟩) rfl,List.append_assoc]
def app_sync{d b c:DiD}{s:BA}{x:List UInt8}(e:srt FiD.nm d.fs)(h:Zau d s x=(b,0))(i:Zaz b s=(c,0)):∃f,d.get s=some f∧c.fs=withB FiD.nm d.fs ⟨s,f.su++(f.lo++x),[]⟩:=by
 obtain⟨_,f,j,e1,_⟩:=Zdt h;obtain⟨_,l,a,e2,_⟩:=Zf4 i;have k:=Zoq (f:=⟨s,f.su,f.lo++x⟩) e e1;rw[k]at a
 cases a
 refine⟨f,j,?_⟩;rw[e2,e1,Zhi (nm:=FiD.nm) (f:=⟨s,f.su,f.lo++x⟩) (g:=⟨s,f.su++(f.lo++x),[]⟩) rfl]
def new_app{d a c e:DiD}{s:BA}{x y:List UInt8}(h:srt FiD.nm d.fs)(k:Za9 d s=(a,0))(l:Zau a s x=(c,0))(m:Zau c s y=(e,0)):(∀g∈d.fs,g.nm≠s)∧e.fs=withB FiD.nm d.fs ⟨s,[],x++y⟩:=by
 obtain⟨_,n,b,_⟩:=Zlk k;have j:srt FiD.nm a.fs:=by rw[b];exact Zbn h
 obtain⟨f,i,e2⟩:=app_app j l m;have o:=Zoq (f:=⟨s,[],[]⟩) h b;rw[o]at i
 cases i
 refine⟨get_none n,?_⟩;rw[e2,b,Zhi (nm:=FiD.nm) (f:=⟨s,[],[]⟩) (g:=⟨s,[],[]++(x++y)⟩) rfl,List.nil_append]
def appS_may{d:StD}{e:Cmp.EvD}(h:(appS d e).2=0):MayS d e:=by
 refine Zh6 ?_;unfold appS at h
 split at h
 next g=>exact absurd h g
 next g=>simpa using g
def Zu3{d:StD}(h:d.P):ctxOK d.q d.t:=by
 obtain⟨⟨_,a,b,c,e⟩,_⟩:=h;exact⟨a,b,c,e⟩
def ctx_nil{s a:Int}(h:ctxOK s a):ctxB s a []=true:=by
 unfold ctxB rgtB;obtain⟨b,c,d,e⟩:=h;simp[b,c,d,e]
def Par.t{j:JoD}{b:List FiD}{g:FiD}(h:Par j (b++[g])):j.st.t=(scF g).a:=by
 have:=h.good.at_ (ptF scF g) (by simp);rw[←h.st]at this;exact this.symm
def Par.ctx{j:JoD}{a:List FiD}{g:FiD}(h:Par j (a++[g])):ScOK (scF g)∧(scF g).num≠0:=by
 obtain⟨b,d,b3,c⟩:=h.dkr.bytes h.all g (by simp);exact⟨b,by rw[b3];exact c⟩
def Par.name{j:JoD}{a:List FiD}(h:Par j a):∀f∈a,f.nm=segNm (scF f).num∧inN (scF f).num:=by
 intro f b;obtain⟨g,i,b3,c⟩:=h.dkr.bytes h.all f b;obtain⟨d,e⟩:=Zc6 c;rw[b3];exact⟨e,d⟩
def Par.big{j:JoD}{c:List FiD}{g:FiD}(h:Par j (c++[g])):∀f∈c++[g],numS f.nm<(scF g).num+1:=by
 have o:srt FiD.nm (c++[g]):=(by rw[←h.dkr.eq];exact Yw _ h.dkr.srt);obtain⟨_,_,c3,k⟩:=h.dkr.bytes h.all g (by simp);intro f a;obtain⟨_,_,b3,l⟩:=h.dkr.bytes h.all f a
 rcases List.mem_append.1 a with a|a
 ·have b:=(List.pairwise_append.1 o).2.2 f a g (by simp);obtain⟨m,d⟩:=Zc6 l;obtain⟨n,e⟩:=Zc6 k;rw[c3]
  rcases Ws (numS f.nm) (numS g.nm)with q|q
  ·omega
  ·exfalso;have i:numS g.nm<numS f.nm∨numS g.nm=numS f.nm:=by omega
   rcases i with q2|q2
   ·have:=Zur n m q2;rw[←e,←d]at this;exact Zlw _ (Y03 b this)
   ·rw[d,e,q2]at b;exact Zlw _ b
 ·have:f=g:=(by simpa using a);subst this;rw[c3];omega
def Zlo(a:FiD→Sc):∀(l:List FiD) (r:List Pt) (o:List BA),(∀f∈l,numS f.nm≠0)→o≠[]→l.foldl (rstep a) (r,o)=(r,o++l.map FiD.nm)
 | [],r,o,_,_=>by simp
 |f::l,r,o,hn,ho=>by rw[List.foldl_cons,show rstep a (r,o) f=(r,o++[f.nm])from by unfold rstep;rw[if_neg (hn f (by simp)),if_neg (λq=>ho q.1)]];rw[Zlo a l r _ (λg b=>hn g (by simp[b])) (by simp)];simp
def Zm9(b:FiD→Sc):∀(l:List FiD) (r:List Pt),(∀f∈l,numS f.nm≠0)→∃n,l.foldl (rstep b) (r,[])=(r++(l.take n).map (ptF b),(l.drop n).map FiD.nm)∧inRow b (r.getLast?.map (·.d)) (l.take n)
 | [],r,_=>⟨0,by simp,trivial⟩
 |f::l,r,hn=>by
  rw[List.foldl_cons];by_cases hm:mayR b r [] f
  ·rw[show rstep b (r,[]) f=(r++[ptF b f],[])from by unfold rstep;rw[if_neg (hn f (by simp)),if_pos hm]];obtain⟨n,h,i⟩:=Zm9 b l (r++[ptF b f]) λg c=>hn g (by simp[c]);refine⟨n+1,by rw[h];simp,?_⟩;rw[List.take_succ_cons];obtain⟨_,j,e⟩:=hm;refine⟨j,?_,by simpa using i⟩
   cases c:r.getLast? with
   |none=>trivial
   |some a=>rw[c]at e;exact e
  ·rw[show rstep b (r,[]) f=(r,[]++[f.nm])from by unfold rstep;rw[if_neg (hn f (by simp)),if_neg hm]];refine⟨0,?_,trivial⟩;rw[Zlo b l r _ (λg c=>hn g (by simp[c])) (by simp)];simp
def Zsu(l:List FiD):∃n,rowsD scF l=(((segs l).take n).map (ptF scF),((segs l).drop n).map FiD.nm)∧inRow scF none ((segs l).take n):=by
 unfold rowsD;rw[Zca];obtain⟨n,a,b⟩:=Zm9 scF (segs l) [] Zbl;exact⟨n,by simpa using a,b⟩
def Zbi{a:FiD→Sc}:∀{l:List FiD} {p:Option Sc},inRow a p l→∀f∈l,(a f).num=numS f.nm
 | [],_,_,f,hf=>by cases hf
 |g::l,p,h,f,hf=>by
  rcases List.mem_cons.1 hf with rfl|hf
  ·exact h.1
  ·exact Zbi h.2.2 f hf
def Zfh{f:FiD}(h:numS f.nm≠0):segNm (numS f.nm)=f.nm:=(Zc6 h).2.symm
def Zgq(l:List FiD):∃n,rowK l=(((segs l).take n).map (ptF scF),((segs l).drop n).map FiD.nm)∧inRow scF none ((segs l).take n)∧∀p,(((segs l).take n).map (ptF scF)).getLast?=some p→keptF l≤p.d.s:=by
 obtain⟨n,h,b⟩:=Zsu l;unfold rowK;rw[h]
 cases hg:(((segs l).take n).map (ptF scF)).getLast? with
 |none=>exact⟨n,rfl,b,λp c=>by rw[hg]at c;cases c⟩
 |some p=>
  simp only;by_cases hk:p.d.s<keptF l
  ·rw[if_pos hk];refine⟨0,?_,trivial,λq a=>by simp at a⟩;have e:(((segs l).take n).map (ptF scF)).map (λp=>segNm p.d.num)=((segs l).take n).map FiD.nm:=(by rw[List.map_map];apply List.map_congr_left;intro f g;show segNm (scF f).num=f.nm;rw[Zbi b f g];exact Zfh (Zbl f (List.mem_of_mem_take g)));rw[e,←List.map_append,List.take_append_drop];simp
  ·rw[if_neg hk];exact⟨n,rfl,b,λq a=>by rw[hg]at a;cases a;omega⟩
def Zqo{l:List FiD}{s:BA}:segs (wout FiD.nm l s)=wout FiD.nm (segs l) s:=by
 unfold segs wout;rw[List.filter_filter,List.filter_filter];apply List.filter_congr;intro x _;exact Bool.and_comm _ _
def cand_wout{l:List FiD}{s:BA}(h:numS s≠0)(t:StD):Cand (wout FiD.nm l s) t↔Cand l t:=by
 constructor
 ·rintro⟨g,a,q⟩;exact⟨g,(Zgt.1 a).1,q⟩
 ·rintro⟨g,a,q⟩;exact⟨g,Zgt.2 ⟨a,λe=>Zee h _ (e.symm.trans q.2.1)⟩,q⟩
def Zgr{l:List FiD}{s:BA}(h:numS s≠0):keptF (wout FiD.nm l s)=keptF l∧baseF (wout FiD.nm l s)=baseF l:=by
 have e:=Znk λt=>cand_wout (l:=l) h t;unfold keptF baseF;rw[e];exact⟨rfl,rfl⟩
def Zqp{l:List FiD}{f:FiD}(a:srt FiD.nm (l++[f])):wout FiD.nm (l++[f]) f.nm=l:=by
 unfold wout;rw[List.filter_append]
 have c:(l.filter λg=>decide (g.nm≠f.nm))=l:=by
  apply List.filter_eq_self.2;intro x b;have:=Zju ((List.pairwise_append.1 a).2.2 x b f (by simp))
  simpa using this
 rw[c];simp
def Zla{h:FiD→FiD}:∀{l:List FiD} {p:Option Sc},(∀f∈l,(h f).nm=f.nm∧scF (h f)=scF f)→inRow scF p l→inRow scF p (l.map h)
 | [],_,_,_=>trivial
 |f::l,p,hh,hi=>by obtain⟨c,a⟩:=hh f (by simp);obtain⟨d,e,i⟩:=hi;refine⟨by rw[c,a];exact d,by rw[a];exact e,?_⟩;rw[a];exact Zla (λg b=>hh g (by simp[b])) i
noncomputable def ptW(f:FiD):Pt:=⟨scF f,(segL (scF f)).length⟩
def Zlb{l b:List FiD}{n:Nat}{h:FiD→FiD}(u:srt FiD.nm b)(m:segs b=((segs l).take n).map h)(i:inRow scF none ((segs l).take n))(j:∀p,(((segs l).take n).map (ptF scF)).getLast?=some p→keptF l≤p.d.s)
  (o:∀f∈(segs l).take n,(h f).nm=f.nm∧byF (h f)=segL (scF f)) (v:keptF b=keptF l):DkR b (segs b)∧rowK b=(((segs l).take n).map ptW,[]):=by
 have q:∀f∈(segs l).take n,ScOK (scF f):=λf a=>by have w:=Zbi i f a;exact(Zf2 (by rw[w];exact Zbl f (List.mem_of_mem_take a))).1
 have k:∀f∈(segs l).take n,(h f).nm=f.nm∧scF (h f)=scF f:=λf a=>⟨(o f a).1,Zbo (q f a) (o f a).2⟩
 have r:(((segs l).take n).map h).map (ptF scF)=((segs l).take n).map ptW:=by
  rw[List.map_map];apply List.map_congr_left;intro f a
  show(⟨scF (h f),(h f).len⟩:Pt)=⟨scF f,(segL (scF f)).length⟩
  rw[(k f a).2,←Zhc,(o f a).2]
 have t:DkR b (segs b):=by
  refine⟨u,rfl,by rw[m];exact Zla k i,λp c=>?_⟩;rw[m,r]at c;rw[v]
  rcases Y1 ((segs l).take n)with e|⟨gs,g,e⟩
  ·rw[e]at c;simp at c
  ·rw[List.concat_eq_append]at e;rw[e]at c j;have e1:p=ptW g:=(by simpa using c.symm);subst e1;exact j (ptF scF g) (by simp)
 refine⟨t,?_⟩;rw[Zcq t,m,r]
def Zuy(l:List FiD):evsR (l.map ptW)=evsR (l.map (ptF scF)):=by
 unfold evsR;rw[List.flatMap_map,List.flatMap_map];rfl
def Zsg(l:List FiD)(k:Int)(s:StD):stR (l.map ptW) k s=stR (l.map (ptF scF)) k s:=by unfold stR;rw[Zuy]
def Zqi{l:List FiD}{k:Int}{s:StD}(h:GoodR (l.map (ptF scF)) k s):GoodR (l.map ptW) k s:=by
 refine⟨λp a=>?_,λp a=>?_,by rw[Zuy];exact h.app,λp a=>?_⟩
 ·cases l with
  |nil=>simp at a
  |cons f l=>have e:p=ptW f:=(by simpa using a.symm);subst e;exact h.bs (ptF scF f) (by simp)
 ·obtain⟨f,b,rfl⟩:=Y4.1 a;exact h.cnt (ptF scF f) (Y4.2 ⟨f,b,rfl⟩)
 ·rw[Zsg]
  rcases Y1 l with rfl|⟨gs,g,rfl⟩
  ·simp at a
  ·rw[List.concat_eq_append]at a h⊢;have e:p=ptW g:=(by simpa using a.symm);subst e;exact h.at_ (ptF scF g) (by simp)
def byF_cut{f:FiD}{n:Nat}:byF ⟨f.nm,f.su.take n,f.lo.take (n-f.su.length)⟩=(byF f).take n:=by
 unfold byF;rw[←List.map_take,List.take_append]
def Zsh{f:FiD}(h:(scF f).num≠0):byF ⟨f.nm,f.su.take (segL (scF f)).length,f.lo.take ((segL (scF f)).length-f.su.length)⟩=segL (scF f):=by
 rw[byF_cut];exact WQ.1 (Zf2 h).2|>.symm
def Zuz(s:BA)(f:FiD):byF ⟨s,f.su++f.lo,[]⟩=byF f:=by unfold byF;simp
def Zfb{d a:DiD}{s:BA}(h:Za5 d s=(a,0)):d.er s s=0∧(∃f,d.get s=some f)∧a.fs=wout FiD.nm d.fs s∧a.rm=d.rm∧a.dn=d.dn:=by
 unfold Za5 at h
 split at h
 next g=>simp only[Prod.mk.injEq]at h;exact absurd h.2 g
 ·rename_i g;refine⟨by simpa using g,?_⟩
  split at h
  ·simp at h
  next f b=>exact⟨⟨f,b⟩,Zop h⟩
def Zkd{d a:DiD}{s:BA}{n:Int}(h:opCut d s n=(a,0)):d.er s s=0∧∃f,d.get s=some f∧0≤n∧n≤f.len∧a.fs=withB FiD.nm d.fs ⟨s,f.su.take n.toNat,f.lo.take (n.toNat-f.su.length)⟩∧a.rm=d.rm∧a.dn=d.dn:=by
 unfold opCut at h
 split at h
 next g=>simp only[Prod.mk.injEq]at h;exact absurd h.2 g
 ·rename_i g;refine⟨by simpa using g,?_⟩
  split at h
  ·simp at h
  next f b=>
   split at h
   ·simp at h
   next c=>have:=Zop h;exact⟨f,b,by omega,by omega,this⟩
def runS:DiD→List (DiD→DiD×Int)→DiD×Int
 |d,[]=>(d,0)
 |d,s::l=>if(s d).2≠0 then s d else runS (s d).1 l
def Zf3{d a:DiD}{s:DiD→DiD×Int}{l:List (DiD→DiD×Int)}(h:runS d (s::l)=(a,0)):∃b,s d=(b,0)∧runS b l=(a,0):=by
 rw[runS]at h
 split at h
 next g=>rw[h]at g;exact absurd rfl g
 next g=>have g:(s d).2=0:=(by simpa using g);exact⟨(s d).1,by rw[←g],h⟩
def Zke:∀(a b:List (DiD→DiD×Int)) {d c:DiD},runS d (a++b)=(c,0)→∃e,runS d a=(e,0)∧runS e b=(c,0)
 | [],b,d,c,h=>⟨d,rfl,h⟩
 |s::a,b,d,c,h=>by obtain⟨e,f,g⟩:=Zf3 h;obtain⟨i,j,k⟩:=Zke a b g;refine⟨i,?_,k⟩;rw[runS,f,if_neg (by simp)];exact j
structure Same(d d':DiD):Prop where
 srt:srt FiD.nm d'.fs
 kept:keptF d'.fs=keptF d.fs
 base:baseF d'.fs=baseF d.fs
 rm:d'.rm=d.rm
 dn:d'.dn=d.dn
def Same.trans{a b c:DiD}(h:Same a b)(k:Same b c):Same a c:=⟨k.srt,k.kept.trans h.kept,k.base.trans h.base,k.rm.trans h.rm,k.dn.trans h.dn⟩
theorem Same.refl{d:DiD}(h:Go.Px.srt FiD.nm d.fs):Same d d:=⟨h,rfl,rfl,rfl,rfl⟩
def srt_wout{l:List FiD}{s:BA}(h:srt FiD.nm l):srt FiD.nm (wout FiD.nm l s):=Yw _ h
def Zu5{l X Y:List FiD}{g f:FiD}(d:srt FiD.nm l)(e:segs l=X++g::Y)(a:g.nm=f.nm):segs (withB FiD.nm l f)=X++f::Y:=by
 have j:g∈l:=(List.mem_filter.1 (show g∈l.filter isSeg by rw[show l.filter isSeg=X++g::Y from e];simp)).1;rw[Zpe d ⟨g,j,a⟩,e,List.map_append,List.map_cons,if_pos a];have b:srt FiD.nm (segs l):=Yw _ d;rw[e]at b;obtain⟨k,h,i⟩:=List.pairwise_append.1 b;congr 1
 ·conv=>rhs;rw[←YW X]
  apply List.map_congr_left;intro x c;rw[if_neg (λq=>Zju (i x c g (by simp)) (q.trans a.symm))];rfl
 ·congr 1
  conv=>rhs;rw[←YW Y]
  apply List.map_congr_left;intro x c;rw[if_neg (λq=>Zju ((List.pairwise_cons.1 h).1 x c) (a.trans q.symm))];rfl
def Zxy:∀(k:Nat) (A B:List FiD) (d a:DiD),B.length=k→srt FiD.nm d.fs→segs d.fs=A++B→runS d ((B.map FiD.nm).reverse.map λs d=>Za5 d s)=(a,0)→segs a.fs=A∧Same d a:=by
 intro k
 induction k with
 |zero=>intro A B d a b c e h;have:B=[]:=Ys.1 b;subst this;simp only[List.map_nil,List.reverse_nil,runS,Prod.mk.injEq]at h;rw[←h.1];exact⟨by simpa using e,Same.refl c⟩
 |succ k r=>
  intro A B d a b c e h
  rcases Y1 B with rfl|⟨B,f,rfl⟩
  ·simp at b
  ·rw[List.concat_eq_append]at b e h;rw[List.map_append,List.reverse_append]at h;simp only[List.map_cons,List.map_nil,List.reverse_cons,List.reverse_nil,List.nil_append,List.singleton_append]at h;obtain⟨j,m,n⟩:=Zf3 h;obtain⟨_,_,e1,e2,o⟩:=Zfb m;have g:numS f.nm≠0:=Zbl f (by rw[e];simp);have i:srt FiD.nm j.fs:=by rw[e1];exact srt_wout c
   have l:segs j.fs=A++B:=(by rw[e1,Zqo,e,←List.append_assoc];refine Zqp ?_;rw[List.append_assoc,←e];exact Yw _ c);obtain⟨p,q⟩:=r A B j a (by simpa using b) i l n;refine⟨p,Same.trans ⟨i,?_,?_,e2,o⟩ q⟩
   ·rw[e1];exact(Zgr g).1
   ·rw[e1];exact(Zgr g).2
noncomputable def cutF(f:FiD):FiD:=if(segL (scF f)).length<f.len then⟨f.nm,f.su.take (segL (scF f)).length,f.lo.take ((segL (scF f)).length-f.su.length)⟩else f
def Zc7(f:FiD):(cutF f).nm=f.nm:=by unfold cutF;split<;>rfl
def Zon{f:FiD}(h:(scF f).num≠0):byF (cutF f)=segL (scF f):=by
 unfold cutF
 split
 ·exact Zsh h
 next g=>have a:=(Zf2 h).2;exact(a.eq_of_length (by have:=a.length_le;rw[Zhc]at this⊢;omega)).symm
noncomputable def cutS(p:Pt):List (DiD→DiD×Int):=if(segL p.d).length<p.n then[λd=>opCut d (segNm p.d.num) (segL p.d).length]else[]
def run_cut:∀(k:Nat) (A B C:List FiD) (d a:DiD),B.length=k→srt FiD.nm d.fs→segs d.fs=A++(B++C)→(∀f∈B,(scF f).num=numS f.nm)→runS d ((B.map (ptF scF)).reverse.flatMap cutS)=(a,0)→segs a.fs=A++(B.map cutF++C)∧Same d a:=by
 intro k
 induction k with
 |zero=>intro A B C d a j b e p h;have:B=[]:=Ys.1 j;subst this;simp only[List.map_nil,List.reverse_nil,WN,runS,Prod.mk.injEq]at h;rw[←h.1];exact⟨by simpa using e,Same.refl b⟩
 |succ k K=>
  intro A B C d a j b e p h
  rcases Y1 B with rfl|⟨B,f,rfl⟩
  ·simp at j
  ·rw[List.concat_eq_append]at j e h p⊢;rw[List.map_append,List.reverse_append]at h;simp only[List.map_cons,List.map_nil,List.reverse_cons,List.reverse_nil,List.nil_append,List.singleton_append,List.flatMap_cons]at h;obtain⟨q,m,y⟩:=Zke _ _ h;have n:numS f.nm≠0:=Zbl f (by rw[e];simp);have t:=p f (by simp)
   have u:segs q.fs=A++(B++(cutF f::C))∧Same d q:=by
    have v:segs d.fs=(A++B)++f::C:=(by rw[e];simp);unfold cutS at m
    split at m
    ·rename_i l;obtain⟨z,D,r⟩:=Zf3 m;simp only[runS,Prod.mk.injEq]at r;have r:z=q:=r.1;subst r;obtain⟨_,g,i,_,_,c,E,F⟩:=Zkd D;have w:segNm (ptF scF f).d.num=f.nm:=(by show segNm (scF f).num=f.nm;rw[t];exact Zfh n);rw[w]at i c;have x:f∈d.fs:=(List.mem_filter.1 (show f∈d.fs.filter isSeg by rw[show d.fs.filter isSeg=(A++B)++f::C from v];simp)).1;rw[Zg6 b x]at i
     cases i
     have o:cutF f=⟨f.nm,f.su.take ((segL (ptF scF f).d).length:Int).toNat,f.lo.take (((segL (ptF scF f).d).length:Int).toNat-f.su.length)⟩:=(by unfold cutF;rw[if_pos l];simp);rw[←o]at c;refine⟨?_,by rw[c];exact Zbn b,?_,?_,E,F⟩
     ·rw[c,Zu5 b v (Zc7 f).symm];simp
     ·rw[c];exact Zci (by rw[Zc7];exact n)
     ·rw[c];exact Zdr (by rw[Zc7];exact n)
    ·rename_i l;simp only[runS,Prod.mk.injEq]at m;rw[←m.1];have o:cutF f=f:=by unfold cutF;rw[if_neg l]
     rw[o,e];exact⟨by simp,Same.refl b⟩
   obtain⟨G,s⟩:=u;obtain⟨H,J⟩:=K A B (cutF f::C) q a (by simpa using j) s.srt G (λg i=>p g (by simp[i])) y;exact⟨by rw[H];simp,s.trans J⟩
def Zwr{c:FiD→Sc}:∀{a:List FiD} {g:FiD} {p:Option Sc},inRow c p (a++[g])→∀f∈a,(c f).sl=true
 | [],_,_,_,f,hf=>by cases hf
 |x::a,g,p,h,f,hf=>by
  obtain⟨_,_,b⟩:=h
  rcases List.mem_cons.1 hf with rfl|hf
  ·cases a with
   |nil=>exact b.2.1.1
   |cons y a=>exact b.2.1.1
  ·exact Zwr b f hf
def synS(r:List Pt):List (DiD→DiD×Int):=match r.getLast? with
 |none=>[]
 |some p=>if p.d.sl=true then[]else[λd=>Zaz d (segNm p.d.num)]
noncomputable def mendS(r:List Pt)(o:List BA):List (DiD→DiD×Int):=(o.reverse.map λs d=>Za5 d s)++(r.reverse.flatMap cutS++synS r)
noncomputable def menF(f:FiD):FiD:=if(scF f).sl=true then cutF f else⟨(cutF f).nm,(cutF f).su++(cutF f).lo,[]⟩
def Ztx(f:FiD):(menF f).nm=f.nm:=by unfold menF;split<;>exact Zc7 f
def menF_by{f:FiD}(h:(scF f).num≠0):byF (menF f)=segL (scF f):=by
 unfold menF
 split
 ·exact Zon h
 ·rw[Zuz];exact Zon h
def Zty{d c:DiD}(J:srt FiD.nm d.fs)(h:runS d (mendS (rowK d.fs).1 (rowK d.fs).2)=(c,0)):
  ∃p:List FiD,(rowK d.fs).1=p.map (ptF scF)∧inRow scF none p∧(∀f∈p,numS f.nm≠0)∧Same d c∧segs c.fs=p.map menF∧DkR c.fs (segs c.fs)∧rowK c.fs=(p.map ptW,[]):=by
 obtain⟨n,e,j,x⟩:=Zgq d.fs;rw[e]at h;refine⟨(segs d.fs).take n,by rw[e],j,λf b=>Zbl f (List.mem_of_mem_take b),?_⟩;obtain⟨y,K,L⟩:=Zke _ _ h;obtain⟨l,M,a⟩:=Zke _ _ L;obtain⟨N,z⟩:=Zxy ((segs d.fs).drop n).length ((segs d.fs).take n) ((segs d.fs).drop n) d y rfl J (List.take_append_drop n _).symm K;have k:=Zbi j;obtain⟨i,m⟩:=run_cut ((segs d.fs).take n).length [] ((segs d.fs).take n) [] y l rfl z.srt (by rw[N];simp) k M;have r:∀f∈(segs d.fs).take n,(scF f).num≠0:=λf b=>by rw[k f b];exact Zbl f (List.mem_of_mem_take b)
 have i:segs l.fs=((segs d.fs).take n).map cutF:=by rw[i];simp
 have D:segs c.fs=((segs d.fs).take n).map menF∧Same l c:=by
  rcases Y1 ((segs d.fs).take n)with q|⟨gs,g,q⟩
  ·rw[q]at a i⊢;simp only[synS,List.map_nil,List.getLast?_nil,runS,Prod.mk.injEq]at a;rw[←a.1,i];exact⟨rfl,Same.refl m.srt⟩
  ·rw[List.concat_eq_append]at q;rw[q]at a i j r k⊢;have E:=Zwr j;have F:gs.map menF=gs.map cutF:=(by apply List.map_congr_left;intro f b;unfold menF;rw[if_pos (E f b)]);rw[List.map_append]at i⊢;rw[F];unfold synS at a;rw[List.map_append]at a;simp only[List.map_cons,List.map_nil,List.getLast?_concat]at a i⊢;by_cases hg:(scF g).sl=true
   ·rw[if_pos (show(ptF scF g).d.sl=true from hg)]at a;simp only[runS,Prod.mk.injEq]at a;rw[←a.1,i];have:menF g=cutF g:=by unfold menF;rw[if_pos hg]
    rw[this];exact⟨rfl,Same.refl m.srt⟩
   ·rw[if_neg (show¬(ptF scF g).d.sl=true from hg)]at a;obtain⟨O,P,t⟩:=Zf3 a;simp only[runS,Prod.mk.injEq]at t;have t:O=c:=t.1;subst t;obtain⟨_,f,b,o,Q,R⟩:=Zf4 P;have v:numS g.nm≠0:=by rw[←k g (by simp)];exact r g (by simp)
    have u:segNm (ptF scF g).d.num=g.nm:=(by show segNm (scF g).num=g.nm;rw[k g (by simp)];exact Zfh v);rw[u]at b o;have G:cutF g∈l.fs:=(List.mem_filter.1 (show cutF g∈l.fs.filter isSeg by rw[show l.fs.filter isSeg=gs.map cutF++[cutF g]from i];simp)).1;have s:=Zg6 m.srt G;rw[Zc7,b]at s
    cases s
    have T:menF g=⟨g.nm,(cutF g).su++(cutF g).lo,[]⟩:=(by unfold menF;rw[if_neg hg,Zc7]);rw[←T]at o;have w:numS (menF g).nm≠0:=(by rw[Ztx];exact v);refine⟨?_,by rw[o];exact Zbn m.srt,by rw[o];exact Zci w,by rw[o];exact Zdr w,Q,R⟩;rw[o,Zl4 m.srt i (by rw[Zc7,Ztx])]
 obtain⟨A,C⟩:=D;have H:Same d c:=(z.trans m).trans C;refine⟨H,A,?_⟩;exact Zlb (h:=menF) C.srt A j x (λf b=>⟨Ztx f,menF_by (r f b)⟩) H.kept
def Zps{d a:DiD}(u:srt FiD.nm d.fs)(q:GoodR (rowK d.fs).1 (keptF d.fs) (baseF d.fs))(h:runS d (mendS (rowK d.fs).1 (rowK d.fs).2)=(a,0))(m n b:Int)(shut:Bool):
  anewJ a m n b shut=⟨a,m,n,(rowK d.fs).1.map sgOf,Zbp (rowK d.fs).1,stR (rowK d.fs).1 (keptF d.fs) (baseF d.fs),b,keptF d.fs,shut⟩∧Par (anewJ a m n b shut) (segs a.fs):=by
 obtain⟨c,e,w,v,l,x,s,i⟩:=Zty u h;have y:∀f∈c,True:=λ_ _=>trivial;rw[e]at q⊢;have o:(c.map ptW).map sgOf=(c.map (ptF scF)).map sgOf:=by rw[List.map_map,List.map_map];rfl
 have t:Zbp (c.map ptW)=Zbp (c.map (ptF scF)):=by
  rcases Y1 c with rfl|⟨gs,g,rfl⟩
  ·rfl
  ·rw[List.concat_eq_append,List.map_append,List.map_append];unfold Zbp;simp only[List.map_cons,List.map_nil,List.getLast?_concat];rfl
 have j:=Zcq s;rw[i]at j;have k:c.map ptW=(segs a.fs).map (ptF scF):=congrArg Prod.fst j;refine⟨?_,⟨s,?_,?_,?_,?_,?_,rfl⟩⟩
 ·unfold anewJ;rw[i,l.kept,l.base];simp only;rw[o,t,Zsg]
 ·show GoodR _ (keptF a.fs) (baseF a.fs);rw[←k,l.kept,l.base];exact Zqi q
 ·intro p r;rw[←k]at r;obtain⟨f,_,rfl⟩:=Y4.1 r;rfl
 ·show stR (rowK a.fs).1 _ _=stR _ (keptF a.fs) (baseF a.fs);rw[←k,i]
 ·show(rowK a.fs).1.map sgOf=_;rw[←k,i]
 ·show Zbp (rowK a.fs).1=_;rw[←k,i]
def dgs_D:∀(k n:Nat),∀c∈dgs k n,isD c
 |0,n,c,hc=>by cases hc
 |k+1,n,c,hc=>by
  rw[dgs]at hc
  rcases List.mem_append.1 hc with hc|hc
  ·exact dgs_D k _ c hc
  ·have:c=UInt8.ofNat (48+n%10):=(by simpa using hc);subst this;unfold isD;simp only[UInt8.toNat_ofNat'];omega
def Zo4(n:Int):fnB (segNm n)=true:=by
 have b:=Zcd n;have d:(segNm n).size=12:=(by have:(segNm n).data.toList.length=12:=(by rw[b,List.length_append,Zdn];rfl);rw[Array.length_toList]at this;exact this);unfold fnB;rw[d,b];simp only[Bool.and_eq_true,decide_eq_true_eq,List.all_eq_true];refine⟨by omega,λc a=>?_⟩;unfold fchr;rw[decide_eq_true_eq]
 rcases List.mem_append.1 a with a|a
 ·simp only[spre,List.mem_cons,YU,or_false]at a
  rcases a with rfl|rfl|rfl|rfl<;>decide
 ·have:=dgs_D _ _ c a;unfold isD at this;omega
def Zyo{l:List FiD}{g:FiD}(a:srt FiD.nm l)(b:g∈l):withB FiD.nm l g=l:=by
 obtain⟨i,c,rfl⟩:=List.mem_iff_getElem.1 b;rw[←Zgd a c rfl];simp
def sync_same{d:DiD}{g:FiD}(b:d.P)(c:d.dn=false)(hst:d.st= -1)(f:g∈d.fs)(h:fnB g.nm=true)(a:g.lo=[]):Zaz d g.nm=(d,0):=by
 unfold Zaz;rw[er_of b c h h,if_neg (by simp),Zg6 b.2.2.2 f]
 have e:(⟨g.nm,g.su++g.lo,[]⟩:FiD)=g:=by
  rw[a,List.append_nil]
  cases g
  simp at a;subst a;rfl
 show d.perf (withB FiD.nm d.fs ⟨g.nm,g.su++g.lo,[]⟩)=_;rw[e,Zyo b.2.2.2 f];unfold DiD.perf DiD.tick;rw[if_neg (by omega),if_neg (by omega)]
def Zyp{d:DiD}(j:d.P)(f:d.dn=false)(hst:d.st= -1)(h:DkR d.fs (segs d.fs))(b:∀p∈(segs d.fs).map (ptF scF),p.n=(segL p.d).length)(c:∀g,(segs d.fs).getLast?=some g→(scF g).sl=false→g.lo=[]):runS d (mendS (rowK d.fs).1 (rowK d.fs).2)=(d,0):=by
 rw[Zcq h];unfold mendS;have m:((segs d.fs).map (ptF scF)).reverse.flatMap cutS=[]:=(by apply List.flatMap_eq_nil_iff.2;intro p k;have:=b p (List.mem_reverse.1 k);unfold cutS;rw[if_neg (by omega)]);simp only[List.reverse_nil,List.map_nil,List.nil_append,m];unfold synS
 rcases Y1 (segs d.fs)with e|⟨gs,g,e⟩
 ·rw[e];rfl
 ·rw[List.concat_eq_append]at e;rw[e,List.map_append];simp only[List.map_cons,List.map_nil,List.getLast?_concat];by_cases hg:(scF g).sl=true
  ·rw[if_pos (show(ptF scF g).d.sl=true from hg)];rfl
  ·rw[if_neg (show¬(ptF scF g).d.sl=true from hg)];have i:g∈d.fs:=(List.mem_filter.1 (show g∈d.fs.filter isSeg by rw[show d.fs.filter isSeg=gs++[g]from e];simp)).1;obtain⟨r,s,b3,l⟩:=h.bytes b g (by rw[e];simp);have a:segNm (ptF scF g).d.num=g.nm:=(by show segNm (scF g).num=g.nm;rw[b3];exact Zfh l);have o:fnB g.nm=true:=(by rw[←a];exact Zo4 _);have q:=sync_same j f hst i o (c g (by rw[e];simp) (by simpa using hg));rw[runS,a,q];rfl
def run_P:∀(l:List (DiD→DiD×Int)) {d a:DiD} {k:Int},(∀s∈l,∀d:DiD,d.P→(s d).1.P)→d.P→runS d l=(a,k)→a.P
 | [],d,a,k,_,h,e=>by simp only[runS,Prod.mk.injEq]at e;rw[←e.1];exact h
 |s::l,d,a,k,hs,h,e=>by
  rw[runS]at e;have b:=hs s (by simp) d h
  split at e
  ·rw[e]at b;exact b
  ·exact run_P l (λt c=>hs t (by simp[c])) b e
def run_st:∀(l:List (DiD→DiD×Int)) {d a:DiD} {k:Int},(∀s∈l,∀d:DiD,(s d).1.st≤d.st)→runS d l=(a,k)→a.st≤d.st
 | [],d,a,k,_,e=>by simp only[runS,Prod.mk.injEq]at e;rw[←e.1];exact Int.le_refl _
 |s::l,d,a,k,hs,e=>by
  rw[runS]at e;have b:=hs s (by simp) d
  split at e
  ·rw[e]at b;exact b
  ·exact Int.le_trans (run_st l (λt c=>hs t (by simp[c])) e) b
def Zrh{r:List Pt}{o:List BA}{s:DiD→DiD×Int}(h:s∈mendS r o):(∃n,s=λd=>Za5 d n)∨(∃n k,s=λd=>opCut d n k)∨(∃n,s=λd=>Zaz d n):=by
 unfold mendS at h
 rcases List.mem_append.1 h with h|h
 ·obtain⟨n,_,rfl⟩:=Y4.1 h;exact .inl ⟨n,rfl⟩
 ·rcases List.mem_append.1 h with h|h
  ·obtain⟨p,_,a⟩:=List.mem_flatMap.1 h;unfold cutS at a
   split at a
   ·have:=List.mem_singleton.1 a;exact .inr (.inl ⟨_,_,this⟩)
   ·cases a
  ·unfold synS at h
   split at h
   ·cases h
   ·split at h
    ·cases h
    ·exact .inr (.inr ⟨_,List.mem_singleton.1 h⟩)
def mendS_P{r:List Pt}{o:List BA}:∀s∈mendS r o,∀d:DiD,d.P→(s d).1.P:=by
 intro s b d a
 rcases Zrh b with⟨n,rfl⟩|⟨n,k,rfl⟩|⟨n,rfl⟩
 ·exact Zi8 a
 ·exact Zo2 a
 ·exact Zib a
def mendS_st{r:List Pt}{o:List BA}:∀s∈mendS r o,∀d:DiD,(s d).1.st≤d.st:=by
 intro s a d
 rcases Zrh a with⟨n,rfl⟩|⟨n,k,rfl⟩|⟨n,rfl⟩
 ·exact Zlr
 ·exact Zvr
 ·exact Zq0
def Zyw{d a:DiD}(w:d.P)(x:d.dn=false)(hst:d.st= -1)(y:GoodR (rowK d.fs).1 (keptF d.fs) (baseF d.fs))(h:runS d (mendS (rowK d.fs).1 (rowK d.fs).2)=(a,0)):
  a.P∧a.dn=false∧a.st= -1∧(rowK a.fs).2=[]∧GoodR (rowK a.fs).1 (keptF a.fs) (baseF a.fs)∧(∀p∈(rowK a.fs).1,p.n=(segL p.d).length)∧runS a (mendS (rowK a.fs).1 (rowK a.fs).2)=(a,0)∧
   stR (rowK a.fs).1 (keptF a.fs) (baseF a.fs)=stR (rowK d.fs).1 (keptF d.fs) (baseF d.fs):=by
 obtain⟨z,e,A,u,b,C,D,c⟩:=Zty w.2.2.2 h;have i:=run_P _ mendS_P w h;have j:a.st= -1:=(by have J:=run_st _ mendS_st h;have K:=i.1.2.2.2;omega);have k:a.dn=false:=(by rw[b.dn];exact x);have l:=Zcq D;rw[c]at l;have H:z.map ptW=(segs a.fs).map (ptF scF):=congrArg Prod.fst l;have v:∀p∈(segs a.fs).map (ptF scF),p.n=(segL p.d).length:=by intro p m;rw[←H]at m;obtain⟨f,_,rfl⟩:=Y4.1 m;rfl
 have o:∀g,(segs a.fs).getLast?=some g→(scF g).sl=false→g.lo=[]:=(by intro g q r;rw[C,List.getLast?_map]at q;obtain⟨f,G,rfl⟩:=Option.map_eq_some_iff.1 q;have s:f∈z:=List.mem_of_getLast? G;have t:(scF f).num≠0:=(by rw[Zbi A f s];exact u f s);have E:=(Zf2 t).1;have F:scF (menF f)=scF f:=Zbo E (menF_by t);rw[F]at r;unfold menF;rw[if_neg (by rw[r];simp)]);refine⟨i,k,j,by rw[c],?_,?_,Zyp i k j D v o,?_⟩
 ·rw[c,b.kept,b.base];rw[e]at y;exact Zqi y
 ·rw[c];intro p m;obtain⟨f,_,rfl⟩:=Y4.1 m;rfl
 ·rw[c,b.kept,b.base,e];exact Zsg _ _ _
def follO(d:Sc):Option Sc→Prop
 |none=>True
 |some a=>foll d a
instance (d:Sc) (p:Option Sc):Decidable (follO d p):=by
 cases p with
 |none=>exact isTrue trivial
 |some a=>exact inferInstanceAs (Decidable (foll d a))
def rowN(a:FiD→Sc):Option Sc→List FiD→Nat
 |_,[]=>0
 |p,f::l=>if(a f).num=numS f.nm∧follO (a f) p then rowN a (some (a f)) l+1 else 0
def Ztf(a:FiD→Sc):∀(l:List FiD) (p:Option Sc),rowN a p l≤l.length
 | [],p=>Nat.le_refl _
 |f::l,p=>by
  unfold rowN;have:=Ztf a l (some (a f))
  split
  ·rw[List.length_cons];omega
  ·exact WA _
def Ztg(a:FiD→Sc):∀(l:List FiD) (p:Option Sc),inRow a p (l.take (rowN a p l))
 | [],p=>by simp[rowN,inRow]
 |f::l,p=>by
  unfold rowN
  split
  next h=>rw[List.take_succ_cons];exact⟨h.1,by cases p<;>exact h.2,Ztg a l _⟩
  ·exact trivial
def Zrb(b:FiD→Sc):∀(l:List FiD) (r:List Pt),(∀f∈l,numS f.nm≠0)→l.foldl (rstep b) (r,[])=(r++(l.take (rowN b (r.getLast?.map (·.d)) l)).map (ptF b),(l.drop (rowN b (r.getLast?.map (·.d)) l)).map FiD.nm)
 | [],r,_=>by simp
 |f::l,r,hn=>by
  rw[List.foldl_cons]
  have c:mayR b r [] f↔((b f).num=numS f.nm∧follO (b f) (r.getLast?.map (·.d))):=by
   unfold mayR follO
   cases r.getLast? with
   |none=>simp
   |some a=>simp
  by_cases hm:mayR b r [] f
  ·rw[show rstep b (r,[]) f=(r++[ptF b f],[])from by unfold rstep;rw[if_neg (hn f (by simp)),if_pos hm]];rw[Zrb b l (r++[ptF b f]) λg h=>hn g (by simp[h])];have e:rowN b (r.getLast?.map (·.d)) (f::l)=rowN b (some (b f)) l+1:=(by rw[rowN,if_pos (c.1 hm)]);rw[e,List.take_succ_cons,List.drop_succ_cons];simp
  ·rw[show rstep b (r,[]) f=(r,[]++[f.nm])from by unfold rstep;rw[if_neg (hn f (by simp)),if_neg hm]];have e:rowN b (r.getLast?.map (·.d)) (f::l)=0:=(by rw[rowN,if_neg (λq=>hm (c.2 q))]);rw[e,Zlo b l r _ (λg h=>hn g (by simp[h])) (by simp)];simp
def Zys(l:List FiD):rowsD scF l=(((segs l).take (rowN scF none (segs l))).map (ptF scF),((segs l).drop (rowN scF none (segs l))).map FiD.nm):=by
 unfold rowsD;rw[Zca,Zrb scF _ [] Zbl];simp
def Zrc(a:FiD→Sc):∀(l:List FiD) (p:Option Sc) (m:Nat),rowN a p (l.take m)=min (rowN a p l) m
 | [],p,m=>by simp[rowN]
 |f::l,p,0=>by simp[rowN]
 |f::l,p,m+1=>by
  rw[List.take_succ_cons,rowN,rowN]
  split
  ·rw[Zrc a l _ m];omega
  ·simp
def Zpd:∀(gs:List FiD) (g:FiD) (p:Option Sc),inRow scF p (gs++[g])→(∀f∈gs++[g],numS f.nm≠0)→∀f∈gs++[g],(scF f).s≤(scF g).s
 | [],g,p,h,hn,f,hf=>by have:f=g:=(by simpa using hf);subst this;exact Int.le_refl _
 |x::gs,g,p,h,hn,f,hf=>by
  obtain⟨_,_,h3⟩:=h
  rcases List.mem_cons.1 hf with rfl|hf
  ·-- the part behind begins where this one ends
   have key:∀y l',gs++[g]=y::l'→(scF f).s≤(scF y).s:=by
    intro y l' e;have h3':inRow scF (some (scF f)) (gs++[g]):=h3;rw[e]at h3';obtain⟨y1,y2,_⟩:=h3';have hy0:(scF y).num≠0:=by rw[y1];exact hn y (by rw[List.cons_append,e];simp)
    have hok:=(Zf2 hy0).1;have h5:=Zmc _ _ _ _ (hok.evs hy0);have h6:=hok.fin hy0;simp only[Wt]at h6;rw[←h6.1]at h5;have h7:(scF y).bs=(scF f).s:=y2.2.2.1;omega
   cases gs with
   |nil=>exact key g [] rfl
   |cons y gs=>have h1:=key y (gs++[g]) rfl;have h2:=Zpd (y::gs) g (some (scF f)) h3 (λz hz=>hn z (by simp at hz⊢;exact .inr hz)) y (by simp);exact Int.le_trans h1 h2
  ·exact Zpd gs g (some (scF x)) h3 (λz hz=>hn z (by simp at hz⊢;exact .inr hz)) f hf
noncomputable def nK(l:List FiD):Nat:=match((segs l).take (rowN scF none (segs l))).getLast? with
 |none=>rowN scF none (segs l)
 |some g=>if(scF g).s<keptF l then 0 else rowN scF none (segs l)
def nK_le(l:List FiD):nK l≤(segs l).length:=by
 have:=Ztf scF (segs l) none;unfold nK
 split
 ·exact this
 ·split
  ·exact WA _
  ·exact this
def Zpj(l:List FiD):rowK l=(((segs l).take (nK l)).map (ptF scF),((segs l).drop (nK l)).map FiD.nm):=by
 have b:=Ztg scF (segs l) none;unfold rowK nK;rw[Zys,List.getLast?_map]
 cases hg:((segs l).take (rowN scF none (segs l))).getLast? with
 |none=>rfl
 |some g=>
  simp only[YC];by_cases hk:(scF g).s<keptF l
  ·rw[if_pos hk,if_pos (show(ptF scF g).d.s<keptF l from hk)];have e:(((segs l).take (rowN scF none (segs l))).map (ptF scF)).map (λp=>segNm p.d.num)=((segs l).take (rowN scF none (segs l))).map FiD.nm:=(by rw[List.map_map];apply List.map_congr_left;intro f a;show segNm (scF f).num=f.nm;rw[Zbi b f a];exact Zfh (Zbl f (List.mem_of_mem_take a)));rw[e,←List.map_append,List.take_append_drop];simp
  ·rw[if_neg hk,if_neg (show¬(ptF scF g).d.s<keptF l from hk)]
def nK_take{l b:List FiD}{m:Nat}(j:segs b=(segs l).take m)(k:keptF b=keptF l)(v:nK l≤m):nK b=nK l:=by
 have h:rowN scF none (segs b)=min (rowN scF none (segs l)) m:=(by rw[j,Zrc]);have o:=Ztg scF (segs l) none;have c:(segs b).take (rowN scF none (segs b))=(segs l).take (min (rowN scF none (segs l)) m):=by rw[h,j,List.take_take];congr 1;omega
 cases hg:((segs l).take (rowN scF none (segs l))).getLast? with
 |none=>have a:nK l=rowN scF none (segs l):=(by unfold nK;rw[hg]);have e1:min (rowN scF none (segs l)) m=rowN scF none (segs l):=(by omega);unfold nK at a⊢;rw[c,e1,hg,h,e1]
 |some g=>
  by_cases hs:(scF g).s<keptF l
  ·have a:nK l=0:=(by unfold nK;rw[hg];exact if_pos hs);rw[a];unfold nK;rw[c]
   cases hg':((segs l).take (min (rowN scF none (segs l)) m)).getLast? with
   |none=>simp only;have u:(segs l).take (min (rowN scF none (segs l)) m)=[]:=WI.1 hg';have d:=congrArg List.length u;have p:=Ztf scF (segs l) none;rw[List.length_take]at d;simp only[Y5]at d;rw[h];omega
   |some q=>
    simp only;obtain⟨n,e⟩:=WH.1 hg
    have i:q∈n++[g]:=by
     rw[←e];have d:=List.mem_of_getLast? hg';have p:(segs l).take (min (rowN scF none (segs l)) m)=((segs l).take (rowN scF none (segs l))).take m:=by rw[List.take_take];congr 1;omega
     rw[p]at d;exact List.mem_of_mem_take d
    have r:=Zpd n g none (by rw[←e];exact o) (λf t=>Zbl f (List.mem_of_mem_take (by rw[e];exact t))) q i;rw[if_pos (by rw[k];omega)]
  ·have a:nK l=rowN scF none (segs l):=(by unfold nK;rw[hg];exact if_neg hs);have e1:min (rowN scF none (segs l)) m=rowN scF none (segs l):=(by omega);rw[a];unfold nK;rw[c,e1,hg];simp only;rw[if_neg (by rw[k];exact hs),h,e1]
def rowK_take{l a:List FiD}{m:Nat}(b:segs a=(segs l).take m)(c:keptF a=keptF l)(d:nK l≤m):rowK a=(((segs l).take (nK l)).map (ptF scF),(((segs l).take m).drop (nK l)).map FiD.nm):=by
 rw[Zpj,nK_take b c d,b,List.take_take];congr 3;omega

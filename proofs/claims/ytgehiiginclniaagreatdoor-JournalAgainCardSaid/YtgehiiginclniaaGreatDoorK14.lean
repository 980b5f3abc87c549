import Derived.Test.YtgehiiginclniaaGreatDoorK13
set_option linter.all false
set_option maxRecDepth 100000
namespace Go.Proofs.YtgehiiginclniaaGreatDoor
namespace Jou
open Go Go.Px Go.Proofs Cod Seg Sgr Snp Sx Row Dsk Tryz
theorem Zna:∀(l:List UInt8) (j a:Nat),(∀c∈l,isD c)→a<10^j→j+l.length≤8→Lib.parseUintM (2^64-1) a l= .ok (l.foldl (λn c=>10*n+(c.toNat-48)) a)
 | [],_,_,_,_,_=>rfl
 |c::l,j,a,h,ha,hj=>by have b:=h c (by simp);unfold isD at b;simp only[List.length_cons]at hj;have f:(10:Nat)^(j+1)≤10^8:=Nat.pow_le_pow_right (by omega) (by omega);have g:(10:Nat)^(j+1)=10^j*10:=Nat.pow_succ ..;have i:(10:Nat)^8=100000000:=rfl;rw[Lib.parseUintM,if_pos b,if_neg (by omega),if_neg (by omega)];have:=Zna l (j+1) (a*10+(c.toNat-48)) (λd e=>h d (by simp[e])) (by omega) (by omega);rw[this,List.foldl_cons,show 10*a+(c.toNat-48)=a*10+(c.toNat-48) by omega]
theorem parse8{l:List UInt8}(h:∀c∈l,isD c)(a:l.length=8):Lib.parseIntB 64 l= .ok ((vD l:Nat):Int):=by
 have b:=Zna l 0 0 h (by simp) (by omega);have d:=vD_lt l h;rw[a]at d
 cases l with
 |nil=>simp at a
 |cons c r=>
  have f:=h c (by simp);unfold isD at f;have e:Lib.parseUintB 64 (c::r)= .ok (vD (c::r)):=(by unfold Lib.parseUintB;rw[if_neg (by simp)];exact b);unfold Lib.parseIntB
  dsimp only
  rw[if_neg (by omega),e]
  dsimp only
  rw[if_neg (by omega),if_neg (by omega),if_neg (by omega)]
theorem Zox{s:ByteArray}(h:numS s≠0):s.data.toList.take 4=spre∧(s.data.toList.drop 4).length=8∧(∀c∈s.data.toList.drop 4,isD c)∧((vD (s.data.toList.drop 4):Nat):Int)=numS s:=by
 obtain⟨b,d⟩:=Zc4 h;have e:s.data.toList=spre++dgs 8 (numS s).toNat:=(by rw[←Zcb,←d]);rw[e];refine⟨rfl,by simp[Zdm],λc a=>Ztb _ _ c (by simpa using a),?_⟩;have:=Zuh b;rw[Zcb]at this;exact this
theorem Zvd{a b:ByteArray}:(a.toList==b.toList)=decide (a=b):=by
 by_cases h:a=b
 ·simp[h]
 ·have:a.toList≠b.toList:=λe=>h ((Zer _ _).1 e);simp[h,this]
theorem scutG_fn(s p:ByteArray):Ct prog 178 {} [S s,S p] (λr=>r=if s.data.toList.take p.data.toList.length=p.data.toList then[S (ssub s (slen p) (slen s)),B true]else[S s,B false]):=by
 have c:=Zhd s;have a:=Zhd p;refine Ztu (Cl.ofQ (Zpr s p (λr=>r=if s.data.toList.take p.data.toList.length=p.data.toList then[S (ssub s (slen p) (slen s)),B true]else[S s,B false]) ?_) ?_)
 ·have b:Ct prog 295 {} [S s,S p] (λr=>r=[B (decide (s.data.toList.take p.data.toList.length=p.data.toList))]):=by
   refine Zt4 (Zaa (λh=>⟨⟨by omega,by omega,by simp only[ige_eq,decide_eq_true_eq]at h;omega⟩,?_⟩) (λh=>?_))
   ·rw[seq_bl,Zpc,a,Int.toNat_natCast];rfl
   ·have:¬s.data.toList.take p.data.toList.length=p.data.toList:=λe=>by have:=congrArg List.length e;simp only[ige_eq,decide_eq_false_iff_not]at h;simp only[List.length_take]at this;omega
    rw[decide_eq_false this]
  refine Cl.of b ⟨_,rfl,Zaa (λh=>?_) (λh=>⟨⟨by omega,?_,by omega⟩,?_⟩)⟩
  ·rw[if_neg (by simpa using h)]
  ·simp only[bnot,Yw,decide_eq_true_eq]at h;have:=congrArg List.length h;simp only[List.length_take]at this;omega
  ·rw[if_pos (by simpa using h)]
 ·rintro r rfl
  split
  ·exact⟨_,_,rfl,rfl⟩
  ·exact⟨_,_,rfl,rfl⟩
theorem jnum_fn(s:ByteArray):Ct prog 179 {} [S s] (λr=>r=[I (numS s)]):=by
 have D:(bA [115,101,103,46]).data.toList=spre:=rfl;have E:slen (bA [115,101,103,46])=4:=(by decide);have F:=Zhd s
 have zero:(s.data.toList.take 4≠spre∨(s.data.toList.drop 4).length≠8∨(∃c∈s.data.toList.drop 4,¬isD c))→numS s=0:=λh=>Classical.byContradiction λq=>by
  obtain⟨a,b,c,_⟩:=Zox q
  rcases h with h|h|⟨x,n,h⟩
  ·exact h a
  ·exact h b
  ·exact h (c x n)
 refine jnum_nf (Cl.of (scutG_fn s _) ?_);rw[D,E,show spre.length=4 from rfl];by_cases hp:s.data.toList.take 4=spre
 rotate_left
 ·rw[if_neg hp];exact⟨_,_,rfl,Zaa (λ_=>by rw[zero (.inl hp)]) (λh=>by simp at h)⟩
 rw[if_pos hp];generalize hd:ssub s 4 (slen s)=d;have g:d.data.toList=s.data.toList.drop 4:=(by rw[←hd,Zpc,F,Int.toNat_natCast,Yb];rfl);have H:=Zhd d;refine⟨_,_,rfl,Zaa (λh=>?_) (λh=>?_)⟩
 ·have:(s.data.toList.drop 4).length≠8:=(by rw[←g];simp at h;intro e;rw[←Zc3]at e;omega);rw[zero (.inr (.inl this))]
 have l:(s.data.toList.drop 4).length=8:=(by rw[←g,←Zc3];simp at h;omega);have t:d.size≤281474976710656:=by rw[Zc3,g,l];omega
 have m:∀x:Int,(∀u,Lib.parseIntB 64 d.data.toList= .ok u→u=x)→(Lib.parseIntB 64 d.data.toList= .ok x∨∀u,Lib.parseIntB 64 d.data.toList≠ .ok u)→(1≤x→nmG x=s→numS s=x)∧(numS s≠0→numS s=x):=λx f J=>by
  have w:numS s≠0→numS s=x:=λq=>by obtain⟨_,b,c,e⟩:=Zox q;have:=parse8 c b;rw[←g]at this;rw[←e,←g];exact f _ this
  refine⟨λn k=>?_,w⟩;have j:inN x:=Classical.byContradiction λq=>by rw[nmG_no q]at k;rw[←k]at l;simp at l
  rw[←k,Zgt j,Zui j]
 have fin:∀x:Int,(1≤x→nmG x=s→numS s=x)∧(numS s≠0→numS s=x)→ifB (bpick false true (ilt x 1)) ([I 0]=[I (numS s)]) (Cl prog 88 sP [I x] (λo=>ej2 o λz=>(ifB (sne z s) ([I 0]=[I (numS s)]) ([I x]=[I (numS s)])))):=λx ⟨A,C⟩=>by
  have y:¬(1≤x∧nmG x=s)→numS s=0:=λq=>Classical.byContradiction λr=>by have e:=C r;obtain⟨a,b⟩:=Zc4 r;rw[e]at a b;exact q ⟨a.1,by rw[Zgt a];exact b.symm⟩
  refine Zaa (λh=>?_) (λh=>Cl.of (Zc9 x) ⟨_,rfl,Zaa (λf=>?_) (λf=>?_)⟩)
  ·simp at h;rw[y (by omega)]
  ·have f:nmG x≠s:=(by rw[sne_eq,Zvd]at f;simpa using f);rw[y (λq=>f q.2)]
  ·have f:nmG x=s:=(by rw[sne_eq,Zvd]at f;simpa using f);simp at h;rw[A (by omega) f]
 refine Cl.ofQ (pint_fn d t) ?_;rintro r ⟨v,e,rfl,⟨f,rfl⟩|⟨f,rfl⟩⟩
 ·refine⟨v,true,?_⟩;show _∧_;exact⟨rfl,rfl,fin v (m v (λu p=>by rw[f]at p;cases p;rfl) (.inl f))⟩
 ·refine⟨v,false,?_⟩;show∃i:TypeId,_;have G:numS s=0:=Classical.byContradiction λq=>by obtain⟨_,b,c,e⟩:=Zox q;have:=parse8 c b;rw[←g]at this;exact f _ this
  refine⟨_,rfl,rfl,Zaa (λ_=>by rw[G]) (λh=>by simp[Zhy]at h)⟩
structure PtK(p:Pt):Prop where
 ok:ScOK p.d
 num:inN p.d.num
 n:p.n≤65536
 le:(segL p.d).length≤p.n
theorem PtK.ne{p:Pt}(h:PtK p):p.d.num≠0:=by have:=h.num.1;omega
theorem PtK.bs{p:Pt}(h:PtK p):ctxOK p.d.bs p.d.ba:=(h.ok.head h.ne).2
theorem PtK.s{p:Pt}(h:PtK p):ctxOK p.d.s p.d.a:=by
 have:=Zoa p.d.ev p.d.bs p.d.ba [] h.bs (h.ok.evs h.ne);rw[←h.ok.fin h.ne]at this;exact this
theorem jfol_fn(p a:Pt)(b:inN a.d.num):Ct prog 181 {} [.agg (ptRow p),.agg (ptRow a)] (λr=>r=[B (decide (foll p.d a.d))]):=by
 refine Zsl ?_;rw[Zac (by have:=b.1;omega) (by have:=b.2;omega)];unfold foll;congr 2;simp[Zmz];rw[Bool.eq_iff_iff];simp[and_assoc];exact decide_eq_true_iff.symm
theorem byF_iU(f:FiD):byF f=iU (f.su++f.lo):=rfl
theorem read_at{d:DiD}(a:d.P)(b:d.dn=false){i:Nat}(c:i<d.fs.length):Zib d d.fs[i].nm=(d.fs[i].su++d.fs[i].lo,0):=by
 have e:=a.2.2.1 _ (List.getElem_mem c);unfold Zib;rw[if_neg (by rw[er_ok a b e e];simp),Snp.get_at a c]
theorem Zl1(a:FiD→Sc)(l:List FiD)(f:FiD):rowsD a (l++[f])=rstep a (rowsD a l) f:=by
 unfold rowsD;rw[List.foldl_append];rfl
theorem jrows_fn(d:DiD)(X:d.ok)(F:d.P)(H:d.dn=false):Ct prog 112 {} [d.sv] (λr=>r=[SL 11 (ptR (rowsD scF d.fs).1),SL 1 (nR (rowsD scF d.fs).2)]∧∀p∈(rowsD scF d.fs).1,PtK p):=by
 have Y:=F.1.1;refine jrows_nf (Cl.of (Zvu d (by omega)) ⟨_,rfl,?_⟩);have L:rlen (nR (d.fs.map FiD.nm))=d.fs.length:=by simp[rlen]
 dsimp only
 rw[L];refine⟨λJ K x=>0≤x∧x≤d.fs.length∧∃R O,J=ptR R∧K=nR O∧rowsD scF (d.fs.take x.toNat)=(R,O)∧R.length≤x∧O.length≤x∧∀p∈R,PtK p,λ_ _ x=>(d.fs.length-x).toNat,⟨by omega,by omega,[],[],rfl,rfl,rfl,by simp,by simp,by simp⟩,?_⟩;rintro J K x ⟨x0,hx,R,O,rfl,rfl,he,hR,hO,hK⟩;refine Zaa (λh=>?_) (λh=>?_)
 rotate_left
 ·simp at h;have e:x.toNat=d.fs.length:=(by omega);rw[e,Yb]at he;rw[he];exact⟨rfl,hK⟩
 simp at h;have t:x.toNat<d.fs.length:=(by omega);have Z:wadd IntKind.i64 x 1=x+1:=Zac (by omega) (by omega);have u:d.fs.take (x+1).toNat=d.fs.take x.toNat++[d.fs[x.toNat]]:=(by rw[show(x+1).toNat=x.toNat+1 by omega,List.take_succ_eq_append_getElem t]);have v:Nat.le (Nat.succ (d.fs.length-(x+1)).toNat) (d.fs.length-x).toNat:=mlt (by omega);rw[Z];refine⟨inM _ x0 (by simpa using h),d.fs[x.toNat].nm,(Za9 _ _ x x0 (by simpa using h)).trans (by simp),Cl.of (jnum_fn _) ⟨_,rfl,Zaa (λi=>⟨rfl,⟨by omega,by omega,R,O,rfl,rfl,?_,by omega,by omega,hK⟩,v⟩) (λi=>Cl.of (Zt9 d X _) ⟨_,_,rfl,?_⟩)⟩⟩
 ·simp at i;rw[u,Zl1,he];unfold rstep;rw[if_pos i]
 simp at i;rw[read_at F H t];refine Zaa (λj=>by simp at j) (λ_=>?_);have M:(d.fs[x.toNat].su++d.fs[x.toNat].lo).length≤65536:=Zvi F t;have N:=iU_byts (d.fs[x.toNat].su++d.fs[x.toNat].lo)
 dsimp only
 rw[uR_bR];refine Cl.ofQ (Zug _ N (by simp only[List.length_map];omega)) ?_;rintro r ⟨sc,st,rfl,hr⟩;have c:scF d.fs[x.toNat]=sc:=scF_eq (by rw[byF_iU];exact hr);have w:=hr.pre.length_le;refine⟨_,_,_,_,_,_,_,_,_,_,rfl,⟨by omega,by omega,by have:=w;simp only[rlen_eq,List.length_map]at this⊢;omega⟩,?_⟩;have G:rsub (bR (iU (d.fs[x.toNat].su++d.fs[x.toNat].lo))) 0 ((segL sc).length:Nat)=bR (segL sc):=(by rw[Zhp];simp only[Int.toNat_natCast,Int.toNat_zero,List.drop_zero];rw[←WH.1 hr.pre]);rw[G];have Q:Byts (segL sc):=λy n=>N y (hr.pre.subset n);refine Cl.ofQ (Zug _ Q (by have:=w;simp only[List.length_map]at this;omega)) ?_;rintro r ⟨sc2,st2,rfl,hr2⟩;obtain⟨rfl,rfl⟩:=hr2.whole hr.ok;have C:ptRow (ptF scF d.fs[x.toNat])=[I sc2.num,I sc2.bs,I sc2.ba,SL 1 [],SL 7 (evR sc2.ev),I sc2.s,I sc2.a,SL 1 (nR sc2.m),I (endW 1 sc2.sl),I ((segL sc2).length:Nat),I (rlen (bR (iU (d.fs[x.toNat].su++d.fs[x.toNat].lo))))]:=(by show ptRow ⟨scF d.fs[x.toNat],d.fs[x.toNat].len⟩=_;rw[c];simp[ptRow,FiD.len]);have T:inN (numS d.fs[x.toNat].nm):=(Zc4 i).1
 have D:mayR scF R O d.fs[x.toNat]→0≤x+1∧x+1≤d.fs.length∧∃f k,rapp (ptR R) [ptRow (ptF scF d.fs[x.toNat])]=ptR f∧nR O=nR k∧rowsD scF (d.fs.take (x+1).toNat)=(f,k)∧f.length≤x+1∧k.length≤x+1∧∀p∈f,PtK p:=λn=>by
  refine⟨by omega,by omega,R++[ptF scF d.fs[x.toNat]],O,by simp[rapp],rfl,?_,by simp;omega,by omega,?_⟩
  ·rw[u,Zl1,he];unfold rstep;rw[if_neg i,if_pos n]
  ·intro p o
   rcases List.mem_append.1 o with o|o
   ·exact hK p o
   ·have:p=ptF scF d.fs[x.toNat]:=(by simpa using o);subst this;refine⟨by show ScOK (scF _);rw[c];exact hr.ok,?_,by show d.fs[x.toNat].len≤_;unfold FiD.len;simpa using M,by show(segL (scF _)).length≤d.fs[x.toNat].len;rw[c];unfold FiD.len;simpa using w⟩;show inN (scF _).num;rw[n.2.1];exact T
 have no:¬mayR scF R O d.fs[x.toNat]→0≤x+1∧x+1≤d.fs.length∧∃f k,ptR R=ptR f∧rapp (nR O) [[S d.fs[x.toNat].nm]]=nR k∧rowsD scF (d.fs.take (x+1).toNat)=(f,k)∧f.length≤x+1∧k.length≤x+1∧∀p∈f,PtK p:=λn=>by refine⟨by omega,by omega,R,O++[d.fs[x.toNat].nm],rfl,by simp[rapp],?_,by omega,by simp;omega,hK⟩;rw[u,Zl1,he];unfold rstep;rw[if_neg i,if_neg n]
 have U:rlen (ptR R)=R.length:=(by simp);have a0:rlen (nR O)=O.length:=(by simp);refine⟨_,_,_,_,_,_,_,_,_,_,rfl,?_⟩
 dsimp only
 rw[←C];refine Zaa (λj=>?_) (λj=>Zaa (λb=>?_) (λb=>?_))
 ·simp at j;obtain⟨⟨l,g⟩,A⟩:=j;have z:R.length-1<R.length:=(by omega);have ew:wsub IntKind.i64 (rlen (ptR R)) 1=((R.length-1:Nat):Int):=by rw[U,Zar (by omega) (by omega)];omega
  have V:R.getLast?=some R[R.length-1]:=(by rw[List.getLast?_eq_getElem?];simp[z]);have E:mayR scF R O d.fs[x.toNat]↔foll (scF d.fs[x.toNat]) R[R.length-1].d:=(by unfold mayR;rw[V,c];exact⟨λq=>q.2.2,λq=>⟨by simpa using l,g,q⟩⟩);rw[ew];refine⟨inM _ (by omega) (by omega),inM _ (by omega) (by omega),_,_,_,_,_,_,_,_,_,_,_,Zfu z,?_⟩;have W:=jfol_fn (ptF scF d.fs[x.toNat]) R[R.length-1] (hK _ (List.getElem_mem z)).num;rw[C]at W;refine Cl.of W ⟨_,rfl,Zaa (λb=>⟨by simp;omega,rfl,D (E.2 (by simpa using b)),v⟩) (λb=>⟨by simp;omega,rfl,no (λq=>by simp at b;exact b (E.1 q)),v⟩)⟩
 ·simp at j b;obtain⟨l,g⟩:=b
  have A:R=[]:=by
   rcases YL R.length with e|e
   ·exact List.length_eq_zero_iff.1 e
   ·have:=j l g;omega
  exact⟨by simp;omega,rfl,D ⟨by simpa using l,by rw[c];exact g,by rw[A];trivial⟩,v⟩
 ·simp at b;refine⟨by simp;omega,rfl,no (λq=>b (by simpa using q.1) (by rw[←c];exact q.2.1)),v⟩
end Jou
namespace Sx
open Go Go.Px Go.Proofs Cmp Tryz
theorem new_P{nm:ByteArray}{b a:Int}(c:namB nm=true)(k:1≤b∧b≤3)(d:timP a):(newC nm b a).1.P:=by
 unfold newC;rw[if_neg (by simp[c]),if_neg (by omega),if_neg (by simp[d])];have z:heldP 0:=(by decide);have e:hisP 0 0 0 0 0 0 0 0 0 0:=(by decide);have f:bktP 10 10:=(by decide);by_cases h:b=1
 ·rw[if_pos h];have g:=Znu d (w:=10) (by omega);have i:Zfl (zer 4):=Zke 4
  have j:winP 10 (a/10) (zer 4):=⟨by decide,g,by decide,i⟩
  exact P1 c ⟨z,z,z⟩ h ⟨⟨(by decide:(0:Int)≤0∧(0:Int)≤2),j⟩,e,rfl,rfl⟩
 ·rw[if_neg h];by_cases h':b=2
  ·exact P2 c ⟨z,z,z⟩ h' ⟨⟨⟨rfl,rfl,rfl,rfl⟩,⟨rfl,rfl,rfl,rfl,rfl,rfl,rfl,rfl,rfl⟩,rfl⟩,f⟩
  ·exact P3 c ⟨z,z,z⟩ (show b=3 by omega) ⟨⟨(by decide:(0:Int)≤0∧(0:Int)≤2147483647),rfl,rfl,rfl⟩,e,f⟩
theorem nxt_P{d:StD}{e:EvD}(m:MayS d e):(nxtS d e).P:=by
 unfold nxtS;by_cases hk:e.k=1
 ·rw[if_pos hk];obtain⟨_,a,h,b,_⟩:=chkE_zero m.chk;have l:lo1 e.k=1:=(by simp[lo1,hk]);have n:hi1 e.k=3:=(by simp[hi1,hk]);exact new_P (by unfold namB;rw[decide_eq_true a]) (by omega) b
 ·rw[if_neg hk];obtain⟨i,c,f,j,g⟩:=m.old hk;rw[f,Ziz c];exact tell_P (Zov.1 g)
theorem app_P{d:StD}{e:EvD}(h:(appS d e).2=0):(appS d e).1.P∧(appS d e).1.q=d.q+1∧d.t≤(appS d e).1.t:=by
 obtain⟨g,i⟩:=Zud h;have m:=Zh3 g;obtain⟨_,_,_,b,f⟩:=chkE_zero m.chk;have j:=m.p.1.1;rw[i];refine⟨⟨⟨?_,f.1,f.2,b.1,b.2⟩,λc a=>?_,Zbn m.p.2.2⟩,m.sq,m.tm⟩
 ·show(withB CoD.nm d.cs (nxtS d e)).length≤12;rw[Zz7 m]
  split
  ·have:=(m.new (by assumption)).2;omega
  ·omega
 ·rcases Zc0.1 a with rfl|⟨a,_⟩
  ·exact nxt_P m
  ·exact m.p.2.1 c a
theorem fold_P:∀(l:List EvD) {d:StD},d.P→(foldS d l).1.P∧(foldS d l).1.q=d.q+(foldS d l).2.1∧d.t≤(foldS d l).1.t
 | [],d,h=>⟨h,by simp[foldS],Int.le_refl _⟩
 |e::l,d,h=>by
  rw[Zz8]
  split
  ·exact⟨h,by simp,Int.le_refl _⟩
  ·rename_i a;have a:(appS d e).2=0:=(by simpa using a);obtain⟨b,c,f⟩:=app_P a;obtain⟨g,i,j⟩:=fold_P l b;refine⟨g,?_,Int.le_trans f j⟩
   dsimp only
   rw[i,c];omega
end Sx
namespace Li
open Go Go.Px Go.Proofs Cmp Sx Tryz
deriving instance DecidableEq for EvD
structure LiD where
 ev:List EvD
 s:StD
 fr:Int
 sh:Bool
deriving DecidableEq
abbrev LiD.sv(l:LiD):SV:=.agg [SL 7 (eR l.ev),SL 21 (coR l.s.cs),I l.s.q,I l.s.t,I l.fr,B l.sh]
def evP(l:LiD)(i:Nat)(h:i<l.ev.length):Prop:=(chkE l.ev[i]=0∧l.ev[i].s=l.fr+1+i)∧(0<i→(l.ev[i-1]'(by omega)).a≤l.ev[i].a)
instance (l:LiD) (i:Nat) (h:i<l.ev.length):Decidable (evP l i h):=inferInstanceAs (Decidable (_∧_))
def LiD.P(l:LiD):Prop:=(l.s.P∧0≤l.fr∧l.fr≤l.s.q∧(l.ev.length:Int)=l.s.q-l.fr)∧(∀i,∀h:i<l.ev.length,evP l i h)∧(∀h:0<l.ev.length,(l.ev[l.ev.length-1]'(by omega)).a=l.s.t)
instance (l:LiD):Decidable l.P:=inferInstanceAs (Decidable (_∧_∧_))
def numE(e:EvD)(q:Int):EvD:={e with s:=q+1}
def apL(l:LiD)(e:EvD):LiD×Int:=
 if¬l.P then(l,1)else if(appS l.s (numE e l.s.q)).2≠0 then(l,(appS l.s (numE e l.s.q)).2)else if l.sh=true then(l,13)
 else(⟨l.ev++[numE e l.s.q],(appS l.s (numE e l.s.q)).1,l.fr,l.sh⟩,0)
def drL(l:LiD)(n:Int):LiD×Int:=
 if¬l.P∨l.s.q<n then(l,1)else if l.fr<n then({l with ev:=l.ev.drop (n-l.fr).toNat,fr:=n},0)else(l,0)
def behL(l:LiD)(n:Int):List EvD:=if¬l.P then[]else l.ev.filter λe=>decide (n<e.s)
def shutL(l:LiD):LiD:={l with sh:=true}
abbrev li6(ev rows:List (List SV))(q t fr:Int)(a:Bool):SV:=.agg [SL 7 ev,SL 21 rows,I q,I t,I fr,B a]
def SgT:FuncId→Sig:=(λf=>bif Nat.beq f 100 then⟨[],[.own]⟩else{})
def SvT:TypeId→Sig:=λ_=>{}
def LiD.short(l:LiD):Prop:=l.ev.length≤300∧(∀e∈l.ev,e.c.size≤100)∧l.s.short
instance (l:LiD):Decidable l.short:=inferInstanceAs (Decidable (_∧_∧_))
def nb:ByteArray:=⟨#[98]⟩
def awA:LiD×Int:=apL ⟨[],⟨[],0,0⟩,0,false⟩ ⟨0,3,1,nb,1,0,0⟩
def awB:LiD×Int:=apL awA.1 ⟨0,4,4,nb,1,0,0⟩
def awD:LiD×Int:=drL awB.1 1
def awC:LiD×Int:=apL (shutL awB.1) ⟨0,4,4,nb,0,0,0⟩
def awH:List EvD:=behL awD.1 0
def small(l:LiD):Prop:=l.ev.length≤1000∧lim l.s
def dd(l:LiD)(A:Nat):LiD:={l with ev:=l.ev.drop A,fr:=l.fr+A}
structure Beg(l:LiD):Prop where
 p:l.P
 fr:l.fr=0
 fo:foldS ⟨[],0,0⟩ l.ev=(l.s,l.ev.length,0)
 lm:lim l.s
end Li
namespace Jou
open Go Go.Px Go.Proofs Cod Seg Sgr Snp Sx Row Tryz
theorem base_P(l:List FiD):(baseF l).P:=by
 unfold baseF
 cases h:newF l with
 |none=>exact(by decide:st0.P)
 |some s=>
  unfold newF at h
  split at h
  ·rename_i a
   cases h
   obtain⟨f,_,b⟩:=a.choose_spec.1;exact b.1
  ·cases h
theorem stR_P(r:List Pt)(l:List FiD):(stR r (keptF l) (baseF l)).P:=(fold_P _ (base_P l)).1
structure Fct(j:JoD):Prop where
 len:j.sg.length≤64
 fs:j.dk.fs.length≤64
 cx:ctxB j.cx.s j.cx.a j.cx.m=true
 ps:∀p∈j.sg,(0≤p.sz∧p.sz≤65536)∧(1≤p.num∧p.num≤99999999)∧(0≤p.fi∧p.fi≤p.la∧p.la≤4294967296)∧(0≤p.fr∧p.fr≤1099511627776)
 st:j.st.P
theorem segs_le(l:List FiD):(segs l).length≤l.length:=WP ..
theorem Ztr{d:Sc}(h:ScOK d)(b:d.num≠0):ctxOK d.bs d.ba∧ctxOK d.s d.a∧ctxB d.s d.a d.m=true:=by
 have c:=(h.head b).2;have e:=Zoa d.ev d.bs d.ba [] c (h.evs b);have f:=Zp1 d.ev d.bs d.ba [] (Seg.ctx_nil.2 c) (h.evs b);rw[←h.fin b]at e f;exact⟨c,e,f⟩
theorem RightJ.fct{j:JoD}(h:RightJ j):Fct j:=by
 have a:=h.par;have i:=h.dk.1.1;have v:=segs_le j.dk.fs;have l:=a.dkr.bytes a.all;have hst:j.st.P:=(by rw[a.st];exact stR_P _ _);refine⟨by rw[a.sg];simp;omega,i,?_,?_,hst⟩
 ·rw[a.cx];unfold Zbl
  cases hg:((segs j.dk.fs).map (ptF scF)).getLast? with
  |none=>exact Seg.ctx_nil.2 (show ctxOK 0 0 by unfold ctxOK;omega)
  |some p=>
   dsimp only
   split
   ·exact Seg.ctx_nil.2 (show ctxOK 0 0 by unfold ctxOK;omega)
   ·obtain⟨f,b,rfl⟩:=Y3.1 (List.mem_of_getLast? hg);obtain⟨g,_,b3,c⟩:=l f b;exact(Ztr g (by rw[b3];exact c)).2.2
 ·intro p d;rw[a.sg]at d;obtain⟨q,k,rfl⟩:=Y3.1 d;obtain⟨f,b,rfl⟩:=Y3.1 k;obtain⟨g,m,b3,c⟩:=l f b;have r:(scF f).num≠0:=by rw[b3];exact c
  obtain⟨n,o,_⟩:=Ztr g r;have t:=a.good.cnt _ k;have e:inN (scF f).num:=by rw[b3];exact(Zc4 c).1
  have u:=congrArg List.length m;rw[Zg5]at u;have y:=Zfz (List.mem_filter.1 b).1;have z:=h.dk.2.1;have w:=h.dk.1.2.2.1;unfold ctxOK at n o;unfold inN at e;simp only[sgOf];have x:((scF f).ev.length:Int)=(scF f).s-(scF f).bs:=t;refine⟨⟨by omega,by omega⟩,e,⟨by omega,by omega,by omega⟩,by omega,by omega⟩
theorem Zv7{a:DiD}{e f b:Int}{d:Bool}{g:List FiD}(h:Par (anewJ a e f b d) g)(i:mayC e f)(j:a.P)(k:a.dn=false)(l:keptF a.fs≤b)(m:b≤(anewJ a e f b d).st.q):RightJ (anewJ a e f b d):=by
 have c:=Zc5 h.dkr;have n:=h.good;have o:=h.all;refine⟨i,j,k,?_,?_,?_,rfl,l,m⟩
 ·show(rowK a.fs).2=[]
  have c:rowK a.fs=(g.map (ptF scF),[]):=c;rw[c]
 ·show GoodR (rowK a.fs).1 _ _;have c:rowK a.fs=(g.map (ptF scF),[]):=c;rw[c];exact n
 ·show∀p∈(rowK a.fs).1,_;have c:rowK a.fs=(g.map (ptF scF),[]):=c;rw[c];exact o
noncomputable def evG(a:List FiD):List Cod.EvD:=a.flatMap λf=>(scF f).ev
theorem evs_eq{j:JoD}(h:RightJ j):evsJ j=evG (segs j.dk.fs):=by
 unfold evsJ evG;rw[if_pos h,h.row,List.flatMap_map]
theorem Zkb:∀(a b:List Stp) {d c:DiD},runP d (a++b)=(c,0)→∃e,runP d a=(e,0)∧runP e b=(c,0)
 | [],b,d,c,h=>⟨d,rfl,h⟩
 |s::a,b,d,c,h=>by
  rw[List.cons_append,runP]at h
  split at h
  ·rename_i g;rw[h]at g;exact absurd rfl g
  ·rename_i g;obtain⟨e,f,i⟩:=Zkb a b h;exact⟨e,by rw[runP,if_neg g];exact f,i⟩
theorem Zgk{d a:DiD}{s:Stp}{l:List Stp}(h:runP d (s::l)=(a,0)):∃b,s.run d=(b,0)∧runP b l=(a,0):=by
 rw[runP]at h
 split at h
 ·rename_i g;rw[h]at g;exact absurd rfl g
 ·rename_i g;have g:(s.run d).2=0:=(by simpa using g);exact⟨_,by rw[←g],h⟩
theorem Zq3{s:Stp}{d:DiD}(h:d.P):(s.run d).1.P:=by
 cases s
 ·exact Znc h
 ·exact Znd h
 ·exact Zj8 h
 ·exact Zi2 h
 ·exact Zsr h
theorem Zq4:∀(l:List Stp) {d:DiD},d.P→(runP d l).1.P
 | [],d,h=>h
 |s::l,d,h=>by
  rw[runP]
  split
  ·exact Zq3 h
  ·exact Zq4 l (Zq3 h)
theorem step_dn{s:Stp}{d c:DiD}(h:s.run d=(c,0)):c.dn=d.dn∧c.rm=d.rm:=by
 cases s
 ·obtain⟨_,_,_,a,b⟩:=Zle h;exact⟨b,a⟩
 ·obtain⟨_,_,_,_,a,b⟩:=Zds h;exact⟨b,a⟩
 ·obtain⟨_,_,_,_,a,b⟩:=Zh6 h;exact⟨b,a⟩
 ·obtain⟨_,_,_,a,b⟩:=Zg4 h;exact⟨b,a⟩
 ·obtain⟨_,_,_,_,_,_,a,b⟩:=Zoh h;exact⟨b,a⟩
theorem Zpg:∀(l:List Stp) {d f:DiD},runP d l=(f,0)→f.dn=d.dn∧f.rm=d.rm
 | [],d,f,h=>by cases h;exact⟨rfl,rfl⟩
 |s::l,d,f,h=>by obtain⟨j,g,i⟩:=Zgk h;obtain⟨a,b⟩:=step_dn g;obtain⟨c,e⟩:=Zpg l i;exact⟨c.trans a,e.trans b⟩
theorem bys_i{b:List Int}(h:Byts b):((bys b).map λx=>(x.toNat:Int))=b:=iU_of h
theorem Zph(s:ByteArray)(a c:List UInt8)(b:List Int)(h:Byts b):byF ⟨s,a,c++bys b⟩=byF ⟨s,a,c⟩++b:=by rw[byF_app,bys_i h]
theorem run1(d:DiD)(s:Stp):runP d [s]=s.run d:=by
 rw[runP,runP]
 split
 ·rfl
 ·rename_i h;have h:(s.run d).2=0:=(by simpa using h);rw[←h]
theorem Ztd{j:JoD}{n:Int}(b:inN n)(c:ctxOK j.st.q j.st.t):Byts (hedB j n)∧(hedB j n).length≤45:=by
 unfold ctxOK at c;have:=Zr9 (n:=n) (s:=j.st.q) (a:=j.st.t) b.2 (by omega) (by omega);exact⟨Zi1 (by omega) (by omega) (Zuv _ _ _),by unfold hedB;rw[Zdz];omega⟩
structure Took(j k:JoD)(e:Cod.EvD):Prop where
 right:RightJ k
 st:k.st=(appS j.st (toE e)).1
 ev:evsJ k=evsJ j++[e]
 cfg:k.cb=j.cb∧k.cg=j.cg
 kept:k.kept=j.kept
 shut:k.shut=j.shut
 sure:j.sure≤k.sure
 rm:k.dk.rm=j.dk.rm
theorem encE_ok{j:JoD}{e:Cod.EvD}(h:encE j.cx.s j.cx.a j.cx.m e=0):EncOK j.cx.s j.cx.a j.cx.m e:=Zcy.1 h
theorem sg_last{j:JoD}{a:List FiD}{g:FiD}(h:Par j (a++[g])):j.sg=(a.map (ptF scF)).map sgOf++[sgOf ⟨scF g,g.len⟩]:=by rw[h.sg];simp[ptF]
theorem cx_open{j:JoD}{b:List FiD}{g:FiD}(h:Par j (b++[g]))(c:(scF g).sl=false):j.cx=⟨(scF g).s,(scF g).a,(scF g).m⟩:=by
 rw[h.cx];unfold Zbl;simp[c]
theorem evG_app(a b:List FiD):evG (a++b)=evG a++evG b:=List.flatMap_append
theorem Zim(a:List FiD)(f:FiD):evG (a++[f])=evG a++(scF f).ev:=by rw[evG_app];simp[evG]
theorem Par.in_{j:JoD}{c:List FiD}{g:FiD}(h:Par j (c++[g])):ScOK (scF g)∧byF g=segL (scF g)∧(scF g).num≠0∧g.nm=nmG (scF g).num∧inN (scF g).num∧numS g.nm≠0:=by
 obtain⟨d,e,b3,a⟩:=h.dkr.bytes h.all g (by simp);obtain⟨f,b⟩:=h.name g (by simp);exact⟨d,e,by rw[b3];exact a,by rw[Zgt b];exact f,b,a⟩
theorem rec_anew{j:JoD}{u:List FiD}{g:FiD}(h:Par j (u++[g]))(v:(scF g).sl=false){e:Cod.EvD}(w:e.s=j.st.q+1)(F:encE j.cx.s j.cx.a j.cx.m e=0)(G:(appS j.st (toE e)).2=0){l:DiD}(H:Zaw j.dk (nmG (scF g).num) (bys (recL' j e))=(l,0))(n o b:Int)(d:Bool):
  anewJ l n o b d=⟨l,n,o,(u.map (ptF scF)).map sgOf++[{sgOf ⟨scF g,g.len⟩with sz:=(sgOf ⟨scF g,g.len⟩).sz+(recL' j e).length,la:=e.s,ti:=e.a}],⟨e.s,e.a,bhdN j.cx.m e.c⟩,(appS j.st (toE e)).1,b,j.kept,d⟩∧
   ∃f,Par (anewJ l n o b d) (u++[f])∧(scF f).ev=(scF g).ev++[e]:=by
 obtain⟨J,K,b3,y,b5,N⟩:=h.in_;have k:=cx_open h v;have i:=encE_ok F;rw[k]at i
 dsimp only at i
 have p:recL' j e=recB (scF g) e:=by unfold recL' recB;rw[k]
 have t:Byts (recL' j e):=(by rw[p];unfold recB;exact Zi1 (by omega) (by have:=Zh0 i;omega) Zip)
 obtain⟨_,f,z,r,_,_⟩:=Zds H;have C:g∈j.dk.fs:=(List.mem_filter.1 (show g∈segs j.dk.fs by rw[h.dkr.eq];simp)).1;have D:f=g:=(by rw[←y,Zjj h.dkr.srt C]at z;exact(Option.some.inj z).symm);subst D;rw[←y]at r;obtain⟨e1,L⟩:=anew_add h v w i G (x:=bys (recL' j e)) (by rw[bys_i t,p]) r n o b d;obtain⟨M,A⟩:=Zza J b3 v i;have E:scF ⟨f.nm,f.su,f.lo++bys (recL' j e)⟩=addS (scF f) e:=Zbo M (by rw[Zph _ _ _ _ t,A,←K,p]);refine⟨?_,_,L,by rw[E];rfl⟩;rw[e1,k];congr 3;simp only[sgOf,A,List.length_append,p]
 all_goals first|done|rfl|omega|(congr 1;omega)
theorem seal_anew{j:JoD}{m:List FiD}{g:FiD}(h:Par j (m++[g]))(n:(scF g).sl=false){d:DiD}(z:runP j.dk [.wri (nmG (scF g).num) (bys (selB j (sgOf ⟨scF g,g.len⟩))),.syn (nmG (scF g).num)]=(d,0))(e i a:Int)(b:Bool):
  anewJ d e i a b=⟨d,e,i,(m.map (ptF scF)).map sgOf++[{sgOf ⟨scF g,g.len⟩with sz:=(sgOf ⟨scF g,g.len⟩).sz+(selB j (sgOf ⟨scF g,g.len⟩)).length,sl:=true}],⟨0,0,[]⟩,j.st,a,j.kept,b⟩∧
   ∃f,Par (anewJ d e i a b) (m++[f])∧(scF f).ev=(scF g).ev∧(scF f).sl=true∧(scF f).num=(scF g).num:=by
 obtain⟨p,A,b3,q,b5,G⟩:=h.in_;have v:=cx_open h n;have F:((scF g).ev.length:Int)=(scF g).s-(scF g).bs:=h.good.cnt (ptF scF g) (by simp);have o:selB j (sgOf ⟨scF g,g.len⟩)=seaB (scF g):=by unfold selB seaB;rw[v];simp only[sgOf];rw[F]
 have w:Byts (selB j (sgOf ⟨scF g,g.len⟩)):=(by rw[o];have:=slP_len p b3;exact Zi1 (by omega) (by omega) (Zvb _ _ _));obtain⟨H,C,r⟩:=Zgk z;rw[run1]at r;obtain⟨f,t,k⟩:=app_sync h.dkr.srt C r;have x:g∈j.dk.fs:=(List.mem_filter.1 (show g∈segs j.dk.fs by rw[h.dkr.eq];simp)).1;have y:f=g:=(by rw[←q,Zjj h.dkr.srt x]at t;exact(Option.some.inj t).symm);subst y;rw[←q]at k;have l:byF ⟨f.nm,f.su++(f.lo++bys (selB j (sgOf ⟨scF f,f.len⟩))),[]⟩=byF f++seaB (scF f):=(by rw[←o,←Zph f.nm f.su f.lo _ w];unfold byF;simp);obtain⟨e1,D⟩:=Zy2 h n (f:=⟨f.nm,f.su++(f.lo++bys (selB j (sgOf ⟨scF f,f.len⟩))),[]⟩) rfl l k e i a b;obtain⟨E,u⟩:=Ztx p b3 n;have c:scF ⟨f.nm,f.su++(f.lo++bys (selB j (sgOf ⟨scF f,f.len⟩))),[]⟩=sealS (scF f):=Zbo E (by rw[l,u,←A]);refine⟨?_,_,D,by rw[c];rfl,by rw[c];rfl,by rw[c];rfl⟩;rw[e1,o];congr 3;simp only[sgOf,u,List.length_append]
 all_goals first|done|rfl|omega|(congr 1;omega)
theorem new_anew{j:JoD}{i:List FiD}(h:Par j i){n:Int}(k:∀g,i.getLast?=some g→(scF g).sl=true∧n=(scF g).num+1)(o:inN n)(z:i=[]→n=1)(hst:j.st.P){e:Cod.EvD}(A:e.s=j.st.q+1)(K:encE j.st.q j.st.t [] e=0)(L:(appS j.st (toE e)).2=0){p:DiD}(M:runP j.dk [.cre (nmG n),.wri (nmG n) (bys (hedB j n)),.wri (nmG n) (bys (fr 2 (encL j.st.q j.st.t [] e)))]=(p,0))(r u b:Int)(d:Bool):
  anewJ p r u b d=⟨p,r,u,(i.map (ptF scF)).map sgOf++[⟨n,j.st.q,e.s,j.st.t,e.a,(hedB j n).length+(fr 2 (encL j.st.q j.st.t [] e)).length,false⟩],⟨e.s,e.a,bhdN [] e.c⟩,(appS j.st (toE e)).1,b,j.kept,d⟩∧
   ∃f,Par (anewJ p r u b d) (i++[f])∧(scF f).ev=[e]:=by
 have G:=st_ctx hst
 have v:headOK n j.st.q j.st.t:=⟨o,G⟩
 have m:=Zcy.1 K;obtain⟨C,_⟩:=Ztd (j:=j) o G;have H:Byts (fr 2 (encL j.st.q j.st.t [] e)):=Zi1 (by omega) (by have:=Zh0 m;omega) Zip;obtain⟨R,N,x⟩:=Zgk M;obtain⟨T,x,D⟩:=Zgk x;rw[run1]at D;obtain⟨hno,E⟩:=new_app h.dkr.srt N x D;have w:byF ⟨nmG n,[],bys (hedB j n)++bys (fr 2 (encL j.st.q j.st.t [] e))⟩=fr 1 (hdP n j.st.q j.st.t)++fr 2 (encL j.st.q j.st.t [] e):=by rw[Zph _ _ _ _ H];have:=Zph (nmG n) [] [] _ C;rw[List.nil_append]at this;rw[this];rfl
 have y:∀g∈i,numS g.nm<n:=by
  rcases Y2 i with rfl|⟨l,g,rfl⟩
  ·simp
  ·rw[List.concat_eq_append]at h k⊢;have:=k g (by simp);rw[this.2];exact h.big
 obtain⟨e1,O⟩:=anew_new h k o z (f:=⟨nmG n,[],bys (hedB j n)++bys (fr 2 (encL j.st.q j.st.t [] e))⟩) (Zgt o) hno y A v m L w E r u b d;obtain⟨Q,F⟩:=Zzb v m;have J:scF ⟨nmG n,[],bys (hedB j n)++bys (fr 2 (encL j.st.q j.st.t [] e))⟩=newS n j.st.q j.st.t e:=Zbo Q (by rw[w,F]);refine⟨?_,_,O,by rw[J];rfl⟩;rw[e1];congr 3;simp only[sgOf,F,List.length_append];show(⟨n,j.st.q,e.s,j.st.t,e.a,_,false⟩:SgD)=_;congr 1
theorem Zv8{j:JoD}(h:RightJ j):keptF j.dk.fs≤j.sure∧j.sure≤j.st.q∧j.kept=keptF j.dk.fs:=⟨h.sure.1,h.sure.2,h.par.kept⟩
theorem kept_same{c:DiD}{d e a:Int}{b:Bool}{f:List SgD}{g:CxD}{i:StD}{k:Int}(h:anewJ c d e a b=⟨c,d,e,f,g,i,a,k,b⟩):keptF c.fs=k:=congrArg JoD.kept h
theorem took_of{j k:JoD}{e:Cod.EvD}(b:RightJ j)(n:(appS j.st (toE e)).2=0)(f:e.s=j.st.q+1){gs':List FiD}(a:k=anewJ k.dk j.cb j.cg k.sure j.shut)(hst:k.st=(appS j.st (toE e)).1)(g:k.kept=j.kept)(h:Par (anewJ k.dk j.cb j.cg k.sure j.shut) gs')(i:evG gs'=evG (segs j.dk.fs)++[e])(p:k.sure=j.sure∨k.sure=j.st.q)(o:k.dk.P)(c:k.dk.dn=j.dk.dn∧k.dk.rm=j.dk.rm):Took j k e:=by
 obtain⟨t,u,v⟩:=Zv8 b;have w:k.st.q=j.st.q+1:=by rw[hst,(Zwn n).1];exact f
 have r:k.kept=keptF k.dk.fs:=(by rw[a];rfl);have l:RightJ k:=(by have d:(anewJ k.dk j.cb j.cg k.sure j.shut).st=k.st:=(by rw[←a]);rw[a];exact Zv7 h b.cfg o (by rw[c.1];exact b.up) (by omega) (by rw[d];omega));have m:segs k.dk.fs=gs':=h.dkr.eq;exact⟨l,hst,by rw[evs_eq l,evs_eq b,m,i],by rw[a];exact⟨rfl,rfl⟩,g,by rw[a];rfl,by omega,c.2⟩
theorem Znj(j:JoD)(c:RightJ j):(segs j.dk.fs=[]∧j.sg=[])∨∃a g,segs j.dk.fs=a++[g]∧Par j (a++[g])∧j.sg=(a.map (ptF scF)).map sgOf++[sgOf ⟨scF g,g.len⟩]:=by
 have b:=c.par
 rcases Y2 (segs j.dk.fs)with e|⟨a,g,e⟩
 ·left
  exact⟨e,by rw[b.sg,e];rfl⟩
 ·right
  rw[List.concat_eq_append]at e;rw[e]at b;exact⟨a,g,e,b,sg_last b⟩
theorem Zkc{j k:JoD}(H:RightJ j){e0:Cod.EvD}(i:appQ j e0=(k,0)):Took j k (evN j e0):=by
 have hF:=H.fct;generalize he:evN j e0=e at*;have F:e.s=j.st.q+1:=(by rw[←he];rfl);unfold appQ at i;rw[he]at i
 split at i
 ·rename_i g;rw[Prod.mk.injEq]at i;exact absurd i.2 g
 rename_i g;have X:(appS j.st (toE e)).2=0:=by simpa using g
 split at i
 ·cases i
 rename_i ac
 split at i
 ·cases i
 rename_i w b;unfold endJ at i
 split at i
 ·cases i
 rename_i ab
 split at i
 ·rename_i O;rw[Prod.mk.injEq]at i;exact absurd i.2 O
 rename_i O;have O:(runP j.dk w.td).2=0:=by simpa using O
 obtain⟨M,hd'⟩:∃M,runP j.dk w.td=(M,0):=⟨_,by rw[←O]⟩
 rw[hd']at i;rw[Prod.mk.injEq]at i;have hk:=i.1;have hP:M.P:=by have:=Zq4 w.td H.dk;rw[hd']at this;exact this
 have Z:=Zpg _ hd';unfold w3 at b
 cases hw2:w2 j e with
 |none=>rw[hw2]at b;cases b
 |some v=>
 rw[hw2]at b;have b:recW v e=some w:=b
 have a2:∀{o:List FiD} {g:FiD},segs j.dk.fs=o++[g]→Par j (o++[g])→j.sg=(o.map (ptF scF)).map sgOf++[sgOf ⟨scF g,g.len⟩]→(scF g).sl=false→v=w0 j→Took j k e:=by
  intro o g A y d h hv;subst hv;have u:recW (w0 j) e=some w:=b;unfold recW at u;rw[show(w0 j).j.sg=_ from d,Zas]at u
  dsimp only at u
  split at u
  ·cases u
  rename_i C;have C:encE j.cx.s j.cx.a j.cx.m e=0:=Yo.1 C;have u:=Option.some.inj u;subst u;have hr:Zaw j.dk (nmG (scF g).num) (bys (recL' j e))=(M,0):=(run1 j.dk (.wri (nmG (scF g).num) (bys (recL' j e)))).symm.trans hd';obtain⟨e1,f,Q,R⟩:=rec_anew y h F C X hr j.cb j.cg j.sure j.shut;subst hk;exact took_of H X F (gs':=o++[f]) e1.symm rfl rfl Q (by rw[A,Zim,Zim,R,List.append_assoc]) (.inl rfl) hP Z
 have D:∀(c:JoD) (o:List FiD) (J:List Stp) (K:Int),Par c o→(∀g,o.getLast?=some g→(scF g).sl=true)→c.st=j.st→c.kept=j.kept→c.cb=j.cb→c.cg=j.cg→c.shut=j.shut→runP j.dk J=(c.dk,0)→(c.sure=j.sure∨c.sure=j.st.q)→evG o=evG (segs j.dk.fs)→
   ∀z:DiD,begW ⟨{c with dk:=z},J,K⟩=some v→Took j k e:=by
  intro c o J K y h hst a5 a6 a7 V a1 a8 a9 z r
  have hn:nxtN ⟨{c with dk:=z},J,K⟩=match o.getLast? with|none=>1|some g=>(scF g).num+1:=by
   unfold nxtN;show(match lasS c.sg with|none=>1|some (_,p)=>p.num+1)=_;rw[y.sg]
   rcases Y2 o with e|⟨l,g,e⟩
   ·rw[e];rfl
   ·rw[e,List.concat_eq_append];simp only[List.map_append,List.map_cons,List.map_nil,Zas,List.getLast?_concat];rfl
  unfold begW at r
  split at r
  ·cases r
  rename_i hno;have aa:inN (nxtN ⟨{c with dk:=z},J,K⟩):=Classical.byContradiction λq=>hno (.inl q);generalize hN:nxtN ⟨{c with dk:=z},J,K⟩=n at*;have r:=Option.some.inj r;subst r;unfold recW at b;rw[Zas]at b
  dsimp only at b
  split at b
  ·cases b
  rename_i C;have C:encE c.st.q c.st.t [] e=0:=(by simpa using C);have b:=Option.some.inj b;subst b
  dsimp only at hd'
  rw[List.append_assoc]at hd';obtain⟨W,T,r2⟩:=Zkb _ _ hd';rw[a1,Prod.mk.injEq]at T;rw[←T.1]at r2
  have Y:∀g,o.getLast?=some g→(scF g).sl=true∧n=(scF g).num+1:=λg hg=>⟨h g hg,by rw[hn,hg]⟩
  obtain⟨e1,f,Q,R⟩:=new_anew y Y aa (λq=>by rw[hn,q];rfl) (by rw[hst];exact hF.st) (by rw[hst];exact F) C (by rw[hst];exact X) r2 j.cb j.cg c.sure j.shut;subst hk;refine took_of H X F (gs':=o++[f]) ?_ rfl a5 Q (by rw[Zim,R,a9]) a8 hP Z;show _=anewJ M j.cb j.cg c.sure j.shut;have hh:hedB c n=fr 1 (hdP n j.st.q j.st.t):=by unfold hedB;rw[hst]
  rw[e1,y.sg,a6,a7,V,hst,hh];rfl
 rcases Znj j H with⟨A,d⟩|⟨o,g,A,y,d⟩
 ·have e1:w1 j e=w0 j:=(by unfold w1;rw[d];rfl);have E:opnW (w1 j e)=false:=(by rw[e1];unfold opnW;rw[show(w0 j).j.sg=[]from d];rfl);unfold w2 at hw2;rw[if_neg (by simp[E]),e1]at hw2;exact D j [] [] 0 (by have:=H.par;rw[A]at this;exact this) (by simp) rfl rfl rfl rfl rfl rfl (.inl rfl) (by rw[A]) j.dk hw2
 ·by_cases h:(scF g).sl=true
  ·have e1:w1 j e=w0 j:=by
    unfold w1;rw[d,Zas];have:ovrB j e=false:=by unfold ovrB;rw[d,Zas];simp[sgOf,h]
    simp[this]
   have E:opnW (w1 j e)=false:=(by rw[e1];unfold opnW;rw[show(w0 j).j.sg=_ from d,Zas];simp[sgOf,h]);unfold w2 at hw2;rw[if_neg (by simp[E]),e1]at hw2;exact D j (o++[g]) [] 0 y (λx L=>by simp at L;subst L;exact h) rfl rfl rfl rfl rfl rfl (.inl rfl) (by rw[A]) j.dk hw2
  ·have h:(scF g).sl=false:=(by simpa using h);by_cases G:ovrB j e=true
   ·have e1:w1 j e=sealW (w0 j) ((o.map (ptF scF)).map sgOf) (sgOf ⟨scF g,g.len⟩):=(by unfold w1;rw[d,Zas];simp[G]);have E:opnW (w1 j e)=false:=(by rw[e1];unfold opnW sealW;dsimp only;rw[Zas];rfl);unfold w2 at hw2;rw[if_neg (by simp[E]),e1]at hw2
    have U:∃N,w.td=[.wri (nmG (scF g).num) (bys (selB j (sgOf ⟨scF g,g.len⟩))),.syn (nmG (scF g).num)]++N:=by
     have r:=hw2;unfold begW at r
     split at r
     ·cases r
     have r:=Option.some.inj r;unfold recW at b;rw[←r]at b
     dsimp only at b
     rw[Zas]at b
     dsimp only at b
     split at b
     ·cases b
     have b:=Option.some.inj b;rw[←b];exact⟨_,by simp only[sealW,w0,List.nil_append,List.append_assoc];rfl⟩
    obtain⟨N,U⟩:=U;have a0:=hd';rw[U]at a0;obtain⟨W,T,r2⟩:=Zkb _ _ a0;obtain⟨s1,f,Q,R,v2,v3⟩:=seal_anew y h T j.cb j.cg j.st.q j.shut;have a3:(anewJ W j.cb j.cg j.st.q j.shut).st=j.st:=(by rw[s1]);have a4:(anewJ W j.cb j.cg j.st.q j.shut).kept=j.kept:=(by rw[s1]);refine D (anewJ W j.cb j.cg j.st.q j.shut) (o++[f]) [.wri (nmG (scF g).num) (bys (selB j (sgOf ⟨scF g,g.len⟩))),.syn (nmG (scF g).num)] (0+(selB j (sgOf ⟨scF g,g.len⟩)).length) Q (λx L=>by simp at L;subst L;exact v2) a3 a4 rfl rfl rfl T (.inr rfl) (by rw[A,Zim,Zim,R]) j.dk ?_;rw[←hw2,s1];rfl
   ·have G:ovrB j e=false:=(by simpa using G);have e1:w1 j e=w0 j:=(by unfold w1;rw[d,Zas];simp[G]);have E:opnW (w1 j e)=true:=(by rw[e1];unfold opnW;rw[show(w0 j).j.sg=_ from d,Zas];simp[sgOf,h]);unfold w2 at hw2;rw[if_pos E,e1]at hw2;exact a2 A y d h (Option.some.inj hw2).symm
theorem Zm4(l:List FiD):∀p∈(rowK l).1,inN p.d.num:=by
 obtain⟨n,h,b,_⟩:=Zgh l;intro p a;rw[h]at a;obtain⟨f,c,rfl⟩:=Y3.1 a;have:=Zbh b f c;show inN (scF f).num;rw[this];exact(Zc4 (Zbk f (List.mem_of_mem_take c))).1
theorem Zlb(d:DiD):menD d=runS d (mendS (rowK d.fs).1 (rowK d.fs).2):=by
 unfold menD;rw[Zpw,Zn5 (Zm4 d.fs)]
def Stp.men:Stp→Prop
 | .rem _| .cut _ _| .syn _=>True
 |_=>False
def Stp.nm:Stp→ByteArray
 | .cre s| .wri s _| .rem s| .cut s _| .syn s=>s
def Stp.eff(l:List FiD):Stp→Option (List FiD)
 | .rem s=>match l.find? (λf=>decide (f.nm=s))with|none=>none|some _=>some (wout FiD.nm l s)
 | .cut s n=>match l.find? (λf=>decide (f.nm=s))with|none=>none|some f=>if n<0∨(f.len:Int)<n then none else some (withB FiD.nm l ⟨s,f.su.take n.toNat,f.lo.take (n.toNat-f.su.length)⟩)
 | .syn s=>match l.find? (λf=>decide (f.nm=s))with|none=>none|some f=>some (withB FiD.nm l ⟨s,f.su++f.lo,[]⟩)
 |_=>none
theorem Zlc{s:Stp}(b:s.men){d:DiD}(h:d.P)(c:d.dn=false)(e:fnB s.nm=true):(s.eff d.fs=none∧(s.run d).2≠0)∨∃g,s.eff d.fs=some g∧s.run d=d.perf g:=by
 have a:=er_of h c e e
 cases s with
 |cre s=>cases b
 |wri s x=>cases b
 |syn s=>
  simp only[Stp.run,Stp.eff,Za3,DiD.get];rw[if_neg (λq=>q a)]
  cases hg:d.fs.find? (λf=>decide (f.nm=s))with
  |none=>exact .inl ⟨rfl,by simp⟩
  |some f=>exact .inr ⟨_,rfl,rfl⟩
 |rem s=>
  simp only[Stp.run,Stp.eff,Za4,DiD.get];rw[if_neg (λq=>q a)]
  cases hg:d.fs.find? (λf=>decide (f.nm=s))with
  |none=>exact .inl ⟨rfl,by simp⟩
  |some f=>exact .inr ⟨_,rfl,rfl⟩
 |cut s n=>
  simp only[Stp.run,Stp.eff,opCut,DiD.get];rw[if_neg (λq=>q a)]
  cases hg:d.fs.find? (λf=>decide (f.nm=s))with
  |none=>exact .inl ⟨rfl,by simp⟩
  |some f=>
   dsimp only
   split
   ·exact .inl ⟨rfl,by simp⟩
   ·exact .inr ⟨_,rfl,rfl⟩
def Lst(l:List FiD):Prop:=∀f∈l,f.lo=[]
theorem eff_lst{s:Stp}{l c:List FiD}(h:Lst l)(a:s.eff l=some c):Lst c:=by
 cases s with
 |cre s=>cases a
 |wri s x=>cases a
 |syn s=>
  simp only[Stp.eff]at a
  split at a
  ·cases a
  ·cases a
   intro g b
   rcases Zc0.1 b with rfl|⟨b,_⟩
   ·rfl
   ·exact h g b
 |rem s=>
  simp only[Stp.eff]at a
  split at a
  ·cases a
  ·cases a
   exact λg b=>h g (Zff.1 b).1
 |cut s n=>
  simp only[Stp.eff]at a
  split at a
  ·cases a
  ·rename_i f d
   split at a
   ·cases a
   ·cases a
    intro g b
    rcases Zc0.1 b with rfl|⟨b,_⟩
    ·show f.lo.take _=[]
     rw[h f (YY d)];simp
    ·exact h g b
def bnd(d:DiD)(k:Int):DiD:={d with st:=k}
theorem bnd_P{d:DiD}(h:d.P){k:Int}(a: -1≤k):(bnd d k).P:=⟨⟨h.1.1,h.1.2.1,h.1.2.2.1,a⟩,h.2⟩
theorem run_bnd:∀(l:List Stp) {d:DiD} {k:Int},d.P→d.dn=false→d.st= -1→0≤k→(∀s∈l,s.men∧fnB s.nm=true)→(runP d l).2=0→
  ((runP (bnd d k) l).2=0∧(runP (bnd d k) l).1.fs=(runP d l).1.fs∧(runP (bnd d k) l).1.rm=d.rm∧(runP (bnd d k) l).1.dn=false)∨
  ∃a b i,l=a++b∧b≠[]∧runP d a=(i,0)∧(runP (bnd d k) l).2=16∧(runP (bnd d k) l).1.fs=i.fs∧(runP (bnd d k) l).1.rm=d.rm∧(runP (bnd d k) l).1.dn=true
 | [],d,k,hP,hdn,hst,hk,hs,h=>.inl ⟨rfl,rfl,rfl,hdn⟩
 |s::l,d,k,hP,hdn,hst,hk,hs,h=>by
  obtain⟨m,n⟩:=hs s (by simp)
  rcases Zlc m hP hdn n with⟨_,j⟩|⟨fs,he,hr⟩
  ·rw[runP,if_pos j]at h;exact absurd h j
  have f:s.run d=({d with fs:=fs},0):=by rw[hr];unfold DiD.perf DiD.tick;rw[if_neg (by omega),if_neg (by omega)]
  rcases Zlc m (bnd_P hP (by omega)) hdn n (d:=bnd d k)with⟨j,_⟩|⟨fs',he',hr'⟩
  ·have:s.eff d.fs=none:=j;rw[he]at this;cases this
  have o:fs'=fs:=(by have:s.eff d.fs=some fs':=he';rw[he]at this;cases this;rfl);subst o;have e1:runP d (s::l)=runP {d with fs:=fs'} l:=(by rw[runP,f,if_neg (by simp)]);rw[e1]at h⊢;by_cases hk0:k=0
  ·have g:s.run (bnd d k)=({bnd d k with dn:=true},16):=by rw[hr'];unfold DiD.perf;rw[if_pos (show(bnd d k).st=0 from hk0)]
   right
   refine⟨[],s::l,d,rfl,by simp,rfl,?_⟩;have e2:runP (bnd d k) (s::l)=({bnd d k with dn:=true},16):=(by rw[runP,g,if_pos (by simp)]);rw[e2];exact⟨rfl,rfl,rfl,rfl⟩
  ·have g:s.run (bnd d k)=(bnd {d with fs:=fs'} (k-1),0):=by
    rw[hr'];unfold DiD.perf DiD.tick bnd
    dsimp only
    rw[if_neg hk0,if_pos (by omega)]
   have p:({d with fs:=fs'}:DiD).P:=(by have:=Zq3 (s:=s) hP;rw[f]at this;exact this);have e2:runP (bnd d k) (s::l)=runP (bnd {d with fs:=fs'} (k-1)) l:=(by rw[runP,g,if_neg (by simp)]);rw[e2]
   rcases run_bnd l (d:={d with fs:=fs'}) (k:=k-1) p hdn hst (by omega) (λt q=>hs t (by simp[q])) h with⟨a,b,c,e⟩|⟨a,b,i,e1,e2,e3,e4⟩
   ·exact .inl ⟨a,b,c,e⟩
   ·right
    refine⟨s::a,b,i,by rw[e1];rfl,e2,?_,e4⟩;rw[runP,f,if_neg (by simp)];exact e3
theorem Zsc:∀(l:List Stp) {d a:DiD},d.P→d.dn=false→d.st= -1→(∀s∈l,s.men∧fnB s.nm=true)→Lst d.fs→runP d l=(a,0)→Lst a.fs∧a.P∧a.dn=false∧a.st= -1∧a.rm=d.rm
 | [],d,a,hP,hdn,hst,hs,hl,h=>by cases h;exact⟨hl,hP,hdn,hst,rfl⟩
 |s::l,d,a,hP,hdn,hst,hs,hl,h=>by
  obtain⟨i,j⟩:=hs s (by simp);obtain⟨k,c,m⟩:=Zgk h
  rcases Zlc i hP hdn j with⟨_,e⟩|⟨fs,he,hr⟩
  ·rw[c]at e;exact absurd rfl e
  have b:s.run d=({d with fs:=fs},0):=(by rw[hr];unfold DiD.perf DiD.tick;rw[if_neg (by omega),if_neg (by omega)]);have f:({d with fs:=fs}:DiD).P:=(by have:=Zq3 (s:=s) hP;rw[b]at this;exact this);have e1:k={d with fs:=fs}:=(by rw[b]at c;cases c;rfl);subst e1;exact Zsc l (d:={d with fs:=fs}) f hdn hst (λt g=>hs t (by simp[g])) (eff_lst (s:=s) hl he) m
theorem Zuz:∀(l:List Stp) {d:DiD},(runP d l).2≠0→∃a s c e,l=a++s::c∧runP d a=(e,0)∧(s.run e).2≠0
 | [],d,h=>absurd rfl h
 |s::l,d,h=>by
  by_cases b:(s.run d).2≠0
  ·exact⟨[],s,l,d,rfl,rfl,b⟩
  ·rw[runP,if_neg b]at h;obtain⟨a,t,c,e,e1,e2,f⟩:=Zuz l h;have b:(s.run d).2=0:=(by simpa using b);refine⟨s::a,t,c,e,by rw[e1];rfl,?_,f⟩;rw[runP,if_neg (by simp[b])];exact e2
theorem Zld{l:List FiD}(i:∀f∈l,fnB f.nm=true):∀s∈mendP (rowK l).1 (rowK l).2,s.men∧fnB s.nm=true:=by
 obtain⟨n,h,k,_⟩:=Zgh l;have g:=Zm4 l;have c:∀p∈(rowK l).1,fnB (nmG p.d.num)=true:=λp b=>by rw[Zgt (g p b)];exact Zvs _
 intro s a;unfold mendP at a
 rcases List.mem_append.1 a with a|a
 ·obtain⟨x,e,rfl⟩:=Y3.1 a;refine⟨trivial,?_⟩;have e:x∈(rowK l).2:=(by simpa using e);rw[h]at e;obtain⟨f,j,rfl⟩:=Y3.1 e;exact i f (List.mem_filter.1 (List.mem_of_mem_drop j)).1
 ·rcases List.mem_append.1 a with a|a
  ·obtain⟨p,b,a⟩:=List.mem_flatMap.1 a;unfold cutP at a
   split at a
   ·have:=List.mem_singleton.1 a;subst this;exact⟨trivial,c p (by simpa using b)⟩
   ·cases a
  ·unfold synP at a
   split at a
   ·cases a
   ·rename_i p b
    split at a
    ·cases a
    ·have:=List.mem_singleton.1 a;subst this;exact⟨trivial,c p (List.mem_of_getLast? b)⟩
theorem Zxv{d:DiD}(o:d.P)(q:d.dn=false)(hst:d.st= -1){s:Stp}{c:List Stp}(h:mendP (rowK d.fs).1 (rowK d.fs).2=s::c):(s.run d).2=0:=by
 obtain⟨A,C⟩:=Zld o.2.2.1 s (by rw[h];simp);obtain⟨n,j,t,_⟩:=Zgh d.fs;have w:=Zm4 d.fs;have fnd:∀g∈segs d.fs,d.fs.find? (λf=>decide (f.nm=g.nm))=some g:=λg b=>Zjj o.2.2.2 (List.mem_filter.1 b).1;have l:∀p∈(rowK d.fs).1,∃g,d.fs.find? (λf=>decide (f.nm=nmG p.d.num))=some g∧p=ptF scF g:=λp e=>by have E:=w p e;rw[j]at e;obtain⟨g,b,rfl⟩:=Y3.1 e;have m:=List.mem_of_mem_take b;have y:nmG (scF g).num=g.nm:=(by have:inN (scF g).num:=E;rw[Zgt this,Zbh t g b];exact Zfe (Zbk g m));exact⟨g,by show d.fs.find? (λf=>decide (f.nm=nmG (scF g).num))=_;rw[y];exact fnd g m,rfl⟩
 have z:∃r,s.eff d.fs=some r:=by
  have a:s∈mendP (rowK d.fs).1 (rowK d.fs).2:=(by rw[h];simp);unfold mendP at a
  rcases List.mem_append.1 a with a|a
  ·obtain⟨x,k,rfl⟩:=Y3.1 a;have k:x∈(rowK d.fs).2:=(by simpa using k);rw[j]at k;obtain⟨g,b,rfl⟩:=Y3.1 k;simp only[Stp.eff];rw[fnd g (List.mem_of_mem_drop b)];exact⟨_,rfl⟩
  ·rcases List.mem_append.1 a with a|a
   ·obtain⟨p,e,a⟩:=List.mem_flatMap.1 a;obtain⟨g,b,u⟩:=l p (by simpa using e);unfold cutP at a
    split at a
    ·rename_i i;have:=List.mem_singleton.1 a;subst this;simp only[Stp.eff];rw[b]
     dsimp only
     have i:(segL p.d).length<g.len:=(by rw[u]at i⊢;exact i);rw[if_neg (by omega)];exact⟨_,rfl⟩
    ·cases a
   ·unfold synP at a
    split at a
    ·cases a
    ·rename_i p e
     split at a
     ·cases a
     ·have:=List.mem_singleton.1 a;subst this;obtain⟨g,b,_⟩:=l p (List.mem_of_getLast? e);simp only[Stp.eff];rw[b];exact⟨_,rfl⟩
 obtain⟨r,D⟩:=z
 rcases Zlc A o q C with⟨v,_⟩|⟨fs',_,hr⟩
 ·rw[D]at v;cases v
 ·rw[hr];unfold DiD.perf;rw[if_neg (by omega)]
theorem mend_well{d:DiD}(i:d.P)(g:d.dn=false)(hst:d.st= -1):(menD d).2=0:=by
 refine Classical.byContradiction λl=>?_;unfold menD at l;obtain⟨a,s,c,b,e1,e2,q⟩:=Zuz _ l;have n:=Zld i.2.2.1
 have j:b.P∧b.dn=false∧b.st= -1:=by
  refine⟨by have:=Zq4 a i;rw[e2]at this;exact this,by rw[(Zpg a e2).1];exact g,?_⟩
  have o:∀(a:List Stp) {d b:DiD},(∀s∈a,s.men∧fnB s.nm=true)→d.P→d.dn=false→d.st= -1→runP d a=(b,0)→b.st= -1:=λa=>by
   induction a with
   |nil=>intro d b _ _ _ h e;cases e;exact h
   |cons t a y=>
    intro d b k i g h e;obtain⟨z,f,r⟩:=Zgk e;obtain⟨u,v⟩:=k t (by simp)
    rcases Zlc u i g v with⟨_,p⟩|⟨fs,_,hr⟩
    ·rw[f]at p;exact absurd rfl p
    ·rw[hr]at f;unfold DiD.perf DiD.tick at f;rw[if_neg (by omega),if_neg (by omega)]at f
     cases f
     exact y (d:={d with fs:=fs}) (λx m=>k x (by simp[m])) (by have:=Zq3 (s:=t) i;rw[hr]at this;unfold DiD.perf DiD.tick at this;rw[if_neg (by omega),if_neg (by omega)]at this;exact this) g h r
  exact o a (λx m=>n x (by rw[e1];simp[m])) i g hst e2
 have w:mendS (rowK d.fs).1 (rowK d.fs).2=a.map Stp.run++(s::c).map Stp.run:=(by rw[←Zn5 (Zm4 d.fs),e1,List.map_append]);rw[Zpw]at e2;obtain⟨f,_⟩:=Zpj _ _ i.2.2.2 w (by simp) e2;rw[←Zn5 (Zm4 b.fs)]at f
 cases k:mendP (rowK b.fs).1 (rowK b.fs).2 with
 |nil=>rw[k]at f;simp at f
 |cons t A=>have:=Zxv j.1 j.2.1 j.2.2 k;rw[k]at f;simp only[List.map_cons,List.cons.injEq]at f;have o:t.run b=s.run b:=congrFun f.1 b;rw[o]at this;exact q this
theorem evsR_d{r a:List Pt}(h:r.map (·.d)=a.map (·.d)):evsR r=evsR a:=by
 have:∀r:List Pt,evsR r=(r.map (·.d)).flatMap λd=>d.ev.map toE:=λr=>by unfold evsR;rw[List.flatMap_map]
 rw[this,this,h]
theorem goodR_d{r b:List Pt}{k:Int}{s:StD}(h:r.map (·.d)=b.map (·.d))(g:GoodR r k s):GoodR b k s:=by
 have i:=evsR_d h;have hst:stR r k s=stR b k s:=(by unfold stR;rw[i]);refine⟨λp c=>?_,λp c=>?_,by rw[←i];exact g.app,λp c=>?_⟩
 ·have a:(b.map (·.d)).head?=some p.d:=(by rw[List.head?_map,c];rfl);rw[←h,List.head?_map]at a;obtain⟨q,f,e⟩:=Option.map_eq_some_iff.1 a;rw[←e];exact g.bs q f
 ·have a:p.d∈b.map (·.d):=Y3.2 ⟨p,c,rfl⟩;rw[←h]at a;obtain⟨q,f,e⟩:=Y3.1 a;rw[←e];exact g.cnt q f
 ·have a:(b.map (·.d)).getLast?=some p.d:=(by rw[List.getLast?_map,c];rfl);rw[←h,List.getLast?_map]at a;obtain⟨q,f,e⟩:=Option.map_eq_some_iff.1 a;rw[←e,←hst];exact g.at_ q f
structure Opened(d:DiD)(cb cg:Int)(k:JoD):Prop where
 P:d.P
 cfg:mayC cb cg
 dn:d.dn=false
 good:GoodR (rowK d.fs).1 (keptF d.fs) (baseF d.fs)
 men:menD d=(k.dk,0)
 eq:k=anewJ k.dk cb cg k.st.q false
 st:k.st=stR (rowK d.fs).1 (keptF d.fs) (baseF d.fs)
 right:RightJ k
theorem stR_qk{l a:List FiD}(h:DkR l a)(b:GoodR (a.map (ptF scF)) (keptF l) (baseF l)):keptF l≤(stR (a.map (ptF scF)) (keptF l) (baseF l)).q:=by
 rcases Y2 a with rfl|⟨a,g,rfl⟩
 ·show keptF l≤(baseF l).q;rw[Zm1];exact Int.le_refl _
 ·rw[List.concat_eq_append]at h b⊢;rw[stR_q h b];exact h.kept (ptF scF g) (by simp)
theorem Znz{d:DiD}{c e:Int}{k:JoD}(h:openP d c e=(k,0)):Opened d c e k:=by
 unfold openP at h
 split at h
 ·cases h
 rename_i b;have b:=Yo.1 b
 split at h
 ·cases h
 rename_i m
 split at h
 ·cases h
 rename_i g;have g:=Yo.1 g
 split at h
 ·rename_i f;rw[Prod.mk.injEq]at h;exact absurd h.2 f
 rename_i f;have f:(menD d).2=0:=(by simpa using f);have j:d.dn=false:=by simpa using m
 obtain⟨a,hm⟩:∃a,menD d=(a,0):=⟨_,by rw[←f]⟩
 rw[hm,Prod.mk.injEq]at h;have n:=h.1;rw[Zlb]at hm;obtain⟨e1,i⟩:=Zwk b.1.2.2.2 g hm c e (stR (rowK d.fs).1 (keptF d.fs) (baseF d.fs)).q false;rw[←Zlb]at hm;have o:a.P:=by have:=Zq4 (mendP (rowK d.fs).1 (rowK d.fs).2) b.1;rw[show runP d _=(a,0)from hm]at this;exact this
 have p:=(Zpg _ (show runP d (mendP (rowK d.fs).1 (rowK d.fs).2)=(a,0)from hm)).1;have l:k=anewJ a c e (stR (rowK d.fs).1 (keptF d.fs) (baseF d.fs)).q false:=(by rw[e1,←n]);have hst:(anewJ a c e (stR (rowK d.fs).1 (keptF d.fs) (baseF d.fs)).q false).st=stR (rowK d.fs).1 (keptF d.fs) (baseF d.fs):=(by rw[e1]);have s:keptF a.fs=keptF d.fs:=kept_same e1;have r:keptF a.fs≤(stR (rowK d.fs).1 (keptF d.fs) (baseF d.fs)).q:=(by have:=i.st;rw[hst]at this;rw[this];exact stR_qk i.dkr i.good);subst l;refine⟨b.1,b.2,j,g,hm,?_,hst,Zv7 i b.2 o (by rw[p];exact j) r (by rw[hst];exact Int.le_refl _)⟩;rw[hst];rfl
theorem Zy3{d a:DiD}{cb cg:Int}(b:d.P)(h:mayC cb cg)(c:d.dn=false)(e:GoodR (rowK d.fs).1 (keptF d.fs) (baseF d.fs))(f:menD d=(a,0)):openP d cb cg=(anewJ a cb cg (stR (rowK d.fs).1 (keptF d.fs) (baseF d.fs)).q false,0):=by
 have g:=f;rw[Zlb]at g;obtain⟨e1,_⟩:=Zwk b.2.2.2 e g cb cg (stR (rowK d.fs).1 (keptF d.fs) (baseF d.fs)).q false;unfold openP;rw[if_neg (by simp[b,h]),if_neg (by simp[c]),if_neg (by simp[e]),f,if_neg (by simp),e1]
theorem jo0_no(d:DiD):evsJ (jo0 d)=[]:=by
 unfold evsJ;rw[if_neg];intro h;have:=h.cfg.1;simp[jo0]at this
theorem open_no{d:DiD}{b c:Int}(e:d.P)(a:d.dn=false)(hst:d.st= -1)(h:(openP d b c).2≠0):(openP d b c).1=jo0 d:=by
 unfold openP at h⊢
 split
 ·rfl
 rename_i f;rw[if_neg f]at h;rw[if_neg (by simp[a])]at h⊢
 split
 ·rfl
 rename_i g;rw[if_neg g,if_neg (by simp[mend_well e a hst])]at h;exact absurd rfl h
theorem Ztt{d:DiD}(a:d.P)(b:Lst d.fs)(c:List Int):Zcj d c (-1)=(⟨d.fs,d.rm,-1,false⟩,0):=by
 unfold Zcj;rw[if_neg (by simp[a])];congr 2;unfold wakeL;apply List.ext_getElem
 ·simp
 ·intro i g e;rw[List.getElem_mapIdx];have:=b _ (List.getElem_mem e)
  cases hf:d.fs[i]with
  |mk nm h f=>rw[hf]at this;have this:f=[]:=this;subst this;simp[wakeF]
theorem Zy4(b:List Int)(l:List FiD):Lst (wakeL b l):=by
 intro f a;unfold wakeL at a;obtain⟨i,c,e⟩:=List.mem_iff_getElem.1 a;rw[List.getElem_mapIdx]at e;rw[←e];rfl
theorem men_row{d a:DiD}(c:Go.Px.srt FiD.nm d.fs)(b:menD d=(a,0)):(rowK a.fs).1.map (·.d)=(rowK d.fs).1.map (·.d)∧Same d a:=by
 rw[Zlb]at b;obtain⟨h,e,_,_,f,_,_,g⟩:=Ztk c b;rw[e,g];exact⟨by rw[List.map_map,List.map_map];rfl,f⟩
theorem Zy5{d:DiD}{f g:Int}{j:JoD}(hst:d.st= -1)(D:Lst d.fs)(Q:openP d f g=(j,0)):
  openP j.dk f g=(j,0)∧Lst j.dk.fs∧j.dk.st= -1∧∀k:Int,0≤k→((openP (bnd d k) f g).2=0∨(openP (bnd d k) f g).2=16)∧(openP (bnd d k) f g).1.dk.P∧∀p:List Int,(Zcj (openP (bnd d k) f g).1.dk p (-1)).2=0∧openP (Zcj (openP (bnd d k) f g).1.dk p (-1)).1 f g=(j,0):=by
 have O:=Znz Q;have l:=Zld O.P.2.2.1;have h:runP d (mendP (rowK d.fs).1 (rowK d.fs).2)=(j.dk,0):=O.men;obtain⟨E,F,z,G,U⟩:=Zsc _ O.P O.dn hst l D h;have L:=O.men;rw[Zlb]at L;obtain⟨_,_,_,_,H,_,A,V⟩:=Zyr O.P O.dn hst O.good L;rw[←Zlb]at A
 have fin:∀{da:DiD},da.P→da.dn=false→menD da=(j.dk,0)→openP da f g=(j,0):=λ{da} hP hdn hm=>by
  obtain⟨J,m⟩:=men_row hP.2.2.2 hm;have hg:GoodR (rowK da.fs).1 (keptF da.fs) (baseF da.fs):=by rw[m.kept,m.base]at H;exact goodR_d J H
  have hq:stR (rowK da.fs).1 (keptF da.fs) (baseF da.fs)=j.st:=(by rw[O.st,←V,m.kept,m.base];unfold stR;rw[evsR_d J]);rw[Zy3 hP O.cfg hdn hg hm,hq,←O.eq]
 have n:∀{y:List FiD} {da:DiD},da.fs=y→da.rm=d.rm→da.st= -1→da.dn=false→(⟨y,d.rm,-1,false⟩:DiD)=da:=λ{y da} a b c e=>by
  cases da
  simp_all
 refine⟨fin F z A,E,G,λk R=>?_⟩;have w:(bnd d k).P:=bnd_P O.P (by omega);have t:menD (bnd d k)=runP (bnd d k) (mendP (rowK d.fs).1 (rowK d.fs).2):=rfl;have x:openP (bnd d k) f g=if(menD (bnd d k)).2≠0 then(jo0 (menD (bnd d k)).1,(menD (bnd d k)).2)else(⟨(menD (bnd d k)).1,f,g,(rowK d.fs).1.map sgOf,Zbl (rowK d.fs).1,stR (rowK d.fs).1 (keptF d.fs) (baseF d.fs),(stR (rowK d.fs).1 (keptF d.fs) (baseF d.fs)).q,keptF d.fs,false⟩,0):=(by show openP (bnd d k) f g=_;unfold openP;rw[if_neg (by simp[w,O.cfg]),if_neg (show¬(bnd d k).dn=true from by show¬d.dn=true;simp[O.dn]),if_neg (show¬¬GoodR (rowK (bnd d k).fs).1 (keptF (bnd d k).fs) (baseF (bnd d k).fs)from by show¬¬GoodR (rowK d.fs).1 (keptF d.fs) (baseF d.fs);simp[O.good])];rfl);have o:(menD (bnd d k)).1.P:=by rw[t];exact Zq4 _ w
 rcases run_bnd _ O.P O.dn hst R l (by rw[h])with⟨r,i,c3,C⟩|⟨a,b,da,e1,e2,e3,r,i,c3,C⟩
 ·rw[←t]at r i c3 C;rw[x,if_neg (by simp[r])];refine⟨.inl rfl,o,λp=>?_⟩;have u:Lst (menD (bnd d k)).1.fs:=by rw[i,h];exact E
  rw[Ztt o u];refine⟨rfl,?_⟩
  dsimp only
  rw[c3,n (da:=j.dk) (by rw[i,h]) U G z];exact fin F z A
 ·rw[←t]at r i c3 C;rw[x,if_pos (by rw[r];simp)];refine⟨.inr r,o,λp=>?_⟩;have M:∀s∈a,s.men∧fnB s.nm=true:=λs T=>l s (by rw[e1];simp[T]);obtain⟨W,X,K,Y,Z⟩:=Zsc a O.P O.dn hst M D e3;have u:Lst (menD (bnd d k)).1.fs:=by rw[i];exact W
  show(Zcj (menD (bnd d k)).1 p (-1)).2=0∧openP (Zcj (menD (bnd d k)).1 p (-1)).1 f g=(j,0)
  rw[Ztt o u];refine⟨rfl,?_⟩
  dsimp only
  rw[c3,n (da:=da) i.symm Z Y K];refine fin X K ?_
  have hb:runP da b=(j.dk,0):=by
   rw[e1]at h;obtain⟨d1,v,r3⟩:=Zkb a b h;rw[e3]at v
   cases v
   exact r3
  have N:mendS (rowK d.fs).1 (rowK d.fs).2=a.map Stp.run++b.map Stp.run:=(by rw[←Zn5 (Zm4 d.fs),e1,List.map_append]);rw[Zpw]at e3;obtain⟨v,_⟩:=Zpj _ _ O.P.2.2.2 N (by simp[e2]) e3;rw[Zlb,v,←Zpw];exact hb
theorem Zy6{j k:JoD}(a:RightJ j)(h:synQ j=(k,0)):RightJ k∧k.st=j.st∧evsJ k=evsJ j∧k.sure=j.st.q∧k.cb=j.cb∧k.cg=j.cg∧k.shut=j.shut∧k.kept=j.kept∧k.dk.rm=j.dk.rm:=by
 obtain⟨y,z,R⟩:=Zv8 a
 have c:RightJ {j with sure:=j.st.q}∧evsJ {j with sure:=j.st.q}=evsJ j:=by
  have:RightJ {j with sure:=j.st.q}:=by
   refine⟨a.cfg,a.dk,a.up,a.out,a.good,a.all,?_,⟨Int.le_trans y z,Int.le_refl _⟩⟩;have e:=a.eq;unfold anewJ;have e1:=congrArg JoD.sg e;have e2:=congrArg JoD.cx e;have n:=congrArg JoD.st e;have o:=congrArg JoD.kept e
   dsimp only[anewJ]at e1 e2 n o
   dsimp only
   rw[←e1,←e2,←n,←o]
  refine⟨this,?_⟩;unfold evsJ;rw[if_pos this,if_pos a]
 unfold synQ at h
 rcases Znj j a with⟨A,m⟩|⟨gs,g,A,hp,m⟩
 ·rw[show lasS j.sg=none from by rw[m];rfl]at h;have h:({j with sure:=j.st.q},(0:Int))=(k,0):=h
  cases h
  exact⟨c.1,rfl,c.2,rfl,rfl,rfl,rfl,rfl,rfl⟩
 have t:=congrArg lasS m;rw[Zas]at t;rw[t]at h
 dsimp only at h
 split at h
 ·cases h
  exact⟨c.1,rfl,c.2,rfl,rfl,rfl,rfl,rfl,rfl⟩
 rename_i Q
 split at h
 ·rename_i l;rw[Prod.mk.injEq]at h;exact absurd h.2 l
 rename_i l;have l:(Za3 j.dk (nmG (scF g).num)).2=0:=Yo.1 l
 obtain⟨b,hd⟩:∃b,Za3 j.dk (nmG (scF g).num)=(b,0):=⟨_,YA rfl l⟩
 have h:({j with dk:=(Za3 j.dk (nmG (scF g).num)).1,sure:=j.st.q},(0:Int))=(k,0):=h;rw[hd]at h
 cases h
 obtain⟨L,M,b3,C,b5,w⟩:=hp.in_;obtain⟨_,f,D,i,E,F⟩:=Zh6 hd;have H:g∈j.dk.fs:=(List.mem_filter.1 (show g∈segs j.dk.fs by rw[A];simp)).1;have J:f=g:=(by rw[←C,Zjj hp.dkr.srt H]at D;exact(Option.some.inj D).symm);subst J;rw[←C]at i;have K:byF ⟨f.nm,f.su++f.lo,[]⟩=segL (scF f):=(by rw[Zur,M]);have x:(⟨f.nm,f.su++f.lo,[]⟩:FiD).len=f.len:=(by simp[FiD.len]);obtain⟨N,G⟩:=Zk1 hp.dkr (f:=⟨f.nm,f.su++f.lo,[]⟩) rfl w L K rfl rfl rfl (hp.dkr.kept (ptF scF f) (by simp));rw[←i]at N G;have d:rowK b.fs=rowK j.dk.fs:=(by rw[G,Zc5 hp.dkr,x];simp[ptF]);have r:keptF b.fs=keptF j.dk.fs:=(by rw[i];exact Zcg w);have u:baseF b.fs=baseF j.dk.fs:=(by rw[i];exact Zdq w);have O:b.P:=by have:=Zj8 (s:=nmG (scF f).num) a.dk;rw[hd]at this;exact this
 have v:RightJ {j with dk:=b,sure:=j.st.q}:=by
  refine⟨a.cfg,O,by show b.dn=false;rw[F];exact a.up,by show(rowK b.fs).2=[];rw[d];exact a.out,?_,by show∀p∈(rowK b.fs).1,_;rw[d];exact a.all,?_,?_⟩
  ·show GoodR (rowK b.fs).1 (keptF b.fs) (baseF b.fs);rw[d,r,u];exact a.good
  ·have e:=a.eq;show _=anewJ b j.cb j.cg j.st.q j.shut;unfold anewJ;rw[d,r,u];have e1:=congrArg JoD.sg e;have e2:=congrArg JoD.cx e;have n:=congrArg JoD.st e;have o:=congrArg JoD.kept e
   dsimp only[anewJ]at e1 e2 n o
   rw[←e1,←e2,←n,←o]
  ·show keptF b.fs≤j.st.q∧j.st.q≤j.st.q;rw[r];exact⟨Int.le_trans y z,Int.le_refl _⟩
 refine⟨v,rfl,?_,rfl,rfl,rfl,rfl,rfl,E⟩;unfold evsJ;rw[if_pos v,if_pos a];show(rowK b.fs).1.flatMap _=_;rw[d]
end Jou
namespace Jou
open Go Go.Px Go.Proofs Cod Seg Sgr Snp Sx Row Dsk Tryz
theorem lim_P{d:StD}(h:d.P):lim d:=by
 refine⟨by have:=h.1.1;omega,λc a=>?_⟩;have:=(h.2.1 c a).2;unfold Cmp.CoD.roleP at this
 split at this
 ·have:=this.1.2.2.2.1.2;omega
 ·split at this
  ·rw[this.1.1.2.2.2];simp
  ·rw[this.2.1.2.2.2];simp
theorem ev_len{p:Pt}(h:PtK p):p.d.ev.length≤(segL p.d).length:=by
 have b:∀(l:List Cod.EvD) (s a:Int) (m:List ByteArray),l.length≤(recL s a m l).length:=λl=>by
  induction l with
  |nil=>intro s a m;simp
  |cons e l f=>
   intro s a m;rw[recL,List.length_append,List.length_cons];have:=f e.s e.a (bhdN m e.c);have g:0<(fr 2 (encL s a m e)).length:=by unfold fr sealB;simp
   omega
 rw[Zcm h.ne,List.length_append,List.length_append];have:=b p.d.ev p.d.bs p.d.ba [];omega
theorem jrep_fn(r:List Pt)(G:∀p∈r,PtK p)(T:r.length≤1000000)(s:StD)(H:s.P):Ct prog 114 {} [SL 11 (ptR r),s.sv] (λx=>x=[(repP r s).1.sv,B (repP r s).2]):=by
 refine Zx6 (Zaa (λh=>?_) (λh=>?_))
 ·have:r=[]:=List.length_eq_zero_iff.1 (by simpa using h);subst this;rfl
 have J:0<r.length:=by
  rcases YL r.length with e|e
  ·simp[e]at h
  ·exact e
 have z:r.head?=some r[0]:=(by cases r with|nil=>simp at J|cons x l=>rfl);have v:r.length-1<r.length:=(by omega);have A:r.getLast?=some r[r.length-1]:=(by rw[List.getLast?_eq_getElem?];simp[v]);have k:repP r s=if s.q<r[0].d.bs then(s,false)else if(repR s.q s r).2=false then repR s.q s r else((repR s.q s r).1,decide (r[r.length-1].d.a=(repR s.q s r).1.t)):=(by unfold repP;rw[z,A]);refine⟨inM _ (by omega) (by omega),_,_,_,_,_,_,_,_,_,_,_,Za9 ptRow r 0 (by omega) (by omega),Zaa (λo=>?_) (λo=>?_)⟩
 ·simp at o;rw[k,if_pos o]
 simp at o;rw[if_neg (by omega)]at k;refine⟨λx l q t=>∃b:StD,l=coR b.cs∧q=b.q∧t=b.t∧lim b∧0≤x∧x≤r.length∧repR s.q b (r.drop x.toNat)=repR s.q s r,λx _ _ _=>(r.length-x).toNat,⟨s,rfl,rfl,rfl,lim_P H,by omega,by omega,by simp⟩,?_⟩;rintro x l q t ⟨b,rfl,rfl,rfl,hL,x0,hx,he⟩;have C:rlen (ptR r)=r.length:=(by simp);rw[C];refine Zaa (λg=>?_) (λg=>?_)
 rotate_left
 ·simp at g;have K:x.toNat=r.length:=(by omega);rw[K,List.drop_length,repR]at he;have L:wsub IntKind.i64 (r.length:Int) 1=((r.length-1:Nat):Int):=by rw[Zar (by omega) (by omega)];omega
  rw[L];refine⟨inM _ (by omega) (by omega),_,_,_,_,_,_,_,_,_,_,_,Zfu v,?_⟩
  dsimp only
  rw[k,←he,if_neg (by simp)];simp
 simp at g;have w:x.toNat<r.length:=(by omega);have m:=G _ (List.getElem_mem w);have D:r.drop x.toNat=r[x.toNat]::r.drop (x.toNat+1):=List.drop_eq_getElem_cons w;rw[D,repR]at he;have M:=m.bs;have N:=m.s;unfold ctxOK at M N;refine⟨inM _ x0 g,_,_,_,_,_,_,_,_,_,_,_,Za9 ptRow r x x0 g,?_⟩
 dsimp only
 rw[Zar (by omega) (by omega)];have E:rlen (evR r[x.toNat].d.ev)=r[x.toNat].d.ev.length:=(by simp);rw[E];refine Zaa (λc=>?_) (λc=>?_)
 ·have c:(r[x.toNat].d.ev.length:Int)≠r[x.toNat].d.s-r[x.toNat].d.bs:=(by simpa using c);rw[if_pos c]at he;rw[k,←he];rfl
 have c:¬(r[x.toNat].d.ev.length:Int)≠r[x.toNat].d.s-r[x.toNat].d.bs:=(by simpa using c);rw[if_neg c]at he;refine⟨λy l q t=>∃u:StD,l=coR u.cs∧q=u.q∧t=u.t∧lim u∧0≤y∧y≤r[x.toNat].d.ev.length∧repE s.q u (r[x.toNat].d.ev.drop y.toNat)=repE s.q b r[x.toNat].d.ev,λy _ _ _=>(r[x.toNat].d.ev.length-y).toNat,⟨b,rfl,rfl,rfl,hL,by omega,by omega,by simp⟩,?_⟩;rintro y l q t ⟨u,rfl,rfl,rfl,hU,y0,hy,hu⟩;refine Zaa (λi=>?_) (λi=>?_)
 rotate_left
 ·simp at i;have O:y.toNat=r[x.toNat].d.ev.length:=(by omega);rw[O,List.drop_length,repE]at hu;rw[←hu,if_neg (by simp)]at he;rw[Zac (by omega) (by omega)];exact⟨rfl,⟨u,rfl,rfl,rfl,hU,by omega,by omega,by rw[show(x+1).toNat=x.toNat+1 by omega];exact he⟩,mlt (by first|omega|(dsimp only;omega))⟩
 simp at i;have F:y.toNat<r[x.toNat].d.ev.length:=(by omega);have Q:=ev_len m;rw[List.drop_eq_getElem_cons F,repE]at hu;have R:(r[x.toNat].d.ev.length:Int)≤9223372036854775806:=by have:=m.le;have:=m.n;omega
 refine⟨inM _ y0 i,_,_,_,_,_,_,_,Za9 _ _ y y0 i,Zaa (λj=>?_) (λj=>Cl.of (Zp7 u (by have:=hU.1;omega) (toE r[x.toNat].d.ev[y.toNat])) ⟨_,_,_,_,rfl,Zaa (λf=>?_) (λf=>?_)⟩)⟩
 ·simp at j;rw[if_pos j]at hu;rw[Zac (by omega) (by omega)];exact⟨rfl,⟨u,rfl,rfl,rfl,hU,by omega,by omega,by rw[show(y+1).toNat=y.toNat+1 by omega];exact hu⟩,mlt (by first|omega|(dsimp only;omega))⟩
 ·simp at j;rw[if_neg (by omega)]at hu;have f:(appS u (toE r[x.toNat].d.ev[y.toNat])).2≠0:=(by simpa using f);rw[if_pos f]at hu;rw[←hu,if_pos rfl]at he;rw[k,←he];rfl
 ·simp at j;rw[if_neg (by omega)]at hu;have f:(appS u (toE r[x.toNat].d.ev[y.toNat])).2=0:=(by simpa using f);rw[if_neg (by simp[f])]at hu;rw[Zac (by omega) (by omega)];exact⟨rfl,⟨_,rfl,rfl,rfl,lim_app hU _,by omega,by omega,by rw[show(y+1).toNat=y.toNat+1 by omega];exact hu⟩,mlt (by first|omega|(dsimp only;omega))⟩
theorem new_cases{d:DiD}(a:d.P)(b:d.dn=false){s:StD}{e:Int}(h:NewR d s e):(e=0∧keptF d.fs=s.q∧baseF d.fs=s)∨(e=14∧s=st0∧keptF d.fs=0∧baseF d.fs=st0):=by
 rcases h with⟨h,_⟩|⟨_,h,_⟩|⟨_,_,⟨he,hb⟩|⟨he,hs,hb⟩⟩
 ·exact absurd a h
 ·rw[b]at h;cases h
 ·have:=Ztl a.2.2.2 hb;exact .inl ⟨he,by unfold keptF;rw[this],by unfold baseF;rw[this]⟩
 ·have:=Ztl a.2.2.2 hb;exact .inr ⟨he,hs,by unfold keptF;rw[this],by unfold baseF;rw[this]⟩
theorem Zqe(b:FiD→Sc):∀(l:List FiD) (a:List Pt×List ByteArray),(l.foldl (rstep b) a).1.length+(l.foldl (rstep b) a).2.length≤a.1.length+a.2.length+l.length
 | [],a=>by simp
 |f::l,a=>by
  rw[List.foldl_cons];have h:=Zqe b l (rstep b a f)
  have:(rstep b a f).1.length+(rstep b a f).2.length≤a.1.length+a.2.length+1:=by
   unfold rstep
   split
   ·omega
   ·split<;>simp<;>omega
  simp only[List.length_cons];omega
theorem Zu0(l:List FiD):(rowsD scF l).1.length+(rowsD scF l).2.length≤l.length:=by
 have:=Zqe scF l ([],[])
 simpa[rowsD]using this
theorem Zot(l:List FiD):(rowK l).1.length≤l.length∧(rowK l).2.length≤l.length:=by
 have:=Zu0 l;unfold rowK
 split
 ·omega
 ·split
  ·simp;omega
  ·omega
theorem rowK_K{l:List FiD}(h:∀p∈(rowsD scF l).1,PtK p):∀p∈(rowK l).1,PtK p:=by
 unfold rowK
 split
 ·exact h
 ·split
  ·simp
  ·exact h
noncomputable abbrev FdV(d:DiD):SV:=fd7 (ptR (rowK d.fs).1) (nR (rowK d.fs).2) (keptF d.fs) (coR (repP (rowK d.fs).1 (baseF d.fs)).1.cs) (repP (rowK d.fs).1 (baseF d.fs)).1.q (repP (rowK d.fs).1 (baseF d.fs)).1.t (repP (rowK d.fs).1 (baseF d.fs)).2
theorem Zm8{r:List Pt}(C:r.length≤1000000)(n:∀p∈r,PtK p){X:Prop}{K:List (List SV)→Prop}(o:X)(q:K (nR (r.map λp=>Jou.segNm p.d.num))):
  ∃c:List (List SV)→Int→Prop,∃m:List (List SV)→Int→Nat,c [] 0∧∀b:List (List SV),∀a:Int,c b a→ifB (ilt a (rlen (ptR r))) (inR a (ptR r)∧(ej3 (rget (ptR r) a) λi t u D E v w F y z A=>
   (Cl prog 88 sP [I i] (λ(g:List SV)=>ej2 g λs=>(((lsum (rlen b) (rlen ([[S s]])))≤((2147483648:Int)))∧(X∧((c (rapp b ([[S s]])) (wadd IntKind.i64 a 1))∧(Nat.le (Nat.succ (m (rapp b ([[S s]])) (wadd IntKind.i64 a 1))) (m b a))))))))) (K b):=by
 refine⟨λl x=>0≤x∧x≤r.length∧l=nR ((r.take x.toNat).map λp=>Jou.segNm p.d.num),λ_ x=>(r.length-x).toNat,⟨by omega,by omega,by simp⟩,?_⟩;rintro l x ⟨x0,hx,rfl⟩;have j:rlen (ptR r)=r.length:=(by simp);rw[j];refine Zaa (λh=>?_) (λh=>?_)
 ·simp at h;have f:x.toNat<r.length:=(by omega);have k:r.take (x+1).toNat=r.take x.toNat++[r[x.toNat]]:=(by rw[show(x+1).toNat=x.toNat+1 by omega,List.take_succ_eq_append_getElem f]);refine⟨inM _ x0 h,_,_,_,_,_,_,_,_,_,_,_,Za9 ptRow r x x0 h,Cl.of (Zc9 _) ⟨_,rfl,?_,o,?_,?_⟩⟩
  ·simp;omega
  ·rw[Zac (by omega) (by omega)];refine⟨by omega,by omega,?_⟩;have:=Zgt (n _ (List.getElem_mem f)).num;unfold nmG at this;rw[k,List.map_append,this];unfold rapp nR;rw[List.map_append];rfl
  ·rw[Zac (by omega) (by omega)];exact mlt (by first|omega|(dsimp only;omega))
 ·simp at h;have e:x.toNat=r.length:=(by omega);rw[e,Yb];exact q
theorem Zou(d:DiD)(q:d.ok)(n:d.P)(j:d.dn=false):Ct prog 51 {} [d.sv] (λr=>r=[FdV d]∧∀p∈(rowK d.fs).1,PtK p):=by
 have A:=n.1.1;refine jlook_nf (Cl.ofQ (jrows_fn d q n j) ?_);rintro r ⟨rfl,hK⟩;have b:=rowK_K hK;have E:=Zu0 d.fs;refine⟨_,_,rfl,Cl.ofQ (nnew_fn d q) ?_⟩;rintro r ⟨s,e,rfl,hn⟩;have t:=base_P d.fs;have a:=jrep_fn (rowK d.fs).1 b (by have:=Zot d.fs;omega) (baseF d.fs) t
 have i:∀(k:Int) (X Y Z:Prop),k=keptF d.fs→((rowK d.fs)=([],(rowsD scF d.fs).1.map (λp=>segNm p.d.num)++(rowsD scF d.fs).2)→X)→(rowK d.fs=rowsD scF d.fs→Y)→(rowK d.fs=rowsD scF d.fs→Z)→
   ifB (igt (rlen (ptR (rowsD scF d.fs).1)) 0) (inR (wsub IntKind.i64 (rlen (ptR (rowsD scF d.fs).1)) 1) (ptR (rowsD scF d.fs).1)∧(ej3 (rget (ptR (rowsD scF d.fs).1) (wsub IntKind.i64 (rlen (ptR (rowsD scF d.fs).1)) 1)) λF G H J K w L M N O D=>ifB (ilt w k) X Y)) Z:=by
  intro k X Y Z c x y z;generalize a:rowsD scF d.fs=R at*;have u:rlen (ptR R.1)=R.1.length:=(by simp);rw[u]
  have f:rowK d.fs=match R.1.getLast? with|none=>R|some p=>if p.d.s<keptF d.fs then([],R.1.map (λp=>segNm p.d.num)++R.2)else R:=by unfold rowK;rw[a];rfl
  refine Zaa (λh=>?_) (λh=>?_)
  ·simp at h;have l:R.1.length-1<R.1.length:=(by omega);have C:wsub IntKind.i64 (R.1.length:Int) 1=((R.1.length-1:Nat):Int):=by rw[Zar (by omega) (by omega)];omega
   have v:R.1.getLast?=some R.1[R.1.length-1]:=(by rw[List.getLast?_eq_getElem?];simp[l]);rw[v]at f
   dsimp only at f
   rw[C];refine⟨inM _ (by omega) (by omega),_,_,_,_,_,_,_,_,_,_,_,Zfu l,Zaa (λo=>x ?_) (λo=>y ?_)⟩
   ·simp at o;rw[f,if_pos (by omega)]
   ·simp at o;rw[f,if_neg (by omega)]
  ·have h:R.1=[]:=(by simpa using h);have:R.1.getLast?=none:=(by rw[h];rfl);rw[this]at f;exact z f
 have m:(rowsD scF d.fs).1.length≤1000000:=by omega
 rcases new_cases n j hn with⟨rfl,c,g⟩|⟨rfl,rfl,c,g⟩
 ·refine⟨_,_,_,_,rfl,Zaa (λ_=>?_) (λh=>by simp at h)⟩;rw[g]at a;refine i _ _ _ _ c.symm (λer=>Zm8 m hK rfl ⟨?_,?_⟩) (λer=>?_) (λer=>?_)
  ·simp;omega
  ·rw[er]at a;refine Cl.of a ⟨_,_,_,_,rfl,⟨?_,b⟩⟩;simp only[FdV,er,c,g];rw[Zj1];rfl
  ·rw[er]at a;refine Cl.of a ⟨_,_,_,_,rfl,⟨?_,b⟩⟩;simp only[FdV,er,c,g]
  ·rw[er]at a;refine Cl.of a ⟨_,_,_,_,rfl,⟨?_,b⟩⟩;simp only[FdV,er,c,g]
 ·refine⟨_,_,_,_,rfl,Zaa (λh=>by simp at h) (λ_=>?_)⟩;rw[g]at a;refine i _ _ _ _ c.symm (λer=>Zm8 m hK rfl ⟨?_,?_⟩) (λer=>?_) (λer=>?_)
  ·simp;omega
  ·rw[er]at a;refine Cl.of a ⟨_,_,_,_,rfl,⟨?_,b⟩⟩;simp only[FdV,er,c,g];rw[Zj1];rfl
  ·rw[er]at a;refine Cl.of a ⟨_,_,_,_,rfl,⟨?_,b⟩⟩;simp only[FdV,er,c,g]
  ·rw[er]at a;refine Cl.of a ⟨_,_,_,_,rfl,⟨?_,b⟩⟩;simp only[FdV,er,c,g]
theorem Zwy(s:ByteArray):Ct prog 116 {} [S s] (λr=>r=[.clo 184 [.ref 0 [S s]]]):=Zx1 rfl
theorem jcut_fn(s:ByteArray)(n:Int):Ct prog 118 {} [S s,I n] (λr=>r=[.clo 186 [.ref 0 [S s],.ref 0 [I n]]]):=jcut_nf rfl
theorem Zhl(s:ByteArray):Ct prog 87 {} [S s] (λr=>r=[.clo 150 [.ref 0 [S s]]]):=jsync_nf rfl
theorem Zwz(s:ByteArray):Ct prog 142 {} [S s] (λr=>r=[.clo 206 [.ref 0 [S s]]]):=Zx2 rfl
theorem Zzc(s:ByteArray)(x:List UInt8):Ct prog 205 {} [S s,SL 1 (uR x)] (λr=>r=[.clo 276 [.ref 0 [S s],.ref 0 [SL 1 (uR x)]]]):=jwrite_nf rfl
theorem backs_fn(a:List (List SV)):Ct prog 115 {} [SL 1 a] (λr=>r=[.clo 183 [.ref 0 [SL 1 a]]]):=backs_nf rfl
theorem backp_fn(a:List (List SV)):Ct prog 117 {} [SL 11 a] (λr=>r=[.clo 185 [.ref 0 [SL 11 a]]]):=backp_nf rfl
theorem rev_at{a:Type}(l:List a)(x:Int)(b:0≤x)(h:x<l.length):∃c:x.toNat<l.reverse.length,kdn (l.length:Int) x=((l.length-1-x.toNat:Nat):Int)∧∃d:l.length-1-x.toNat<l.length,l[l.length-1-x.toNat]=l.reverse[x.toNat]:=by
 refine⟨by simp;omega,by unfold kdn;omega,by omega,?_⟩;rw[List.getElem_reverse]
theorem mend_fn(r:List Pt)(o:List ByteArray)(m:Int)(A:List (List SV))(s a:Int)(n:Bool)(D:r.length≤1000)(E:o.length≤1000):Ct prog 53 {} [fd7 (ptR r) (nR o) m A s a n] (λx=>x=[SL 1 (tR (mendP r o))]):=by
 have i:rlen (nR o)=o.length:=(by simp);have j:rlen (ptR r)=r.length:=(by simp);have w:∀p:Pt,(cutP p).length≤1:=λp=>by unfold cutP;split<;>simp
 have c:∀l:List Pt,(l.flatMap cutP).length≤l.length:=λl=>by
  induction l with
  |nil=>simp
  |cons p l F=>rw[List.flatMap_cons,List.length_append,List.length_cons];have:=w p;omega
 refine mend_nf _ _ _ _ _ _ _ _ (Cl.of (backs_fn _) ⟨_,_,rfl,_,rfl,rfl,by rw[i];omega,?_⟩);rw[i];refine⟨λx l=>0≤x∧x≤o.length∧l=tR ((o.reverse.take x.toNat).map Stp.rem),⟨by omega,by omega,by simp⟩,?_,?_⟩
 ·rintro x q t l ⟨_,_,rfl⟩;obtain⟨u,e1,v,e2⟩:=rev_at o x q t;rw[e1];refine⟨_,Zai _ _ _ v,Cl.of (Zwy _) ⟨_,_,rfl,?_,rfl,?_⟩⟩
  ·simp;omega
  ·unfold kup;refine⟨by omega,by omega,?_⟩;rw[show(x+1).toNat=x.toNat+1 by omega,List.take_succ_eq_append_getElem u,e2];simp[rapp,Stp.row]
 rintro l ⟨_,_,rfl⟩;rw[Int.toNat_natCast,show o.reverse.take o.length=o.reverse from List.take_of_length_le (by simp)];refine Cl.of (backp_fn _) ⟨_,_,rfl,_,rfl,rfl,by rw[j];omega,?_⟩;rw[j];refine⟨λx l=>0≤x∧x≤r.length∧l=tR (o.reverse.map Stp.rem++(r.reverse.take x.toNat).flatMap cutP),⟨by omega,by omega,by simp⟩,?_,?_⟩
 ·rintro x q t l ⟨_,_,rfl⟩;obtain⟨u,e1,v,e2⟩:=rev_at r x q t;have k:r.reverse.take (kup x).toNat=r.reverse.take x.toNat++[r.reverse[x.toNat]]:=(by unfold kup;rw[show(x+1).toNat=x.toNat+1 by omega,List.take_succ_eq_append_getElem u]);have f:=c (r.reverse.take x.toNat);have y:(r.reverse.take x.toNat).length≤1000:=(by simp;omega);rw[e1];refine⟨_,_,_,_,_,_,_,_,_,_,_,Zfu v,Zaa (λh=>Cl.of (Zc9 _) ⟨_,rfl,Cl.of (jcut_fn _ _) ⟨_,_,rfl,?_,rfl,?_⟩⟩) (λh=>⟨rfl,?_⟩)⟩
  ·simp at f y⊢;omega
  ·refine⟨by unfold kup;omega,by unfold kup;omega,?_⟩;rw[k,List.flatMap_append,←e2];simp at h;have:cutP r[r.length-1-x.toNat]=[.cut (nmG r[r.length-1-x.toNat].d.num) (segL r[r.length-1-x.toNat].d).length]:=by unfold cutP;rw[if_pos h]
   simp[rapp,this,Stp.row]
  ·refine⟨by unfold kup;omega,by unfold kup;omega,?_⟩;rw[k,List.flatMap_append,←e2];simp at h;have:cutP r[r.length-1-x.toNat]=[]:=by unfold cutP;rw[if_neg (by omega)]
   simp[this]
 rintro l ⟨_,_,rfl⟩;rw[Int.toNat_natCast,show r.reverse.take r.length=r.reverse from List.take_of_length_le (by simp)];have f:=c r.reverse;refine Zaa (λh=>?_) (λh=>?_)
 ·have h:0<r.length:=by
   rcases YL r.length with e|e
   ·rw[e]at h;simp at h
   ·exact e
  have g:r.length-1<r.length:=(by omega);have C:wsub IntKind.i64 (r.length:Int) 1=((r.length-1:Nat):Int):=(by rw[Zar (by omega) (by omega)];omega);have z:r.getLast?=some r[r.length-1]:=(by rw[List.getLast?_eq_getElem?];simp[g]);rw[C];refine⟨inM _ (by omega) (by omega),_,_,_,_,_,_,_,_,_,_,_,Zfu g,Zaa (λb=>⟨inM _ (by omega) (by omega),_,_,_,_,_,_,_,_,_,_,_,Zfu g,Cl.of (Zc9 _) ⟨_,rfl,Cl.of (Zhl _) ⟨_,_,rfl,?_,?_⟩⟩⟩) (λb=>?_)⟩
  ·simp only[rlen_eq,List.length_map,List.length_append,List.length_reverse,lsum_eq,List.length_cons,Y6]at f⊢;omega
  ·have b:r[r.length-1].d.sl=false:=(by rw[←Zmz r[r.length-1].d.sl];simpa using b);have:synP r=[.syn (nmG r[r.length-1].d.num)]:=(by unfold synP;rw[z];simp[b]);unfold mendP;rw[this];simp[rapp,Stp.row]
  ·have b:r[r.length-1].d.sl=true:=(by rw[←Zmz r[r.length-1].d.sl];simpa using b);have:synP r=[]:=(by unfold synP;rw[z];simp[b]);unfold mendP;rw[this];simp
 ·have h:r=[]:=(by simpa using h);have:synP r=[]:=(by unfold synP;rw[h];rfl);unfold mendP;rw[this];simp
theorem mendP_ok{r:List Pt}{o:List ByteArray}:∀s∈mendP r o,s.ok:=by
 intro s a;unfold mendP at a
 rcases List.mem_append.1 a with h|h
 ·obtain⟨n,_,rfl⟩:=Y3.1 h;trivial
 ·rcases List.mem_append.1 h with h|h
  ·obtain⟨p,_,h⟩:=List.mem_flatMap.1 h;unfold cutP at h
   split at h
   ·simp at h;subst h;trivial
   ·cases h
  ·unfold synP at h
   split at h
   ·cases h
   ·split at h
    ·cases h
    ·simp at h;subst h;trivial
theorem Zzd{r:List Pt}{o:List ByteArray}:(mendP r o).length≤o.length+r.length+1:=by
 have a:∀l:List Pt,(l.flatMap cutP).length≤l.length:=λl=>by
  induction l with
  |nil=>simp
  |cons p l d=>
   rw[List.flatMap_cons,List.length_append,List.length_cons];have:(cutP p).length≤1:=by unfold cutP;split<;>simp
   omega
 have b:=a r.reverse
 have c:(synP r).length≤1:=by
  unfold synP
  split
  ·simp
  ·split<;>simp
 unfold mendP;simp only[List.length_append,List.length_map,List.length_reverse]at b⊢;omega
def JoD.sv(j:JoD):SV:=jr16 (fR j.dk.fs) j.dk.rm j.dk.st j.dk.dn j.cb j.cg (sgR j.sg) j.cx.s j.cx.a (nR j.cx.m) (coR j.st.cs) j.st.q j.st.t j.sure j.kept j.shut
theorem Zhm(d:DiD):(repP (rowK d.fs).1 (baseF d.fs)).2=true↔GoodR (rowK d.fs).1 (keptF d.fs) (baseF d.fs):=by
 rw[repP_iff,Zm1]
theorem Zze{d:DiD}(h:GoodR (rowK d.fs).1 (keptF d.fs) (baseF d.fs)):(repP (rowK d.fs).1 (baseF d.fs)).1=stR (rowK d.fs).1 (keptF d.fs) (baseF d.fs):=by
 have:=repP_st (r:=(rowK d.fs).1) (s:=baseF d.fs) (by rw[Zm1];exact h);rw[this,Zm1]
theorem Zhn(d:DiD)(j:d.ok)(b c:Int):Ct prog 13 {} [d.sv,.agg [I b,I c]] (λr=>r=[(openP d b c).1.sv,I (openP d b c).2]):=by
 refine jopen_nf (Cl.of (Zeu d j) ⟨_,rfl,Zaa (λh=>?_) (λh=>Cl.of (Zp3 b c) ⟨_,rfl,Zaa (λg=>?_) (λg=>?_)⟩)⟩)
 ·simp at h;unfold openP;rw[if_pos (λq=>h q.1)];rfl
 ·simp at g;unfold openP;rw[if_pos (λq=>g q.2)];rfl
 simp at h g;have k:¬¬(d.P∧mayC b c):=λq=>q ⟨h,g⟩;refine Zaa (λi=>?_) (λi=>?_)
 ·unfold openP;rw[if_neg k,if_pos i];rfl
 have l:=h.1.1;have m:=Zot d.fs;refine Cl.ofQ (Zou d j h i) ?_;rintro r ⟨rfl,hK⟩;refine⟨_,_,_,_,_,_,_,rfl,Zaa (λa=>?_) (λa=>Cl.of (mend_fn _ _ _ _ _ _ _ (by omega) (by omega)) ⟨_,rfl,Cl.of (Zrz d j _ mendP_ok (by have:=Zzd (r:=(rowK d.fs).1) (o:=(rowK d.fs).2);omega)) ⟨_,_,_,_,_,rfl,?_⟩⟩)⟩
 ·have a:¬GoodR (rowK d.fs).1 (keptF d.fs) (baseF d.fs):=(by rw[←Zhm];simpa using a);unfold openP;rw[if_neg k,if_neg (by simp[i]),if_pos a];rfl
 have a:GoodR (rowK d.fs).1 (keptF d.fs) (baseF d.fs):=(by rw[←Zhm];simpa using a);have e:openP d b c=if(menD d).2≠0 then(jo0 (menD d).1,(menD d).2)else(⟨(menD d).1,b,c,(rowK d.fs).1.map sgOf,Zbl (rowK d.fs).1,stR (rowK d.fs).1 (keptF d.fs) (baseF d.fs),(stR (rowK d.fs).1 (keptF d.fs) (baseF d.fs)).q,keptF d.fs,false⟩,0):=(by unfold openP;rw[if_neg k,if_neg (by simp[i]),if_neg (by simp[a])]);rw[e,Zze a];refine Zaa (λf=>?_) (λf=>?_)
 ·have f:(menD d).2≠0:=(by unfold menD;simpa using f);rw[if_pos f];rfl
 ·have f:(menD d).2=0:=(by unfold menD;simpa using f);rw[if_neg (by simp[f])];exact Cl.of (Zuk _ (by omega)) ⟨_,rfl,Cl.of (Zp2 _ (by omega)) ⟨_,_,_,rfl,rfl⟩⟩
structure JoD.ok(j:JoD):Prop where
 dk:j.dk.ok
 sg:j.sg.length≤1000000
 m:j.cx.m.length≤1000000
 cs:j.st.cs.length≤1000000
 cl:∀c∈j.st.cs,c.cl.length≤1000000
theorem Zty(p q:SgD):band (ieq p.num q.num) (band (ieq p.fi q.fi) (band (ieq p.la q.la) (band (ieq p.fr q.fr) (band (ieq p.ti q.ti) (band (ieq p.sz q.sz) (band (beqB p.sl q.sl) true))))))=decide (p=q):=by
 cases p;cases q
 rw[Bool.eq_iff_iff];simp
theorem Zrh{c:Type}{a b:List c}{i:Nat}(d:i<a.length)(f:i<b.length)(h:a.take i=b.take i)(e:a[i]=b[i]):a.take (i+1)=b.take (i+1):=by
 rw[List.take_succ_eq_append_getElem d,List.take_succ_eq_append_getElem f,h,e]
theorem Zzf(a b:List SgD)(i:a.length≤1000000):Ct prog 57 {} [SL 7 (sgR a),SL 7 (sgR b)] (λr=>r=[B (decide (a=b))]):=by
 refine segeq_nf (Zaa (λh=>?_) (λh=>?_))
 ·have:¬a=b:=λe=>by rw[e]at h;simp at h
  rw[decide_eq_false this]
 have g:a.length=b.length:=(by simp at h;omega);refine⟨λ_ x=>0≤x∧x≤a.length∧a.take x.toNat=b.take x.toNat,λ_ x=>(a.length-x).toNat,⟨by omega,by omega,rfl⟩,?_⟩;rintro _ x ⟨x0,hx,he⟩;refine Zaa (λc=>?_) (λc=>?_)
 ·have c:x<a.length:=(by simpa using c);have d:x<b.length:=(by omega);refine⟨inM _ x0 c,_,_,_,_,_,_,_,Za9 SgD.row a x x0 c,inM _ x0 d,_,_,_,_,_,_,_,Za9 SgD.row b x x0 d,?_⟩
  dsimp only
  rw[Zty,Zac (by omega) (by omega)];refine Zaa (λf=>?_) (λf=>⟨rfl,⟨by omega,by omega,?_⟩,mlt (by first|omega|(dsimp only;omega))⟩)
  ·have:¬a=b:=λe=>by subst e;simp at f
   rw[decide_eq_false this]
  ·rw[show(x+1).toNat=x.toNat+1 by omega];exact Zrh (by omega) (by omega) he (by simpa using f)
 ·have c:x=a.length:=(by simp at c;omega);have:a=b:=(by rw[c,Int.toNat_natCast,Yb,g,Yb]at he;exact he);rw[decide_eq_true this]
theorem Zzg(a b:List ByteArray)(i:a.length≤1000000):Ct prog 120 {} [SL 1 (nR a),SL 1 (nR b)] (λr=>r=[B (decide (a=b))]):=by
 refine streq_nf (Zaa (λh=>?_) (λh=>?_))
 ·have:¬a=b:=λe=>by rw[e]at h;simp at h
  rw[decide_eq_false this]
 have g:a.length=b.length:=(by simp at h;omega);refine⟨λ_ x=>0≤x∧x≤a.length∧a.take x.toNat=b.take x.toNat,λ_ x=>(a.length-x).toNat,⟨by omega,by omega,rfl⟩,?_⟩;rintro _ x ⟨x0,hx,he⟩;refine Zaa (λc=>?_) (λc=>?_)
 ·have c:x<a.length:=(by simpa using c);have d:x<b.length:=(by omega);refine⟨inM _ x0 c,_,Za9 _ a x x0 c,inM _ x0 d,_,Za9 _ b x x0 d,?_⟩
  dsimp only
  rw[sne_eq,Zvd,Zac (by omega) (by omega)];refine Zaa (λf=>?_) (λf=>⟨rfl,⟨by omega,by omega,?_⟩,mlt (by first|omega|(dsimp only;omega))⟩)
  ·have:¬a=b:=λe=>by subst e;simp at f
   rw[decide_eq_false this]
  ·rw[show(x+1).toNat=x.toNat+1 by omega];exact Zrh (by omega) (by omega) he (by simpa using f)
 ·have c:x=a.length:=(by simp at c;omega);have:a=b:=(by rw[c,Int.toNat_natCast,Yb,g,Yb]at he;exact he);rw[decide_eq_true this]
theorem jsame_fn(c d:CxD)(b:c.m.length≤1000000):Ct prog 58 {} [c.sv,d.sv] (λr=>r=[B (decide (c=d))]):=by
 have ext:c=d↔(c.s=d.s∧c.a=d.a)∧c.m=d.m:=(by cases c;cases d;simp[and_assoc]);refine jsame_nf (Zaa (λh=>Cl.of (Zzg _ _ b) ⟨_,rfl,?_⟩) (λh=>?_))
 ·have h:c.s=d.s∧c.a=d.a:=(by simpa using h);congr 2;exact decide_eq_decide.2 ⟨λq=>ext.2 ⟨h,q⟩,λq=>(ext.1 q).2⟩
 ·have:¬c=d:=λe=>by subst e;simp at h
  rw[decide_eq_false this]
open Classical in
noncomputable def rgtJ(j:JoD):Bool:=decide (RightJ j)
theorem Ze5{j:JoD}:rgtJ j=true↔RightJ j:=by unfold rgtJ;simp
theorem rgtJ_no{j:JoD}(h:¬RightJ j):rgtJ j=false:=by unfold rgtJ;simp[h]
theorem Zdi{j:JoD}:RightJ j↔mayC j.cb j.cg∧j.dk.P∧j.dk.dn=false∧GoodR (rowK j.dk.fs).1 (keptF j.dk.fs) (baseF j.dk.fs)∧(rowK j.dk.fs).2=[]∧(∀p∈(rowK j.dk.fs).1,p.n=(segL p.d).length)∧
  j.sg=(rowK j.dk.fs).1.map sgOf∧j.cx=Zbl (rowK j.dk.fs).1∧j.st=stR (rowK j.dk.fs).1 (keptF j.dk.fs) (baseF j.dk.fs)∧j.kept=keptF j.dk.fs∧j.kept≤j.sure∧j.sure≤j.st.q:=by
 constructor
 ·intro h;have e:=h.eq;have e1:=congrArg JoD.sg e;have e2:=congrArg JoD.cx e;have b:=congrArg JoD.st e;have a:=congrArg JoD.kept e;have c:j.kept=keptF j.dk.fs:=a;exact⟨h.cfg,h.dk,h.up,h.good,h.out,h.all,e1,e2,b,a,by rw[c];exact h.sure.1,h.sure.2⟩
 ·rintro⟨f,g,i,k,l,m,e1,e2,b,a,o,r⟩;refine⟨f,g,i,l,k,m,?_,by rw[←a];exact o,r⟩;unfold anewJ;rw[←e1,←e2,←b,←a]
theorem Zho(j:JoD)(h:j.ok):Ct prog 17 {} [j.sv] (λr=>r=[B (rgtJ j)]):=by
 have no:∀{p:Prop},(RightJ j→p)→¬p→rgtJ j=false:=λf g=>rgtJ_no λq=>g (f q);refine jright_nf (Cl.of (Zp3 _ _) ⟨_,rfl,Zaa (λg=>?_) (λg=>?_)⟩)
 ·rw[no (λq=>q.cfg) (by simpa using g)]
 have v:mayC j.cb j.cg:=(by simpa using g);refine Cl.of (Zeu j.dk h.dk) ⟨_,rfl,Zaa (λg=>?_) (λg=>?_)⟩
 ·rw[no (λq=>And.intro q.dk q.up) (λq=>by simp[q.1,q.2]at g)]
 have b:j.dk.P:=Classical.byContradiction λq=>by simp[q]at g
 have s:j.dk.dn=false:=(by simpa[b]using g);have w:=b.1.1;have F:=Zot j.dk.fs;refine Cl.ofQ (Zou j.dk h.dk b s) ?_;rintro r ⟨rfl,hK⟩;refine⟨_,_,_,_,_,_,_,rfl,Zaa (λg=>?_) (λg=>?_)⟩
 ·rw[no (λq=>And.intro q.good q.out) (λq=>by
   have:=(Zhm j.dk).2 q.1;rw[this,q.2]at g
   simp at g)]
 have o:GoodR (rowK j.dk.fs).1 (keptF j.dk.fs) (baseF j.dk.fs):=(Zhm j.dk).1 (Classical.byContradiction λq=>by simp[q]at g)
 have y:(rowK j.dk.fs).2=[]:=by
  have:=(Zhm j.dk).2 o;rw[this]at g
  simpa using g
 have t:rlen (ptR (rowK j.dk.fs).1)=(rowK j.dk.fs).1.length:=(by simp);refine⟨λ_ x=>0≤x∧x≤(rowK j.dk.fs).1.length∧∀i:Nat,∀a:i<(rowK j.dk.fs).1.length,i<x→(rowK j.dk.fs).1[i].n=(segL (rowK j.dk.fs).1[i].d).length,λ_ x=>((rowK j.dk.fs).1.length-x).toNat,⟨by omega,by omega,by intro i a q;omega⟩,?_⟩;rintro _ x ⟨x0,hx,hall⟩;rw[t];refine Zaa (λg=>?_) (λg=>?_)
 ·have g:x<(rowK j.dk.fs).1.length:=(by simpa using g);have c:x.toNat<(rowK j.dk.fs).1.length:=(by omega);have l:=hK _ (List.getElem_mem c);refine⟨inM _ x0 g,_,_,_,_,_,_,_,_,_,_,_,Za9 ptRow _ x x0 g,Zaa (λz=>?_) (λz=>⟨rfl,?_,?_⟩)⟩
  ·rw[no (λq=>q.all _ (List.getElem_mem c)) (by simp at z;omega)]
  ·rw[Zac (by omega) (by omega)];refine⟨by omega,by omega,λi a q=>?_⟩;by_cases e:i<x
   ·exact hall i a e
   ·have:i=x.toNat:=(by omega);subst this;have:=l.le;simp at z;omega
  ·rw[Zac (by omega) (by omega)];exact mlt (by first|omega|(dsimp only;omega))
 have A:∀p∈(rowK j.dk.fs).1,p.n=(segL p.d).length:=λp l=>by obtain⟨i,a,rfl⟩:=List.mem_iff_getElem.1 l;simp at g;exact hall i a (by omega)
 refine Cl.of (Zuk _ (by omega)) ⟨_,rfl,Cl.of (Zzf _ _ h.sg) ⟨_,rfl,Zaa (λg=>?_) (λg=>?_)⟩⟩
 ·rw[no (λq=>(Zdi.1 q).2.2.2.2.2.2.1) (by simpa using g)]
 have C:j.sg=(rowK j.dk.fs).1.map sgOf:=(by simpa using g);refine Cl.of (Zp2 _ (by omega)) ⟨_,_,_,rfl,Cl.of (jsame_fn j.cx (Zbl (rowK j.dk.fs).1) h.m) ⟨_,rfl,Zaa (λg=>?_) (λg=>?_)⟩⟩
 ·rw[no (λq=>(Zdi.1 q).2.2.2.2.2.2.2.1) (by simpa using g)]
 have D:j.cx=Zbl (rowK j.dk.fs).1:=(by simpa using g);have k:=ssame_fn j.st (repP (rowK j.dk.fs).1 (baseF j.dk.fs)).1 (by have:=h.cs;omega) h.cl;rw[Zze o]at k⊢;refine Cl.of k ⟨_,rfl,Zaa (λg=>?_) (λg=>?_)⟩
 ·rw[no (λq=>And.intro (Zdi.1 q).2.2.2.2.2.2.2.2.1 (Zdi.1 q).2.2.2.2.2.2.2.2.2.1) (λq=>by simp[q.1,q.2]at g)]
 have E:j.st=stR (rowK j.dk.fs).1 (keptF j.dk.fs) (baseF j.dk.fs):=Classical.byContradiction λq=>by simp[q]at g
 have u:j.kept=keptF j.dk.fs:=Classical.byContradiction λq=>by simp[q]at g
 have:rgtJ j=bpick (ige j.sure j.kept) (ile j.sure j.st.q) false:=by
  rw[Bool.eq_iff_iff,Ze5];constructor
  ·intro q;have:=(Zdi.1 q).2.2.2.2.2.2.2.2.2.2;simp[this.1,this.2]
  ·intro q;have q:j.kept≤j.sure∧j.sure≤j.st.q:=(by simpa using q);exact Zdi.2 ⟨v,b,s,o,y,A,C,D,E,u,q.1,q.2⟩
 rw[this]
theorem Zzh(j:JoD)(h:j.ok):Ct prog 68 {} [j.sv] (λr=>r=[I (mayJ j)]):=by
 refine jmay_nf (Cl.of (Zeu j.dk h.dk) ⟨_,rfl,Zaa (λg=>?_) (λg=>Cl.of (Zho j h) ⟨_,rfl,Zaa (λz=>?_) (λz=>?_)⟩)⟩)
 ·have g:j.dk.P∧j.dk.dn=true:=(by simpa using g);unfold mayJ;rw[if_pos g]
 ·have z:¬RightJ j:=λq=>by rw[Ze5.2 q]at z;simp at z
  have g:¬(j.dk.P∧j.dk.dn=true):=(by simpa using g);unfold mayJ;rw[if_neg g,if_pos z]
 ·have z:RightJ j:=Ze5.1 (by simpa using z);rw[Zfq.2 z]
theorem Zmo(j:JoD)(h:j.ok):Ct prog 15 {} [j.sv] (λr=>r=[SL 7 (evR (evsJ j))]):=by
 refine Zx5 (Cl.of (Zho j h) ⟨_,rfl,Zaa (λg=>?_) (λg=>?_)⟩)
 ·have g:¬RightJ j:=λq=>by rw[Ze5.2 q]at g;simp at g
  unfold evsJ;rw[if_neg g];rfl
 have g:RightJ j:=Ze5.1 (by simpa using g);have s:evsJ j=(rowK j.dk.fs).1.flatMap (·.d.ev):=(by unfold evsJ;rw[if_pos g]);rw[s];have t:=g.dk.1.1;have v:=Zot j.dk.fs;refine Cl.ofQ (Zou j.dk h.dk g.dk g.up) ?_;rintro r ⟨rfl,hK⟩;refine⟨_,_,_,_,_,_,_,rfl,?_⟩;generalize(rowK j.dk.fs).1=R at*
 have e:∀l:List Pt,(∀p∈l,PtK p)→(l.flatMap (·.d.ev)).length≤65536*l.length:=λl=>by
  induction l with
  |nil=>intro _;simp
  |cons p l u=>intro a;have w:=ev_len (a p (by simp));have y:=(a p (by simp)).le;have z:=(a p (by simp)).n;have A:=u (λq m=>a q (by simp[m]));rw[List.flatMap_cons,List.length_append,List.length_cons];omega
 have f:rlen (ptR R)=R.length:=(by simp);refine⟨λl x=>0≤x∧x≤R.length∧l=evR ((R.take x.toNat).flatMap (·.d.ev)),λ_ x=>(R.length-x).toNat,⟨by omega,by omega,rfl⟩,?_⟩;rintro l x ⟨x0,hx,rfl⟩;rw[f];refine Zaa (λg=>?_) (λg=>?_)
 ·have g:x<R.length:=(by simpa using g);have i:x.toNat<R.length:=(by omega);have b:R.take (x+1).toNat=R.take x.toNat++[R[x.toNat]]:=(by rw[show(x+1).toNat=x.toNat+1 by omega,List.take_succ_eq_append_getElem i]);have k:=e (R.take (x+1).toNat) (λp o=>hK p (List.mem_of_mem_take o));have c:(R.take (x+1).toNat).length≤64:=(by simp;omega);refine⟨inM _ x0 g,_,_,_,_,_,_,_,_,_,_,_,Za9 ptRow _ x x0 g,?_,rfl,?_,?_⟩
  ·rw[b]at k c;simp only[List.flatMap_append,List.length_append,List.flatMap_cons,WE,List.append_nil,rlen_eq,List.length_map,lsum_eq]at k c⊢;omega
  ·rw[Zac (by omega) (by omega)];refine⟨by omega,by omega,?_⟩;rw[b,List.flatMap_append];simp[rapp]
  ·rw[Zac (by omega) (by omega)];exact mlt (by first|omega|(dsimp only;omega))
 ·have g:x.toNat=R.length:=(by simp at g;omega);rw[g,Yb]

import Derived.Test.YtgehiiginclniaaGreatDoorK09
import Derived.Laws.Externs
import Derived.Shelf.LaysM
import Derived.Shelf.Strconv.Itoa4
import Derived.Shelf.Strings.Repeat
import Derived.Test.YtgehiiginclniaaGreatDoorProg
set_option linter.all false
set_option maxRecDepth 100000
variable{b c e i j k:Int}{m n:Nat}{l:Go.Px.LL}{Q:Go.Px.QQ}{x:List Int}
namespace Go.Proofs.YtgehiiginclniaaGreatDoor
namespace Ins
open Go Go.Px Go.Proofs Tryz
def Zy5(rows:LL)(i:Nat)(r:List SV)(j:i≤rows.length)(k:rows.length≤1000000)(l:fovl prog 346 22):
  Ct prog 311 OO [SL 3 rows,I i,SL 3 [r]] (λx=>x=[SL 3 (rows.take i++r::rows.drop i)]):=by
 refine Zyy λx m v=>?_;have w1:wadd IntKind.i64 (rows.length:Int) 1=rows.length+1:=Zac;have w2:wadd IntKind.i64 (i:Int) 1=i+1:=Zac;have w3:wsub IntKind.i64 ((rows.length:Int)+1) i=rows.length+1-i:=Zat;have e:(([r]:LL).length:Int)=1:=rfl;simp only[rlen_eq,lsum_eq,Zs8,Wo,WL,e,w1,w2,w3,imin_eq]at m⊢;refine⟨⟨by omega,by omega,by omega⟩,Zaa (λh=>?_) (λ_=>Zaa (λh=>⟨by omega,λb=>⟨?_,?_⟩,λb=>⟨by omega,?_⟩⟩) (λh=>Zaa (λb=>?_) (λb=>?_)))⟩
 ·simp at h
 ·rw[Zcd _ _ _ (Nat.le_refl _)];simp
 ·simp at h;have h:i=rows.length:=(by omega);subst h;rw[show((rows.length:Int)+1)=((rows.length+1:Nat):Int) by simp,rsub0,show rows.length+1=rows.length+[r].length from rfl,Zcw _ _ _ (Nat.le_refl _)];simp
 ·simp at h;have h:i=rows.length:=(by omega);subst h;simp[rapp,rsub]
 ·simp at h b;have q:(i:Int)+((rows.length:Int)+1-i)=((rows.length+1:Nat):Int):=(by omega);have e1:rrep ((rows.length:Int)+1-i) ([S (bA []),SL 1 [],SL 1 []])=List.replicate (rows.length+1-i) ([S (bA []),SL 1 [],SL 1 []]):=by unfold rrep;congr 1;omega
  have e2:(i:Int)+min ((rows.length:Int)-i) (((rows.length+1:Nat):Int)-((i+1:Nat):Int))=rows.length:=(by omega);have c:((i:Int)+1)=((i+1:Nat):Int):=(by simp);simp only[q,e1,rsub0,c,e2,rsubE];have f:(rapp (rows.take i) (List.replicate (rows.length+1-i) ([S (bA []),SL 1 [],SL 1 []]))).length=rows.length+1:=(by simp[rapp];omega);have a:(rput (rapp (rows.take i) (List.replicate (rows.length+1-i) ([S (bA []),SL 1 [],SL 1 []]))) i [r]).length=rows.length+1:=(by rw[Zcd _ _ _ (by omega),f];simp;omega);have d:(rput (rput (rapp (rows.take i) (List.replicate (rows.length+1-i) ([S (bA []),SL 1 [],SL 1 []]))) i [r]) ((i+1:Nat):Int) (rows.drop i)).length=rows.length+1:=(by rw[Zcd _ _ _ (by omega),a];simp;omega);refine⟨⟨by omega,by omega,by omega⟩,⟨⟨by omega,by omega⟩,by omega,by omega⟩,λn z w o=>⟨⟨by omega,by omega,by omega⟩,⟨by rw[f];omega,by omega⟩,⟨by omega,by omega,by omega⟩,⟨by omega,by omega,by omega⟩,⟨by rw[a];omega,by omega⟩,by rw[d];omega,?_⟩,λn=>by omega⟩;have g:=Zcw (rput (rapp (rows.take i) (List.replicate (rows.length+1-i) ([S (bA []),SL 1 [],SL 1 []]))) i [r]) (rows.drop i) (i+1) (by rw[a];omega);rw[show(i+1)+(rows.drop i).length=rows.length+1 by simp;omega]at g;have s:=Zcw (rapp (rows.take i) (List.replicate (rows.length+1-i) ([S (bA []),SL 1 [],SL 1 []]))) [r] i (by rw[f];omega);rw[g,show i+1=i+[r].length from rfl,s];simp[rapp,j]
 ·simp at h b;have y:i<rows.length:=(by omega);have e2:(i:Int)+min ((rows.length:Int)+1-i) ((rows.length:Int)+1-(i+1))=rows.length:=(by omega);have c:((i:Int)+1)=((i+1:Nat):Int):=(by simp);have t:((rows.length:Int)+1)=((rows.length+1:Nat):Int):=(by simp);simp only[e2,rsubE];have a:(rput rows ((i:Int)+1) (rows.drop i)).length=rows.length+1:=by rw[c,Zcd _ _ _ (by omega)];simp;omega
  have d:(rput (rput rows ((i:Int)+1) (rows.drop i)) (i:Int) [r]).length=rows.length+1:=(by rw[Zcd _ _ _ (by omega),a];simp;omega);refine⟨⟨by omega,by omega,by omega⟩,⟨by omega,by omega,by omega⟩,l,Zaa (λ_=>⟨⟨by omega,by omega,by omega⟩,⟨by omega,by omega,by omega⟩,⟨by omega,by omega⟩,⟨by omega,by omega,by omega⟩,⟨by rw[a];omega,by omega⟩,by rw[d];omega,?_⟩) (λp=>by simp at p)⟩;rw[t,rsub0,List.take_of_length_le (by rw[d];exact Nat.le_refl _)];have u:rows.drop (i+1+(rows.drop i).length)=[]:=List.drop_eq_nil_of_le (by simp;omega);simp only[rput,c,Int.toNat_natCast,u,List.append_nil];rw[List.take_append_of_le_length (by simp;omega),List.take_take,Wp (by omega),YN (by simp;omega),Yn (by simp;omega)];simp
def cinsert_fn(rows:LL)(i:Nat)(r:List SV)(j:i≤rows.length)(k:rows.length≤1000000)(l:fovl prog 191 37):
  Ct prog 135 OO [SL 21 rows,I i,SL 21 [r]] (λx=>x=[SL 21 (rows.take i++r::rows.drop i)]):=by
 refine Zyz λx m v=>?_;have w1:wadd IntKind.i64 (rows.length:Int) 1=rows.length+1:=Zac;have w2:wadd IntKind.i64 (i:Int) 1=i+1:=Zac;have w3:wsub IntKind.i64 ((rows.length:Int)+1) i=rows.length+1-i:=Zat;have e:(([r]:LL).length:Int)=1:=rfl;simp only[rlen_eq,lsum_eq,Zs8,Wo,WL,e,w1,w2,w3,imin_eq]at m⊢;refine⟨⟨by omega,by omega,by omega⟩,Zaa (λh=>?_) (λ_=>Zaa (λh=>⟨by omega,λb=>⟨?_,?_⟩,λb=>⟨by omega,?_⟩⟩) (λh=>Zaa (λb=>?_) (λb=>?_)))⟩
 ·simp at h
 ·rw[Zcd _ _ _ (Nat.le_refl _)];simp
 ·simp at h;have h:i=rows.length:=(by omega);subst h;rw[show((rows.length:Int)+1)=((rows.length+1:Nat):Int) by simp,rsub0,show rows.length+1=rows.length+[r].length from rfl,Zcw _ _ _ (Nat.le_refl _)];simp
 ·simp at h;have h:i=rows.length:=(by omega);subst h;simp[rapp,rsub]
 ·simp at h b;have q:(i:Int)+((rows.length:Int)+1-i)=((rows.length+1:Nat):Int):=(by omega);have e1:rrep ((rows.length:Int)+1-i) (zC)=List.replicate (rows.length+1-i) (zC):=by unfold rrep;congr 1;omega
  have e2:(i:Int)+min ((rows.length:Int)-i) (((rows.length+1:Nat):Int)-((i+1:Nat):Int))=rows.length:=(by omega);have c:((i:Int)+1)=((i+1:Nat):Int):=(by simp);simp only[q,e1,rsub0,c,e2,rsubE];have f:(rapp (rows.take i) (List.replicate (rows.length+1-i) (zC))).length=rows.length+1:=(by simp[rapp];omega);have a:(rput (rapp (rows.take i) (List.replicate (rows.length+1-i) (zC))) i [r]).length=rows.length+1:=(by rw[Zcd _ _ _ (by omega),f];simp;omega);have d:(rput (rput (rapp (rows.take i) (List.replicate (rows.length+1-i) (zC))) i [r]) ((i+1:Nat):Int) (rows.drop i)).length=rows.length+1:=(by rw[Zcd _ _ _ (by omega),a];simp;omega);refine⟨⟨by omega,by omega,by omega⟩,⟨⟨by omega,by omega⟩,by omega,by omega⟩,λn z w o=>⟨⟨by omega,by omega,by omega⟩,⟨by rw[f];omega,by omega⟩,⟨by omega,by omega,by omega⟩,⟨by omega,by omega,by omega⟩,⟨by rw[a];omega,by omega⟩,by rw[d];omega,?_⟩,λn=>by omega⟩;have g:=Zcw (rput (rapp (rows.take i) (List.replicate (rows.length+1-i) (zC))) i [r]) (rows.drop i) (i+1) (by rw[a];omega);rw[show(i+1)+(rows.drop i).length=rows.length+1 by simp;omega]at g;have s:=Zcw (rapp (rows.take i) (List.replicate (rows.length+1-i) (zC))) [r] i (by rw[f];omega);rw[g,show i+1=i+[r].length from rfl,s];simp[rapp,j]
 ·simp at h b;have y:i<rows.length:=(by omega);have e2:(i:Int)+min ((rows.length:Int)+1-i) ((rows.length:Int)+1-(i+1))=rows.length:=(by omega);have c:((i:Int)+1)=((i+1:Nat):Int):=(by simp);have t:((rows.length:Int)+1)=((rows.length+1:Nat):Int):=(by simp);simp only[e2,rsubE];have a:(rput rows ((i:Int)+1) (rows.drop i)).length=rows.length+1:=by rw[c,Zcd _ _ _ (by omega)];simp;omega
  have d:(rput (rput rows ((i:Int)+1) (rows.drop i)) (i:Int) [r]).length=rows.length+1:=(by rw[Zcd _ _ _ (by omega),a];simp;omega);refine⟨⟨by omega,by omega,by omega⟩,⟨by omega,by omega,by omega⟩,l,Zaa (λ_=>⟨⟨by omega,by omega,by omega⟩,⟨by omega,by omega,by omega⟩,⟨by omega,by omega⟩,⟨by omega,by omega,by omega⟩,⟨by rw[a];omega,by omega⟩,by rw[d];omega,?_⟩) (λp=>by simp at p)⟩;rw[t,rsub0,List.take_of_length_le (by rw[d];exact Nat.le_refl _)];have u:rows.drop (i+1+(rows.drop i).length)=[]:=List.drop_eq_nil_of_le (by simp;omega);simp only[rput,c,Int.toNat_natCast,u,List.append_nil];rw[List.take_append_of_le_length (by simp;omega),List.take_take,Wp (by omega),YN (by simp;omega),Yn (by simp;omega)];simp
end Ins
namespace Sx
open Go Go.Px Go.Proofs Cmp Tryz
def sfold_nf{rows:LL}(h:∃a:Int→LL→Int→Int→Prop,∃m:Int→LL→Int→Int→Nat,(a 0 rows i j)∧∀x b,∀c d,(a x b c d)→ifB (ilt x (rlen l)) (((0≤x)∧x<(rlen l))∧∃n o,∃p s,∃r u v,(rget l x=[I n,I o,I p,S s,I r,I u,I v])∧Cl prog 69 sP ([SV.agg [SL 21 b,I c,I d],SV.agg [I n,I o,I p,S s,I r,I u,I v]]) (λw=>∃q t,∃e g,(w=[SV.agg [SL 21 q,I t,I e],I g])∧ifB (ine g 0) (Q ([SV.agg [SL 21 b,I c,I d],I x,I g])) ((Sm (some ([[SV.slice 21 [] 1,I 0,I 0]])))∧(a (wadd .i64 x 1) q t e)∧Nl (m (wadd .i64 x 1) q t e) (m x b c d)))) (Q ([SV.agg [SL 21 b,I c,I d],I (rlen l),I 0]))):Ct prog 34 {} [st3 rows i j,SL 7 l] Q:=
 fO SgT SvT (λk=>bif Nat.beq k 14 then some {slots:=[(13,false,[.int .i64])],boxes:=[(256,[.sl 21,.int .i64,.int .i64])],fixed:=[512]}else none) func34 h
abbrev _root_.Go.Proofs.YtgehiiginclniaaGreatDoor.Cmp.CoD.row(c:CoD):List SV:=[S c.nm,I c.ro,I c.mo,I c.wd,I c.sl,SL 2 (cR c.cl),I c.h0,I c.h1,I c.h2,I c.h3,I c.h4,I c.h5,I c.h6,I c.h7,I c.h8,I c.hs,I c.rm,I c.ha,I c.c0,I c.c1,I c.c2]
abbrev coR(l:List CoD):LL:=l.map CoD.row
abbrev _root_.Go.Proofs.YtgehiiginclniaaGreatDoor.Cmp.EvD.row(e:EvD):List SV:=[I e.s,I e.a,I e.k,S e.c,I e.x,I e.y,I e.z]
abbrev eR(l:List EvD):LL:=l.map EvD.row
deriving instance DecidableEq for CoD
structure StD where
 cs:List CoD
 q:Int
 t:Int
deriving DecidableEq
abbrev StD.sv(d:StD):SV:=.agg [SL 21 (coR d.cs),I d.q,I d.t]
def Zkp{c d:CoD}:sameP c d↔c=d:=by
 constructor
 ·intro h
  cases c;cases d
  grind [sameP]
 grind [Zzf]
def StD.P(d:StD):Prop:=(d.cs.length≤12∧0≤d.q∧d.q≤4294967296∧0≤d.t∧d.t≤1099511627776)∧(∀c∈d.cs,c.P)∧srt CoD.nm d.cs
instance (d:StD):Decidable d.P:=inferInstanceAs (Decidable (_∧_))
def mayS(d:StD)(e:EvD):Int:=
 if¬d.P then 1 else if chkE e≠0 then chkE e else if e.s≠d.q+1 then 1 else if e.a<d.t then 5
 else if e.k=1 then(if fAt CoD.nm d.cs e.c≠-1 then 7 else if d.cs.length=12 then 9 else 0)
 else if fAt CoD.nm d.cs e.c= -1 then 6 else mayI (d.cs.getD (fAt CoD.nm d.cs e.c).toNat co0) e
def nxtS(d:StD)(e:EvD):CoD:=if e.k=1 then(newC e.c e.x e.a).1 else tellC (d.cs.getD (fAt CoD.nm d.cs e.c).toNat co0) e
def appS(d:StD)(e:EvD):StD×Int:=if mayS d e≠0 then(d,mayS d e)else(⟨withB CoD.nm d.cs (nxtS d e),e.s,e.a⟩,0)
def foldS(d:StD):List EvD→StD×Nat×Int
 | []=>(d,0,0)
 |e::l=>if(appS d e).2≠0 then(d,0,(appS d e).2)else((foldS (appS d e).1 l).1,(foldS (appS d e).1 l).2.1+1,(foldS (appS d e).1 l).2.2)
def adj_srtC{l:List CoD}(h:∀i:Nat,∀a:i<l.length,0<i→nlt (l[i-1]'(by omega)).nm l[i].nm):srt CoD.nm l:=
 srt_adj λi a=>h (i+1) a (by omega)
def Zq9(d:StD):Ct prog 101 {} [d.sv] (λr=>r=[B (decide d.P)]):=by
 have no:¬d.P→[B false]=[B (decide d.P)]:=λh=>by simp[h]
 refine sright_nf (Zaa (λq=>no (λp=>?_)) (λq=>?_))
 ·have:=p.1;simp at q;omega
 ·simp at q;have u:d.cs.length≤12:=(by omega);refine⟨λ_ y=>∃i:Nat,y=i∧i≤d.cs.length∧∀j:Nat,∀g:j<d.cs.length,j<i→d.cs[j].P∧(0<j→nlt (d.cs[j-1]'(by omega)).nm d.cs[j].nm),λ_ y=>d.cs.length-y.toNat,⟨0,rfl,by omega,λj _ g=>by omega⟩,?_⟩;rintro b _ ⟨i,rfl,hi,hall⟩;refine Zaa (λc=>?_) (λc=>?_)
  ·have c:i<d.cs.length:=(by simpa using c);have s:Nl (d.cs.length-((i+1:Nat):Int).toNat) (d.cs.length-((i:Nat):Int).toNat):=stepL (by simp;omega)
   have o:d.cs[i].P→(0<i→nlt (d.cs[i-1]'(by omega)).nm d.cs[i].nm)→∃k:Nat,((i+1:Nat):Int)=k∧k≤d.cs.length∧∀j:Nat,∀g:j<d.cs.length,j<k→d.cs[j].P∧(0<j→nlt (d.cs[j-1]'(by omega)).nm d.cs[j].nm):=λa b=>
    ⟨i+1,rfl,by omega,λj g z=>by
     by_cases e:j=i
     ·subst e;exact⟨a,b⟩
     ·exact hall j g (by omega)⟩
   rw[waddN _];refine⟨⟨by omega,by simpa using c⟩,_,_,_,_,_,_,_,_,_,_,_,_,_,_,_,_,_,_,_,_,_,Zaj _ _ _ c,Cl.of (Zrp d.cs[i]) ⟨_,rfl,Zaa (λl=>no (λp=>?_)) (λl=>?_)⟩⟩
   ·rw[decide_eq_true (p.2.1 _ (List.getElem_mem c))]at l;cases l
   ·have l:d.cs[i].P:=(by simpa using l);refine Zaa (λn=>?_) (λn=>?_)
    ·have n:0<i:=(by simpa using n);have w:wsub .i64 (i:Int) 1=((i-1:Nat):Int):=(by rw[Zat];omega);rw[w];have hi1:i-1<d.cs.length:=(by omega);refine⟨⟨by omega,by simp;omega⟩,_,_,_,_,_,_,_,_,_,_,_,_,_,_,_,_,_,_,_,_,_,Zaj _ _ _ hi1,?_⟩;rw[sge_d];refine Zaa (λm=>no (λp=>?_)) (λm=>⟨rfl,o l (λ_=>?_),s⟩)
     ·simp at m;exact m (Zml p.2.2 (by omega) c)
     ·simp at m;exact m
    ·simp at n;exact⟨rfl,o l (λ_=>by omega),s⟩
  ·have c:¬i<d.cs.length:=(by simpa using c);have v:srt CoD.nm d.cs:=adj_srtC λj g=>(hall j g (by omega)).2;have x:∀f∈d.cs,f.P:=λf t=>by obtain⟨j,g,rfl⟩:=List.mem_iff_getElem.1 t;exact(hall j g (by omega)).1
   rw[decide_eq_true (show d.P from⟨⟨u,by omega,by omega,by omega,by omega⟩,x,v⟩)]
def fnd_of{l:List CoD}{s:BA}{i:Nat}(a:i<l.length)(e:l[i].nm=s)(h:∀j (b:j<i),(l[j]'(by omega)).nm≠s):fAt CoD.nm l s=i:=by
 unfold fAt;rw[Zpw.2 ⟨a,e,h⟩]
def sfind1_fn(c:CoD)(s:BA):Ct prog 194 {} [c.sv,.ref 0 [S s]] (λr=>r=[B (decide (c.nm=s))]):=by
 grind [seq_d,sfind1_nf]
def Zvw(d:StD)(k:d.cs.length≤9223372036854775807)(s:BA):Ct prog 136 {} [d.sv,S s] (λr=>r=[I (fAt CoD.nm d.cs s)]):=by
 have A:Ct prog 193 {} [SL 21 (coR d.cs),.clo 194 [.ref 0 [S s]]] (λr=>r=[I (fAt CoD.nm d.cs s)]):=by
  refine sindex_nf ⟨λ_ x=>∃i:Nat,x=i∧i≤d.cs.length∧∀j:Nat,∀a:j<d.cs.length,j<i→d.cs[j].nm≠s,λ_ x=>d.cs.length-x.toNat,⟨0,rfl,by omega,λj _ a=>by omega⟩,?_⟩;rintro b _ ⟨i,rfl,hi,hall⟩;refine Zaa (λh=>?_) (λh=>?_)
  ·have h:i<d.cs.length:=(by simpa using h);refine⟨⟨by omega,by simpa using h⟩,_,_,_,_,_,_,_,_,_,_,_,_,_,_,_,_,_,_,_,_,_,Zaj _ _ _ h,Cl.of (sfind1_fn d.cs[i] s) ⟨_,rfl,?_⟩⟩;rw[waddN _];refine Zaa (λz=>?_) (λz=>⟨rfl,⟨i+1,rfl,by omega,λj a g=>?_⟩,stepL (by simp;omega)⟩)
   ·rw[fnd_of h (by simpa using z) (λj a=>hall j (by omega) a)]
   ·by_cases e:j=i
    ·subst e;simpa using z
    ·exact hall j a (by omega)
  ·have h:¬i<d.cs.length:=by simpa using h
   rw[Zgx.2 (λf c=>by
    obtain⟨j,a,rfl⟩:=List.mem_iff_getElem.1 c
    exact hall j a (by omega))]
 exact sfind_nf (Cl.of A ⟨_,rfl,rfl⟩)
def sequal_fn(a b:List CoD)(n:a.length≤9223372036854775807)(k:∀c∈a,c.cl.length≤1000000):Ct prog 98 {} [SL 21 (coR a),SL 21 (coR b),.clo 99 []] (λr=>r=[B (decide (a=b))]):=by
 have no:¬a=b→[B false]=[B (decide (a=b))]:=λh=>by simp[h]
 refine sequal_nf (Zaa (λh=>no (λe=>by subst e;simp at h)) (λh=>?_));have f:a.length=b.length:=by simp at h;omega
 refine⟨λ_ x=>∃i:Nat,x=i∧i≤a.length∧∀j:Nat,∀d:j<a.length,j<i→a[j]=b[j]'(by omega),λ_ x=>a.length-x.toNat,⟨0,rfl,by omega,λj _ d=>by omega⟩,?_⟩;rintro _ _ ⟨i,rfl,hi,hall⟩;refine Zaa (λh=>?_) (λh=>?_)
 ·have h:i<a.length:=(by simpa using h);have g:i<b.length:=(by omega);rw[waddN _];refine⟨⟨by omega,by simpa using h⟩,_,_,_,_,_,_,_,_,_,_,_,_,_,_,_,_,_,_,_,_,_,Zaj _ _ _ h,⟨by omega,by simpa using g⟩,_,_,_,_,_,_,_,_,_,_,_,_,_,_,_,_,_,_,_,_,_,Zaj _ _ _ g,Cl.of (psame_fn a[i] b[i] (k _ (List.getElem_mem h))) ⟨_,rfl,Zaa (λz=>no (λe=>?_)) (λz=>⟨rfl,⟨i+1,rfl,by omega,λj d m=>?_⟩,stepL (by simp;omega)⟩)⟩⟩
  ·have:sameP a[i] b[i]:=Zkp.2 (by subst e;rfl);rw[decide_eq_true this]at z;cases z
  ·by_cases e:j=i
   ·subst e;exact Zkp.1 (by simpa using z)
   ·exact hall j d (by omega)
 ·have h:¬i<a.length:=(by simpa using h);rw[decide_eq_true (List.ext_getElem f λj l o=>hall j l (by omega))]
def Zvx(a b:StD)(d:a.cs.length≤9223372036854775807)(f:∀c∈a.cs,c.cl.length≤1000000):Ct prog 36 {} [a.sv,b.sv] (λr=>r=[B (decide (a=b))]):=by
 refine ssame_nf (Zaa (λh=>Cl.of (sequal_fn a.cs b.cs d f) ⟨_,rfl,?_⟩) (λh=>?_))
 ·have h:a.q=b.q∧a.t=b.t:=(by simpa using h);refine congrArg (λb=>[B b]) ?_;rw[decide_eq_decide]
  cases a;cases b;simp_all
 ·have:¬a=b:=λe=>by subst e;simp at h
  simp[this]
def srsame_fn(a b:StD)(o:a.cs.length≤9223372036854775807)(k:∀c∈a.cs,c.cl.length≤1000000):Ct prog 35 {} [a.sv,b.sv] (λr=>r=[B (decide (a=b))]):=by
 have no:¬a=b→[B false]=[B (decide (a=b))]:=λh=>by simp[h]
 refine srsame_nf (Zaa (λh=>no (λe=>by subst e;simp at h)) (λh=>?_));have m:(a.q=b.q∧a.t=b.t)∧a.cs.length=b.cs.length:=by simp at h;omega
 have f:=m.2;refine⟨λ_ x=>∃i:Nat,x=i∧i≤a.cs.length∧∀j:Nat,∀d:j<a.cs.length,j<i→a.cs[j]=b.cs[j]'(by omega),λ_ x=>a.cs.length-x.toNat,⟨0,rfl,by omega,λj _ d=>by omega⟩,?_⟩;rintro _ _ ⟨i,rfl,hi,hall⟩;refine Zaa (λh=>?_) (λh=>?_)
 ·have h:i<a.cs.length:=(by simpa using h);have g:i<b.cs.length:=(by omega);rw[waddN _];refine⟨⟨by omega,by simpa using h⟩,_,_,_,_,_,_,_,_,_,_,_,_,_,_,_,_,_,_,_,_,_,Zaj _ _ _ h,⟨by omega,by simpa using g⟩,_,_,_,_,_,_,_,_,_,_,_,_,_,_,_,_,_,_,_,_,_,Zaj _ _ _ g,Cl.of (qsame_fn a.cs[i] b.cs[i] (k _ (List.getElem_mem h))) ⟨_,rfl,Zaa (λz=>no (λe=>?_)) (λz=>⟨rfl,⟨i+1,rfl,by omega,λj d n=>?_⟩,stepL (by simp;omega)⟩)⟩⟩
  ·have:sameP a.cs[i] b.cs[i]:=Zkp.2 (by subst e;rfl);rw[decide_eq_true this]at z;cases z
  ·by_cases e:j=i
   ·subst e;exact Zkp.1 (by simpa using z)
   ·exact hall j d (by omega)
 ·have h:¬i<a.cs.length:=(by simpa using h);have:=List.ext_getElem f λj l p=>hall j l (by omega);rw[decide_eq_true]
  cases a;cases b;simp_all
def ovl_comp:fovl prog 191 37:=by
 refine⟨#[4],λx y w=>?_⟩;rw[run_callFunc_extern func191 (by kernel_rfl) (by kernel_rfl) (by kernel_rfl) (e:=Extern.SlicesOverlaps.overlaps #[37,37] #[4]) (by kernel_rfl)]
def sclone_fn(l:List CoD)(h:l.length≤2147483648):Ct prog 130 ⟨[],[.own]⟩ [SL 21 (coR l)] (λr=>r=[SL 21 (coR l)]):=by
 refine sclone_nf (λb a=>Zaa (λe=>?_) (λe=>⟨by simp;omega,by simp[rapp]⟩))
 simp_all
def snan_fn(s:BA):Ct prog 190 {} [S s] (λr=>r=[B false]):=by
 simp_all[snan_nf]
def Zs5(s t:BA):Ct prog 134 {} [S s,S t] (λr=>r=[I (if nlt s t then-1 else if nlt t s then 1 else 0)]):=by
 refine Zs2 (Cl.of (snan_fn s) ⟨_,rfl,Cl.of (snan_fn t) ⟨_,rfl,?_⟩⟩)
 grind [slt_d,sgt_d,ifB,slt,ifB_d]
def Zvy(c:CoD)(s:BA):Ct prog 133 {} [c.sv,S s] (λr=>r=[I (if nlt c.nm s then-1 else if nlt s c.nm then 1 else 0)]):=
 sapp1_nf (Cl.of (Zs5 _ _) ⟨_,rfl,rfl⟩)
def halfS(h:n+m≤9223372036854775807):wcv .i64 (wshr .u64 (wcv .u64 (wadd .i64 (n:Int) (m:Int))) 1)=(((n+m)/2:Nat):Int):=by
 rw[Zqv _ _ h]
 have e1:wcv .u64 ((n+m:Nat):Int)=((n+m:Nat):Int):=by
  grind [wcv,IntKind.wrap,IntKind.signed,IntKind.bits]
 rw[e1]
 have e2:wshr .u64 ((n+m:Nat):Int) 1=(((n+m)/2:Nat):Int):=by
  grind [wshr,IntKind.bits]
 rw[e2]
 grind [wcv,Zbe]
def sbin_fn(l:List CoD)(f:srt CoD.nm l)(g:l.length≤1000000)(s:BA):Ct prog 132 {} [SL 21 (coR l),S s,.clo 133 []] (λr=>∃b:Bool,r=[I ((ahd CoD.nm l s).length:Nat),B b]):=by
 refine sbin_nf ⟨λx y=>∃i j:Nat,x=i∧y=j∧i≤(ahd CoD.nm l s).length∧(ahd CoD.nm l s).length≤j∧j≤l.length,λx y=>y.toNat-x.toNat,⟨0,l.length,rfl,by simp,by omega,Zp0,by omega⟩,?_⟩;rintro _ _ ⟨i,j,rfl,rfl,h1,h2,h3⟩;refine Zaa (λh=>?_) (λh=>?_)
 ·simp at h;rw[halfS (by omega)];have d:(i+j)/2<l.length:=(by omega);refine⟨by omega,⟨by omega,by simp;omega⟩,_,_,_,_,_,_,_,_,_,_,_,_,_,_,_,_,_,_,_,_,_,Zaj _ _ _ d,Cl.of (Zvy _ s) ⟨_,rfl,Zaa (λa=>⟨rfl,?_,?_⟩) (λa=>⟨rfl,⟨i,(i+j)/2,rfl,rfl,h1,?_,by omega⟩,stepL (by simp;omega)⟩)⟩⟩
  ·rw[waddN _];refine⟨(i+j)/2+1,j,rfl,rfl,?_,h2,h3⟩
   have:nlt l[(i+j)/2].nm s:=by
    refine YI λc=>?_;rw[if_neg c]at a
    split at a<;>simp at a
   have:=(Zpz (s:=s) f d).2 this;omega
  ·rw[waddN _];exact stepL (by simp;omega)
  ·have c:¬nlt l[(i+j)/2].nm s:=λc=>by rw[if_pos c]at a;simp at a
   have:¬((i+j)/2<(ahd CoD.nm l s).length):=λk=>c ((Zpz (s:=s) f d).1 k);omega
 ·simp at h;have e:i=(ahd CoD.nm l s).length:=(by omega);refine Zaa (λa=>?_) (λa=>⟨_,by rw[←e]⟩);have a:i<l.length:=(by simpa using a);exact⟨⟨by omega,by simpa using a⟩,_,_,_,_,_,_,_,_,_,_,_,_,_,_,_,_,_,_,_,_,_,Zaj _ _ _ a,Cl.of (Zvy _ s) ⟨_,rfl,_,by rw[←e]⟩⟩
theorem Zjc{l:List CoD}(h:n<l.length):l.getD ((n:Nat):Int).toNat co0=l[n]:=by simp[h]
def smay_fn(d:StD)(p:d.cs.length≤1000000)(e:EvD):Ct prog 129 {} [d.sv,e.sv] (λr=>r=[I (mayS d e)]):=by
 refine smay_nf (Cl.of (Zq9 d) ⟨_,rfl,Zaa (λh=>?_) (λh=>?_)⟩)
 ·simp_all[mayS]
 have m:d.P:=(by simpa using h);refine Cl.of (Zoo e.s e.a e.k e.c e.x e.y e.z) ⟨_,rfl,Zaa (λh=>?_) (λh=>?_)⟩
 ·simp_all[chkE,mayS]
 have n:chkE e=0:=(by simp_all[chkE]);have t:=m.1.2.2.1;have o:=m.1.2.1;have w:wadd .i64 d.q 1=d.q+1:=Zac;unfold mayS;rw[if_neg (by simp[m]),if_neg (by simp[n])];refine Cl.of (Zvw d (by omega) e.c) ⟨_,rfl,?_⟩;rw[w];refine Zaa (λh=>?_) (λh=>?_)
 ·rw[if_pos (by simpa using h)]
 rw[if_neg (by simpa using h)];refine Zaa (λh=>?_) (λh=>?_)
 ·rw[if_pos (by simpa using h)]
 rw[if_neg (by simpa using h)];refine Zaa (λh=>?_) (λb=>?_)
 ·have h:e.k=1∧¬fAt CoD.nm d.cs e.c= -1:=(by simpa using h);rw[if_pos h.1,if_pos h.2]
 refine Zaa (λh=>?_) (λg=>?_)
 ·have h:e.k=1∧d.cs.length=12:=(by simp at h;omega);have b:e.k=1→fAt CoD.nm d.cs e.c= -1:=(by simpa using b);rw[if_pos h.1,if_neg (by simp[b h.1]),if_pos h.2]
 refine Zaa (λh=>?_) (λj=>?_)
 ·have h:e.k=1:=(by simpa using h);have b:e.k=1→fAt CoD.nm d.cs e.c= -1:=(by simpa using b);have g:e.k=1→¬d.cs.length=12:=(by simp at g;omega);rw[if_pos h,if_neg (by simp[b h]),if_neg (g h)]
 have j:¬e.k=1:=(by simpa using j);rw[if_neg j];refine Zaa (λh=>?_) (λf=>?_)
 ·rw[if_pos (by simpa using h)]
 have f:¬fAt CoD.nm d.cs e.c= -1:=(by simpa using f);rw[if_neg f]
 rcases Zmk (nm:=CoD.nm) (l:=d.cs) (s:=e.c)with h|⟨i,hi,h5,_,_⟩
 ·exact absurd h f
 rw[h5,Zjc hi];exact⟨⟨by omega,by simpa using hi⟩,_,_,_,_,_,_,_,_,_,_,_,_,_,_,_,_,_,_,_,_,_,Zaj _ _ _ hi,Cl.of (pmay_fn d.cs[i] e) ⟨_,rfl,rfl⟩⟩
structure MayS(d:StD)(e:EvD):Prop where
 p:d.P
 chk:chkE e=0
 sq:e.s=d.q+1
 tm:d.t≤e.a
 new:e.k=1→fAt CoD.nm d.cs e.c= -1∧d.cs.length<12
 old:e.k≠1→∃i:Nat,∃h:i<d.cs.length,fAt CoD.nm d.cs e.c=i∧d.cs[i].nm=e.c∧mayI d.cs[i] e=0
def Zia{d:StD}{e:EvD}(h:mayS d e=0):MayS d e:=by
 unfold mayS at h;by_cases hp:d.P
 case neg=>rw[if_pos hp]at h;cases h
 rw[if_neg (by simp[hp])]at h;by_cases hc:chkE e=0
 case neg=>rw[if_pos hc]at h;exact absurd h hc
 rw[if_neg (by simp[hc])]at h;by_cases hs:e.s=d.q+1
 case neg=>rw[if_pos hs]at h;cases h
 rw[if_neg (by simp[hs])]at h;by_cases ht:e.a<d.t
 ·rw[if_pos ht]at h;cases h
 rw[if_neg ht]at h;refine⟨hp,hc,hs,by omega,λb=>?_,λb=>?_⟩
 ·rw[if_pos b]at h;have f:=hp.1.1;by_cases hf:fAt CoD.nm d.cs e.c= -1
  case neg=>rw[if_pos hf]at h;cases h
  rw[if_neg (by simp[hf])]at h;by_cases h12:d.cs.length=12
  ·rw[if_pos h12]at h;cases h
  ·exact⟨hf,by omega⟩
 ·rw[if_neg b]at h
  rcases Zmk (nm:=CoD.nm) (l:=d.cs) (s:=e.c)with h5|⟨i,hi,h5,h6,_⟩
  ·rw[if_pos h5]at h;cases h
  ·rw[if_neg (by omega),h5,Zjc hi]at h;exact⟨i,hi,h5,h6,h⟩
theorem new_ok{d:StD}{e:EvD}(m:MayS d e)(b:e.k=1):(newC e.c e.x e.a).2=0∧(newC e.c e.x e.a).1.nm=e.c:=by
 obtain⟨_,f,g,h,_⟩:=chkE_zero m.chk
 grind [lo1,hi1,namB,newC]
def nxt_nm{d:StD}{e:EvD}(m:MayS d e):(nxtS d e).nm=e.c:=by
 unfold nxtS;by_cases hk:e.k=1
 ·grind [new_ok]
 ·rw[if_neg hk];obtain⟨i,a,b,f,_⟩:=m.old hk
  grind [Zjc,Zz4]
def Zls(d:StD)(O:d.cs.length≤1000000)(e:EvD):Ct prog 69 {} [d.sv,e.sv] (λr=>r=[(appS d e).1.sv,I (appS d e).2]):=by
 refine sapply_nf (Cl.of (smay_fn d O e) ⟨_,rfl,Zaa (λh=>?_) (λh=>?_)⟩)
 ·have h:mayS d e≠0:=(by simpa using h);unfold appS;rw[if_pos h]
 have h:mayS d e=0:=(by simpa using h);have m:=Zia h;have Y:appS d e=(⟨withB CoD.nm d.cs (nxtS d e),e.s,e.a⟩,0):=(by unfold appS;rw[if_neg (by simp[h])]);rw[Y];refine Cl.of (sclone_fn d.cs (by omega)) ⟨_,rfl,Zaa (λf=>?_) (λf=>?_)⟩
 ·have f:e.k=1:=(by simpa using f);obtain⟨W,R⟩:=new_ok m f;have Z:=(m.new f).1;have hno:∀g∈d.cs,g.nm≠e.c:=Zgx.1 Z;refine Cl.of (pnew_fn e.c e.x e.a) ⟨_,_,_,_,_,_,_,_,_,_,_,_,_,_,_,_,_,_,_,_,_,_,rfl,Zaa (λz=>by simp[W]at z) (λ_=>Cl.ofQ (sbin_fn d.cs m.p.2.2 O e.c) ?_)⟩;rintro _ ⟨b,rfl⟩;refine⟨_,_,rfl,Cl.of (Ins.cinsert_fn (coR d.cs) (ahd CoD.nm d.cs e.c).length (newC e.c e.x e.a).1.row (by simpa using Zp0) (by simpa using O) ovl_comp) ⟨_,rfl,?_⟩⟩;have:withB CoD.nm d.cs (nxtS d e)=d.cs.take (ahd CoD.nm d.cs e.c).length++(newC e.c e.x e.a).1::d.cs.drop (ahd CoD.nm d.cs e.c).length:=(by unfold nxtS;rw[if_pos f,Zd4 (by rw[R];exact hno),insB_at,R]);rw[this];simp[List.map_take,List.map_drop]
 ·have f:¬e.k=1:=(by simpa using f);obtain⟨i,l,T,h2,X⟩:=m.old f
  have n:(0:Int)≤(i:Nat)∧((i:Nat):Int)<rlen (coR d.cs):=⟨by omega,by simpa using l⟩
  have et:tellR d.cs[i] e=[(tellC d.cs[i] e).sv,I 0]:=(by unfold tellR;rw[if_pos X]);have U:=ptell_fn d.cs[i] e;rw[et]at U;have es:rset (coR d.cs) (i:Nat) (tellC d.cs[i] e).row=coR (withB CoD.nm d.cs (nxtS d e)):=(by have:nxtS d e=tellC d.cs[i] e:=(by unfold nxtS;rw[if_neg f,T,Zjc l]);rw[Zop,Zgj m.p.2.2 l (Zz4 _ _).1,this]);refine Cl.of (Zvw d (by omega) e.c) ⟨_,rfl,?_⟩;rw[T];have k:Cl prog 137 sP [d.cs[i].sv,e.sv] (λV=>∃P o q t u Q v w y A C D E F G H J K L M N j,(V=[.agg [S P,I o,I q,I t,I u,SL 2 Q,I v,I w,I y,I A,I C,I D,I E,I F,I G,I H,I J,I K,I L,I M,I N],I j])∧ifB (ine j 0) ([d.sv,I j]=[StD.sv ⟨withB CoD.nm d.cs (nxtS d e),e.s,e.a⟩,I 0]) (((0:Int)≤(i:Nat)∧((i:Nat):Int)<rlen (coR d.cs))∧((0:Int)≤(i:Nat)∧((i:Nat):Int)<rlen (coR d.cs))∧[.agg [SL 21 (rset (coR d.cs) (i:Nat) [S P,I o,I q,I t,I u,SL 2 Q,I v,I w,I y,I A,I C,I D,I E,I F,I G,I H,I J,I K,I L,I M,I N]),I e.s,I e.a],I 0]=[StD.sv ⟨withB CoD.nm d.cs (nxtS d e),e.s,e.a⟩,I 0])):=(by refine Cl.of U ⟨_,_,_,_,_,_,_,_,_,_,_,_,_,_,_,_,_,_,_,_,_,_,rfl,Zaa (λz=>by simp at z) (λ_=>⟨n,n,?_⟩)⟩;exact congrArg (λz=>[SV.agg [SL 21 z,I e.s,I e.a],I 0]) es);exact⟨n,n,_,_,_,_,_,_,_,_,_,_,_,_,_,_,_,_,_,_,_,_,_,Zaj _ _ _ l,k,k⟩
def lim(d:StD):Prop:=d.cs.length≤20∧∀c∈d.cs,c.cl.length≤40
instance (d:StD):Decidable (lim d):=inferInstanceAs (Decidable (_∧_))
def new_cl(nm:BA)(b a:Int):(newC nm b a).1.cl.length≤40:=by
 unfold newC
 repeat' split
 all_goals simp[co0]
def nxt_cl{d:StD}{e:EvD}(h:lim d)(m:MayS d e):(nxtS d e).cl.length≤40:=by
 unfold nxtS;by_cases hk:e.k=1
 ·rw[if_pos hk];exact new_cl _ _ _
 ·rw[if_neg hk];obtain⟨i,a,b,f,c⟩:=m.old hk;rw[b,Zjc a];have:=h.2 _ (List.getElem_mem a)
  rcases tell_cl (Zpn.1 c)with h4|h4<;>omega
def nxt_len{d:StD}{e:EvD}(m:MayS d e):(withB CoD.nm d.cs (nxtS d e)).length=d.cs.length+(if e.k=1 then 1 else 0):=by
 have a:=nxt_nm m;by_cases hk:e.k=1
 ·rw[if_pos hk,Zd4 (by rw[a];exact Zgx.1 (m.new hk).1),Zpx]
 ·rw[if_neg hk];obtain⟨i,b,f,c,g⟩:=m.old hk;rw[Zb5 m.p.2.2 b (by rw[a,c])];rfl
def Zvl{d:StD}{e:EvD}(h:(appS d e).2=0):mayS d e=0∧appS d e=(⟨withB CoD.nm d.cs (nxtS d e),e.s,e.a⟩,0):=by
 unfold appS at h⊢;by_cases hm:mayS d e=0
 ·exact⟨hm,by rw[if_neg (by simp[hm])]⟩
 ·rw[if_pos hm]at h;exact absurd h hm
def app_err{d:StD}{e:EvD}(h:(appS d e).2≠0):appS d e=(d,mayS d e):=by
 unfold appS at h⊢;by_cases hm:mayS d e=0
 ·rw[if_neg (by simp[hm])]at h;exact absurd rfl h
 ·rw[if_pos hm]
def lim_app{d:StD}(h:lim d)(e:EvD):lim (appS d e).1:=by
 by_cases h0:(appS d e).2=0
 ·obtain⟨b,f⟩:=Zvl h0;have m:=Zia b;rw[f];refine⟨?_,λc a=>?_⟩
  ·show(withB CoD.nm d.cs (nxtS d e)).length≤20;rw[nxt_len m];have:=m.p.1.1
   split<;>omega
  ·rcases Zas.1 a with rfl|⟨a,_⟩
   ·exact nxt_cl h m
   ·exact h.2 c a
 ·rw[app_err h0];exact h
def Zlk(d:StD)(e:EvD)(l:List EvD):foldS d (e::l)=if(appS d e).2≠0 then(d,0,(appS d e).2)else((foldS (appS d e).1 l).1,(foldS (appS d e).1 l).2.1+1,(foldS (appS d e).1 l).2.2):=rfl
def goes(d:StD)(l:List EvD)(i:Nat)(a:StD):Prop:=foldS d l=((foldS a (l.drop i)).1,i+(foldS a (l.drop i)).2.1,(foldS a (l.drop i)).2.2)
def goes_step{d a:StD}{l:List EvD}(b:n<l.length)(h:goes d l n a)(c:(appS a l[n]).2=0):goes d l (n+1) (appS a l[n]).1:=by
 unfold goes at h⊢;rw[h,List.drop_eq_getElem_cons b,Zlk,if_neg (by simp[c])];simp;omega
def goes_stop{d a:StD}{l:List EvD}(b:n<l.length)(h:goes d l n a)(c:(appS a l[n]).2≠0):foldS d l=(a,n,(appS a l[n]).2):=by
 unfold goes at h;rw[h,List.drop_eq_getElem_cons b,Zlk,if_pos c];simp
def goes_end{d a:StD}{l:List EvD}(b:l.length≤n)(h:goes d l n a):foldS d l=(a,n,0):=by
 unfold goes at h;rw[h,List.drop_eq_nil_of_le b];rfl
def sfold_fn(d:StD)(b:lim d)(l:List EvD)(c:l.length≤9223372036854775807):Ct prog 34 {} [d.sv,SL 7 (eR l)] (λr=>r=[(foldS d l).1.sv,I (foldS d l).2.1,I (foldS d l).2.2]):=by
 refine sfold_nf ⟨λx r q t=>∃(a:StD) (i:Nat),x=i∧i≤l.length∧r=coR a.cs∧q=a.q∧t=a.t∧lim a∧goes d l i a,λx _ _ _=>l.length-x.toNat,⟨d,0,rfl,by omega,rfl,rfl,rfl,b,by simp[goes]⟩,?_⟩;rintro _ _ _ _ ⟨a,i,rfl,hi,rfl,rfl,rfl,hd',hg⟩;refine Zaa (λh=>?_) (λh=>?_)
 ·have h:i<l.length:=(by simpa using h);rw[waddN _];refine⟨⟨by omega,by simpa using h⟩,_,_,_,_,_,_,_,Zaj _ _ _ h,Cl.of (Zls a (by have:=hd'.1;omega) l[i]) ⟨_,_,_,_,rfl,Zaa (λz=>?_) (λz=>⟨rfl,⟨_,i+1,rfl,by omega,rfl,rfl,rfl,lim_app hd' _,goes_step h hg (by simpa using z)⟩,stepL (by simp;omega)⟩)⟩⟩;rw[goes_stop h hg (by simpa using z)]
 ·have h:¬i<l.length:=(by simpa using h);have:i=l.length:=(by omega);rw[goes_end (by omega) hg,this];simp
end Sx
namespace Sgr
open Go Go.Px Go.Proofs Cod Seg Tryz
abbrev ev7(s a k:Int)(c:BA)(x y z:Int):SV:=.agg [I s,I a,I k,S c,I x,I y,I z]
abbrev cx3(s a:Int)(b:LL):SV:=.agg [I s,I a,SL 1 b]
abbrev sc10(num bs b:Int)(c ev:LL)(a d:Int)(e:LL)(f g:Int):SV:=.agg [I num,I bs,I b,SL 1 c,SL 7 ev,I a,I d,SL 1 e,I f,I g]
abbrev U32(n:Int):SV:=SV.int .u32 n
def SgT:FuncId→Sig:=(λf=>bif Nat.beq f 141 then⟨[],[.own,.pure]⟩else bif Nat.beq f 83 then⟨[],[.own]⟩else bif Nat.beq f 81 then⟨[],[.own]⟩else bif Nat.beq f 202 then⟨[],[.own,.pure]⟩else bif Nat.beq f 204 then⟨[],[.own]⟩else bif Nat.beq f 149 then⟨[],[.own]⟩else bif Nat.beq f 148 then⟨[],[.own]⟩else bif Nat.beq f 255 then⟨[.lend [false,false,false,false,true,false,false,false,false,false,false]],[]⟩else bif Nat.beq f 256 then⟨[.lend [false,false,false,false,true,false,false,false,false,false,false]],[]⟩else bif Nat.beq f 242 then⟨[],[.own]⟩else bif Nat.beq f 220 then⟨[],[.own]⟩else bif Nat.beq f 271 then⟨[],[.own]⟩else bif Nat.beq f 272 then⟨[],[.own]⟩else bif Nat.beq f 218 then⟨[],[.own]⟩else bif Nat.beq f 316 then⟨[.lend [false,false,false,false,true,false,false,false,false,false,false]],[]⟩else bif Nat.beq f 317 then⟨[.lend [false,false,false,false,true,false,false,false,false,false,false]],[]⟩else bif Nat.beq f 307 then⟨[],[.own]⟩else bif Nat.beq f 287 then⟨[],[.own]⟩else bif Nat.beq f 326 then⟨[],[.own]⟩else bif Nat.beq f 327 then⟨[],[.own]⟩else{})
def SvT:TypeId→Sig:=(λf=>{})
def sname_nf(h:Cl prog 152 sP [I i] (λe=>∃b,(e=[B b])∧ifB (bnot b) (Q ([S (bA [])])) (Cl prog 153 sP [I i,I 10] (λc=>∃s,(c=[S s])∧Cl prog 154 sP ([S (bA [48]),I (wsub .i64 8 (slen s))]) (λd=>∃a,(d=[S a])∧((lsum (slen (bA [115,101,103,46])) (slen a))≤9223372036854775807)∧((lsum (slen (scat (bA [115,101,103,46]) a)) (slen s))≤9223372036854775807)∧Q ([S (scat (scat (bA [115,101,103,46]) a) s)])))))):Ct prog 88 {} [I i] Q:=
 fN SgT SvT func88 h
end Sgr
end Go.Proofs.YtgehiiginclniaaGreatDoor
namespace Go.Proofs
open Go.Shelf
def Tryz.laysM173_ren:Go.Shelf.Ren:=⟨λ|173=>153|246=>222|283=>289|284=>290|285=>291|286=>292|129=>336|317=>335|318=>337|319=>338|320=>339|337=>358|338=>359|n=>n,λ|2=>2|3=>3|9=>9|4=>4|171=>341|0=>0|53=>219|37=>72|5=>5|173=>344|212=>387|51=>310|20=>20|213=>388|46=>250|232=>422|233=>423|n=>n,λ|17=>0|18=>4|19=>5|n=>n⟩
def Tryz.laysM173:Go.Proofs.LaysM.n173 prog Tryz.laysM173_ren:={
 mixed:=by kernel_rfl
 f129:=func336.trans (congrArg some (by kernel_rfl))
 f173:=func153.trans (congrArg some (by kernel_rfl))
 f246:=func222.trans (congrArg some (by kernel_rfl))
 f283:=func289.trans (congrArg some (by kernel_rfl))
 f284:=func290.trans (congrArg some (by kernel_rfl))
 f285:=func291.trans (congrArg some (by kernel_rfl))
 f286:=func292.trans (congrArg some (by kernel_rfl))
 f317:=func335.trans (congrArg some (by kernel_rfl))
 f318:=func337.trans (congrArg some (by kernel_rfl))
 f319:=func338.trans (congrArg some (by kernel_rfl))
 f320:=func339.trans (congrArg some (by kernel_rfl))
 f337:=func358.trans (congrArg some (by kernel_rfl))
 f338:=func359.trans (congrArg some (by kernel_rfl))
 t0:=Tryz.underlying0
 a0:=Tryz.isAgg0
 z0:=Tryz.sizeOf0
 v0:=Tryz.zeroValue0
 t2:=Tryz.underlying2
 a2:=Tryz.isAgg2
 z2:=Tryz.sizeOf2
 v2:=Tryz.zeroValue2
 t3:=Tryz.underlying3
 a3:=Tryz.isAgg3
 z3:=Tryz.sizeOf3
 v3:=Tryz.zeroValue3
 t4:=Tryz.underlying4
 a4:=Tryz.isAgg4
 z4:=Tryz.sizeOf4
 v4:=Tryz.zeroValue4
 t5:=Tryz.underlying5
 a5:=Tryz.isAgg5
 z5:=Tryz.sizeOf5
 v5:=Tryz.zeroValue5
 t9:=Tryz.underlying9
 a9:=Tryz.isAgg9
 z9:=Tryz.sizeOf9
 v9:=Tryz.zeroValue9
 t20:=Tryz.underlying20
 a20:=Tryz.isAgg20
 z20:=Tryz.sizeOf20
 v20:=Tryz.zeroValue20
 t37:=Tryz.underlying72
 a37:=Tryz.isAgg72
 z37:=Tryz.sizeOf72
 v37:=Tryz.zeroValue72
 t46:=Tryz.underlying250
 a46:=Tryz.isAgg250
 z46:=Tryz.sizeOf250
 v46:=Tryz.zeroValue250
 t51:=Tryz.underlying310
 a51:=Tryz.isAgg310
 z51:=Tryz.sizeOf310
 v51:=Tryz.zeroValue310
 t53:=Tryz.underlying219
 a53:=Tryz.isAgg219
 z53:=Tryz.sizeOf219
 v53:=Tryz.zeroValue219
 t171:=Tryz.underlying341
 a171:=Tryz.isAgg341
 z171:=Tryz.sizeOf341
 v171:=Tryz.zeroValue341
 t173:=Tryz.underlying344
 a173:=Tryz.isAgg344
 z173:=Tryz.sizeOf344
 v173:=Tryz.zeroValue344
 t212:=Tryz.underlying387
 a212:=Tryz.isAgg387
 z212:=Tryz.sizeOf387
 v212:=Tryz.zeroValue387
 t213:=Tryz.underlying388
 a213:=Tryz.isAgg388
 z213:=Tryz.sizeOf388
 t232:=Tryz.underlying422
 a232:=Tryz.isAgg422
 z232:=Tryz.sizeOf422
 v232:=Tryz.zeroValue422
 t233:=Tryz.underlying423
 a233:=Tryz.isAgg423
 z233:=Tryz.sizeOf423
 v233:=Tryz.zeroValue423
 g17:=by kernel_rfl
 g18:=by kernel_rfl
 g19:=by kernel_rfl
 i0:=by kernel_rfl
 i2:=by kernel_rfl
 i3:=by kernel_rfl
 i4:=by kernel_rfl
 i5:=by kernel_rfl
 i9:=by kernel_rfl
 i20:=by kernel_rfl
 i37:=by kernel_rfl
 i46:=by kernel_rfl
 i51:=by kernel_rfl
 i53:=by kernel_rfl
 i171:=by kernel_rfl
 i173:=by kernel_rfl
 i212:=by kernel_rfl
 i232:=by kernel_rfl
 i233:=by kernel_rfl
 m17:=by kernel_rfl
 m18:=by kernel_rfl
 m19:=by kernel_rfl}
def Tryz.lays105_ren:Go.Shelf.Ren:=⟨λ|105=>154|212=>223|99=>224|165=>225|166=>226|170=>227|169=>228|263=>293|264=>294|206=>295|240=>296|241=>297|276=>340|277=>341|n=>n,λ|9=>9|3=>3|4=>4|20=>20|0=>0|46=>250|109=>278|5=>5|72=>283|76=>287|51=>310|146=>346|53=>219|148=>348|70=>281|37=>72|75=>286|127=>350|164=>390|80=>290|n=>n,λ|n=>n⟩
def Tryz.lays105:Go.Proofs.Lays.n105 prog Tryz.lays105_ren:={
 mixed:=by kernel_rfl
 f99:=func224.trans (congrArg some (by kernel_rfl))
 f105:=func154.trans (congrArg some (by kernel_rfl))
 f165:=func225.trans (congrArg some (by kernel_rfl))
 f166:=func226.trans (congrArg some (by kernel_rfl))
 f169:=func228.trans (congrArg some (by kernel_rfl))
 f170:=func227.trans (congrArg some (by kernel_rfl))
 f206:=func295.trans (congrArg some (by kernel_rfl))
 f212:=func223.trans (congrArg some (by kernel_rfl))
 f240:=func296.trans (congrArg some (by kernel_rfl))
 f241:=func297.trans (congrArg some (by kernel_rfl))
 f263:=func293.trans (congrArg some (by kernel_rfl))
 f264:=func294.trans (congrArg some (by kernel_rfl))
 f276:=func340.trans (congrArg some (by kernel_rfl))
 f277:=func341.trans (congrArg some (by kernel_rfl))
 t0:=Tryz.underlying0
 a0:=Tryz.isAgg0
 z0:=Tryz.sizeOf0
 v0:=Tryz.zeroValue0
 t3:=Tryz.underlying3
 a3:=Tryz.isAgg3
 z3:=Tryz.sizeOf3
 v3:=Tryz.zeroValue3
 t4:=Tryz.underlying4
 a4:=Tryz.isAgg4
 z4:=Tryz.sizeOf4
 v4:=Tryz.zeroValue4
 t5:=Tryz.underlying5
 a5:=Tryz.isAgg5
 z5:=Tryz.sizeOf5
 v5:=Tryz.zeroValue5
 t9:=Tryz.underlying9
 a9:=Tryz.isAgg9
 z9:=Tryz.sizeOf9
 v9:=Tryz.zeroValue9
 t20:=Tryz.underlying20
 a20:=Tryz.isAgg20
 z20:=Tryz.sizeOf20
 v20:=Tryz.zeroValue20
 t37:=Tryz.underlying72
 a37:=Tryz.isAgg72
 z37:=Tryz.sizeOf72
 v37:=Tryz.zeroValue72
 t46:=Tryz.underlying250
 a46:=Tryz.isAgg250
 z46:=Tryz.sizeOf250
 v46:=Tryz.zeroValue250
 t51:=Tryz.underlying310
 a51:=Tryz.isAgg310
 z51:=Tryz.sizeOf310
 v51:=Tryz.zeroValue310
 t53:=Tryz.underlying219
 a53:=Tryz.isAgg219
 z53:=Tryz.sizeOf219
 v53:=Tryz.zeroValue219
 t70:=Tryz.underlying281
 a70:=Tryz.isAgg281
 z70:=Tryz.sizeOf281
 v70:=Tryz.zeroValue281
 t72:=Tryz.underlying283
 a72:=Tryz.isAgg283
 z72:=Tryz.sizeOf283
 v72:=Tryz.zeroValue283
 t75:=Tryz.underlying286
 a75:=Tryz.isAgg286
 z75:=Tryz.sizeOf286
 v75:=Tryz.zeroValue286
 t76:=Tryz.underlying287
 a76:=Tryz.isAgg287
 z76:=Tryz.sizeOf287
 v76:=Tryz.zeroValue287
 t109:=Tryz.underlying278
 a109:=Tryz.isAgg278
 z109:=Tryz.sizeOf278
 v109:=Tryz.zeroValue278
 t127:=Tryz.underlying350
 a127:=Tryz.isAgg350
 z127:=Tryz.sizeOf350
 v127:=Tryz.zeroValue350
 t146:=Tryz.underlying346
 a146:=Tryz.isAgg346
 z146:=Tryz.sizeOf346
 v146:=Tryz.zeroValue346
 t148:=Tryz.underlying348
 a148:=Tryz.isAgg348
 z148:=Tryz.sizeOf348
 v148:=Tryz.zeroValue348
 t164:=Tryz.underlying390
 a164:=Tryz.isAgg390
 z164:=Tryz.sizeOf390
 v164:=Tryz.zeroValue390}
def Tryz.Builder_Extra_105:Builder.Extra prog Tryz.lays105_ren:={
 sizeBuilder:=by kernel_rfl
 liesBuilder:=by kernel_rfl
 t5:=Tryz.underlying5
 a5:=Tryz.isAgg5
 z5:=Tryz.sizeOf5
 v5:=Tryz.zeroValue5
 infoByte:=by kernel_rfl
 cellsByte:=by kernel_rfl
 sizeByte:=by kernel_rfl
 neB5:=by decide}
end Go.Proofs
namespace Go.Proofs.YtgehiiginclniaaGreatDoor
namespace Seg
open Go Go.Px Go.Proofs Go.RowKit Tryz
def tab_is{h:Hp}{w:World}(k:HSub h w)(g:Gl h w){nm:String}(l:prog.globalNamed nm=some 0):Lib.TabIs prog w nm .u64 Lib.pow10Tab:=by
 have j:(0,pow10)∈Zbp:=(by simp[Zbp]);obtain⟨_,n,t,r,e,f⟩:=g.size _ j
 have a:∀(i:Nat) (z:Int),Lib.pow10Tab[i]?=some z→n[i]?=some (.int .u64 z):=by
  intro i z m;have o:pow10[i]?=some (.val (.int .u64 z)):=(by have:pow10=Lib.pow10Tab.map λz=>SV.val (.int .u64 z):=(by kernel_rfl);rw[this,Yy,m];rfl);obtain⟨v,c,d⟩:=g.cells _ j i _ o;have b:=k _ _ _ c;have p:v= .int .u64 z:=(Rep.pure (ρ:=λ_=>noLoc) v _ d).val_inv;subst p;simp only[World.cell?,e]at b
  simpa using b
 have q:pow10.length=Lib.pow10Tab.length:=(by decide+kernel);unfold Lib.TabIs World.var?;rw[l];simp only[Option.bind_some,e];congr 1;apply Array.ext
 ·rw[f];simp[q]
 ·intro i c d;have b:i<Lib.pow10Tab.length:=by simp at d;omega
  have:=a i _ (List.getElem?_eq_getElem b);rw[Y2 c]at this
  simpa using this
def fmt10_fn(n:Int)(a: -9223372036854775808≤n)(b:n≤9223372036854775807):Ct prog 153 {} [I n,I 10] (λr=>r=[S ⟨(Lib.itoa n).toArray⟩]):=by
 refine Zk3 func153 (by kernel_rfl) (λe=>?_) [.int .i64 n,.int .i64 10] (.string ⟨(Lib.itoa n).toArray⟩) (λh w c d=>?_)
 ·have:(Tryz.f153.name== "runtime.NumGoroutine")=false:=by kernel_rfl
  rw[e]at this;simp at this
 ·refine(Any.strconv_FormatInt_10 Tryz.laysM173 n a b w (tab_is c d (by kernel_rfl))).mono ?_;rintro e g ⟨rfl,k2,os,rfl⟩;refine⟨rfl,rfl,rfl,rfl,by simp[Sort.grow],λk f=>?_⟩;have:k<(w.drewN k2).heap.size:=f;simp only[Sort.grow];rw[Yp this];rfl
def repeat_fn(s:BA)(c:Nat)(b:c≤9223372036854775807)(a:s.size*c≤140737488355328):Ct prog 154 {} [S s,I c] (λr=>r=[S ⟨(Lib.repeatL s.data.toList c).toArray⟩]):=by
 refine Zk3 func154 (by kernel_rfl) (λe=>?_) [.string s,.int .i64 c] (.string ⟨(Lib.repeatL s.data.toList c).toArray⟩) (λh w d f=>?_)
 ·have:(Tryz.f154.name== "runtime.NumGoroutine")=false:=by kernel_rfl
  rw[e]at this;simp at this
 ·exact Any.strings_Repeat Tryz.lays105 Tryz.Builder_Extra_105 s c w b a
end Seg
namespace Sgr
open Go Go.Px Go.Proofs Cod Seg Tryz
def dgs:Nat→Nat→List UInt8
 |0,_=>[]
 |k+1,n=>dgs k (n/10)++[UInt8.ofNat (48+n%10)]
def Zdu:∀(k n:Nat),(dgs k n).length=k
 |0,_=>rfl
 |k+1,n=>by simp[dgs,Zdu k]
def Zu7:∀k,dgs k 0=List.replicate k 48
 |0=>rfl
 |k+1=>by rw[dgs];simp only[Nat.zero_div,Zu7 k];rw[List.replicate_succ'];rfl
def Zsm:∀(k n:Nat),1≤k→n<10^k→List.replicate (k-(Lib.decDigits n).length) 48++Lib.decDigits n=dgs k n
 |0,_,h,_=>by omega
 |k+1,n,_,hn=>by
  by_cases h:n<10
  ·rw[Lib.decDigits_one h,dgs,show n/10=0 by omega,Zu7,YT,Nat.add_sub_cancel,Nat.mod_eq_of_lt h]
  ·have a:1≤k:=by
    rcases k with _|k
    ·omega
    ·omega
   have b:=Zsm k (n/10) a (by rw[Nat.pow_succ]at hn;omega);have e:Lib.decDigits n=Lib.decDigits (n/10)++[UInt8.ofNat (48+n%10)]:=(by rw[Lib.decDigits,dif_neg h]);rw[e,dgs,←b];simp
def Zqu{k n:Nat}(a:1≤k)(h:n<10^k):(Lib.decDigits n).length≤k:=by
 have:=congrArg List.length (Zsm k n a h);rw[Zdu]at this;simp at this;omega
def scat_l(a b:List UInt8):scat ⟨a.toArray⟩ ⟨b.toArray⟩=⟨(a++b).toArray⟩:=by
 unfold scat;apply ByteArray.ext;simp
def Zu8(a:List UInt8):slen ⟨a.toArray⟩=a.length:=by simp[slen,ByteArray.size]
def repeat0(c:Nat):Lib.repeatL [48] c=List.replicate c 48:=by
 have:=Lib.repeatL_replicate 48 1 c
 simpa using this
def segNm(n:Int):BA:=if 1≤n∧n≤99999999 then⟨([115,101,103,46]++dgs 8 n.toNat).toArray⟩else ByteArray.mk #[]
def Zdh(n:Int):Ct prog 88 {} [I n] (λr=>r=[S (segNm n)]):=by
 refine Sgr.sname_nf (Cl.of (Ztb n) ⟨_,rfl,Zaa (λh=>?_) (λh=>?_)⟩)
 ·simp at h;have:¬(1≤n∧n≤99999999):=(by omega);simp[segNm,this]
 ·simp at h;have a:Lib.itoa n=Lib.decDigits n.toNat:=by unfold Lib.itoa;rw[if_neg (by omega)]
  have c:(Lib.decDigits n.toNat).length≤8:=Zqu (by omega) (by omega);refine Cl.of (fmt10_fn n (by omega) (by omega)) ⟨_,rfl,?_⟩;rw[a,Zu8];have w:wsub IntKind.i64 8 ((Lib.decDigits n.toNat).length:Int)=((8-(Lib.decDigits n.toNat).length:Nat):Int):=(by rw[Zat];omega);rw[w];refine Cl.of (repeat_fn ⟨[48].toArray⟩ _ (by omega) (by simp[ByteArray.size];omega)) ⟨_,rfl,?_⟩;have b:(bA [115,101,103,46])=⟨([115,101,103,46]:List UInt8).toArray⟩:=rfl;have e1:(ByteArray.mk [48].toArray).data.toList=[48]:=rfl;rw[e1,repeat0,b,scat_l,scat_l,Zu8,Zu8,Zu8];refine⟨by simp[lsum];omega,by simp[lsum];omega,?_⟩;rw[List.append_assoc,Zsm 8 n.toNat (by omega) (by omega)];simp[segNm,h.1,h.2]
def addR(s a:Int)(m:List BA)(e:EvD):List SV:=
 if encE s a m e=0 then[SL 1 (bR (fr 2 (encL s a m e))),cx3 e.s e.a (nR (bhdN m e.c)),I 0]else[SL 1 [],cx3 s a (nR m),I (encE s a m e)]
def Zu9(s a:Int)(m:List BA)(e:EvD):Ct prog 138 {} [cx3 s a (nR m),e.sv] (λr=>r=addR s a m e):=by
 have c:=Zq1 s a m e;refine sadd_nf ?_;unfold addR;by_cases hE:encE s a m e=0
 ·have ok:=Zc7.1 hE;have f:=Zh7 ok;unfold encR at c;rw[if_pos hE]at c;refine Cl.of c ⟨_,_,_,_,_,rfl,Zaa (λb=>by simp at b) (λ_=>?_)⟩;have d:=Zuo 2 _ (Zi0 (cs:=s) (ca:=a) (l:=m) (e:=e)) (by omega);have:putF 2 (encL s a m e)=(fr 2 (encL s a m e),0):=(by unfold putF;rw[if_neg (by omega),if_neg (by omega)]);rw[this]at d;exact Cl.of d ⟨_,_,rfl,Zaa (λb=>by simp at b) (λ_=>by rw[if_pos hE])⟩
 ·unfold encR at c;rw[if_neg hE]at c;exact Cl.of c ⟨_,_,_,_,_,rfl,Zaa (λ_=>by rw[if_neg hE]) (λb=>by simp at b;exact absurd b hE)⟩
def sseal2_fn(n s a:Int)(m:List BA)(b:n≤9223372036854775807):Ct prog 139 {} [I n,cx3 s a (nR m)] (λr=>
  r=if ctxB s a m=true∧0≤n then[SL 1 (bR (fr 3 (slP n s a))),I 0]else[SL 1 [],I 1]):=by
 by_cases h0:0≤n
 ·refine(sseal_fn n s a m h0 b).mono ?_;rintro r rfl;simp[h0]
 ·refine Zvb (Zaa (λh=>?_) (λh=>by simp at h;omega));rw[if_neg (by omega)]
instance (n s a:Int):Decidable (Seg.headOK n s a):=by unfold Seg.headOK ctxOK;infer_instance
end Sgr
namespace Row
open Go Go.Px Go.Proofs Cmp Sx Cod Tryz
def rng(n:Int):Prop:=0≤n∧n≤9223372036854775807
def encN(l:List Int):List Int:=l.flatMap λn=>leb n.toNat
def Zqf(l m:List Int):encN (l++m)=encN l++encN m:=by simp[encN]
def Zxj(n:Int):encN [n]=leb n.toNat:=by simp[encN]
def Zxk:encN []=[]:=rfl
def flat(a:List (Int×Int)):List Int:=a.flatMap λp=>[p.1,p.2]
def Zqg(l:List (Int×Int)):(flat l).length=2*l.length:=by
 induction l with
 |nil=>rfl
 |cons x l a=>simp only[flat,Yb,List.length_append,List.length_cons,Y6]at a⊢;omega
def flat_inj:∀{l m:List (Int×Int)},flat l=flat m→l=m
 | [],[],_=>rfl
 | [],y::m,h=>by simp[flat]at h
 |x::l,[],h=>by simp[flat]at h
 |x::l,y::m,h=>by simp only[flat,Yb,Y5,List.nil_append,List.cons.injEq]at h;obtain⟨a,b,c⟩:=h;rw[flat_inj (l:=l) (m:=m) c];congr 1;exact YA a b
def bas(a c d e:Int)(b:List (Int×Int)):List Int:=[a,c]++(if a=1 then[d,e,(b.length:Int)]++flat b else[])
def hst(a:Int)(b:List Int):List Int:=if a=1∨a=3 then b else[]
def bck(a:Int)(bs:List Int):List Int:=if a=2∨a=3 then bs else[]
def numC(c:CoD):List Int:=bas c.ro c.mo c.wd c.sl c.cl++(hst c.ro [c.h0,c.h1,c.h2,c.h3,c.h4,c.h5,c.h6,c.h7,c.h8,c.hs]++(bck c.ro [c.rm,c.ha]++[c.c0,c.c1,c.c2]))
def encC(c:CoD):List Int:=leb c.nm.size++(txB c.nm++encN (numC c))
def encS(d:StD):List Int:=leb d.cs.length++(d.cs.flatMap encC++(leb d.q.toNat++leb d.t.toNat))
def zro(c:CoD):Prop:=(c.ro≠1→c.wd=0∧c.sl=0∧c.cl=[])∧(c.ro≠1→c.ro≠3→c.h0=0∧c.h1=0∧c.h2=0∧c.h3=0∧c.h4=0∧c.h5=0∧c.h6=0∧c.h7=0∧c.h8=0∧c.hs=0)∧(c.ro≠2→c.ro≠3→c.rm=0∧c.ha=0)
structure shp(c:CoD):Prop where
 z:zro c
 r:1≤c.ro∧c.ro≤3
 nm:c.nm.size≤24
 cl:c.cl.length≤16
 n:∀n∈numC c,rng n
def shp_of{c:CoD}(h:c.P):shp c∧∀n∈numC c,0≤n∧n≤1099511627776:=by
 obtain⟨⟨l,r⟩,f⟩:=h;simp only[namB,decide_eq_true_eq]at l;obtain⟨s,t,u⟩:=r;unfold heldP at s t u
 have d:zro c∧(1≤c.ro∧c.ro≤3)∧c.cl.length≤16∧∀n∈numC c,0≤n∧n≤1099511627776:=by
  unfold CoD.roleP at f
  split at f
  ·rename_i j;obtain⟨⟨m,w1,w2,w3,w4⟩,b,g⟩:=f;simp only[CoD.his,hisP,heldP]at b;refine⟨⟨λe=>absurd j e,λe=>absurd j e,λ_ _=>g⟩,by omega,w3.2,λn a=>?_⟩;simp only[numC,bas,hst,bck,j,if_true,List.mem_append]at a;unfold timP at w2
   rcases a with a|a|a|a
   ·simp only[List.mem_cons,YV,or_false]at a
    rcases a with(rfl|rfl)|(rfl|rfl|rfl)|a<;>try omega
    simp only[flat,List.mem_flatMap,List.mem_cons,YV,or_false]at a;obtain⟨p,o,rfl|rfl⟩:=a
    ·have:=w4 p o;unfold heldP at this;omega
    ·have:=w4 p o;unfold heldP at this;omega
   ·simp at a
    rcases a with rfl|rfl|rfl|rfl|rfl|rfl|rfl|rfl|rfl|rfl<;>omega
   ·simp at a
   ·simp at a;rcases a with rfl|rfl|rfl<;>omega
  next j=>
   split at f
   ·rename_i k;obtain⟨⟨⟨m,w1,w2,w3⟩,b,q⟩,g⟩:=f;unfold bktP at g;refine⟨⟨λ_=>⟨w1,w2,w3⟩,λ_ _=>⟨b.1,b.2.1,b.2.2.1,b.2.2.2.1,b.2.2.2.2.1,b.2.2.2.2.2.1,b.2.2.2.2.2.2.1,b.2.2.2.2.2.2.2.1,b.2.2.2.2.2.2.2.2,q⟩,λe=>absurd k e⟩,by omega,by rw[w3];simp,λn a=>?_⟩;simp only[numC,bas,hst,bck,k,List.mem_append]at a;simp at a
    rcases a with(rfl|rfl)|(rfl|rfl)|rfl|rfl|rfl<;>omega
   ·obtain⟨i,⟨m,w1,w2,w3⟩,b,g⟩:=f;simp only[CoD.his,hisP,heldP]at b;unfold bktP at g;refine⟨⟨λ_=>⟨w1,w2,w3⟩,λ_ e=>absurd i e,λ_ e=>absurd i e⟩,by omega,by rw[w3];simp,λn a=>?_⟩;simp only[numC,bas,hst,bck,i,List.mem_append]at a;simp at a
    rcases a with(rfl|rfl)|(rfl|rfl|rfl|rfl|rfl|rfl|rfl|rfl|rfl|rfl)|(rfl|rfl)|rfl|rfl|rfl<;>omega
 exact⟨⟨d.1,d.2.1,l.2,d.2.2.1,λn a=>⟨(d.2.2.2 n a).1,by have:=(d.2.2.2 n a).2;omega⟩⟩,d.2.2.2⟩
def Zum(a c d e:Int)(b:List (Int×Int)):(bas a c d e b).length=if a=1 then 5+2*b.length else 2:=by
 unfold bas;split
 ·simp[Zqg];omega
 ·rfl
def Zhn(a:Int)(l:List Int):(hst a l).length=if a=1∨a=3 then l.length else 0:=by unfold hst;split<;>simp
def Zjn(a:Int)(l:List Int):(bck a l).length=if a=2∨a=3 then l.length else 0:=by unfold bck;split<;>simp
def pre_ro{c:CoD}{x:List Int}(h:([i,b]++x)<+:numC c):c.ro=i∧c.mo=b:=by
 obtain⟨t,h⟩:=h;simp only[numC,bas,Y5,List.nil_append,List.cons.injEq]at h;exact⟨h.1.symm,h.2.1.symm⟩
def pre_win{c:CoD}{x:List Int}(h:([1,i,j,b,k]++x)<+:numC c):c.ro=1∧c.mo=i∧c.wd=j∧c.sl=b∧(c.cl.length:Int)=k:=by
 have e:=(pre_ro (x:=[j,b,k]++x) (by simpa using h)).1;obtain⟨t,h⟩:=h;simp only[numC,bas,e,if_true,Y5,List.nil_append,List.cons.injEq]at h;exact⟨e,h.2.1.symm,h.2.2.1.symm,h.2.2.2.1.symm,h.2.2.2.2.1.symm⟩
def pre_bas{c:CoD}{b:List (Int×Int)}{x:List Int}(h:(bas i j k e b++x)<+:numC c):
  c.ro=i∧(numC c).length=(bas i j k e b).length+((if i=1∨i=3 then 10 else 0)+((if i=2∨i=3 then 2 else 0)+3)):=by
 have g:=(pre_ro (x:=(if i=1 then[k,e,(b.length:Int)]++flat b else[])++x) (by simpa[bas]using h)).1;refine⟨g,?_⟩;simp only[numC,List.length_append,Zum,Zhn,Zjn,g];by_cases h1:i=1
 ·subst h1;have:=(pre_win (x:=flat b++x) (by simpa[bas]using h)).2.2.2.2;simp;omega
 ·simp[h1]
def Ziz{c:CoD}:5≤(numC c).length:=by
 simp only[numC,bas,List.length_append,List.length_cons,Y6];omega
def Zun{a b x y:List Int}(h:(a++x)<+:(b++y))(c:a.length=b.length):a=b∧x<+:y:=by
 obtain⟨t,h⟩:=h;rw[List.append_assoc]at h;obtain⟨d,e⟩:=List.append_inj h c;exact⟨d,⟨t,e⟩⟩
def Zqh{c d:CoD}(o:zro c)(p:zro d)(W:c.nm=d.nm)(h:numC c<+:numC d):c=d:=by
 have Q:=pre_bas (c:=d) (by simpa[numC]using h);obtain⟨f,q⟩:=Q;have R:(bas c.ro c.mo c.wd c.sl c.cl).length=(bas d.ro d.mo d.wd d.sl d.cl).length:=(by have:(numC d).length=(bas d.ro d.mo d.wd d.sl d.cl).length+((if d.ro=1∨d.ro=3 then 10 else 0)+((if d.ro=2∨d.ro=3 then 2 else 0)+3)):=(by simp only[numC,List.length_append,Zhn,Zjn,List.length_cons,Y6]);rw[f]at this⊢;omega);obtain⟨e1,r⟩:=Zun h R;have T:(hst c.ro [c.h0,c.h1,c.h2,c.h3,c.h4,c.h5,c.h6,c.h7,c.h8,c.hs]).length=(hst d.ro [d.h0,d.h1,d.h2,d.h3,d.h4,d.h5,d.h6,d.h7,d.h8,d.hs]).length:=(by simp only[Zhn,f];rfl);obtain⟨e2,s⟩:=Zun r T;have U:(bck c.ro [c.rm,c.ha]).length=(bck d.ro [d.rm,d.ha]).length:=(by simp only[Zjn,f];rfl);obtain⟨m,g⟩:=Zun s U;have e4:c.c0=d.c0∧c.c1=d.c1∧c.c2=d.c2:=(by obtain⟨t,g⟩:=g;simp at g;exact⟨g.1,g.2.1,g.2.2.1⟩);obtain⟨u,v,x⟩:=o;obtain⟨y,z,A⟩:=p
 have w:c.mo=d.mo∧c.wd=d.wd∧c.sl=d.sl∧c.cl=d.cl:=by
  simp only[bas,f]at e1;by_cases hr:c.ro=1
  ·simp only[hr,if_true,Y5,List.nil_append,List.cons.injEq]at e1;exact⟨e1.2.1,e1.2.2.1,e1.2.2.2.1,flat_inj e1.2.2.2.2.2⟩
  ·rw[if_neg hr,if_neg hr]at e1;obtain⟨i,j,n⟩:=u hr;obtain⟨k,l,b3⟩:=y (by omega);simp at e1;exact⟨e1,by rw[i,k],by rw[j,l],by rw[n,b3]⟩
 have V:c.h0=d.h0∧c.h1=d.h1∧c.h2=d.h2∧c.h3=d.h3∧c.h4=d.h4∧c.h5=d.h5∧c.h6=d.h6∧c.h7=d.h7∧c.h8=d.h8∧c.hs=d.hs:=by
  by_cases hr:c.ro=1∨c.ro=3
  ·simp only[hst,f,if_pos hr,List.cons.injEq]at e2;exact⟨e2.1,e2.2.1,e2.2.2.1,e2.2.2.2.1,e2.2.2.2.2.1,e2.2.2.2.2.2.1,e2.2.2.2.2.2.2.1,e2.2.2.2.2.2.2.2.1,e2.2.2.2.2.2.2.2.2.1,e2.2.2.2.2.2.2.2.2.2.1⟩
  ·have a:=v (λe=>hr (.inl e)) (λe=>hr (.inr e));have b:=z (λe=>hr (.inl (by omega))) (λe=>hr (.inr (by omega)));obtain⟨C,i,j,n,D,E,F,G,H,J⟩:=a;obtain⟨K,k,l,b3,L,b5,M,N,O,P⟩:=b;exact⟨by rw[C,K],by rw[i,k],by rw[j,l],by rw[n,b3],by rw[D,L],by rw[E,b5],by rw[F,M],by rw[G,N],by rw[H,O],by rw[J,P]⟩
 have hb:c.rm=d.rm∧c.ha=d.ha:=by
  by_cases hr:c.ro=2∨c.ro=3
  ·simp only[bck,f,if_pos hr,List.cons.injEq]at m;exact⟨m.1,m.2.1⟩
  ·obtain⟨i,j⟩:=x (λe=>hr (.inl e)) (λe=>hr (.inr e));obtain⟨k,l⟩:=A (λe=>hr (.inl (by omega))) (λe=>hr (.inr (by omega)));exact⟨by rw[i,k],by rw[j,l]⟩
 obtain⟨w1,w2,w3,w4⟩:=w;obtain⟨X,Y,Z,g3,g4,g5,g6,g7,g8,g9⟩:=V
 cases c;cases d
 simp_all
def Zxl{p x l:List Int}(b:i=p.length)(h:p++x<+:l):∃t,l.drop i.toNat=x++t:=by
 obtain⟨t,rfl⟩:=h;refine⟨t,?_⟩;rw[b,Int.toNat_natCast,List.append_assoc,Wa]
def Zxm{p x l t:List Int}(b:i=p.length)(c:p<+:l)(h:l.drop i.toNat=x++t):p++x<+:l:=by
 obtain⟨s,rfl⟩:=c;rw[b,Int.toNat_natCast,Wa]at h;exact⟨t,by rw[h,List.append_assoc]⟩
def pre_more{p x y l:List Int}(h:p++(x++y)<+:l):p++x<+:l:=by
 obtain⟨t,h⟩:=h;exact⟨y++t,by rw[←h];simp⟩
def leb_small(h:n<18446744073709551616:=by omega):(leb n).length≤10:=Zhm 9 _ (Nat.lt_of_lt_of_le h (by decide))
def byts_encN(l:List Int):Byts (encN l):=λx a=>by
 obtain⟨n,_,h⟩:=List.mem_flatMap.1 a;exact Zxg _ _ h
def byts_encC(c:CoD):Byts (encC c):=(Zaw _).app ((Zz5 _).app (byts_encN _))
def byts_encS(d:StD):Byts (encS d):=
 (Zaw _).app (Byts.app (λx a=>by obtain⟨c,_,h⟩:=List.mem_flatMap.1 a;exact byts_encC c x h) ((Zaw _).app (Zaw _)))
def encN_len(h:∀n∈x,rng n):(encN x).length≤10*x.length:=by
 induction x with
 |nil=>simp[encN]
 |cons l x d=>have c:=d λn b=>h n (by simp[b]);have a:=h l (by simp);have e:(leb l.toNat).length≤10:=leb_small (by have:=a.2;have:=a.1;omega);simp only[encN,Yb,List.length_append,List.length_cons]at c⊢;omega
def encC_len{c:CoD}(h:shp c):(encC c).length≤600:=by
 have a:=encN_len h.n;have b:(leb c.nm.size).length≤10:=leb_small (by have:=h.nm;omega)
 have d:(numC c).length≤52:=by
  simp only[numC,List.length_append,Zum,Zhn,Zjn,List.length_cons,Y6];have:=h.cl
  split<;>split<;>split<;>omega
 have e:=h.nm;simp only[encC,List.length_append,Zcs];omega
def Zr8:∀{l:List CoD},(∀c∈l,shp c)→(l.flatMap encC).length≤600*l.length
 | [],_=>by simp
 |c::l,h=>by have b:=encC_len (h c (by simp));have d:=Zr8 (l:=l) λx a=>h x (by simp[a]);simp only[Yb,List.length_append,List.length_cons];omega
end Row
namespace Row
open Go Go.Px Go.Proofs Cmp Sx Tryz
abbrev st3(rows:LL)(s a:Int):SV:=.agg [SL 21 rows,I s,I a]
abbrev cu3(bs:LL)(a e:Int):SV:=.agg [SL 1 bs,I a,I e]
abbrev rd4(bs:LL)(a e:Int)(b:Bool):SV:=.agg [SL 1 bs,I a,I e,B b]
abbrev sL:Sig:=⟨[.lend [false,false,false,false]],[]⟩
def SgT:FuncId→Sig:=(λf=>bif Nat.beq f 271 then⟨[],[.own]⟩else bif Nat.beq f 272 then⟨[],[.own]⟩else bif Nat.beq f 149 then⟨[],[.own]⟩else bif Nat.beq f 218 then⟨[],[.own]⟩else bif Nat.beq f 307 then⟨[],[.own]⟩else bif Nat.beq f 321 then sL else bif Nat.beq f 355 then sL else bif Nat.beq f 322 then sL else bif Nat.beq f 356 then sL else{})
def SvT:TypeId→Sig:=λ_=>{}
def rnum_nf{bad:Bool}(h:Cl prog 353 sP ([SV.agg [SL 1 l,I b,I i]]) (λd=>∃bs x,∃a c,(d=[SV.agg [SL 1 bs,I x,I a],U64 c])∧ifB (bpick (ine a 0) true (igt c 9223372036854775807)) (Q ([I 0,SV.agg [SL 1 bs,I x,I a,B true]])) (Q ([I (wcv .i64 c),SV.agg [SL 1 bs,I x,I a,B bad]])))):Ct prog 321 ⟨[.lend [false,false,false,false]],[]⟩ [rd4 l b i bad] Q:=
 fN SgT SvT func321 h
def rtxt_nf{bad:Bool}(h:Cl prog 371 sP ([SV.agg [SL 1 l,I b,I i],I 24]) (λc=>∃bs x,∃a s,(c=[SV.agg [SL 1 bs,I x,I a],S s])∧ifB (ine a 0) (Q ([S (bA []),SV.agg [SL 1 bs,I x,I a,B true]])) (Q ([S s,SV.agg [SL 1 bs,I x,I a,B bad]])))):Ct prog 355 ⟨[.lend [false,false,false,false]],[]⟩ [rd4 l b i bad] Q:=
 fN SgT SvT func355 h
def rwin_nf{bad:Bool}(h:Cl prog 321 (Sig.mk ([Md.lend [false,false,false,false]]) []) ([SV.agg [SL 1 l,I i,I j,B bad]]) (λT=>∃x bs,∃H J b,(T=[I x,SV.agg [SL 1 bs,I H,I J,B b]])∧Cl prog 321 (Sig.mk ([Md.lend [false,false,false,false]]) []) ([SV.agg [SL 1 bs,I H,I J,B b]]) (λD=>∃v K,∃L M N,(D=[I v,SV.agg [SL 1 K,I L,I M,B N]])∧Cl prog 321 (Sig.mk ([Md.lend [false,false,false,false]]) []) ([SV.agg [SL 1 K,I L,I M,B N]]) (λE=>∃w y,∃z A O,(E=[I w,SV.agg [SL 1 y,I z,I A,B O]])∧ifB (igt w 16) (Q ([SV.agg ([I x,I v,SL 2 []]),SV.agg [SL 1 y,I z,I A,B true]])) (∃n:Int→LL→Int→Int→Bool→Int→Int→LL→Prop,∃m:Int→LL→Int→Int→Bool→Int→Int→LL→Nat,(n 0 y z A O x v [])∧∀o r,∀d e,∀b3 a,∀c er,(n o r d e b3 a c er)→ifB (ilt o w) (Cl prog 321 (Sig.mk ([Md.lend [false,false,false,false]]) []) ([SV.agg [SL 1 r,I d,I e,B b3]]) (λF=>∃g P,∃t u R,(F=[I g,SV.agg [SL 1 P,I t,I u,B R]])∧Cl prog 321 (Sig.mk ([Md.lend [false,false,false,false]]) []) ([SV.agg [SL 1 P,I t,I u,B R]]) (λG=>∃s C,∃p q b5,(G=[I s,SV.agg [SL 1 C,I p,I q,B b5]])∧((lsum (rlen er) (rlen ([[I g,I s]])))≤2147483648)∧(Sm (some ([[I 0,I 0,SV.slice 2 [] 1]])))∧(n (wadd .i64 o 1) C p q b5 a c (rapp er ([[I g,I s]])))∧Nl (m (wadd .i64 o 1) C p q b5 a c (rapp er ([[I g,I s]]))) (m o r d e b3 a c er)))) (Q ([SV.agg [I a,I c,SL 2 er],SV.agg [SL 1 r,I d,I e,B b3]]))))))):Ct prog 356 ⟨[.lend [false,false,false,false]],[]⟩ [rd4 l i j bad] Q:=
 fO SgT SvT (λk=>bif Nat.beq k 23 then some {slots:=[(22,false,[.int .i64])],boxes:=[(1048576,[.sl 1,.int .i64,.int .i64,.bool]),(384,[.int .i64,.int .i64,.own 2])],fixed:=[256]}else none) func356 h
def rcomp_nf{bad:Bool}(h:Cl prog 355 (Sig.mk ([Md.lend [false,false,false,false]]) []) ([SV.agg [SL 1 l,I i,I j,B bad]]) (λrs=>∃s bs,∃x x1 b,(rs=[S s,SV.agg [SL 1 bs,I x,I x1,B b]])∧Cl prog 321 (Sig.mk ([Md.lend [false,false,false,false]]) []) ([SV.agg [SL 1 bs,I x,I x1,B b]]) (λbw=>∃x2 l1,∃x3 x4 b1,(bw=[I x2,SV.agg [SL 1 l1,I x3,I x4,B b1]])∧ifB (bpick (ilt x2 1) true (igt x2 3)) (Q ([SV.agg ([S s,I 0,I 0,I 0,I 0,SL 2 [],I 0,I 0,I 0,I 0,I 0,I 0,I 0,I 0,I 0,I 0,I 0,I 0,I 0,I 0,I 0]),SV.agg [SL 1 l1,I x3,I x4,B true]])) (Cl prog 321 (Sig.mk ([Md.lend [false,false,false,false]]) []) ([SV.agg [SL 1 l1,I x3,I x4,B b1]]) (λbx=>∃x5 l2,∃x6 x7 b2,(bx=[I x5,SV.agg [SL 1 l2,I x6,I x7,B b2]])∧∃ao:LL→Int→Int→Bool→BA→Int→Int→Int→Int→LL→Int→Int→Int→Int→Int→Int→Int→Int→Int→Int→Int→Int→Int→Int→Int→Prop,∃m:LL→Int→Int→Bool→BA→Int→Int→Int→Int→LL→Int→Int→Int→Int→Int→Int→Int→Int→Int→Int→Int→Int→Int→Int→Int→Nat,(ifB (ieq x2 1) (Cl prog 356 (Sig.mk ([Md.lend [false,false,false,false]]) []) ([SV.agg [SL 1 l2,I x6,I x7,B b2]]) (λa8=>∃x8 x9,∃l3 l4,∃ac ai b3,(a8=[SV.agg [I x8,I x9,SL 2 l3],SV.agg [SL 1 l4,I ac,I ai,B b3]])∧(Sm (some ([[S (bA []),I 0,I 0,I 0,I 0,SV.slice 2 [] 1,I 0,I 0,I 0,I 0,I 0,I 0,I 0,I 0,I 0,I 0,I 0,I 0,I 0,I 0,I 0]])))∧ao l4 ac ai b3 s x2 x5 x8 x9 l3 0 0 0 0 0 0 0 0 0 0 0 0 0 0 0)) ((Sm (some ([[S (bA []),I 0,I 0,I 0,I 0,SV.slice 2 [] 1,I 0,I 0,I 0,I 0,I 0,I 0,I 0,I 0,I 0,I 0,I 0,I 0,I 0,I 0,I 0]])))∧ao l2 x6 x7 b2 s x2 x5 0 0 [] 0 0 0 0 0 0 0 0 0 0 0 0 0 0 0))∧∀l3 x8,∀x9 b3,∀s1 ac,∀ai ap,∀aq l4,∀ar au,∀av aw,∀ax ay,∀az b0,∀b8 b9,∀ba bb,∀bc bd be,(ao l3 x8 x9 b3 s1 ac ai ap aq l4 ar au av aw ax ay az b0 b8 b9 ba bb bc bd be)→∃an:LL→Int→Int→Bool→BA→Int→Int→Int→Int→LL→Int→Int→Int→Int→Int→Int→Int→Int→Int→Int→Int→Int→Int→Int→Int→Prop,∃m1:LL→Int→Int→Bool→BA→Int→Int→Int→Int→LL→Int→Int→Int→Int→Int→Int→Int→Int→Int→Int→Int→Int→Int→Int→Int→Nat,(ifB (bpick (ieq ac 1) true (ieq ac 3)) (∃J:Int→LL→Int→Int→Bool→BA→Int→Int→Int→Int→LL→Int→Int→Int→Int→Int→Int→Int→Int→Int→Int→Int→Int→Int→Int→Int→Prop,∃O:Int→LL→Int→Int→Bool→BA→Int→Int→Int→Int→LL→Int→Int→Int→Int→Int→Int→Int→Int→Int→Int→Int→Int→Int→Int→Int→Nat,(J 0 l3 x8 x9 b3 s1 ac ai ap aq l4 ar au av aw ax ay az b0 b8 b9 ba bb bc bd be)∧∀a l5,∀M L,∀b4 G,∀d e,∀g bf,∀H q,∀r t,∀u v,∀w y,∀z A,∀C p,∀er n,∀o c,(J a l5 M L b4 G d e g bf H q r t u v w y z A C p er n o c)→ifB (ilt a 9) (Cl prog 321 (Sig.mk ([Md.lend [false,false,false,false]]) []) ([SV.agg [SL 1 l5,I M,I L,B b4]]) (λa8=>∃D K,∃E F b5,(a8=[I D,SV.agg [SL 1 K,I E,I F,B b5]])∧((0≤a)∧a<9)∧((a=0)→(Sm (some ([[S (bA []),I 0,I 0,I 0,I 0,SV.slice 2 [] 1,I 0,I 0,I 0,I 0,I 0,I 0,I 0,I 0,I 0,I 0,I 0,I 0,I 0,I 0,I 0]])))∧(J (wadd .i64 a 1) K E F b5 G d e g bf H D r t u v w y z A C p er n o c)∧Nl (O (wadd .i64 a 1) K E F b5 G d e g bf H D r t u v w y z A C p er n o c) (O a l5 M L b4 G d e g bf H q r t u v w y z A C p er n o c))∧((a=1)→(Sm (some ([[S (bA []),I 0,I 0,I 0,I 0,SV.slice 2 [] 1,I 0,I 0,I 0,I 0,I 0,I 0,I 0,I 0,I 0,I 0,I 0,I 0,I 0,I 0,I 0]])))∧(J (wadd .i64 a 1) K E F b5 G d e g bf H q D t u v w y z A C p er n o c)∧Nl (O (wadd .i64 a 1) K E F b5 G d e g bf H q D t u v w y z A C p er n o c) (O a l5 M L b4 G d e g bf H q r t u v w y z A C p er n o c))∧((a=2)→(Sm (some ([[S (bA []),I 0,I 0,I 0,I 0,SV.slice 2 [] 1,I 0,I 0,I 0,I 0,I 0,I 0,I 0,I 0,I 0,I 0,I 0,I 0,I 0,I 0,I 0]])))∧(J (wadd .i64 a 1) K E F b5 G d e g bf H q r D u v w y z A C p er n o c)∧Nl (O (wadd .i64 a 1) K E F b5 G d e g bf H q r D u v w y z A C p er n o c) (O a l5 M L b4 G d e g bf H q r t u v w y z A C p er n o c))∧((a=3)→(Sm (some ([[S (bA []),I 0,I 0,I 0,I 0,SV.slice 2 [] 1,I 0,I 0,I 0,I 0,I 0,I 0,I 0,I 0,I 0,I 0,I 0,I 0,I 0,I 0,I 0]])))∧(J (wadd .i64 a 1) K E F b5 G d e g bf H q r t D v w y z A C p er n o c)∧Nl (O (wadd .i64 a 1) K E F b5 G d e g bf H q r t D v w y z A C p er n o c) (O a l5 M L b4 G d e g bf H q r t u v w y z A C p er n o c))∧((a=4)→(Sm (some ([[S (bA []),I 0,I 0,I 0,I 0,SV.slice 2 [] 1,I 0,I 0,I 0,I 0,I 0,I 0,I 0,I 0,I 0,I 0,I 0,I 0,I 0,I 0,I 0]])))∧(J (wadd .i64 a 1) K E F b5 G d e g bf H q r t u D w y z A C p er n o c)∧Nl (O (wadd .i64 a 1) K E F b5 G d e g bf H q r t u D w y z A C p er n o c) (O a l5 M L b4 G d e g bf H q r t u v w y z A C p er n o c))∧((a=5)→(Sm (some ([[S (bA []),I 0,I 0,I 0,I 0,SV.slice 2 [] 1,I 0,I 0,I 0,I 0,I 0,I 0,I 0,I 0,I 0,I 0,I 0,I 0,I 0,I 0,I 0]])))∧(J (wadd .i64 a 1) K E F b5 G d e g bf H q r t u v D y z A C p er n o c)∧Nl (O (wadd .i64 a 1) K E F b5 G d e g bf H q r t u v D y z A C p er n o c) (O a l5 M L b4 G d e g bf H q r t u v w y z A C p er n o c))∧((a=6)→(Sm (some ([[S (bA []),I 0,I 0,I 0,I 0,SV.slice 2 [] 1,I 0,I 0,I 0,I 0,I 0,I 0,I 0,I 0,I 0,I 0,I 0,I 0,I 0,I 0,I 0]])))∧(J (wadd .i64 a 1) K E F b5 G d e g bf H q r t u v w D z A C p er n o c)∧Nl (O (wadd .i64 a 1) K E F b5 G d e g bf H q r t u v w D z A C p er n o c) (O a l5 M L b4 G d e g bf H q r t u v w y z A C p er n o c))∧((a=7)→(Sm (some ([[S (bA []),I 0,I 0,I 0,I 0,SV.slice 2 [] 1,I 0,I 0,I 0,I 0,I 0,I 0,I 0,I 0,I 0,I 0,I 0,I 0,I 0,I 0,I 0]])))∧(J (wadd .i64 a 1) K E F b5 G d e g bf H q r t u v w y D A C p er n o c)∧Nl (O (wadd .i64 a 1) K E F b5 G d e g bf H q r t u v w y D A C p er n o c) (O a l5 M L b4 G d e g bf H q r t u v w y z A C p er n o c))∧((a=8)→(Sm (some ([[S (bA []),I 0,I 0,I 0,I 0,SV.slice 2 [] 1,I 0,I 0,I 0,I 0,I 0,I 0,I 0,I 0,I 0,I 0,I 0,I 0,I 0,I 0,I 0]])))∧(J (wadd .i64 a 1) K E F b5 G d e g bf H q r t u v w y z D C p er n o c)∧Nl (O (wadd .i64 a 1) K E F b5 G d e g bf H q r t u v w y z D C p er n o c) (O a l5 M L b4 G d e g bf H q r t u v w y z A C p er n o c))∧True)) (Cl prog 321 (Sig.mk ([Md.lend [false,false,false,false]]) []) ([SV.agg [SL 1 l5,I M,I L,B b4]]) (λa8=>∃D K,∃E F b5,(a8=[I D,SV.agg [SL 1 K,I E,I F,B b5]])∧(Sm (some ([[S (bA []),I 0,I 0,I 0,I 0,SV.slice 2 [] 1,I 0,I 0,I 0,I 0,I 0,I 0,I 0,I 0,I 0,I 0,I 0,I 0,I 0,I 0,I 0]])))∧an K E F b5 G d e g bf H q r t u v w y z A D p er n o c))) ((Sm (some ([[S (bA []),I 0,I 0,I 0,I 0,SV.slice 2 [] 1,I 0,I 0,I 0,I 0,I 0,I 0,I 0,I 0,I 0,I 0,I 0,I 0,I 0,I 0,I 0]])))∧an l3 x8 x9 b3 s1 ac ai ap aq l4 ar au av aw ax ay az b0 b8 b9 ba bb bc bd be))∧∀l5 a,∀M b4,∀G L,∀d e,∀g H,∀bf q,∀r t,∀u v,∀w y,∀z A,∀C p,∀er n o,(an l5 a M b4 G L d e g H bf q r t u v w y z A C p er n o)→∃J:LL→Int→Int→Bool→BA→Int→Int→Int→Int→LL→Int→Int→Int→Int→Int→Int→Int→Int→Int→Int→Int→Int→Int→Int→Int→Prop,∃O:LL→Int→Int→Bool→BA→Int→Int→Int→Int→LL→Int→Int→Int→Int→Int→Int→Int→Int→Int→Int→Int→Int→Int→Int→Int→Nat,(ifB (bpick (ieq L 2) true (ieq L 3)) (Cl prog 321 (Sig.mk ([Md.lend [false,false,false,false]]) []) ([SV.agg [SL 1 l5,I a,I M,B b4]]) (λa8=>∃c K,∃D E b5,(a8=[I c,SV.agg [SL 1 K,I D,I E,B b5]])∧Cl prog 321 (Sig.mk ([Md.lend [false,false,false,false]]) []) ([SV.agg [SL 1 K,I D,I E,B b5]]) (λbz=>∃F l8,∃al am b6,(bz=[I F,SV.agg [SL 1 l8,I al,I am,B b6]])∧(Sm (some ([[S (bA []),I 0,I 0,I 0,I 0,SV.slice 2 [] 1,I 0,I 0,I 0,I 0,I 0,I 0,I 0,I 0,I 0,I 0,I 0,I 0,I 0,I 0,I 0]])))∧J l8 al am b6 G L d e g H bf q r t u v w y z A c F er n o))) ((Sm (some ([[S (bA []),I 0,I 0,I 0,I 0,SV.slice 2 [] 1,I 0,I 0,I 0,I 0,I 0,I 0,I 0,I 0,I 0,I 0,I 0,I 0,I 0,I 0,I 0]])))∧J l5 a M b4 G L d e g H bf q r t u v w y z A C p er n o))∧∀K c,∀D b5,∀s3 E,∀F al,∀am l8,∀bg bh,∀bi bj,∀bk bl,∀bm bn,∀bo bp,∀bq br,∀bt bu bv,(J K c D b5 s3 E F al am l8 bg bh bi bj bk bl bm bn bo bp bq br bt bu bv)→∃ad:Int→LL→Int→Int→Bool→BA→Int→Int→Int→Int→LL→Int→Int→Int→Int→Int→Int→Int→Int→Int→Int→Int→Int→Int→Int→Int→Prop,∃m3:Int→LL→Int→Int→Bool→BA→Int→Int→Int→Int→LL→Int→Int→Int→Int→Int→Int→Int→Int→Int→Int→Int→Int→Int→Int→Int→Nat,(ad 0 K c D b5 s3 E F al am l8 bg bh bi bj bk bl bm bn bo bp bq br bt bu bv)∧∀N l9,∀aj ak,∀b6 s4,∀P R,∀T U,∀V W,∀X Y,∀Z a0,∀a1 a2,∀a3 a4,∀a5 a6,∀a7 a9,∀aa ab,(ad N l9 aj ak b6 s4 P R T U V W X Y Z a0 a1 a2 a3 a4 a5 a6 a7 a9 aa ab)→ifB (ilt N 3) (Cl prog 321 (Sig.mk ([Md.lend [false,false,false,false]]) []) ([SV.agg [SL 1 l9,I aj,I ak,B b6]]) (λa8=>∃ae af,∃ag ah b7,(a8=[I ae,SV.agg [SL 1 af,I ag,I ah,B b7]])∧((0≤N)∧N<3)∧((N=0)→(Sm (some ([[S (bA []),I 0,I 0,I 0,I 0,SV.slice 2 [] 1,I 0,I 0,I 0,I 0,I 0,I 0,I 0,I 0,I 0,I 0,I 0,I 0,I 0,I 0,I 0]])))∧(ad (wadd .i64 N 1) af ag ah b7 s4 P R T U V W X Y Z a0 a1 a2 a3 a4 a5 a6 a7 ae aa ab)∧Nl (m3 (wadd .i64 N 1) af ag ah b7 s4 P R T U V W X Y Z a0 a1 a2 a3 a4 a5 a6 a7 ae aa ab) (m3 N l9 aj ak b6 s4 P R T U V W X Y Z a0 a1 a2 a3 a4 a5 a6 a7 a9 aa ab))∧((N=1)→(Sm (some ([[S (bA []),I 0,I 0,I 0,I 0,SV.slice 2 [] 1,I 0,I 0,I 0,I 0,I 0,I 0,I 0,I 0,I 0,I 0,I 0,I 0,I 0,I 0,I 0]])))∧(ad (wadd .i64 N 1) af ag ah b7 s4 P R T U V W X Y Z a0 a1 a2 a3 a4 a5 a6 a7 a9 ae ab)∧Nl (m3 (wadd .i64 N 1) af ag ah b7 s4 P R T U V W X Y Z a0 a1 a2 a3 a4 a5 a6 a7 a9 ae ab) (m3 N l9 aj ak b6 s4 P R T U V W X Y Z a0 a1 a2 a3 a4 a5 a6 a7 a9 aa ab))∧((N=2)→(Sm (some ([[S (bA []),I 0,I 0,I 0,I 0,SV.slice 2 [] 1,I 0,I 0,I 0,I 0,I 0,I 0,I 0,I 0,I 0,I 0,I 0,I 0,I 0,I 0,I 0]])))∧(ad (wadd .i64 N 1) af ag ah b7 s4 P R T U V W X Y Z a0 a1 a2 a3 a4 a5 a6 a7 a9 aa ae)∧Nl (m3 (wadd .i64 N 1) af ag ah b7 s4 P R T U V W X Y Z a0 a1 a2 a3 a4 a5 a6 a7 a9 aa ae) (m3 N l9 aj ak b6 s4 P R T U V W X Y Z a0 a1 a2 a3 a4 a5 a6 a7 a9 aa ab))∧True)) (Q ([SV.agg [S s4,I P,I R,I T,I U,SL 2 V,I W,I X,I Y,I Z,I a0,I a1,I a2,I a3,I a4,I a5,I a6,I a7,I a9,I aa,I ab],SV.agg [SL 1 l9,I aj,I ak,B b6]]))))))):Ct prog 322 ⟨[.lend [false,false,false,false]],[]⟩ [rd4 l i j bad] Q:=
 fO SgT SvT (λk=>bif Nat.beq k 42 then some {slots:=[(41,false,[.int .i64])],boxes:=[(1048576,[.sl 1,.int .i64,.int .i64,.bool]),(384,[.str,.int .i64,.int .i64,.int .i64,.int .i64,.sl 2,.int .i64,.int .i64,.int .i64,.int .i64,.int .i64,.int .i64,.int .i64,.int .i64,.int .i64,.int .i64,.int .i64,.int .i64,.int .i64,.int .i64,.int .i64])],fixed:=[256]}else bif Nat.beq k 72 then some {slots:=[(71,false,[.int .i64])],boxes:=[(1048576,[.sl 1,.int .i64,.int .i64,.bool]),(384,[.str,.int .i64,.int .i64,.int .i64,.int .i64,.sl 2,.int .i64,.int .i64,.int .i64,.int .i64,.int .i64,.int .i64,.int .i64,.int .i64,.int .i64,.int .i64,.int .i64,.int .i64,.int .i64,.int .i64,.int .i64])],fixed:=[256]}else bif Nat.beq k 4000029 then some {boxes:=[(1048576,[.sl 1,.int .i64,.int .i64,.bool]),(384,[.str,.int .i64,.int .i64,.int .i64,.int .i64,.sl 2,.int .i64,.int .i64,.int .i64,.int .i64,.int .i64,.int .i64,.int .i64,.int .i64,.int .i64,.int .i64,.int .i64,.int .i64,.int .i64,.int .i64,.int .i64])],fixed:=[256]}else bif Nat.beq k 4000040 then some {boxes:=[(1048576,[.sl 1,.int .i64,.int .i64,.bool]),(384,[.str,.int .i64,.int .i64,.int .i64,.int .i64,.sl 2,.int .i64,.int .i64,.int .i64,.int .i64,.int .i64,.int .i64,.int .i64,.int .i64,.int .i64,.int .i64,.int .i64,.int .i64,.int .i64,.int .i64,.int .i64])],fixed:=[256]}else bif Nat.beq k 4000062 then some {boxes:=[(1048576,[.sl 1,.int .i64,.int .i64,.bool]),(384,[.str,.int .i64,.int .i64,.int .i64,.int .i64,.sl 2,.int .i64,.int .i64,.int .i64,.int .i64,.int .i64,.int .i64,.int .i64,.int .i64,.int .i64,.int .i64,.int .i64,.int .i64,.int .i64,.int .i64,.int .i64])],fixed:=[256]}else none) func322 h
def rdec_nf(h:Cl prog 320 sP [SL 1 l] (λrs=>∃bs x Z,(rs=[SV.agg [SL 1 bs,I x,I Z]])∧Cl prog 321 (Sig.mk ([Md.lend [false,false,false,false]]) []) ([SV.agg [SL 1 bs,I x,I Z,B false]]) (λV=>∃U l1,∃x3 x4 b,(V=[I U,SV.agg [SL 1 l1,I x3,I x4,B b]])∧ifB (igt U 12) (Q ([SV.agg ([SL 21 [],I 0,I 0]),I 11])) (∃H:Int→LL→Int→Int→Bool→LL→Int→Int→Prop,∃m:Int→LL→Int→Int→Bool→LL→Int→Int→Nat,(H 0 l1 x3 x4 b [] 0 0)∧∀J M,∀N O,∀P n,∀R T,(H J M N O P n R T)→ifB (ilt J U) (Cl prog 322 (Sig.mk ([Md.lend [false,false,false,false]]) []) ([SV.agg [SL 1 M,I N,I O,B P]]) (λG=>∃s a,∃d e,∃c o,∃g i,∃j p,∃q r,∃t u,∃v w,∃y z,∃A C,∃D E,∃K L F,(G=[SV.agg [S s,I a,I d,I e,I c,SL 2 o,I g,I i,I j,I p,I q,I r,I t,I u,I v,I w,I y,I z,I A,I C,I D],SV.agg [SL 1 E,I K,I L,B F]])∧((lsum (rlen n) (rlen ([[S s,I a,I d,I e,I c,SL 2 o,I g,I i,I j,I p,I q,I r,I t,I u,I v,I w,I y,I z,I A,I C,I D]])))≤2147483648)∧(Sm (some ([[SV.slice 21 [] 1,I 0,I 0]])))∧(H (wadd .i64 J 1) E K L F (rapp n ([[S s,I a,I d,I e,I c,SL 2 o,I g,I i,I j,I p,I q,I r,I t,I u,I v,I w,I y,I z,I A,I C,I D]])) R T)∧Nl (m (wadd .i64 J 1) E K L F (rapp n ([[S s,I a,I d,I e,I c,SL 2 o,I g,I i,I j,I p,I q,I r,I t,I u,I v,I w,I y,I z,I A,I C,I D]])) R T) (m J M N O P n R T))) (Cl prog 321 (Sig.mk ([Md.lend [false,false,false,false]]) []) ([SV.agg [SL 1 M,I N,I O,B P]]) (λG=>∃a o,∃d e F,(G=[I a,SV.agg [SL 1 o,I d,I e,B F]])∧Cl prog 321 (Sig.mk ([Md.lend [false,false,false,false]]) []) ([SV.agg [SL 1 o,I d,I e,B F]]) (λW=>∃c E,∃g i b3,(W=[I c,SV.agg [SL 1 E,I g,I i,B b3]])∧ifB b3 (Q ([SV.agg ([SL 21 [],I 0,I 0]),I 11])) (Cl prog 323 sP ([SV.agg [SL 1 E,I g,I i]]) (λX=>∃j,(X=[I j])∧ifB (ine j 0) (Q ([SV.agg ([SL 21 [],I 0,I 0]),I 11])) (Cl prog 101 sP ([SV.agg [SL 21 n,I a,I c]]) (λY=>∃b4,(Y=[B b4])∧ifB (bnot b4) (Q ([SV.agg ([SL 21 [],I 0,I 0]),I 11])) (Q ([SV.agg [SL 21 n,I a,I c],I 0]))))))))))))):Ct prog 259 {} [SL 1 l] Q:=
 fO SgT SvT (λk=>bif Nat.beq k 18 then some {slots:=[(17,false,[.int .i64])],boxes:=[(1280,[.sl 1,.int .i64,.int .i64,.bool]),(640,[.own 21,.int .i64,.int .i64])],fixed:=[256]}else none) func259 h
end Row
namespace Row
open Go Go.Px Go.Proofs Cmp Sx Cod Tryz
def Gd(l pre:List Int)(a er:Int)(b:Bool):Prop:=b=false∧er=0∧a=pre.length∧pre<+:l
structure NR(l:List Int)(a er:Int)(b:Bool)(n a' er':Int)(b':Bool):Prop where
 rg:rng n
 snd:b'=false→b=false∧∀pre,Gd l pre a er b→Gd l (pre++leb n.toNat) a' er' b'
 cmp:∀pre (m:Int),rng m→Gd l pre a er b→pre++leb m.toNat<+:l→b'=false∧n=m
def Zdv(l:List Int)(a er:Int)(b:Bool)(v:l.length≤100000)(w:Byts l):Ct prog 321 sL [rd4 (bR l) a er b] (λr=>∃n p i q,r=[I n,rd4 (bR l) p i q]∧NR l a er b n p i q):=by
 refine rnum_nf (Cl.ofQ (Zgs l a er v w) ?_);rintro r ⟨a1,er1,n,rfl,ho,hs⟩;have E:=ho.n0;have j:∀pre (m:Int),rng m→Gd l pre a er b→pre++leb m.toNat<+:l→er1=0∧n=m∧b=false:=(by rintro pre m c ⟨k,u,o,g⟩ f;obtain⟨t,x⟩:=Zxl o f;unfold rng at c;obtain⟨F,y,G⟩:=ho.good u (by omega) m.toNat t x (by omega);exact⟨y,by omega,k⟩);refine⟨_,_,_,_,rfl,Zaa (λh=>?_) (λh=>?_)⟩
 ·simp at h;refine⟨0,a1,er1,true,rfl,⟨by unfold rng;omega,(λe=>nomatch e),λpre m c d f=>?_⟩⟩;obtain⟨z,s,_⟩:=j pre m c d f;unfold rng at c;omega
 ·simp at h;rw[Zj5];refine⟨n,a1,er1,b,rfl,⟨⟨E,by omega⟩,λe=>⟨e,λpre d=>?_⟩,λpre m c d f=>?_⟩⟩
  ·obtain⟨k,u,o,g⟩:=d;obtain⟨H,J,A,C,s4⟩:=hs h.1;exact⟨k,h.1,by simp;omega,Zxm o g C⟩
  ·obtain⟨z,s,D⟩:=j pre m c d f;exact⟨D,s⟩
structure PS(l:List Int)(a0 er0:Int)(b0:Bool)(s:BA)(ns:List Int)(a er:Int)(b:Bool):Prop where
 rg:∀n∈ns,rng n
 snd:b=false→b0=false∧s.size≤24∧∀pre,Gd l pre a0 er0 b0→Gd l (pre++(leb s.size++(txB s++encN ns))) a er b
 cmp:∀pre c0,shp c0→Gd l pre a0 er0 b0→pre++encC c0<+:l→b=false∧c0.nm=s∧ns<+:numC c0
theorem PS.num{l:List Int}{v j:Int}{w:Bool}{s:BA}{f:List Int}{a er:Int}{b:Bool}{n a' er':Int}{y:Bool}(p:PS l v j w s f a er b)(q:NR l a er b n a' er' y)
  (h:∀c,shp c→f<+:numC c→f.length<(numC c).length):PS l v j w s (f++[n]) a' er' y:=by
 refine⟨λx g=>?_,λe=>?_,λpre c o i r=>?_⟩
 ·rcases List.mem_append.1 g with g|g
  ·exact p.rg x g
  ·simp at g;rw[g];exact q.rg
 ·obtain⟨e1,z⟩:=q.snd e;obtain⟨e2,d,A⟩:=p.snd e1;refine⟨e2,d,λpre i=>?_⟩;have:=z _ (A pre i);rw[Zqf,Zxj]
  simpa using this
 ·obtain⟨e1,e2,⟨t,d⟩⟩:=p.cmp pre c o i r;have k:=h c o ⟨t,d⟩
  cases t with
  |nil=>rw[←d]at k;simp at k
  |cons m t=>
   have E:rng m:=o.n m (by rw[←d];simp)
   have u:pre++(leb s.size++(txB s++encN f))++leb m.toNat<+:l:=by
    have:encC c=(leb s.size++(txB s++encN f)++leb m.toNat)++encN t:=(by rw[encC,←d,e2,Zqf,show m::t=[m]++t from rfl,Zqf,Zxj];simp);rw[this]at r;have:=pre_more r
    simpa using this
   obtain⟨C,D⟩:=q.cmp _ m E ((p.snd e1).2.2 pre i) u;exact⟨C,e2,⟨t,by rw[←d,D];simp⟩⟩
def PS.bad{l:List Int}{f d:Int}{g:Bool}{s s':BA}{i ns':List Int}{a er:Int}{b:Bool}{a' er':Int}(p:PS l f d g s i a er b)
  (h:∀c,shp c→i<+:numC c→False) (k:∀n∈ns',rng n):PS l f d g s' ns' a' er' true:=
 ⟨k,(λe=>nomatch e),λpre c j m o=>(h c j (p.cmp pre c j m o).2.2).elim⟩
def rtxt_fn(l:List Int)(a er:Int)(b:Bool)(v:l.length≤100000)(w:Byts l):Ct prog 355 sL [rd4 (bR l) a er b] (λr=>∃s p j q,r=[S s,rd4 (bR l) p j q]∧PS l a er b s [] p j q):=by
 refine rtxt_nf (Cl.ofQ (textS_fn l a er v w) ?_);rintro r ⟨a1,er1,s,rfl,ho,hs⟩;have k:∀pre c,shp c→Gd l pre a er b→pre++encC c<+:l→er1=0∧s=c.nm∧b=false:=(by rintro pre c d ⟨n,u,o,i⟩ g;obtain⟨t,y⟩:=Zxl o g;obtain⟨G,z,A⟩:=ho.good u (by omega) c.nm (encN (numC c)++t) (by rw[y,encC];simp) d.nm;exact⟨z,A,n⟩);refine⟨_,_,_,_,rfl,Zaa (λh=>?_) (λh=>?_)⟩
 ·simp at h;refine⟨_,_,_,_,rfl,⟨by simp,(λe=>nomatch e),λpre c d f g=>?_⟩⟩;exact absurd (k pre c d f g).1 h
 ·simp at h;obtain⟨H,J,C,m,D,s4⟩:=hs h;refine⟨_,_,_,_,rfl,⟨by simp,λe=>⟨e,C,λpre f=>?_⟩,λpre c d f g=>?_⟩⟩
  ·obtain⟨n,u,o,i⟩:=f;refine⟨n,h,by simp[Zxk,Zcs];omega,?_⟩;have:=Zxm (x:=leb s.size++txB s) (t:=m) o i (by rw[D,List.append_assoc])
   simpa[Zxk]using this
  ·obtain⟨K,E,F⟩:=k pre c d f g;exact⟨F,E.symm,Yw⟩
def WR(l:List Int)(a er:Int)(b:Bool)(i j:Int)(d:List (Int×Int))(k e:Int)(m:Bool):Prop:=
 d.length≤16∧∀f c g s h,PS l f c g s [1,h] a er b→PS l f c g s (bas 1 h i j d) k e m
def bas1(b c d:Int)(a:List (Int×Int)):bas 1 b c d a=[1,b,c,d,(a.length:Int)]++flat a:=by simp[bas]
def Zsn{a:CoD}(b:shp a){x:List Int}(h:([1,c,i,e,k]++x)<+:numC a):(numC a).length=18+2*k.toNat∧0≤k∧k≤16:=by
 obtain⟨f,g,d,j,l⟩:=pre_win h;have:=b.cl;refine⟨?_,by omega,by omega⟩;simp only[numC,List.length_append,Zum,Zhn,Zjn,f,List.length_cons,Y6];simp;omega
def rwin_fn(l:List Int)(a er:Int)(b:Bool)(C:l.length≤100000)(D:Byts l):Ct prog 356 sL [rd4 (bR l) a er b] (λr=>∃u v m F z G,r=[.agg [I u,I v,SL 2 (cR m)],rd4 (bR l) F z G]∧WR l a er b u v m F z G):=by
 refine rwin_nf (Cl.ofQ (Zdv l a er b C D) ?_);rintro r ⟨u,a1,er1,b1,rfl,h1⟩;refine⟨_,_,_,_,_,rfl,Cl.ofQ (Zdv l a1 er1 b1 C D) ?_⟩;rintro r ⟨v,a2,er2,b2,rfl,h2⟩;refine⟨_,_,_,_,_,rfl,Cl.ofQ (Zdv l a2 er2 b2 C D) ?_⟩;rintro r ⟨k,a3,er3,b3,rfl,h3⟩
 have P:∀f d g s j,PS l f d g s [1,j] a er b→PS l f d g s [1,j,u,v,k] a3 er3 b3:=by
  intro f d g s j p;have K:=p.num h1 (λt _ _=>by have:=Ziz (c:=t);simp;omega);have L:=K.num h2 (λt _ _=>by have:=Ziz (c:=t);simp;omega)
  have U:=L.num h3 (λt A o=>by
   have:=Ziz (c:=t);simp;omega)
  simpa using U
 have V:=h3.rg;unfold rng at V;refine⟨_,_,_,_,_,rfl,Zaa (λh=>?_) (λh=>?_)⟩
 ·simp at h;refine⟨u,v,[],a3,er3,true,rfl,by simp,λf d g s j p=>?_⟩;have o:=P f d g s j p;refine o.bad (λt A E=>?_) (λn H=>?_)
  ·have:=Zsn (x:=[]) A (by simpa using E);omega
  ·rw[bas1]at H;simp[flat]at H
   rcases H with rfl|rfl|rfl|rfl|rfl
   ·exact o.rg _ (by simp)
   ·exact o.rg _ (by simp)
   ·exact o.rg _ (by simp)
   ·exact o.rg _ (by simp)
   ·unfold rng;omega
 ·simp at h
  refine⟨λi Q F z G M N rows=>Q=bR l∧M=u∧N=v∧0≤i∧i≤k∧∃m,rows=cR m∧(m.length:Int)=i∧∀f d g s j,PS l f d g s [1,j] a er b→PS l f d g s ([1,j,u,v,k]++flat m) F z G,
   λi _ _ _ _ _ _ _=>(k-i).toNat,⟨rfl,rfl,rfl,by omega,by omega,[],rfl,rfl,λf d g s j p=>by simpa[flat]using P f d g s j p⟩,?_⟩
  rintro i _ R O T _ _ _ ⟨rfl,rfl,rfl,i0,i1,m,rfl,hcl,o⟩;refine Zaa (λJ=>?_) (λJ=>?_)
  ·simp at J;refine Cl.ofQ (Zdv l R O T C D) ?_;rintro r ⟨x,a5,er5,b5,rfl,h5⟩;refine⟨_,_,_,_,_,rfl,Cl.ofQ (Zdv l a5 er5 b5 C D) ?_⟩;rintro r ⟨y,a6,er6,b6,rfl,h6⟩;have w:wadd IntKind.i64 i 1=i+1:=Zac;rw[w];refine⟨_,_,_,_,_,rfl,?_,rfl,⟨rfl,rfl,rfl,by omega,by omega,m++[(x,y)],by simp[rapp],by simp;omega,λf d g s j p=>?_⟩,?_⟩
   ·simp[lsum,rlen];omega
   ·have q:=o f d g s j p
    have K:=q.num h5 (λt A E=>by
     have:=Zsn A E
     simp[Zqg];omega)
    have L:=K.num h6 (λt A E=>by
     have:=Zsn (x:=flat m++[x]) A (by simpa using E)
     simp[Zqg];omega)
    have e:flat (m++[(x,y)])=flat m++[x]++[y]:=(by simp[flat]);rw[e]
    simpa using L
   ·show Nat.succ (k-(i+1)).toNat≤(k-i).toNat;omega
  ·simp at J;have:i=k:=(by omega);subst this;refine⟨_,_,m,_,_,_,rfl,by omega,λf d g s j p=>?_⟩;rw[bas1,hcl];exact o f d g s j p
structure CR(l:List Int)(a er:Int)(b:Bool)(c:CoD)(a' er':Int)(b':Bool):Prop where
 cl:c.cl.length≤16
 snd:b'=false→shp c∧b=false∧∀pre,Gd l pre a er b→Gd l (pre++encC c) a' er' b'
 cmp:∀pre c0,shp c0→Gd l pre a er b→pre++encC c0<+:l→b'=false∧c=c0
def CR.ofPS{l:List Int}{a er:Int}{b:Bool}{c:CoD}{i d:Int}{j:Bool}(p:PS l a er b c.nm (numC c) i d j)(k:zro c)(o:1≤c.ro∧c.ro≤3)(m:c.cl.length≤16):CR l a er b c i d j:=by
 refine⟨m,λe=>?_,λpre q n r s=>?_⟩
 ·obtain⟨f,g,h⟩:=p.snd e;exact⟨⟨k,o,g,m,p.rg⟩,f,h⟩
 ·obtain⟨f,g,h⟩:=p.cmp pre q n r s;exact⟨f,Zqh k n.z g.symm h⟩
def Zvt{b:CoD}{f:List (Int×Int)}{x:List Int}(h:(bas i c j e f++x)<+:numC b)
  (g:x.length<(if i=1∨i=3 then 10 else 0)+((if i=2∨i=3 then 2 else 0)+3)):(bas i c j e f++x).length<(numC b).length:=by
 rw[(pre_bas h).2,List.length_append];omega
def rcomp_fn(l:List Int)(a er:Int)(b:Bool)(Z:l.length≤100000)(hb:Byts l):Ct prog 322 sL [rd4 (bR l) a er b] (λr=>∃c a' er' L,r=[CoD.sv c,rd4 (bR l) a' er' L]∧CR l a er b c a' er' L):=by
 refine rcomp_nf (Cl.ofQ (rtxt_fn l a er b Z hb) ?_);rintro r ⟨s,a1,er1,b1,rfl,p1⟩;refine⟨_,_,_,_,_,rfl,Cl.ofQ (Zdv l a1 er1 b1 Z hb) ?_⟩;rintro r ⟨d,a2,er2,b2,rfl,n2⟩;have p2:=p1.num n2 (λp _ _=>by have:=Ziz (c:=p);simp;omega);simp only[List.nil_append]at p2;refine⟨_,_,_,_,_,rfl,Zaa (λh=>?_) (λh=>?_)⟩
 ·simp at h
  have p3:PS l a er b s [] a2 er2 true:=p2.bad (s':=s) (ns':=[]) (a':=a2) (er':=er2) (λp g H=>by
   obtain⟨t,H⟩:=H;have:p.ro=d:=by simp only[numC,bas,Y5,List.nil_append,List.cons.injEq]at H;exact H.1.symm
   have:=g.r
   omega) (by simp)
  refine⟨⟨s,0,0,0,0,[],0,0,0,0,0,0,0,0,0,0,0,0,0,0,0⟩,a2,er2,true,rfl,⟨by simp,(λe=>nomatch e),λpre p g hg hp=>?_⟩⟩;exact absurd (p3.cmp pre p g hg hp).1 (by decide)
 simp at h;refine Cl.ofQ (Zdv l a2 er2 b2 Z hb) ?_;rintro r ⟨f,a3,er3,b3,rfl,n3⟩;have p3:=p2.num n3 (λp _ _=>by have:=Ziz (c:=p);simp;omega);simp only[Y5,List.nil_append]at p3
 refine⟨_,_,_,_,_,rfl,
  λl' a' er' L s' J K i j rows u y z A C D E F G g n o p c1 c2=>l'=bR l∧s'=s∧J=d∧K=f∧(u=0∧y=0∧z=0∧A=0∧C=0∧D=0∧E=0∧F=0∧G=0∧g=0)∧(n=0∧o=0)∧
   ∃m,rows=cR m∧m.length≤16∧(d≠1→i=0∧j=0∧m=[])∧PS l a er b s (bas d f i j m) a' er' L,
  λ_ _ _ _ _ _ _ _ _ _ _ _ _ _ _ _ _ _ _ _ _ _ _ _ _=>0,Zaa (λe=>?_) (λe=>?_),?_⟩
 ·simp at e;subst e;refine Cl.ofQ (rwin_fn l a3 er3 b3 Z hb) ?_;rintro r ⟨i,j,m,a4,ae,b4,rfl,hw⟩;exact⟨_,_,_,_,_,_,_,rfl,rfl,rfl,rfl,rfl,rfl,⟨rfl,rfl,rfl,rfl,rfl,rfl,rfl,rfl,rfl,rfl⟩,⟨rfl,rfl⟩,m,rfl,hw.1,(λh=>absurd rfl h),hw.2 _ _ _ _ _ p3⟩
 ·simp at e;refine⟨rfl,rfl,rfl,rfl,rfl,⟨rfl,rfl,rfl,rfl,rfl,rfl,rfl,rfl,rfl,rfl⟩,⟨rfl,rfl⟩,[],rfl,by simp,λ_=>⟨rfl,rfl,rfl⟩,?_⟩;have:bas d f 0 0 []=[d,f]:=(by simp[bas,e]);rw[this];exact p3
 rintro _ a4 ae b4 s d f i j _ u y z A C D E F G g n o p c1 c2 ⟨rfl,rfl,rfl,rfl,hz,hz2,m,rfl,hcl,hcz,p4⟩
 refine⟨λl' a' er' L s' J K W X rows M N O P Q R T U V gs n o p c1 c2=>l'=bR l∧s'=s∧J=d∧K=f∧W=i∧X=j∧rows=cR m∧(n=0∧o=0)∧
   (d≠1→d≠3→M=0∧N=0∧O=0∧P=0∧Q=0∧R=0∧T=0∧U=0∧V=0∧gs=0)∧
   PS l a er b s (bas d f i j m++hst d [M,N,O,P,Q,R,T,U,V,gs]) a' er' L,
  λ_ _ _ _ _ _ _ _ _ _ _ _ _ _ _ _ _ _ _ _ _ _ _ _ _=>0,Zaa (λe=>?_) (λe=>?_),?_⟩
 ·simp at e
  refine⟨λx l' a' er' L s' J K W X rows M N O P Q R T U V gs n o p c1 c2=>0≤x∧x≤9∧l'=bR l∧s'=s∧J=d∧K=f∧W=i∧X=j∧rows=cR m∧(n=0∧o=0)∧
    PS l a er b s (bas d f i j m++[M,N,O,P,Q,R,T,U,V].take x.toNat) a' er' L,
   λx _ _ _ _ _ _ _ _ _ _ _ _ _ _ _ _ _ _ _ _ _ _ _ _ _=>(9-x).toNat,⟨by omega,by omega,rfl,rfl,rfl,rfl,rfl,rfl,rfl,hz2,by simpa using p4⟩,?_⟩
  rintro x _ a5 a9 b5 s d f i j _ M N O P Q R T U V gs n o p c1 c2 ⟨x0,x9,rfl,rfl,rfl,rfl,rfl,rfl,rfl,hz3,p5⟩;refine Zaa (λY=>?_) (λY=>?_)
  ·simp at Y;refine Cl.ofQ (Zdv l a5 a9 b5 Z hb) ?_;rintro r ⟨v,a6,a0,b6,rfl,n6⟩;have p6:=p5.num n6 (λp g H=>Zvt H (by rw[if_pos e];simp;omega));have w:wadd IntKind.i64 x 1=x+1:=Zac;rw[w]
   have step:∀(k:Nat) (f0 f1 f2 f3 f4 f5 f6 f7 f8:Int),x=(k:Int)→[f0,f1,f2,f3,f4,f5,f6,f7,f8].take (k+1)=[M,N,O,P,Q,R,T,U,V].take k++[v]→
     (0≤x+1∧x+1≤9∧bR l=bR l∧s=s∧d=d∧f=f∧i=i∧j=j∧cR m=cR m∧(n=0∧o=0)∧
      PS l a er b s (bas d f i j m++[f0,f1,f2,f3,f4,f5,f6,f7,f8].take (x+1).toNat) a6 a0 b6)∧Nl (9-(x+1)).toNat (9-x).toNat:=by
    intro k f0 f1 f2 f3 f4 f5 f6 f7 f8 hk hf;refine⟨⟨by omega,by omega,rfl,rfl,rfl,rfl,rfl,rfl,rfl,hz3,?_⟩,by show Nat.succ _≤_;omega⟩;have e1:(x+1).toNat=k+1:=(by omega);have e2:x.toNat=k:=(by omega);rw[e1,hf,←List.append_assoc,←e2];exact p6
   exact⟨_,_,_,_,_,rfl,⟨x0,Y⟩,λe=>⟨rfl,step 0 _ _ _ _ _ _ _ _ _ e rfl⟩,λe=>⟨rfl,step 1 _ _ _ _ _ _ _ _ _ e rfl⟩,λe=>⟨rfl,step 2 _ _ _ _ _ _ _ _ _ e rfl⟩,λe=>⟨rfl,step 3 _ _ _ _ _ _ _ _ _ e rfl⟩,
    λe=>⟨rfl,step 4 _ _ _ _ _ _ _ _ _ e rfl⟩,λe=>⟨rfl,step 5 _ _ _ _ _ _ _ _ _ e rfl⟩,λe=>⟨rfl,step 6 _ _ _ _ _ _ _ _ _ e rfl⟩,λe=>⟨rfl,step 7 _ _ _ _ _ _ _ _ _ e rfl⟩,λe=>⟨rfl,step 8 _ _ _ _ _ _ _ _ _ e rfl⟩,trivial⟩
  ·simp at Y;have:x=9:=(by omega);subst this;refine Cl.ofQ (Zdv l a5 a9 b5 Z hb) ?_;rintro r ⟨v,a6,a0,b6,rfl,n6⟩;have p6:=p5.num n6 (λp g H=>Zvt H (by rw[if_pos e];simp;omega));refine⟨_,_,_,_,_,rfl,rfl,rfl,rfl,rfl,rfl,rfl,rfl,rfl,hz3,λq1 q2=>(e.elim q1 q2).elim,?_⟩;have:hst d [M,N,O,P,Q,R,T,U,V,v]=[M,N,O,P,Q,R,T,U,V].take (9:Int).toNat++[v]:=by unfold hst;rw[if_pos e];rfl
   rw[this,←List.append_assoc];exact p6
 ·simp at e;refine⟨rfl,rfl,rfl,rfl,rfl,rfl,rfl,rfl,hz2,λ_ _=>hz,?_⟩;have:hst d [u,y,z,A,C,D,E,F,G,g]=[]:=by unfold hst;rw[if_neg (by omega)]
  rw[this,List.append_nil];exact p4
 rintro _ a5 a9 b5 s d f i j _ u y z A C D E F G g n o p c1 c2 ⟨rfl,rfl,rfl,rfl,rfl,rfl,rfl,hz4,hz5,p5⟩
 have aa:∀{p:CoD} {x:List Int},(bas d f i j m++(hst d [u,y,z,A,C,D,E,F,G,g]++x))<+:numC p→x.length<(if d=2∨d=3 then 2 else 0)+3→
   (bas d f i j m++(hst d [u,y,z,A,C,D,E,F,G,g]++x)).length<(numC p).length:=λH Y=>
  Zvt H (by
   simp only[List.length_append,Zhn,List.length_cons,Y6]
   by_cases q:d=1∨d=3<;>simp only[q,if_true,if_false]<;>omega)
 refine⟨λl' a' er' L s' J K W X rows M N O P Q R T U V gs n o p c1 c2=>l'=bR l∧s'=s∧J=d∧K=f∧W=i∧X=j∧rows=cR m∧(M=u∧N=y∧O=z∧P=A∧Q=C∧R=D∧T=E∧U=F∧V=G∧gs=g)∧
   (d≠2→d≠3→n=0∧o=0)∧PS l a er b s (bas d f i j m++(hst d [u,y,z,A,C,D,E,F,G,g]++bck d [n,o])) a' er' L,
  λ_ _ _ _ _ _ _ _ _ _ _ _ _ _ _ _ _ _ _ _ _ _ _ _ _=>0,Zaa (λe=>?_) (λe=>?_),?_⟩
 ·simp at e;refine Cl.ofQ (Zdv l a5 a9 b5 Z hb) ?_;rintro r ⟨v,a6,a0,b6,rfl,n6⟩;refine⟨_,_,_,_,_,rfl,Cl.ofQ (Zdv l a6 a0 b6 Z hb) ?_⟩;rintro r ⟨v2,a7,ab,b7,rfl,n7⟩;have p6:=p5.num n6 (λp g H=>by have:=aa (x:=[]) (by simpa using H) (by simp);simpa using this);have p7:=p6.num n7 (λp g H=>by have:=aa (x:=[v]) (by simpa using H) (by rw[if_pos e];simp);simpa using this);refine⟨_,_,_,_,_,rfl,rfl,rfl,rfl,rfl,rfl,rfl,rfl,rfl,⟨rfl,rfl,rfl,rfl,rfl,rfl,rfl,rfl,rfl,rfl⟩,λq1 q2=>(e.elim q1 q2).elim,?_⟩;have:bck d [v,v2]=[v]++[v2]:=by unfold bck;rw[if_pos e];rfl
  rw[this,←List.append_assoc,←List.append_assoc];exact p7
 ·simp at e;refine⟨rfl,rfl,rfl,rfl,rfl,rfl,rfl,rfl,⟨rfl,rfl,rfl,rfl,rfl,rfl,rfl,rfl,rfl,rfl⟩,λ_ _=>hz4,?_⟩;have:bck d [n,o]=[]:=by unfold bck;rw[if_neg (by omega)]
  rw[this,List.append_nil];exact p5
 rintro _ a6 a0 b6 s d f i j _ u y z A C D E F G g n o p c1 c2 ⟨rfl,rfl,rfl,rfl,rfl,rfl,rfl,⟨rfl,rfl,rfl,rfl,rfl,rfl,rfl,rfl,rfl,rfl⟩,hz6,p6⟩
 refine⟨λx l' a' er' L s' J K W X rows M N O P Q R T U V gs ac ad k0 k1 k2=>0≤x∧x≤3∧l'=bR l∧s'=s∧J=d∧K=f∧W=i∧X=j∧rows=cR m∧(M=u∧N=y∧O=z∧P=A∧Q=C∧R=D∧T=E∧U=F∧V=G∧gs=g)∧
   (ac=n∧ad=o)∧PS l a er b s ((bas d f i j m++(hst d [u,y,z,A,C,D,E,F,G,g]++bck d [n,o]))++[k0,k1,k2].take x.toNat) a' er' L,
  λx _ _ _ _ _ _ _ _ _ _ _ _ _ _ _ _ _ _ _ _ _ _ _ _ _=>(3-x).toNat,⟨by omega,by omega,rfl,rfl,rfl,rfl,rfl,rfl,rfl,⟨rfl,rfl,rfl,rfl,rfl,rfl,rfl,rfl,rfl,rfl⟩,⟨rfl,rfl⟩,by simpa using p6⟩,?_⟩
 rintro x _ a7 ab b7 s d f i j _ u y z A C D E F G g n o k0 k1 k2 ⟨x0,x3,rfl,rfl,rfl,rfl,rfl,rfl,rfl,⟨rfl,rfl,rfl,rfl,rfl,rfl,rfl,rfl,rfl,rfl⟩,⟨rfl,rfl⟩,p7⟩;refine Zaa (λY=>?_) (λY=>?_)
 ·simp at Y;refine Cl.ofQ (Zdv l a7 ab b7 Z hb) ?_;rintro r ⟨v,a8,er8,b8,rfl,n8⟩
  have p8:=p7.num n8 (λp af H=>by
   have:=Zvt (x:=(hst d [u,y,z,A,C,D,E,F,G,g]++bck d [n,o])++[k0,k1,k2].take x.toNat) (by simpa using H) (by
    simp only[List.length_append,Zhn,Zjn,List.length_take,List.length_cons,Y6]
    by_cases q:d=1∨d=3<;>by_cases q2:d=2∨d=3<;>simp only[q,q2,if_true,if_false]<;>omega)
   simpa using this)
  have w:wadd IntKind.i64 x 1=x+1:=Zac;rw[w]
  have step:∀(k:Nat) (f0 f1 f2:Int),x=(k:Int)→[f0,f1,f2].take (k+1)=[k0,k1,k2].take k++[v]→
    (0≤x+1∧x+1≤3∧bR l=bR l∧s=s∧d=d∧f=f∧i=i∧j=j∧cR m=cR m∧(u=u∧y=y∧z=z∧A=A∧C=C∧D=D∧E=E∧F=F∧G=G∧g=g)∧
     (n=n∧o=o)∧PS l a er b s ((bas d f i j m++(hst d [u,y,z,A,C,D,E,F,G,g]++bck d [n,o]))++[f0,f1,f2].take (x+1).toNat) a8 er8 b8)∧Nl (3-(x+1)).toNat (3-x).toNat:=by
   intro k f0 f1 f2 hk hf;refine⟨⟨by omega,by omega,rfl,rfl,rfl,rfl,rfl,rfl,rfl,⟨rfl,rfl,rfl,rfl,rfl,rfl,rfl,rfl,rfl,rfl⟩,⟨rfl,rfl⟩,?_⟩,by show Nat.succ _≤_;omega⟩;have e1:(x+1).toNat=k+1:=(by omega);have e2:x.toNat=k:=(by omega);rw[e1,hf,←List.append_assoc,←e2];exact p8
  exact⟨_,_,_,_,_,rfl,⟨x0,Y⟩,λe=>⟨rfl,step 0 _ _ _ e rfl⟩,λe=>⟨rfl,step 1 _ _ _ e rfl⟩,λe=>⟨rfl,step 2 _ _ _ e rfl⟩,trivial⟩
 ·simp at Y;have:x=3:=(by omega);subst this;refine⟨⟨s,d,f,i,j,m,u,y,z,A,C,D,E,F,G,g,n,o,k0,k1,k2⟩,_,_,_,rfl,CR.ofPS ?_ ⟨hcz,hz5,hz6⟩ (by omega) hcl⟩;have:numC ⟨s,d,f,i,j,m,u,y,z,A,C,D,E,F,G,g,n,o,k0,k1,k2⟩=(bas d f i j m++(hst d [u,y,z,A,C,D,E,F,G,g]++bck d [n,o]))++[k0,k1,k2].take (3:Int).toNat:=(by simp[numC]);rw[this];exact p7
abbrev st0:StD:=⟨[],0,0⟩
def DSt(l:List Int)(d:StD)(e:Int):Prop:=(d.P∧encS d=l∧e=0)∨((∀a:StD,a.P→encS a≠l)∧d=st0∧e=11)
def P_shp{d:StD}(h:d.P):∀c∈d.cs,shp c:=λc a=>(shp_of (h.2.1 c a)).1
def take_step{l:List CoD}{a:List CoD}(b:n<l.length)(h:a=l.take n):a++[l[n]]=l.take (n+1):=by
 rw[h];simp
def rdec_fn(l:List Int)(p:l.length≤100000)(A:Byts l):Ct prog 259 {} [SL 1 (bR l)] (λr=>∃d e,r=[StD.sv d,I e]∧DSt l d e):=by
 refine rdec_nf (Cl.of (Zok l) ⟨_,_,_,rfl,Cl.ofQ (Zdv l 0 0 false p A) ?_⟩);rintro r ⟨k,a1,er1,b1,rfl,n1⟩
 have X:Gd l [] 0 0 false:=⟨rfl,rfl,rfl,Yw⟩
 have none:(∀a:StD,a.P→encS a≠l)→∃d e,([SV.agg [SL 21 [],I (0),I (0)],I 11]:List SV)=[StD.sv d,I e]∧DSt l d e:=λh=>⟨st0,11,rfl,.inr ⟨h,rfl,rfl⟩⟩
 have D:∀a:StD,a.P→encS a=l→b1=false∧k=a.cs.length:=(by intro a b f;refine n1.cmp [] a.cs.length ⟨by omega,by have:=b.1.1;omega⟩ X ?_;rw[←f];exact⟨a.cs.flatMap encC++(leb a.q.toNat++leb a.t.toNat),by simp[encS]⟩);have k0:=n1.rg;unfold rng at k0;refine⟨_,_,_,_,_,rfl,Zaa (λh=>?_) (λh=>?_)⟩
 ·simp at h;exact none λa b f=>by have:=(D a b f).2;have:=b.1.1;omega
 simp at h
 refine⟨λx l' a' Q H rows q t=>l'=bR l∧0≤x∧x≤k∧∃g,rows=coR g∧(g.length:Int)=x∧(∀c∈g,c.cl.length≤16)∧
   (H=false→(∀c∈g,shp c)∧Gd l (leb k.toNat++g.flatMap encC) a' Q H)∧(∀a:StD,a.P→encS a=l→H=false∧g=a.cs.take x.toNat),
  λx _ _ _ _ _ _ _=>(k-x).toNat,⟨rfl,by omega,by omega,[],rfl,rfl,by simp,λe=>⟨by simp,?_⟩,λa b f=>⟨(D a b f).1,by simp⟩⟩,?_⟩
 ·have:=(n1.snd e).2 [] X
  simpa using this
 rintro x _ R F T _ q t ⟨rfl,x0,x1,g,rfl,hcs,hcl,hsn,hcm⟩;refine Zaa (λJ=>?_) (λJ=>?_)
 ·simp at J;refine Cl.ofQ (rcomp_fn l R F T p A) ?_;rintro r ⟨c,a3,er3,b3,rfl,hc⟩;have w:wadd IntKind.i64 x 1=x+1:=Zac;rw[w];refine⟨_,_,_,_,_,_,_,_,_,_,_,_,_,_,_,_,_,_,_,_,_,_,_,_,_,rfl,?_,rfl,⟨rfl,by omega,by omega,g++[c],by simp[rapp],by simp;omega,?_,?_,?_⟩,?_⟩
  ·simp[lsum,rlen];omega
  ·intro K s
   rcases List.mem_append.1 s with i|i
   ·exact hcl K i
   ·simp at i;rw[i];exact hc.cl
  ·intro e;obtain⟨e1,e2,n⟩:=hc.snd e;obtain⟨L,o⟩:=hsn e2;refine⟨λK s=>?_,?_⟩
   ·rcases List.mem_append.1 s with i|i
    ·exact L K i
    ·simp at i;rw[i];exact e1
   ·have:=n _ o
    simpa using this
  ·intro a b f;obtain⟨e1,e2⟩:=hcm a b f;have G:=(D a b f).2;have v:x.toNat<a.cs.length:=(by omega);obtain⟨L,o⟩:=hsn e1
   have N:(leb k.toNat++g.flatMap encC)++encC a.cs[x.toNat]<+:l:=by
    have:a.cs=g++(a.cs[x.toNat]::a.cs.drop (x.toNat+1)):=by
     rw[e2]
     conv=>lhs;rw[←List.take_append_drop x.toNat a.cs]
     congr 1;exact List.drop_eq_getElem_cons v
    have Y:k.toNat=a.cs.length:=(by omega);refine⟨(a.cs.drop (x.toNat+1)).flatMap encC++(leb a.q.toNat++leb a.t.toNat),?_⟩
    have Z:a.cs.flatMap encC=g.flatMap encC++(encC a.cs[x.toNat]++(a.cs.drop (x.toNat+1)).flatMap encC):=by
     conv=>lhs;rw[this]
     rw[List.flatMap_append,Yb]
    rw[←f,encS,←Y,Z];simp only[List.append_assoc]
   obtain⟨M,C⟩:=hc.cmp _ _ (P_shp b _ (List.getElem_mem v)) o N;refine⟨M,?_⟩;rw[C,show(x+1).toNat=x.toNat+1 by omega];exact take_step v e2
  ·show Nat.succ (k-(x+1)).toNat≤(k-x).toNat;omega
 ·simp at J;have a0:x=k:=(by omega);subst a0;refine Cl.ofQ (Zdv l R F T p A) ?_;rintro r ⟨q',a3,er3,b3,rfl,n3⟩;refine⟨_,_,_,_,_,rfl,Cl.ofQ (Zdv l a3 er3 b3 p A) ?_⟩;rintro r ⟨t',a4,er4,b4,rfl,n4⟩
  have y:∀a:StD,a.P→encS a=l→b4=false∧g=a.cs∧q'=a.q∧t'=a.t∧Gd l l a4 er4 b4:=(by intro a b f;obtain⟨e1,e2⟩:=hcm a b f;have G:=(D a b f).2;obtain⟨L,o⟩:=hsn e1;have n:g=a.cs:=(by rw[e2,List.take_of_length_le (by omega)]);have z:l=((leb x.toNat++g.flatMap encC)++leb a.q.toNat)++leb a.t.toNat:=(by rw[←f,encS,n,G];simp);obtain⟨P0,_⟩:=b;obtain⟨M,C⟩:=n3.cmp _ a.q ⟨P0.2.1,by omega⟩ o ⟨leb a.t.toNat,z.symm⟩;have O:=(n3.snd M).2 _ o;rw[C]at O;obtain⟨U,V⟩:=n4.cmp _ a.t ⟨by omega,by omega⟩ O ⟨[],by rw[List.append_nil];exact z.symm⟩;have s4:=(n4.snd U).2 _ O;rw[V,←z]at s4;exact⟨U,n,C,V,s4⟩);refine⟨_,_,_,_,_,rfl,Zaa (λj=>?_) (λj=>?_)⟩
  ·exact none λa b f=>by rw[(y a b f).1]at j;cases j
  refine Cl.of (Zk2 l a4 er4 p) ⟨_,rfl,Zaa (λm=>?_) (λm=>?_)⟩
  ·refine none λa b f=>?_;obtain⟨_,_,_,_,i,h2,h3,h4⟩:=y a b f;simp at m;omega
  refine Cl.of (Zq9 ⟨g,q',t'⟩) ⟨_,rfl,Zaa (λu=>?_) (λu=>?_)⟩
  ·refine none λa b f=>?_;obtain⟨_,e1,e2,n,_⟩:=y a b f;simp at u;apply u;have:(⟨g,q',t'⟩:StD)=a:=(by rw[e1,e2,n]);rw[this];exact b
  ·simp at u;refine⟨⟨g,q',t'⟩,0,rfl,.inl ⟨u,?_,rfl⟩⟩;obtain⟨u1,u2⟩:=n4.snd j;obtain⟨v1,v2⟩:=n3.snd u1;obtain⟨w1,w2⟩:=hsn v1;obtain⟨y1,y2,y3,W⟩:=u2 _ (v2 _ w2);simp at m;have a5:rgtC l a4 er4=true:=(by have:=W.length_le;simp only[rgtC,decide_eq_true_eq];omega);have a6:=m a5;have E:=W.eq_of_length (by omega);rw[←E,encS,←hcs];simp
end Row
namespace Row
open Go Go.Px Go.Proofs Cmp Sx Tryz
end Row
namespace Row
open Go Go.Px Go.Proofs Cmp Sx Cod Tryz
def G3(l pre:List Int)(a er:Int):Prop:=er=0∧a=pre.length∧pre<+:l
def rg40(n:Int):Prop:=0≤n∧n≤1099511627776
structure TK(l:List Int)(a er n:Int)(ns:List Int)(a' er':Int):Prop where
 len:ns.length=n.toNat
 rg:∀m∈ns,-1≤m∧m≤1099511627776
 cmp:∀pre ms,G3 l pre a er→pre++encN ms<+:l→ms.length=n.toNat→(∀m∈ms,rg40 m)→G3 l (pre++encN ms) a' er'∧ns=ms

import Derived.Test.YtaenkbbfockfgaaGreatDoorKpT
import Derived.Test.YtaenkbbfockfgaaGreatDoorK15
set_option linter.all false
set_option maxRecDepth 100000
variable{b c e i j k:Int}{l r:Go.Px.LL}{Q:Go.Px.QQ}{s t:BA}{d:Go.Px.DiD}{O o:Bool}{U u:Go.Px.SV}{f:Go.Px.FiD}{J:Go.Proofs.YtaenkbbfockfgaaGreatDoor.Jou.JoD}
namespace Go.Proofs.YtaenkbbfockfgaaGreatDoor
namespace Qry
open Go Go.Px Go.Proofs Seg Jou Snp Dsk Tryz
open Trm hiding waddN stepL seq_d sne_d
open Cod hiding okA
def ev_le{d:Sc}(b:d.num≠0):d.ev.length<=(segL d).length:=by
 have c:∀(l:List Cod.EvD) (s a:Int) (m:List BA),l.length<=(recL s a m l).length:=λl=>by
  induction l with
  |nil=>intro s a m;simp
  |cons e l f=>
   grind [recL,List.length_append,List.length_cons,fr,sealB,bhdN,encL]
 grind [List.length_append,Zb7]
def read_get(a:d.P)(hd:d.dn=false)(b:f∈d.fs):Zft d f.nm=(f.su++f.lo,0):=by
 have c:=a.2.2.1 f b;unfold Zft;rw[er_of a hd c c,if_neg Vs,Zqk a.2.2.2 b]
def find_fn(j:JoD)(ok:j.ok)(h:RightJ j)(f:FlD)(H:smF f)(hf:Rgt f)(lim c:Int):
  Ct prog 27 {} [j.sv,f.sv,I lim,I c] (λr=>r=[SL 7 (evR (fnd f (spn f) lim c (evsJ j) j.sg ([],0)).1),I (fnd f (spn f) lim c (evsJ j) j.sg ([],0)).2]):=by
 have A:=spnF_fn f H;have J:=λl hl=>sel_fn f H l hl;have Z:=h.fct;have p:=h.par;generalize hE:evsJ j=es;generalize hS:spn f=sp;have P:spnF f=(sp,0):=(by grind [spnF]);rw[P]at A;obtain⟨V,a,b,W,ks⟩:=f;generalize hFF:FlD.mk V a b W ks=F at*;have a0:F.sv=fl5 V a b W (ks.map FlD.row):=(by grind [mk_sv]);rw[a0]at A J|-;refine qfind_nf (Cl.of A ⟨_,_,_,_,_,rfl,Zaa (λz=>by simp at z) (λ_=>?_)⟩);generalize hT:fnd F sp lim c es j.sg ([],0)=T;have a1:∀n:Int,∀i:Nat,i<=64->n<=i->0<=n->wadd .i64 n 1=n+1:=λn i O h2 h3=>Zac;have a6:=Z.len;refine⟨λn l x=>∃(i:Nat) (e:List EvD),x=i/\i<=j.sg.length/\l=evR e/\(e.length<=65536*i/\0<=n/\n<=i)/\fnd F sp lim c es (j.sg.drop i) (e,n)=T,λ_ _ x=>j.sg.length-x.toNat,⟨0,[],rfl,Nat.zero_le _,rfl,⟨Vs,Vo,Vo⟩,hT⟩,?_⟩;rintro n _ _ ⟨i,e,rfl,hi,rfl,⟨hfo,h0,O⟩,hd⟩;refine Zaa (λq=>?_) (λq=>?_)
 .have q:i<j.sg.length:=(by simpa using q);have a2:j.sg.drop i=j.sg[i]::j.sg.drop (i+1):=List.drop_eq_getElem_cons q;rw[a2,fnd]at hd;have hw:wadd IntKind.i64 (i:Int) 1=((i+1:Nat):Int):=waddN _ Vo
  have step:∀(m:Int) (o:List EvD),o.length<=65536*(i+1)->0<=m->m<=((i+1:Nat):Int)->fnd F sp lim c es (j.sg.drop (i+1)) (o,m)=T->
    (∃(k:Nat) (u:List EvD),wadd IntKind.i64 (i:Int) 1=(k:Int)/\k<=j.sg.length/\evR o=evR u/\(u.length<=65536*k/\0<=m/\m<=k)/\fnd F sp lim c es (j.sg.drop k) (u,m)=T)/\Nl (j.sg.length-(wadd IntKind.i64 (i:Int) 1).toNat) (j.sg.length-(i:Int).toNat):=λm o g1 g2 g3 g4=>
   ⟨⟨i+1,o,hw,Vo,rfl,⟨g1,g2,g3⟩,g4⟩,by rw[hw];exact stepL Vm⟩
  have a8:=Z.ps _ (List.getElem_mem q);refine⟨⟨Vo,by simpa using q⟩,_,_,_,_,_,_,_,Zah SgD.row _ _ q,Zaa (λz=>?_) (λz=>Zaa (λy=>⟨rfl,?_⟩) (λy=>?_))⟩
  .have z:lim<=(e.length:Int):=(by simpa using z);rw[if_pos z]at hd;rw[<-hd]
  all_goals have z:¬lim<=(e.length:Int):=by simpa using z
  all_goals rw[if_neg z]at hd
  .have y:j.sg[i].la<=c:=(by simpa using y);rw[if_pos (.inl y)]at hd;exact step _ _ Vo h0 Vo hd
  have y:¬j.sg[i].la<=c:=(by simpa using y);refine Cl.of (meet_fn j.sg[i] sp Vo) ⟨_,rfl,Zaa (λx=>⟨rfl,?_⟩) (λx=>?_)⟩
  .have x:meet j.sg[i] sp=false:=by cases hm:meet j.sg[i] sp<;>simp_all[bnot]
   rw[if_pos (.inr x)]at hd;exact step _ _ Vo h0 Vo hd
  have x:¬meet j.sg[i] sp=false:=by cases hm:meet j.sg[i] sp<;>simp_all[bnot]
  rw[if_neg (by rintro(q|q);exact y q;exact x q)]at hd;have a9:(segs j.dk.fs).length=j.sg.length:=by rw[p.sg];simp
  have K:i<(segs j.dk.fs).length:=Vo;have C:j.sg[i]=sgOf (ptF scF (segs j.dk.fs)[i]):=(by have:=p.sg;simp only[this];simp);generalize hg:(segs j.dk.fs)[i]=g at*;have D:segs j.dk.fs=(segs j.dk.fs).take i++g::(segs j.dk.fs).drop (i+1):=(by rw[<-hg,<-List.drop_eq_getElem_cons K,List.take_append_drop]);have L:=seg_ev h D;rw[hE,<-C]at L;have E:g∈segs j.dk.fs:=(by rw[<-hg];exact List.getElem_mem K);have M:g∈j.dk.fs:=(List.mem_filter.1 E).1;have N:=p.name g E;have Q:j.sg[i].num=(scF g).num:=(by rw[C];rfl);have G:=p.dkr.bytes p.all g E;have a3:nmG j.sg[i].num=g.nm:=(by rw[Q,Zhm N.2,N.1]);obtain⟨k,X,Y⟩:=List.mem_iff_getElem.1 M;have t:=Zo0 h.dk X;rw[Y]at t;refine Cl.of (Sgr.sname_fn _) ⟨_,rfl,Cl.of (Zn3 j.dk ok.dk _) ⟨_,_,rfl,?_⟩⟩;rw[show Sgr.segNm j.sg[i].num=g.nm from a3,read_get h.dk h.up M];refine Zaa (λw=>by simp at w) (λ_=>?_)
  dsimp only
  rw[uR_bR];refine Cl.ofQ (Zn7 _ (Zsh _) (by rw[List.length_map];omega)) ?_;rintro _ ⟨d,st,rfl,hR⟩;have a4:scF g=d:=Zv5 hR;subst a4;refine⟨_,_,_,_,_,_,_,_,_,_,rfl,?_⟩;have R:(scF g).ev.length<=65536:=(by have O:=ev_le (d:=scF g) (by rw[G.2.2.1];exact G.2.2.2);have h2:(segL (scF g)).length=(byF g).length:=(by rw[G.2.1]);have h3:(byF g).length=(g.su++g.lo).length:=(by unfold byF;simp);omega);refine Cl.of (J (scF g).ev Vo) ⟨_,rfl,?_⟩;have U:selF F (scF g).ev=(scF g).ev.filter (mean · F):=(by unfold selF;rw[if_pos hf]);rw[U];rw[L]at hd;generalize hq:(scF g).ev.filter (mean · F)=sel at*;have a7:sel.length<=65536:=(by rw[<-hq];exact Nat.le_trans (List.length_filter_le _ _) R);refine⟨λl x=>∃k:Nat,x=k/\k<=sel.length/\l=evR (fndE lim c e (sel.take k)),λ_ x=>sel.length-x.toNat,⟨0,rfl,Nat.zero_le _,rfl⟩,?_⟩;rintro _ _ ⟨k,rfl,X,rfl⟩;have t:=Zwu lim c (sel.take k) e;rw[List.length_take]at t;refine Zaa (λw=>?_) (λw=>?_)
  .have w:k<sel.length:=(by simpa using w);have e1:fndE lim c e (sel.take (k+1))=take1 lim c (fndE lim c e (sel.take k)) sel[k]:=(by unfold fndE;rw[List.take_succ_eq_append_getElem w,List.foldl_append];rfl);rw[waddN _ Vo];refine⟨⟨Vo,by simpa using w⟩,_,_,_,_,_,_,_,Zah _ _ _ w,Zaa (λv=>⟨by simp[lsum,rlen];omega,rfl,⟨k+1,rfl,Vo,?_⟩,stepL Vm⟩) (λv=>⟨rfl,⟨k+1,rfl,Vo,?_⟩,stepL Vm⟩)⟩
   .have v:c<sel[k].s/\((fndE lim c e (sel.take k)).length:Int)<lim:=(by simpa[bpick]using v);rw[e1];unfold take1;rw[if_pos v];simp[rapp]
   .have v:¬(c<sel[k].s/\((fndE lim c e (sel.take k)).length:Int)<lim):=(by rintro⟨v1,v2⟩;simp[bpick,v1]at v;omega);rw[e1];unfold take1;rw[if_neg v]
  .have w:k=sel.length:=(by simp at w;omega);have a5:sel.take k=sel:=(by rw[w,Y7]);rw[a5]at t|-;refine⟨rfl,?_⟩;rw[a1 n i Vo O h0];exact step _ _ Vo Vo Vo hd
 .have q:i=j.sg.length:=(by simp at q;omega);rw[q,List.drop_length,fnd]at hd;rw[<-hd]
open Trm hiding waddN stepL seq_d sne_d
open Cod hiding okA
open Classical in
noncomputable def mayQ(j:JoD)(f:FlD)(lim:Int):Int:=if j.dk.P/\j.dk.dn=true then 16 else if RightJ j/\Rgt f/\1<=lim/\lim<=100 then 0 else 1
def qmay_fn(j:JoD)(ok:j.ok)(f:FlD)(g:smF f)(lim:Int):Ct prog 25 {} [j.sv,f.sv,I lim] (λr=>r=[I (mayQ j f lim)]):=by
 have e:=Zcu f g;generalize hF:Rgt f=RF at e;obtain⟨i,a,b,k,ks⟩:=f;generalize hFF:FlD.mk i a b k ks=F at*;have l:F.sv=fl5 i a b k (ks.map FlD.row):=(by grind [mk_sv]);rw[l]at e|-;unfold mayQ;rw[hF];refine qmay_nf _ _ _ _ _ _ _ _ _ _ _ _ _ _ _ _ _ _ _ _ _ _ _ (Cl.of (Zep j.dk ok.dk) ⟨_,rfl,Zaa (λh=>?_) (λh=>Cl.of (Zke j ok) ⟨_,rfl,Zaa (λc=>?_) (λc=>Cl.of e ⟨_,rfl,Zaa (λd=>?_) (λd=>?_)⟩)⟩)⟩)
 .simp_all
 all_goals rw[if_neg (by simpa[bpick]using h)]
 .rw[if_neg (by rintro⟨q,_⟩;rw[Zf9.2 q]at c;cases c)]
 .rw[if_neg ?_];rintro⟨q,m,n,o⟩;simp[bpick,dB,m]at d;omega
 .rw[if_pos ?_];simp[bpick,dB]at c d;exact⟨Zf9.1 (by simpa using c),d.1.1,Vo,Vo⟩
noncomputable abbrev fndJ(j:JoD)(f:FlD)(lim a:Int):List EvD×Int:=fnd f (spn f) lim a (evsJ j) j.sg ([],0)
def may_no{f:FlD}{lim:Int}(h:mayQ J f lim=0):RightJ J/\Rgt f/\1<=lim/\lim<=100:=by
 grind [mayQ]
def qall_fn(j:JoD)(ok:j.ok)(f:FlD)(c:smF f)(lim:Int):Ct prog 12 {} [j.sv,f.sv,I lim] (λr=>r=[SL 7 (evR (if mayQ j f lim=0 then(fndJ j f 9223372036854775807 0).1 else[])),I (mayQ j f lim)]):=by
 have d:=qmay_fn j ok f c lim;have e:=λg i=>find_fn j ok g f c i 9223372036854775807 0;generalize hm:mayQ j f lim=m at d;have hno:m=0->RightJ j/\Rgt f:=λq=>by have:=may_no (hm.trans q);exact⟨this.1,this.2.1⟩
 unfold fndJ;generalize hT:fnd f (spn f) 9223372036854775807 0 (evsJ j) j.sg ([],0)=T at*;generalize hRF:Rgt f=RF at*;obtain⟨n,a,b,o,ks⟩:=f;rw[mk_sv]at d e|-;refine qall_nf _ _ _ _ _ _ _ _ _ _ _ _ _ _ _ _ _ _ _ _ _ _ _ (Cl.of d ⟨_,rfl,Zaa (λh=>?_) (λh=>?_)⟩)
 .simp_all
 .have h:m=0:=(by simpa using h);obtain⟨k,l⟩:=hno h;refine Cl.of (e k l) ⟨_,_,rfl,?_⟩
  grind
structure PgD where
 ev:List EvD
 tok:BA
 rd:Int
def noP:PgD:=⟨[],ByteArray.mk #[],0⟩
abbrev PgD.sv(p:PgD):SV:=pg3 (evR p.ev) p.tok p.rd
def pgA(F:List EvD×Int)(lim:Int)(a:Int->BA×Int):PgD×Int:=
 if(F.1.length:Int)=lim then(match F.1.getLast? with
  |none=>(noP,0)
  |some e=>if(a e.s).2≠0 then(noP,(a e.s).2)else(⟨F.1,(a e.s).1,F.2⟩,0))
 else(⟨F.1,ByteArray.mk #[],F.2⟩,0)
noncomputable def pgQ(j:JoD)(f:FlD)(lim:Int)(tok:BA)(a:Int×Int)(b:Int->BA×Int):PgD×Int:=
 if mayQ j f lim≠0 then(noP,mayQ j f lim)else if tok≠ByteArray.mk #[]then(if a.2≠0\/j.st.q<a.1 then(noP,17)else pgA (fndJ j f lim a.1) lim b)else pgA (fndJ j f lim 0) lim b
def pg_end{lim c:Int}(q:1<=lim)(t:lim<=100){F:List EvD×Int}(k:Ct prog 27 {} [u,U,I lim,I c] (λr=>r=[SL 7 (evR F.1),I F.2])){b:Int->BA×Int}
  (d:∀s:Int,Ct prog 28 {} [U,I s] (λr=>r=[S (b s).1,I (b s).2])) {Q:List SV->Prop} (a:Q [(pgA F lim b).1.sv,I (pgA F lim b).2]):
  Cl prog 27 sP ([u,U,I lim,I c]) (λ(e:List SV)=>qx9 e λl g=>(ifB (ieq (rlen l) lim) ((inR (wsub IntKind.i64 lim 1) l)/\(qx7 (rget l (wsub IntKind.i64 lim 1)) λm A w s x y z=>(Cl prog 28 sP ([U,I m]) (λ(f:List SV)=>qx11 f λn i=>(ifB (ine i 0) (Q ([pg3 [] (bA []) ((0:Int)),I i])) (Q ([pg3 l n g,I 0]))))))) (Q ([pg3 l (bA []) g,I 0])))):=by
 refine Cl.of k ⟨_,_,rfl,Zaa (λh=>?_) (λh=>?_)⟩
 .have h:(F.1.length:Int)=lim:=(by simpa using h);have o:wsub IntKind.i64 lim 1=((F.1.length-1:Nat):Int):=(by grind [Zap]);have j:F.1.length-1<F.1.length:=Vo;rw[o];refine⟨⟨Vo,Vm⟩,_,_,_,_,_,_,_,Zah _ _ _ j,Cl.of (d _) ⟨_,_,rfl,?_⟩⟩;have p:F.1.getLast?=some F.1[F.1.length-1]:=Vg;unfold pgA at a;rw[if_pos h,p]at a
  dsimp only at a
  refine Zaa (λv=>?_) (λv=>?_)
  .rw[if_pos (by simpa using v)]at a;exact a
  simp_all
 .have h:¬(F.1.length:Int)=lim:=by simpa using h
  grind [pgA]
def query_fn(j:JoD)(ok:j.ok)(f:FlD)(n:smF f)(lim:Int)(tok:BA)(i:Int->Int->Prop)(c:Int->BA×Int)
  (o:Rgt f->Ct prog 26 {} [f.sv,S tok] (λr=>∃x e,r=[I x,I e]/\i x e)) (g:∀s:Int,Ct prog 28 {} [f.sv,I s] (λr=>r=[S (c s).1,I (c s).2])):
  Ct prog 9 {} [j.sv,f.sv,I lim,S tok] (λr=>∃x e,(mayQ j f lim=0->tok≠ByteArray.mk #[]->i x e)/\r=[(pgQ j f lim tok (x,e) c).1.sv,I (pgQ j f lim tok (x,e) c).2]):=by
 have u:=qmay_fn j ok f n lim;have k:=λC D d=>find_fn j ok C f n D lim d;unfold pgQ fndJ;generalize hm:mayQ j f lim=m at u|-;have hno:m=0->RightJ j/\Rgt f/\1<=lim/\lim<=100:=λq=>may_no (hm.trans q);generalize hFN:(λd=>fnd f (spn f) lim d (evsJ j) j.sg ([],0))=FN;have e:∀d,fnd f (spn f) lim d (evsJ j) j.sg ([],0)=FN d:=λd=>congrFun hFN d;simp only[e]at k|-;generalize hRF:Rgt f=RF at*;obtain⟨E,a,b,F,ks⟩:=f;rw[mk_sv]at u k o;simp only[mk_sv]at g;rw[mk_sv];refine qquery_nf (Cl.of u ⟨_,rfl,Zaa (λh=>?_) (λh=>?_)⟩)
 .have h:m≠0:=(by simpa using h);refine⟨0,0,λq=>absurd q h,?_⟩;rw[if_pos h];rfl
 have h:m=0:=(by simpa using h);obtain⟨y,t,z,A⟩:=hno h;have p:¬m≠0:=(by simpa using h);refine Zaa (λv=>?_) (λv=>?_)
 .have l:tok≠ByteArray.mk #[]:=(by grind [Trm.sne_d]);refine Cl.ofQ (o t) ?_;rintro _ ⟨x,er,rfl,hx⟩;refine⟨_,_,rfl,Zaa (λw=>⟨x,er,λ_ _=>hx,?_⟩) (λw=>pg_end (Q:=λr=>∃x e,(m=0->tok≠ByteArray.mk #[]->i x e)/\r=[(if m≠0 then(noP,m)else if tok≠ByteArray.mk #[]then(if e≠0\/j.st.q<x then(noP,17)else pgA (FN x) lim c)else pgA (FN 0) lim c).1.sv,I (if m≠0 then(noP,m)else if tok≠ByteArray.mk #[]then(if e≠0\/j.st.q<x then(noP,17)else pgA (FN x) lim c)else pgA (FN 0) lim c).2]) z A (k y t x) g ⟨x,er,λ_ _=>hx,?_⟩)⟩
  .rw[if_neg p,if_pos l,if_pos (by simpa[bpick]using w)];rfl
  .rw[if_neg p,if_pos l,if_neg (by simpa[bpick]using w)]
 .have l:¬tok≠ByteArray.mk #[]:=(by grind [Trm.sne_d]);refine pg_end (Q:=λr=>∃x e,(m=0->tok≠ByteArray.mk #[]->i x e)/\r=[(if m≠0 then(noP,m)else if tok≠ByteArray.mk #[]then(if e≠0\/j.st.q<x then(noP,17)else pgA (FN x) lim c)else pgA (FN 0) lim c).1.sv,I (if m≠0 then(noP,m)else if tok≠ByteArray.mk #[]then(if e≠0\/j.st.q<x then(noP,17)else pgA (FN x) lim c)else pgA (FN 0) lim c).2]) z A (k y t 0) g ⟨0,0,λ_ q=>absurd q l,?_⟩
  grind
end Qry
namespace Qry
open Go Go.Px Go.Proofs Seg Jou Tok Dsk Tryz
open Snp hiding mkT NumR
open Trm hiding waddN stepL seq_d sne_d
open Cod hiding okA
theorem Zv8(L:List UInt8):(bT (L.flatMap hx)).size=2*L.length:=by rw[<-Zmn L];simp[ByteArray.size]
theorem Zv9{f:FlD}{n:Int}(h:Rgt f)(b:0<=n)(c:n<=4294967296):∃L a,mkT f n=(bT (L.flatMap hx),0)/\natsL L=leb n.toNat++a/\5<=L.length/\L.length<=10:=by
 have d:=Zee 4 n.toNat Vo;have e:=Zf0 n.toNat;refine⟨lebL n.toNat++by4 (smK f n.toNat),natsL (by4 (smK f n.toNat)),by unfold mkT;rw[if_pos ⟨h,b,c⟩],?_,?_⟩
 .simp_all[Zp0,natsL]
 grind [lebL,by4,List.length_append,List.length_map,List.length_range]
def mkT_e{f:FlD}{tok:BA}(h:mkT f i=(tok,0)):(Rgt f/\0<=i/\i<=4294967296)/\10<=tok.size:=by
 have a:=h;unfold mkT at h
 split at h
 next q=>obtain⟨L,_,e,_,b,_⟩:=Zv9 q.1 q.2.1 q.2.2;rw[e,Prod.mk.injEq]at a;rw[<-a.1,Zv8];exact⟨q,Vo⟩
 .cases(Prod.mk.inj h).2
noncomputable abbrev pgP(j:JoD)(f:FlD)(a:Int)(n:Nat):List EvD:=((wnt j f).filter λe=>decide (a<e.s)).take n
noncomputable def pgE(f:FlD)(P:List EvD)(n:Nat):BA:=if P.length=n then(mkT f ((P.getLast?.map (·.s)).getD 0)).1 else ByteArray.mk #[]
noncomputable abbrev pgV(j:JoD)(f:FlD)(a:Int)(n:Nat):List SV:=[pg3 (evR (pgP j f a n)) (pgE f (pgP j f a n) n) (fndJ j f n a).2,I 0]
def q_max(h:RightJ J):0<=J.st.q/\J.st.q<=4294967296:=⟨(Zqj h.fct.st).1,(Zqj h.fct.st).2.1⟩
def pgA_eq(R:RightJ J)(f:FlD)(d:Rgt f)(n:Nat)(i:1<=n)(a:Int):[(pgA (fndJ J f n a) n (mkT f)).1.sv,I (pgA (fndJ J f n a) n (mkT f)).2]=pgV J f a n:=by
 have b:(fndJ J f n a).1=pgP J f a n:=(fnd_law R f n a).1;have c:∀e∈pgP J f a n,0<e.s/\e.s<=J.st.q:=λe g=>(Zgj R f).2 e (List.mem_filter.1 (List.mem_of_mem_take g)).1;have k:=q_max R;unfold pgV pgE;generalize fndJ J f n a=F at b|-;unfold pgA;rw[<-b]at c|-;by_cases h:F.1.length=n
 .rw[if_pos Vo,if_pos h]
  cases hl:F.1.getLast? with
  |none=>rw[List.getLast?_eq_none_iff]at hl;rw[hl]at h;simp at h;omega
  |some e=>
   have:=c e (Ws hl);obtain⟨L,_,e1,_⟩:=Zv9 d (n:=e.s) Vo Vo
   grind
 grind
def Zlx(j:JoD)(ok:j.ok)(R:RightJ j)(f:FlD)(b:smF f)(d:Rgt f)(n:Nat)(i:1<=n/\n<=100)(tok:BA)(o:tok.size<=1000):
  Ct prog 9 {} [j.sv,f.sv,I n,S tok] (λr=>∃c e:Int,(e=0/\r=pgV j f c n\/e=17/\r=[pg3 [] (ByteArray.mk #[]) 0,I 17])/\(tok=ByteArray.mk #[]->e=0/\c=0)/\(tok≠ByteArray.mk #[]->e=0->mkT f c=(tok,0))/\
   ∀k,k<=j.st.q->mkT f k=(tok,0)->e=0/\c=k):=by
 have w:=query_fn j ok f b n tok (λx e=>ReadR (mkT f) tok x e/\(NumR tok x true\/e=17)) (mkT f) (λh=>read_fn f b h tok o (mkT f) (make_fn f b)) (make_fn f b);have m:mayQ j f n=0:=(by unfold mayQ;rw[if_neg (by rw[R.up];simp),if_pos ⟨R,d,Vo,Vo⟩]);refine Ct.mono w ?_;rintro _ ⟨x,e,hx,rfl⟩;unfold pgQ;rw[if_neg (by rw[m];simp)];by_cases h0:tok=ByteArray.mk #[]
 .rw[if_neg (by simpa using h0)];refine⟨0,0,.inl ⟨rfl,pgA_eq R f d n i.1 0⟩,λ_=>⟨rfl,rfl⟩,λh=>absurd h0 h,λk _ a=>?_⟩;have:=(mkT_e a).2;rw[h0]at this;simp[ByteArray.size]at this
 .rw[if_pos h0];obtain⟨l,p⟩:=hx m h0;have hit:∀k,mkT f k=(tok,0)->e=0/\x=k:=λk a=>by obtain⟨⟨s,g,t⟩,_⟩:=mkT_e a;obtain⟨L,u,e1,e2,_,v⟩:=Zv9 s g t;rw[a,Prod.mk.injEq]at e1;have:=l.hit p e1.1 v e2 Vo (by rw[WC g];exact a);rwa[WC g]at this
  by_cases hb:e≠0\/j.st.q<x
  .rw[if_pos hb];refine⟨0,17,.inr ⟨rfl,rfl⟩,λh=>absurd h h0,λ_ h=>(by cases h),λk a h=>?_⟩;have:=hit k h;omega
  .rw[if_neg hb];have y:e=0:=Vo;refine⟨x,0,.inl ⟨rfl,pgA_eq R f d n i.1 x⟩,λh=>absurd h h0,λ_ _=>?_,λk a h=>⟨rfl,(hit k h).2⟩⟩
   rcases l with h|h
   .exact h.2.2.2
   .omega
end Qry
namespace Jou
open Go Go.Px Go.Proofs Cod Tryz
abbrev en4(r:List SV)(K:Bool->Prop):Prop:=∃a:Bool,(r=[B a])/\K a
abbrev en5(r:List SV)(K:BA->Prop):Prop:=∃a:BA,(r=[S a])/\K a
def Zrq{rows:LL}{segs:LL}{n d g a:Int}(h:∃q:Bool->Int->Prop,∃m:Bool->Int->Nat,(q false 0)/\∀t x,(q t x)->ifB (ilt x (rlen r)) ((inR x r)/\en5 (rget r x) λs=>(ifB (igt (slen s) 100) (Q [B false]) ((sm ([[SL 3 rows,I c,I i,B o,I j,I k,SL 7 segs,I b,I e,SL 1 r,SL 21 l,I n,I d,I g,I a,B O]]))/\(q t (wadd .i64 x 1))/\Nl (m t (wadd .i64 x 1)) (m t x)))) (Cl prog 21 sP ([dk4 rows c i o]) (λv=>en4 v λw=>(ifB w (Cl prog 22 sP ([st3 l n d]) (λu=>en4 u λy=>(Q [B (bpick (bpick y (ile (rlen segs) 99) false) (ile (rlen r) 60) false)]))) (Q [B false]))))):Ct prog 7 {} [jr16 rows c i o j k segs b e r l n d g a O] Q:=
 fN SgT SvT func7 h
end Jou
namespace Qry
open Go Go.Px Go.Proofs Cod Jou Tryz
abbrev qi0(r:List SV)(K:LL->Int->Int->Bool->Int->Int->LL->Int->Int->LL->LL->Int->Int->Int->Int->Bool->Int->Prop):Prop:=∃h:LL,∃i:Int,∃j:Int,∃k:Bool,∃l:Int,∃m:Int,∃n:LL,∃o:Int,∃p:Int,∃z9:LL,∃a:LL,∃b:Int,∃c:Int,∃d:Int,∃e:Int,∃f:Bool,∃g:Int,(r=[jr16 h i j k l m n o p z9 a b c d e f,I g])/\K h i j k l m n o p z9 a b c d e f g
abbrev qi1(r:List SV)(K:LL->BA->Int->Int->Prop):Prop:=∃a:LL,∃b:BA,∃c:Int,∃d:Int,(r=[pg3 a b c,I d])/\K a b c d
abbrev qi2(r:List SV)(K:LL->Int->Prop):Prop:=∃a:LL,∃b:Int,(r=[SL 7 a,I b])/\K a b
abbrev qi3(r:List SV)(K:Int->Int->Int->BA->Int->Int->Int->Prop):Prop:=∃a:Int,∃b:Int,∃c:Int,∃d:BA,∃e:Int,∃f:Int,∃g:Int,(r=[I a,I b,I c,S d,I e,I f,I g])/\K a b c d e f g
abbrev qi4(r:List SV)(K:Bool->Prop):Prop:=∃a:Bool,(r=[B a])/\K a
def qawake_nf(h:Cl prog 19 sP ([dk4 [] 900 ((-1:Int)) false,SV.agg [I 64,I 2]]) (λrs=>qi0 rs λl x x1 b x2 x3 l1 x4 x5 l2 l3 x6 x7 x8 x9 b1 y=>(Cl prog 20 sP ([jr16 l x x1 b x2 x3 l1 x4 x5 l2 l3 x6 x7 x8 x9 b1,ev7 0 3 1 (bA [98]) 1 0 0]) (λz=>qi0 z λl4 A C b2 D E l5 F G l6 l7 H J K L b3 M=>(Cl prog 20 sP ([jr16 l4 A C b2 D E l5 F G l6 l7 H J K L b3,ev7 0 9 4 (bA [98]) 1 0 0]) (λN=>qi0 N λl8 O P b4 R T l9 U V W X Y Z a0 a1 b5 a2=>(Cl prog 20 sP ([jr16 l8 O P b4 R T l9 U V W X Y Z a0 a1 b5,ev7 0 20 4 (bA [98]) 2 0 0]) (λa3=>qi0 a3 λa c d v e g i j k m n o p q r w a4=>(Cl prog 9 sP ([jr16 a c d v e g i j k m n o p q r w,fl5 6 0 0 (bA []) ([[I 5,I 4,I 0,S (bA []),SV.slice 5 [] 0],[I 2,I 5,I 99,S (bA []),SV.slice 5 [] 0]]),I 1,S (bA [])]) (λa5=>qi1 a5 λt s a6 a7=>(Cl prog 9 sP ([jr16 a c d v e g i j k m n o p q r w,fl5 6 0 0 (bA []) ([[I 5,I 4,I 0,S (bA []),SV.slice 5 [] 0],[I 2,I 5,I 99,S (bA []),SV.slice 5 [] 0]]),I 1,S s]) (λa8=>qi1 a8 λu s1 ai a9=>(Cl prog 9 sP ([jr16 a c d v e g i j k m n o p q r w,fl5 6 0 0 (bA []) ([[I 5,I 4,I 0,S (bA []),SV.slice 5 [] 0],[I 2,I 5,I 99,S (bA []),SV.slice 5 [] 0]]),I 1,S s1]) (λaa=>qi1 aa λab s2 aj ac=>(Cl prog 12 sP ([jr16 a c d v e g i j k m n o p q r w,fl5 6 0 0 (bA []) ([[I 5,I 4,I 0,S (bA []),SV.slice 5 [] 0],[I 2,I 5,I 99,S (bA []),SV.slice 5 [] 0]]),I 7]) (λad=>qi2 ad λae af=>(ifB (bpick (bpick (bpick (bpick (bpick (bpick (bpick (bpick (ieq y 0) (ieq M 0) false) (ieq a2 0) false) (ieq a4 0) false) (ieq a7 0) false) (ieq a9 0) false) (ieq ac 0) false) (ieq af 0) false) (ieq (rlen t) 1) false) ((inR 0 t)/\qi3 (rget t 0) λag ak al s3 am an ao=>(ifB (bpick (ieq ag 2) (ieq (rlen u) 1) false) ((inR 0 u)/\qi3 (rget u 0) λah ap aq s4 ar au av=>(Q ([B (bpick (bpick (bpick (bpick (ieq ah 3) (ieq (rlen ab) 0) false) (seq s2 (bA [])) false) (ieq (rlen ae) 2) false) (ieq a6 1) false)]))) (Q [B false]))) (Q [B false])))))))))))))))))):Ct prog 6 {} ([]:List SV) Q:=
 fN SgT SvT func6 h
def Ztg{rows:LL}{segs:LL}{A u g d:Int}{v a p:Int}{ks:LL}{z E F:Int}{C:LL}{tok:BA}(h:Cl prog 6 sP [] (λrs=>qi4 rs λb1=>(ifB (bnot b1) (Q [B false]) (Cl prog 7 sP ([jr16 rows i c o j k segs b e l r A u g d O]) (λN=>qi4 N λb3=>(ifB (bnot b3) (Q [B true]) (Cl prog 8 sP ([fl5 v a p s ks]) (λm=>qi4 m λb4=>(ifB (bnot b4) (Q [B true]) (Cl prog 8 sP ([fl5 z E F t C]) (λP=>qi4 P λb5=>(ifB (bpick (bnot b5) true (igt (slen tok) 200)) (Q [B true]) (Cl prog 13 sP ([jr16 rows i c o j k segs b e l r A u g d O]) (λR=>qi4 R λb6=>(ifB (bnot b6) (Q [B true]) (Cl prog 14 sP ([fl5 v a p s ks]) (λT=>qi4 T λb7=>(ifB (bnot b7) (Q [B true]) (Cl prog 14 sP ([fl5 z E F t C]) (λU=>qi4 U λb8=>(ifB (bnot b8) (Q [B true]) (Cl prog 9 sP ([jr16 rows i c o j k segs b e l r A u g d O,fl5 z E F t C,I 1,S (bA [])]) (λV=>qi1 V λq w x x1=>(ifB (ine x1 0) (Q [B false]) (Cl prog 9 sP ([jr16 rows i c o j k segs b e l r A u g d O,fl5 v a p s ks,I 1,S w]) (λrs8=>qi1 rs8 λW s1 x2 J=>(ifB (seq w (bA [])) (ifB (ine J 0) (Q [B false]) (Cl prog 9 sP ([jr16 rows i c o j k segs b e l r A u g d O,fl5 v a p s ks,I 1,S tok]) (λG=>qi1 G λK L M y=>(Cl prog 9 sP ([jr16 rows i c o j k segs b e l r A u g d O,fl5 v a p s ks,I 1,S (bA [122,122])]) (λn=>qi1 n λX Y Z H=>(Q [B (bpick (bpick (ieq y 0) true (ieq y 17)) (ieq H 17) false)])))))) (Cl prog 18 sP ([fl5 v a p s ks,fl5 z E F t C]) (λG=>qi4 G λb9=>(ifB b9 (ifB (ine J 0) (Q [B false]) (Cl prog 9 sP ([jr16 rows i c o j k segs b e l r A u g d O,fl5 v a p s ks,I 1,S tok]) (λn=>qi1 n λK L M y=>(Cl prog 9 sP ([jr16 rows i c o j k segs b e l r A u g d O,fl5 v a p s ks,I 1,S (bA [122,122])]) (λD=>qi1 D λX Y Z H=>(Q [B (bpick (bpick (ieq y 0) true (ieq y 17)) (ieq H 17) false)])))))) (ifB (ieq J 0) (Cl prog 9 sP ([jr16 rows i c o j k segs b e l r A u g d O,fl5 v a p s ks,I 1,S (bA [])]) (λn=>qi1 n λK L M y=>(Q [B (bpick (ieq y 0) (bpick (ieq (rlen W) 0) true (igt (rlen K) 0)) false)]))) (ifB (bpick (bpick (bpick (ine J 17) true (ine (rlen W) 0)) true (sne s1 (bA []))) true (ine x2 0)) (Q [B false]) (Cl prog 9 sP ([jr16 rows i c o j k segs b e l r A u g d O,fl5 v a p s ks,I 1,S tok]) (λn=>qi1 n λK L M y=>(Cl prog 9 sP ([jr16 rows i c o j k segs b e l r A u g d O,fl5 v a p s ks,I 1,S (bA [122,122])]) (λD=>qi1 D λX Y Z H=>(Q [B (bpick (bpick (ieq y 0) true (ieq y 17)) (ieq H 17) false)]))))))))))))))))))))))))))))))))))))):Ct prog 5 {} [jr16 rows i c o j k segs b e l r A u g d O,fl5 v a p s ks,fl5 z E F t C,S tok] Q:=
 fN SgT SvT func5 h
end Qry
namespace Qry
open Go Go.Px Go.Proofs Seg Jou Tok Dsk Sx Tryz
open Snp hiding mkT NumR
open Trm hiding waddN stepL seq_d sne_d
open Cod hiding okA
def Zxi(j:JoD)(h:j.Sz):Ct prog 7 {} [j.sv] (λr=>∃b,r=[B b]/\(b=true->j.ok)):=by
 have f:=h.m;refine Zrq ⟨λ_ x=>∃i:Nat,x=i/\i<=j.cx.m.length,λ_ x=>j.cx.m.length-x.toNat,⟨0,rfl,Vo⟩,?_⟩;rintro _ _ ⟨i,rfl,hi⟩;refine Zaa (λq=>?_) (λq=>?_)
 .have q:i<j.cx.m.length:=(by simpa using q);rw[waddN _];exact⟨⟨Vo,by simpa using q⟩,j.cx.m[i],Zah _ _ _ q,Zaa (λz=>⟨false,rfl,Vs⟩) (λz=>⟨rfl,⟨i+1,rfl,Vo⟩,stepL Vm⟩)⟩
 .refine Cl.of (qshort_fn j.dk (Sz.ok h.dk) (by have:=h.dk.1;omega)) ⟨_,rfl,Zaa (λz=>?_) (λz=>⟨false,rfl,Vs⟩)⟩;refine Cl.of (sshort_fn j.st (by have:=h.cs;omega)) ⟨_,rfl,_,rfl,λy=>?_⟩;have z:j.dk.fs.length<=70:=(of_decide_eq_true z).1;simp only[bpick]at y
  cases hs:decide j.st.short with
  |false=>rw[hs]at y;cases y
  |true=>
   rw[hs]at y;have e:=of_decide_eq_true hs
   cases a:ile (rlen (sgR j.sg)) 99 with
   |false=>rw[a]at y;cases y
   |true=>
    rw[a]at y;have y:j.cx.m.length<=60:=by simp at y;omega
    have a:j.sg.length<=99:=(by simp at a;omega);exact⟨Sz.ok h.dk z,Vo,Vo,by have:=e.2;omega,λc d=>by have:=(e.1 c d).2;omega⟩
def abv_le(R:RightJ J)(f:FlD):∀k,abv (wnt J f) k<=J.st.q
 |0=>(q_max R).1
 |k+1=>by
  show(match(wnt J f)[k]? with|none=>0|some e=>e.s)<=_
  split
  .exact(q_max R).1
  .next e he=>exact((Zgj R f).2 _ (Yn he)).2
def Zzz{W:List EvD}{a n:Nat}(c:1<=n)(h:((W.drop a).take n).length=n):a+n<=W.length/\((((W.drop a).take n).getLast?).map (·.s)).getD 0=abv W (a+n):=by
 have b:a+n<=W.length:=by
  grind
 refine⟨b,?_⟩
 obtain⟨m,rfl⟩:∃m,n=m+1:=⟨n-1,Vo⟩
 rw[List.getLast?_eq_getElem?,h,Ye,if_pos Vo,Yh]
 show _=(match W[a+m]? with|none=>0|some e=>e.s)
 grind
def pgE_n{f:FlD}{P:List EvD}{n:Nat}{x:Int}(a:Rgt f)(h:P.length=n)(hx:(P.getLast?.map (·.s)).getD 0=x)(b:0<=x/\x<=4294967296):10<=(pgE f P n).size/\(pgE f P n).size<=20/\mkT f x=(pgE f P n,0):=by
 grind [hx,Zv8,pgE,Zv9]
def fl_sv(f:FlD):∃c a b d ks,f.sv=fl5 c a b d ks:=by
 obtain⟨c,a,b,d,ks⟩:=f
 simp_all[mk_sv]
def qforeign_fn(Q:Ct prog 6 {} [] (λr=>r=[B true]))(j:JoD)(hz:j.Sz)(f g:FlD)(p:smF f)(t:smF g)(d:BA):Ct prog 5 {} [j.sv,f.sv,g.sv,S d] (λr=>r=[B true]):=by
 have X:=Zum f p;have Y:=Zum g t;have Z:=Zcu f p;have G:=Zcu g t;have D:=fSame_fn f g p t;have C:=λok R i d u=>Zlx j ok R f p i 1 Vo d u;have H:=λok R i d u=>Zlx j ok R g t i 1 Vo d u;obtain⟨L,a,b,M,ks,F⟩:=fl_sv f;obtain⟨a1,a2,V,a3,a4,w⟩:=fl_sv g;rw[F]at X Z D|-;rw[w]at Y G D|-;simp only[F]at C;simp only[w]at H;refine Ztg (Cl.of Q ⟨_,rfl,Zaa (λz=>by cases z) (λ_=>Cl.ofQ (Zxi j hz) ?_)⟩);rintro _ ⟨b0,rfl,hok⟩;refine⟨_,rfl,Zaa (λ_=>rfl) (λz=>?_)⟩;have ok:=hok (by cases b0<;>simp_all[bnot]);refine Cl.ofQ X ?_;rintro _ ⟨b1,rfl⟩;refine⟨_,rfl,Zaa (λ_=>rfl) (λ_=>Cl.ofQ Y ?_)⟩;rintro _ ⟨V,rfl⟩;refine⟨_,rfl,Zaa (λ_=>rfl) (λzt=>Cl.of (Zke j ok) ⟨_,rfl,Zaa (λ_=>rfl) (λz=>Cl.of Z ⟨_,rfl,Zaa (λ_=>rfl) (λzf=>Cl.of G ⟨_,rfl,Zaa (λ_=>rfl) (λzg=>?_)⟩)⟩)⟩)⟩
 have u:d.size<=1000:=by
  cases V<;>simp[bpick,bnot,slen]at zt
  omega
 have R:RightJ j:=Zf9.1 (by cases h:rgtJ j<;>simp_all[bnot]);have i:Rgt f:=Zjc.1 (by cases h:dB (Rgt f)<;>simp_all[bnot]);have hg:Rgt g:=Zjc.1 (by cases h:dB (Rgt g)<;>simp_all[bnot])
 have hE:(pgE g (pgP j g 0 1) 1).size<=20/\(pgE g (pgP j g 0 1) 1≠ByteArray.mk #[]->∃x,x<=j.st.q/\mkT g x=(pgE g (pgP j g 0 1) 1,0)):=by
  have N:=Zgj R g;have hP:pgP j g 0 1=((wnt j g).drop 0).take 1:=(by rw[<-Zw2 N.1 (λe l=>(N.2 e l).1) 0 (Nat.zero_le _)];rfl);by_cases h:(pgP j g 0 1).length=1
  .have hl:=Zzz (W:=wnt j g) (a:=0) (n:=1) (Nat.le_refl _) (by rw[<-hP];exact h);have hx:abv (wnt j g) (0+1)<=j.st.q:=abv_le R g _
   have a0:0<=abv (wnt j g) (0+1):=by
    show(0:Int)<=(match(wnt j g)[0]? with|none=>0|some e=>e.s)
    split
    .exact Yd _
    .next e l=>have:=(N.2 _ (Yn l)).1;omega
   have:=pgE_n (P:=pgP j g 0 1) hg h (by rw[hP];exact hl.2) ⟨a0,by have:=(q_max R).2;omega⟩;exact⟨this.2.1,λ_=>⟨_,hx,this.2.2⟩⟩
  .unfold pgE;rw[if_neg h];exact⟨by simp[ByteArray.size],λq=>absurd rfl q⟩
 have o:∀(A:List SV),A=[j.sv,fl5 L a b M ks,I 1,S d]->∀(T:List SV),T=[j.sv,fl5 L a b M ks,I 1,S (ByteArray.mk #[122,122])]->Cl prog 9 sP A (λU=>qi1 U λl2 s2 x4 k=>Cl prog 9 sP T (λm=>qi1 m λl3 s3 x6 K=>[B (bpick (bpick (ieq k 0) true (ieq k 17)) (ieq K 17) false)]=[B true])):=by
  rintro _ rfl _ rfl;refine Cl.ofQ (C ok R i d u) ?_;rintro _ ⟨ab,e,c,_⟩
  have h9:∀k:Int,(k=0\/k=17)->Cl prog 9 sP [j.sv,fl5 L a b M ks,I 1,S (ByteArray.mk #[122,122])] (λm=>qi1 m λl3 s3 x6 K=>[B (bpick (bpick (ieq k 0) true (ieq k 17)) (ieq K 17) false)]=[B true]):=λk h5=>by
   refine Cl.ofQ (C ok R i (ByteArray.mk #[122,122]) Vd) ?_;rintro _ ⟨ab,e,c,_,h3,_⟩
   have l:e=17:=by
    rcases c with⟨rfl,_⟩|⟨h,_⟩
    .have:=(mkT_e (h3 Vd rfl)).2;exact absurd this Vd
    .exact h
   subst l;have c:=(c.resolve_left Vs).2;subst c;refine⟨_,_,_,_,rfl,?_⟩
   rcases h5 with rfl|rfl<;>rfl
  rcases c with⟨_,rfl⟩|⟨_,rfl⟩
  .exact⟨_,_,_,_,rfl,h9 0 (.inl rfl)⟩
  .exact⟨_,_,_,_,rfl,h9 17 (.inr rfl)⟩
 refine Cl.ofQ (H ok R hg (ByteArray.mk #[]) Vd) ?_;rintro _ ⟨ab,e,c,v,_,_⟩;obtain⟨rfl,rfl⟩:=v rfl;have c:=(c.resolve_right Vs).2;subst c;refine⟨_,_,_,_,rfl,Zaa (λz=>by cases z) (λ_=>Cl.ofQ (C ok R i _ Vo) ?_)⟩;rintro _ ⟨ab,e,c,v,h3,h4⟩;generalize pgE g (pgP j g 0 1) 1=E at*;have J:∀x y:Prop,(E≠ByteArray.mk #[]->y)->(E=ByteArray.mk #[]->x)->ifB (seq E (bA [])) x y:=λx y c v=>by rw[Trm.seq_d];exact Zaa (λz=>v (of_decide_eq_true z)) (λz=>c (of_decide_eq_false z))
 rcases c with⟨rfl,rfl⟩|⟨rfl,rfl⟩
 .refine⟨_,_,_,_,rfl,J _ _ (λq=>Cl.of D ⟨_,rfl,Zaa (λ_=>Zaa (λz=>by cases z) (λ_=>o _ rfl _ rfl)) (λ_=>Zaa (λ_=>?_) (λz=>by cases z))⟩) (λ_=>Zaa (λz=>by cases z) (λ_=>o _ rfl _ rfl))⟩;refine Cl.ofQ (C ok R i (ByteArray.mk #[]) Vd) ?_;rintro _ ⟨ab2,e2,O,k2,_,_⟩;obtain⟨rfl,rfl⟩:=k2 rfl;have O:=(O.resolve_right Vs).2;subst O;refine⟨_,_,_,_,rfl,?_⟩;have:(pgP j f ab 1).length=0\/0<(pgP j f 0 1).length:=(by rw[List.length_take,List.length_take];rw[srt_all (λe l=>((Zgj R f).2 e l).1)];have:=List.length_filter_le (λe:EvD=>decide (ab<e.s)) (wnt j f);omega);generalize pgP j f ab 1=P at this|-;generalize pgP j f 0 1=P' at this|-
  have:bpick (ieq (rlen (evR P)) 0) true (igt (rlen (evR P')) 0)=true:=by
   rcases this with h|h
   .rw[Ys.1 h];rfl
   .have:igt (rlen (evR P')) 0=true:=(by simp[igt];omega);rw[this];cases ieq (rlen (evR P)) 0<;>rfl
  dsimp only
  rw[this];rfl
 .refine⟨_,_,_,_,rfl,J _ _ (λq=>Cl.of D ⟨_,rfl,Zaa (λz=>?_) (λ_=>Zaa (λz=>by cases z) (λ_=>Zaa (λz=>?_) (λ_=>o _ rfl _ rfl)))⟩) (λq=>?_)⟩
  .obtain⟨_,_,rfl⟩:=Zjc.1 z;obtain⟨x,hx,hm⟩:=hE.2 q;exact absurd (h4 x hx hm).1 Vs
  .rw[Trm.sne_d]at z
   cases z
  .exact absurd (v q).1 Vs
end Qry
namespace Qry
open Go Go.Px Go.Proofs Seg Jou Tok Dsk Sx Sgr Tryz
open Snp hiding mkT NumR
open Row (st0)
open Trm hiding waddN stepL seq_d sne_d
open Cod hiding okA
def ok_of(h:RightJ J)(hst:J.dk.st<=9223372036854775807):J.ok:=by
 have F:=h.fct;have L:=lim_P F.st;have b:J.cx.m.length<=32:=(Zc6.1 (Zba.1 F.cx).2).1;have d:=h.dk.2.1;have e:=h.dk.1.2.2.1;have f:=F.fs;have g:=F.len;exact⟨⟨Vo,Vo,hst⟩,Vo,Vo,by have:=L.1;omega,λc a=>by have:=L.2 c a;omega⟩
def appP_q(a:RightJ J)(e:Cod.EvD):appP J e=appQ J e:=by unfold appP;rw[if_neg (by rw[Zkn.2 a];simp)]
abbrev wD:DiD:=⟨[],900,-1,false⟩
def dk_nil:DkR [] []:=⟨by simp[Go.Px.srt],rfl,by simp[inRow],Vs⟩
theorem new_nil:newF []=none:=Ztr (by simp[Go.Px.srt]) (λf a=>by obtain⟨_,h,_⟩:=a;cases h)
abbrev qA0:JoD:=⟨wD,64,2,[],⟨0,0,[]⟩,st0,0,0,false⟩
abbrev qE(a k x:Int):EvD:=⟨0,a,k,⟨#[98]⟩,x,0,0⟩
def qA1:=(appQ qA0 (qE 3 1 1)).1
def qA2:=(appQ qA1 (qE 9 4 1)).1
def qA3:=(appQ qA2 (qE 20 4 2)).1
abbrev qF:FlD:=.mk 6 0 0 ⟨#[]⟩ [.mk 5 4 0 ⟨#[]⟩ [],.mk 2 5 99 ⟨#[]⟩ []]
abbrev qW:List EvD:=[⟨2,9,4,⟨#[98]⟩,1,0,0⟩,⟨3,20,4,⟨#[98]⟩,2,0,0⟩]
def q_ok:((appQ qA0 (qE 3 1 1)).2=0/\(appQ qA1 (qE 9 4 1)).2=0/\(appQ qA2 (qE 20 4 2)).2=0)/\(qA1.dk.st= -1/\qA2.dk.st= -1/\qA3.dk.st= -1)/\qA3.st.q=3/\
  (qA1.st.q=1/\qA2.st.q=2)/\(fnd qF (spn qF) 1 0 (⟨1,3,1,⟨#[98]⟩,1,0,0⟩::qW) qA3.sg ([],0)).2=1:=by decide+kernel
def q_open:openP wD 64 2=(qA0,0)/\evsJ qA0=[]:=by
 have b:rowK wD.fs=([],[]):=Zg0 dk_nil;have c:keptF wD.fs=0:=(by grind [keptF,new_nil]);have f:baseF wD.fs=st0:=(by grind [baseF,new_nil]);have g:GoodR (rowK wD.fs).1 (keptF wD.fs) (baseF wD.fs):=(by rw[b,c,f];exact⟨λp a=>(by cases a),λp a=>(by cases a),Vd,λp a=>(by cases a)⟩);have h:menD wD=(wD,0):=(by unfold menD;rw[b];rfl);have i:stR (rowK wD.fs).1 (keptF wD.fs) (baseF wD.fs)=st0:=(by rw[b,c,f];rfl);have e:=open_is (d:=wD) (cb:=64) (cg:=2) Vd (by unfold mayC;omega) rfl g h;have j:anewJ wD 64 2 (stR (rowK wD.fs).1 (keptF wD.fs) (baseF wD.fs)).q false=qA0:=(by unfold anewJ;rw[i,c,b];rfl);rw[j]at e;refine⟨e,?_⟩;rw[Zni (Zzm e).right];rfl
def qawake_fn:Ct prog 6 {} [] (λr=>r=[B true]):=by
 obtain⟨⟨q,t,u⟩,⟨C,D,E⟩,O,⟨F,G⟩,d⟩:=q_ok;have m:=(Zzm q_open.1).right;have g:=Zpj m (k:=qA1) (Prod.ext rfl q);have h:=Zpj g.right (k:=qA2) (Prod.ext rfl t);have v:=Zpj h.right (k:=qA3) (Prod.ext rfl u);have H:appP qA0 (qE 3 1 1)=(qA1,0):=by rw[appP_q m];exact Prod.ext rfl q
 have J:appP qA1 (qE 9 4 1)=(qA2,0):=(by rw[appP_q g.right];exact Prod.ext rfl t);have K:appP qA2 (qE 20 4 2)=(qA3,0):=(by rw[appP_q h.right];exact Prod.ext rfl u);have R:=v.right;have ok:=ok_of R (by rw[E];decide);have w:evsJ qA3=⟨1,3,1,⟨#[98]⟩,1,0,0⟩::qW:=(by rw[v.ev,h.ev,g.ev,q_open.2];unfold evN;rw[F,G];rfl);have y:wnt qA3 qF=qW:=by unfold wnt;rw[w];rfl
 have i:Rgt qF:=⟨by simp only[Trm.okA,Trm.okL];decide,Vd,Vd⟩
 have l:smF qF:=(by simp[smF,smL,ByteArray.size]);have L:qF.sv=fl5 6 0 0 (bA []) [[I 5,I 4,I 0,S (bA []),SL 5 []],[I 2,I 5,I 99,S (bA []),SL 5 []]]:=Vk;have d:(fndJ qA3 qF (1:Nat) 0).2=1:=(by unfold fndJ;rw[w];exact d);have b:∀c,pgP qA3 qF c 1=(qW.filter λe=>decide (c<e.s)).take 1:=λc=>by unfold pgP;rw[y]
 have j:=λp A=>Zlx qA3 ok R qF l i 1 Vo p A;have o:=qall_fn qA3 ok qF l 7;have M:mayQ qA3 qF 7=0:=(by unfold mayQ;rw[if_neg (by rw[R.up];simp),if_pos ⟨R,i,Vo,Vo⟩]);rw[M,if_pos rfl,all_at R qF Vo,y]at o;simp only[L]at j o;have e1:=pgE_n (f:=qF) (P:=pgP qA3 qF 0 1) (n:=1) (x:=2) i (by rw[b];rfl) (by rw[b];rfl) Vo;have e2:=pgE_n (f:=qF) (P:=pgP qA3 qF 2 1) (n:=1) (x:=3) i (by rw[b];rfl) (by rw[b];rfl) Vo;have N:pgE qF (pgP qA3 qF 3 1) 1=ByteArray.mk #[]:=(by unfold pgE;rw[if_neg (by rw[b];decide)]);refine qawake_nf (Cl.of (jopen_fn wD ⟨Vd,Vd,Vd⟩ 64 2) ?_);rw[q_open.1];refine⟨_,_,_,_,_,_,_,_,_,_,_,_,_,_,_,_,_,rfl,Cl.of (Zs3 qA0 (ok_of m Vd) (qE 3 1 1) Vd) ?_⟩;rw[H];refine⟨_,_,_,_,_,_,_,_,_,_,_,_,_,_,_,_,_,rfl,Cl.of (Zs3 qA1 (ok_of g.right (by rw[C];decide)) (qE 9 4 1) Vd) ?_⟩;rw[J];refine⟨_,_,_,_,_,_,_,_,_,_,_,_,_,_,_,_,_,rfl,Cl.of (Zs3 qA2 (ok_of h.right (by rw[D];decide)) (qE 20 4 2) Vd) ?_⟩;rw[K];refine⟨_,_,_,_,_,_,_,_,_,_,_,_,_,_,_,_,_,rfl,Cl.ofQ (j (ByteArray.mk #[]) Vd) ?_⟩;rintro _ ⟨c,e,a,h2,_,_⟩;obtain⟨rfl,rfl⟩:=h2 rfl;have a:=(a.resolve_right Vs).2;subst a;refine⟨_,_,_,_,rfl,Cl.ofQ (j _ Vo) ?_⟩;rintro _ ⟨c,e,a,_,_,h4⟩;obtain⟨rfl,rfl⟩:=h4 2 Vo e1.2.2;have a:=(a.resolve_right Vs).2;subst a;refine⟨_,_,_,_,rfl,Cl.ofQ (j _ Vo) ?_⟩;rintro _ ⟨c,e,a,_,_,h4⟩;obtain⟨rfl,rfl⟩:=h4 3 Vo e2.2.2;have a:=(a.resolve_right Vs).2;subst a;refine⟨_,_,_,_,rfl,Cl.of o ⟨_,_,rfl,?_⟩⟩;rw[b,b,N,b,d];refine Zaa (λ_=>⟨⟨Vo,Vd⟩,_,_,_,_,_,_,_,rfl,Zaa (λ_=>⟨⟨Vo,Vd⟩,_,_,_,_,_,_,_,rfl,?_⟩) (λz=>?_)⟩) (λz=>?_)
 .have:seq (ByteArray.mk #[]) (bA [])=true:=(by rw[Trm.seq_d];rfl);rw[this];rfl
 .exact absurd z Vd
 .exact absurd z Vd

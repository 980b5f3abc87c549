import Derived.Test.YtgehiiginclniaaGreatDoorKpT
set_option linter.all false
set_option maxRecDepth 100000
namespace Go.Proofs.YtgehiiginclniaaGreatDoor
namespace Jou
open Go Go.Px Go.Proofs Cod Tryz
abbrev kq0(r:List SV)(K:Bool->Prop):Prop:=∃a:Bool,(r=[B a])/\K a
abbrev kq1(r:List SV)(K:LL->Prop):Prop:=∃a:LL,(r=[SL 7 a])/\K a
abbrev kq2(r:List SV)(K:LL->Int->Int->Bool->Int->Int->LL->Int->Int->LL->LL->Int->Int->Int->Int->Bool->Int->Prop):Prop:=∃h:LL,∃i:Int,∃j:Int,∃k:Bool,∃l:Int,∃m:Int,∃n:LL,∃o:Int,∃p:Int,∃z9:LL,∃a:LL,∃b:Int,∃c:Int,∃d:Int,∃e:Int,∃f:Bool,∃g:Int,(r=[jr16 h i j k l m n o p z9 a b c d e f,I g])/\K h i j k l m n o p z9 a b c d e f g
abbrev kq3(r:List SV)(K:Int->Int->Int->BA->Int->Int->Int->Prop):Prop:=∃a:Int,∃b:Int,∃c:Int,∃d:BA,∃e:Int,∃f:Int,∃g:Int,(r=[I a,I b,I c,S d,I e,I f,I g])/\K a b c d e f g
def Zzk{rows:LL}{d a:Int}{e:Bool}{G H:Int}{segs:LL}{J K:Int}{L k:LL}{m n g i:Int}{j:Bool}{o:Int}{Q:QQ}(h:Cl prog 40 sP [] (λrs=>kq0 rs λb=>(ifB (bnot b) (Q [B false]) (Cl prog 18 sP ([jr16 rows d a e G H segs J K L k m n g i j]) (λah=>kq0 ah λb1=>(ifB (bnot b1) (Q [B true]) (Cl prog 17 sP ([jr16 rows d a e G H segs J K L k m n g i j]) (λai=>kq0 ai λb2=>(ifB (bpick (bnot b2) true (ine a ((-1:Int)))) (Q [B true]) (Cl prog 15 sP ([jr16 rows d a e G H segs J K L k m n g i j]) (λaj=>kq1 aj λl=>(Cl prog 41 sP ([jr16 rows d a e G H segs J K L k m n g i j]) (λak=>kq2 ak λl1 x x1 b3 x2 x3 l2 x4 x5 l3 l4 F x7 x8 x9 b4 M=>(ifB (bpick (ine M 0) (ine M 13) false) (Q [B false]) (Cl prog 17 sP ([jr16 l1 x x1 b3 x2 x3 l2 x4 x5 l3 l4 F x7 x8 x9 b4]) (λal=>kq0 al λb5=>(ifB (bnot b5) (Q [B false]) (Cl prog 36 sP ([st3 l4 F x7,st3 k m n]) (λam=>kq0 am λb6=>(ifB (bnot b6) (Q [B false]) (Cl prog 15 sP ([jr16 l1 x x1 b3 x2 x3 l2 x4 x5 l3 l4 F x7 x8 x9 b4]) (λan=>kq1 an λl5=>(Cl prog 27 sP [SL 7 l5,SL 7 l] (λao=>kq0 ao λb7=>(ifB (bpick (bpick (bnot b7) true (ine x8 F)) true (bpick (ieq M 0) (ine x9 F) false)) (Q [B false]) ((((8:Int)=0)->False)/\Cl prog 43 sP ([jr16 l1 x x1 b3 x2 x3 l2 x4 x5 l3 l4 F x7 x8 x9 b4,I (wrem (wcv .i64 o) 8)]) (λap=>kq2 ap λl6 w y b8 z A l7 a2 a3 l8 l9 N O a4 p b9 aq=>(Cl prog 15 sP ([jr16 l6 w y b8 z A l7 a2 a3 l8 l9 N O a4 p b9]) (λad=>kq1 ad λc=>(ifB (ine aq 0) (Q [B false]) (Cl prog 17 sP ([jr16 l6 w y b8 z A l7 a2 a3 l8 l9 N O a4 p b9]) (λae=>kq0 ae λar=>(ifB (bnot ar) (Q [B false]) (Cl prog 36 sP ([st3 l9 N O,st3 k m n]) (λaf=>kq0 af λau=>(ifB (bpick (bnot au) true (igt (rlen c) (rlen l))) (Q [B false]) (((0<=(wsub .i64 (rlen l) (rlen c)))/\((wsub .i64 (rlen l) (rlen c))<=(rlen l))/\(rlen l)<=(rlen l))/\Cl prog 27 sP [SL 7 c,SL 7 (rsub l (wsub .i64 (rlen l) (rlen c)) (rlen l))] (λag=>kq0 ag λav=>(ifB (bnot av) (Q [B false]) ((((8:Int)=0)->False)/\ifB (ilt (rlen l7) (imin (rlen l2) (wrem (wcv .i64 o) 8))) (Q [B false]) (ifB (igt (wsub .i64 (rlen l) (rlen c)) 0) ((inR (wsub .i64 (wsub .i64 (rlen l) (rlen c)) 1) l)/\kq3 (rget l (wsub .i64 (wsub .i64 (rlen l) (rlen c)) 1)) λP a5 a6 s a7 a8 a9=>(ifB (igt P p) (Q [B false]) (Cl prog 13 sP ([dk4 l6 w y b8,SV.agg [I z,I A]]) (λr=>kq2 r λR C D T U E V W aw X q aa ab ax ac Y ay=>(ifB (ieq ay 0) (Cl prog 36 sP ([st3 q aa ab,st3 k m n]) (λt=>kq0 t λZ=>(ifB Z (Cl prog 15 sP ([jr16 R C D T U E V W aw X q aa ab ax ac Y]) (λu=>kq1 u λa0=>(Cl prog 27 sP [SL 7 a0,SL 7 c] (λv=>kq0 v λa1=>(Q [B (bpick a1 (ieq ac p) false)]))))) (Q [B false])))) (Q [B false])))))) (Cl prog 13 sP ([dk4 l6 w y b8,SV.agg [I z,I A]]) (λr=>kq2 r λR P a5 T a6 a7 V a8 a9 X q C D U E Y W=>(ifB (ieq W 0) (Cl prog 36 sP ([st3 q C D,st3 k m n]) (λt=>kq0 t λZ=>(ifB Z (Cl prog 15 sP ([jr16 R P a5 T a6 a7 V a8 a9 X q C D U E Y]) (λu=>kq1 u λa0=>(Cl prog 27 sP [SL 7 a0,SL 7 c] (λv=>kq0 v λa1=>(Q [B (bpick a1 (ieq E p) false)]))))) (Q [B false])))) (Q [B false]))))))))))))))))))))))))))))))))))))))))))))):Ct prog 9 {} [jr16 rows d a e G H segs J K L k m n g i j,U8 o] Q:=
 fN SgT SvT func9 h
end Jou
namespace Jou
open Go Go.Px Go.Proofs Cod Seg Sgr Snp Sx Row Tryz
def effW(l:List FiD):Stp->List FiD
 | .cre s=>withB FiD.nm l ⟨s,[],[]⟩
 | .wri s x=>match l.find? (λf=>decide (f.nm=s))with|none=>l|some f=>withB FiD.nm l ⟨s,f.su,f.lo++x⟩
 | .syn s=>match l.find? (λf=>decide (f.nm=s))with|none=>l|some f=>withB FiD.nm l ⟨s,f.su++f.lo,[]⟩
 |_=>l
def effL(l:List FiD)(p:List Stp):List FiD:=p.foldl effW l
def can(a:Int):List BA->Nat->List Stp->Prop
 |_,_,[]=>True
 |N,u,.wri s x::l=>fnB s=true/\s∈N/\(u:Int)+x.length<=a/\can a N (u+x.length) l
 |N,u,.syn s::l=>fnB s=true/\s∈N/\can a N u l
 |N,u,.cre s::l=>fnB s=true/\s∉N/\N.length<64/\numS s≠0/\can a (s::N) u l
 |_,_,.rem _::_=>False
 |_,_,.cut _ _::_=>False
structure Ends(d:DiD)(l:List Stp)(d':DiD)(c:Int):Prop where
 run:runP d l=(d',c)
 P:d'.P
 rm:d'.rm=d.rm
 nm:(∀f∈d.fs,numS f.nm≠0)->∀f∈d'.fs,numS f.nm≠0
 how:(c=0/\d'.dn=false/\d'.fs=effL d.fs l/\(d.st= -1->d'.st= -1))\/(c=16/\d.st≠-1/\d'.dn=true/\∃p,p<+:l/\d'.fs=effL d.fs p)
structure Fre(j:JoD):Prop where
 right:RightJ j
 st:j.dk.st= -1
inductive Tds(j:JoD)(e:Cod.EvD):List Stp->Int->Int->Prop
 |rcd (gs g) (hs:segs j.dk.fs=gs++[g]) (hp:Par j (gs++[g])) (hl:(scF g).sl=false) (he:encE j.cx.s j.cx.a j.cx.m e=0):Tds j e [.wri (nmG (scF g).num) (bys (recL' j e))] (0+(recL' j e).length) j.sure
 |nws (n) (hn:inN n) (h64:j.dk.fs.length<64) (hb:∀f∈segs j.dk.fs,numS f.nm<n) (hl:∀g,(segs j.dk.fs).getLast?=some g->(scF g).sl=true/\n=(scF g).num+1) (h1:segs j.dk.fs=[]->n=1) (he:encE j.st.q j.st.t [] e=0):
   Tds j e [.cre (nmG n),.wri (nmG n) (bys (hedB j n)),.wri (nmG n) (bys (fr 2 (encL j.st.q j.st.t [] e)))] (0+(hedB j n).length+(fr 2 (encL j.st.q j.st.t [] e)).length) j.sure
 |sld (gs g) (hs:segs j.dk.fs=gs++[g]) (hp:Par j (gs++[g])) (hl:(scF g).sl=false) (hn:inN ((scF g).num+1)) (h64:j.dk.fs.length<64) (he:encE j.st.q j.st.t [] e=0):
   Tds j e [.wri (nmG (scF g).num) (bys (selB j (sgOf ⟨scF g,g.len⟩))),.syn (nmG (scF g).num),.cre (nmG ((scF g).num+1)),.wri (nmG ((scF g).num+1)) (bys (hedB j ((scF g).num+1))),.wri (nmG ((scF g).num+1)) (bys (fr 2 (encL j.st.q j.st.t [] e)))]
    (0+(selB j (sgOf ⟨scF g,g.len⟩)).length+(hedB j ((scF g).num+1)).length+(fr 2 (encL j.st.q j.st.t [] e)).length) j.st.q
def Fr0(l:List SgD):Prop:=∀p∈l.head?,p.fr=0
def New(j:JoD):Prop:=(∀f∈j.dk.fs,numS f.nm≠0)/\Fr0 j.sg
structure Kp(j k:JoD):Prop where
 fre:Fre k
 cb:k.cb=j.cb
 cg:k.cg=j.cg
 kept:k.kept=j.kept
 rm:k.dk.rm=j.dk.rm
 sure:j.sure<=k.sure
 nm:New j->New k
theorem Kp.refl{j:JoD}(h:Fre j):Kp j j:=⟨h,rfl,rfl,rfl,rfl,Int.le_refl _,λh=>h⟩
def Kp.trans{a b c:JoD}(h:Kp a b)(k:Kp b c):Kp a c:=⟨k.fre,k.cb.trans h.cb,k.cg.trans h.cg,k.kept.trans h.kept,k.rm.trans h.rm,Int.le_trans h.sure k.sure,λq=>k.nm (h.nm q)⟩
structure DeD where
 k:Int
 e:Cod.EvD
def evsR_G(a:List FiD):evsR (a.map (ptF scF))=(evG a).map toE:=by
 grind [List.flatMap_map,List.map_flatMap,evsR,evG]
structure Whl(gs:List FiD):Prop where
 inr:inRow scF none gs
 nm:∀f∈gs,numS f.nm≠0
 ok:∀f∈gs,ScOK (scF f)/\(scF f).num≠0
 cnt:∀f∈gs,((scF f).ev.length:Int)=(scF f).s-(scF f).bs
 fst:∀f∈gs.head?,(scF f).bs=0/\(scF f).ba=0
structure Tgt(gs:List FiD)(s:BA)(t:Sc):Prop where
 ok:ScOK t
 num:t.num=numS s
 cnt:(t.ev.length:Int)=t.s-t.bs
 fol:match gs.getLast? with|none=>t.bs=0/\t.ba=0|some a=>foll t (scF a)
end Jou
namespace Jou
open Go Go.Px Go.Proofs Cod Seg Sgr Snp Sx Row Dsk Tryz
structure DeD.ok(d:DeD):Prop where
 k:0<=d.k/\d.k<=255
 a: -9223372036854775808<=d.e.a/\d.e.a<=9223372036854775807
def ev_eR(l:List Cod.EvD):evR l=eR (l.map toE):=by
 show _=(l.map toE).map _;rw[List.map_map];rfl
def Zym(j:JoD)(h:j.Sz):Ct prog 18 {} [j.sv] (λr=>∃b,r=[B b]/\(b=true->j.ok)):=by
 have f:=h.m;refine Zsj ⟨λ_ x=>∃i:Nat,x=i/\i<=j.cx.m.length,λ_ x=>j.cx.m.length-x.toNat,⟨0,rfl,Vo⟩,?_⟩;rintro _ _ ⟨i,rfl,hi⟩;refine Zaa (λq=>?_) (λq=>?_)
 .have q:i<j.cx.m.length:=(by simpa using q);rw[waddN _];exact⟨⟨Vo,by simpa using q⟩,j.cx.m[i],Zaj _ _ _ q,Zaa (λz=>⟨false,rfl,Vs⟩) (λz=>⟨rfl,⟨i+1,rfl,Vo⟩,stepL Vm⟩)⟩
 .refine Cl.of (qshort_fn j.dk (Sz.ok h.dk) (by have:=h.dk.1;omega)) ⟨_,rfl,Zaa (λz=>?_) (λz=>⟨false,rfl,Vs⟩)⟩;refine Cl.of (sshort_fn j.st (by have:=h.cs;omega)) ⟨_,rfl,_,rfl,λy=>?_⟩;have z:j.dk.fs.length<=70:=(of_decide_eq_true z).1;simp only[bpick]at y
  cases hs:decide j.st.short with
  |false=>rw[hs]at y;cases y
  |true=>
   rw[hs]at y;have e:=of_decide_eq_true hs
   cases a:ile (rlen (sgR j.sg)) 99 with
   |false=>rw[a]at y;cases y
   |true=>
    rw[a]at y;have y:j.cx.m.length<=60:=by simp at y;omega
    have a:j.sg.length<=99:=(by simp at a;omega);exact⟨Sz.ok h.dk z,Vo,Vo,by have:=e.2;omega,λc d=>by have:=(e.1 c d).2;omega⟩
def evs_cnt{j:JoD}(h:RightJ j):((evsJ j).length:Int)=(j.sg.map λp=>p.la-p.fi).sum:=by
 have p:=h.par;rw[Zn5 h,p.sg];have a:=p.good.cnt
 revert a
 generalize segs j.dk.fs=c;intro a
 induction c with
 |nil=>rfl
 |cons g c f=>have b:=a (ptF scF g) Vs;have e:=f λx d=>a x (by rw[List.map_cons];exact Yy _ d);rw[List.map_cons,List.map_cons,List.map_cons,List.sum_cons,<-e];show(((scF g).ev++evG c).length:Int)=((scF g).s-(scF g).bs)+_;have b:((scF g).ev.length:Int)=(scF g).s-(scF g).bs:=b;rw[List.length_append,<-b];omega
def Zpc{j:JoD}(h:RightJ j):(evsJ j).length<=4294967296:=by
 have p:=h.par;rw[Zn5 h]
 rcases Y2 (segs j.dk.fs)with h0|⟨gs,g,hgs⟩
 .rw[h0];simp[evG]
 .rw[List.concat_eq_append]at hgs;rw[hgs]at p;obtain⟨x,hx⟩:∃x,((gs++[g]).map (ptF scF)).head?=some x:=by cases gs<;>exact⟨_,rfl⟩
  have i:=cns_le (Zs6 gs g p.dkr.inr (by rw[<-hgs];exact Za8) p.good.cnt x hx);have e:(evsR ((gs++[g]).map (ptF scF))).length=(evG (gs++[g])).length:=(by rw[evsR_G,List.length_map]);have k:=p.q;have l:=(Zvr h.fct.st).2.1;have c:=List.mem_of_head? hx;obtain⟨f,b,rfl⟩:=Y5.1 c;have a:=p.dkr.bytes p.all f b;have m:0<=(scF f).bs:=(Zog a.1 (by rw[a.2.2.1];exact a.2.2.2)).1.1;have n:(ptF scF f).d.bs=(scF f).bs:=rfl;rw[hgs,<-e];omega
abbrev yA0:JoD:=⟨wD,64,1,[],⟨0,0,[]⟩,st0,0,0,false⟩
def yA1:=(appQ yA0 (wE 3 1 0)).1
def yA2:=(appQ yA1 (wE 9 4 0)).1
def yA3:=(synQ yA2).1
def y_ok:((appQ yA0 (wE 3 1 0)).2=0/\(appQ yA1 (wE 9 4 0)).2=0/\(synQ yA2).2=0)/\(yA1.dk.st= -1/\yA2.dk.st= -1)/\(saveD yA3.dk yA3.st).2=0/\yA2.st.q=2/\yA3.sg.length=2/\
  (drpS 0 2 yA3.sg (saveD yA3.dk yA3.st).1).1.map (λp=>p.la-p.fi)=[1]:=by decide+kernel
def y_open:openP wD 64 1=(yA0,0):=by
 have b:rowK wD.fs=([],[]):=Zdy dk_nil;have c:keptF wD.fs=0:=(by unfold keptF;rw[show wD.fs=[]from rfl,new_nil]);have e:baseF wD.fs=st0:=(by unfold baseF;rw[show wD.fs=[]from rfl,new_nil]);have g:GoodR (rowK wD.fs).1 (keptF wD.fs) (baseF wD.fs):=(by rw[b,c,e];exact⟨λp a=>(by cases a),λp a=>(by cases a),Vd,λp a=>(by cases a)⟩);have h:menD wD=(wD,0):=(by unfold menD;rw[b];rfl);have i:stR (rowK wD.fs).1 (keptF wD.fs) (baseF wD.fs)=st0:=(by rw[b,c,e];rfl);have f:=Zz2 (d:=wD) (cb:=64) (cg:=1) Vd (by unfold mayC;omega) rfl g h;have j:anewJ wD 64 1 (stR (rowK wD.fs).1 (keptF wD.fs) (baseF wD.fs)).q false=yA0:=(by unfold anewJ;rw[i,c,b];rfl);rw[j]at f;exact f
def ret_sg{j m:JoD}{a:Int}(h:retJ j a=(m,0)):m.sg=(drpS a j.kept j.sg j.dk).1:=by
 unfold retJ at h
 split at h
 next b=>rw[Prod.mk.injEq]at h;exact absurd h.2 b
 split at h
 .cases h
 split at h
 next b=>rw[Prod.mk.injEq]at h;exact absurd h.2 b
 split at h
 next b=>rw[Prod.mk.injEq]at h;exact absurd h.2 b
 .rw[Prod.mk.injEq]at h;rw[<-h.1]
def kawake_fn:Ct prog 40 {} [] (λr=>r=[B true]):=by
 obtain⟨⟨u,v,O⟩,⟨P,w⟩,x,Q,R,y⟩:=y_ok;have o:=(Zz1 y_open).right;have p:=Zw4 o (k:=yA1) (Wa rfl u);have s:=Zw4 p.right (k:=yA2) (Wa rfl v);have V:appP yA0 (wE 3 1 0)=(yA1,0):=by rw[appP_q o];exact Wa rfl u
 have W:appP yA1 (wE 9 4 0)=(yA2,0):=(by rw[appP_q p.right];exact Wa rfl v);have X:synJ yA2=(yA3,0):=(by rw[synJ_q s.right];exact Wa rfl O);have J:=ok_of s.right (by rw[w];decide);obtain⟨k,e,A,he,C,d,k1,k2,k3,b,_,_⟩:=snp_law s.right w
 have l:snpJ yA2=({yA3 with dk:=(saveD yA3.dk yA3.st).1,kept:=yA3.st.q},0):=by
  unfold snpJ;rw[X]
  dsimp only
  rw[if_neg Vs,if_neg (by rw[x];decide),if_neg (by rw[x];simp)]
 rw[l,Prod.mk.injEq]at A;obtain⟨i,rfl⟩:=A;have b:=b rfl;rw[Q]at b;obtain⟨m,D,j,f,T,m2,m3,m4,⟨g,hg,Z⟩,_⟩:=ret_law C d (least:=0) Vo;have n:=ret_sg D;have a:=evs_cnt j;rw[n,b,<-i]at a;rw[show(({yA3 with dk:=(saveD yA3.dk yA3.st).1,kept:=yA3.st.q}:JoD).sg)=yA3.sg from rfl,show(({yA3 with dk:=(saveD yA3.dk yA3.st).1,kept:=yA3.st.q}:JoD).dk)=(saveD yA3.dk yA3.st).1 from rfl,y]at a
 have mlen:m.sg.length=1:=by
  rw[n,b,<-i];have:=congrArg List.length y
  simpa using this
 have t:k.sg.length=2:=(by rw[<-i];exact R);have K:snpJ yA2=(k,0):=(by rw[l,i]);obtain⟨E,G,H,U,u2,u3⟩:=reopen j f;have M:=ok_of C (by rw[d];decide);have h:=ok_of j (by rw[f];decide);refine kawake_nf (Cl.of (Zon wD ⟨Vd,Vd,Vd⟩ 64 1) ?_);rw[y_open];refine⟨_,_,_,_,_,_,_,_,_,_,_,_,_,_,_,_,_,rfl,Cl.of (japp_fn yA0 (ok_of o Vd) (wE 3 1 0) Vd) ?_⟩;rw[V];refine⟨_,_,_,_,_,_,_,_,_,_,_,_,_,_,_,_,_,rfl,Cl.of (japp_fn yA1 (ok_of p.right (by rw[P];decide)) (wE 9 4 0) Vd) ?_⟩;rw[W];refine⟨_,_,_,_,_,_,_,_,_,_,_,_,_,_,_,_,_,rfl,Cl.of (Zvl yA2 J) ?_⟩;rw[K];refine⟨_,_,_,_,_,_,_,_,_,_,_,_,_,_,_,_,_,rfl,Cl.of (Zno k M 0) ?_⟩;rw[D];refine⟨_,_,_,_,_,_,_,_,_,_,_,_,_,_,_,_,_,rfl,Cl.of (Zon m.dk h.dk m.cb m.cg) ?_⟩;rw[G];refine⟨_,_,_,_,_,_,_,_,_,_,_,_,_,_,_,_,_,rfl,Zaa (λ_=>?_) (λz=>?_)⟩
 .refine Cl.of (Zew m h) ⟨_,rfl,Zaa (λ_=>?_) (λz=>?_)⟩
  .refine Cl.of (Zdu m h) ⟨_,rfl,Zaa (λ_=>?_) (λz=>by rw[Zck.2 j]at z;cases z)⟩;have Y:E.st=k.st:=U.trans T;have F:=H.fct;have L:=lim_P F.st;refine Cl.of (Zo5 E.st k.st (by have:=L.1;omega) (λc N=>by have:=L.2 c N;omega)) ⟨_,rfl,?_⟩;rw[decide_eq_true Y]
  .simp at z;simp at a;omega
 .simp[bpick,mlen,t,b]at z
def rem_8u{k:Int}(h:0<=k/\k<=255):wrem (wcv .i64 k) 8=k%8:=by
 have:wcv IntKind.i64 k=k:=(by unfold wcv;exact Zbg Vo Vo);rw[this];unfold wrem;exact Int.tmod_eq_emod_of_nonneg h.1
def kcovers_fn(j:JoD)(hz:j.Sz)(d:Int)(U:0<=d/\d<=255):Ct prog 9 {} [j.sv,U8 d] (λr=>r=[B true]):=by
 refine Zzk (Cl.of kawake_fn ⟨_,rfl,Zaa (λz=>by cases z) (λ_=>Cl.ofQ (Zym j hz) ?_)⟩);rintro _ ⟨b,rfl,hok⟩;refine⟨_,rfl,Zaa (λz=>rfl) (λz=>?_)⟩;have ok:=hok (by cases b<;>simp_all[bnot]);refine Cl.of (Zdu j ok) ⟨_,rfl,Zaa (λz=>rfl) (λz=>?_)⟩;rw[bor_f]at z;have R:RightJ j:=Zck.1 (by have:=z.1;cases h:rgtJ j<;>simp_all[bnot]);have hst:j.dk.st= -1:=(by simpa using z.2);refine Cl.of (Zew j ok) ⟨_,rfl,Cl.of (Zvl j ok) ?_⟩;obtain⟨k,e,hk,he,l,F,n,k2,k3,k4,k5,k6⟩:=snp_law R hst;rw[hk];have u:=ok_of l (by rw[F];decide);refine⟨_,_,_,_,_,_,_,_,_,_,_,_,_,_,_,_,_,rfl,Zaa (λz=>?_) (λ_=>?_)⟩
 .simp[bpick]at z;omega
 refine Cl.of (Zdu k u) ⟨_,rfl,Zaa (λz=>by rw[Zck.2 l]at z;cases z) (λ_=>?_)⟩;have f:∀{x y:StD},x.P->x=y->Ct prog 36 {} [x.sv,y.sv] (λr=>r=[B true]):=λ{x y} hP e=>by have L:=lim_P hP;have:=Zo5 x y (by have:=L.1;omega) (λc hc=>by have:=L.2 c hc;omega);rwa[decide_eq_true e]at this
 have v:∀{a b:List Cod.EvD},a.length<=4294967296->a=b->Ct prog 27 {} [SL 7 (evR a),SL 7 (evR b)] (λr=>r=[B true]):=λ{a b} U e=>by have:=Li.esame_fn (a.map toE) (b.map toE) (by rw[List.length_map];omega);rw[ev_eR,ev_eR];rwa[decide_eq_true (by rw[e])]at this
 refine Cl.of (f l.fct.st n) ⟨_,rfl,Zaa (λz=>by cases z) (λ_=>?_)⟩;refine Cl.of (Zew k u) ⟨_,rfl,Cl.of (v (Zpc l) k2) ⟨_,rfl,Zaa (λz=>?_) (λ_=>⟨Vo,?_⟩)⟩⟩
 .exfalso
  dsimp only at z
  rw[bor_t,bor_t]at z
  rcases z with(z|z)|z
  .cases z
  .simp[k3,n]at z
  .rcases he with rfl|rfl
   .have:=k4 rfl;simp[bpick,this,n]at z
   .simp[bpick]at z
 rw[rem_8u U];have ac:0<=d%8:=Vo;obtain⟨m,hm,o,G,m1,m2,m3,m4,⟨g,hg,ab⟩,mlen⟩:=ret_law l F ac;have i:=ok_of o (by rw[G];decide);have O:evsJ j=g++evsJ m:=(by rw[<-hg,k2]);have af:=Zpc R;refine Cl.of (Zno k u _) ?_;rw[hm];refine⟨_,_,_,_,_,_,_,_,_,_,_,_,_,_,_,_,_,rfl,Cl.of (Zew m i) ⟨_,rfl,Zaa (λz=>by simp at z) (λ_=>?_)⟩⟩;refine Cl.of (Zdu m i) ⟨_,rfl,Zaa (λz=>by rw[Zck.2 o]at z;cases z) (λ_=>?_)⟩;refine Cl.of (f o.fct.st (m1.trans n)) ⟨_,rfl,?_⟩;have ln:(evsJ j).length=g.length+(evsJ m).length:=(by rw[O,List.length_append]);have Q:wsub .i64 (rlen (evR (evsJ j))) (rlen (evR (evsJ m)))=(g.length:Int):=(by have:rlen (evR (evsJ j))-rlen (evR (evsJ m))=(g.length:Int):=(by simp[ln]);unfold wsub;rw[this];exact Zbg Vo Vo);refine Zaa (λz=>?_) (λ_=>?_)
 .exfalso;simp[bpick,bnot]at z;omega
 rw[Q];have ad:rsub (evR (evsJ j)) (g.length:Int) (rlen (evR (evsJ j)))=evR (evsJ m):=(by rw[O];have e:(g.length:Int)+((evsJ m).length:Int)=((g.length+(evsJ m).length:Nat):Int):=Vo;simp only[rsub,rlen,List.length_map,List.length_append,Int.toNat_natCast,Y7,List.map_append];rw[List.take_of_length_le Vs,YC Vs,Yi Vs];rfl);rw[ad];obtain⟨up,H,p,u1,u2,u3⟩:=reopen o G
 have T:up.ok:=ok_of p (by
  have:=(openP_k i.dk m.cb m.cg).2.2
  rw[H]at this;exact this)
 have w:Cl prog 13 sP ([dk4 (fR m.dk.fs) m.dk.rm m.dk.st m.dk.dn,SV.agg [I m.cb,I m.cg]]) (λ(J:List SV)=>kq2 J λV W X Y Z a0 a1 a2 a3 a4 A C D a5 E a6 a7=>(ifB (ieq a7 0) (Cl prog 36 sP ([st3 A C D,st3 (coR j.st.cs) j.st.q j.st.t]) (λ(K:List SV)=>kq0 K λa8=>(ifB a8 (Cl prog 15 sP ([jr16 V W X Y Z a0 a1 a2 a3 a4 A C D a5 E a6]) (λ(M:List SV)=>kq1 M λa9=>(Cl prog 27 sP [SL 7 a9,SL 7 (evR (evsJ m))] (λ(N:List SV)=>kq0 N λaa=>([B (bpick aa (ieq E m.kept) false)]=[B true]))))) ([B false]=[B true])))) ([B false]=[B true]))):=(by refine Cl.of (Zon m.dk i.dk m.cb m.cg) ?_;rw[H];refine⟨_,_,_,_,_,_,_,_,_,_,_,_,_,_,_,_,_,rfl,Zaa (λ_=>?_) (λz=>by simp at z)⟩;refine Cl.of (f p.fct.st (u1.trans (m1.trans n))) ⟨_,rfl,Zaa (λ_=>?_) (λz=>by cases z)⟩;refine Cl.of (Zew up T) ⟨_,rfl,Cl.of (v (Zpc p) u2) ⟨_,rfl,?_⟩⟩;simp[bpick,u3]);refine⟨⟨Vo,by simp[ln];omega,Int.le_refl _⟩,Cl.of (v (Zpc o) rfl) ⟨_,rfl,Zaa (λz=>by cases z) (λ_=>⟨Vo,Zaa (λz=>?_) (λ_=>Zaa (λz=>?_) (λ_=>w))⟩)⟩⟩
 .exfalso;have z:(m.sg.length:Int)<imin (k.sg.length:Int) (d%8):=(by simpa using z);unfold imin at z
  split at z<;>omega
 .have z:0<g.length:=(by simp at z;omega);have ae:wsub .i64 (g.length:Int) 1=((g.length-1:Nat):Int):=(by unfold wsub;rw[show(g.length:Int)-1=((g.length-1:Nat):Int) by omega];exact Zbg Vo Vo);rw[ae];have hi:g.length-1<(evsJ j).length:=Vo;refine⟨⟨Vo,Vm⟩,_,_,_,_,_,_,_,Zaj _ _ _ hi,Zaa (λy=>?_) (λ_=>w)⟩;exfalso;have e:(evsJ j)[g.length-1]∈g:=(by have:(evsJ j)[g.length-1]=g[g.length-1]'Vo:=(by simp only[O];rw[List.getElem_append_left Vo]);rw[this];exact List.getElem_mem _);have:=ab _ e;have y:m.kept<(evsJ j)[g.length-1].s:=(by simpa using y);omega

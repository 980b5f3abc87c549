import Derived.Test.YtaenkbbfockfgaaGreatDoorK09
import Derived.Test.YtaenkbbfockfgaaGreatDoorProg
import Derived.Laws.Externs
import Derived.Shelf.LaysM
import Derived.Shelf.Strconv.Itoa4
import Derived.Shelf.Strings.Repeat
set_option linter.all false
set_option maxRecDepth 100000
variable{b c e i j k:Int}{m n:Nat}{l:Go.Px.LL}{Q:Go.Px.QQ}{s t:BA}{C:List Go.Px.SV}
namespace Go.Proofs.YtaenkbbfockfgaaGreatDoor
namespace Cmp
open Go Go.Px Go.Proofs Tryz
def wadd_ok{c:CoD}{e:EvD}(ok:MayOK c e)(d:c.ro=1)(b:Bool):waddR c.wd c.sl c.cl e.a b=[win3 c.wd (wadS c.wd c.sl c.cl e.a b).1 (cR (wadS c.wd c.sl c.cl e.a b).2),I 0]:=by
 unfold waddR;rw[if_pos ⟨(Zqs ok.right d).1.2,(chkE_zero ok.chk).2.2.2.1⟩]
def ptell_fn(c:CoD)(e:EvD):Ct prog 120 {} [c.sv,e.sv] (λr=>r=tellR c e):=by
 refine ptell_nf (Cl.of (pmay_fn c e) ⟨_,rfl,Zaa (λh=>?_) (λh=>?_)⟩)
 .simp at h;unfold tellR;rw[if_neg h]
 simp at h;have ok:=Zot.1 h;obtain⟨H,M,N⟩:=role_of ok;obtain⟨O,_,J,_,_⟩:=chkE_zero ok.chk;have L:=hi_le e.k;unfold tellR;rw[if_pos h];refine Zaa (λb=>?_) (λb=>Zaa (λd=>?_) (λd=>Zaa (λf=>?_) (λf=>Zaa (λi=>?_) (λi=>Zaa (λj=>?_) (λj=>Zaa (λl=>?_) (λl=>Zaa (λm=>?_) (λm=>Zaa (λn=>?_) (λn=>Zaa (λo=>?_) (λo=>?_)))))))))
 .simp at b;exact Cl.of (config_fn c e ok b) ⟨_,_,_,_,_,_,_,_,_,_,_,_,_,_,_,_,_,_,_,_,_,rfl,rfl⟩
 .simp at b d;have G:=H (.inl d);have t:=wadd_fn c.wd c.sl c.cl e.a (ieq e.x 0);rw[wadd_ok ok G]at t;refine Cl.of t ⟨_,_,_,_,rfl,?_⟩;have u:=hadd_fn c.h0 c.h1 c.h2 c.h3 c.h4 c.h5 c.h6 c.h7 c.h8 c.hs e.y;have K:haddS c.h0 c.h1 c.h2 c.h3 c.h4 c.h5 c.h6 c.h7 c.h8 c.hs e.y=_:=Zvd (winC c e) e.y;rw[K]at u;refine Cl.of u ⟨_,_,_,_,_,_,_,_,_,_,rfl,?_⟩;have hx:0<=e.x/\e.x<3:=(by rw[d]at J;simp[lo1,hi1]at J;omega);have q:=Zcq (hadC (winC c e) e.y) e.x hx.1 hx.2;obtain⟨e1,e2,w,z,A,C,D,E,F,p,s⟩:=Zdq (winC c e) e.y;have v:(hadC (winC c e) e.y).sv=SV.agg [S c.nm,I c.ro,I c.mo,I c.wd,I (winC c e).sl,SL 2 (cR (winC c e).cl),I (hadC (winC c e) e.y).h0,I (hadC (winC c e) e.y).h1,I (hadC (winC c e) e.y).h2,I (hadC (winC c e) e.y).h3,I (hadC (winC c e) e.y).h4,I (hadC (winC c e) e.y).h5,I (hadC (winC c e) e.y).h6,I (hadC (winC c e) e.y).h7,I (hadC (winC c e) e.y).h8,I (hadC (winC c e) e.y).hs,I c.rm,I c.ha,I c.c0,I c.c1,I c.c2]:=(by unfold CoD.sv;rw[e1,e2,w,z,A,C,D,E,F,p,s];rfl);rw[v]at q;refine Cl.of q ⟨_,_,_,_,_,_,_,_,_,_,_,_,_,_,_,_,_,_,_,_,_,rfl,?_⟩;have g:tellC c e=cntC (hadC (winC c e) e.y) e.x:=(by unfold tellC;rw[if_neg b,if_pos d]);rw[g]
 .simp at b d f;have G:=H (.inr f);refine Zaa (λhx=>?_) (λhx=>?_)
  .simp at hx;rw[Zgz];have t:=Zr7 c.wd c.cl.length e.a;rw[wnew_trip ok G]at t;refine Cl.of t ⟨_,_,_,_,rfl,?_⟩;have g:tellC c e={c with mo:=e.x,sl:=e.a/c.wd,cl:=zer c.cl.length}:=by unfold tellC;rw[if_neg b,if_neg d,if_pos f,if_pos hx]
   rw[g]
  .simp at hx;have g:tellC c e={c with mo:=e.x}:=by unfold tellC;rw[if_neg b,if_neg d,if_pos f,if_neg hx]
   rw[g]
 .simp at b d f i;refine Cl.of (Zvo c.rm c.ha e.x) ⟨_,_,_,rfl,?_⟩;refine Cl.of (Zcq {c with ha:=takeH c.rm c.ha e.x} 0 Vo Vo) ⟨_,_,_,_,_,_,_,_,_,_,_,_,_,_,_,_,_,_,_,_,_,rfl,?_⟩;have g:tellC c e=cntC {c with ha:=takeH c.rm c.ha e.x} 0:=by unfold tellC;rw[if_neg b,if_neg d,if_neg f,if_pos i]
  rw[g]
 .simp at b d f i j;refine Cl.of (Zcq c 1 Vo Vo) ⟨_,_,_,_,_,_,_,_,_,_,_,_,_,_,_,_,_,_,_,_,_,rfl,?_⟩;have g:tellC c e=cntC c 1:=by unfold tellC;rw[if_neg b,if_neg d,if_neg f,if_neg i,if_pos j]
  rw[g]
 .simp at b d f i j l;refine Cl.of (bput_fn c.rm c.ha e.x) ⟨_,_,rfl,?_⟩;refine Cl.of (Zcq {c with ha:=putH c.rm c.ha e.x} 2 Vo Vo) ⟨_,_,_,_,_,_,_,_,_,_,_,_,_,_,_,_,_,_,_,_,_,rfl,?_⟩;have g:tellC c e=cntC {c with ha:=putH c.rm c.ha e.x} 2:=by unfold tellC;rw[if_neg b,if_neg d,if_neg f,if_neg i,if_neg j,if_pos l]
  rw[g]
 .simp at b d f i j l m;refine Cl.of (Zvo c.rm c.ha 1) ⟨_,_,_,rfl,?_⟩;refine Cl.of (Zcq {c with mo:=e.x,ha:=takeH c.rm c.ha 1} 0 Vo Vo) ⟨_,_,_,_,_,_,_,_,_,_,_,_,_,_,_,_,_,_,_,_,_,rfl,?_⟩;have g:tellC c e=cntC {c with mo:=e.x,ha:=takeH c.rm c.ha 1} 0:=by unfold tellC;rw[if_neg b,if_neg d,if_neg f,if_neg i,if_neg j,if_neg l,if_pos m]
  rw[g]
 .simp at b d f i j l m n;have u:=hadd_fn c.h0 c.h1 c.h2 c.h3 c.h4 c.h5 c.h6 c.h7 c.h8 c.hs e.x;rw[Zvd c e.x]at u;refine Cl.of u ⟨_,_,_,_,_,_,_,_,_,_,rfl,?_⟩;have q:=Zcq (hadC c e.x) 1 Vo Vo;obtain⟨e1,e2,w,z,A,C,D,E,F,p,s⟩:=Zdq c e.x;have v:(hadC c e.x).sv=SV.agg [S c.nm,I c.ro,I c.mo,I c.wd,I c.sl,SL 2 (cR c.cl),I (hadC c e.x).h0,I (hadC c e.x).h1,I (hadC c e.x).h2,I (hadC c e.x).h3,I (hadC c e.x).h4,I (hadC c e.x).h5,I (hadC c e.x).h6,I (hadC c e.x).h7,I (hadC c e.x).h8,I (hadC c e.x).hs,I c.rm,I c.ha,I c.c0,I c.c1,I c.c2]:=(by unfold CoD.sv;rw[e1,e2,w,z,A,C,D,E,F,p,s]);rw[v]at q;refine Cl.of q ⟨_,_,_,_,_,_,_,_,_,_,_,_,_,_,_,_,_,_,_,_,_,rfl,?_⟩;have g:tellC c e=cntC (hadC c e.x) 1:=(by unfold tellC;rw[if_neg b,if_neg d,if_neg f,if_neg i,if_neg j,if_neg l,if_neg m,if_pos n]);rw[g]
 .simp at b d f i j l m n o;refine Cl.of (Zcq {c with mo:=0} 2 Vo Vo) ⟨_,_,_,_,_,_,_,_,_,_,_,_,_,_,_,_,_,_,_,_,_,rfl,?_⟩;have g:tellC c e=cntC {c with mo:=0} 2:=by unfold tellC;rw[if_neg b,if_neg d,if_neg f,if_neg i,if_neg j,if_neg l,if_neg m,if_neg n]
  rw[g]
 .simp at b d f i j l m n o;have:=ok.k1;omega
def qmay_fn(c:CoD)(e:EvD):Ct prog 236 {} [c.sv,e.sv] (λr=>r=[I (mayI c e)]):=by
 refine qmay_nf _ _ _ _ _ _ _ _ _ _ _ _ _ _ _ _ _ _ _ _ _ _ _ _ _ _ _ _ _ (Cl.of (qright_fn c) ⟨_,rfl,Zaa (λh=>?_) (λh=>?_)⟩)
 .simp at h;simp[mayI,h]
 simp at h;refine Cl.of (Zzq e.s e.a e.k e.c e.x e.y e.z) ⟨_,rfl,Zaa (λb=>?_) (λb=>?_)⟩
 .simp at b;have b:chkE e≠0:=b;simp only[mayI,h,b,not_true_eq_false,if_false,ne_eq,not_false_eq_true,if_true];rfl
 simp at b;have b:chkE e=0:=b;obtain⟨w,_,A,_,_⟩:=chkE_zero b;have u:=hi_le e.k;rw[sne_d];refine Zaa (λf=>?_) (λf=>Zaa (λg=>?_) (λg=>?_))
 .simp at f;simp[mayI,h,b,f]
 .simp at f g;simp[mayI,h,b,f,g]
 simp at f g;have v:0<=roleI e.k:=(Zxg e.k (λo=>by have:=(many0 _).1 o;omega)).1;refine Cl.of (rrole_fn e.k) ⟨_,rfl,Zaa (λp=>?_) (λp=>?_)⟩
 .simp at p;have d:¬roleI e.k=0/\¬roleI e.k=c.ro:=Vo;simp only[mayI,h,b,f,g,d,not_true_eq_false,if_false,ne_eq,not_false_eq_true,if_true,and_self]
 have d:¬(¬roleI e.k=0/\¬roleI e.k=c.ro):=λo=>by have:0<roleI e.k:=Vo;simp[this,o.2]at p
 refine Zaa (λi=>?_) (λi=>?_)
 .simp at i;simp only[mayI,h,b,f,g,i,d,not_true_eq_false,if_false,ne_eq,false_and]
 simp at i;have bad:¬cfgP c.ro e->[I 4]=[I (mayI c e)]:=λq=>by rw[i]at g d;simp only[mayI,h,b,f,i,q,g,d,not_true_eq_false,if_false,ne_eq,not_false_eq_true,if_true,and_self]
 have j:cfgP c.ro e->[I 0]=[I (mayI c e)]:=λq=>by rw[i]at g d;simp only[mayI,h,b,f,i,q,g,d,not_true_eq_false,if_false,ne_eq,and_false]
 have t:=Zou h;unfold cfgP at bad j;refine Zaa (λl=>?_) (λl=>Zaa (λm=>?_) (λm=>Zaa (λn=>?_) (λn=>?_)))
 .by_cases hr:c.ro=1
  .rw[if_pos hr]at bad;simp[hr]at l;exact bad Vo
  .simp[hr]at l
 .by_cases hr:c.ro=2
  .rw[if_neg Vo,if_pos hr]at bad;simp[hr]at m;exact bad Vo
  .simp[hr]at m
 .by_cases hr:c.ro=3
  .rw[if_neg Vo,if_neg Vo]at bad;simp[hr]at n;exact bad Vo
  .simp[hr]at n
 .refine j ?_
  rcases t with hr|hr|hr
  .simp[hr]at l;rw[if_pos hr];omega
  .simp[hr]at m;rw[if_neg Vo,if_pos hr];omega
  .simp[hr]at n;rw[if_neg Vo,if_neg Vo];omega
def sameP(c d:CoD):Prop:=c.nm=d.nm/\c.ro=d.ro/\c.mo=d.mo/\c.wd=d.wd/\c.sl=d.sl/\c.cl=d.cl/\c.h0=d.h0/\c.h1=d.h1/\c.h2=d.h2/\c.h3=d.h3/\c.h4=d.h4/\c.h5=d.h5/\c.h6=d.h6/\c.h7=d.h7/\c.h8=d.h8/\c.hs=d.hs/\c.rm=d.rm/\c.ha=d.ha/\c.c0=d.c0/\c.c1=d.c1/\c.c2=d.c2
instance (c d:CoD):Decidable (sameP c d):=by unfold sameP;infer_instance
theorem Zys(c:CoD):sameP c c:=⟨rfl,rfl,rfl,rfl,rfl,rfl,rfl,rfl,rfl,rfl,rfl,rfl,rfl,rfl,rfl,rfl,rfl,rfl,rfl,rfl,rfl⟩
def psame_fn(c d:CoD)(a:c.cl.length<=1000000):Ct prog 102 {} [c.sv,d.sv] (λr=>r=[B (decide (sameP c d))]):=by
 refine psame_nf (Zaa (λh=>Cl.of (Zzj c.cl d.cl a) ⟨_,rfl,?_⟩) (λh=>?_))
 .rw[seq_d]at h;simp at h;refine congrArg (λb=>[B b]) ?_;rw[Bool.eq_iff_iff,decide_eq_true_eq];unfold sameP;simp[h,and_assoc]
 .rw[seq_d]at h;simp at h;refine congrArg (λb=>[B b]) ?_;rw[Bool.eq_iff_iff,decide_eq_true_eq];unfold sameP;simp;intro e f g i j;exact absurd j (h e f g i)
def qshort_fn(c:CoD):Ct prog 63 {} [c.sv] (λr=>r=[B (decide (c.nm.size<=100/\c.cl.length<=40))]):=by
 refine qshort_nf _ _ _ _ _ _ _ _ _ _ _ _ _ _ _ _ _ _ _ _ _ _ ?_;refine congrArg (λb=>[B b]) ?_;rw[Bool.eq_iff_iff,decide_eq_true_eq];simp[slen_eq];omega
def addL_len(a:List (Int×Int))(p:Int)(ok:Bool):(addL a p ok).length=a.length:=by simp[addL]
def Zw3(c d:Int)(b:List (Int×Int))(a:Int)(ok:Bool):(wadS c d b a ok).2.length=b.length:=by
 unfold wadS
 repeat' split
 all_goals simp[addL_len,mvL_len]
def cntC_cl(c:CoD)(i:Int):(cntC c i).cl=c.cl:=rfl
def tell_cl{c:CoD}{e:EvD}(ok:MayOK c e):(tellC c e).cl.length<=c.cl.length\/(tellC c e).cl.length<=16:=by
 unfold tellC
 split
 next a=>
  split
  next b=>have:=ok.cfg a;unfold cfgP at this;rw[if_pos b]at this;refine .inr ?_;simp[zer];omega
  .split<;>exact .inl (Nat.le_refl _)
 .split
  .refine .inl ?_;rw[cntC_cl,(Zdq _ _).2.2.2.2.2.1];exact Nat.le_of_eq (Zw3 _ _ _ _ _)
  .split
   .split
    .exact .inl (by simp[zer])
    .exact .inl (Nat.le_refl _)
   .repeat' split
    all_goals first|exact .inl (Nat.le_refl _)|(refine .inl ?_;rw[cntC_cl,(Zdq _ _).2.2.2.2.2.1];exact Nat.le_refl _)
def P_cnt{c:CoD}(i:Int)(h:c.P):(cntC c i).P:=by
 refine⟨⟨h.1.1,?_,?_,?_⟩,h.2⟩
 .show heldP (if i=0 then upI c.c0 1 else c.c0)
  split
  .exact Zg6 _ _
  .exact h.1.2.1
 .show heldP (if i=1 then upI c.c1 1 else c.c1)
  split
  .exact Zg6 _ _
  .exact h.1.2.2.1
 .show heldP (if i=2 then upI c.c2 1 else c.c2)
  split
  .exact Zg6 _ _
  .exact h.1.2.2.2
def Ze0(h:heldP j):heldP (hcI i k j):=by
 unfold hcI
 split
 .exact Zg6 _ _
 .exact h
def Zzf{c:CoD}(n:Int)(h:c.his):(hadC c n).his:=by
 unfold hadC
 split
 .obtain⟨a,b,d,e,f,g,i,j,k,l⟩:=h;exact⟨Ze0 a,Ze0 b,Ze0 d,Ze0 e,Ze0 f,Ze0 g,Ze0 i,Ze0 j,Ze0 k,Zg6 _ _⟩
 .exact h
def Zka(n:Nat):Zff (zer n):=λc a=>by
 rw[(List.mem_replicate.1 a).2];exact⟨⟨Vd,Vd⟩,⟨Vd,Vd⟩⟩
def Znu{a w:Int}(h:timP a)(b:1<=w):timP (a/w):=by
 refine⟨Int.ediv_nonneg h.1 Vo,?_⟩;have c:a/w<=a:=Int.ediv_le_self w h.1;have:=h.2;omega
def Zps{a:List (Int×Int)}(h:Zff a)(i:Int)(ok:Bool):Zff (addL a i ok):=by
 intro c b
 rcases List.mem_or_eq_of_mem_set b with b|rfl
 .exact h c b
 .have:heldP (ceAt a i).1/\heldP (ceAt a i).2:=by
   unfold ceAt;rw[List.getD_eq_getElem?_getD]
   cases e:a[i.toNat]? with
   |none=>exact⟨⟨Vd,Vd⟩,⟨Vd,Vd⟩⟩
   |some v=>exact h v (Yn e)
  unfold ceU
  cases ok
  .exact⟨this.1,Zg6 _ _⟩
  .exact⟨Zg6 _ _,this.2⟩
def cells_mv{a:List (Int×Int)}(h:Zff a)(e slot:Int):Zff (mvL e slot a):=by
 intro c b;simp only[mvL,Ya,WD]at b;obtain⟨p,d,rfl⟩:=b
 split
 .exact⟨⟨Vd,Vd⟩,⟨Vd,Vd⟩⟩
 .rw[List.getD_eq_getElem?_getD,List.getElem?_eq_getElem d];exact h _ (List.getElem_mem d)
def win_wad{d:List (Int×Int)}(h:winP b c d)(g:timP i)(ok:Bool):winP b (wadS b c d i ok).1 (wadS b c d i ok).2:=by
 obtain⟨f,a,j,e⟩:=h;refine⟨f,?_,by rw[Zw3];exact j,?_⟩
 .unfold wadS
  split
  .split<;>exact a
  .exact Znu g f.1
 .unfold wadS
  split
  .split
   .exact e
   .exact Zps e _ _
  .exact Zps (cells_mv e _ _) _ _
def Zty(h:bktP i b):bktP i (takeH i b j):=by
 unfold takeH
 split
 .unfold bktP at*;omega
 .exact h
def bkt_put(h:bktP i b):bktP i (putH i b j):=by
 unfold putH
 split
 .unfold bktP at*;omega
 .exact h
def P1{c:CoD}(a:namB c.nm=true)(b:c.cntP)(d:c.ro=1)(h:((0<=c.mo/\c.mo<=2)/\winP c.wd c.sl c.cl)/\c.his/\(c.rm=0/\c.ha=0)):c.P:=⟨⟨a,b⟩,by unfold CoD.roleP;rw[if_pos d];exact h⟩
def P2{c:CoD}(a:namB c.nm=true)(b:c.cntP)(d:c.ro=2)(h:((c.mo=0/\c.bare)/\c.his0)/\bktP c.rm c.ha):c.P:=⟨⟨a,b⟩,by unfold CoD.roleP;rw[if_neg Vo,if_pos d];exact h⟩
def P3{c:CoD}(a:namB c.nm=true)(b:c.cntP)(d:c.ro=3)(h:((0<=c.mo/\c.mo<=2147483647)/\c.bare)/\c.his/\bktP c.rm c.ha):c.P:=⟨⟨a,b⟩,by unfold CoD.roleP;rw[if_neg Vo,if_neg Vo];exact⟨d,h⟩⟩
def tell_P{c:CoD}{e:EvD}(ok:MayOK c e):(tellC c e).P:=by
 have d:=ok.right;obtain⟨A,C,m⟩:=role_of ok;obtain⟨L,_,D,n,_⟩:=chkE_zero ok.chk;have K:=hi_le e.k;have f:=d.1.1;have b:=d.1.2;unfold tellC
 split
 .rename_i l;have g:=ok.cfg l;unfold cfgP at g
  split
  next a=>rw[if_pos a]at g;have q:=Zqs d a;refine P1 f b a ⟨⟨q.1.1,⟨⟨g.1.1.1,by show e.x<=_;omega⟩,Znu n g.1.1.1,?_,Zka _⟩⟩,q.2⟩;simp only[zer,Wh];omega
  .split
   next j a=>rw[if_neg j,if_pos a]at g;have q:=right2 d a;refine P2 f b a ⟨q.1,?_⟩;show bktP e.x e.y;unfold bktP;omega
   .rename_i j J;have a:c.ro=3:=by have:=Zou d;omega
    have q:=Zve d a;refine P3 f b a ⟨q.1,q.2.1,?_⟩;show bktP e.x e.x;unfold bktP;omega
 .split
  next l w=>have a:=A (.inl w);have q:=Zqs d a;obtain⟨e1,e2,o,p,r,s,t,u,v,h,i⟩:=Zdq (winC c e) e.y;refine P_cnt _ (P1 (by rw[e1];exact f) ⟨by rw[v];exact b.1,by rw[h];exact b.2.1,by rw[i];exact b.2.2⟩ (by rw[e2];exact a) ⟨⟨by rw[o];exact q.1.1,?_⟩,Zzf _ q.2.1,by rw[t,u];exact q.2.2⟩);rw[p,r,s];exact win_wad q.1.2 n _
  .split
   .rename_i l w z;have a:=A (.inr z);have q:=Zqs d a;have hx:0<=e.x/\e.x<=2:=by rw[z]at D;simp[lo1,hi1]at D;omega
    split
    .refine P1 f b a ⟨⟨hx,⟨q.1.2.1,Znu n q.1.2.1.1,?_,Zka _⟩⟩,q.2⟩;simp only[zer,Wh];exact q.1.2.2.2.1
    .exact P1 f b a ⟨⟨hx,q.1.2⟩,q.2⟩
   .split
    next E=>have a:=C (.inl E);have q:=right2 d a;exact P_cnt _ (P2 f b a ⟨q.1,Zty q.2⟩)
    .split
     .exact P_cnt _ d
     .split
      next F=>have a:=C (.inr (.inr F));have q:=right2 d a;exact P_cnt _ (P2 f b a ⟨q.1,bkt_put q.2⟩)
      .split
       next G=>have a:=m (.inl G);have q:=Zve d a;exact P_cnt _ (P3 f b a ⟨⟨⟨by show 0<=e.x;omega,by show e.x<=_;omega⟩,q.1.2⟩,q.2.1,Zty q.2.2⟩)
       .split
        next H=>have a:=m (.inr (.inl H));have q:=Zve d a;obtain⟨e1,e2,o,p,r,s,t,u,v,h,i⟩:=Zdq c e.x;refine P_cnt _ (P3 (by rw[e1];exact f) ⟨by rw[v];exact b.1,by rw[h];exact b.2.1,by rw[i];exact b.2.2⟩ (by rw[e2];exact a) ⟨⟨by rw[o];exact q.1.1,?_⟩,Zzf _ q.2.1,by rw[t,u];exact q.2.2⟩);unfold CoD.bare;rw[p,r,s];exact q.1.2
        .have M:=ok.k1;have a:c.ro=3:=m (.inr (.inr Vo));have q:=Zve d a;exact P_cnt _ (P3 f b a ⟨⟨⟨by show(0:Int)<=0;decide,by show(0:Int)<=_;decide⟩,q.1.2⟩,q.2⟩)
theorem Zzg(c:CoD)(e:EvD):(tellC c e).nm=c.nm/\(tellC c e).ro=c.ro:=by
 have a:=λ(d:CoD) (n:Int)=>Zdq d n;unfold tellC
 repeat' split
 all_goals first|exact⟨rfl,rfl⟩|exact⟨(a _ _).1,(a _ _).2.1⟩
end Cmp
namespace Sx
open Go Go.Px Go.Proofs Cmp Tryz
abbrev st3(rows:LL)(s a:Int):SV:=.agg [SL 21 rows,I s,I a]
def SgT:FuncId->Sig:=(λf=>bif Nat.beq f 113 then⟨[],[.own]⟩else bif Nat.beq f 118 then⟨[.own],[.own]⟩else{})
def SvT:TypeId->Sig:=λ_=>{}
def sshort_nf{rows:LL}(h:∃a:Bool->Int->Prop,∃m:Bool->Int->Nat,(a false 0)/\∀b x,(a b x)->ifB (ilt x (rlen rows)) (((0<=x)/\x<(rlen rows))/\∃s r,∃u v,∃w l,∃y z,∃A C,∃D c,∃d e,∃g q,∃t k,∃n o p,(rget rows x=[S s,I r,I u,I v,I w,SL 2 l,I y,I z,I A,I C,I D,I c,I d,I e,I g,I q,I t,I k,I n,I o,I p])/\Cl prog 63 sP ([SV.agg [S s,I r,I u,I v,I w,SL 2 l,I y,I z,I A,I C,I D,I c,I d,I e,I g,I q,I t,I k,I n,I o,I p]]) (λF=>∃E,(F=[B E])/\ifB (bnot E) (Q [B false]) ((Sm (some ([[SL 21 rows,I i,I j]])))/\(a b (wadd .i64 x 1))/\Nl (m b (wadd .i64 x 1)) (m b x)))) (Q [B (ile (rlen rows) 20)])):Ct prog 22 {} [st3 rows i j] Q:=
 fN SgT SvT func22 h
def sright_nf{rows:LL}(h:ifB (bpick (bpick (bpick (bpick (igt (rlen rows) 12) true (ilt i 0)) true (igt i 4294967296)) true (ilt j 0)) true (igt j 1099511627776)) (Q [B false]) (∃a:Bool->Int->Prop,∃m:Bool->Int->Nat,(a false 0)/\∀b x,(a b x)->ifB (ilt x (rlen rows)) (((0<=x)/\x<(rlen rows))/\∃s r,∃u v,∃w l,∃y z,∃A C,∃D c,∃d e,∃g q,∃t k,∃n o p,(rget rows x=[S s,I r,I u,I v,I w,SL 2 l,I y,I z,I A,I C,I D,I c,I d,I e,I g,I q,I t,I k,I n,I o,I p])/\Cl prog 254 sP ([SV.agg [S s,I r,I u,I v,I w,SL 2 l,I y,I z,I A,I C,I D,I c,I d,I e,I g,I q,I t,I k,I n,I o,I p]]) (λrs=>∃E,(rs=[B E])/\ifB (bnot E) (Q [B false]) (ifB (igt x 0) (((0<=(wsub .i64 x 1))/\(wsub .i64 x 1)<(rlen rows))/\∃F G,∃H J,∃K l1,∃L M,∃N O,∃P R,∃T U,∃V W,∃X Y,∃Z a0 a1,(rget rows (wsub .i64 x 1)=[S F,I G,I H,I J,I K,SL 2 l1,I L,I M,I N,I O,I P,I R,I T,I U,I V,I W,I X,I Y,I Z,I a0,I a1])/\ifB (sge F s) (Q [B false]) ((Sm (some ([[SL 21 rows,I i,I j]])))/\(a b (wadd .i64 x 1))/\Nl (m b (wadd .i64 x 1)) (m b x))) ((Sm (some ([[SL 21 rows,I i,I j]])))/\(a b (wadd .i64 x 1))/\Nl (m b (wadd .i64 x 1)) (m b x))))) (Q [B true]))):Ct prog 175 {} [st3 rows i j] Q:=
 fN SgT SvT func175 h
def sfind_nf{rows:LL}(h:Cl prog 183 sP ([SL 21 rows,SV.clo 184 ([SV.ref 0 [S s]])]) (λa=>∃x,(a=[I x])/\Q [I x])):Ct prog 119 {} [st3 rows i j,S s] Q:=
 fN SgT SvT func119 h
theorem sfind1_nf(a:BA)(b c d e:Int)(g:LL)(i j k l m n o p q r t u v w x:Int)(s:BA)(Q:QQ)(h:Q [B (seq a s)]):Ct prog 184 {} [cmp21 a b c d e g i j k l m n o p q r t u v w x,.ref 0 [S s]] Q:=
 fN SgT SvT func184 h
def sindex_nf{rows:LL}{f:FuncId}(h:∃c:Int->Int->Prop,∃m:Int->Int->Nat,(c 0 0)/\∀x a,(c x a)->ifB (ilt a (rlen rows)) (((0<=a)/\a<(rlen rows))/\∃s u,∃v w,∃y l,∃z A,∃t D,∃d e,∃g i,∃j k,∃n o,∃p q r,(rget rows a=[S s,I u,I v,I w,I y,SL 2 l,I z,I A,I t,I D,I d,I e,I g,I i,I j,I k,I n,I o,I p,I q,I r])/\Cl prog f sP ((SV.agg [S s,I u,I v,I w,I y,SL 2 l,I z,I A,I t,I D,I d,I e,I g,I i,I j,I k,I n,I o,I p,I q,I r])::C) (λE=>∃b,(E=[B b])/\ifB b (Q [I a]) (((Option.some []:Option LL)=Option.some [])/\(c x (wadd .i64 a 1))/\Nl (m x (wadd .i64 a 1)) (m x a)))) (Q [I (-1)])):Ct prog 183 {} [SL 21 rows,.clo f C] Q:=
 fN SgT SvT func183 h
def ssame_nf{rows:LL}(h:ifB (bpick (ieq i c) (ieq j k) false) (Cl prog 101 sP ([SL 21 rows,SL 21 l,SV.clo 102 []]) (λe=>∃b,(e=[B b])/\Q [B b])) (Q [B false])):Ct prog 45 {} [st3 rows i j,st3 l c k] Q:=
 fN SgT SvT func45 h
def sequal_nf{rows a:LL}{f:FuncId}(h:ifB (ine (rlen rows) (rlen a)) (Q [B false]) (∃c:Bool->Int->Prop,∃m:Bool->Int->Nat,(c false 0)/\∀b x,(c b x)->ifB (ilt x (rlen rows)) (((0<=x)/\x<(rlen rows))/\∃s P,∃R T,∃U l,∃V W,∃X Y,∃Z d,∃e g,∃i j,∃k n,∃o p q,(rget rows x=[S s,I P,I R,I T,I U,SL 2 l,I V,I W,I X,I Y,I Z,I d,I e,I g,I i,I j,I k,I n,I o,I p,I q])/\((0<=x)/\x<(rlen a))/\∃s1 r,∃t u,∃v l1,∃w y,∃z A,∃O D,∃E F,∃G H,∃J K,∃L M N,(rget a x=[S s1,I r,I t,I u,I v,SL 2 l1,I w,I y,I z,I A,I O,I D,I E,I F,I G,I H,I J,I K,I L,I M,I N])/\Cl prog f sP ((SV.agg [S s,I P,I R,I T,I U,SL 2 l,I V,I W,I X,I Y,I Z,I d,I e,I g,I i,I j,I k,I n,I o,I p,I q])::((SV.agg [S s1,I r,I t,I u,I v,SL 2 l1,I w,I y,I z,I A,I O,I D,I E,I F,I G,I H,I J,I K,I L,I M,I N])::C)) (λrs=>∃b1,(rs=[B b1])/\ifB (bnot b1) (Q [B false]) (((Option.some []:Option LL)=Option.some [])/\(c b (wadd .i64 x 1))/\Nl (m b (wadd .i64 x 1)) (m b x)))) (Q [B true]))):Ct prog 101 {} [SL 21 rows,SL 21 a,.clo f C] Q:=
 fN SgT SvT func101 h
def sclone_nf{rows:LL}(h:∀b,((b=true)->rlen rows=0)->ifB b (Q ([SL 21 []])) (((lsum (rlen []) (rlen rows))<=2147483648)/\Q ([SL 21 (rapp [] rows)]))):Ct prog 113 ⟨[],[.own]⟩ [SL 21 rows] Q:=
 fN SgT SvT func113 h
def sbin_nf{rows:LL}{f:FuncId}(h:∃r:Int->Int->Prop,∃m:Int->Int->Nat,(r 0 (rlen rows))/\∀x a,(r x a)->ifB (ilt x a) (((0:Int)<=1)/\((0<=(wcv .i64 (wshr .u64 (wcv .u64 (wadd .i64 x a)) 1)))/\(wcv .i64 (wshr .u64 (wcv .u64 (wadd .i64 x a)) 1))<(rlen rows))/\∃t u,∃v w,∃y l,∃z A,∃E D,∃b c,∃d e,∃g i,∃j k,∃n o p,(rget rows (wcv .i64 (wshr .u64 (wcv .u64 (wadd .i64 x a)) 1))=[S t,I u,I v,I w,I y,SL 2 l,I z,I A,I E,I D,I b,I c,I d,I e,I g,I i,I j,I k,I n,I o,I p])/\Cl prog f sP ((SV.agg [S t,I u,I v,I w,I y,SL 2 l,I z,I A,I E,I D,I b,I c,I d,I e,I g,I i,I j,I k,I n,I o,I p])::((S s)::C)) (λF=>∃q,(F=[I q])/\ifB (ilt q 0) (((Option.some []:Option LL)=Option.some [])/\(r (wadd .i64 (wcv .i64 (wshr .u64 (wcv .u64 (wadd .i64 x a)) 1)) 1) a)/\Nl (m (wadd .i64 (wcv .i64 (wshr .u64 (wcv .u64 (wadd .i64 x a)) 1)) 1) a) (m x a)) (((Option.some []:Option LL)=Option.some [])/\(r x (wcv .i64 (wshr .u64 (wcv .u64 (wadd .i64 x a)) 1)))/\Nl (m x (wcv .i64 (wshr .u64 (wcv .u64 (wadd .i64 x a)) 1))) (m x a)))) (ifB (ilt x (rlen rows)) (((0<=x)/\x<(rlen rows))/\∃t u,∃v w,∃y l,∃z A,∃E D,∃b c,∃d e,∃g i,∃j k,∃n o p,(rget rows x=[S t,I u,I v,I w,I y,SL 2 l,I z,I A,I E,I D,I b,I c,I d,I e,I g,I i,I j,I k,I n,I o,I p])/\Cl prog f sP ((SV.agg [S t,I u,I v,I w,I y,SL 2 l,I z,I A,I E,I D,I b,I c,I d,I e,I g,I i,I j,I k,I n,I o,I p])::((S s)::C)) (λF=>∃q,(F=[I q])/\Q [I x,B (ieq q 0)])) (Q [I x,B false]))):Ct prog 115 {} [SL 21 rows,S s,.clo f C] Q:=
 fN SgT SvT func115 h
def Zr5(h:Cl prog 180 sP [S s] (λd=>∃b,(d=[B b])/\Cl prog 180 sP [S t] (λc=>∃a,(c=[B a])/\ifB b (ifB a (Q [I 0]) (Q [I (-1)])) (ifB a (Q [I 1]) (ifB (slt s t) (Q [I (-1)]) (ifB (sgt s t) (Q [I 1]) (Q [I 0]))))))):Ct prog 117 {} [S s,S t] Q:=
 fN SgT SvT func117 h
def snan_nf(s:BA)(Q:QQ)(h:Q [B (sne s s)]):Ct prog 180 {} [S s] Q:=
 fN SgT SvT func180 h
def sapp1_nf{d j k g m n o p q r a u v w y:Int}(h:Cl prog 117 sP [S s,S t] (λz=>∃x,(z=[I x])/\Q [I x])):Ct prog 116 {} [cmp21 s b c i e l d j k g m n o p q r a u v w y,S t] Q:=
 fN SgT SvT func116 h
def smay_nf{rows:LL}{x y z:Int}(h:Cl prog 175 sP ([SV.agg [SL 21 rows,I i,I j]]) (λP=>∃a,(P=[B a])/\ifB (bnot a) (Q [I 1]) (Cl prog 176 sP ([SV.agg [I b,I c,I k,S s,I x,I y,I z]]) (λD=>∃C,(D=[I C])/\ifB (ine C 0) (Q [I C]) (Cl prog 119 sP ([SV.agg [SL 21 rows,I i,I j],S s]) (λE=>∃d,(E=[I d])/\ifB (ine b (wadd .i64 i 1)) (Q [I 1]) (ifB (ilt c j) (Q [I 5]) (ifB (bpick (ieq k 1) (ine d ((-1:Int))) false) (Q [I 7]) (ifB (bpick (ieq k 1) (ieq (rlen rows) 12) false) (Q [I 9]) (ifB (ieq k 1) (Q [I 0]) (ifB (ieq d ((-1:Int))) (Q [I 6]) (((0<=d)/\d<(rlen rows))/\∃G H,∃J K,∃L l,∃M N,∃O e,∃g q,∃t m,∃n o,∃p r,∃u v w,(rget rows d=[S G,I H,I J,I K,I L,SL 2 l,I M,I N,I O,I e,I g,I q,I t,I m,I n,I o,I p,I r,I u,I v,I w])/\Cl prog 177 sP ([SV.agg [S G,I H,I J,I K,I L,SL 2 l,I M,I N,I O,I e,I g,I q,I t,I m,I n,I o,I p,I r,I u,I v,I w],SV.agg [I b,I c,I k,S s,I x,I y,I z]]) (λF=>∃A,(F=[I A])/\Q [I A]))))))))))))):Ct prog 112 {} [st3 rows i j,ev7 b c k s x y z] Q:=
 fN SgT SvT func112 h
def sapply_nf{rows:LL}{x y z:Int}(h:Cl prog 112 sP ([SV.agg [SL 21 rows,I i,I j],SV.agg [I b,I c,I k,S s,I x,I y,I z]]) (λrs=>∃x1,(rs=[I x1])/\ifB (ine x1 0) (Q ([SV.agg [SL 21 rows,I i,I j],I x1])) (Cl prog 113 sO [SL 21 rows] (λa1=>∃l,(a1=[SL 21 l])/\ifB (ieq k 1) (Cl prog 114 sP [S s,I x,I c] (λa0=>∃s1 d,∃x3 x4,∃x5 l1,∃x6 x7,∃x8 x9,∃t m,∃n o,∃p r,∃u v,∃w A,∃C g,(a0=[SV.agg [S s1,I d,I x3,I x4,I x5,SL 2 l1,I x6,I x7,I x8,I x9,I t,I m,I n,I o,I p,I r,I u,I v,I w,I A,I C],I g])/\ifB (ine g 0) (Q ([SV.agg [SL 21 rows,I i,I j],I g])) (Cl prog 115 sP ([SL 21 l,S s,SV.clo 116 []]) (λD=>∃e a,(D=[I e,B a])/\Cl prog 118 (Sig.mk [Md.own] [Md.own]) ([SL 21 l,I e,SL 21 ([[S s1,I d,I x3,I x4,I x5,SV.slice 2 l1 0,I x6,I x7,I x8,I x9,I t,I m,I n,I o,I p,I r,I u,I v,I w,I A,I C]])]) (λa2=>∃E,(a2=[SL 21 E])/\Q ([SV.agg [SL 21 E,I b,I c],I 0])))))) (Cl prog 119 sP ([SV.agg [SL 21 rows,I i,I j],S s]) (λa0=>∃d,(a0=[I d])/\((0<=d)/\d<(rlen l))/\((0<=d)/\d<(rlen l))/\∃s1 x3,∃x4 x5,∃x6 l1,∃x7 x8,∃x9 t,∃m n,∃o p,∃r u,∃v w,∃A C g,(rget l d=[S s1,I x3,I x4,I x5,I x6,SL 2 l1,I x7,I x8,I x9,I t,I m,I n,I o,I p,I r,I u,I v,I w,I A,I C,I g])/\(Cl prog 120 sP ([SV.agg [S s1,I x3,I x4,I x5,I x6,SL 2 l1,I x7,I x8,I x9,I t,I m,I n,I o,I p,I r,I u,I v,I w,I A,I C,I g],SV.agg [I b,I c,I k,S s,I x,I y,I z]]) (λD=>∃s2 e,∃F G,∃H E,∃J K,∃L M,∃N O,∃P R,∃T U,∃V W,∃X Y,∃Z q,(D=[SV.agg [S s2,I e,I F,I G,I H,SL 2 E,I J,I K,I L,I M,I N,I O,I P,I R,I T,I U,I V,I W,I X,I Y,I Z],I q])/\ifB (ine q 0) (Q ([SV.agg [SL 21 rows,I i,I j],I q])) (((0<=d)/\d<(rlen l))/\((0<=d)/\d<(rlen l))/\Q ([SV.agg ([SL 21 (rset l d [S s2,I e,I F,I G,I H,SV.slice 2 E 0,I J,I K,I L,I M,I N,I O,I P,I R,I T,I U,I V,I W,I X,I Y,I Z]),I b,I c]),I 0]))))/\Cl prog 120 sP ([SV.agg [S s1,I x3,I x4,I x5,I x6,SL 2 l1,I x7,I x8,I x9,I t,I m,I n,I o,I p,I r,I u,I v,I w,I A,I C,I g],SV.agg [I b,I c,I k,S s,I x,I y,I z]]) (λD=>∃s2 e,∃F G,∃H E,∃J K,∃L M,∃N O,∃P R,∃T U,∃V W,∃X Y,∃Z q,(D=[SV.agg [S s2,I e,I F,I G,I H,SL 2 E,I J,I K,I L,I M,I N,I O,I P,I R,I T,I U,I V,I W,I X,I Y,I Z],I q])/\ifB (ine q 0) (Q ([SV.agg [SL 21 rows,I i,I j],I q])) (((0<=d)/\d<(rlen l))/\((0<=d)/\d<(rlen l))/\Q ([SV.agg ([SL 21 (rset l d [S s2,I e,I F,I G,I H,SV.slice 2 E 0,I J,I K,I L,I M,I N,I O,I P,I R,I T,I U,I V,I W,I X,I Y,I Z]),I b,I c]),I 0]))))))))):Ct prog 53 {} [st3 rows i j,ev7 b c k s x y z] Q:=
 fN SgT SvT func53 h
end Sx
namespace Ins
open Go Go.Px Go.Proofs Tryz
abbrev OO:Sig:=⟨[.own],[.own]⟩
def SgT:FuncId->Sig:=(λf=>bif Nat.beq f 250 then⟨[.own],[.own]⟩else bif Nat.beq f 118 then⟨[.own],[.own]⟩else bif Nat.beq f 331 then⟨[.own],[.own]⟩else{})
def SvT:TypeId->Sig:=λ_=>{}
def Zya{rows:LL}(h:∀x,((rlen rows)<=x)->(x<=9223372036854775807)->((0<=i)/\(i<=j)/\(j<=(rlen rows))/\(rlen rows)<=(isub x 0))/\ifB (ieq i j) (((rlen rows)<=(rlen rows))/\Q [SL 3 (rsub rows 0 (rlen rows))]) ((((0:Int)<=0)/\(0<=i)/\i<=(isub x 0))/\((0<=j)/\(j<=(isub (rlen rows) 0))/\(isub (rlen rows) 0)<=(isub x 0))/\(0<=(isub (rlen rows) (rlen rows)))/\((lsum 0 i)<=(rlen rows))/\(((lsum (lsum 0 i) (rlen (rsub rows (lsum 0 j) (rlen rows))))<=x)->((0<=(isub (lsum (lsum 0 i) (rlen (rsub rows (lsum 0 j) (rlen rows)))) 0))/\((isub (lsum (lsum 0 i) (rlen (rsub rows (lsum 0 j) (rlen rows)))) 0)<=(isub (rlen rows) 0))/\(isub (rlen rows) 0)<=(isub x 0))/\((lsum 0 (isub (lsum (lsum 0 i) (rlen (rsub rows (lsum 0 j) (rlen rows)))) 0))<=(rlen (rput rows (lsum 0 i) (rsub rows (lsum 0 j) (rlen rows)))))/\((lsum (lsum 0 i) (rlen (rsub rows (lsum 0 j) (rlen rows))))<=(rlen (rput (rput rows (lsum 0 i) (rsub rows (lsum 0 j) (rlen rows))) (lsum 0 (isub (lsum (lsum 0 i) (rlen (rsub rows (lsum 0 j) (rlen rows)))) 0)) (rrep (isub (lsum 0 (isub (rlen rows) 0)) (lsum 0 (isub (lsum (lsum 0 i) (rlen (rsub rows (lsum 0 j) (rlen rows)))) 0))) ([S (bA []),SL 1 [],SL 1 []])))))/\Q ([SV.slice 3 (rsub (rput (rput rows (lsum 0 i) (rsub rows (lsum 0 j) (rlen rows))) (lsum 0 (isub (lsum (lsum 0 i) (rlen (rsub rows (lsum 0 j) (rlen rows)))) 0)) (rrep (isub (lsum 0 (isub (rlen rows) 0)) (lsum 0 (isub (lsum (lsum 0 i) (rlen (rsub rows (lsum 0 j) (rlen rows)))) 0))) ([S (bA []),SL 1 [],SL 1 []]))) 0 (lsum (lsum 0 i) (rlen (rsub rows (lsum 0 j) (rlen rows))))) 0]))/\((x<(lsum (lsum 0 i) (rlen (rsub rows (lsum 0 j) (rlen rows)))))->((lsum (isub (lsum 0 i) 0) (rlen (rsub rows (lsum 0 j) (rlen rows))))<=2147483648)/\∀a,((rlen (rapp (rsub rows 0 (lsum 0 i)) (rsub rows (lsum 0 j) (rlen rows))))<=a)->(a<=9223372036854775807)->((0<=(rlen (rapp (rsub rows 0 (lsum 0 i)) (rsub rows (lsum 0 j) (rlen rows)))))/\((rlen (rapp (rsub rows 0 (lsum 0 i)) (rsub rows (lsum 0 j) (rlen rows))))<=(isub (rlen rows) 0))/\(isub (rlen rows) 0)<=(isub a 0))/\((lsum 0 (rlen (rapp (rsub rows 0 (lsum 0 i)) (rsub rows (lsum 0 j) (rlen rows)))))<=(rlen (rapp (rsub rows 0 (lsum 0 i)) (rsub rows (lsum 0 j) (rlen rows)))))/\((rlen (rapp (rsub rows 0 (lsum 0 i)) (rsub rows (lsum 0 j) (rlen rows))))<=(rlen (rput (rapp (rsub rows 0 (lsum 0 i)) (rsub rows (lsum 0 j) (rlen rows))) (lsum 0 (rlen (rapp (rsub rows 0 (lsum 0 i)) (rsub rows (lsum 0 j) (rlen rows))))) (rrep (isub (lsum 0 (isub (rlen rows) 0)) (lsum 0 (rlen (rapp (rsub rows 0 (lsum 0 i)) (rsub rows (lsum 0 j) (rlen rows)))))) ([S (bA []),SL 1 [],SL 1 []])))))/\Q ([SV.slice 3 (rsub (rput (rapp (rsub rows 0 (lsum 0 i)) (rsub rows (lsum 0 j) (rlen rows))) (lsum 0 (rlen (rapp (rsub rows 0 (lsum 0 i)) (rsub rows (lsum 0 j) (rlen rows))))) (rrep (isub (lsum 0 (isub (rlen rows) 0)) (lsum 0 (rlen (rapp (rsub rows 0 (lsum 0 i)) (rsub rows (lsum 0 j) (rlen rows)))))) ([S (bA []),SL 1 [],SL 1 []]))) 0 (rlen (rapp (rsub rows 0 (lsum 0 i)) (rsub rows (lsum 0 j) (rlen rows))))) 0])))):Ct prog 250 ⟨[.own],[.own]⟩ [SL 3 rows,I i,I j] Q:=
 fO SgT SvT (λk=>bif Nat.beq k 3000000 then some ({}:LoopSpec)else none) func250 h
abbrev ZyW(T f g:Nat)(zz:List SV)(rows l:LL)(i:Int)(Q:QQ):Prop:=∀x,((rlen rows)<=x)->(x<=9223372036854775807)->((0<=i)/\(i<=(isub (rlen rows) 0))/\(isub (rlen rows) 0)<=(isub x 0))/\ifB (ieq (rlen l) 0) (((rlen rows)<=(rlen rows))/\Q [SL T (rsub rows 0 (rlen rows))]) (ifB (ieq i (isub (rlen rows) 0)) (((rlen rows)<=(rlen rows))/\(((lsum (rlen rows) (rlen l))<=x)->((lsum (rlen rows) (rlen l))<=(rlen (rput rows (rlen rows) l)))/\Q [SL T (rsub (rput rows (rlen rows) l) 0 (lsum (rlen rows) (rlen l)))])/\((x<(lsum (rlen rows) (rlen l)))->((lsum (isub (rlen rows) 0) (rlen l))<=2147483648)/\Q [SL T (rapp (rsub rows 0 (rlen rows)) l)])) (ifB (igt (wadd .i64 (isub (rlen rows) 0) (rlen l)) (isub x 0)) ((((0:Int)<=0)/\(0<=i)/\i<=(isub x 0))/\(((0<=(wsub .i64 (wadd .i64 (isub (rlen rows) 0) (rlen l)) i))/\(wsub .i64 (wadd .i64 (isub (rlen rows) 0) (rlen l)) i)<=2147483648)/\(x<(lsum (lsum 0 i) (wsub .i64 (wadd .i64 (isub (rlen rows) 0) (rlen l)) i)))/\(lsum (isub (lsum 0 i) 0) (wsub .i64 (wadd .i64 (isub (rlen rows) 0) (rlen l)) i))<=2147483648)/\(((lsum 0 i)<=(rlen rows))->∀a,((lsum (isub (lsum 0 i) 0) (wsub .i64 (wadd .i64 (isub (rlen rows) 0) (rlen l)) i))<=a)->(a<=9223372036854775807)->((0<=i)/\(i<=(isub (lsum (isub (lsum 0 i) 0) (wsub .i64 (wadd .i64 (isub (rlen rows) 0) (rlen l)) i)) 0))/\(isub (lsum (isub (lsum 0 i) 0) (wsub .i64 (wadd .i64 (isub (rlen rows) 0) (rlen l)) i)) 0)<=(isub a 0))/\(((lsum 0 i)<=(rlen (rapp (rsub rows 0 (lsum 0 i)) (rrep (wsub .i64 (wadd .i64 (isub (rlen rows) 0) (rlen l)) i) zz))))/\(rlen l)<=(isub (lsum (isub (lsum 0 i) 0) (wsub .i64 (wadd .i64 (isub (rlen rows) 0) (rlen l)) i)) (lsum 0 i)))/\((0<=(wadd .i64 i (rlen l)))/\((wadd .i64 i (rlen l))<=(isub (lsum (isub (lsum 0 i) 0) (wsub .i64 (wadd .i64 (isub (rlen rows) 0) (rlen l)) i)) 0))/\(isub (lsum (isub (lsum 0 i) 0) (wsub .i64 (wadd .i64 (isub (rlen rows) 0) (rlen l)) i)) 0)<=(isub a 0))/\((0<=i)/\(i<=(isub (rlen rows) 0))/\(isub (rlen rows) 0)<=(isub x 0))/\(((lsum 0 (wadd .i64 i (rlen l)))<=(rlen (rput (rapp (rsub rows 0 (lsum 0 i)) (rrep (wsub .i64 (wadd .i64 (isub (rlen rows) 0) (rlen l)) i) zz)) (lsum 0 i) l)))/\(lsum (lsum 0 i) (imin (isub (rlen rows) (lsum 0 i)) (isub (lsum (isub (lsum 0 i) 0) (wsub .i64 (wadd .i64 (isub (rlen rows) 0) (rlen l)) i)) (lsum 0 (wadd .i64 i (rlen l))))))<=(rlen rows))/\((lsum (isub (lsum 0 i) 0) (wsub .i64 (wadd .i64 (isub (rlen rows) 0) (rlen l)) i))<=(rlen (rput (rput (rapp (rsub rows 0 (lsum 0 i)) (rrep (wsub .i64 (wadd .i64 (isub (rlen rows) 0) (rlen l)) i) zz)) (lsum 0 i) l) (lsum 0 (wadd .i64 i (rlen l))) (rsub rows (lsum 0 i) (lsum (lsum 0 i) (imin (isub (rlen rows) (lsum 0 i)) (isub (lsum (isub (lsum 0 i) 0) (wsub .i64 (wadd .i64 (isub (rlen rows) 0) (rlen l)) i)) (lsum 0 (wadd .i64 i (rlen l))))))))))/\Q ([SV.slice T (rsub (rput (rput (rapp (rsub rows 0 (lsum 0 i)) (rrep (wsub .i64 (wadd .i64 (isub (rlen rows) 0) (rlen l)) i) zz)) (lsum 0 i) l) (lsum 0 (wadd .i64 i (rlen l))) (rsub rows (lsum 0 i) (lsum (lsum 0 i) (imin (isub (rlen rows) (lsum 0 i)) (isub (lsum (isub (lsum 0 i) 0) (wsub .i64 (wadd .i64 (isub (rlen rows) 0) (rlen l)) i)) (lsum 0 (wadd .i64 i (rlen l)))))))) 0 (lsum (isub (lsum 0 i) 0) (wsub .i64 (wadd .i64 (isub (rlen rows) 0) (rlen l)) i))) 0]))/\(((rlen rows)<(lsum 0 i))->∀a,((lsum (isub (lsum 0 i) 0) (wsub .i64 (wadd .i64 (isub (rlen rows) 0) (rlen l)) i))<=a)->(a<=9223372036854775807)->((0<=i)/\(i<=(isub (lsum (isub (lsum 0 i) 0) (wsub .i64 (wadd .i64 (isub (rlen rows) 0) (rlen l)) i)) 0))/\(isub (lsum (isub (lsum 0 i) 0) (wsub .i64 (wadd .i64 (isub (rlen rows) 0) (rlen l)) i)) 0)<=(isub a 0))/\(((lsum 0 i)<=(rlen (rsub rows 0 (rlen rows))))/\(rlen l)<=(isub (lsum (isub (lsum 0 i) 0) (wsub .i64 (wadd .i64 (isub (rlen rows) 0) (rlen l)) i)) (lsum 0 i)))/\((0<=(wadd .i64 i (rlen l)))/\((wadd .i64 i (rlen l))<=(isub (lsum (isub (lsum 0 i) 0) (wsub .i64 (wadd .i64 (isub (rlen rows) 0) (rlen l)) i)) 0))/\(isub (lsum (isub (lsum 0 i) 0) (wsub .i64 (wadd .i64 (isub (rlen rows) 0) (rlen l)) i)) 0)<=(isub a 0))/\((0<=i)/\(i<=(isub (rlen rows) 0))/\(isub (rlen rows) 0)<=(isub x 0))/\(((lsum 0 (wadd .i64 i (rlen l)))<=(rlen (rput (rsub rows 0 (rlen rows)) (lsum 0 i) l)))/\(lsum (lsum 0 i) (imin (isub (rlen rows) (lsum 0 i)) (isub (lsum (isub (lsum 0 i) 0) (wsub .i64 (wadd .i64 (isub (rlen rows) 0) (rlen l)) i)) (lsum 0 (wadd .i64 i (rlen l))))))<=(rlen rows))/\((lsum (isub (lsum 0 i) 0) (wsub .i64 (wadd .i64 (isub (rlen rows) 0) (rlen l)) i))<=(rlen (rput (rput (rsub rows 0 (rlen rows)) (lsum 0 i) l) (lsum 0 (wadd .i64 i (rlen l))) (rsub rows (lsum 0 i) (lsum (lsum 0 i) (imin (isub (rlen rows) (lsum 0 i)) (isub (lsum (isub (lsum 0 i) 0) (wsub .i64 (wadd .i64 (isub (rlen rows) 0) (rlen l)) i)) (lsum 0 (wadd .i64 i (rlen l))))))))))/\Q [SV.slice T (rsub (rput (rput (rsub rows 0 (rlen rows)) (lsum 0 i) l) (lsum 0 (wadd .i64 i (rlen l))) (rsub rows (lsum 0 i) (lsum (lsum 0 i) (imin (isub (rlen rows) (lsum 0 i)) (isub (lsum (isub (lsum 0 i) 0) (wsub .i64 (wadd .i64 (isub (rlen rows) 0) (rlen l)) i)) (lsum 0 (wadd .i64 i (rlen l)))))))) 0 (lsum (isub (lsum 0 i) 0) (wsub .i64 (wadd .i64 (isub (rlen rows) 0) (rlen l)) i))) 0])) ((((0:Int)<=0)/\(0<=(wadd .i64 (isub (rlen rows) 0) (rlen l)))/\(wadd .i64 (isub (rlen rows) 0) (rlen l))<=(isub x 0))/\((0<=(wadd .i64 i (rlen l)))/\((wadd .i64 i (rlen l))<=(isub (lsum 0 (wadd .i64 (isub (rlen rows) 0) (rlen l))) 0))/\(isub (lsum 0 (wadd .i64 (isub (rlen rows) 0) (rlen l))) 0)<=(isub x 0))/\(fovl prog f g)/\ifB (bnot false) (((0<=(wadd .i64 i (rlen l)))/\((wadd .i64 i (rlen l))<=(isub (lsum 0 (wadd .i64 (isub (rlen rows) 0) (rlen l))) 0))/\(isub (lsum 0 (wadd .i64 (isub (rlen rows) 0) (rlen l))) 0)<=(isub x 0))/\((0<=i)/\(i<=(isub (lsum 0 (wadd .i64 (isub (rlen rows) 0) (rlen l))) 0))/\(isub (lsum 0 (wadd .i64 (isub (rlen rows) 0) (rlen l))) 0)<=(isub x 0))/\(((lsum 0 (wadd .i64 i (rlen l)))<=(rlen rows))/\(lsum (lsum 0 i) (imin (isub (lsum 0 (wadd .i64 (isub (rlen rows) 0) (rlen l))) (lsum 0 i)) (isub (lsum 0 (wadd .i64 (isub (rlen rows) 0) (rlen l))) (lsum 0 (wadd .i64 i (rlen l))))))<=(rlen rows))/\((0<=i)/\(i<=(isub (lsum 0 (wadd .i64 (isub (rlen rows) 0) (rlen l))) 0))/\(isub (lsum 0 (wadd .i64 (isub (rlen rows) 0) (rlen l))) 0)<=(isub x 0))/\(((lsum 0 i)<=(rlen (rput rows (lsum 0 (wadd .i64 i (rlen l))) (rsub rows (lsum 0 i) (lsum (lsum 0 i) (imin (isub (lsum 0 (wadd .i64 (isub (rlen rows) 0) (rlen l))) (lsum 0 i)) (isub (lsum 0 (wadd .i64 (isub (rlen rows) 0) (rlen l))) (lsum 0 (wadd .i64 i (rlen l))))))))))/\(rlen l)<=(isub (lsum 0 (wadd .i64 (isub (rlen rows) 0) (rlen l))) (lsum 0 i)))/\((lsum 0 (wadd .i64 (isub (rlen rows) 0) (rlen l)))<=(rlen (rput (rput rows (lsum 0 (wadd .i64 i (rlen l))) (rsub rows (lsum 0 i) (lsum (lsum 0 i) (imin (isub (lsum 0 (wadd .i64 (isub (rlen rows) 0) (rlen l))) (lsum 0 i)) (isub (lsum 0 (wadd .i64 (isub (rlen rows) 0) (rlen l))) (lsum 0 (wadd .i64 i (rlen l)))))))) (lsum 0 i) l)))/\Q [SV.slice T (rsub (rput (rput rows (lsum 0 (wadd .i64 i (rlen l))) (rsub rows (lsum 0 i) (lsum (lsum 0 i) (imin (isub (lsum 0 (wadd .i64 (isub (rlen rows) 0) (rlen l))) (lsum 0 i)) (isub (lsum 0 (wadd .i64 (isub (rlen rows) 0) (rlen l))) (lsum 0 (wadd .i64 i (rlen l)))))))) (lsum 0 i) l) 0 (lsum 0 (wadd .i64 (isub (rlen rows) 0) (rlen l)))) 0]) (((0<=(isub (rlen rows) 0))/\((isub (rlen rows) 0)<=(isub (lsum 0 (wadd .i64 (isub (rlen rows) 0) (rlen l))) 0))/\(isub (lsum 0 (wadd .i64 (isub (rlen rows) 0) (rlen l))) 0)<=(isub x 0))/\(((lsum 0 (isub (rlen rows) 0))<=(rlen rows))/\(rlen l)<=(isub (lsum 0 (wadd .i64 (isub (rlen rows) 0) (rlen l))) (lsum 0 (isub (rlen rows) 0))))/\((0<=i)/\(i<=(isub (lsum 0 (wadd .i64 (isub (rlen rows) 0) (rlen l))) 0))/\(isub (lsum 0 (wadd .i64 (isub (rlen rows) 0) (rlen l))) 0)<=(isub x 0))/\False))))
def Zyb{rows:LL}(h:ZyW 3 362 22 [S (bA []),SL 1 [],SL 1 []] rows l i Q):Ct prog 331 ⟨[.own],[.own]⟩ [SL 3 rows,I i,SL 3 l] Q:=
 fO SgT SvT (λk=>bif Nat.beq k 3000000 then some ({}:LoopSpec)else none) func331 h
def Zyc{rows:LL}(h:ZyW 21 181 31 zC rows l i Q):Ct prog 118 ⟨[.own],[.own]⟩ [SL 21 rows,I i,SL 21 l] Q:=
 fO SgT SvT (λk=>bif Nat.beq k 3000000 then some ({}:LoopSpec)else none) func118 h
def findex_nf{rows:LL}{f:FuncId}(h:∃c:Int->Int->Prop,∃m:Int->Int->Nat,(c 0 0)/\∀x a,(c x a)->ifB (ilt a (rlen rows)) (((0<=a)/\a<(rlen rows))/\∃s l e,(rget rows a=[S s,SL 1 l,SL 1 e])/\Cl prog f sP ((SV.agg [S s,SL 1 l,SL 1 e])::C) (λg=>∃b,(g=[B b])/\ifB b (Q [I a]) (((Option.some []:Option LL)=Option.some [])/\(c x (wadd .i64 a 1))/\Nl (m x (wadd .i64 a 1)) (m x a)))) (Q [I (-1)])):Ct prog 210 {} [SL 3 rows,.clo f C] Q:=
 fN SgT SvT func210 h
def Zsa(a b:Int):isub a b=a-b:=rfl
def Zb5(R Z:LL)(k:Nat)(a:k<=R.length):(rput R k Z).length=k+Z.length+(R.length-(k+Z.length)):=by
 simp[rput];omega
def rput_take(R Z:LL)(k:Nat)(a:k<=R.length):(rput R k Z).take k=R.take k:=by
 simp only[rput,Int.toNat_natCast];rw[List.append_assoc,List.take_append_of_le_length Vm,List.take_take];simp
def Zco(R Z:LL)(k:Nat)(a:k<=R.length):(rput R k Z).take (k+Z.length)=R.take k++Z:=by
 simp only[rput,Int.toNat_natCast];rw[List.take_append_of_le_length Vm];rw[List.take_of_length_le Vm]
def rsub0(R:LL)(k:Nat):rsub R 0 (k:Int)=R.take k:=by simp[rsub]
def rsubE(R:LL)(k:Nat):rsub R (k:Int) (R.length:Int)=R.drop k:=by simp[rsub]
def Zx2(rows:LL)(i j:Nat)(c:i<=j)(e:j<=rows.length):Ct prog 250 OO [SL 3 rows,I i,I j] (λr=>r=[SL 3 (rows.take i++rows.drop j)]):=by
 refine Zya λx hx d=>?_;simp only[rlen_eq,lsum_eq,Zsa,Wr,WQ,Int.sub_self,rsubE]at hx|-;refine⟨⟨Vo,Vo,Vo,Vo⟩,Zaa (λh=>⟨Vo,?_⟩) (λh=>⟨⟨Vo,Vo,Vo⟩,⟨Vo,Vo,Vo⟩,Vo,Vo,λb=>?_,λb=>?_⟩)⟩
 .simp at h;have:i=j:=Vo;subst this;rw[rsub0];simp
 .have e1:((i:Int)+((rows.drop j).length:Int))=((i+(rows.drop j).length:Nat):Int):=Vs;rw[e1]at b|-;have a:i+(rows.drop j).length<=(rput rows i (rows.drop j)).length:=(by rw[Zb5 _ _ _ Vo];omega);refine⟨⟨Vo,Vm,Vo⟩,Vo,?_,?_⟩
  .rw[Zb5 _ _ _ a];omega
  .rw[rsub0,rput_take _ _ _ a,Zco _ _ _ Vo]
 .exfalso;simp at b;omega
def isFil(r:List SV):Prop:=∃s a b,r=[S s,SL 1 a,SL 1 b]
def findex_fn(rows:LL)(f:FuncId)(d:List SV)(p:List SV->Bool)(j:rows.length<=1000000)(k:∀r∈rows,isFil r/\Ct prog f sP (.agg r::d) (λx=>x=[B (p r)])):
  Ct prog 210 sP [SL 3 rows,.clo f d] (λr=>∃x:Int,r=[I x]/\((x= -1/\∀r∈rows,p r=false)\/(0<=x/\x<rows.length/\(∀r∈rows.take x.toNat,p r=false)/\p (rget rows x)=true))):=by
 refine findex_nf ⟨λ_ x=>0<=x/\x<=rows.length/\∀r∈rows.take x.toNat,p r=false,λ_ x=>(rows.length-x).toNat,⟨Vo,Vo,Vs⟩,?_⟩;rintro _ x ⟨h0,h1,hp⟩;refine Zaa (λh=>?_) (λh=>?_)
 .simp at h;have b:x.toNat<rows.length:=Vo;have i:rget rows x=rows[x.toNat]:=(by simp[rget,b]);obtain⟨⟨s,l,m,e⟩,g⟩:=k _ (List.getElem_mem b);rw[e]at g;refine⟨⟨h0,by simpa using h⟩,s,l,m,i.trans e,Cl.of g ⟨_,rfl,Zaa (λc=>?_) (λc=>⟨rfl,?_,?_⟩)⟩⟩
  .exact⟨x,rfl,.inr ⟨h0,h,hp,by rw[i,e];exact c⟩⟩
  .have w:wadd IntKind.i64 x 1=x+1:=Zac;rw[w];refine⟨Vo,Vo,λr a=>?_⟩;rw[show(x+1).toNat=x.toNat+1 by omega,Yq,List.getElem?_eq_getElem b]at a
   rcases List.mem_append.1 a with a|a
   .exact hp r a
   .simp at a;subst a;rw[e];exact c
  .have w:wadd IntKind.i64 x 1=x+1:=Zac;rw[w];show((rows.length:Int)-(x+1)).toNat+1<=((rows.length:Int)-x).toNat;omega
 .simp at h;refine⟨-1,rfl,.inl ⟨rfl,λr a=>hp r ?_⟩⟩;rw[show x.toNat=rows.length by omega,Y7];exact a
def Zyj(rows:LL)(i:Nat)(r:List SV)(j:i<=rows.length)(k:rows.length<=1000000)(l:fovl prog 362 22):
  Ct prog 331 OO [SL 3 rows,I i,SL 3 [r]] (λx=>x=[SL 3 (rows.take i++r::rows.drop i)]):=by
 refine Zyb λx hx u=>?_;have w1:wadd IntKind.i64 (rows.length:Int) 1=rows.length+1:=Zac;have w2:wadd IntKind.i64 (i:Int) 1=i+1:=Zac;have w3:wsub IntKind.i64 ((rows.length:Int)+1) i=rows.length+1-i:=Zap;have e:(([r]:LL).length:Int)=1:=rfl;simp only[rlen_eq,lsum_eq,Zsa,Wr,WQ,e,w1,w2,w3,imin_eq]at hx|-;refine⟨⟨Vo,Vo,Vo⟩,Zaa (λh=>?_) (λ_=>Zaa (λh=>⟨Vo,λb=>⟨?_,?_⟩,λb=>⟨Vo,?_⟩⟩) (λh=>Zaa (λb=>?_) (λb=>?_)))⟩
 .simp at h
 .rw[Zb5 _ _ _ (Nat.le_refl _)];simp
 .simp at h;have h:i=rows.length:=Vo;subst h;rw[show((rows.length:Int)+1)=((rows.length+1:Nat):Int) by simp,rsub0,show rows.length+1=rows.length+[r].length from rfl,Zco _ _ _ (Nat.le_refl _)];simp
 .simp at h;have h:i=rows.length:=Vo;subst h;simp[rapp,rsub]
 .simp at h b;have p:(i:Int)+((rows.length:Int)+1-i)=((rows.length+1:Nat):Int):=Vo;have e1:rrep ((rows.length:Int)+1-i) ([S (bA []),SL 1 [],SL 1 []])=List.replicate (rows.length+1-i) ([S (bA []),SL 1 [],SL 1 []]):=by unfold rrep;congr 1;omega
  have e2:(i:Int)+min ((rows.length:Int)-i) (((rows.length+1:Nat):Int)-((i+1:Nat):Int))=rows.length:=Vo;have c:((i:Int)+1)=((i+1:Nat):Int):=Vs;simp only[p,e1,rsub0,c,e2,rsubE];have f:(rapp (rows.take i) (List.replicate (rows.length+1-i) ([S (bA []),SL 1 [],SL 1 []]))).length=rows.length+1:=(by simp[rapp];omega);have a:(rput (rapp (rows.take i) (List.replicate (rows.length+1-i) ([S (bA []),SL 1 [],SL 1 []]))) i [r]).length=rows.length+1:=(by rw[Zb5 _ _ _ Vo,f];simp;omega);have d:(rput (rput (rapp (rows.take i) (List.replicate (rows.length+1-i) ([S (bA []),SL 1 [],SL 1 []]))) i [r]) ((i+1:Nat):Int) (rows.drop i)).length=rows.length+1:=(by rw[Zb5 _ _ _ Vo,a];simp;omega);refine⟨⟨Vo,Vo,Vo⟩,⟨⟨Vo,Vo⟩,Vo,Vo⟩,λm y v n=>⟨⟨Vo,Vo,Vo⟩,⟨by rw[f];omega,Vo⟩,⟨Vo,Vo,Vo⟩,⟨Vo,Vo,Vo⟩,⟨by rw[a];omega,Vo⟩,by rw[d];omega,?_⟩,λm=>Vo⟩;have g:=Zco (rput (rapp (rows.take i) (List.replicate (rows.length+1-i) ([S (bA []),SL 1 [],SL 1 []]))) i [r]) (rows.drop i) (i+1) (by rw[a];omega);rw[show(i+1)+(rows.drop i).length=rows.length+1 by simp;omega]at g;have q:=Zco (rapp (rows.take i) (List.replicate (rows.length+1-i) ([S (bA []),SL 1 [],SL 1 []]))) [r] i (by rw[f];omega);rw[g,show i+1=i+[r].length from rfl,q];simp[rapp,j]
 .simp at h b;have w:i<rows.length:=Vo;have e2:(i:Int)+min ((rows.length:Int)+1-i) ((rows.length:Int)+1-(i+1))=rows.length:=Vo;have c:((i:Int)+1)=((i+1:Nat):Int):=Vs;have s:((rows.length:Int)+1)=((rows.length+1:Nat):Int):=Vs;simp only[e2,rsubE];have a:(rput rows ((i:Int)+1) (rows.drop i)).length=rows.length+1:=by rw[c,Zb5 _ _ _ Vo];simp;omega
  have d:(rput (rput rows ((i:Int)+1) (rows.drop i)) (i:Int) [r]).length=rows.length+1:=(by rw[Zb5 _ _ _ Vo,a];simp;omega);refine⟨⟨Vo,Vo,Vo⟩,⟨Vo,Vo,Vo⟩,l,Zaa (λ_=>⟨⟨Vo,Vo,Vo⟩,⟨Vo,Vo,Vo⟩,⟨Vo,Vo⟩,⟨Vo,Vo,Vo⟩,⟨by rw[a];omega,Vo⟩,by rw[d];omega,?_⟩) (λo=>by simp at o)⟩;rw[s,rsub0,List.take_of_length_le (by rw[d];exact Nat.le_refl _)];have t:rows.drop (i+1+(rows.drop i).length)=[]:=List.drop_eq_nil_of_le Vm;simp only[rput,c,Int.toNat_natCast,t,List.append_nil];rw[List.take_append_of_le_length Vm,List.take_take,Nat.min_eq_left Vo,Wu Vm,Yt Vm];simp
def cinsert_fn(rows:LL)(i:Nat)(r:List SV)(j:i<=rows.length)(k:rows.length<=1000000)(l:fovl prog 181 31):
  Ct prog 118 OO [SL 21 rows,I i,SL 21 [r]] (λx=>x=[SL 21 (rows.take i++r::rows.drop i)]):=by
 refine Zyc λx hx u=>?_;have w1:wadd IntKind.i64 (rows.length:Int) 1=rows.length+1:=Zac;have w2:wadd IntKind.i64 (i:Int) 1=i+1:=Zac;have w3:wsub IntKind.i64 ((rows.length:Int)+1) i=rows.length+1-i:=Zap;have e:(([r]:LL).length:Int)=1:=rfl;simp only[rlen_eq,lsum_eq,Zsa,Wr,WQ,e,w1,w2,w3,imin_eq]at hx|-;refine⟨⟨Vo,Vo,Vo⟩,Zaa (λh=>?_) (λ_=>Zaa (λh=>⟨Vo,λb=>⟨?_,?_⟩,λb=>⟨Vo,?_⟩⟩) (λh=>Zaa (λb=>?_) (λb=>?_)))⟩
 .simp at h
 .rw[Zb5 _ _ _ (Nat.le_refl _)];simp
 .simp at h;have h:i=rows.length:=Vo;subst h;rw[show((rows.length:Int)+1)=((rows.length+1:Nat):Int) by simp,rsub0,show rows.length+1=rows.length+[r].length from rfl,Zco _ _ _ (Nat.le_refl _)];simp
 .simp at h;have h:i=rows.length:=Vo;subst h;simp[rapp,rsub]
 .simp at h b;have p:(i:Int)+((rows.length:Int)+1-i)=((rows.length+1:Nat):Int):=Vo;have e1:rrep ((rows.length:Int)+1-i) (zC)=List.replicate (rows.length+1-i) (zC):=by unfold rrep;congr 1;omega
  have e2:(i:Int)+min ((rows.length:Int)-i) (((rows.length+1:Nat):Int)-((i+1:Nat):Int))=rows.length:=Vo;have c:((i:Int)+1)=((i+1:Nat):Int):=Vs;simp only[p,e1,rsub0,c,e2,rsubE];have f:(rapp (rows.take i) (List.replicate (rows.length+1-i) (zC))).length=rows.length+1:=(by simp[rapp];omega);have a:(rput (rapp (rows.take i) (List.replicate (rows.length+1-i) (zC))) i [r]).length=rows.length+1:=(by rw[Zb5 _ _ _ Vo,f];simp;omega);have d:(rput (rput (rapp (rows.take i) (List.replicate (rows.length+1-i) (zC))) i [r]) ((i+1:Nat):Int) (rows.drop i)).length=rows.length+1:=(by rw[Zb5 _ _ _ Vo,a];simp;omega);refine⟨⟨Vo,Vo,Vo⟩,⟨⟨Vo,Vo⟩,Vo,Vo⟩,λm y v n=>⟨⟨Vo,Vo,Vo⟩,⟨by rw[f];omega,Vo⟩,⟨Vo,Vo,Vo⟩,⟨Vo,Vo,Vo⟩,⟨by rw[a];omega,Vo⟩,by rw[d];omega,?_⟩,λm=>Vo⟩;have g:=Zco (rput (rapp (rows.take i) (List.replicate (rows.length+1-i) (zC))) i [r]) (rows.drop i) (i+1) (by rw[a];omega);rw[show(i+1)+(rows.drop i).length=rows.length+1 by simp;omega]at g;have q:=Zco (rapp (rows.take i) (List.replicate (rows.length+1-i) (zC))) [r] i (by rw[f];omega);rw[g,show i+1=i+[r].length from rfl,q];simp[rapp,j]
 .simp at h b;have w:i<rows.length:=Vo;have e2:(i:Int)+min ((rows.length:Int)+1-i) ((rows.length:Int)+1-(i+1))=rows.length:=Vo;have c:((i:Int)+1)=((i+1:Nat):Int):=Vs;have s:((rows.length:Int)+1)=((rows.length+1:Nat):Int):=Vs;simp only[e2,rsubE];have a:(rput rows ((i:Int)+1) (rows.drop i)).length=rows.length+1:=by rw[c,Zb5 _ _ _ Vo];simp;omega
  have d:(rput (rput rows ((i:Int)+1) (rows.drop i)) (i:Int) [r]).length=rows.length+1:=(by rw[Zb5 _ _ _ Vo,a];simp;omega);refine⟨⟨Vo,Vo,Vo⟩,⟨Vo,Vo,Vo⟩,l,Zaa (λ_=>⟨⟨Vo,Vo,Vo⟩,⟨Vo,Vo,Vo⟩,⟨Vo,Vo⟩,⟨Vo,Vo,Vo⟩,⟨by rw[a];omega,Vo⟩,by rw[d];omega,?_⟩) (λo=>by simp at o)⟩;rw[s,rsub0,List.take_of_length_le (by rw[d];exact Nat.le_refl _)];have t:rows.drop (i+1+(rows.drop i).length)=[]:=List.drop_eq_nil_of_le Vm;simp only[rput,c,Int.toNat_natCast,t,List.append_nil];rw[List.take_append_of_le_length Vm,List.take_take,Nat.min_eq_left Vo,Wu Vm,Yt Vm];simp
end Ins
namespace Sx
open Go Go.Px Go.Proofs Cmp Tryz
abbrev _root_.Go.Proofs.YtaenkbbfockfgaaGreatDoor.Cmp.CoD.row(c:CoD):List SV:=[S c.nm,I c.ro,I c.mo,I c.wd,I c.sl,SL 2 (cR c.cl),I c.h0,I c.h1,I c.h2,I c.h3,I c.h4,I c.h5,I c.h6,I c.h7,I c.h8,I c.hs,I c.rm,I c.ha,I c.c0,I c.c1,I c.c2]
abbrev coR(l:List CoD):LL:=l.map CoD.row
deriving instance DecidableEq for CoD
structure StD where
 cs:List CoD
 q:Int
 t:Int
deriving DecidableEq
abbrev StD.sv(d:StD):SV:=.agg [SL 21 (coR d.cs),I d.q,I d.t]
def Zuv{c d:CoD}:sameP c d↔c=d:=by
 constructor
 .intro h
  cases c;cases d
  grind [sameP]
 grind [Zys]
def StD.P(d:StD):Prop:=(d.cs.length<=12/\0<=d.q/\d.q<=4294967296/\0<=d.t/\d.t<=1099511627776)/\(∀c∈d.cs,c.P)/\srt CoD.nm d.cs
instance (d:StD):Decidable d.P:=inferInstanceAs (Decidable (_/\_))
def StD.short(d:StD):Prop:=(∀c∈d.cs,c.nm.size<=100/\c.cl.length<=40)/\d.cs.length<=20
instance (d:StD):Decidable d.short:=inferInstanceAs (Decidable (_/\_))
def mayS(d:StD)(e:EvD):Int:=
 if¬d.P then 1 else if chkE e≠0 then chkE e else if e.s≠d.q+1 then 1 else if e.a<d.t then 5
 else if e.k=1 then(if fAt CoD.nm d.cs e.c≠-1 then 7 else if d.cs.length=12 then 9 else 0)
 else if fAt CoD.nm d.cs e.c= -1 then 6 else mayI (d.cs.getD (fAt CoD.nm d.cs e.c).toNat co0) e
def nxtS(d:StD)(e:EvD):CoD:=if e.k=1 then(newC e.c e.x e.a).1 else tellC (d.cs.getD (fAt CoD.nm d.cs e.c).toNat co0) e
def appS(d:StD)(e:EvD):StD×Int:=if mayS d e≠0 then(d,mayS d e)else(⟨withB CoD.nm d.cs (nxtS d e),e.s,e.a⟩,0)
def foldS(d:StD):List EvD->StD×Nat×Int
 | []=>(d,0,0)
 |e::l=>if(appS d e).2≠0 then(d,0,(appS d e).2)else((foldS (appS d e).1 l).1,(foldS (appS d e).1 l).2.1+1,(foldS (appS d e).1 l).2.2)
def adj_srtC{l:List CoD}(h:∀i:Nat,∀a:i<l.length,0<i->nlt (l[i-1]'Vo).nm l[i].nm):srt CoD.nm l:=
 srt_adj λi a=>h (i+1) a Vo
def sshort_fn(d:StD)(k:d.cs.length<=9223372036854775807):Ct prog 22 {} [d.sv] (λr=>r=[B (decide d.short)]):=by
 refine sshort_nf ⟨λ_ x=>∃i:Nat,x=i/\i<=d.cs.length/\∀j:Nat,∀a:j<d.cs.length,j<i->d.cs[j].nm.size<=100/\d.cs[j].cl.length<=40,λ_ x=>d.cs.length-x.toNat,⟨0,rfl,Vo,λj _ a=>Vo⟩,?_⟩;rintro b _ ⟨i,rfl,hi,hall⟩;refine Zaa (λh=>?_) (λh=>?_)
 .have h:i<d.cs.length:=(by simpa using h);rw[waddN _];refine⟨⟨Vo,by simpa using h⟩,_,_,_,_,_,_,_,_,_,_,_,_,_,_,_,_,_,_,_,_,_,Zah _ _ _ h,Cl.of (qshort_fn d.cs[i]) ⟨_,rfl,Zaa (λz=>?_) (λz=>⟨rfl,⟨i+1,rfl,Vo,λj a g=>?_⟩,stepL Vm⟩)⟩⟩
  .have:¬d.short:=λp=>by have:=p.1 _ (List.getElem_mem h);rw[decide_eq_true this]at z;cases z
   simp[this]
  .by_cases e:j=i
   .subst e;simpa using z
   .exact hall j a Vo
 .have h:¬i<d.cs.length:=by simpa using h
  have:d.short↔d.cs.length<=20:=⟨λp=>p.2,λp=>⟨λc f=>by
   obtain⟨j,a,rfl⟩:=List.mem_iff_getElem.1 f
   exact hall j a Vo,p⟩⟩
  simp[this];omega
def Zqd(d:StD):Ct prog 175 {} [d.sv] (λr=>r=[B (decide d.P)]):=by
 have no:¬d.P->[B false]=[B (decide d.P)]:=λh=>by simp[h]
 refine sright_nf (Zaa (λq=>no (λp=>?_)) (λq=>?_))
 .have:=p.1;simp at q;omega
 .simp at q;have u:d.cs.length<=12:=Vo;refine⟨λ_ y=>∃i:Nat,y=i/\i<=d.cs.length/\∀j:Nat,∀g:j<d.cs.length,j<i->d.cs[j].P/\(0<j->nlt (d.cs[j-1]'Vo).nm d.cs[j].nm),λ_ y=>d.cs.length-y.toNat,⟨0,rfl,Vo,λj _ g=>Vo⟩,?_⟩;rintro b _ ⟨i,rfl,hi,hall⟩;refine Zaa (λc=>?_) (λc=>?_)
  .have c:i<d.cs.length:=(by simpa using c);have s:Nl (d.cs.length-((i+1:Nat):Int).toNat) (d.cs.length-((i:Nat):Int).toNat):=stepL Vm
   have o:d.cs[i].P->(0<i->nlt (d.cs[i-1]'Vo).nm d.cs[i].nm)->∃k:Nat,((i+1:Nat):Int)=k/\k<=d.cs.length/\∀j:Nat,∀g:j<d.cs.length,j<k->d.cs[j].P/\(0<j->nlt (d.cs[j-1]'Vo).nm d.cs[j].nm):=λa b=>
    ⟨i+1,rfl,Vo,λj g z=>by
     by_cases e:j=i
     .subst e;exact⟨a,b⟩
     .exact hall j g Vo⟩
   rw[waddN _];refine⟨⟨Vo,by simpa using c⟩,_,_,_,_,_,_,_,_,_,_,_,_,_,_,_,_,_,_,_,_,_,Zah _ _ _ c,Cl.of (Zqw d.cs[i]) ⟨_,rfl,Zaa (λl=>no (λp=>?_)) (λl=>?_)⟩⟩
   .rw[decide_eq_true (p.2.1 _ (List.getElem_mem c))]at l;cases l
   .have l:d.cs[i].P:=(by simpa using l);refine Zaa (λn=>?_) (λn=>?_)
    .have n:0<i:=(by simpa using n);have w:wsub .i64 (i:Int) 1=((i-1:Nat):Int):=(by rw[Zap];omega);rw[w];have hi1:i-1<d.cs.length:=Vo;refine⟨⟨Vo,Vm⟩,_,_,_,_,_,_,_,_,_,_,_,_,_,_,_,_,_,_,_,_,_,Zah _ _ _ hi1,?_⟩;rw[sge_d];refine Zaa (λm=>no (λp=>?_)) (λm=>⟨rfl,o l (λ_=>?_),s⟩)
     .simp at m;exact m (Zlr p.2.2 Vo c)
     .simp at m;exact m
    .simp at n;exact⟨rfl,o l (λ_=>Vo),s⟩
  .have c:¬i<d.cs.length:=(by simpa using c);have v:srt CoD.nm d.cs:=adj_srtC λj g=>(hall j g Vo).2;have x:∀f∈d.cs,f.P:=λf t=>by obtain⟨j,g,rfl⟩:=List.mem_iff_getElem.1 t;exact(hall j g Vo).1
   rw[decide_eq_true (show d.P from⟨⟨u,Vo,Vo,Vo,Vo⟩,x,v⟩)]
def fnd_of{l:List CoD}{s:BA}{i:Nat}(a:i<l.length)(e:l[i].nm=s)(h:∀j (b:j<i),(l[j]'Vo).nm≠s):fAt CoD.nm l s=i:=by
 unfold fAt;rw[Zo4.2 ⟨a,e,h⟩]
def sfind1_fn(c:CoD)(s:BA):Ct prog 184 {} [c.sv,.ref 0 [S s]] (λr=>r=[B (decide (c.nm=s))]):=by
 grind [seq_d,sfind1_nf]
def Zuw(d:StD)(k:d.cs.length<=9223372036854775807)(s:BA):Ct prog 119 {} [d.sv,S s] (λr=>r=[I (fAt CoD.nm d.cs s)]):=by
 have A:Ct prog 183 {} [SL 21 (coR d.cs),.clo 184 [.ref 0 [S s]]] (λr=>r=[I (fAt CoD.nm d.cs s)]):=by
  refine sindex_nf ⟨λ_ x=>∃i:Nat,x=i/\i<=d.cs.length/\∀j:Nat,∀a:j<d.cs.length,j<i->d.cs[j].nm≠s,λ_ x=>d.cs.length-x.toNat,⟨0,rfl,Vo,λj _ a=>Vo⟩,?_⟩;rintro b _ ⟨i,rfl,hi,hall⟩;refine Zaa (λh=>?_) (λh=>?_)
  .have h:i<d.cs.length:=(by simpa using h);refine⟨⟨Vo,by simpa using h⟩,_,_,_,_,_,_,_,_,_,_,_,_,_,_,_,_,_,_,_,_,_,Zah _ _ _ h,Cl.of (sfind1_fn d.cs[i] s) ⟨_,rfl,?_⟩⟩;rw[waddN _];refine Zaa (λz=>?_) (λz=>⟨rfl,⟨i+1,rfl,Vo,λj a g=>?_⟩,stepL Vm⟩)
   .rw[fnd_of h (by simpa using z) (λj a=>hall j Vo a)]
   .by_cases e:j=i
    .subst e;simpa using z
    .exact hall j a Vo
  .have h:¬i<d.cs.length:=by simpa using h
   rw[Zgc.2 (λf c=>by
    obtain⟨j,a,rfl⟩:=List.mem_iff_getElem.1 c
    exact hall j a Vo)]
 exact sfind_nf (Cl.of A ⟨_,rfl,rfl⟩)
def sequal_fn(a b:List CoD)(n:a.length<=9223372036854775807)(k:∀c∈a,c.cl.length<=1000000):Ct prog 101 {} [SL 21 (coR a),SL 21 (coR b),.clo 102 []] (λr=>r=[B (decide (a=b))]):=by
 have no:¬a=b->[B false]=[B (decide (a=b))]:=λh=>by simp[h]
 refine sequal_nf (Zaa (λh=>no (λe=>by subst e;simp at h)) (λh=>?_));have f:a.length=b.length:=by simp at h;omega
 refine⟨λ_ x=>∃i:Nat,x=i/\i<=a.length/\∀j:Nat,∀d:j<a.length,j<i->a[j]=b[j]'Vo,λ_ x=>a.length-x.toNat,⟨0,rfl,Vo,λj _ d=>Vo⟩,?_⟩;rintro _ _ ⟨i,rfl,hi,hall⟩;refine Zaa (λh=>?_) (λh=>?_)
 .have h:i<a.length:=(by simpa using h);have g:i<b.length:=Vo;rw[waddN _];refine⟨⟨Vo,by simpa using h⟩,_,_,_,_,_,_,_,_,_,_,_,_,_,_,_,_,_,_,_,_,_,Zah _ _ _ h,⟨Vo,by simpa using g⟩,_,_,_,_,_,_,_,_,_,_,_,_,_,_,_,_,_,_,_,_,_,Zah _ _ _ g,Cl.of (psame_fn a[i] b[i] (k _ (List.getElem_mem h))) ⟨_,rfl,Zaa (λz=>no (λe=>?_)) (λz=>⟨rfl,⟨i+1,rfl,Vo,λj d m=>?_⟩,stepL Vm⟩)⟩⟩
  .have:sameP a[i] b[i]:=Zuv.2 (by subst e;rfl);rw[decide_eq_true this]at z;cases z
  .by_cases e:j=i
   .subst e;exact Zuv.1 (by simpa using z)
   .exact hall j d Vo
 .have h:¬i<a.length:=(by simpa using h);rw[decide_eq_true (YY f λj l o=>hall j l Vo)]
def ssame_fn(a b:StD)(d:a.cs.length<=9223372036854775807)(f:∀c∈a.cs,c.cl.length<=1000000):Ct prog 45 {} [a.sv,b.sv] (λr=>r=[B (decide (a=b))]):=by
 refine ssame_nf (Zaa (λh=>Cl.of (sequal_fn a.cs b.cs d f) ⟨_,rfl,?_⟩) (λh=>?_))
 .have h:a.q=b.q/\a.t=b.t:=(by simpa using h);refine congrArg (λb=>[B b]) ?_;rw[decide_eq_decide]
  cases a;cases b;simp_all
 .have:¬a=b:=λe=>by subst e;simp at h
  simp[this]
def ovl_comp:fovl prog 181 31:=by
 refine⟨#[4],λx y w=>?_⟩;rw[run_callFunc_extern func181 Vk Vk Vk (e:=Extern.SlicesOverlaps.overlaps #[31,31] #[4]) Vk]
def sclone_fn(l:List CoD)(h:l.length<=2147483648):Ct prog 113 ⟨[],[.own]⟩ [SL 21 (coR l)] (λr=>r=[SL 21 (coR l)]):=by
 refine sclone_nf (λb a=>Zaa (λe=>?_) (λe=>⟨Vm,by simp[rapp]⟩))
 simp_all
def snan_fn(s:BA):Ct prog 180 {} [S s] (λr=>r=[B false]):=by
 simp_all[snan_nf]
def Zr8(s t:BA):Ct prog 117 {} [S s,S t] (λr=>r=[I (if nlt s t then-1 else if nlt t s then 1 else 0)]):=by
 refine Zr5 (Cl.of (snan_fn s) ⟨_,rfl,Cl.of (snan_fn t) ⟨_,rfl,?_⟩⟩)
 grind [slt_d,sgt_d,ifB,slt,ifB_d]
def Zux(c:CoD)(s:BA):Ct prog 116 {} [c.sv,S s] (λr=>r=[I (if nlt c.nm s then-1 else if nlt s c.nm then 1 else 0)]):=
 sapp1_nf (Cl.of (Zr8 _ _) ⟨_,rfl,rfl⟩)
def halfS(h:n+m<=9223372036854775807):wcv .i64 (wshr .u64 (wcv .u64 (wadd .i64 (n:Int) (m:Int))) 1)=(((n+m)/2:Nat):Int):=by
 rw[Zkf _ _ h]
 have e1:wcv .u64 ((n+m:Nat):Int)=((n+m:Nat):Int):=by
  grind [wcv,IntKind.wrap,IntKind.signed,IntKind.bits]
 rw[e1]
 have e2:wshr .u64 ((n+m:Nat):Int) 1=(((n+m)/2:Nat):Int):=by
  grind [wshr,IntKind.bits]
 rw[e2]
 grind [wcv,Zbj]
def sbin_fn(l:List CoD)(f:srt CoD.nm l)(g:l.length<=1000000)(s:BA):Ct prog 115 {} [SL 21 (coR l),S s,.clo 116 []] (λr=>∃b:Bool,r=[I ((ahd CoD.nm l s).length:Nat),B b]):=by
 refine sbin_nf ⟨λx y=>∃i j:Nat,x=i/\y=j/\i<=(ahd CoD.nm l s).length/\(ahd CoD.nm l s).length<=j/\j<=l.length,λx y=>y.toNat-x.toNat,⟨0,l.length,rfl,Vs,Vo,Zo8,Vo⟩,?_⟩;rintro _ _ ⟨i,j,rfl,rfl,h1,h2,h3⟩;refine Zaa (λh=>?_) (λh=>?_)
 .simp at h;rw[halfS Vo];have d:(i+j)/2<l.length:=Vo;refine⟨Vo,⟨Vo,Vm⟩,_,_,_,_,_,_,_,_,_,_,_,_,_,_,_,_,_,_,_,_,_,Zah _ _ _ d,Cl.of (Zux _ s) ⟨_,rfl,Zaa (λa=>⟨rfl,?_,?_⟩) (λa=>⟨rfl,⟨i,(i+j)/2,rfl,rfl,h1,?_,Vo⟩,stepL Vm⟩)⟩⟩
  .rw[waddN _];refine⟨(i+j)/2+1,j,rfl,rfl,?_,h2,h3⟩
   have:nlt l[(i+j)/2].nm s:=by
    refine W5 λc=>?_;rw[if_neg c]at a
    split at a<;>simp at a
   have:=(Zo7 (s:=s) f d).2 this;omega
  .rw[waddN _];exact stepL Vm
  .have c:¬nlt l[(i+j)/2].nm s:=λc=>by rw[if_pos c]at a;simp at a
   have:¬((i+j)/2<(ahd CoD.nm l s).length):=λk=>c ((Zo7 (s:=s) f d).1 k);omega
 .simp at h;have e:i=(ahd CoD.nm l s).length:=Vo;refine Zaa (λa=>?_) (λa=>⟨_,by rw[<-e]⟩);have a:i<l.length:=(by simpa using a);exact⟨⟨Vo,by simpa using a⟩,_,_,_,_,_,_,_,_,_,_,_,_,_,_,_,_,_,_,_,_,_,Zah _ _ _ a,Cl.of (Zux _ s) ⟨_,rfl,_,by rw[<-e]⟩⟩
theorem Zir{l:List CoD}(h:n<l.length):l.getD ((n:Nat):Int).toNat co0=l[n]:=by simp[h]
def smay_fn(d:StD)(p:d.cs.length<=1000000)(e:EvD):Ct prog 112 {} [d.sv,e.sv] (λr=>r=[I (mayS d e)]):=by
 refine smay_nf (Cl.of (Zqd d) ⟨_,rfl,Zaa (λh=>?_) (λh=>?_)⟩)
 .simp_all[mayS]
 have m:d.P:=(by simpa using h);refine Cl.of (Znx e.s e.a e.k e.c e.x e.y e.z) ⟨_,rfl,Zaa (λh=>?_) (λh=>?_)⟩
 .simp_all[chkE,mayS]
 have n:chkE e=0:=(by simp_all[chkE]);have t:=m.1.2.2.1;have o:=m.1.2.1;have w:wadd .i64 d.q 1=d.q+1:=Zac;unfold mayS;rw[if_neg (by simp[m]),if_neg (by simp[n])];refine Cl.of (Zuw d Vo e.c) ⟨_,rfl,?_⟩;rw[w];refine Zaa (λh=>?_) (λh=>?_)
 .rw[if_pos (by simpa using h)]
 rw[if_neg (by simpa using h)];refine Zaa (λh=>?_) (λh=>?_)
 .rw[if_pos (by simpa using h)]
 rw[if_neg (by simpa using h)];refine Zaa (λh=>?_) (λb=>?_)
 .have h:e.k=1/\¬fAt CoD.nm d.cs e.c= -1:=(by simpa using h);rw[if_pos h.1,if_pos h.2]
 refine Zaa (λh=>?_) (λg=>?_)
 .have h:e.k=1/\d.cs.length=12:=(by simp at h;omega);have b:e.k=1->fAt CoD.nm d.cs e.c= -1:=(by simpa using b);rw[if_pos h.1,if_neg (by simp[b h.1]),if_pos h.2]
 refine Zaa (λh=>?_) (λj=>?_)
 .have h:e.k=1:=(by simpa using h);have b:e.k=1->fAt CoD.nm d.cs e.c= -1:=(by simpa using b);have g:e.k=1->¬d.cs.length=12:=(by simp at g;omega);rw[if_pos h,if_neg (by simp[b h]),if_neg (g h)]
 have j:¬e.k=1:=(by simpa using j);rw[if_neg j];refine Zaa (λh=>?_) (λf=>?_)
 .rw[if_pos (by simpa using h)]
 have f:¬fAt CoD.nm d.cs e.c= -1:=(by simpa using f);rw[if_neg f]
 rcases Zlq (nm:=CoD.nm) (l:=d.cs) (s:=e.c)with h|⟨i,hi,h5,_,_⟩
 .exact absurd h f
 rw[h5,Zir hi];exact⟨⟨Vo,by simpa using hi⟩,_,_,_,_,_,_,_,_,_,_,_,_,_,_,_,_,_,_,_,_,_,Zah _ _ _ hi,Cl.of (pmay_fn d.cs[i] e) ⟨_,rfl,rfl⟩⟩
structure MayS(d:StD)(e:EvD):Prop where
 p:d.P
 chk:chkE e=0
 sq:e.s=d.q+1
 tm:d.t<=e.a
 new:e.k=1->fAt CoD.nm d.cs e.c= -1/\d.cs.length<12
 old:e.k≠1->∃i:Nat,∃h:i<d.cs.length,fAt CoD.nm d.cs e.c=i/\d.cs[i].nm=e.c/\mayI d.cs[i] e=0
def Zhu{d:StD}{e:EvD}(h:mayS d e=0):MayS d e:=by
 unfold mayS at h;by_cases hp:d.P
 case neg=>rw[if_pos hp]at h;cases h
 rw[if_neg (by simp[hp])]at h;by_cases hc:chkE e=0
 case neg=>rw[if_pos hc]at h;exact absurd h hc
 rw[if_neg (by simp[hc])]at h;by_cases hs:e.s=d.q+1
 case neg=>rw[if_pos hs]at h;cases h
 rw[if_neg (by simp[hs])]at h;by_cases ht:e.a<d.t
 .rw[if_pos ht]at h;cases h
 rw[if_neg ht]at h;refine⟨hp,hc,hs,Vo,λb=>?_,λb=>?_⟩
 .rw[if_pos b]at h;have f:=hp.1.1;by_cases hf:fAt CoD.nm d.cs e.c= -1
  case neg=>rw[if_pos hf]at h;cases h
  rw[if_neg (by simp[hf])]at h;by_cases h12:d.cs.length=12
  .rw[if_pos h12]at h;cases h
  .exact⟨hf,Vo⟩
 .rw[if_neg b]at h
  rcases Zlq (nm:=CoD.nm) (l:=d.cs) (s:=e.c)with h5|⟨i,hi,h5,h6,_⟩
  .rw[if_pos h5]at h;cases h
  .rw[if_neg Vo,h5,Zir hi]at h;exact⟨i,hi,h5,h6,h⟩
theorem new_ok{d:StD}{e:EvD}(m:MayS d e)(b:e.k=1):(newC e.c e.x e.a).2=0/\(newC e.c e.x e.a).1.nm=e.c:=by
 obtain⟨_,f,g,h,_⟩:=chkE_zero m.chk
 grind [lo1,hi1,namB,newC]
def nxt_nm{d:StD}{e:EvD}(m:MayS d e):(nxtS d e).nm=e.c:=by
 unfold nxtS;by_cases hk:e.k=1
 .grind [new_ok]
 .rw[if_neg hk];obtain⟨i,a,b,f,_⟩:=m.old hk
  grind [Zir,Zzg]
def Zqe(d:StD)(O:d.cs.length<=1000000)(e:EvD):Ct prog 53 {} [d.sv,e.sv] (λr=>r=[(appS d e).1.sv,I (appS d e).2]):=by
 refine sapply_nf (Cl.of (smay_fn d O e) ⟨_,rfl,Zaa (λh=>?_) (λh=>?_)⟩)
 .have h:mayS d e≠0:=(by simpa using h);unfold appS;rw[if_pos h]
 have h:mayS d e=0:=(by simpa using h);have m:=Zhu h;have Y:appS d e=(⟨withB CoD.nm d.cs (nxtS d e),e.s,e.a⟩,0):=(by unfold appS;rw[if_neg (by simp[h])]);rw[Y];refine Cl.of (sclone_fn d.cs Vo) ⟨_,rfl,Zaa (λf=>?_) (λf=>?_)⟩
 .have f:e.k=1:=(by simpa using f);obtain⟨W,R⟩:=new_ok m f;have Z:=(m.new f).1;have hno:∀g∈d.cs,g.nm≠e.c:=Zgc.1 Z;refine Cl.of (pnew_fn e.c e.x e.a) ⟨_,_,_,_,_,_,_,_,_,_,_,_,_,_,_,_,_,_,_,_,_,_,rfl,Zaa (λz=>by simp[W]at z) (λ_=>Cl.ofQ (sbin_fn d.cs m.p.2.2 O e.c) ?_)⟩;rintro _ ⟨b,rfl⟩;refine⟨_,_,rfl,Cl.of (Ins.cinsert_fn (coR d.cs) (ahd CoD.nm d.cs e.c).length (newC e.c e.x e.a).1.row (by simpa using Zo8) (by simpa using O) ovl_comp) ⟨_,rfl,?_⟩⟩;have:withB CoD.nm d.cs (nxtS d e)=d.cs.take (ahd CoD.nm d.cs e.c).length++(newC e.c e.x e.a).1::d.cs.drop (ahd CoD.nm d.cs e.c).length:=(by unfold nxtS;rw[if_pos f,Zer (by rw[R];exact hno),insB_at,R]);rw[this];simp[List.map_take,List.map_drop]
 .have f:¬e.k=1:=(by simpa using f);obtain⟨i,l,T,h2,X⟩:=m.old f
  have n:(0:Int)<=(i:Nat)/\((i:Nat):Int)<rlen (coR d.cs):=⟨Vo,by simpa using l⟩
  have et:tellR d.cs[i] e=[(tellC d.cs[i] e).sv,I 0]:=(by unfold tellR;rw[if_pos X]);have U:=ptell_fn d.cs[i] e;rw[et]at U;have es:rset (coR d.cs) (i:Nat) (tellC d.cs[i] e).row=coR (withB CoD.nm d.cs (nxtS d e)):=(by have:nxtS d e=tellC d.cs[i] e:=(by unfold nxtS;rw[if_neg f,T,Zir l]);rw[Zt9,Zh6 m.p.2.2 l (Zzg _ _).1,this]);refine Cl.of (Zuw d Vo e.c) ⟨_,rfl,?_⟩;rw[T];have k:Cl prog 120 sP [d.cs[i].sv,e.sv] (λV=>∃P o q t u Q v w y A C D E F G H J K L M N j,(V=[.agg [S P,I o,I q,I t,I u,SL 2 Q,I v,I w,I y,I A,I C,I D,I E,I F,I G,I H,I J,I K,I L,I M,I N],I j])/\ifB (ine j 0) ([d.sv,I j]=[StD.sv ⟨withB CoD.nm d.cs (nxtS d e),e.s,e.a⟩,I 0]) (((0:Int)<=(i:Nat)/\((i:Nat):Int)<rlen (coR d.cs))/\((0:Int)<=(i:Nat)/\((i:Nat):Int)<rlen (coR d.cs))/\[.agg [SL 21 (rset (coR d.cs) (i:Nat) [S P,I o,I q,I t,I u,SL 2 Q,I v,I w,I y,I A,I C,I D,I E,I F,I G,I H,I J,I K,I L,I M,I N]),I e.s,I e.a],I 0]=[StD.sv ⟨withB CoD.nm d.cs (nxtS d e),e.s,e.a⟩,I 0])):=(by refine Cl.of U ⟨_,_,_,_,_,_,_,_,_,_,_,_,_,_,_,_,_,_,_,_,_,_,rfl,Zaa (λz=>by simp at z) (λ_=>⟨n,n,?_⟩)⟩;exact congrArg (λz=>[SV.agg [SL 21 z,I e.s,I e.a],I 0]) es);exact⟨n,n,_,_,_,_,_,_,_,_,_,_,_,_,_,_,_,_,_,_,_,_,_,Zah _ _ _ l,k,k⟩
def lim(d:StD):Prop:=d.cs.length<=20/\∀c∈d.cs,c.cl.length<=40
instance (d:StD):Decidable (lim d):=inferInstanceAs (Decidable (_/\_))
def new_cl(b:BA)(c a:Int):(newC b c a).1.cl.length<=40:=by
 unfold newC
 repeat' split
 all_goals simp[co0]
def nxt_cl{d:StD}{e:EvD}(h:lim d)(m:MayS d e):(nxtS d e).cl.length<=40:=by
 unfold nxtS;by_cases hk:e.k=1
 .rw[if_pos hk];exact new_cl _ _ _
 .rw[if_neg hk];obtain⟨i,a,b,f,c⟩:=m.old hk;rw[b,Zir a];have:=h.2 _ (List.getElem_mem a)
  rcases tell_cl (Zot.1 c)with h4|h4<;>omega
def nxt_len{d:StD}{e:EvD}(m:MayS d e):(withB CoD.nm d.cs (nxtS d e)).length=d.cs.length+(if e.k=1 then 1 else 0):=by
 have a:=nxt_nm m;by_cases hk:e.k=1
 .rw[if_pos hk,Zer (by rw[a];exact Zgc.1 (m.new hk).1),Zv2]
 .rw[if_neg hk];obtain⟨i,b,f,c,g⟩:=m.old hk;rw[Zc7 m.p.2.2 b (by rw[a,c])];rfl
def Zuh{d:StD}{e:EvD}(h:(appS d e).2=0):mayS d e=0/\appS d e=(⟨withB CoD.nm d.cs (nxtS d e),e.s,e.a⟩,0):=by
 unfold appS at h|-;by_cases hm:mayS d e=0
 .exact⟨hm,by rw[if_neg (by simp[hm])]⟩
 .rw[if_pos hm]at h;exact absurd h hm
def app_err{d:StD}{e:EvD}(h:(appS d e).2≠0):appS d e=(d,mayS d e):=by
 unfold appS at h|-;by_cases hm:mayS d e=0
 .rw[if_neg (by simp[hm])]at h;exact absurd rfl h
 .rw[if_pos hm]
def lim_app{d:StD}(h:lim d)(e:EvD):lim (appS d e).1:=by
 by_cases h0:(appS d e).2=0
 .obtain⟨b,f⟩:=Zuh h0;have m:=Zhu b;rw[f];refine⟨?_,λc a=>?_⟩
  .show(withB CoD.nm d.cs (nxtS d e)).length<=20;rw[nxt_len m];have:=m.p.1.1
   split<;>omega
  .rcases Zeq.1 a with rfl|⟨a,_⟩
   .exact nxt_cl h m
   .exact h.2 c a
 .rw[app_err h0];exact h
def fold_cons(d:StD)(e:EvD)(l:List EvD):foldS d (e::l)=if(appS d e).2≠0 then(d,0,(appS d e).2)else((foldS (appS d e).1 l).1,(foldS (appS d e).1 l).2.1+1,(foldS (appS d e).1 l).2.2):=rfl
def goes(d:StD)(l:List EvD)(i:Nat)(a:StD):Prop:=foldS d l=((foldS a (l.drop i)).1,i+(foldS a (l.drop i)).2.1,(foldS a (l.drop i)).2.2)
end Sx
namespace Sgr
open Go Go.Px Go.Proofs Cod Seg Tryz
abbrev ev7(s a k:Int)(c:BA)(x y z:Int):SV:=.agg [I s,I a,I k,S c,I x,I y,I z]
abbrev cx3(s a:Int)(b:LL):SV:=.agg [I s,I a,SL 1 b]
abbrev sc10(num bs b:Int)(c ev:LL)(a d:Int)(e:LL)(f g:Int):SV:=.agg [I num,I bs,I b,SL 1 c,SL 7 ev,I a,I d,SL 1 e,I f,I g]
abbrev U32(n:Int):SV:=SV.int .u32 n
def SgT:FuncId->Sig:=(λf=>bif Nat.beq f 124 then⟨[],[.own,.pure]⟩else bif Nat.beq f 300 then⟨[],[.own]⟩else bif Nat.beq f 233 then⟨[],[.own]⟩else bif Nat.beq f 192 then⟨[],[.own,.pure]⟩else bif Nat.beq f 194 then⟨[],[.own]⟩else bif Nat.beq f 91 then⟨[],[.own]⟩else bif Nat.beq f 297 then⟨[],[.own]⟩else bif Nat.beq f 138 then⟨[.lend [false,false,false,false,true,false,false,false,false,false,false]],[]⟩else bif Nat.beq f 139 then⟨[.lend [false,false,false,false,true,false,false,false,false,false,false]],[]⟩else bif Nat.beq f 271 then⟨[],[.own]⟩else bif Nat.beq f 293 then⟨[],[.own]⟩else bif Nat.beq f 70 then⟨[],[.own]⟩else bif Nat.beq f 224 then⟨[],[.own]⟩else bif Nat.beq f 158 then⟨[],[.own]⟩else bif Nat.beq f 221 then⟨[.lend [false,false,false,false,true,false,false,false,false,false,false]],[]⟩else bif Nat.beq f 222 then⟨[.lend [false,false,false,false,true,false,false,false,false,false,false]],[]⟩else bif Nat.beq f 140 then⟨[],[.own]⟩else bif Nat.beq f 94 then⟨[],[.own]⟩else bif Nat.beq f 325 then⟨[],[.own]⟩else bif Nat.beq f 326 then⟨[],[.own]⟩else{})
def SvT:TypeId->Sig:=(λf=>{})
def sname_nf(h:Cl prog 134 sP [I i] (λe=>∃b,(e=[B b])/\ifB (bnot b) (Q ([S (bA [])])) (Cl prog 135 sP [I i,I 10] (λc=>∃s,(c=[S s])/\Cl prog 136 sP ([S (bA [48]),I (wsub .i64 8 (slen s))]) (λd=>∃a,(d=[S a])/\((lsum (slen (bA [115,101,103,46])) (slen a))<=9223372036854775807)/\((lsum (slen (scat (bA [115,101,103,46]) a)) (slen s))<=9223372036854775807)/\Q ([S (scat (scat (bA [115,101,103,46]) a) s)])))))):Ct prog 68 {} [I i] Q:=
 fN SgT SvT func68 h
end Sgr
end Go.Proofs.YtaenkbbfockfgaaGreatDoor
namespace Go.Proofs
open Go.Shelf
def Tryz.laysM173_ren:Go.Shelf.Ren:=⟨λ|173=>135|246=>213|283=>281|284=>282|285=>283|286=>284|129=>334|317=>333|318=>335|319=>336|320=>337|337=>364|338=>365|n=>n,λ|2=>2|3=>3|9=>9|4=>4|171=>364|0=>0|53=>147|37=>124|5=>5|173=>367|212=>413|51=>148|20=>20|213=>414|46=>157|232=>448|233=>449|n=>n,λ|17=>1|18=>4|19=>5|n=>n⟩
def Tryz.laysM173:Go.Proofs.LaysM.n173 prog Tryz.laysM173_ren:={
 mixed:=Vk
 f129:=func334.trans (congrArg some Vk)
 f173:=func135.trans (congrArg some Vk)
 f246:=func213.trans (congrArg some Vk)
 f283:=func281.trans (congrArg some Vk)
 f284:=func282.trans (congrArg some Vk)
 f285:=func283.trans (congrArg some Vk)
 f286:=func284.trans (congrArg some Vk)
 f317:=func333.trans (congrArg some Vk)
 f318:=func335.trans (congrArg some Vk)
 f319:=func336.trans (congrArg some Vk)
 f320:=func337.trans (congrArg some Vk)
 f337:=func364.trans (congrArg some Vk)
 f338:=func365.trans (congrArg some Vk)
 t0:=Tryz.underlying0
 a0:=Tryz.isAgg0
 z0:=Tryz.sizeOf0
 v0:=Tryz.zeroValue0
 t2:=Tryz.underlying2
 a2:=Tryz.isAgg2
 z2:=Tryz.sizeOf2
 v2:=Tryz.zeroValue2
 t3:=Tryz.underlying3
 a3:=Tryz.isAgg3
 z3:=Tryz.sizeOf3
 v3:=Tryz.zeroValue3
 t4:=Tryz.underlying4
 a4:=Tryz.isAgg4
 z4:=Tryz.sizeOf4
 v4:=Tryz.zeroValue4
 t5:=Tryz.underlying5
 a5:=Tryz.isAgg5
 z5:=Tryz.sizeOf5
 v5:=Tryz.zeroValue5
 t9:=Tryz.underlying9
 a9:=Tryz.isAgg9
 z9:=Tryz.sizeOf9
 v9:=Tryz.zeroValue9
 t20:=Tryz.underlying20
 a20:=Tryz.isAgg20
 z20:=Tryz.sizeOf20
 v20:=Tryz.zeroValue20
 t37:=Tryz.underlying124
 a37:=Tryz.isAgg124
 z37:=Tryz.sizeOf124
 v37:=Tryz.zeroValue124
 t46:=Tryz.underlying157
 a46:=Tryz.isAgg157
 z46:=Tryz.sizeOf157
 v46:=Tryz.zeroValue157
 t51:=Tryz.underlying148
 a51:=Tryz.isAgg148
 z51:=Tryz.sizeOf148
 v51:=Tryz.zeroValue148
 t53:=Tryz.underlying147
 a53:=Tryz.isAgg147
 z53:=Tryz.sizeOf147
 v53:=Tryz.zeroValue147
 t171:=Tryz.underlying364
 a171:=Tryz.isAgg364
 z171:=Tryz.sizeOf364
 v171:=Tryz.zeroValue364
 t173:=Tryz.underlying367
 a173:=Tryz.isAgg367
 z173:=Tryz.sizeOf367
 v173:=Tryz.zeroValue367
 t212:=Tryz.underlying413
 a212:=Tryz.isAgg413
 z212:=Tryz.sizeOf413
 v212:=Tryz.zeroValue413
 t213:=Tryz.underlying414
 a213:=Tryz.isAgg414
 z213:=Tryz.sizeOf414
 t232:=Tryz.underlying448
 a232:=Tryz.isAgg448
 z232:=Tryz.sizeOf448
 v232:=Tryz.zeroValue448
 t233:=Tryz.underlying449
 a233:=Tryz.isAgg449
 z233:=Tryz.sizeOf449
 v233:=Tryz.zeroValue449
 g17:=Vk
 g18:=Vk
 g19:=Vk
 i0:=Vk
 i2:=Vk
 i3:=Vk
 i4:=Vk
 i5:=Vk
 i9:=Vk
 i20:=Vk
 i37:=Vk
 i46:=Vk
 i51:=Vk
 i53:=Vk
 i171:=Vk
 i173:=Vk
 i212:=Vk
 i232:=Vk
 i233:=Vk
 m17:=Vk
 m18:=Vk
 m19:=by kernel_rfl}
def Tryz.lays105_ren:Go.Shelf.Ren:=⟨λ|105=>136|212=>214|99=>215|165=>216|166=>217|170=>218|169=>75|263=>285|264=>286|206=>287|240=>225|241=>288|276=>291|277=>338|n=>n,λ|9=>9|3=>3|4=>4|20=>20|0=>0|46=>157|109=>304|5=>5|72=>155|76=>308|51=>148|146=>369|53=>147|148=>371|70=>153|37=>124|75=>245|127=>247|164=>376|80=>158|n=>n,λ|n=>n⟩
def Tryz.lays105:Go.Proofs.Lays.n105 prog Tryz.lays105_ren:={
 mixed:=Vk
 f99:=func215.trans (congrArg some Vk)
 f105:=func136.trans (congrArg some Vk)
 f165:=func216.trans (congrArg some Vk)
 f166:=func217.trans (congrArg some Vk)
 f169:=func75.trans (congrArg some Vk)
 f170:=func218.trans (congrArg some Vk)
 f206:=func287.trans (congrArg some Vk)
 f212:=func214.trans (congrArg some Vk)
 f240:=func225.trans (congrArg some Vk)
 f241:=func288.trans (congrArg some Vk)
 f263:=func285.trans (congrArg some Vk)
 f264:=func286.trans (congrArg some Vk)
 f276:=func291.trans (congrArg some Vk)
 f277:=func338.trans (congrArg some Vk)
 t0:=Tryz.underlying0
 a0:=Tryz.isAgg0
 z0:=Tryz.sizeOf0
 v0:=Tryz.zeroValue0
 t3:=Tryz.underlying3
 a3:=Tryz.isAgg3
 z3:=Tryz.sizeOf3
 v3:=Tryz.zeroValue3
 t4:=Tryz.underlying4
 a4:=Tryz.isAgg4
 z4:=Tryz.sizeOf4
 v4:=Tryz.zeroValue4
 t5:=Tryz.underlying5
 a5:=Tryz.isAgg5
 z5:=Tryz.sizeOf5
 v5:=Tryz.zeroValue5
 t9:=Tryz.underlying9
 a9:=Tryz.isAgg9
 z9:=Tryz.sizeOf9
 v9:=Tryz.zeroValue9
 t20:=Tryz.underlying20
 a20:=Tryz.isAgg20
 z20:=Tryz.sizeOf20
 v20:=Tryz.zeroValue20
 t37:=Tryz.underlying124
 a37:=Tryz.isAgg124
 z37:=Tryz.sizeOf124
 v37:=Tryz.zeroValue124
 t46:=Tryz.underlying157
 a46:=Tryz.isAgg157
 z46:=Tryz.sizeOf157
 v46:=Tryz.zeroValue157
 t51:=Tryz.underlying148
 a51:=Tryz.isAgg148
 z51:=Tryz.sizeOf148
 v51:=Tryz.zeroValue148
 t53:=Tryz.underlying147
 a53:=Tryz.isAgg147
 z53:=Tryz.sizeOf147
 v53:=Tryz.zeroValue147
 t70:=Tryz.underlying153
 a70:=Tryz.isAgg153
 z70:=Tryz.sizeOf153
 v70:=Tryz.zeroValue153
 t72:=Tryz.underlying155
 a72:=Tryz.isAgg155
 z72:=Tryz.sizeOf155
 v72:=Tryz.zeroValue155
 t75:=Tryz.underlying245
 a75:=Tryz.isAgg245
 z75:=Tryz.sizeOf245
 v75:=Tryz.zeroValue245
 t76:=Tryz.underlying308
 a76:=Tryz.isAgg308
 z76:=Tryz.sizeOf308
 v76:=Tryz.zeroValue308
 t109:=Tryz.underlying304
 a109:=Tryz.isAgg304
 z109:=Tryz.sizeOf304
 v109:=Tryz.zeroValue304
 t127:=Tryz.underlying247
 a127:=Tryz.isAgg247
 z127:=Tryz.sizeOf247
 v127:=Tryz.zeroValue247
 t146:=Tryz.underlying369
 a146:=Tryz.isAgg369
 z146:=Tryz.sizeOf369
 v146:=Tryz.zeroValue369
 t148:=Tryz.underlying371
 a148:=Tryz.isAgg371
 z148:=Tryz.sizeOf371
 v148:=Tryz.zeroValue371
 t164:=Tryz.underlying376
 a164:=Tryz.isAgg376
 z164:=Tryz.sizeOf376
 v164:=Tryz.zeroValue376}
def Tryz.Builder_Extra_105:Builder.Extra prog Tryz.lays105_ren:={
 sizeBuilder:=Vk
 liesBuilder:=Vk
 t5:=Tryz.underlying5
 a5:=Tryz.isAgg5
 z5:=Tryz.sizeOf5
 v5:=Tryz.zeroValue5
 infoByte:=Vk
 cellsByte:=Vk
 sizeByte:=Vk
 neB5:=by decide}
end Go.Proofs
namespace Go.Proofs.YtaenkbbfockfgaaGreatDoor
namespace Seg
open Go Go.Px Go.Proofs Go.RowKit Tryz
def tab_is{h:Hp}{w:World}(l:HSub h w)(g:Gl h w){e:String}(m:prog.globalNamed e=some 1):Lib.TabIs prog w e .u64 Lib.pow10Tab:=by
 have k:(1,pow10)∈Zbf:=(by simp[Zbf]);obtain⟨_,o,t,s,f,j⟩:=g.size _ k
 have a:∀(i:Nat) (z:Int),Lib.pow10Tab[i]?=some z->o[i]?=some (.int .u64 z):=by
  intro i z n;have p:pow10[i]?=some (.val (.int .u64 z)):=(by have:pow10=Lib.pow10Tab.map λz=>SV.val (.int .u64 z):=Vk;rw[this,Yv,n];rfl);obtain⟨v,c,d⟩:=g.cells _ k i _ p;have b:=l _ _ _ c;have q:v= .int .u64 z:=(Rep.pure (ρ:=λ_=>noLoc) v _ d).val_inv;subst q;simp only[World.cell?,f]at b
  simpa using b
 have r:pow10.length=Lib.pow10Tab.length:=(by decide+kernel);unfold Lib.TabIs World.var?;rw[m];simp only[Option.bind_some,f];congr 1;apply Array.ext
 .rw[j];simp[r]
 .intro i c d;have b:i<Lib.pow10Tab.length:=by simp at d;omega
  have:=a i _ (List.getElem?_eq_getElem b);rw[Y1 c]at this
  simpa using this
def fmt10_fn(n:Int)(a: -9223372036854775808<=n)(b:n<=9223372036854775807):Ct prog 135 {} [I n,I 10] (λr=>r=[S ⟨(Lib.itoa n).toArray⟩]):=by
 refine Zgw func135 Vk (λe=>?_) [.int .i64 n,.int .i64 10] (.string ⟨(Lib.itoa n).toArray⟩) (λh w c d=>?_)
 .have:(Tryz.f135.name== "runtime.NumGoroutine")=false:=Vk
  rw[e]at this;simp at this
 .refine(Any.strconv_FormatInt_10 Tryz.laysM173 n a b w (tab_is c d Vk)).mono ?_;rintro e g ⟨rfl,k2,os,rfl⟩;refine⟨rfl,rfl,rfl,rfl,by simp[Sort.grow],λk f=>?_⟩;have:k<(w.drewN k2).heap.size:=f;simp only[Sort.grow];rw[Array.getElem?_append_left this];rfl
def repeat_fn(s:BA)(c:Nat)(b:c<=9223372036854775807)(a:s.size*c<=140737488355328):Ct prog 136 {} [S s,I c] (λr=>r=[S ⟨(Lib.repeatL s.data.toList c).toArray⟩]):=by
 refine Zgw func136 Vk (λe=>?_) [.string s,.int .i64 c] (.string ⟨(Lib.repeatL s.data.toList c).toArray⟩) (λh w d f=>?_)
 .have:(Tryz.f136.name== "runtime.NumGoroutine")=false:=Vk
  rw[e]at this;simp at this
 .exact Any.strings_Repeat Tryz.lays105 Tryz.Builder_Extra_105 s c w b a
end Seg
namespace Sgr
open Go Go.Px Go.Proofs Cod Seg Tryz
def dgs:Nat->Nat->List UInt8
 |0,_=>[]
 |k+1,n=>dgs k (n/10)++[UInt8.ofNat (48+n%10)]
def Zd9:∀(k n:Nat),(dgs k n).length=k
 |0,_=>rfl
 |k+1,n=>by simp[dgs,Zd9 k]
def Zt6:∀k,dgs k 0=List.replicate k 48
 |0=>rfl
 |k+1=>by rw[dgs];simp only[Nat.zero_div,Zt6 k];rw[List.replicate_succ'];rfl
def Zrn:∀(k n:Nat),1<=k->n<10^k->List.replicate (k-(Lib.decDigits n).length) 48++Lib.decDigits n=dgs k n
 |0,_,h,_=>Vo
 |k+1,n,_,hn=>by
  by_cases h:n<10
  .rw[Lib.decDigits_one h,dgs,show n/10=0 by omega,Zt6,Wj,Nat.add_sub_cancel,Nat.mod_eq_of_lt h]
  .have a:1<=k:=by
    rcases k with _|k
    .omega
    .omega
   have b:=Zrn k (n/10) a (by rw[Nat.pow_succ]at hn;omega);have e:Lib.decDigits n=Lib.decDigits (n/10)++[UInt8.ofNat (48+n%10)]:=(by rw[Lib.decDigits,dif_neg h]);rw[e,dgs,<-b];simp
def Zpx{k n:Nat}(a:1<=k)(h:n<10^k):(Lib.decDigits n).length<=k:=by
 have:=congrArg List.length (Zrn k n a h);rw[Zd9]at this;simp at this;omega
def scat_l(a b:List UInt8):scat ⟨a.toArray⟩ ⟨b.toArray⟩=⟨(a++b).toArray⟩:=by
 unfold scat;apply ByteArray.ext;simp
def Zt7(a:List UInt8):slen ⟨a.toArray⟩=a.length:=by simp[slen,ByteArray.size]
def repeat0(c:Nat):Lib.repeatL [48] c=List.replicate c 48:=by
 have:=Lib.repeatL_replicate 48 1 c
 simpa using this
def segNm(n:Int):BA:=if 1<=n/\n<=99999999 then⟨([115,101,103,46]++dgs 8 n.toNat).toArray⟩else ByteArray.mk #[]
def sname_fn(n:Int):Ct prog 68 {} [I n] (λr=>r=[S (segNm n)]):=by
 refine Sgr.sname_nf (Cl.of (Zsd n) ⟨_,rfl,Zaa (λh=>?_) (λh=>?_)⟩)
 .simp at h;have:¬(1<=n/\n<=99999999):=Vo;simp[segNm,this]
 .simp at h;have a:Lib.itoa n=Lib.decDigits n.toNat:=by unfold Lib.itoa;rw[if_neg Vo]
  have c:(Lib.decDigits n.toNat).length<=8:=Zpx Vo Vo;refine Cl.of (fmt10_fn n Vo Vo) ⟨_,rfl,?_⟩;rw[a,Zt7];have w:wsub IntKind.i64 8 ((Lib.decDigits n.toNat).length:Int)=((8-(Lib.decDigits n.toNat).length:Nat):Int):=(by rw[Zap];omega);rw[w];refine Cl.of (repeat_fn ⟨[48].toArray⟩ _ Vo (by simp[ByteArray.size];omega)) ⟨_,rfl,?_⟩;have b:(bA [115,101,103,46])=⟨([115,101,103,46]:List UInt8).toArray⟩:=rfl;have e1:(ByteArray.mk [48].toArray).data.toList=[48]:=rfl;rw[e1,repeat0,b,scat_l,scat_l,Zt7,Zt7,Zt7];refine⟨by simp[lsum];omega,by simp[lsum];omega,?_⟩;rw[List.append_assoc,Zrn 8 n.toNat Vo Vo];simp[segNm,h.1,h.2]
def addR(s a:Int)(m:List BA)(e:EvD):List SV:=
 if encE s a m e=0 then[SL 1 (bR (fr 2 (encL s a m e))),cx3 e.s e.a (nR (bhdN m e.c)),I 0]else[SL 1 [],cx3 s a (nR m),I (encE s a m e)]
def Zt8(s a:Int)(m:List BA)(e:EvD):Ct prog 121 {} [cx3 s a (nR m),e.sv] (λr=>r=addR s a m e):=by
 have c:=Zp4 s a m e;refine sadd_nf ?_;unfold addR;by_cases hE:encE s a m e=0
 .have ok:=Zcy.1 hE;have f:=Zhr ok;unfold encR at c;rw[if_pos hE]at c;refine Cl.of c ⟨_,_,_,_,_,rfl,Zaa (λb=>by simp at b) (λ_=>?_)⟩;have d:=Ztp 2 _ (Zie (cs:=s) (ca:=a) (l:=m) (e:=e)) Vo;have:putF 2 (encL s a m e)=(fr 2 (encL s a m e),0):=(by unfold putF;rw[if_neg Vo,if_neg Vo]);rw[this]at d;exact Cl.of d ⟨_,_,rfl,Zaa (λb=>by simp at b) (λ_=>by rw[if_pos hE])⟩
 .unfold encR at c;rw[if_neg hE]at c;exact Cl.of c ⟨_,_,_,_,_,rfl,Zaa (λ_=>by rw[if_neg hE]) (λb=>by simp at b;exact absurd b hE)⟩
def Zz8(n s a:Int)(m:List BA)(b:n<=9223372036854775807):Ct prog 122 {} [I n,cx3 s a (nR m)] (λr=>
  r=if ctxB s a m=true/\0<=n then[SL 1 (bR (fr 3 (slP n s a))),I 0]else[SL 1 [],I 1]):=by
 by_cases h0:0<=n
 .refine(sseal_fn n s a m h0 b).mono ?_;rintro r rfl;simp[h0]
 .refine Zua (Zaa (λh=>?_) (λh=>by simp at h;omega));rw[if_neg Vo]
instance (n s a:Int):Decidable (Seg.headOK n s a):=by unfold Seg.headOK ctxOK;infer_instance

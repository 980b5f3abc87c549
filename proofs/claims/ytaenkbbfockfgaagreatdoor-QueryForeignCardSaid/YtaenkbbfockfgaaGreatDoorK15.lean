import Derived.Test.YtaenkbbfockfgaaGreatDoorK14
import Derived.WalkKit
import Derived.Shelf.Strings.Builder1
import Derived.Shelf.Strings.OnBuilder
import Derived.Shelf.Strings.Search2
import Derived.Shelf.Small.Strs
import Derived.Test.YtaenkbbfockfgaaGreatDoorProg
import Derived.BigCall
import Derived.BigGuard
set_option linter.all false
set_option maxRecDepth 100000
variable{b c e i j k z:Int}{n:Nat}{l r:Go.Px.LL}{Q:Go.Px.QQ}{s t:BA}{x:List Int}{O o:Bool}{u:Go.Px.SV}{T:Go.TypeId}{C:List Go.Px.SV}{J:Go.Proofs.YtaenkbbfockfgaaGreatDoor.Jou.JoD}
namespace Go.Proofs.YtaenkbbfockfgaaGreatDoor
namespace Trm
open Go Go.Px Go.Proofs Tryz
noncomputable def dB(p:Prop):Bool:=@decide p (Classical.propDecidable p)
def dB_t{p:Prop}(h:p):dB p=true:=by unfold dB;exact@decide_eq_true p (Classical.propDecidable p) h
def dB_f{p:Prop}(h:¬p):dB p=false:=by unfold dB;exact@decide_eq_false p (Classical.propDecidable p) h
def Zjc{p:Prop}:dB p=true↔p:=⟨λh=>by unfold dB at h;exact@of_decide_eq_true p (Classical.propDecidable p) h,dB_t⟩
def dB_congr{p q:Prop}(h:p↔q):dB p=dB q:=by
 by_cases hq:q
 .rw[dB_t hq,dB_t (h.2 hq)]
 .rw[dB_f hq,dB_f (λk=>hq (h.1 k))]
theorem stepL{a b:Nat}(h:a<b):Nl a b:=h
theorem waddN(i:Nat)(h:i<=9223372036854775806):wadd .i64 (i:Int) 1=((i+1:Nat):Int):=by
 grind [Zac]
def toList_iff{x y:BA}:x.toList=y.toList↔x=y:=by
 rw[ByteArray.toList_eq,ByteArray.toList_eq];exact Zwa.symm
theorem seq_d(a b:BA):seq a b=decide (a=b):=by
 rw[seq_eq,Bool.eq_iff_iff];simp only[beq_iff_eq,decide_eq_true_eq];exact toList_iff
theorem sne_d(a b:BA):sne a b=!decide (a=b):=by
 rw[<-seq_d];rfl
theorem size_0:s=⟨#[]⟩↔s.size=0:=by
 constructor
 .rintro rfl;rfl
 .intro h;apply Zwa.2;have:s.data.toList=[]:=Y6 (by rw[ByteArray.size]at h;simpa using h);rw[this]
def seq_0(a:BA):seq a (bA [])=decide (a.size=0):=by
 grind [seq_d,size_0]
def ifB_iff{x y:Prop}:ifB o x y↔((o=true->x)/\(o=false->y)):=by
 cases o<;>simp[ifB]
abbrev FlD.sv(f:FlD):SV:=.agg f.row
mutual
def FlD.ind1{P:FlD->Prop}(h:∀c a b d ks,(∀k∈ks,P k)->P (.mk c a b d ks)):∀f:FlD,P f
 | .mk c a b d ks=>h c a b d ks (FlD.indL h ks)
def FlD.indL{P:FlD->Prop}(h:∀c a b d ks,(∀k∈ks,P k)->P (.mk c a b d ks)):∀ks:List FlD,∀k∈ks,P k
 | [],k,hk=>by simp at hk
 |f::fs,k,hk=>by
  rcases List.mem_cons.1 hk with e|hk
  .exact e▸FlD.ind1 h f
  .exact FlD.indL h fs k hk
end
def FlD.ind{P:FlD->Prop}(h:∀c a b d ks,(∀k∈ks,P k)->P (.mk c a b d ks)):∀f:FlD,P f:=FlD.ind1 h
def Zeb(ks:List FlD)(i:Nat)(h:i<ks.length):∃d a b f c,ks[i]=FlD.mk d a b f c/\rget (ks.map FlD.row) (i:Int)=[I d,I a,I b,S f,SL 5 (c.map FlD.row)]:=by
 have e:rget (ks.map FlD.row) (i:Int)=ks[i].row:=(by simp[rget,h]);rw[e]
 cases ks[i]with
 |mk d a b f c=>exact⟨d,a,b,f,c,rfl,row_mk _ _ _ _ _⟩
theorem mk_sv(c a b:Int)(d:BA)(ks:List FlD):(FlD.mk c a b d ks).sv=fl5 c a b d (ks.map FlD.row):=by
 rw[FlD.sv,row_mk]
def within_fn(n m:Int):Ct prog 165 {} [I n,I m] (λr=>r=[B (decide (0<=n/\n<=m))]):=by
 refine Zxh ?_;congr 2;rw[Bool.eq_iff_iff];simp
def named_fn(s:BA):Ct prog 166 {} [S s] (λr=>r=[B (decide (1<=s.size/\s.size<=24))]):=by
 refine Zzu ?_;congr 2;rw[Bool.eq_iff_iff];simp;omega
theorem B_dec{p:Prop}[Decidable p](h:o=true↔p):([B o]:List SV)=[B (decide p)]:=by
 grind
def alone_fn(e a b:Int)(c:BA)(ks:LL):Ct prog 103 {} [fl5 e a b c ks] (λr=>r=[B (decide (OkOne e a b c.size ks.length))]):=by
 refine Zzt ?_;simp only[seq_0,ieq_eq,ige_eq,ile_eq,bpick_eq,rlen_eq];have d:=named_fn c;generalize ks.length=n;generalize hsz:c.size=m at d|-;clear hsz;refine Zaa (λh=>?_) (λf=>?_)
 .grind [OkOne,B_dec]
 simp at f;refine Zaa (λh=>?_) (λg=>?_)
 .simp at h;subst h;refine Cl.of (within_fn _ _) ⟨_,rfl,Zaa (λh=>Cl.of (within_fn _ _) ⟨_,rfl,?_⟩) (λh=>?_)⟩
  .grind [OkOne,B_dec]
  grind [OkOne,B_dec]
 simp at g;refine Zaa (λh=>?_) (λi=>?_)
 .simp at h;subst h;refine Cl.of (within_fn _ _) ⟨_,rfl,Zaa (λh=>Cl.of (within_fn _ _) ⟨_,rfl,?_⟩) (λh=>?_)⟩
  .grind [OkOne,B_dec]
  grind [OkOne,B_dec]
 simp at i;refine Zaa (λh=>?_) (λj=>?_)
 .simp at h;subst h;refine Cl.of d ⟨_,rfl,?_⟩
  grind [OkOne,B_dec]
 simp at j;refine Zaa (λh=>?_) (λk=>?_)
 .grind [OkOne,B_dec]
 grind [OkOne,Zaa,B_dec]
def RgR(f:FlD)(d left:Int)(r:List SV):Prop:=
 (okA f/\dep f+d<=17/\cnt f<=left->r=[B true,.agg [I (left-cnt f)]])/\(¬(okA f/\dep f+d<=17/\cnt f<=left)->∃l:Int,r=[B false,.agg [I l]])
def right_fn:∀f:FlD,smF f->∀d left:Int,1<=d->d<=17->0<=left->left<=64->Ct prog 46 ⟨[.pure,.pure,.lend []],[]⟩ [f.sv,I d,.agg [I left]] (RgR f d left):=by
 refine FlD.ind λA a b C ks u o d left hd1 hd z D=>?_;rw[smF]at o;rw[mk_sv];refine Zzs (Zaa (λh=>?_) (λv=>?_))
 .refine⟨λk=>?_,λ_=>⟨_,rfl⟩⟩;simp at h
  grind [dep_pos,cnt_pos]
 .simp at v;refine Cl.of (alone_fn _ _ _ _ _) ⟨_,rfl,Zaa (λh=>?_) (λh=>?_)⟩
  .simp at h;refine⟨λk=>?_,λ_=>⟨_,rfl⟩⟩
   grind [okA]
  .simp at h;rw[Zap Vo Vo];refine⟨λ_ x e=>∃i:Nat,x=i/\i<=ks.length/\okL (ks.take i)/\depL (ks.take i)+(d+1)<=17/\e=left-1-cntL (ks.take i)/\0<=e,λ_ x _=>ks.length-x.toNat,⟨0,rfl,Vo,by simp[okL],by simp[depL];omega,by simp[cntL],Vo⟩,?_⟩;rintro E _ e ⟨i,rfl,hi,hok,hdp,hx,hx0⟩;refine Zaa (λc=>?_) (λt=>?_)
   .simp at c;obtain⟨g,p,q,j,m,e1,e2⟩:=Zeb ks i c;refine⟨Vm,_,_,_,_,_,e2,?_⟩;have s:=List.getElem_mem c;have n:=u _ s (Zkx o.2.2 s) (d+1) e Vo Vo hx0 Vo;have w:=Zpd s;have y:=Zky ks i c;have F:=Zd0 ks (i+1);rw[e1,mk_sv]at n;rw[Zac Vo Vo];refine Cl.ofQ n ?_;rintro r ⟨g1,g2⟩;rw[e1]at w y;by_cases hg:okA (.mk g p q j m)/\dep (.mk g p q j m)+(d+1)<=17/\cnt (.mk g p q j m)<=e
    .obtain rfl:=g1 hg;refine⟨_,_,rfl,rfl,?_⟩;rw[waddN i Vo];refine⟨⟨i+1,rfl,Vo,?_,?_,Vo,Vo⟩,stepL Vm⟩
     .rw[Zha]at hok|-;intro k n;rw[Yq,List.getElem?_eq_getElem c,List.mem_append]at n
      grind
     .rw[Zkz ks i c,e1];omega
    .obtain⟨l,rfl⟩:=g2 hg;refine⟨_,_,rfl,?_⟩;refine⟨λk=>?_,λ_=>⟨_,rfl⟩⟩;exfalso;apply hg;rw[okA,Zha,dep,cnt]at k
     grind
   .simp at t;have:i=ks.length:=Vo;subst this;rw[Y7]at hok hdp hx;refine⟨λk=>?_,λk=>?_⟩
    .grind [cnt,left]
    grind [okA,dep,cnt]
def Zcu(f:FlD)(e:smF f):Ct prog 14 {} [f.sv] (λr=>r=[B (dB (Rgt f))]):=by
 have h:=right_fn f e 1 64 Vo Vo Vo Vo
 cases f with
 |mk c a b d ks=>
  rw[mk_sv]at h|-;refine tfr_nf (Cl.ofQ h ?_);rintro r ⟨g1,g2⟩;by_cases hg:okA (.mk c a b d ks)/\(dep (.mk c a b d ks):Int)+1<=17/\(cnt (.mk c a b d ks):Int)<=64
  .obtain rfl:=g1 hg;refine⟨_,_,rfl,?_⟩;rw[dB_t ⟨hg.1,Vo,Vo⟩]
  .obtain⟨l,rfl⟩:=g2 hg;refine⟨_,_,rfl,?_⟩;rw[dB_f (λk=>hg ⟨k.1,by have:=k.2.2;omega,by have:=k.2.1;omega⟩)]
def size_fn:∀f:FlD,smF f->∀k:Nat,k<=100->Ct prog 23 {} [f.sv,I k] (λr=>∃m d:Int,r=[I m,I d]/\SzR f k m d):=by
 refine FlD.ind λu a b v ks w h k p=>?_;rw[smF]at h;rw[mk_sv];have kk:k*k+k+2<=10102:=(by have:=Nat.mul_le_mul p p;omega);refine rsize_nf ⟨λ_ _ m d x=>∃i:Nat,x=i/\i<=ks.length/\SzL (.mk u a b v ks) k i m d,λ_ _ _ _ x=>ks.length-x.toNat,⟨0,rfl,Vo,SzL.start _ _⟩,?_⟩;rintro _ _ m d _ ⟨i,rfl,hi,hz⟩
 have s:wmul .i64 2 (k:Int)=2*(k:Int):=by
  grind [wmul,Zbj]
 rw[s];have C:=hz.mb;have D:=hz.db;have E:=hz.m1;have hd1:=hz.d1;refine Zaa (λc=>?_) (λj=>?_)
 .simp at c;refine Zaa (λo=>?_) (λo=>?_)
  .simp at o;omega
  .simp at o;obtain⟨y,L,M,z,A,e1,e2⟩:=Zeb ks i c.1;refine⟨Vm,_,_,_,_,_,e2,?_⟩;have t:=List.getElem_mem c.1;have l:=w _ t (Zkx h.2.2 t) (k-1) Vo;rw[e1,mk_sv]at l;rw[Zap Vo Vo,show(k:Int)-1=((k-1:Nat):Int) by omega];refine Cl.ofQ l ?_;rintro r ⟨n,e,rfl,hzr⟩;have F:=hzr.mb;have G:=hzr.db;have H:=hzr.m1;have J:=hzr.d1;have K:(k-1)*(k-1)+(k-1)+2<=10102:=by have:=Nat.mul_le_mul (show k-1<=100 by omega) (show k-1<=100 by omega);omega
   have g:=hz.next (n:=n) (e:=e) Vo Vo c.1 (by
    show SzR ks[i] _ _ _
    rw[e1];exact hzr)
   refine⟨_,_,rfl,?_⟩;rw[Zac (a:=e) Vo Vo,Zac (a:=m) Vo Vo,waddN i Vo];refine Zaa (λq=>⟨rfl,⟨i+1,rfl,Vo,?_⟩,stepL Vm⟩) (λq=>⟨rfl,⟨i+1,rfl,Vo,?_⟩,stepL Vm⟩)
   .simp_all
   .simp at q;rw[if_neg Vo]at g;exact g
 .simp at j;refine⟨_,_,rfl,hz.done ?_⟩;show i=ks.length\/_;by_cases hil:i<ks.length
  .exact .inr ⟨by show i<=ks.length;omega,by have:=j hil;omega⟩
  omega
def names_fn:∀f:FlD,smF f->Ct prog 24 {} [f.sv] (λr=>∃b,r=[B b]):=by
 refine FlD.ind λp a b q ks k e=>?_;rw[smF]at e;rw[mk_sv];refine Zzx ⟨λ_ x=>∃i:Nat,x=i/\i<=ks.length,λ_ x=>ks.length-x.toNat,⟨0,rfl,Vo⟩,?_⟩;rintro s _ ⟨i,rfl,hi⟩;refine Zaa (λd=>?_) (λl=>⟨_,rfl⟩);simp at d;obtain⟨m,t,u,n,o,e1,e2⟩:=Zeb ks i d;refine⟨Vm,_,_,_,_,_,e2,?_⟩;have h:=List.getElem_mem d;have j:=k _ h (Zkx e.2.2 h);rw[e1,mk_sv]at j;refine Cl.ofQ j ?_;rintro r ⟨c,rfl⟩;refine⟨_,rfl,Zaa (λg=>⟨_,rfl⟩) (λg=>⟨rfl,?_⟩)⟩
 grind [waddN,stepL]
def Zum(f:FlD)(c:smF f):Ct prog 8 {} [f.sv] (λr=>∃b,r=[B b]):=by
 have d:=size_fn f c 100 Vo;have e:=names_fn f c
 cases f with
 |mk g a b h ks=>
  grind [mk_sv,Zzw,Cl.ofQ,Zaa]
def eq_cond{n n2:Nat}:
  (bpick (bpick (bpick (bpick (ine i c) true (ine e j)) true (ine b k)) true (sne s t)) true (ine (n:Int) (n2:Int)))=false↔(i=c/\e=j/\b=k/\s=t/\n=n2):=by
 rw[sne_d];simp;constructor
 .rintro⟨⟨⟨⟨a,f⟩,g⟩,h⟩,m⟩;exact⟨a,f,g,h,Vo⟩
 .rintro⟨a,f,g,h,m⟩;exact⟨⟨⟨⟨a,f⟩,g⟩,h⟩,Vo⟩
def same_fn:∀f:FlD,smF f->∀g:FlD,Ct prog 49 {} [f.sv,g.sv] (λr=>r=[B (dB (f=g))]):=by
 refine FlD.ind λG a b H ks p k g=>?_;rw[smF]at k
 cases g with
 |mk E L q F d=>
  rw[mk_sv,mk_sv];refine tsame_nf ?_;rw[rlen_eq,rlen_eq,List.length_map,List.length_map];refine Zaa (λh=>?_) (λh=>?_)
  .rw[dB_f];rintro e;injection e with e1 e2 e3 e4 e5;subst e5;have:=(eq_cond (n:=ks.length) (n2:=ks.length)).2 ⟨e1,e2,e3,e4,rfl⟩;rw[this]at h;cases h
  .obtain⟨rfl,rfl,rfl,rfl,s⟩:=eq_cond.1 h;refine⟨λ_ x=>∃i:Nat,x=i/\i<=ks.length/\ks.take i=d.take i,λ_ x=>ks.length-x.toNat,⟨0,rfl,Vo,Vs⟩,?_⟩;rintro q _ ⟨i,rfl,hi,hok⟩;refine Zaa (λc=>?_) (λl=>?_)
   .simp at c;obtain⟨u,J,K,v,w,e1,e2⟩:=Zeb ks i c;obtain⟨y,z,A,C,D,j,t⟩:=Zeb d i Vo;refine⟨Vo,_,_,_,_,_,e2,Vo,_,_,_,_,_,t,?_⟩;have m:=List.getElem_mem c;have o:=p _ m (Zkx k.2.2 m) d[i];rw[e1,j,mk_sv,mk_sv]at o;refine Cl.of o ⟨_,rfl,Zaa (λg=>?_) (λg=>⟨rfl,?_⟩)⟩
    .simp only[bnot_eq,Yk]at g;rw[dB_f];intro e;injection e with _ _ _ _ e5;subst e5;rw[e1]at j;rw[dB_t j]at g;cases g
    .simp only[bnot_eq,YA]at g;rw[waddN i Vo];refine⟨⟨i+1,rfl,Vo,?_⟩,stepL Vm⟩;rw[Yq,Yq,hok,List.getElem?_eq_getElem c,List.getElem?_eq_getElem Vo,e1,j,Zjc.1 g]
   .simp at l;have e1:i=ks.length:=Vo;subst e1;rw[Y7,s,Y7]at hok;rw[dB_t (by rw[hok])]
def fSame_fn(f g:FlD)(e:smF f)(l:smF g):Ct prog 18 {} [f.sv,g.sv] (λr=>r=[B (dB (Rgt f/\Rgt g/\f=g))]):=by
 have h:=Zcu f e;have i:=Zcu g l;have j:=same_fn f e g
 cases f with
 |mk p a b q ks=>
  cases g with
  |mk m s t n o=>
   rw[mk_sv]at h i;rw[mk_sv,mk_sv]at j|-;refine Zzv (Cl.of h ⟨_,rfl,Zaa (λc=>Cl.of i ⟨_,rfl,Zaa (λd=>Cl.of j ⟨_,rfl,?_⟩) (λd=>?_)⟩) (λc=>?_)⟩)
   .congr 2;exact dB_congr ⟨λk=>⟨Zjc.1 c,Zjc.1 d,k⟩,λk=>k.2.2⟩
   .rw[dB_f (λk=>by rw[dB_t k.2.1]at d;cases d)]
   .rw[dB_f (λk=>by rw[dB_t k.1]at c;cases c)]
end Trm
namespace Qry
open Go Go.Px Go.Proofs Go.RowKit Tryz
end Qry
end Go.Proofs.YtaenkbbfockfgaaGreatDoor
namespace Go.Proofs
open Go.Shelf
def Tryz.lays169_ren:Go.Shelf.Ren:=⟨λ|169=>75|n=>n,λ|70=>153|9=>9|0=>0|72=>155|37=>124|127=>247|3=>3|5=>5|n=>n,λ|n=>n⟩
def Tryz.lays169:Go.Proofs.Lays.n169 prog Tryz.lays169_ren:={
 mixed:=Vk
 f169:=func75.trans (congrArg some Vk)
 t0:=Tryz.underlying0
 a0:=Tryz.isAgg0
 z0:=Tryz.sizeOf0
 v0:=Tryz.zeroValue0
 t3:=Tryz.underlying3
 a3:=Tryz.isAgg3
 z3:=Tryz.sizeOf3
 v3:=Tryz.zeroValue3
 t9:=Tryz.underlying9
 a9:=Tryz.isAgg9
 z9:=Tryz.sizeOf9
 v9:=Tryz.zeroValue9
 t37:=Tryz.underlying124
 a37:=Tryz.isAgg124
 z37:=Tryz.sizeOf124
 v37:=Tryz.zeroValue124
 t70:=Tryz.underlying153
 a70:=Tryz.isAgg153
 z70:=Tryz.sizeOf153
 v70:=Tryz.zeroValue153
 t72:=Tryz.underlying155
 a72:=Tryz.isAgg155
 z72:=Tryz.sizeOf155
 v72:=Tryz.zeroValue155
 t127:=Tryz.underlying247
 a127:=Tryz.isAgg247
 z127:=Tryz.sizeOf247
 v127:=Tryz.zeroValue247}
def Tryz.Builder_Extra_169:Builder.Extra prog Tryz.lays169_ren:={
 sizeBuilder:=Vk
 liesBuilder:=Vk
 t5:=Tryz.underlying5
 a5:=Tryz.isAgg5
 z5:=Tryz.sizeOf5
 v5:=Tryz.zeroValue5
 infoByte:=Vk
 cellsByte:=Vk
 sizeByte:=Vk
 neB5:=by decide}
def Tryz.Builder_String_any(B b:Nat)(l:List UInt8)(w:World)(h:Lib.IsBuilder 155 5 B b (Lib.byteCells l) w)(a:B<=w.heap.size):
  Calls prog 75 #[.pointer (some ⟨b,0,none⟩)] w λe c=>e= .returned (.string ⟨l.toArray⟩)/\RowKit.Below B w c:=Any.Builder_String_any Tryz.lays169 Tryz.Builder_Extra_169 B b l w h a
def Tryz.lays137_ren:Go.Shelf.Ren:=⟨λ|137=>127|217=>198|266=>277|n=>n,λ|9=>9|5=>5|3=>3|n=>n,λ|n=>n⟩
def Tryz.lays137:Go.Proofs.Lays.n137 prog Tryz.lays137_ren:={
 mixed:=Vk
 f137:=func127.trans (congrArg some Vk)
 f217:=func198.trans (congrArg some Vk)
 f266:=func277.trans (congrArg some Vk)
 t3:=Tryz.underlying3
 a3:=Tryz.isAgg3
 z3:=Tryz.sizeOf3
 v3:=Tryz.zeroValue3
 t5:=Tryz.underlying5
 a5:=Tryz.isAgg5
 z5:=Tryz.sizeOf5
 v5:=Tryz.zeroValue5
 t9:=Tryz.underlying9
 a9:=Tryz.isAgg9
 z9:=Tryz.sizeOf9
 v9:=Tryz.zeroValue9}
def Tryz.strings_IndexByte(s:BA)(c:Int)(w:World):
  Calls prog 127 #[.string s,.int .u8 c] w λe a=>e= .returned (.int .i64 (Lib.indexByte s.data.toList c.toNat.toUInt8))/\a=w:=Any.strings_IndexByte Tryz.lays137 s c w
def Tryz.lays167_ren:Go.Shelf.Ren:=⟨λ|167=>143|240=>225|276=>291|n=>n,λ|0=>0|4=>4|5=>5|9=>9|20=>20|37=>124|70=>153|72=>155|75=>245|80=>158|164=>376|n=>n,λ|n=>n⟩
def Tryz.lays167:Go.Proofs.Lays.n167 prog Tryz.lays167_ren:={
 mixed:=Vk
 f167:=func143.trans (congrArg some Vk)
 f240:=func225.trans (congrArg some Vk)
 f276:=func291.trans (congrArg some Vk)
 t0:=Tryz.underlying0
 a0:=Tryz.isAgg0
 z0:=Tryz.sizeOf0
 v0:=Tryz.zeroValue0
 t4:=Tryz.underlying4
 a4:=Tryz.isAgg4
 z4:=Tryz.sizeOf4
 v4:=Tryz.zeroValue4
 t5:=Tryz.underlying5
 a5:=Tryz.isAgg5
 z5:=Tryz.sizeOf5
 v5:=Tryz.zeroValue5
 t9:=Tryz.underlying9
 a9:=Tryz.isAgg9
 z9:=Tryz.sizeOf9
 v9:=Tryz.zeroValue9
 t20:=Tryz.underlying20
 a20:=Tryz.isAgg20
 z20:=Tryz.sizeOf20
 v20:=Tryz.zeroValue20
 t37:=Tryz.underlying124
 a37:=Tryz.isAgg124
 z37:=Tryz.sizeOf124
 v37:=Tryz.zeroValue124
 t70:=Tryz.underlying153
 a70:=Tryz.isAgg153
 z70:=Tryz.sizeOf153
 v70:=Tryz.zeroValue153
 t72:=Tryz.underlying155
 a72:=Tryz.isAgg155
 z72:=Tryz.sizeOf155
 v72:=Tryz.zeroValue155
 t75:=Tryz.underlying245
 a75:=Tryz.isAgg245
 z75:=Tryz.sizeOf245
 v75:=Tryz.zeroValue245
 t164:=Tryz.underlying376
 a164:=Tryz.isAgg376
 z164:=Tryz.sizeOf376
 v164:=Tryz.zeroValue376}
def Tryz.Builder_Extra_167:Builder.Extra prog Tryz.lays167_ren:={
 sizeBuilder:=Vk
 liesBuilder:=Vk
 t5:=Tryz.underlying5
 a5:=Tryz.isAgg5
 z5:=Tryz.sizeOf5
 v5:=Tryz.zeroValue5
 infoByte:=Vk
 cellsByte:=Vk
 sizeByte:=Vk
 neB5:=by decide}
def Tryz.Builder_WriteByte(B b:Nat)(bs:List Value)(c:Int)(w:World)(h:Lib.IsBuilder 155 5 B b bs w)(a:bs.length+1<=140737488355328)(d:B<=w.heap.size):
  Calls prog 143 #[.pointer (some ⟨b,0,none⟩),.int .u8 c] w λe f=>e= .returned .nilIface/\(Lib.BuilderAt 155 5 B b (.pointer (some ⟨b,0,none⟩)) (bs++[.int .u8 c]) f/\RowKit.Below B w f):=Any.Builder_WriteByte Tryz.lays167 Tryz.Builder_Extra_167 B b bs c w h a d
end Go.Proofs
namespace Go.Proofs.YtaenkbbfockfgaaGreatDoor
namespace Tok
open Go Go.Px Go.Proofs Go.RowKit Trm Tryz
set_option maxHeartbeats 4000000
def Zlk(l:Tx)(a b:UInt8):Lib.byteCells l++[Value.int .u8 (a.toNat:Int)]++[Value.int .u8 (b.toNat:Int)]=Lib.byteCells (l++[a,b]):=by
 rw[show l++[a,b]=l++[a]++[b] by simp,Lib.byteCells_append,Lib.byteCells_append];rfl
def hex_at(n:Nat)(h:n<16):(ByteArray.mk #[48,49,50,51,52,53,54,55,56,57,97,98,99,100,101,102])[n]?=some (hd1 n):=by
 have:∀m:Fin 16,(ByteArray.mk #[48,49,50,51,52,53,54,55,56,57,97,98,99,100,101,102])[m.val]?=some (hd1 m.val):=Vd;exact this ⟨n,h⟩
def hex_get(n:Nat)(h:n<16)(q:n<(ByteArray.mk #[48,49,50,51,52,53,54,55,56,57,97,98,99,100,101,102]).size):(ByteArray.mk #[48,49,50,51,52,53,54,55,56,57,97,98,99,100,101,102])[n]'q=hd1 n:=by
 have:=hex_at n h;rw[getElem?_pos _ n q]at this;exact Option.some.inj this
def Zvt(B b:Nat)(l:Tx)(c:Nat)(g:c<256)(w:World)(h:Lib.IsBuilder 155 5 B b (Lib.byteCells l) w)(d:l.length<=100000)(a:B<=w.heap.size):
  Calls prog 74 #[.pointer (some ⟨b,0,none⟩),.int .u8 c] w λe f=>e= .returned (rets [])/\Lib.BuilderAt 155 5 B b (.pointer (some ⟨b,0,none⟩)) (Lib.byteCells (l++[hd1 (c/16),hd1 (c%16)])) f/\Below B w f:=by
 have i:(Lib.byteCells l).length<=100000:=by rw[Lib.byteCells_length];exact d
 go_enter func74,Tryz.ntmps74
 go_wp2_with (go_at_call 143;refine(Tryz.Builder_WriteByte B b _ _ _ h Vo a).mono ?_)
 rintro e w1 ⟨rfl,hb1,hw1⟩
 go_wp2_with (go_at_call 143;refine(Tryz.Builder_WriteByte B b _ _ _ (Or.inr hb1) (by rw[List.length_append];simp;omega) (Nat.le_trans a hw1.size)).mono ?_)
 rintro e w2 ⟨rfl,hb2,hw2⟩;rw[hex_get _ Vo,hex_get _ Vo,Zlk]at hb2;go_wp2;exact bodyPost_end (results_none Vk _ _ _) rfl ⟨rfl,hb2,hw1.trans hw2⟩
end Tok
namespace Tok
open Go Go.Px Go.Proofs Go.RowKit Tryz
def hd:Nat->Code->Code
 |n+1,.seq x y=>.seq x (hd n y)
 |_,_=>.skip
def tl:Nat->Code->Code
 |n+1,.seq x y=>tl n y
 |_,c=>c
def vc_cut{P:Program}(h:FuncId->Sig)(i:TypeId->Sig)(L:Nat->Option LoopSpec):∀(n:Nat) (c:Code) (X:Cx) (b:St) (a:Act) (w:World) (f:Ex->St->Prop) (Q:Exit->Act->World->Prop),
  (∀e b d w,Fits X b d w->f e b->match e with| .normal=>(tl n c).wp P Q d w| .exit id=>Q (.exit id) d w| .ret=>Q .ret d w)->Fits X b a w->vc P h i L (hd n c) b f->c.wp P Q a w
 |0,c,X,b,a,w,f,Q,hQ,F,hv=>hQ .normal b a w F hv
 |n+1,c,X,b,a,w,f,Q,hQ,F,hv=>by
  cases c with
  |seq x y=>
   refine wp_seq (Zhg h i L x X b a w _ _ ?_ F hv);intro e g d j k m l
   cases e with
   |normal=>exact vc_cut h i L n y X g d j f Q hQ k l
   |exit id=>exact hQ (.exit id) g d j k l
   |ret=>exact hQ .ret g d j k l
  |_=>exact hQ .normal b a w F hv
end Tok
namespace Qry
open Go Go.Px Go.Proofs Cod Jou Tryz
abbrev fl5(c a b:Int)(d:BA)(ks:LL):SV:=.agg [I c,I a,I b,S d,SL 5 ks]
abbrev sp4(f l a b:Int):SV:=.agg [I f,I l,I a,I b]
abbrev pg3(ev:LL)(t:BA)(r:Int):SV:=.agg [SL 7 ev,S t,I r]
abbrev qy0(r:List SV)(K:Bool->Prop):Prop:=∃a:Bool,(r=[B a])/\K a
abbrev qy1(r:List SV)(K:Int->Int->Int->BA->Int->Int->Int->Prop):Prop:=∃a:Int,∃b:Int,∃c:Int,∃d:BA,∃e:Int,∃f:Int,∃g:Int,(r=[I a,I b,I c,S d,I e,I f,I g])/\K a b c d e f g
abbrev qy2(r:List SV)(K:Int->Int->Int->BA->LL->Prop):Prop:=∃a:Int,∃b:Int,∃c:Int,∃d:BA,∃e:LL,(r=[I a,I b,I c,S d,SL 5 e])/\K a b c d e
abbrev qy3(r:List SV)(K:Int->Prop):Prop:=∃a:Int,(r=[I a])/\K a
def SgT:FuncId->Sig:=(λf=>bif Nat.beq f 46 then⟨[.pure,.pure,.lend []],[]⟩else bif Nat.beq f 54 then⟨[],[.own]⟩else bif Nat.beq f 56 then sgW else bif Nat.beq f 58 then sgW else bif Nat.beq f 59 then sgW else bif Nat.beq f 60 then sgW else bif Nat.beq f 73 then⟨[],[.own]⟩else bif Nat.beq f 94 then⟨[],[.own]⟩else bif Nat.beq f 123 then sgP else bif Nat.beq f 124 then⟨[],[.own,.pure]⟩else bif Nat.beq f 140 then⟨[],[.own]⟩else bif Nat.beq f 142 then⟨[.own],[.own]⟩else bif Nat.beq f 192 then⟨[],[.own,.pure]⟩else bif Nat.beq f 271 then⟨[],[.own]⟩else bif Nat.beq f 293 then⟨[],[.own]⟩else{})
def SvT:TypeId->Sig:=(λf=>{})
def fsel_nf(h:Cl prog 14 sP ([fl5 i j b s l]) (λu=>qy0 u λw=>(ifB (bnot w) (Q ([SL 7 []])) (Cl prog 47 sP ([fl5 i j b s l]) (λt=>∃y,ifB y ((t=[SV.val Value.nilIface])/\∃d:LL->Int->Prop,∃m:LL->Int->Nat,(d [] 0)/\∀c x,(d c x)->ifB (ilt x (rlen r)) ((inR x r)/\qy1 (rget r x) λe g a q k n o=>(Cl prog 48 sP ([SV.val Value.nilIface,SV.agg [I e,I g,I a,S q,I k,I n,I o]]) (λks=>qy0 ks λb3=>(ifB b3 (((lsum (rlen c) (rlen ([[I e,I g,I a,S q,I k,I n,I o]])))<=2147483648)/\(sm ([[I i,I j,I b,S s,SL 5 l]]))/\(d (rapp c ([[I e,I g,I a,S q,I k,I n,I o]])) (wadd .i64 x 1))/\Nl (m (rapp c ([[I e,I g,I a,S q,I k,I n,I o]])) (wadd .i64 x 1)) (m c x)) ((sm ([[I i,I j,I b,S s,SL 5 l]]))/\(d c (wadd .i64 x 1))/\Nl (m c (wadd .i64 x 1)) (m c x)))))) (Q [SL 7 c])) (∃p,∃v:SV,(t=[SV.ifc p v])/\∃d:LL->Int->Prop,∃m:LL->Int->Nat,(d [] 0)/\∀c x,(d c x)->ifB (ilt x (rlen r)) ((inR x r)/\qy1 (rget r x) λe g a q k n o=>(Cl prog 48 sP ([SV.ifc p v,SV.agg [I e,I g,I a,S q,I k,I n,I o]]) (λks=>qy0 ks λb3=>(ifB b3 (((lsum (rlen c) (rlen ([[I e,I g,I a,S q,I k,I n,I o]])))<=2147483648)/\(sm ([[I i,I j,I b,S s,SL 5 l]]))/\(d (rapp c ([[I e,I g,I a,S q,I k,I n,I o]])) (wadd .i64 x 1))/\Nl (m (rapp c ([[I e,I g,I a,S q,I k,I n,I o]])) (wadd .i64 x 1)) (m c x)) ((sm ([[I i,I j,I b,S s,SL 5 l]]))/\(d c (wadd .i64 x 1))/\Nl (m c (wadd .i64 x 1)) (m c x)))))) (Q [SL 7 c]))))))):Ct prog 15 {} [fl5 i j b s l,SL 7 r] Q:=
 fN SgT SvT func15 h
def fgrow_nf(h:ifB (ieq i 2) (Q ([SV.ifc 184 (SV.agg ([SV.clo 104 [],I j,I b]))])) (ifB (ieq i 3) (Q ([SV.ifc 184 (SV.agg ([SV.clo 105 [],I j,I b]))])) (ifB (ieq i 5) (Q ([SV.ifc 184 (SV.agg ([SV.clo 106 [],I j,I j]))])) (ifB (ieq i 4) (Q ([SV.ifc 186 (SV.agg [S s])])) (ifB (ieq i 8) ((inR 0 l)/\qy2 (rget l 0) λx k n a ks=>(Cl prog 47 sP ([fl5 x k n a ks]) (λg=>∃c,ifB c ((g=[SV.val Value.nilIface])/\Q ([SV.ifc 188 (SV.agg [SV.val Value.nilIface])])) (∃d,∃v:SV,(g=[SV.ifc d v])/\Q ([SV.ifc 188 (SV.agg [SV.ifc d v])]))))) (∃e:Int->Bool->LL->Prop,∃m:Int->Bool->LL->Nat,(e 0 (ine i 7) [])/\∀x c ks,(e x c ks)->ifB (ilt x (rlen l)) ((inR x l)/\qy2 (rget l x) λk n o a p=>(Cl prog 47 sP ([fl5 k n o a p]) (λg=>∃q,ifB q ((g=[SV.val Value.nilIface])/\((lsum (rlen ks) (rlen ([[SV.val Value.nilIface]])))<=2147483648)/\(sm ([[I i,I j,I b,S s,SL 5 l]]))/\(e (wadd .i64 x 1) c (rapp ks ([[SV.val Value.nilIface]])))/\Nl (m (wadd .i64 x 1) c (rapp ks ([[SV.val Value.nilIface]]))) (m x c ks)) (∃d,∃v:SV,(g=[SV.ifc d v])/\((lsum (rlen ks) (rlen ([[SV.ifc d v]])))<=2147483648)/\(sm ([[I i,I j,I b,S s,SL 5 l]]))/\(e (wadd .i64 x 1) c (rapp ks ([[SV.ifc d v]])))/\Nl (m (wadd .i64 x 1) c (rapp ks ([[SV.ifc d v]]))) (m x c ks))))) (Q ([SV.ifc 191 (SV.agg [B c,SL 1 ks])])))))))):Ct prog 47 {} [fl5 i j b s l] Q:=
 fN SgT SvT func47 h
def fg1_nf(h:Q [I i]):Ct prog 104 {} [ev7 b i c s e j k] Q:=
 fN SgT SvT func104 h
def fg2_nf(h:Q [I i]):Ct prog 105 {} [ev7 i b c s e j k] Q:=
 fN SgT SvT func105 h
def fg3_nf(h:Q [I i]):Ct prog 106 {} [ev7 b c i s e j k] Q:=
 fN SgT SvT func106 h
def fmS_nf{f:FuncId}{g k l:Int}(h:Cl prog f sP ((SV.agg [I i,I e,I j,S s,I g,I k,I l])::C) (λm=>qy3 m λx=>(Q [B (bpick (ige x b) (ile x c) false)]))):Ct prog 48 {} [.ifc 184 (.agg [.clo f C,I b,I c]),ev7 i e j s g k l] Q:=
 fN SgT SvT func48 h
theorem fmN_nf(n:BA)(b c d:Int)(a:BA)(e g i:Int)(Q:QQ)(h:Q [B (seq a n)]):Ct prog 48 {} [.ifc 186 (.agg [S n]),ev7 b c d a e g i] Q:=
 fN SgT SvT func48 h
def fmI_nf(h:Cl prog 48 sP ([SV.ifc T u,SV.agg [I i,I c,I j,S s,I k,I b,I e]]) (λl=>qy0 l λa=>(Q [B (bnot a)]))):Ct prog 48 {} [.ifc 188 (.agg [.ifc T u]),ev7 i c j s k b e] Q:=
 fN SgT SvT func48 h
def fmG_nf{rows:LL}(h:∃n:Bool->Int->Prop,∃m:Bool->Int->Nat,(n false 0)/\∀l x,(n l x)->ifB (ilt x (rlen rows)) ((inR x rows)/\∃q,ifB q ((rget rows x=[SV.val Value.nilIface])/\Cl prog 48 sP ([SV.val Value.nilIface,SV.agg [I i,I e,I j,S s,I k,I b,I c]]) (λa=>qy0 a λp=>(ifB (bnot (beqB p o)) (Q [B (bnot o)]) ((sm ([[B o,SL 1 rows],[SV.val Value.nilIface],[S (bA [])],[SV.val Value.nilFunc,I 0,I 0],[I i,I e,I j,S s,I k,I b,I c]]))/\(n l (wadd .i64 x 1))/\Nl (m l (wadd .i64 x 1)) (m l x))))) (∃d,∃v:SV,(rget rows x=[SV.ifc d v])/\Cl prog 48 sP ([SV.ifc d v,SV.agg [I i,I e,I j,S s,I k,I b,I c]]) (λa=>qy0 a λp=>(ifB (bnot (beqB p o)) (Q [B (bnot o)]) ((sm ([[B o,SL 1 rows],[SV.val Value.nilIface],[S (bA [])],[SV.val Value.nilFunc,I 0,I 0],[I i,I e,I j,S s,I k,I b,I c]]))/\(n l (wadd .i64 x 1))/\Nl (m l (wadd .i64 x 1)) (m l x)))))) (Q [B o])):Ct prog 48 {} [.ifc 191 (.agg [B o,SL 1 rows]),ev7 i e j s k b c] Q:=
 fN SgT SvT func48 h
abbrev qz0(r:List SV)(K:Bool->Prop):Prop:=∃a:Bool,(r=[B a])/\K a
abbrev qz1(r:List SV)(K:Int->Int->Int->Int->Prop):Prop:=∃a:Int,∃b:Int,∃c:Int,∃d:Int,(r=[sp4 a b c d])/\K a b c d
abbrev qz2(r:List SV)(K:Int->Int->Int->BA->LL->Prop):Prop:=∃a:Int,∃b:Int,∃c:Int,∃d:BA,∃e:LL,(r=[I a,I b,I c,S d,SL 5 e])/\K a b c d e
def sof_nf(h:Cl prog 14 sP ([fl5 c i b s l]) (λg=>qz0 g λa=>(ifB (bnot a) (Q ([sp4 0 0 0 0,I 1])) (Cl prog 130 sP ([fl5 c i b s l]) (λe=>qz1 e λx j k ks=>(Q ([sp4 x j k ks,I 0]))))))):Ct prog 65 {} [fl5 c i b s l] Q:=
 fN SgT SvT func65 h
def sof1_nf{Q:QQ}(h:Cl prog 204 sP [] (λv=>qz1 v λx p q r=>(ifB (ieq i 2) (Cl prog 206 sP ([sp4 x p j b]) (λc=>qz0 c λk=>(ifB k (Cl prog 207 sP [] (λd=>qz1 d λe g ks a=>(Q ([sp4 e g ks a])))) (Q ([sp4 x p j b]))))) (ifB (ieq i 3) (Cl prog 206 sP ([sp4 j b q r]) (λc=>qz0 c λk=>(ifB k (Cl prog 207 sP [] (λd=>qz1 d λe g ks a=>(Q ([sp4 e g ks a])))) (Q ([sp4 j b q r]))))) (ifB (ieq i 6) (Cl prog 205 sP ([SV.ifc 297 (SV.agg []),SL 5 l]) (λc=>qz1 c λe g ks a=>(Cl prog 206 sP ([sp4 e g ks a]) (λd=>qz0 d λk=>(ifB k (Cl prog 207 sP [] (λm=>qz1 m λu t n o=>(Q ([sp4 u t n o])))) (Q ([sp4 e g ks a]))))))) (ifB (ieq i 7) (Cl prog 205 sP ([SV.ifc 298 (SV.agg []),SL 5 l]) (λc=>qz1 c λe g ks a=>(Cl prog 206 sP ([sp4 e g ks a]) (λd=>qz0 d λk=>(ifB k (Cl prog 207 sP [] (λm=>qz1 m λu t n o=>(Q ([sp4 u t n o])))) (Q ([sp4 e g ks a]))))))) (Cl prog 206 sP ([sp4 x p q r]) (λc=>qz0 c λk=>(ifB k (Cl prog 207 sP [] (λd=>qz1 d λe g ks a=>(Q ([sp4 e g ks a])))) (Q ([sp4 x p q r]))))))))))):Ct prog 130 {} [fl5 i j b s l] Q:=
 fN SgT SvT func130 h
def sjM_nf(h:Cl prog 279 sP ([SV.ifc 297 (SV.agg [])]) (λy=>qz1 y λx z A C=>(∃b:Int->Int->Int->Int->Int->Prop,∃m:Int->Int->Int->Int->Int->Nat,(b 0 x z A C)/\∀a c,∀d e g,(b a c d e g)->ifB (ilt a (rlen l)) ((inR a l)/\qz2 (rget l a) λD o p s E=>(Cl prog 130 sP ([fl5 D o p s E]) (λq=>qz1 q λr t u v=>(Cl prog 402 sP ([SV.agg [],sp4 c d e g,sp4 r t u v]) (λw=>qz1 w λi j k n=>((sm ([[I 0,I 0,I 0,I 0]]))/\(b (wadd .i64 a 1) i j k n)/\Nl (m (wadd .i64 a 1) i j k n) (m a c d e g))))))) (Q ([sp4 c d e g]))))):Ct prog 205 {} [.ifc 297 (.agg []),SL 5 l] Q:=
 fN SgT SvT func205 h
def sjL_nf(h:Cl prog 279 sP ([SV.ifc 298 (SV.agg [])]) (λy=>qz1 y λx z A C=>(∃b:Int->Int->Int->Int->Int->Prop,∃m:Int->Int->Int->Int->Int->Nat,(b 0 x z A C)/\∀a c,∀d e g,(b a c d e g)->ifB (ilt a (rlen l)) ((inR a l)/\qz2 (rget l a) λD o p s E=>(Cl prog 130 sP ([fl5 D o p s E]) (λq=>qz1 q λr t u v=>(Cl prog 403 sP ([SV.agg [],sp4 c d e g,sp4 r t u v]) (λw=>qz1 w λi j k n=>((sm ([[I 0,I 0,I 0,I 0]]))/\(b (wadd .i64 a 1) i j k n)/\Nl (m (wadd .i64 a 1) i j k n) (m a c d e g))))))) (Q ([sp4 c d e g]))))):Ct prog 205 {} [.ifc 298 (.agg []),SL 5 l] Q:=
 fN SgT SvT func205 h
def swhole_nf(h:Q ([sp4 0 4294967296 0 1099511627776])):Ct prog 204 {} ([]:List SV) Q:=
 fN SgT SvT func204 h
def sempty_nf(h:Q ([sp4 1 0 1 0])):Ct prog 207 {} ([]:List SV) Q:=
 fN SgT SvT func207 h
def svoid_nf(f l a b:Int)(Q:QQ)(h:Q [B (bpick (igt f l) true (igt a b))]):Ct prog 206 {} [sp4 f l a b] Q:=
 fN SgT SvT func206 h
def ssM_nf(h:Cl prog 204 sP [] (λa=>qz1 a λx b c d=>(Q ([sp4 x b c d])))):Ct prog 279 {} [.ifc 297 (.agg [])] Q:=
 fN SgT SvT func279 h
def ssL_nf(h:Cl prog 332 sP ([SV.agg []]) (λa=>qz1 a λx b c d=>(Q ([sp4 x b c d])))):Ct prog 279 {} [.ifc 298 (.agg [])] Q:=
 fN SgT SvT func279 h
def snone_nf(h:Cl prog 207 sP [] (λa=>qz1 a λx b c d=>(Q ([sp4 x b c d])))):Ct prog 332 {} [.agg []] Q:=
 fN SgT SvT func332 h
def smj_nf{c d e g:Int}(h:Q ([sp4 (imax i c) (imin j d) (imax k e) (imin b g)])):Ct prog 402 {} [.agg [],sp4 i j k b,sp4 c d e g] Q:=
 fN SgT SvT func402 h
def slj_nf{c d e g:Int}(h:Cl prog 206 sP ([sp4 i j k b]) (λl=>qz0 l λa=>(ifB a (Q ([sp4 c d e g])) (Cl prog 206 sP ([sp4 c d e g]) (λf=>qz0 f λb3=>(ifB b3 (Q ([sp4 i j k b])) (Q ([sp4 (imin i c) (imax j d) (imin k e) (imax b g)])))))))):Ct prog 403 {} [.agg [],sp4 i j k b,sp4 c d e g] Q:=
 fN SgT SvT func403 h
def smeets_nf{d fr g n:Int}(h:ifB (ile b k) (Q [B false]) (Q [B (bpick (ile (imax (wadd .i64 k 1) d) (imin b fr)) (ile (imax e g) (imin c n)) false)])):Ct prog 66 {} [sg7 i k b e c j o,sp4 d fr g n] Q:=
 fN SgT SvT func66 h
abbrev qx0(r:List SV)(K:Bool->Prop):Prop:=∃a:Bool,(r=[B a])/\K a
abbrev qx1(r:List SV)(K:Int->Int->Int->Int->Int->Prop):Prop:=∃a:Int,∃b:Int,∃c:Int,∃d:Int,∃e:Int,(r=[sp4 a b c d,I e])/\K a b c d e
abbrev qx2(r:List SV)(K:Int->Int->Int->Int->Int->Int->Bool->Prop):Prop:=∃a:Int,∃b:Int,∃c:Int,∃d:Int,∃e:Int,∃f:Int,∃g:Bool,(r=[I a,I b,I c,I d,I e,I f,B g])/\K a b c d e f g
abbrev qx3(r:List SV)(K:BA->Prop):Prop:=∃a:BA,(r=[S a])/\K a
abbrev qx4(r:List SV)(K:LL->Int->Prop):Prop:=∃a:LL,∃b:Int,(r=[SL 1 a,I b])/\K a b
abbrev qx5(r:List SV)(K:Int->Int->Int->LL->LL->Int->Int->LL->Int->Int->Prop):Prop:=∃a:Int,∃b:Int,∃c:Int,∃d:LL,∃e:LL,∃f:Int,∃g:Int,∃h:LL,∃i:Int,∃z9:Int,(r=[SV.agg [I a,I b,I c,SL 1 d,SL 7 e,I f,I g,SL 1 h,I i,I z9]])/\K a b c d e f g h i z9
abbrev qx6(r:List SV)(K:LL->Prop):Prop:=∃a:LL,(r=[SL 7 a])/\K a
abbrev qx7(r:List SV)(K:Int->Int->Int->BA->Int->Int->Int->Prop):Prop:=∃a:Int,∃b:Int,∃c:Int,∃d:BA,∃e:Int,∃f:Int,∃g:Int,(r=[I a,I b,I c,S d,I e,I f,I g])/\K a b c d e f g
abbrev qx8(r:List SV)(K:Int->Prop):Prop:=∃a:Int,(r=[I a])/\K a
abbrev qx9(r:List SV)(K:LL->Int->Prop):Prop:=∃a:LL,∃b:Int,(r=[SL 7 a,I b])/\K a b
abbrev qx10(r:List SV)(K:Int->Int->Prop):Prop:=∃a:Int,∃b:Int,(r=[I a,I b])/\K a b
abbrev qx11(r:List SV)(K:BA->Int->Prop):Prop:=∃a:BA,∃b:Int,(r=[S a,I b])/\K a b
def qmay_nf(rows:LL)(g c:Int)(d:Bool)(l m:Int)(segs:LL)(n o:Int)(p q:LL)(r s i j:Int)(k:Bool)(t a b:Int)(u:BA)(ks:LL)(e:Int)(Q:QQ)(h:Cl prog 39 sP ([SV.agg [SL 3 rows,I g,I c,B d]]) (λx=>qx0 x λy=>(ifB (bpick y d false) (Q [I 16]) (Cl prog 13 sP ([SV.agg [SL 3 rows,I g,I c,B d,I l,I m,SL 7 segs,I n,I o,SL 1 p,SL 21 q,I r,I s,I i,I j,B k]]) (λv=>qx0 v λz=>(ifB (bnot z) (Q [I 1]) (Cl prog 14 sP ([fl5 t a b u ks]) (λw=>qx0 w λb3=>(ifB (bpick (bpick (bnot b3) true (ilt e 1)) true (igt e 100)) (Q [I 1]) (Q [I 0])))))))))):Ct prog 25 {} [jr16 rows g c d l m segs n o p q r s i j k,fl5 t a b u ks,I e] Q:=
 fN SgT SvT func25 h
def qfind_nf{rows:LL}{segs:LL}{F G y A:Int}{E a C:Int}{ks:LL}{u v:Int}(h:Cl prog 65 sP ([fl5 E a C t ks]) (λrs=>qx1 rs λx H J K x4=>(ifB (ine x4 0) (Q ([SL 7 [],I 0])) (∃q:Int->LL->Int->Prop,∃m:Int->LL->Int->Nat,(q 0 [] 0)/\∀e D g,(q e D g)->ifB (ilt g (rlen segs)) ((inR g segs)/\qx2 (rget segs g) λW Z X M N n b1=>(ifB (ige (rlen D) u) (Q [SL 7 D,I e]) (ifB (ile X v) ((sm ([[I x,I H,I J,I K],[I E,I a,I C,S t,SL 5 ks],[SL 3 rows,I i,I c,B o,I j,I z,SL 7 segs,I k,I b,SL 1 l,SL 21 r,I F,I G,I y,I A,B O]]))/\(q e D (wadd .i64 g 1))/\Nl (m e D (wadd .i64 g 1)) (m e D g)) (Cl prog 66 sP ([SV.agg [I W,I Z,I X,I M,I N,I n,B b1],sp4 x H J K]) (λa0=>qx0 a0 λb2=>(ifB (bnot b2) ((sm ([[I x,I H,I J,I K],[I E,I a,I C,S t,SL 5 ks],[SL 3 rows,I i,I c,B o,I j,I z,SL 7 segs,I k,I b,SL 1 l,SL 21 r,I F,I G,I y,I A,B O]]))/\(q e D (wadd .i64 g 1))/\Nl (m e D (wadd .i64 g 1)) (m e D g)) (Cl prog 68 sP [I W] (λa1=>qx3 a1 λs=>(Cl prog 67 sP ([SV.agg [SL 3 rows,I i,I c,B o],S s]) (λa2=>qx4 a2 λl1 a3=>(ifB (ine a3 0) ((sm ([[I x,I H,I J,I K],[I E,I a,I C,S t,SL 5 ks],[SL 3 rows,I i,I c,B o,I j,I z,SL 7 segs,I k,I b,SL 1 l,SL 21 r,I F,I G,I y,I A,B O]]))/\(q (wadd .i64 e 1) D (wadd .i64 g 1))/\Nl (m (wadd .i64 e 1) D (wadd .i64 g 1)) (m e D g)) (Cl prog 69 sP [SL 1 l1] (λa4=>qx5 a4 λa6 a7 a8 l2 l3 a9 aa l4 ab ac=>(Cl prog 15 sP ([fl5 E a C t ks,SL 7 l3]) (λa5=>qx6 a5 λl5=>(∃w:LL->Int->Prop,∃Y:LL->Int->Nat,(w D 0)/\∀p d,(w p d)->ifB (ilt d (rlen l5)) ((inR d l5)/\qx7 (rget l5 d) λL P R s1 T U V=>(ifB (bpick (igt L v) (ilt (rlen p) u) false) (((lsum (rlen p) (rlen ([[I L,I P,I R,S s1,I T,I U,I V]])))<=2147483648)/\(sm ([[I W,I Z,I X,I M,I N,I n,B b1],[I x,I H,I J,I K],[I E,I a,I C,S t,SL 5 ks],[SL 3 rows,I i,I c,B o,I j,I z,SL 7 segs,I k,I b,SL 1 l,SL 21 r,I F,I G,I y,I A,B O]]))/\(w (rapp p ([[I L,I P,I R,S s1,I T,I U,I V]])) (wadd .i64 d 1))/\Nl (Y (rapp p ([[I L,I P,I R,S s1,I T,I U,I V]])) (wadd .i64 d 1)) (Y p d)) ((sm ([[I W,I Z,I X,I M,I N,I n,B b1],[I x,I H,I J,I K],[I E,I a,I C,S t,SL 5 ks],[SL 3 rows,I i,I c,B o,I j,I z,SL 7 segs,I k,I b,SL 1 l,SL 21 r,I F,I G,I y,I A,B O]]))/\(w p (wadd .i64 d 1))/\Nl (Y p (wadd .i64 d 1)) (Y p d)))) ((sm ([[I x,I H,I J,I K],[I E,I a,I C,S t,SL 5 ks],[SL 3 rows,I i,I c,B o,I j,I z,SL 7 segs,I k,I b,SL 1 l,SL 21 r,I F,I G,I y,I A,B O]]))/\(q (wadd .i64 e 1) p (wadd .i64 g 1))/\Nl (m (wadd .i64 e 1) p (wadd .i64 g 1)) (m e D g)))))))))))))))))) (Q [SL 7 D,I e]))))):Ct prog 27 {} [jr16 rows i c o j z segs k b l r F G y A O,fl5 E a C t ks,I u,I v] Q:=
 fN SgT SvT func27 h
def qall_nf(rows:LL)(d c:Int)(e:Bool)(m n:Int)(segs:LL)(o p:Int)(q r:LL)(s t g i:Int)(j:Bool)(u a b:Int)(v:BA)(ks:LL)(k:Int)(Q:QQ)(h:Cl prog 25 sP ([SV.agg [SL 3 rows,I d,I c,B e,I m,I n,SL 7 segs,I o,I p,SL 1 q,SL 21 r,I s,I t,I g,I i,B j],fl5 u a b v ks,I k]) (λy=>qx8 y λx=>(ifB (ine x 0) (Q ([SL 7 [],I x])) (Cl prog 27 sP ([SV.agg [SL 3 rows,I d,I c,B e,I m,I n,SL 7 segs,I o,I p,SL 1 q,SL 21 r,I s,I t,I g,I i,B j],fl5 u a b v ks,I 9223372036854775807,I 0]) (λw=>qx9 w λl z=>(Q [SL 7 l,I 0])))))):Ct prog 12 {} [jr16 rows d c e m n segs o p q r s t g i j,fl5 u a b v ks,I k] Q:=
 fN SgT SvT func12 h
def qquery_nf{rows:LL}{segs:LL}{g A d t:Int}{m a v:Int}{ks:LL}{tok:BA}(h:Cl prog 25 sP ([SV.agg [SL 3 rows,I e,I i,B o,I j,I k,SL 7 segs,I b,I c,SL 1 l,SL 21 r,I g,I A,I d,I t,B O],fl5 m a v s ks,I z]) (λK=>qx8 K λx=>(ifB (ine x 0) (Q ([pg3 [] (bA []) 0,I x])) (ifB (sne tok (bA [])) (Cl prog 26 sP ([fl5 m a v s ks,S tok]) (λp=>qx10 p λq D=>(ifB (bpick (ine D 0) true (igt q g)) (Q ([pg3 [] (bA []) 0,I 17])) (Cl prog 27 sP ([SV.agg [SL 3 rows,I e,I i,B o,I j,I k,SL 7 segs,I b,I c,SL 1 l,SL 21 r,I g,I A,I d,I t,B O],fl5 m a v s ks,I z,I q]) (λw=>qx9 w λy E=>(ifB (ieq (rlen y) z) ((inR (wsub .i64 z 1) y)/\qx7 (rget y (wsub .i64 z 1)) λH L M n N F u=>(Cl prog 28 sP ([fl5 m a v s ks,I H]) (λJ=>qx11 J λG C=>(ifB (ine C 0) (Q ([pg3 [] (bA []) 0,I C])) (Q ([pg3 y G E,I 0])))))) (Q ([pg3 y (bA []) E,I 0])))))))) (Cl prog 27 sP ([SV.agg [SL 3 rows,I e,I i,B o,I j,I k,SL 7 segs,I b,I c,SL 1 l,SL 21 r,I g,I A,I d,I t,B O],fl5 m a v s ks,I z,I 0]) (λp=>qx9 p λy q=>(ifB (ieq (rlen y) z) ((inR (wsub .i64 z 1) y)/\qx7 (rget y (wsub .i64 z 1)) λD E H n L M N=>(Cl prog 28 sP ([fl5 m a v s ks,I D]) (λw=>qx11 w λG F=>(ifB (ine F 0) (Q ([pg3 [] (bA []) 0,I F])) (Q ([pg3 y G q,I 0])))))) (Q ([pg3 y (bA []) q,I 0]))))))))):Ct prog 9 {} [jr16 rows e i o j k segs b c l r g A d t O,fl5 m a v s ks,I z,S tok] Q:=
 fN SgT SvT func9 h
end Qry
namespace Tok
open Go Go.Px Go.Proofs Cod Jou Qry Tryz
abbrev sm(x:LL):Prop:=Option.some x=Option.some x
abbrev inR(x:Int)(l:LL):Prop:=(0:Int)<=x/\x<rlen l
abbrev qf0(r:List SV)(K:LL->Prop):Prop:=∃a:LL,(r=[SL 1 a])/\K a
abbrev qf1(r:List SV)(K:Int->Int->Int->BA->LL->Prop):Prop:=∃a:Int,∃b:Int,∃c:Int,∃d:BA,∃e:LL,(r=[I a,I b,I c,S d,SL 5 e])/\K a b c d e
abbrev qf2(r:List SV)(K:Bool->Prop):Prop:=∃a:Bool,(r=[B a])/\K a
def SgT:FuncId->Sig:=(λf=>bif Nat.beq f 70 then⟨[],[.own]⟩else bif Nat.beq f 73 then⟨[],[.own]⟩else bif Nat.beq f 142 then⟨[],[.own]⟩else bif Nat.beq f 224 then⟨[],[.own]⟩else{})
def SvT:TypeId->Sig:=(λf=>{})
def fput_nf(rows:LL)(e a b:Int)(g:BA)(ks:LL)(Q:QQ)(h:Cl prog 70 sO [SL 1 rows,U64 (wcv .u64 e)] (λq=>qf0 q λl=>(Cl prog 70 sO [SL 1 l,U64 (wcv .u64 a)] (λi=>qf0 i λr=>(Cl prog 70 sO [SL 1 r,U64 (wcv .u64 b)] (λj=>qf0 j λt=>(Cl prog 224 sO [SL 1 t,S g] (λk=>qf0 k λu=>(Cl prog 70 sO [SL 1 u,U64 (wcv .u64 (rlen ks))] (λn=>qf0 n λv=>(∃c:LL->Int->Prop,∃m:LL->Int->Nat,(c v 0)/\∀d x,(c d x)->ifB (ilt x (rlen ks)) ((inR x ks)/\qf1 (rget ks x) λw y z s A=>(Cl prog 142 sO ([SL 1 d,fl5 w y z s A]) (λo=>qf0 o λp=>((sm ([[I e,I a,I b,S g,SL 5 ks]]))/\(c p (wadd .i64 x 1))/\Nl (m p (wadd .i64 x 1)) (m d x))))) (Q [SL 1 d])))))))))))):Ct prog 142 ⟨[],[.own]⟩ [SL 1 rows,fl5 e a b g ks] Q:=
 fN SgT SvT func142 h
def fbytes_nf(h:Cl prog 14 sP ([fl5 c i b s l]) (λg=>qf2 g λa=>(ifB (bnot a) (Q ([SL 1 []])) (Cl prog 142 sO ([SL 1 [],fl5 c i b s l]) (λe=>qf0 e λks=>(Q [SL 1 ks])))))):Ct prog 73 ⟨[],[.own]⟩ [fl5 c i b s l] Q:=
 fN SgT SvT func73 h
abbrev qg0(r:List SV)(K:Int->Prop):Prop:=∃a:Int,(r=[I a])/\K a
abbrev qg1(r:List SV)(K:LL->Int->Int->Prop):Prop:=∃a:LL,∃b:Int,∃c:Int,(r=[SV.agg [SL 1 a,I b,I c]])/\K a b c
abbrev qg2(r:List SV)(K:LL->Int->Int->Int->Prop):Prop:=∃a:LL,∃b:Int,∃c:Int,∃d:Int,(r=[SV.agg [SL 1 a,I b,I c],U64 d])/\K a b c d
abbrev qg3(r:List SV)(K:Bool->Prop):Prop:=∃a:Bool,(r=[B a])/\K a
abbrev qg4(r:List SV)(K:Int->Bool->Prop):Prop:=∃a:Int,∃b:Bool,(r=[I a,B b])/\K a b
abbrev qg5(r:List SV)(K:BA->Int->Prop):Prop:=∃a:BA,∃b:Int,(r=[S a,I b])/\K a b
def tnum_nf{tok:BA}(h:∃g:Int->Bool->LL->Int->Prop,∃m:Int->Bool->LL->Int->Nat,(g 0 false [] 0)/\∀x b,∀l a,(g x b l a)->ifB (bpick (ilt (wadd .i64 a 1) (slen tok)) (ilt (rlen l) 10) false) (((0<=a)/\a<(slen tok))/\Cl prog 127 sP ([S (bA [48,49,50,51,52,53,54,55,56,57,97,98,99,100,101,102]),U8 (sbyte tok a)]) (λi=>qg0 i λc=>(((0<=(wadd .i64 a 1))/\(wadd .i64 a 1)<(slen tok))/\Cl prog 127 sP ([S (bA [48,49,50,51,52,53,54,55,56,57,97,98,99,100,101,102]),U8 (sbyte tok (wadd .i64 a 1))]) (λe=>qg0 e λd=>(ifB (bpick (ilt c 0) true (ilt d 0)) (Q [I 0,B false]) (((0:Int)<=4)/\((lsum (rlen l) (rlen ([[U8 (wcv .u8 (wor .i64 (wshl .i64 c 4) d))]])))<=2147483648)/\((Option.some []:Option LL)=Option.some [])/\(g x b (rapp l ([[U8 (wcv .u8 (wor .i64 (wshl .i64 c 4) d))]])) (wadd .i64 a 2))/\Nl (m x b (rapp l ([[U8 (wcv .u8 (wor .i64 (wshl .i64 c 4) d))]])) (wadd .i64 a 2)) (m x b l a))))))) (Cl prog 129 sP [SL 1 l] (λi=>qg1 i λk c d=>(Cl prog 128 sP ([SV.agg [SL 1 k,I c,I d]]) (λe=>qg2 e λo p n j=>(ifB (bpick (ine n 0) true (igt j 4294967296)) (Q [I 0,B false]) (Q [I (wcv .i64 j),B true]))))))):Ct prog 64 {} [S tok] Q:=
 fN SgT SvT func64 h
def tread_nf{tok:BA}(h:Cl prog 14 sP ([fl5 c i b s l]) (λa=>qg3 a λj=>(ifB (bnot j) (Q [I 0,I 1]) (Cl prog 64 sP [S tok] (λe=>qg4 e λx k=>(ifB (bnot k) (Q [I 0,I 17]) (Cl prog 28 sP ([fl5 c i b s l,I x]) (λg=>qg5 g λd ks=>(ifB (bpick (ine ks 0) true (sne d tok)) (Q [I 0,I 17]) (Q [I x,I 0])))))))))):Ct prog 26 {} [fl5 c i b s l,S tok] Q:=
 fN SgT SvT func26 h
end Tok
namespace Tok
open Go Go.Px Go.Proofs Cod Jou Qry Seg Tryz
structure Hold(p:Prop):Prop where
 out:p
def castP{p q:Prop}(e:p=q)(h:q):Hold p:=⟨e.symm▸h⟩
def tmake_nf(e a b:Int)(f:BA)(ks:LL)(s:Int)(g:Ex->St->Prop)(h:Cl prog 14 sP ([fl5 e a b f ks]) (λq=>∃c,(q=[B c])/\ifB (bpick (bpick (bnot c) true (ilt s 0)) true (igt s 4294967296)) (g Ex.ret (St.mk ([fl5 e a b f ks,I s,SV.ptr 256 0,SV.unk,S (bA []),I 1,SV.unk,SV.unk,SV.unk,SV.unk,SV.unk,SV.unk,fl5 e a b f ks,B c,B (bnot c),B (bnot c),SV.gd 15 false (I s),SV.gd 15 false (B (ilt s 0)),B (bpick (bnot c) true (ilt s 0)),B (bpick (bnot c) true (ilt s 0)),SV.gd 19 false (I s),SV.gd 19 false (B (igt s 4294967296)),B (bpick (bpick (bnot c) true (ilt s 0)) true (igt s 4294967296)),SV.unk,SV.unk,SV.unk,SV.unk,SV.unk,SV.unk,SV.unk,SV.unk,SV.unk,SV.unk,SV.unk,SV.unk,SV.unk,SV.unk,SV.unk,SV.unk,SV.unk,SV.unk,SV.unk,SV.unk,SV.unk,SV.unk,SV.unk,SV.unk,SV.unk,SV.unk,SV.unk,SV.unk,SV.unk]) ([Prod.mk 256 (Ob.box [I e,I a,I b,S f,SL 5 ks])]))) (Cl prog 70 sO ([SL 1 [],U64 (wcv .u64 s)]) (λk=>∃l,(k=[SL 1 l])/\Cl prog 71 sP [] (λm=>∃d,(m=[SV.arr .u32 256 d])/\Cl prog 73 sO ([fl5 e a b f ks]) (λn=>∃i,(n=[SL 1 i])/\Cl prog 72 sP [SV.arr .u32 256 d,U32 0,SL 1 i] (λo=>∃x,(o=[U32 x])/\Cl prog 72 sP [SV.arr .u32 256 d,U32 x,SL 1 l] (λp=>∃j,(p=[U32 j])/\g Ex.normal (St.mk ([fl5 e a b f ks,I s,SV.ptr 256 0,SV.unk,S (bA []),I 0,SV.osl 3264,SV.ptr 896 0,U32 j,SV.unk,SV.unk,SV.unk,fl5 e a b f ks,B c,B (bnot c),B (bnot c),SV.gd 15 false (I s),SV.gd 15 false (B (ilt s 0)),B (bpick (bnot c) true (ilt s 0)),B (bpick (bnot c) true (ilt s 0)),SV.gd 19 false (I s),SV.gd 19 false (B (igt s 4294967296)),B (bpick (bpick (bnot c) true (ilt s 0)) true (igt s 4294967296)),I s,U64 (wcv .u64 s),SV.osl 3264,SV.arr .u32 256 d,SV.arr .u32 256 d,SV.arr .u32 256 d,fl5 e a b f ks,SV.osl 3904,U32 x,SV.osl 3264,U32 j,SV.unk,SV.unk,SV.unk,SV.unk,SV.unk,SV.unk,SV.unk,SV.unk,SV.unk,SV.unk,SV.unk,SV.unk,SV.unk,SV.unk,SV.unk,SV.unk,SV.unk,SV.unk]) ([Prod.mk 3904 (Ob.own 1 i),Prod.mk 896 (Ob.arr .u32 256 d),Prod.mk 3264 (Ob.own 1 l),Prod.mk 256 (Ob.box [I e,I a,I b,S f,SL 5 ks])])))))))))):
  Hold (vc prog SgT SvT (λ_=>none) (hd 5 (Tryz.f28.body.getD .skip)) (Px.start Tryz.f28 {} [fl5 e a b f ks,I s]) g):=
 castP Vk h
end Tok
namespace Qry
open Go Go.Px Go.Proofs Trm Cod Tryz
mutual
def mean(e:EvD):FlD->Bool
 | .mk d a b f ks=>if d=2 then decide (a<=e.a/\e.a<=b)else if d=3 then decide (a<=e.s/\e.s<=b)else if d=5 then decide (a<=e.k/\e.k<=a)else if d=4 then decide (e.c=f)else
  if d=8 then !(meanA e ks)else if d=7 then meanO e ks else meanA e ks
def meanA(e:EvD):List FlD->Bool
 | []=>true
 |k::ks=>mean e k&&meanA e ks
def meanO(e:EvD):List FlD->Bool
 | []=>false
 |k::ks=>mean e k||meanO e ks
end
structure SpD where
 f:Int
 l:Int
 a:Int
 b:Int
deriving DecidableEq
def whS:SpD:=⟨0,4294967296,0,1099511627776⟩
def emS:SpD:=⟨1,0,1,0⟩
def SpD.void(p:SpD):Bool:=decide (p.l<p.f\/p.b<p.a)
def mosJ(p r:SpD):SpD:=⟨imax p.f r.f,imin p.l r.l,imax p.a r.a,imin p.b r.b⟩
def leaJ(p r:SpD):SpD:=if p.void=true then r else if r.void=true then p else⟨imin p.f r.f,imax p.l r.l,imin p.a r.a,imax p.b r.b⟩
def cutV(p:SpD):SpD:=if p.void=true then emS else p
mutual
def spn:FlD->SpD
 | .mk c a b d ks=>cutV (if c=2 then⟨0,4294967296,a,b⟩else if c=3 then⟨a,b,0,1099511627776⟩else if c=6 then andS whS ks else if c=7 then orS emS ks else whS)
def andS(p:SpD):List FlD->SpD
 | []=>p
 |k::ks=>andS (mosJ p (spn k)) ks
def orS(p:SpD):List FlD->SpD
 | []=>p
 |k::ks=>orS (leaJ p (spn k)) ks
end
def SpD.has(p:SpD)(e:EvD):Prop:=p.f<=e.s/\e.s<=p.l/\p.a<=e.a/\e.a<=p.b
def imax_le:imax i b<=c↔i<=c/\b<=c:=by unfold imax;split<;>omega
def Zop:c<=imax i b↔c<=i\/c<=b:=by unfold imax;split<;>omega
def Zoq:imin i b<=c↔i<=c\/b<=c:=by unfold imin;split<;>omega
def le_imin:c<=imin i b↔c<=i/\c<=b:=by unfold imin;split<;>omega
def Zor{p:SpD}{e:EvD}(h:p.has e):p.void=false:=by
 obtain⟨a,b,c,d⟩:=h;unfold SpD.void;rw[decide_eq_false_iff_not];omega
def has_cut{p:SpD}{e:EvD}(h:p.has e):(cutV p).has e:=by
 unfold cutV;rw[Zor h];exact h
def has_mos{p r:SpD}{e:EvD}(h:p.has e)(k:r.has e):(mosJ p r).has e:=by
 obtain⟨a,b,c,d⟩:=h;obtain⟨f,g,i,j⟩:=k;exact⟨imax_le.2 ⟨a,f⟩,le_imin.2 ⟨b,g⟩,imax_le.2 ⟨c,i⟩,le_imin.2 ⟨d,j⟩⟩
def has_lea{p r:SpD}{e:EvD}(h:p.has e\/r.has e):(leaJ p r).has e:=by
 unfold leaJ;by_cases hp:p.void=true
 .rw[if_pos hp]
  rcases h with h|h
  .rw[Zor h]at hp;cases hp
  .exact h
 rw[if_neg hp];by_cases hr:r.void=true
 .rw[if_pos hr]
  rcases h with h|h
  .exact h
  .rw[Zor h]at hr;cases hr
 rw[if_neg hr]
 rcases h with⟨a,b,c,d⟩|⟨a,b,c,d⟩
 .exact⟨Zoq.2 (.inl a),Zop.2 (.inl b),Zoq.2 (.inl c),Zop.2 (.inl d)⟩
 .exact⟨Zoq.2 (.inr a),Zop.2 (.inr b),Zoq.2 (.inr c),Zop.2 (.inr d)⟩
def Lim(e:EvD):Prop:=0<=e.s/\e.s<=4294967296/\0<=e.a/\e.a<=1099511627776
mutual
def Zos{e:EvD}(j:Lim e):∀f:FlD,mean e f=true->(spn f).has e
 | .mk op a b nm ks,h=>by
  obtain⟨c,d,g,i⟩:=j;rw[mean]at h;rw[spn];refine has_cut ?_;by_cases h2:op=2
  .rw[if_pos h2]at h|-;have h:=of_decide_eq_true h;exact⟨c,d,h.1,h.2⟩
  rw[if_neg h2]at h|-;by_cases h3:op=3
  .rw[if_pos h3]at h|-;have h:=of_decide_eq_true h;exact⟨h.1,h.2,g,i⟩
  rw[if_neg h3]at h|-;by_cases h6:op=6
  .subst h6;rw[if_neg Vd,if_neg Vd,if_neg Vd,if_neg Vd]at h;rw[if_pos rfl];exact Zva ⟨c,d,g,i⟩ ks whS ⟨c,d,g,i⟩ h
  rw[if_neg h6];by_cases h7:op=7
  .subst h7;rw[if_neg Vd,if_neg Vd,if_neg Vd,if_pos rfl]at h;rw[if_pos rfl];exact orS_has ⟨c,d,g,i⟩ ks emS (.inr h)
  rw[if_neg h7];exact⟨c,d,g,i⟩
def Zva{e:EvD}(a:Lim e):∀(ks:List FlD) (p:SpD),p.has e->meanA e ks=true->(andS p ks).has e
 | [],p,hp,_=>hp
 |k::ks,p,hp,h=>by rw[meanA,Bool.and_eq_true]at h;rw[andS];exact Zva a ks _ (has_mos hp (Zos a k h.1)) h.2
def orS_has{e:EvD}(a:Lim e):∀(ks:List FlD) (p:SpD),p.has e\/meanO e ks=true->(orS p ks).has e
 | [],p,h=>by
  rcases h with h|h
  .exact h
  .cases h
 |k::ks,p,h=>by
  rw[orS];apply orS_has a ks
  rcases h with h|h
  .exact .inl (has_lea (.inl h))
  .rw[meanO,Bool.or_eq_true]at h
   rcases h with h|h
   .exact .inl (has_lea (.inr (Zos a k h)))
   .exact .inr h
end
end Qry
namespace Qry
open Go Go.Px Go.Proofs Seg Tryz
open Trm hiding waddN stepL seq_d sne_d
open Cod hiding okA
mutual
def nod:FlD->SV
 | .mk c a b d ks=>if c=2 then .ifc 184 (.agg [.clo 104 [],I a,I b])else if c=3 then .ifc 184 (.agg [.clo 105 [],I a,I b])else if c=5 then .ifc 184 (.agg [.clo 106 [],I a,I a])else if c=4 then .ifc 186 (.agg [S d])else
  if c=8 then .ifc 188 (.agg [hdN ks])else .ifc 191 (.agg [B (ine c 7),SL 1 (nodL ks)])
def hdN:List FlD->SV
 | []=>.unk
 |k::_=>nod k
def nodL:List FlD->LL
 | []=>[]
 |k::ks=>[nod k]::nodL ks
end
def Zl4:∀f:FlD,∃t s,nod f= .ifc t s
 | .mk c a b d ks=>by
  rw[nod]
  repeat' split
  all_goals exact⟨_,_,rfl⟩
theorem Zgh:∀ks:List FlD,nodL ks=ks.map λk=>[nod k]
 | []=>by simp[nodL]
 |k::ks=>by rw[nodL,Zgh ks];rfl
def Zwj(c a b:Int)(d:BA)(ks:List FlD):cnt (.mk c a b d ks)=1+cntL ks:=by rw[cnt]
def grow_fn:∀f:FlD,okA f->cnt f<=1000->Ct prog 47 {} [f.sv] (λr=>r=[nod f]):=by
 refine FlD.ind λc a b E ks F m d=>?_;rw[okA]at m;rw[Zwj]at d;have H:=(Zha ks).1 m.2;have J:=Zgf ks;have j:∀k∈ks,Ct prog 47 {} [k.sv] (λr=>r=[nod k]):=λk p=>F k p (H k p) (by have:=Zgg p;omega);rw[mk_sv];refine fgrow_nf (Zaa (λh=>?_) (λh=>Zaa (λu=>?_) (λu=>Zaa (λv=>?_) (λv=>Zaa (λw=>?_) (λw=>Zaa (λy=>?_) (λy=>?_))))))
 .simp_all[nod]
 all_goals have h:¬c=2:=by simpa using h
 .simp_all[nod]
 all_goals have u:¬c=3:=by simpa using u
 .simp_all[nod]
 all_goals have v:¬c=5:=by simpa using v
 .simp_all[nod]
 all_goals have w:¬c=4:=by simpa using w
 .have y:c=8:=(by simp_all);have K:ks.length=1:=by grind [OkOne]
  obtain⟨k,rfl⟩:∃k,ks=[k]:=by
   match ks,K with
   | [k],_=>exact⟨k,rfl⟩
  obtain⟨o,A,C,D,n,g,z⟩:=Zeb [k] 0 Vs;have g:k=FlD.mk o A C D n:=g;refine⟨⟨Vo,Vs⟩,_,_,_,_,_,z,?_⟩;have d:=j k Vs;rw[g,mk_sv,<-g]at d;obtain⟨t,s,e⟩:=Zl4 k;refine Cl.of d ⟨false,t,s,by rw[e],?_⟩
  grind [nod,hdN]
 have y:¬c=8:=(by simp_all);have L:nod (.mk c a b E ks)= .ifc 191 (.agg [B (ine c 7),SL 1 (nodL ks)]):=(by grind [nod]);rw[L];refine⟨λx G l=>∃i:Nat,x=i/\i<=ks.length/\G=ine c 7/\l=nodL (ks.take i),λx _ _=>ks.length-x.toNat,⟨0,rfl,Nat.zero_le _,rfl,by simp[nodL]⟩,?_⟩;rintro _ _ _ ⟨i,rfl,hi,rfl,rfl⟩;refine Zaa (λq=>?_) (λq=>?_)
 .have q:i<ks.length:=(by simpa using q);obtain⟨o,A,C,D,n,g,z⟩:=Zeb ks i q;refine⟨⟨Vo,by simpa using q⟩,_,_,_,_,_,z,?_⟩;have d:=j ks[i] (List.getElem_mem q);rw[g,mk_sv,<-g]at d;obtain⟨t,s,e⟩:=Zl4 ks[i];refine Cl.of d ⟨false,t,s,by rw[e],?_⟩;have M:(nodL (ks.take i)).length=i:=(by grind [Zgh]);rw[waddN _ Vo];refine⟨?_,rfl,⟨i+1,rfl,Vo,rfl,?_⟩,stepL Vm⟩
  .grind [lsum,rlen]
  .rw[Zgh,Zgh,List.take_succ_eq_append_getElem q,List.map_append,List.map_cons,List.map_nil,e];rfl
 .have q:i=ks.length:=by simp at q;omega
  grind
def g1_fn(e:EvD):Ct prog 104 {} [.agg [I e.s,I e.a,I e.k,S e.c,I e.x,I e.y,I e.z]] (λr=>r=[I e.a]):=fg1_nf rfl
def g2_fn(e:EvD):Ct prog 105 {} [.agg [I e.s,I e.a,I e.k,S e.c,I e.x,I e.y,I e.z]] (λr=>r=[I e.s]):=fg2_nf rfl
def g3_fn(e:EvD):Ct prog 106 {} [.agg [I e.s,I e.a,I e.k,S e.c,I e.x,I e.y,I e.z]] (λr=>r=[I e.k]):=fg3_nf rfl
abbrev evS(e:EvD):SV:=.agg [I e.s,I e.a,I e.k,S e.c,I e.x,I e.y,I e.z]
theorem Zl5(e:EvD):∀ks:List FlD,meanA e ks=true↔∀k∈ks,mean e k=true
 | []=>by simp[meanA]
 |k::ks=>by rw[meanA,Bool.and_eq_true,Zl5 e ks];simp
theorem Zl6(e:EvD):∀ks:List FlD,meanO e ks=false↔∀k∈ks,mean e k=false
 | []=>by simp[meanO]
 |k::ks=>by rw[meanO,Y05,Zl6 e ks];simp
def span_B:bpick (ige i j) (ile i b) false=decide (j<=i/\i<=b):=by
 simp_all
def means_fn(e:EvD):∀f:FlD,Trm.okA f->cnt f<=1000->Ct prog 48 {} [nod f,evS e] (λr=>r=[B (mean e f)]):=by
 refine FlD.ind λd a b F ks C p w=>?_;rw[Trm.okA]at p;rw[Zwj]at w;have A:=Zgf ks;have g:=(Zha ks).1 p.2;have l:∀k∈ks,Ct prog 48 {} [nod k,evS e] (λr=>r=[B (mean e k)]):=λk v=>C k v (g k v) (by have:=Zgg v;omega);rw[nod,mean];by_cases h:d=2
 .rw[if_pos h,if_pos h];refine fmS_nf (Cl.of (g1_fn e) ⟨_,rfl,congrArg (λb=>[B b]) span_B⟩)
 rw[if_neg h,if_neg h];by_cases h3:d=3
 .rw[if_pos h3,if_pos h3];refine fmS_nf (Cl.of (g2_fn e) ⟨_,rfl,congrArg (λb=>[B b]) span_B⟩)
 rw[if_neg h3,if_neg h3];by_cases h5:d=5
 .rw[if_pos h5,if_pos h5];refine fmS_nf (Cl.of (g3_fn e) ⟨_,rfl,congrArg (λb=>[B b]) span_B⟩)
 rw[if_neg h5,if_neg h5];by_cases h4:d=4
 .grind [Px.seq_d,fmN_nf]
 rw[if_neg h4,if_neg h4];by_cases h8:d=8
 .rw[if_pos h8,if_pos h8];have D:ks.length=1:=by grind [OkOne]
  obtain⟨k,rfl⟩:∃k,ks=[k]:=by
   match ks,D with
   | [k],_=>exact⟨k,rfl⟩
  obtain⟨t,s,o⟩:=Zl4 k;have m:=l k Vs;rw[hdN,o];rw[o]at m;refine fmI_nf (Cl.of m ⟨_,rfl,?_⟩);simp[meanA,bnot]
 rw[if_neg h8,if_neg h8]
 have E:∀c:Bool,Ct prog 48 {} [.ifc 191 (.agg [B c,SL 1 (nodL ks)]),evS e] (λr=>r=[B (bif c then meanA e ks else meanO e ks)]):=by
  intro c;have n:(nodL ks).length=ks.length:=by rw[Zgh];simp
  refine fmG_nf ⟨λ_ x=>∃i:Nat,x=i/\i<=ks.length/\∀j (u:j<ks.length),j<i->mean e ks[j]=c,λ_ x=>ks.length-x.toNat,⟨0,rfl,Nat.zero_le _,λj _ u=>Vo⟩,?_⟩;rintro _ _ ⟨i,rfl,hi,hall⟩;refine Zaa (λq=>?_) (λq=>?_)
  .have q:i<ks.length:=(by simp_all);obtain⟨t,s,o⟩:=Zl4 ks[i];have y:rget (nodL ks) (i:Int)=[nod ks[i]]:=(by grind [Zgh,Zah]);have m:=l ks[i] (List.getElem_mem q);rw[o]at m y;refine⟨⟨Vo,by simpa[n]using q⟩,false,t,s,y,Cl.of m ⟨_,rfl,Zaa (λz=>?_) (λz=>?_)⟩⟩
   .have z:mean e ks[i]≠c:=by
     simp_all
    grind [bnot,meanA,Zl5,meanO,Zl6]
   .have z:mean e ks[i]=c:=by
     simp_all
    rw[waddN _ Vo]
    grind
  .have q:i=ks.length:=by simp[n]at q;omega
   cases c with
   |true=>
    have:meanA e ks=true:=(Zl5 e ks).2 λk g=>by
     obtain⟨j,u,rfl⟩:=List.mem_iff_getElem.1 g
     grind
    simp[this]
   |false=>
    have:meanO e ks=false:=(Zl6 e ks).2 λk g=>by
     obtain⟨j,u,rfl⟩:=List.mem_iff_getElem.1 g
     grind
    simp[this]
 grind [ine]
open Classical in
noncomputable def selF(f:FlD)(l:List EvD):List EvD:=if Rgt f then l.filter (mean · f)else[]
def sel_fn(f:FlD)(j:smF f)(l:List EvD)(v:l.length<=100000000):Ct prog 15 {} [f.sv,SL 7 (evR l)] (λr=>r=[SL 7 (evR (selF f l))]):=by
 obtain⟨c,a,b,d,ks⟩:=f;have k:=Zcu _ j;rw[mk_sv]at k|-;refine fsel_nf (Cl.of k ⟨_,rfl,Zaa (λz=>?_) (λz=>?_)⟩)
 .have z:¬Rgt (.mk c a b d ks):=λq=>by rw[dB_t q]at z;cases z
  grind [selF]
 .have z:Rgt (.mk c a b d ks):=Zjc.1 (by cases h:dB (Rgt (.mk c a b d ks))<;>simp_all[bnot]);have g:=grow_fn _ z.1 (by have:=z.2.1;omega);have m:=λe=>means_fn e _ z.1 (by have:=z.2.1;omega);obtain⟨t,s,o⟩:=Zl4 (.mk c a b d ks);rw[mk_sv]at g;rw[o]at g m;have p:selF (.mk c a b d ks) l=l.filter (mean · (.mk c a b d ks)):=(by grind [selF]);rw[p];refine Cl.of g ⟨false,t,s,rfl,?_⟩;refine⟨λn x=>∃i:Nat,x=i/\i<=l.length/\n=evR ((l.take i).filter (mean · (.mk c a b d ks))),λ_ x=>l.length-x.toNat,⟨0,rfl,Nat.zero_le _,rfl⟩,?_⟩;rintro _ _ ⟨i,rfl,hi,rfl⟩;refine Zaa (λq=>?_) (λq=>?_)
  .have q:i<l.length:=(by simpa using q);have u:=List.length_filter_le (mean · (.mk c a b d ks)) (l.take i);rw[List.length_take]at u;rw[waddN _ Vo];refine⟨⟨Vo,by simpa using q⟩,_,_,_,_,_,_,_,Zah _ _ _ q,Cl.of (m l[i]) ⟨_,rfl,Zaa (λy=>⟨?_,rfl,⟨i+1,rfl,Vo,?_⟩,stepL Vm⟩) (λy=>⟨rfl,⟨i+1,rfl,Vo,?_⟩,stepL Vm⟩)⟩⟩
   .grind [lsum,rlen]
   .rw[List.take_succ_eq_append_getElem q,List.filter_append];simp[rapp,y]
   .rw[List.take_succ_eq_append_getElem q,List.filter_append];simp[y]
  .have q:i=l.length:=by simp at q;omega
   grind
end Qry
namespace Tok
open Go Go.Px Go.Proofs Qry Tryz
open Trm hiding waddN stepL seq_d sne_d
open Cod hiding okA
mutual
def fby:FlD->List Int
 | .mk d a b c ks=>leb d.toNat++leb a.toNat++leb b.toNat++leb c.size++txB c++leb ks.length++fbyL ks
def fbyL:List FlD->List Int
 | []=>[]
 |k::ks=>fby k++fbyL ks
end
def Zvj:∀a b:List FlD,fbyL (a++b)=fbyL a++fbyL b
 | [],b=>by simp[fbyL]
 |k::a,b=>by simp[fbyL,Zvj a b]
mutual
def fby_len:∀f:FlD,okA f->cnt f<=1000->(fby f).length<=100*cnt f
 | .mk op a b nm ks,h,hc=>by
  rw[okA]at h;rw[cnt]at hc;obtain⟨c,d⟩:=h;have e:=Zox ks d Vo;have g:op.toNat<=8/\a.toNat<=1099511627776/\b.toNat<=1099511627776/\nm.size<=24:=by unfold OkOne at c;omega
  have i:=Zgf ks;have j:=leb_small (n:=op.toNat);have k:=leb_small (n:=a.toNat);have l:=leb_small (n:=b.toNat);have m:=leb_small (n:=nm.size)
  have o:(txB nm).length<=24:=by
   simp_all[txB]
  grind [fby,cnt,List.length_append,leb_small]
def Zox:∀ks:List FlD,okL ks->cntL ks<=1000->(fbyL ks).length<=100*cntL ks
 | [],_,_=>by simp[fbyL]
 |k::ks,h,hc=>by rw[okL]at h;rw[cntL]at hc;have:=fby_len k h.1 Vo;have:=Zox ks h.2 Vo;rw[fbyL,cntL,List.length_append];omega
end
def put_fn:∀f:FlD,okA f->cnt f<=500->∀l:List Int,l.length+100*cnt f<=90000->Ct prog 142 ⟨[],[.own]⟩ [SL 1 (bR l),f.sv] (λr=>r=[SL 1 (bR (l++fby f))]):=by
 refine FlD.ind λd a b c ks u e h l v=>?_;rw[okA]at e;rw[Zwj]at h v;have s:=(Zha ks).1 e.2;have C:=Zgf ks;have j:∀k∈ks,∀l:List Int,l.length+100*cnt k<=90000->Ct prog 142 ⟨[],[.own]⟩ [SL 1 (bR l),k.sv] (λr=>r=[SL 1 (bR (l++fby k))]):=λk g=>u k g (s k g) (by have:=Zgg g;omega);have D:0<=d/\d<=8/\0<=a/\a<=1099511627776/\0<=b/\b<=1099511627776/\c.size<=24:=by have E:=e.1;unfold OkOne at E;omega
 obtain⟨w,H,y,J,z,K,M⟩:=D;have Q:=leb_small (n:=d.toNat);have R:=leb_small (n:=a.toNat);have T:=leb_small (n:=b.toNat);have U:=leb_small (n:=c.size);have V:=leb_small (n:=ks.length);have W:(txB c).length=c.size:=(by simp[txB]);have t:=λi=>Zox (ks.take i) ((Zha _).2 λk g=>s k (List.mem_of_mem_take g)) (by have:=Zd0 ks i;omega);rw[mk_sv];refine fput_nf _ _ _ _ _ _ _ ?_;rw[Zcf,Zcf,Zcf,show rlen (ks.map FlD.row)=(ks.length:Int) by simp,Zcf]
 refine Cl.of (Zaq l d w Vo Vo) ⟨_,rfl,Cl.of (Zaq _ a y Vo (by rw[List.length_append];omega)) ⟨_,rfl,Cl.of (Zaq _ b z Vo (by simp only[List.length_append];omega)) ⟨_,rfl,
  Cl.of (Znc _ c (by simp only[List.length_append];omega) Vo) ⟨_,rfl,Cl.of (Zaq _ ks.length Vo Vo (by simp only[List.length_append];omega)) ⟨_,rfl,?_⟩⟩⟩⟩⟩
 generalize hL:l++leb d.toNat++leb a.toNat++leb b.toNat++leb c.size++txB c++leb (ks.length:Int).toNat=L;have G:L.length<=l.length+74:=Vg;have m:l++fby (.mk d a b c ks)=L++fbyL ks:=(by grind [fby]);rw[m];refine⟨λr x=>∃i:Nat,x=i/\i<=ks.length/\r=bR (L++fbyL (ks.take i)),λ_ x=>ks.length-x.toNat,⟨0,rfl,Nat.zero_le _,by simp[fbyL]⟩,?_⟩;rintro _ _ ⟨i,rfl,hi,rfl⟩;refine Zaa (λq=>?_) (λq=>?_)
 .have q:i<ks.length:=(by simpa using q);obtain⟨o,N,O,P,F,p,A⟩:=Zeb ks i q;have t:=t i
  have X:cntL (ks.take i)+cnt ks[i]<=cntL ks:=by
   have:=Zd0 ks (i+1);rw[List.take_succ_eq_append_getElem q,Zj5]at this
   grind [cntL]
  have h:=j ks[i] (List.getElem_mem q) (L++fbyL (ks.take i)) (by rw[List.length_append];omega);rw[p,mk_sv,<-p]at h;refine⟨⟨Vo,by simpa using q⟩,_,_,_,_,_,A,Cl.of h ⟨_,rfl,rfl,?_,?_⟩⟩
  all_goals rw[waddN _ Vo]
  .exact⟨i+1,rfl,Vo,by rw[List.take_succ_eq_append_getElem q,Zvj];simp[fbyL]⟩
  grind
 .have q:i=ks.length:=by simp at q;omega
  grind
def bytes_fn(f:FlD)(d:smF f)(h:Rgt f):Ct prog 73 ⟨[],[.own]⟩ [f.sv] (λr=>r=[SL 1 (bR (fby f))]):=by
 have c:=Zcu f d;have e:=put_fn f h.1 (by have:=h.2.1;omega) [] (by have:=h.2.1;simp;omega);obtain⟨g,a,b,i,ks⟩:=f;generalize hF:Rgt (FlD.mk g a b i ks)=RF at c h;rw[mk_sv]at c e|-;refine fbytes_nf (Cl.of c ⟨_,rfl,Zaa (λq=>?_) (λq=>Cl.of e ⟨_,rfl,?_⟩)⟩)
 .simp[dB,h]at q
 .rfl
end Tok
namespace Tok
open Go Go.Px Go.Proofs Go.RowKit Qry Tryz
open Trm hiding waddN stepL seq_d sne_d
open Cod hiding okA
def Zt2(s:BA)(c:Int):Ct prog 127 {} [S s,U8 c] (λr=>r=[I (Lib.indexByte s.data.toList c.toNat.toUInt8)]):=by
 refine Zgw func127 Vk (λe=>?_) [.string s,.int .u8 c] (.int .i64 (Lib.indexByte s.data.toList c.toNat.toUInt8)) (λh w a b=>?_)
 .have:(Tryz.f127.name== "runtime.NumGoroutine")=false:=Vk
  grind
 .refine(Tryz.strings_IndexByte s c w).mono ?_;rintro e d ⟨rfl,rfl⟩;exact⟨rfl,Below.refl _ _⟩
abbrev hexS:List UInt8:=[48,49,50,51,52,53,54,55,56,57,97,98,99,100,101,102]
def Zzy(n:Nat)(h:n<16):Lib.indexByte hexS (hd1 n)=n:=by
 have:∀m:Fin 16,Lib.indexByte hexS (hd1 m.val)=m.val:=Vd;exact this ⟨n,h⟩
def hex_put(c:Nat)(h:c<256):wcv IntKind.u8 (wor IntKind.i64 (wshl IntKind.i64 ((c/16:Nat):Int) 4) ((c%16:Nat):Int))=c:=by
 have:∀m:Fin 256,wcv IntKind.u8 (wor IntKind.i64 (wshl IntKind.i64 ((m.val/16:Nat):Int) 4) ((m.val%16:Nat):Int))=m.val:=(by decide+kernel);exact this ⟨c,h⟩
abbrev natsL(L:List UInt8):List Int:=L.map λb=>(b.toNat:Int)
def Zmn:∀L:List UInt8,(L.flatMap hx).length=2*L.length
 | []=>rfl
 |c::L=>by rw[Yg,List.length_append,Zmn L];simp[hx];omega
def hx_get:∀(L:List UInt8) (i:Nat) (h:i<L.length),(L.flatMap hx)[2*i]?=some (hd1 (L[i].toNat/16))/\(L.flatMap hx)[2*i+1]?=some (hd1 (L[i].toNat%16))
 |c::L,0,_=>by simp[hx]
 |c::L,i+1,h=>by
  have:=hx_get L i (by simpa using h)
  grind [Nat.mul_add,hx,hd1]
def Zt3{w:Tx}{c:UInt8}(a:0<=i)(h:w[i.toNat]?=some c):sbyte (bT w) i=(c.toNat:Int):=by
 simp_all[Array.getD_eq_getD_getElem?,sbyte,bT]
def wcvB0(x:Int):0<=wcv .u8 x/\wcv .u8 x<256:=by
 grind [wcv,IntKind.wrap,IntKind.bits,IntKind.signed]
def wcvB(x:Int):0<=wcv .u8 x/\wcv .u8 x<=255:=by have:=wcvB0 x;omega
def NumR(tok:BA)(x:Int)(b:Bool):Prop:=(b=true->0<=x/\x<=4294967296)/\(∀(L:List UInt8) (n:Nat) (a:List Int),tok=bT (L.flatMap hx)->L.length<=10->natsL L=leb n++a->n<=4294967296->x=n/\b=true)
def num_fn(tok:BA)(G:tok.size<=1000):Ct prog 64 {} [S tok] (λr=>∃x b,r=[I x,B b]/\NumR tok x b):=by
 refine tnum_nf ?_;refine⟨λx b l k=>x=0/\b=false/\∃i:Nat,∃Z:List Int,k=2*i/\i<=10/\l=bR Z/\Z.length=i/\Byts Z/\∀L:List UInt8,tok=bT (L.flatMap hx)->L.length<=10->i<=L.length/\Z=natsL (L.take i),λ_ _ _ k=>20-k.toNat,⟨rfl,rfl,0,[],rfl,Vo,rfl,rfl,λx hx=>(by cases hx),λL _ _=>⟨Vo,rfl⟩⟩,?_⟩;rintro _ _ _ _ ⟨rfl,rfl,i,Z,rfl,hi,rfl,hZ,hB,hX⟩;have j:∀L:List UInt8,tok=bT (L.flatMap hx)->tok.size=2*L.length:=λL e=>by rw[e,<-Zmn L];simp[ByteArray.size]
 have w1:wadd IntKind.i64 (2*(i:Int)) 1=2*i+1:=Zac;have w2:wadd IntKind.i64 (2*(i:Int)) 2=2*((i+1:Nat):Int):=(by rw[Zac];omega);rw[w1,w2];refine Zaa (λq=>?_) (λq=>?_)
 .have q:2*i+1<tok.size/\i<10:=(by simp[bpick,slen_eq,hZ]at q;omega);refine⟨⟨Vo,by rw[slen_eq];omega⟩,Cl.of (Zt2 _ _) ⟨_,rfl,⟨Vo,by rw[slen_eq];omega⟩,Cl.of (Zt2 _ _) ⟨_,rfl,?_⟩⟩⟩
  have hd:∀L:List UInt8,tok=bT (L.flatMap hx)->L.length<=10->∃h:i<L.length,Lib.indexByte hexS (sbyte tok (2*(i:Int))).toNat.toUInt8=((L[i].toNat/16:Nat):Int)/\Lib.indexByte hexS (sbyte tok (2*(i:Int)+1)).toNat.toUInt8=((L[i].toNat%16:Nat):Int):=λL e d=>by
   have C:=j L e;have h:i<L.length:=Vo;obtain⟨w,y⟩:=hx_get L i h;have D:L[i].toNat<256:=UInt8.toNat_lt _;refine⟨h,?_,?_⟩
   .rw[e,Zt3 (c:=hd1 (L[i].toNat/16)) Vo (by rw[show(2*(i:Int)).toNat=2*i by omega];exact w)]
    simpa using Zzy (L[i].toNat/16) Vo
   .rw[e,Zt3 (c:=hd1 (L[i].toNat%16)) Vo (by rw[show(2*(i:Int)+1).toNat=2*i+1 by omega];exact y)]
    simpa using Zzy (L[i].toNat%16) Vo
  change∀L:List UInt8,tok=bT (L.flatMap hx)->L.length<=10->∃h:i<L.length,Lib.indexByte (ByteArray.mk (Array.mk hexS)).data.toList (sbyte tok (2*(i:Int))).toNat.toUInt8=((L[i].toNat/16:Nat):Int)/\Lib.indexByte (ByteArray.mk (Array.mk hexS)).data.toList (sbyte tok (2*(i:Int)+1)).toNat.toUInt8=((L[i].toNat%16:Nat):Int)at hd
  generalize Lib.indexByte (ByteArray.mk (Array.mk hexS)).data.toList (sbyte tok (2*(i:Int))).toNat.toUInt8=A at hd|-;generalize Lib.indexByte (ByteArray.mk (Array.mk hexS)).data.toList (sbyte tok (2*(i:Int)+1)).toNat.toUInt8=B at hd|-;refine Zaa (λv=>?_) (λv=>?_)
  .refine⟨0,false,rfl,λz=>(by cases z),λL n a e d _ _=>?_⟩;obtain⟨_,o,p⟩:=hd L e d;rw[o,p]at v;simp[bpick]at v;omega
  .refine⟨Vo,by simp[lsum,rlen,hZ];omega,rfl,⟨rfl,rfl,i+1,Z++[wcv IntKind.u8 (wor IntKind.i64 (wshl IntKind.i64 A 4) B)],rfl,Vo,by simp[rapp],by simp[hZ],?_,λL e d=>?_⟩,stepL (by dsimp only;omega)⟩
   .intro x hx
    rcases List.mem_append.1 hx with hx|hx
    .exact hB x hx
    simp_all[hx,wcvB]
   .obtain⟨h,o,p⟩:=hd L e d;refine⟨Vo,?_⟩;rw[o,p,hex_put _ (UInt8.toNat_lt _),(hX L e d).2,List.take_succ_eq_append_getElem h]
    grind
 .refine Cl.of (Zju Z) ⟨_,_,_,rfl,Cl.ofQ (Ze2 Z 0 0 Vo hB) ?_⟩;rintro _ ⟨a',er',n,rfl,hU,-⟩;have E:=hU.n0;have F:=hU.n1;have t:∀(L:List UInt8) (m:Nat) (a:List Int),tok=bT (L.flatMap hx)->L.length<=10->natsL L=leb m++a->m<=4294967296->er'=0/\n=m:=λL m a e d f g=>by have C:=j L e;obtain⟨H,s⟩:=hX L e d;have u:i=L.length:=(by simp[bpick,slen_eq,hZ]at q;omega);rw[u,Y7]at s;have:=hU.good rfl Vo m a (by rw[s,<-f];rfl) Vo;exact this.2
  refine⟨_,_,_,_,rfl,Zaa (λv=>?_) (λv=>?_)⟩
  .refine⟨0,false,rfl,λz=>(by cases z),λL m a e d f g=>?_⟩;have:=t L m a e d f g;simp[bpick,this.1]at v;omega
  .have v:er'=0/\n<=4294967296:=(by simp_all);rw[Zh1];refine⟨n,true,rfl,λ_=>Vo,λL m a e d f g=>⟨(t L m a e d f g).2,rfl⟩⟩
end Tok
namespace Tok
open Go Go.Px Go.Proofs Go.RowKit Qry Seg Tryz
open Trm hiding waddN stepL seq_d sne_d
open Cod hiding okA
def Zyd{d:Func}{h:Hp}{g:Nat->Px.Loc}{w:World}{b:Array Value}(n:HSub h w)(q:Gl h w)(k:Zrf h g b.toList C):
  FitsAt {w:=w,h:=h,G:=λ_=>False,pin:=λ_=>none} h g (Px.start d {} C) {tmps:=b++Array.replicate (d.ntmps-b.size) undef,defers:=[]} w:=by
 have hst:Px.start d {} C={tmps:=C++List.replicate (d.ntmps-C.length) .unk,objs:=[]}:=(by unfold Px.start;rw[Za5]);have f:b.size=C.length:=(by have:=k.1;simpa using this);rw[hst];refine⟨by simp[f],λt s c=>?_,rfl,n,λid o r=>(by simp[oget]at r),λi j ⟨⟨o,e⟩,_⟩=>(by simp[oget]at e),λi ⟨⟨o,e⟩,_⟩=>(by simp[oget]at e),HLe.refl _,λ_ _ _ _ e=>e,Keeps.refl _ _,λid l u=>(by cases u),q,λp _ e=>e⟩;simp only[]at c;rw[List.getElem?_append]at c;by_cases ht:t<C.length
 .rw[if_pos ht]at c
  have m:(b++Array.replicate (d.ntmps-b.size) undef).getD t undef=b[t]'Vo:=by
   simp_all[YU]
  simp only[m];exact TRep.of_rep' (k.2 t _ s Vs c)
 .grind [TRep.rep_unk]
def smK(f:FlD)(n:Nat):Int:=sumL (leb n) (sumL (fby f) 0)
def MkQ(f:FlD)(s:Int):Ex->St->Prop
 | .normal,st=>(Rgt f/\0<=s/\s<=4294967296)/\st.tmps.length=52/\lget st.tmps 6= .osl 3264/\oget st.objs 3264=some (.own 1 (bR (leb s.toNat)))/\lget st.tmps 8=U32 (smK f s.toNat)
 | .ret,st=>¬(Rgt f/\0<=s/\s<=4294967296)/\lget st.tmps 4=S (ByteArray.mk #[])/\lget st.tmps 5=I 1
 | .exit _,_=>False
def Zye(f:FlD)(c:smF f)(s:Int):Hold (vc prog SgT SvT (λ_=>none) (hd 5 (Tryz.f28.body.getD .skip)) (Px.start Tryz.f28 {} [f.sv,I s]) (MkQ f s)):=by
 have d:=Zcu f c;have e:=bytes_fn f c;have k:Rgt f->(fby f).length<=1000000:=λh=>by have:=fby_len f h.1 (by have:=h.2.1;omega);have:=h.2.1;omega
 unfold MkQ smK;generalize fby f=F at*;obtain⟨g,a,b,i,ks⟩:=f;generalize hRF:Rgt (FlD.mk g a b i ks)=RF at*;rw[mk_sv]at d e|-;refine tmake_nf _ _ _ _ _ _ _ (Cl.of d ⟨_,rfl,Zaa (λq=>?_) (λq=>?_)⟩)
 .refine⟨?_,rfl,rfl⟩;rintro⟨j,l,m⟩;simp[bpick,bnot,dB,j]at q;omega
 .have q:RF/\0<=s/\s<=4294967296:=(by simp[bpick,bnot,dB]at q;exact⟨q.1.1,Vo,Vo⟩);have n:=Zee 4 s.toNat Vo;refine Cl.of (Zaq [] (wcv .u64 s) (by rw[Zcf];exact q.2.1) (by rw[Zcf];omega) Vs) ⟨_,rfl,Cl.of Zig ⟨_,rfl,Cl.of (e q.1) ⟨_,rfl,Cl.of (Zto F 0 (k q.1)) ⟨_,rfl,Cl.of (Zto ([]++leb (wcv .u64 s).toNat) _ (by rw[Zcf];simp;omega)) ⟨_,rfl,?_⟩⟩⟩⟩⟩;rw[Zcf];exact⟨q,rfl,rfl,rfl,rfl⟩
set_option maxHeartbeats 4000000
open Trm hiding waddN stepL seq_d sne_d
open Cod hiding okA
def l52{l:List Value}(h:l.length=52):∃V W X Y Z a0 a1 a2 a3 a4 a b c d e f g i j k m n o p q r s t u v w x y z A C D E F G H J K L M N O P Q R T U,l=[V,W,X,Y,Z,a0,a1,a2,a3,a4,a,b,c,d,e,f,g,i,j,k,m,n,o,p,q,r,s,t,u,v,w,x,y,z,A,C,D,E,F,G,H,J,K,L,M,N,O,P,Q,R,T,U]:=match l,h with
 |V::W::X::Y::Z::a0::a1::a2::a3::a4::a::b::c::d::e::f::g::i::j::k::m::n::o::p::q::r::s::t::u::v::w::x::y::z::A::C::D::E::F::G::H::J::K::L::M::N::O::P::Q::R::T::U::[],_=>⟨_,_,_,_,_,_,_,_,_,_,_,_,_,_,_,_,_,_,_,_,_,_,_,_,_,_,_,_,_,_,_,_,_,_,_,_,_,_,_,_,_,_,_,_,_,_,_,_,_,_,_,_,rfl⟩
def shN:Nat->Int->Int
 |0,s=>s
 |k+1,s=>shN k s/256
def by4(s:Int):List UInt8:=(List.range 4).map λk=>(shN k s%256).toNat.toUInt8
def make_tail(a:Act)(w:World)(L:List UInt8)(f off o:Nat)(s:Int)(R:Ending->World->Prop)(z:a.tmps.size=52)(hd:a.defers=[])(p:a.tmps.getD 6 undef= .slice (some ⟨f,off,none⟩) L.length o)(q:a.tmps.getD 8 undef= .int .u32 s)(hL:L.length<=10)
  (r:∀(i:Nat) (h:i<L.length),w.cell? ⟨f,off+i,none⟩=some (.int .u8 (L[i].toNat:Int)))
  (A:∀u,Below w.heap.size w u->R (.returned (.tuple #[.string (bT ((L++by4 s).flatMap hx)),.int .i64 0])) u):
  (tl 5 (Tryz.f28.body.getD .skip)).wp prog (bodyPost prog Tryz.f28 R) a w:=by
 obtain⟨⟨l⟩,df⟩:=a;obtain⟨x0,x1,x2,x3,x4,x5,x6,x7,x8,x9,F,G,H,J,K,M,N,O,P,Q,T,U,V,W,X,Y,Z,a0,a1,a2,a3,a4,a5,a6,a7,a8,a9,aa,ab,ac,ad,ae,af,ag,ah,ai,aj,ak,al,am,an,ao,rfl⟩:=l52 (by simpa using z);simp at p q hd;subst p q hd;generalize hB:bodyPost prog Tryz.f28 R=BP;simp only[Tryz.f28,Yl,tl];go_wp2
 go_loopw [36] (λi wr=>∃k:Nat,k<=L.length/\i= .int .i64 k/\Lib.IsBuilder 155 5 w.heap.size w.heap.size (Lib.byteCells ((L.take k).flatMap hx)) wr/\Below w.heap.size w wr) (λi _=>L.length-(intOf i).toNat)
 case atStart=>exact⟨0,Nat.zero_le _,rfl,Lib.fresh_isBuilder 155 5 w,(Below.refl _ w).alloc (Nat.le_refl _) _⟩
 case round=>
  obtain⟨k,C,rfl,d,b⟩:=hrel;have g:w.heap.size<=wr.heap.size:=b.size;by_cases hlt:k<L.length
  .have x:wr.cell? ⟨f,off+k,none⟩=some (.int .u8 (L[k].toNat:Int)):=(by have D:=World.block_lt_of_cell? w _ (r k hlt);have:=r k hlt;unfold World.cell? at this|-;rw[b.block _ D];exact this);have m:L[k].toNat<256:=UInt8.toNat_lt _;have n:((L.take k).flatMap hx).length<=100000:=by rw[Zmn,List.length_take];omega
   go_wp2_with (go_at_call 74;refine(Zvt w.heap.size w.heap.size _ _ m _ d n g).mono ?_)
   rintro e w1 ⟨rfl,hb1,hw1⟩;have c:(L.take (k+1)).flatMap hx=(L.take k).flatMap hx++[hd1 (L[k].toNat/16),hd1 (L[k].toNat%16)]:=(by rw[List.take_succ_eq_append_getElem hlt,List.flatMap_append];simp[hx]);rw[<-c]at hb1;go_wp2;exact⟨⟨k+1,Vo,Vs,Or.inr hb1,b.trans hw1⟩,by simp[intOf];omega⟩
  .have j:k=L.length:=Vo;subst j;rw[Y7]at d;go_wp2
   go_loopw [43,8] (λi y wr=>∃k:Nat,k<=4/\i= .int .i64 k/\y= .int .u32 (shN k s)/\Lib.IsBuilder 155 5 w.heap.size w.heap.size (Lib.byteCells (L.flatMap hx++((by4 s).take k).flatMap hx)) wr/\Below w.heap.size w wr) (λi _ _=>4-(intOf i).toNat)
   case atStart=>exact⟨0,Nat.zero_le _,rfl,rfl,by simpa using d,b⟩
   case round=>
    obtain⟨k,C,rfl,rfl,d,b⟩:=hrel;have g:w.heap.size<=wr.heap.size:=b.size;have n:(L.flatMap hx++((by4 s).take k).flatMap hx).length<=100000:=by rw[List.length_append,Zmn,Zmn,List.length_take];omega
    by_cases hlt:k<4
    .have v:=Zvt w.heap.size w.heap.size _ (shN k s%256).toNat Vo wr d n g;rw[WC Vo]at v
     go_wp2_with (go_at_call 74;refine v.mono ?_)
     rintro e w1 ⟨rfl,hb1,hw1⟩;have c:((by4 s).take (k+1)).flatMap hx=((by4 s).take k).flatMap hx++[hd1 ((shN k s%256).toNat/16),hd1 ((shN k s%256).toNat%16)]:=(by have t:k<(by4 s).length:=(by simpa[by4]using hlt);have E:(by4 s)[k].toNat=(shN k s%256).toNat:=(by simp[by4];omega);rw[List.take_succ_eq_append_getElem t,List.flatMap_append];simp[hx,E]);rw[List.append_assoc,<-c]at hb1;go_wp2;exact⟨⟨k+1,Vo,Vs,by simp[shN],Or.inr hb1,b.trans hw1⟩,by simp[intOf];omega⟩
    .have j:k=4:=Vo;subst j;rw[List.take_of_length_le (by simp[by4]),<-List.flatMap_append]at d
     go_wp2_with (go_at_call 75;refine(Tryz.Builder_String_any w.heap.size w.heap.size _ _ d b.size).mono ?_)
     rintro e w1 ⟨rfl,hw1⟩;go_wp2;rw[<-hB];refine bodyPost_ret (results_tmp2 rfl _ _ _) rfl ?_;have:=A w1 (b.trans hw1);rw[List.flatMap_append]at this;exact this
def lebL(n:Nat):List UInt8:=(leb n).map λz=>z.toNat.toUInt8
open Classical in
noncomputable def mkT(f:FlD)(s:Int):BA×Int:=if Rgt f/\0<=s/\s<=4294967296 then(bT ((lebL s.toNat++by4 (smK f s.toNat)).flatMap hx),0)else(ByteArray.mk #[],1)
def Zp0(n:Nat):natsL (lebL n)=leb n:=by
 unfold natsL lebL;rw[List.map_map]
 conv=>rhs;rw[<-YQ (leb n)]
 refine List.map_congr_left λz a=>?_;have:=Zat n z a;simp only[Function.comp,id];simp;omega
def two_rep(a:BA)(n:Int)(h:Hp):∀(i:Nat) v s,([.string a,.int .i64 n]:List Value)[i]?=some v->([S a,I n]:List SV)[i]?=some s->PRep h v s:=by
 intro i v s b c
 match i with
 |0=>cases b;cases c;exact .val _
 |1=>cases b;cases c;exact .val _
def make_fn(f:FlD)(u:smF f)(s:Int):Ct prog 28 {} [f.sv,I s] (λr=>r=[S (mkT f s).1,I (mkT f s).2]):=by
 refine Jou.ct_of_callsR func28 Vk Vk _ _ λh ρ w vs J K L=>?_;refine calls_of_wp (c:=Tryz.f28.body.getD .skip) func28 rfl ?_;refine vc_cut SgT SvT _ 5 _ _ _ _ _ (MkQ f s) _ ?_ ⟨h,ρ,Zyd J K L⟩ (Zye f u s).out;rintro e A a w1 ⟨h1,ρ1,F⟩ hq;have d:=F.kp
 have g:Below w.heap.size w w1:=⟨d.os,d.tape,d.output,d.size,λk y=>d.block k y (λe=>e)⟩
 have m:∀(i:Nat) (v:SV),v≠ .unk->lget A.tmps i=v->TRep h1 ρ1 a.tmps (a.tmps.getD i undef) v:=λi v j e=>by
  refine F.tm i v ?_;rw[Zca]at e
  cases q:A.tmps[i]? with
  |none=>rw[q]at e;exact absurd e.symm j
  |some x=>rw[q]at e;rw[<-e];rfl
 cases e with
 |exit id=>exact hq.elim
 |ret=>obtain⟨hno,N,C⟩:=hq;have U:=Rep.val_inv (m 4 _ Vs N);have V:=Rep.val_inv (m 5 _ Vs C);refine bodyPost_ret (results_tmp2 rfl _ _ _) F.df ?_;rw[U,V];refine⟨[_,_],_,rfl,rfl,?_,by unfold mkT;rw[if_neg hno],g⟩;exact two_rep _ _ h
 |normal=>
  obtain⟨O,p,P,D,Q⟩:=hq;have W:=Rep.val_inv (m 8 _ Vs Q);have X:Rep h1 ρ1 _ (.osl 3264):=m 6 _ Vs P;have C:=Zee 4 s.toNat Vo;have H:(lebL s.toNat).length=(leb s.toNat).length:=by simp[lebL]
  rcases F.obj 3264 _ D with⟨_,q⟩|⟨j,o⟩
  .have:=Zf0 s.toNat;have q:=congrArg List.length q;simp only[List.length_map,Y9]at q;omega
  rcases X.osl_inv with⟨q,_⟩|⟨_,e6⟩
  .rw[j]at q;cases q
  have b:=o.hlen;simp only[List.length_map]at b;rw[b,<-H]at e6;obtain⟨cs,t,fz,E,a0,_,G⟩:=o.hblk
  have a1:w.heap.size<=(ρ1 3264).blk:=by
   rcases F.own 3264 ⟨⟨_,D⟩,j⟩with q|q
   .exact q
   .exact q.elim
  refine make_tail a w1 (lebL s.toNat) (ρ1 3264).blk (ρ1 3264).off _ (smK f s.toNat) _ (by rw[F.size];exact p) F.df e6 W Vo (λi M=>?_) (λw' z=>?_)
  .have n:i<(leb s.toNat).length:=Vo;obtain⟨v,R,T,_⟩:=G i [U8 (leb s.toNat)[i]] 0 _ (by rw[Yv,List.getElem?_eq_getElem n];rfl) rfl;have Y:=(Rep.pure (ρ:=ρ1) v _ T).val_inv;have Z:(((lebL s.toNat)[i]).toNat:Int)=(leb s.toNat)[i]:=(by have:=congrArg (λl=>l[i]?) (Zp0 s.toNat);simp only[natsL,Yv,List.getElem?_eq_getElem M,List.getElem?_eq_getElem n,W4,YC]at this;exact this);rw[Z,<-Y];simp only[World.cell?,E]
   simpa using R
  .refine⟨[_,_],_,rfl,rfl,?_,by unfold mkT;rw[if_pos O],g.trans (z.mono g.size)⟩;exact two_rep _ _ h
end Tok
namespace Tok
open Go Go.Px Go.Proofs Go.RowKit Qry Tryz
open Trm hiding waddN stepL seq_d sne_d
open Cod hiding okA
def ReadR(b:Int->BA×Int)(tok:BA)(x e:Int):Prop:=
 (e=0/\0<=x/\x<=4294967296/\b x=(tok,0))\/(e=17/\∀(L:List UInt8) (n:Nat) (a:List Int),tok=bT (L.flatMap hx)->L.length<=10->natsL L=leb n++a->n<=4294967296->b n≠(tok,0))
def ReadR.hit{b:Int->BA×Int}{tok:BA}(h:ReadR b tok i e)(c:NumR tok i true\/e=17){L:List UInt8}(d:tok=bT (L.flatMap hx))(f:L.length<=10)(g:natsL L=leb n++x)(a:n<=4294967296)(j:b n=(tok,0)):e=0/\i=n:=by
 rcases h with h|h
 .rcases c with q|q
  .exact⟨h.1,(q.2 L n x d f g a).1⟩
  .omega
 grind
def read_fn(f:FlD)(o:smF f)(h:Rgt f)(tok:BA)(p:tok.size<=1000)(d:Int->BA×Int)(g:∀s:Int,Ct prog 28 {} [f.sv,I s] (λr=>r=[S (d s).1,I (d s).2])):
  Ct prog 26 {} [f.sv,S tok] (λr=>∃x e,r=[I x,I e]/\ReadR d tok x e/\(NumR tok x true\/e=17)):=by
 have m:=Zcu f o;obtain⟨t,a,b,w,ks⟩:=f;generalize hF:Rgt (FlD.mk t a b w ks)=RF at m h;rw[mk_sv]at m|-;simp only[mk_sv]at g;refine tread_nf (Cl.of m ⟨_,rfl,Zaa (λq=>?_) (λq=>Cl.ofQ (num_fn tok p) ?_)⟩)
 .simp[dB,h]at q
 rintro _ ⟨x,b1,rfl,hN⟩;refine⟨_,_,rfl,Zaa (λv=>?_) (λv=>Cl.of (g x) ⟨_,_,rfl,Zaa (λu=>?_) (λu=>?_)⟩)⟩
 .refine⟨0,17,rfl,.inr ⟨rfl,λL n c i j k l=>?_⟩,.inr rfl⟩;have:=(hN.2 L n c i j k l).2
  simp_all
 .refine⟨0,17,rfl,.inr ⟨rfl,λL n c i j k l z=>?_⟩,.inr rfl⟩;have:=(hN.2 L n c i j k l).1
  simp_all
 .have y:b1=true:=(by simp_all);subst y
  have u:(d x).2=0/\(d x).1=tok:=by
   rw[Trm.sne_d]at u
   simp_all
  exact⟨x,0,rfl,.inl ⟨rfl,(hN.1 rfl).1,(hN.1 rfl).2,Prod.ext u.2 u.1⟩,.inl hN⟩
end Tok
namespace Qry
open Go Go.Px Go.Proofs Seg Jou Tryz
open Trm hiding waddN stepL seq_d sne_d
open Cod hiding okA
abbrev SpD.sv(p:SpD):SV:=sp4 p.f p.l p.a p.b
def Zuo:Ct prog 204 {} ([]:List SV) (λr=>r=[whS.sv]):=swhole_nf rfl
def Zup:Ct prog 207 {} ([]:List SV) (λr=>r=[emS.sv]):=sempty_nf rfl
def Zr3(p:SpD):Ct prog 206 {} [p.sv] (λr=>r=[B p.void]):=by
 simp_all[Bool.eq_iff_iff,bor_t,igt,SpD.void,svoid_nf,bpick]
def startM_fn:Ct prog 279 {} [.ifc 297 (.agg [])] (λr=>r=[whS.sv]):=ssM_nf (Cl.of Zuo ⟨_,_,_,_,rfl,rfl⟩)
def startL_fn:Ct prog 279 {} [.ifc 298 (.agg [])] (λr=>r=[emS.sv]):=ssL_nf (Cl.of (snone_nf (Cl.of Zup ⟨_,_,_,_,rfl,rfl⟩)) ⟨_,_,_,_,rfl,rfl⟩)
def mosJ_fn(p r:SpD):Ct prog 402 {} [.agg [],p.sv,r.sv] (λx=>x=[(mosJ p r).sv]):=smj_nf rfl
def leaJ_fn(p r:SpD):Ct prog 403 {} [.agg [],p.sv,r.sv] (λx=>x=[(leaJ p r).sv]):=by
 unfold leaJ;refine slj_nf (Cl.of (Zr3 p) ⟨_,rfl,Zaa (λh=>?_) (λh=>Cl.of (Zr3 r) ⟨_,rfl,Zaa (λa=>?_) (λa=>?_)⟩)⟩)
 .rw[if_pos h]
 .grind
 grind
def andS_app(p:SpD):∀a b:List FlD,andS p (a++b)=andS (andS p a) b
 |a,b=>by
  induction a generalizing p with
  |nil=>rw[Y5,andS]
  |cons k a c=>rw[Y2,andS,andS,c]
def orS_app(p:SpD):∀a b:List FlD,orS p (a++b)=orS (orS p a) b
 |a,b=>by
  induction a generalizing p with
  |nil=>rw[Y5,orS]
  |cons k a c=>rw[Y2,orS,orS,c]
def Zhs{Q:List SV->Prop}{p:SpD}(h:Q [(cutV p).sv]):Cl prog 206 sP ([sp4 p.f p.l p.a p.b]) (λ(c:List SV)=>qz0 c λe=>(ifB e (Cl prog 207 sP [] (λ(d:List SV)=>qz1 d λg i j k=>(Q ([sp4 g i j k])))) (Q ([sp4 p.f p.l p.a p.b])))):=by
 unfold cutV at h;refine Cl.of (Zr3 p) ⟨_,rfl,Zaa (λm=>Cl.of Zup ⟨_,_,_,_,rfl,?_⟩) (λm=>?_)⟩
 .grind
 grind
def spn_fn:∀f:FlD,cnt f<=1000->Ct prog 130 {} [f.sv] (λr=>r=[(spn f).sv]):=by
 refine FlD.ind λc a b E ks y d=>?_;rw[Zwj]at d;have D:=Zgf ks;have n:∀k∈ks,Ct prog 130 {} [k.sv] (λr=>r=[(spn k).sv]):=λk u=>y k u (by have:=Zgg u;omega)
 have t:Ct prog 205 {} [.ifc 297 (.agg []),SL 5 (ks.map FlD.row)] (λr=>r=[(andS whS ks).sv]):=by
  refine sjM_nf (Cl.of startM_fn ⟨_,_,_,_,rfl,λx f l a b=>∃i:Nat,x=i/\i<=ks.length/\sp4 f l a b=(andS whS (ks.take i)).sv,λx _ _ _ _=>ks.length-x.toNat,⟨0,rfl,Nat.zero_le _,by rw[List.take_zero,andS]⟩,?_⟩);rintro _ f l a b ⟨i,rfl,hi,hp⟩;refine Zaa (λq=>?_) (λq=>?_)
  .have q:i<ks.length:=(by simpa using q);obtain⟨o,z,A,C,v,m,s⟩:=Zeb ks i q;have d:=n ks[i] (List.getElem_mem q);rw[m,mk_sv,<-m]at d;refine⟨⟨Vo,by simpa using q⟩,_,_,_,_,_,s,Cl.of d ⟨_,_,_,_,rfl,?_⟩⟩;rw[hp];refine Cl.of (mosJ_fn (andS whS (ks.take i)) (spn ks[i])) ⟨_,_,_,_,rfl,rfl,⟨i+1,waddN _ Vo,Vo,?_⟩,?_⟩
   .rw[List.take_succ_eq_append_getElem q,andS_app,andS,andS]
   grind [waddN,stepL]
  .have q:i=ks.length:=by simp at q;omega
   grind
 have w:Ct prog 205 {} [.ifc 298 (.agg []),SL 5 (ks.map FlD.row)] (λr=>r=[(orS emS ks).sv]):=by
  refine sjL_nf (Cl.of startL_fn ⟨_,_,_,_,rfl,λx f l a b=>∃i:Nat,x=i/\i<=ks.length/\sp4 f l a b=(orS emS (ks.take i)).sv,λx _ _ _ _=>ks.length-x.toNat,⟨0,rfl,Nat.zero_le _,by rw[List.take_zero,orS]⟩,?_⟩);rintro _ f l a b ⟨i,rfl,hi,hp⟩;refine Zaa (λq=>?_) (λq=>?_)
  .have q:i<ks.length:=(by simpa using q);obtain⟨o,z,A,C,v,m,s⟩:=Zeb ks i q;have d:=n ks[i] (List.getElem_mem q);rw[m,mk_sv,<-m]at d;refine⟨⟨Vo,by simpa using q⟩,_,_,_,_,_,s,Cl.of d ⟨_,_,_,_,rfl,?_⟩⟩;rw[hp];refine Cl.of (leaJ_fn (orS emS (ks.take i)) (spn ks[i])) ⟨_,_,_,_,rfl,rfl,⟨i+1,waddN _ Vo,Vo,?_⟩,?_⟩
   .rw[List.take_succ_eq_append_getElem q,orS_app,orS,orS]
   grind [waddN,stepL]
  .have q:i=ks.length:=by simp at q;omega
   grind
 rw[mk_sv];refine sof1_nf (Cl.of Zuo ⟨_,_,_,_,rfl,?_⟩);rw[spn];refine Zaa (λh=>?_) (λh=>Zaa (λe=>?_) (λe=>Zaa (λg=>?_) (λg=>Zaa (λj=>?_) (λj=>?_))))
 .have h:c=2:=(by simpa using h);rw[if_pos h];exact Zhs (Q:=λr=>r=[(cutV ⟨0,4294967296,a,b⟩).sv]) (p:=⟨0,4294967296,a,b⟩) rfl
 all_goals have h:¬c=2:=by simpa using h
 all_goals rw[if_neg h]
 .have e:c=3:=(by simp_all);rw[if_pos e];exact Zhs (Q:=λr=>r=[(cutV ⟨a,b,0,1099511627776⟩).sv]) (p:=⟨a,b,0,1099511627776⟩) rfl
 all_goals have e:¬c=3:=by simpa using e
 all_goals rw[if_neg e]
 .have g:c=6:=(by simp_all);rw[if_pos g];exact Cl.of t ⟨_,_,_,_,rfl,Zhs (Q:=λr=>r=[(cutV (andS whS ks)).sv]) (p:=andS whS ks) rfl⟩
 all_goals have g:¬c=6:=by simpa using g
 all_goals rw[if_neg g]
 .have j:c=7:=(by simp_all);rw[if_pos j];exact Cl.of w ⟨_,_,_,_,rfl,Zhs (Q:=λr=>r=[(cutV (orS emS ks)).sv]) (p:=orS emS ks) rfl⟩
 .have j:¬c=7:=(by simp_all);rw[if_neg j];exact Zhs (Q:=λr=>r=[(cutV whS).sv]) (p:=whS) rfl
open Classical in
noncomputable def spnF(f:FlD):SpD×Int:=if Rgt f then(spn f,0)else(⟨0,0,0,0⟩,1)
def spnF_fn(f:FlD)(e:smF f):Ct prog 65 {} [f.sv] (λr=>r=[(spnF f).1.sv,I (spnF f).2]):=by
 obtain⟨c,a,b,d,ks⟩:=f;have g:=Zcu _ e;rw[mk_sv]at g|-;unfold spnF;refine sof_nf (Cl.of g ⟨_,rfl,Zaa (λz=>?_) (λz=>?_)⟩)
 .have z:¬Rgt (.mk c a b d ks):=λq=>by rw[dB_t q]at z;cases z
  rw[if_neg z]
 .have z:Rgt (.mk c a b d ks):=Zjc.1 (by cases h:dB (Rgt (.mk c a b d ks))<;>simp_all[bnot]);rw[if_pos z];have i:=spn_fn (.mk c a b d ks) (by have:=z.2.1;omega);rw[mk_sv]at i;exact Cl.of i ⟨_,_,_,_,rfl,rfl⟩
def meet(s:SgD)(p:SpD):Bool:=if s.la<=s.fi then false else decide (imax (s.fi+1) p.f<=imin s.la p.l/\imax s.fr p.a<=imin s.ti p.b)
def meet_fn(s:SgD)(p:SpD)(h: -1<=s.fi/\s.fi<=4294967296):Ct prog 66 {} [.agg s.row,p.sv] (λr=>r=[B (meet s p)]):=by
 unfold meet;refine smeets_nf (Zaa (λq=>?_) (λq=>?_))
 .have q:s.la<=s.fi:=(by simpa using q);rw[if_pos q]
 .have q:¬s.la<=s.fi:=(by simpa using q);rw[if_neg q,Zac];congr 2;rw[Bool.eq_iff_iff];simp[bpick,ile]
def meet_has{s:SgD}{p:SpD}{e:EvD}(h:p.has e)(b:s.fi<e.s/\e.s<=s.la)(c:s.fr<=e.a/\e.a<=s.ti):meet s p=true:=by
 obtain⟨d,f,g,i⟩:=h
 grind [meet,imax,imin]
open Trm hiding waddN stepL seq_d sne_d
open Cod hiding okA
def take1(lim b:Int)(a:List EvD)(e:EvD):List EvD:=if b<e.s/\(a.length:Int)<lim then a++[e]else a
def fndE(lim a:Int)(b c:List EvD):List EvD:=c.foldl (take1 lim a) b
def segE(s:SgD)(a:List EvD):List EvD:=a.filter λe=>decide (s.fi<e.s/\e.s<=s.la)
def fnd(f:FlD)(p:SpD)(lim b:Int)(c:List EvD):List SgD->List EvD×Int->List EvD×Int
 | [],a=>a
 |s::l,a=>if lim<=(a.1.length:Int)then a else if s.la<=b\/meet s p=false then fnd f p lim b c l a else fnd f p lim b c l (fndE lim b a.1 ((segE s c).filter (mean · f)),a.2+1)
def Zif{lim:Nat}{c:Int}:∀(b a:List EvD),a.length<=lim->fndE lim c a b=(a++b.filter λe=>decide (c<e.s)).take lim
 | [],a,h=>by simp[fndE,List.take_of_length_le h]
 |e::b,a,h=>by
  show fndE lim c (take1 lim c a e) b=_;unfold take1;by_cases h1:c<e.s
  .by_cases h2:a.length<lim
   .rw[if_pos ⟨h1,Vo⟩,Zif b _ Vm];simp[h1]
   .rw[if_neg (by rintro⟨_,q⟩;omega),Zif b a h,List.take_append_of_le_length Vo,List.take_append_of_le_length Vo]
  .rw[if_neg (by rintro⟨q,_⟩;exact h1 q),Zif b a h];simp[h1]
def Zwu(lim b:Int):∀(c a:List EvD),(fndE lim b a c).length<=a.length+c.length
 | [],a=>by simp[fndE]
 |e::c,a=>by
  have h:=Zwu lim b c (take1 lim b a e);have d:(take1 lim b a e).length<=a.length+1:=(by grind [take1]);show(fndE lim b (take1 lim b a e) c).length<=_
  grind
def Zl9:∀(l:List Cmp.EvD) {m:List Cmp.EvD} {a c:Int},Cns a (l++m) c->∃b,Cns a l b/\Cns b m c
 | [],m,a,c,h=>⟨a,rfl,h⟩
 |e::l,m,a,c,h=>by obtain⟨d,f⟩:=h;obtain⟨b,g,i⟩:=Zl9 l f;exact⟨b,⟨d,g⟩,i⟩
def Znl:∀{l:List Cmp.EvD} {a b:Int},Cns a l b->∀e∈l,a<e.s/\e.s<=b
 | [],_,_,_,e,he=>by cases he
 |x::l,a,b,h,e,he=>by
  obtain⟨d,c⟩:=h;have:=Zu0 c
  rcases List.mem_cons.1 he with rfl|he
  .omega
  .have:=Znl c e he;omega
def Zwv(a:List FiD):evsR (a.map (ptF scF))=(evG a).map toE:=by
 grind [List.flatMap_map,List.map_flatMap,evsR,evG]
def seg_ev{j:JoD}(h:RightJ j){A B:List FiD}{g:FiD}(f:segs j.dk.fs=A++g::B):segE (sgOf (ptF scF g)) (evsJ j)=(scF g).ev:=by
 have p:=h.par;rw[Zni h,f];rw[f]at p
 have c:ScOK (scF g)/\(scF g).num≠0:=by
  have k:=p.dkr.bytes p.all g Vs
  grind
 have i:((scF g).ev.length:Int)=(scF g).s-(scF g).bs:=p.good.cnt (ptF scF g) Vs;have m:=Zoe c.1 c.2 i
 obtain⟨l,x,hlx⟩:∃l x,A++g::B=l++[x]:=by
  rcases Y4 (A++g::B)with q|⟨l,x,q⟩
  .simp at q
  grind
 obtain⟨y,hy⟩:∃y,((A++g::B).map (ptF scF)).head?=some y:=by simp_all
 have E:=p.dkr.inr
 have b:Cns y.d.bs (evsR ((A++g::B).map (ptF scF))) (scF x).s:=by
  have:=Zsb l x (by rw[<-hlx];exact E) (by rw[<-hlx,<-f];exact Zb9) (by rw[<-hlx];exact p.good.cnt) y (by rw[<-hlx];exact hy)
  grind
 have F:evsR ((A++g::B).map (ptF scF))=(evG A).map toE++((scF g).ev.map toE++(evG B).map toE):=by
  rw[Zwv,Zl8,List.map_append];show _++((scF g).ev++evG B).map toE=_
  grind
 rw[F]at b;obtain⟨v,w,z⟩:=Zl9 _ b;obtain⟨C,n,D⟩:=Zl9 _ z;have G:evG (A++g::B)=evG A++((scF g).ev++evG B):=by rw[Zl8];rfl
 rw[G];unfold segE;show(evG A++((scF g).ev++evG B)).filter (λe=>decide ((scF g).bs<e.s/\e.s<=(scF g).s))=_
 by_cases hne:(scF g).ev=[]
 .grind [List.filter_eq_nil_iff]
 .have H:v=(scF g).bs/\C=(scF g).s:=(by obtain⟨e,r,o⟩:=List.exists_cons_of_ne_nil hne;have t:=n;have u:=m;have J:=Zu0 n;have K:=Zu0 m;rw[o]at t u;have L:=t.1;have M:=u.1;omega);rw[List.filter_append,List.filter_append]
  have N:(evG A).filter (λe=>decide ((scF g).bs<e.s/\e.s<=(scF g).s))=[]:=by
   rw[Yu];intro e a;have:=Znl w (toE e) (Yb a)
   grind [toE]
  have O:(evG B).filter (λe=>decide ((scF g).bs<e.s/\e.s<=(scF g).s))=[]:=by
   rw[Yu];intro e a;have:=Znl D (toE e) (Yb a)
   grind [toE]
  have P:((scF g).ev).filter (λe=>decide ((scF g).bs<e.s/\e.s<=(scF g).s))=(scF g).ev:=by
   rw[List.filter_eq_self];intro e a;have:=Znl m (toE e) (Yb a)
   grind [toE]
  grind
open Trm hiding waddN stepL seq_d sne_d
open Cod hiding okA
def okL_lim:∀(l:List EvD) (s a:Int) (m:List BA),Seg.okL s a m l->a<=(fin3 s a m l).2.1/\∀e∈l,Lim e/\a<=e.a/\e.a<=(fin3 s a m l).2.1
 | [],s,a,m,_=>⟨Yd _,λe d=>by cases d⟩
 |x::l,s,a,m,h=>by
  obtain⟨b,f⟩:=h;obtain⟨_,_,_,g,i⟩:=chkE_zero b.chk;obtain⟨j,k⟩:=okL_lim l x.s x.a (bhdN m x.c) f;have hx:=b.time
  grind [fin3,bhdN,Lim]
def fnd_go{j:JoD}(h:RightJ j)(f:FlD)(lim:Nat)(b:Int):∀(B A:List FiD) (d:Int),segs j.dk.fs=A++B->
  (fnd f (spn f) lim b (evsJ j) (B.map λg=>sgOf (ptF scF g)) ((((evG A).filter (mean · f)).filter λe=>decide (b<e.s)).take lim,d)).1=(((evG (A++B)).filter (mean · f)).filter λe=>decide (b<e.s)).take lim/\
  d<=(fnd f (spn f) lim b (evsJ j) (B.map λg=>sgOf (ptF scF g)) ((((evG A).filter (mean · f)).filter λe=>decide (b<e.s)).take lim,d)).2/\
  (fnd f (spn f) lim b (evsJ j) (B.map λg=>sgOf (ptF scF g)) ((((evG A).filter (mean · f)).filter λe=>decide (b<e.s)).take lim,d)).2<=d+B.length
 | [],A,d,hs=>by simp[fnd]
 |g::B,A,d,hs=>by
  have p:=h.par;have n:=seg_ev h hs;rw[hs]at p;have c:=p.dkr.bytes p.all g Vs;have t:=okL_lim (scF g).ev _ _ _ (c.1.evs (by rw[c.2.2.1];exact c.2.2.2));have o:=c.1.fin (by rw[c.2.2.1];exact c.2.2.2);have u:(fin3 (scF g).bs (scF g).ba [] (scF g).ev).2.1=(scF g).a:=(by rw[<-o]);rw[u]at t;have k:=fnd_go h f lim b B (A++[g]);have e1:evG (A++[g])=evG A++(scF g).ev:=(by rw[Zl8];simp[evG]);have e2:A++[g]++B=A++g::B:=Vs;rw[e2,e1,List.filter_append,List.filter_append]at k;have q:∀e∈(scF g).ev,(scF g).bs<e.s/\e.s<=(scF g).s:=λe m=>by rw[<-n]at m;exact of_decide_eq_true (List.mem_filter.1 m).2
  generalize hX:(((scF g).ev.filter (mean · f)).filter λe=>decide (b<e.s))=X at k;generalize hLl:((evG A).filter (mean · f)).filter (λe=>decide (b<e.s))=L at k|-;rw[List.map_cons,fnd];by_cases l:(lim:Int)<=((L.take lim).length:Int)
  .rw[if_pos l];have l:lim<=L.length:=by rw[List.length_take]at l;omega
   refine⟨?_,Yd _,Vm⟩;have y:evG (A++g::B)=evG A++evG (g::B):=Zl8 _ _;rw[y,List.filter_append,List.filter_append,hLl,List.take_append_of_le_length l]
  rw[if_neg l];by_cases i:(sgOf (ptF scF g)).la<=b\/meet (sgOf (ptF scF g)) (spn f)=false
  .rw[if_pos i]
   have v:X=[]:=by
    rw[<-hX,List.filter_filter,Yu];intro e m r;simp only[Bool.and_eq_true,decide_eq_true_eq]at r;have z:=q e m;obtain⟨w,x⟩:=t.2 e m
    rcases i with i|i
    .have i:(scF g).s<=b:=i;omega
    .have:=meet_has (s:=sgOf (ptF scF g)) (Zos w f r.2) z x;rw[i]at this;cases this
   rw[v,List.append_nil]at k;have:=k d (by rw[hs]);refine⟨this.1,this.2.1,?_⟩;have:=this.2.2;simp only[List.length_cons];omega
  .rw[if_neg i]
   have C:fndE lim b (L.take lim) ((segE (sgOf (ptF scF g)) (evsJ j)).filter (mean · f))=(L++X).take lim:=by
    rw[Zif _ _ (List.length_take_le _ _),n,hX,List.take_append];by_cases c3:L.length<=lim
    .rw[List.take_of_length_le c3,List.take_append]
    .rw[List.length_take]at l;omega
   rw[C]
   dsimp only
   have:=k (d+1) (by rw[hs]);refine⟨this.1,Vo,?_⟩;have:=this.2.2;simp only[List.length_cons];omega
def fnd_law(h:RightJ J)(f:FlD)(lim:Nat)(a:Int):
  (fnd f (spn f) lim a (evsJ J) J.sg ([],0)).1=(((evsJ J).filter (mean · f)).filter λe=>decide (a<e.s)).take lim/\
  0<=(fnd f (spn f) lim a (evsJ J) J.sg ([],0)).2/\(fnd f (spn f) lim a (evsJ J) J.sg ([],0)).2<=J.sg.length:=by
 have:=fnd_go h f lim a (segs J.dk.fs) [] 0 rfl;have b:=h.par.sg;rw[List.map_map]at b;rw[Y5,<-Zni h]at this;rw[show evG []=[]from rfl]at this;have e:(segs J.dk.fs).map (λg=>sgOf (ptF scF g))=J.sg:=b.symm
 grind
open Trm hiding waddN stepL seq_d sne_d
open Cod hiding okA
def Zw0:∀{l:List Cmp.EvD} {a b:Int},Cns a l b->l.Pairwise (λx y=>x.s<y.s)
 | [],_,_,_=>.nil
 |x::l,a,b,h=>by refine .cons (λy c=>(Znl h.2 y c).1) (Zw0 h.2)
theorem evs_pair(h:RightJ J):(evsJ J).Pairwise (λx y=>x.s<y.s)/\∀e∈evsJ J,0<e.s/\e.s<=J.st.q:=by
 have p:=h.par;rw[Zni h]
 rcases Y4 (segs J.dk.fs)with q|⟨l,x,q⟩
 .rw[q];simp[evG]
 rw[List.concat_eq_append]at q;obtain⟨y,hy⟩:∃y,((l++[x]).map (ptF scF)).head?=some y:=by simp_all
 have c:=p.dkr.inr;have b:=p.good.cnt;rw[q]at c b;have a:=Zsb l x c (by rw[<-q];exact Zb9) b y hy;have hx:J.st.q=(scF x).s:=(by rw[q]at p;exact p.q);have n:0<=y.d.bs:=(by obtain⟨g,m,rfl⟩:=Ya.1 (List.mem_of_mem_head? hy);have f:=p.dkr.bytes p.all g (by rw[q];exact m);exact(f.1.head (by rw[f.2.2.1];exact f.2.2.2)).2.1);rw[q];rw[Zwv]at a;have i:=Zw0 a;rw[List.pairwise_map]at i;refine⟨i,λe k=>?_⟩;have:=Znl a (toE e) (Yb k)
 grind [e1,toE]
theorem Zw1:∀{W:List EvD},W.Pairwise (λx y=>x.s<y.s)->∀(k:Nat) (a:k<W.length),W.filter (λe=>decide (W[k].s<e.s))=W.drop (k+1)
 | [],_,k,a=>by simp at a
 |x::W,h,k,a=>by
  obtain⟨c,f⟩:=List.pairwise_cons.1 h
  match k with
  |0=>
   simp only[List.getElem_cons_zero,WA,List.drop_zero];rw[WU Vs,List.filter_eq_self];intro e d
   simpa using c e d
  |k+1=>have b:k<W.length:=(by simpa using a);simp only[List.getElem_cons_succ,WA];rw[WU,Zw1 f k b];have:=c W[k] (List.getElem_mem b);simp;omega
def srt_all{W:List EvD}(h:∀e∈W,0<e.s):W.filter (λe=>decide (0<e.s))=W:=by
 simp_all
noncomputable abbrev wnt(j:JoD)(f:FlD):List EvD:=(evsJ j).filter (mean · f)
def Zgj(h:RightJ J)(f:FlD):(wnt J f).Pairwise (λx y=>x.s<y.s)/\∀e∈wnt J f,0<e.s/\e.s<=J.st.q:=by
 grind [evs_pair]
def srt_len:∀{W:List EvD} {a b:Int},W.Pairwise (λx y=>x.s<y.s)->(∀e∈W,a<e.s/\e.s<=b)->a<=b->(W.length:Int)<=b-a
 | [],a,b,_,_,h=>Vm
 |x::W,a,b,h,hb,_=>by
  obtain⟨d,f⟩:=List.pairwise_cons.1 h;have hx:=hb x Vs;have:=srt_len (a:=x.s) (b:=b) f (λe c=>⟨d e c,(hb e (by simp[c])).2⟩) hx.2
  grind
def abv(W:List EvD):Nat->Int
 |0=>0
 |k+1=>match W[k]? with
  |none=>0
  |some e=>e.s
def Zw2{W:List EvD}(h:W.Pairwise (λx y=>x.s<y.s))(a:∀e∈W,0<e.s):∀k,k<=W.length->W.filter (λe=>decide (abv W k<e.s))=W.drop k
 |0,_=>by rw[List.drop_zero];exact srt_all a
 |k+1,hk=>by
  grind [abv,Zw1]
def page_at(h:RightJ J)(f:FlD)(lim k:Nat)(a:k<=(wnt J f).length):(fnd f (spn f) lim (abv (wnt J f) k) (evsJ J) J.sg ([],0)).1=((wnt J f).drop k).take lim:=by
 obtain⟨c,d⟩:=Zgj h f;rw[(fnd_law h f lim _).1,Zw2 c (λe b=>(d e b).1) k a]
def all_at(h:RightJ J)(f:FlD)(c:J.st.q<=4294967296):(fnd f (spn f) 9223372036854775807 0 (evsJ J) J.sg ([],0)).1=wnt J f:=by
 obtain⟨a,b⟩:=Zgj h f;have:=page_at h f 9223372036854775807 0 (Nat.zero_le _)
 have d:((wnt J f).length:Int)<=J.st.q\/(wnt J f)=[]:=by
  rcases Int.le_total 0 J.st.q with q|q
  .have:=srt_len a b q;left;omega
  .right
   rw[Wm]
   grind
 rw[List.drop_zero,List.take_of_length_le]at this
 .exact this
 grind

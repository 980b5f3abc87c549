import Derived.Test.YtaenkbbfockfgaaGreatDoorK07
set_option linter.all false
set_option maxRecDepth 100000
variable{b c e i j k z:Int}{l r:Go.Px.LL}{Q:Go.Px.QQ}{s t:BA}{X x:List Int}{o:Bool}{C:List Go.Px.SV}{N:List BA}
namespace Go.Proofs.YtaenkbbfockfgaaGreatDoor
namespace Seg
open Go Go.Px Go.Proofs Cod Tryz
abbrev U32(n:Int):SV:=.int .u32 n
abbrev cx3(s a:Int)(b:LL):SV:=.agg [I s,I a,SL 1 b]
abbrev sc11(num bs c:Int)(d ev:LL)(b e:Int)(f:LL)(g h:Int)(a:Bool):SV:=.agg [I num,I bs,I c,SL 1 d,SL 7 ev,I b,I e,SL 1 f,I g,I h,B a]
abbrev sOP:Sig:=⟨[],[.own,.pure]⟩
abbrev sL:Sig:=⟨[.lend [false,false,false,false,true,false,false,false,false,false,false]],[]⟩
def SgT:FuncId->Sig:=(λf=>bif Nat.beq f 124 then sOP else bif Nat.beq f 138 then sL else bif Nat.beq f 139 then sL else bif Nat.beq f 192 then sOP else bif Nat.beq f 194 then⟨[],[.own]⟩else bif Nat.beq f 221 then sL else bif Nat.beq f 222 then sL else bif Nat.beq f 271 then⟨[],[.own]⟩else bif Nat.beq f 70 then⟨[],[.own]⟩else bif Nat.beq f 224 then⟨[],[.own]⟩else bif Nat.beq f 325 then⟨[],[.own]⟩else bif Nat.beq f 140 then⟨[],[.own]⟩else bif Nat.beq f 326 then⟨[],[.own]⟩else{})
def SvT:TypeId->Sig:=λ_=>{}
def cstep_nf(h:((0:Int)<=1)/\(((2:Int)=0)->False)/\ifB (ieq (wrem i 2) 1) (Q [SV.int .u32 (wxor .u32 (wshr .u32 i 1) 3988292384)]) (Q [SV.int .u32 (wshr .u32 i 1)])):Ct prog 141 {} [U32 i] Q:=
 fN SgT SvT func141 h
def ctable_nf(h:∃c:Int->(List Int)->Prop,∃m:Int->(List Int)->Nat,(c 0 (azero 256))/\∀x b,(c x b)->ifB (ilt x 256) (∃a:Int->Int->Prop,∃j:Int->Int->Nat,(a (wcv .u32 x) 0)/\∀d e,(a d e)->ifB (ilt e 8) (Cl prog 141 sP [SV.int .u32 d] (λi=>∃g,(i=[SV.int .u32 g])/\(Sm (some ([[SV.gd 0 true (SV.arr .u32 256 (azero 256))],[SV.gd 0 true (SV.arr .u32 256 b)]])))/\(a g (wadd .i64 e 1))/\Nl (j g (wadd .i64 e 1)) (j d e))) (((0<=x)/\x<256)/\((0<=x)/\x<256)/\(Sm (some ([[SV.gd 0 true (SV.arr .u32 256 (azero 256))]])))/\(c (wadd .i64 x 1) (aset b x d))/\Nl (m (wadd .i64 x 1) (aset b x d)) (m x b))) (Q [SV.arr .u32 256 b])):Ct prog 71 {} ([]:List SV) Q:=
 fO SgT SvT (λk=>bif Nat.beq k 5 then some {slots:=[(4,false,[.int .i64])],owns:=[(128,.arr .u32 256)],fixed:=[0]}else bif Nat.beq k 10 then some {slots:=[(3,false,[.int .u32]),(9,false,[.int .i64])],fixed:=[0,128]}else none) func71 h
def csum_nf{rows:LL}(h:∃c:Int->Int->Prop,∃m:Int->Int->Nat,(c i 0)/\∀d a,(c d a)->ifB (ilt a (rlen rows)) (((0<=a)/\a<(rlen rows))/\∃b,(rget rows a=[U8 b])/\((0<=(wxor .u8 (wcv .u8 (wnot .u32 d)) b))/\(wxor .u8 (wcv .u8 (wnot .u32 d)) b)<256)/\((0<=(wxor .u8 (wcv .u8 (wnot .u32 d)) b))/\(wxor .u8 (wcv .u8 (wnot .u32 d)) b)<256)/\((0:Int)<=8)/\(Sm (some ([[SV.gd 0 true (SV.arr .u32 256 x)]])))/\(c (wnot .u32 (wxor .u32 (aget x (wxor .u8 (wcv .u8 (wnot .u32 d)) b)) (wshr .u32 (wnot .u32 d) 8))) (wadd .i64 a 1))/\Nl (m (wnot .u32 (wxor .u32 (aget x (wxor .u8 (wcv .u8 (wnot .u32 d)) b)) (wshr .u32 (wnot .u32 d) 8))) (wadd .i64 a 1)) (m d a)) (Q [SV.int .u32 d])):Ct prog 72 {} [.arr .u32 256 x,U32 i,SL 1 rows] Q:=
 fO SgT SvT (λk=>bif Nat.beq k 13 then some {slots:=[(1,false,[.int .u32]),(12,false,[.int .i64])],fixed:=[384]}else none) func72 h
def cseal_nf{rows:LL}(h:Cl prog 72 sP [SV.arr .u32 256 x,SV.int .u32 0,SL 1 rows] (λg=>∃d,(g=[SV.int .u32 d])/\Cl prog 140 sO [SL 1 rows] (λe=>∃l,(e=[SL 1 l])/\∃c:LL->Int->Prop,∃m:LL->Int->Nat,(c l 0)/\∀b a,(c b a)->ifB (ilt a 4) ((0<=(wmul .i64 8 a))/\((lsum (rlen b) (rlen ([[U8 (wcv .u8 (wshr .u32 d (wmul .i64 8 a)))]])))<=2147483648)/\(Sm (some ([[SV.gd 0 true (SV.arr .u32 256 x)]])))/\(c (rapp b ([[U8 (wcv .u8 (wshr .u32 d (wmul .i64 8 a)))]])) (wadd .i64 a 1))/\Nl (m (rapp b ([[U8 (wcv .u8 (wshr .u32 d (wmul .i64 8 a)))]])) (wadd .i64 a 1)) (m b a)) (Q [SL 1 b])))):Ct prog 271 ⟨[],[.own]⟩ [.arr .u32 256 x,SL 1 rows] Q:=
 fO SgT SvT (λk=>bif Nat.beq k 14 then some {slots:=[(6,false,[.own 1]),(13,false,[.int .i64])],fixed:=[256]}else none) func271 h
def copen_nf{rows:LL}(h:ifB (ilt (wsub .i64 (rlen rows) 4) 0) (Q ([SL 1 [],I 10])) ((((0:Int)<=0)/\(0<=(wsub .i64 (rlen rows) 4))/\(wsub .i64 (rlen rows) 4)<=(rlen rows))/\Cl prog 271 sO [SV.arr .u32 256 x,SL 1 (rsub rows 0 (wsub .i64 (rlen rows) 4))] (λd=>∃l,(d=[SL 1 l])/\Cl prog 223 sP [SL 1 l,SL 1 rows] (λc=>∃b,(c=[B b])/\ifB (bnot b) (Q ([SL 1 [],I 12])) ((((0:Int)<=0)/\(0<=(wsub .i64 (rlen rows) 4))/\(wsub .i64 (rlen rows) 4=wsub .i64 (rlen rows) 4)/\(wsub .i64 (rlen rows) 4)<=(rlen rows))/\Q [SL 1 (rsub rows 0 (wsub .i64 (rlen rows) 4)),I 0]))))):Ct prog 220 {} [.arr .u32 256 x,SL 1 rows] Q:=
 fN SgT SvT func220 h
def kindly_nf(h:Q [B (bpick (ige k 1) (ile k 3) false)]):Ct prog 219 {} [I k] Q:=
 fN SgT SvT func219 h
def fput_nf(k:Int)(rows:LL)(Q:QQ)(h:Cl prog 219 sP [I k] (λe=>∃b,(e=[B b])/\ifB (bnot b) (Q ([SL 1 [],I 2])) (ifB (igt (rlen rows) 200) (Q ([SL 1 [],I 9])) (((0:Int)<=8)/\Cl prog 71 sP [] (λc=>∃a,(c=[SV.arr .u32 256 a])/\((lsum (rlen ([[U8 (wcv .u8 (wshr .i64 (rlen rows) 8))],[U8 (wcv .u8 (rlen rows))],[U8 (wcv .u8 k)]])) (rlen rows))<=2147483648)/\Cl prog 271 sO ([SV.arr .u32 256 a,SV.slice 1 (rapp ([[U8 (wcv .u8 (wshr .i64 (rlen rows) 8))],[U8 (wcv .u8 (rlen rows))],[U8 (wcv .u8 k)]]) rows) 0]) (λd=>∃l,(d=[SL 1 l])/\Q [SL 1 l,I 0])))))):Ct prog 192 ⟨[],[.own,.pure]⟩ [I k,SL 1 rows] Q:=
 fN SgT SvT func192 h
def fnext_nf{rows:LL}(h:ifB (bpick (ilt i 0) true (igt i (rlen rows))) (Q ([I 3,I 0,SL 1 [],I 0])) (((0<=i)/\(i<=(rlen rows))/\(rlen rows)<=(rlen rows))/\ifB (ieq (rlen (rsub rows i (rlen rows))) 0) (Q ([I 1,I 0,SL 1 [],I 0])) (ifB (ilt (rlen (rsub rows i (rlen rows))) 7) (Q ([I 2,I 0,SL 1 [],I 0])) ((((0:Int)<=0)/\0<(rlen (rsub rows i (rlen rows))))/\∃x,(rget (rsub rows i (rlen rows)) 0=[U8 x])/\((0:Int)<=8)/\(((0:Int)<=1)/\1<(rlen (rsub rows i (rlen rows))))/\∃c,(rget (rsub rows i (rlen rows)) 1=[U8 c])/\ifB (igt (wor .i64 (wshl .i64 (wcv .i64 x) 8) (wcv .i64 c)) 200) (Q ([I 3,I 0,SL 1 [],I 0])) (ifB (ilt (rlen (rsub rows i (rlen rows))) (wadd .i64 (wor .i64 (wshl .i64 (wcv .i64 x) 8) (wcv .i64 c)) 7)) (Q ([I 2,I 0,SL 1 [],I 0])) ((((0:Int)<=2)/\2<(rlen (rsub rows i (rlen rows))))/\∃e,(rget (rsub rows i (rlen rows)) 2=[U8 e])/\Cl prog 219 sP [I (wcv .i64 e)] (λk=>∃b,(k=[B b])/\ifB (bnot b) (Q ([I 3,I 0,SL 1 [],I 0])) ((((0:Int)<=0)/\(0<=(wadd .i64 (wor .i64 (wshl .i64 (wcv .i64 x) 8) (wcv .i64 c)) 7))/\(wadd .i64 (wor .i64 (wshl .i64 (wcv .i64 x) 8) (wcv .i64 c)) 7)<=(rlen (rsub rows i (rlen rows))))/\Cl prog 71 sP [] (λg=>∃d,(g=[SV.arr .u32 256 d])/\Cl prog 220 sP [SV.arr .u32 256 d,SV.slice 1 (rsub (rsub rows i (rlen rows)) 0 (wadd .i64 (wor .i64 (wshl .i64 (wcv .i64 x) 8) (wcv .i64 c)) 7)) 0] (λa=>∃l j,(a=[SL 1 l,I j])/\ifB (ine j 0) (Q ([I 3,I 0,SL 1 [],I 0])) ((((0:Int)<=3)/\((3:Int)<=(rlen l))/\(rlen l)<=(rlen l))/\Q [I 0,I (wcv .i64 e),SL 1 (rsub l 3 (rlen l)),I (wadd .i64 (wor .i64 (wshl .i64 (wcv .i64 x) 8) (wcv .i64 c)) 7)]))))))))))):Ct prog 137 {} [SL 1 rows,I i] Q:=
 fN SgT SvT func137 h
def snumb_nf(h:Q [B (bpick (ige i 1) (ile i 99999999) false)]):Ct prog 134 {} [I i] Q:=
 fN SgT SvT func134 h
def sput_nf{rows:LL}(h:Cl prog 70 sO [SL 1 rows,U64 (wcv .u64 i)] (λa=>∃n,(a=[SL 1 n])/\Cl prog 70 sO [SL 1 n,U64 (wcv .u64 j)] (λc=>∃e,(c=[SL 1 e])/\Cl prog 70 sO [SL 1 e,U64 (wcv .u64 b)] (λd=>∃g,(d=[SL 1 g])/\Q [SL 1 g])))):Ct prog 194 ⟨[],[.own]⟩ [SL 1 rows,I i,cx3 j b l] Q:=
 fN SgT SvT func194 h
def shead_nf{num:Int}(h:Cl prog 134 sP [I num] (λm=>∃b,(m=[B b])/\ifB (bnot b) (Q ([SL 1 [],I 1])) (Cl prog 193 sP ([SV.agg [I c,I i,SL 1 l]]) (λe=>∃j,(e=[B j])/\ifB (bpick (bnot j) true (igt (rlen l) 0)) (Q ([SL 1 [],I 1])) ((0<(rlen ([[U8 102],[U8 98],[U8 120],[U8 49]])))/\Cl prog 194 sO ([SL 1 ([[U8 102],[U8 98],[U8 120],[U8 49]]),I num,SV.agg [I c,I i,SL 1 l]]) (λg=>∃a,(g=[SL 1 a])/\Cl prog 192 (Sig.mk [] [Md.own,Md.pure]) [I 1,SL 1 a] (λd=>∃k x,(d=[SL 1 k,I x])/\Q [SL 1 k,I x]))))))):Ct prog 124 ⟨[],[.own,.pure]⟩ [I num,cx3 c i l] Q:=
 fN SgT SvT func124 h
def sadd_nf{e:LL}{x y z:Int}(h:Cl prog 191 sP ([SV.agg [I b,I i,SL 1 e],SV.agg [I j,I c,I k,S s,I x,I y,I z]]) (λq=>∃l m,∃n o g,(q=[SL 1 l,SV.agg [I m,I n,SL 1 o],I g])/\ifB (ine g 0) (Q ([SL 1 [],SV.agg [I b,I i,SL 1 e],I g])) (Cl prog 192 (Sig.mk [] [Md.own,Md.pure]) [I 2,SL 1 l] (λa=>∃p d,(a=[SL 1 p,I d])/\ifB (ine d 0) (Q ([SL 1 [],SV.agg [I b,I i,SL 1 e],I d])) (Q ([SL 1 p,SV.agg [I m,I n,SL 1 o],I 0])))))):Ct prog 121 {} [cx3 b i e,ev7 j c k s x y z] Q:=
 fN SgT SvT func121 h
def Zua(h:ifB (ilt i 0) (Q ([SL 1 [],I 1])) (Cl prog 193 sP ([SV.agg [I c,I j,SL 1 l]]) (λk=>∃b,(k=[B b])/\ifB (bnot b) (Q ([SL 1 [],I 1])) (Cl prog 194 sO ([SL 1 [],I i,SV.agg [I c,I j,SL 1 l]]) (λg=>∃e,(g=[SL 1 e])/\Cl prog 192 (Sig.mk [] [Md.own,Md.pure]) [I 3,SL 1 e] (λa=>∃d x,(a=[SL 1 d,I x])/\Q [SL 1 d,I x])))))):Ct prog 122 {} [I i,cx3 c j l] Q:=
 fN SgT SvT func122 h
def bhasp_nf{rows a:LL}(h:ifB (ige (rlen rows) (rlen a)) ((((0:Int)<=0)/\(0<=(rlen a))/\(rlen a)<=(rlen rows))/\Cl prog 223 sP [SL 1 (rsub rows 0 (rlen a)),SL 1 a] (λc=>∃b,(c=[B b])/\Q [B b])) (Q [B false])):Ct prog 315 {} [SL 1 rows,SL 1 a] Q:=
 fN SgT SvT func315 h
def bcutp_nf{rows a:LL}(h:Cl prog 315 sP [SL 1 rows,SL 1 a] (λc=>∃b,(c=[B b])/\ifB (bnot b) (Q [SL 1 rows,B false]) (((0<=(rlen a))/\((rlen a)<=(rlen rows))/\(rlen rows)<=(rlen rows))/\Q [SL 1 (rsub rows (rlen a) (rlen rows)),B true]))):Ct prog 246 {} [SL 1 rows,SL 1 a] Q:=
 fN SgT SvT func246 h
def Zub(h:ifB (ige (slen s) (slen t)) ((((0:Int)<=0)/\(0<=(slen t))/\(slen t)<=(slen s))/\Q [B (seq (ssub s 0 (slen t)) t)]) (Q [B false])):Ct prog 287 {} [S s,S t] Q:=
 fN SgT SvT func287 h
def sname_nf(h:Cl prog 134 sP [I i] (λe=>∃b,(e=[B b])/\ifB (bnot b) (Q ([S (bA [])])) (Cl prog 135 sP [I i,I 10] (λc=>∃s,(c=[S s])/\Cl prog 136 sP ([S (bA [48]),I (wsub .i64 8 (slen s))]) (λd=>∃a,(d=[S a])/\((lsum (slen (bA [115,101,103,46])) (slen a))<=9223372036854775807)/\((lsum (slen (scat (bA [115,101,103,46]) a)) (slen s))<=9223372036854775807)/\Q ([S (scat (scat (bA [115,101,103,46]) a) s)])))))):Ct prog 68 {} [I i] Q:=
 fN SgT SvT func68 h
def stepI(n:Int):Int:=if wrem n 2=1 then wxor .u32 (wshr .u32 n 1) 3988292384 else wshr .u32 n 1
def itr:Nat->Int->Int
 |0,n=>n
 |k+1,n=>stepI (itr k n)
def tbl:List Int:=(List.range 256).map λ(k:Nat)=>itr 8 (wcv .u32 (k:Int))
def idx(n b:Int):Int:=wxor .u8 (wcv .u8 (wnot .u32 n)) b
def stp(n b:Int):Int:=wnot .u32 (wxor .u32 (aget tbl (idx n b)) (wshr .u32 (wnot .u32 n) 8))
def sumL(l:List Int)(n:Int):Int:=l.foldl stp n
def s4(n:Int):List Int:=[wcv .u8 (wshr .u32 n 0),wcv .u8 (wshr .u32 n 8),wcv .u8 (wshr .u32 n 16),wcv .u8 (wshr .u32 n 24)]
def sealB(l:List Int):List Int:=l++s4 (sumL l 0)
def tbl_len:tbl.length=256:=by simp[tbl]
def Zma(a:Int):0<=IntKind.u8.wrap a/\IntKind.u8.wrap a<256:=by
 simp[IntKind.wrap,IntKind.signed,IntKind.bits];omega
def idx_range(n b:Int):0<=idx n b/\idx n b<256:=Zma _
def s4_byts(n:Int):Byts (s4 n):=by
 intro x hx;simp only[s4,List.mem_cons,YX,or_false]at hx
 rcases hx with rfl|rfl|rfl|rfl
 all_goals (have:=Zma (wshr .u32 n 0);have:=Zma (wshr .u32 n 8);have:=Zma (wshr .u32 n 16);have:=Zma (wshr .u32 n 24);unfold wcv;omega)
def s4_len(n:Int):(s4 n).length=4:=rfl
def Zi1(h:Byts x):Byts (sealB x):=h.app (s4_byts _)
def Zf1(l:List Int):(sealB l).length=l.length+4:=by simp[sealB,s4_len]
def cstep_fn(n:Int):Ct prog 141 {} [U32 n] (λr=>r=[U32 (stepI n)]):=by
 refine cstep_nf ⟨Vo,λh=>Vo,Zaa (λh=>?_) (λh=>?_)⟩
 .simp at h;simp[stepI,h]
 .simp at h;simp[stepI,h]
def Zig:Ct prog 71 {} [] (λr=>r=[.arr .u32 256 tbl]):=by
 refine ctable_nf ⟨λx a=>0<=x/\x<=256/\a.length=256/\a.take x.toNat=tbl.take x.toNat,λx _=>(256-x).toNat,⟨Vo,Vo,by simp[azero],Vs⟩,?_⟩;rintro x a ⟨x0,x1,hl,ht⟩;refine Zaa (λh=>?_) (λh=>?_)
 .simp at h;have w:wadd IntKind.i64 x 1=x+1:=Zac;refine⟨λy j=>0<=j/\j<=8/\y=itr j.toNat (wcv .u32 x),λ_ j=>(8-j).toNat,⟨Vo,Vo,rfl⟩,?_⟩;rintro y j ⟨j0,j1,rfl⟩;refine Zaa (λb=>?_) (λb=>?_)
  .simp at b;have w2:wadd IntKind.i64 j 1=j+1:=Zac;rw[w2];refine Cl.of (cstep_fn _) ⟨_,rfl,rfl,⟨Vo,Vo,?_⟩,?_⟩
   .rw[show(j+1).toNat=j.toNat+1 by omega];rfl
   .show Nat.succ (8-(j+1)).toNat<=(8-j).toNat;omega
  .simp at b;have d:j.toNat=8:=Vo;rw[w,d];refine⟨⟨x0,h⟩,⟨x0,h⟩,rfl,⟨Vo,Vo,by simp[aset,hl],?_⟩,?_⟩
   .have e:x.toNat<a.length:=Vo;have c:x.toNat<tbl.length:=(by rw[tbl_len];omega);rw[show(x+1).toNat=x.toNat+1 by omega,List.take_succ_eq_append_getElem c,<-ht,List.take_succ_eq_append_getElem (by simp[aset];omega)];have e1:(aset a x (itr 8 (wcv IntKind.u32 x))).take x.toNat=a.take x.toNat:=(by unfold aset;rw[List.take_set_of_le (Nat.le_refl _)]);have e2:(aset a x (itr 8 (wcv IntKind.u32 x)))[x.toNat]'(by simp[aset];omega)=tbl[x.toNat]:=(by simp[aset,tbl];rw[show(max x 0:Int)=x by omega]);rw[e1,e2]
   .show Nat.succ (256-(x+1)).toNat<=(256-x).toNat;omega
 .simp at h;have hx:x.toNat=256:=Vo;rw[hx,List.take_of_length_le Vo,List.take_of_length_le (by rw[tbl_len];omega)]at ht;rw[ht]
def Zto(l:List Int)(n:Int)(c:l.length<=1000000):Ct prog 72 {} [.arr .u32 256 tbl,U32 n,SL 1 (bR l)] (λr=>r=[U32 (sumL l n)]):=by
 refine csum_nf ⟨λy x=>0<=x/\x<=l.length/\y=sumL (l.take x.toNat) n,λ_ x=>(l.length-x).toNat,⟨Vo,Vo,rfl⟩,?_⟩;rintro y x ⟨x0,x1,rfl⟩;refine Zaa (λh=>?_) (λh=>?_)
 .simp at h;have b:x.toNat<l.length:=Vo;have w:wadd IntKind.i64 x 1=x+1:=Zac;rw[w];have a:=idx_range (sumL (l.take x.toNat) n) (byAt l x);refine⟨⟨x0,by simpa using h⟩,_,Zfi x0 h,⟨a.1,a.2⟩,⟨a.1,a.2⟩,Vo,rfl,⟨Vo,Vo,?_⟩,?_⟩
  .rw[show(x+1).toNat=x.toNat+1 by omega,List.take_succ_eq_append_getElem b];simp only[sumL,List.foldl_append,List.foldl_cons,List.foldl_nil];have:byAt l x=l[x.toNat]:=(by simp[byAt,b]);rw[<-this];rfl
  .show Nat.succ (l.length-(x+1)).toNat<=(l.length-x).toNat;omega
 .simp at h;rw[List.take_of_length_le Vo]
def Zww(l:List Int)(a:l.length<=1000000):Ct prog 271 ⟨[],[.own]⟩ [.arr .u32 256 tbl,SL 1 (bR l)] (λr=>r=[SL 1 (bR (sealB l))]):=by
 refine cseal_nf (Cl.of (Zto l 0 a) ⟨_,rfl,Cl.of (Zvp (bR l) Vm) ⟨_,rfl,?_⟩⟩);refine⟨λb x=>0<=x/\x<=4/\b=bR (l++(s4 (sumL l 0)).take x.toNat),λ_ x=>(4-x).toNat,⟨Vo,Vo,Vs⟩,?_⟩;rintro _ x ⟨x0,x1,rfl⟩;refine Zaa (λh=>?_) (λh=>?_)
 .simp at h;have w:wadd IntKind.i64 x 1=x+1:=Zac;have w2:wmul IntKind.i64 8 x=8*x:=Zbj Vo Vo;rw[w,w2];refine⟨Vo,by simp[lsum,rlen];omega,rfl,⟨Vo,Vo,?_⟩,?_⟩
  .have hx:x=0\/x=1\/x=2\/x=3:=Vo
   rcases hx with rfl|rfl|rfl|rfl<;>simp[rapp,s4]
  .show Nat.succ (4-(x+1)).toNat<=(4-x).toNat;omega
 .simp at h;rw[List.take_of_length_le (by rw[s4_len];omega)];rfl
def openE(l:List Int):List Int×Int:=if l.length<4 then([],10)else if sealB (l.take (l.length-4))=l then(l.take (l.length-4),0)else([],12)
def Zwx(l:List Int)(b:Byts l)(e:l.length<=1000000):Ct prog 220 {} [.arr .u32 256 tbl,SL 1 (bR l)] (λr=>r=[SL 1 (bR (openE l).1),I (openE l).2]):=by
 have c:rlen (bR l)=l.length:=(by simp[rlen]);refine copen_nf ?_;rw[c];have w:wsub IntKind.i64 (l.length:Int) 4=l.length-4:=Zap;rw[w];refine Zaa (λh=>?_) (λh=>?_)
 .simp at h;simp[openE,show l.length<4 by omega]
 .simp at h;have d:((l.length:Int)-4).toNat=l.length-4:=Vo;refine⟨⟨Vo,Vo,Vo⟩,?_⟩;rw[Zdf,d];simp only[Int.toNat_zero,List.drop_zero];refine Cl.of (Zww _ Vm) ⟨_,rfl,Cl.of (Zhz _ _ (Zi1 (b.sub λx hx=>List.mem_of_mem_take hx)) b) ⟨_,rfl,Zaa (λa=>?_) (λa=>?_)⟩⟩
  .simp at a;simp[openE,show¬l.length<4 by omega,a]
  .simp at a;refine⟨⟨Vo,Vo,trivial,Vo⟩,?_⟩;simp[openE,show¬l.length<4 by omega,a]
def fr(k:Int)(p:List Int):List Int:=sealB (0::(p.length:Int)::k::p)
def putF(k:Int)(p:List Int):List Int×Int:=if¬(1<=k/\k<=3)then([],2)else if 200<p.length then([],9)else(fr k p,0)
theorem Zf2(k:Int)(p:List Int):(fr k p).length=p.length+7:=by simp[fr,Zf1]
def Zre(k:Int):Ct prog 219 {} [I k] (λr=>r=[B (decide (1<=k/\k<=3))]):=by
 refine kindly_nf ?_;have:bpick (ige k 1) (ile k 3) false=decide (1<=k/\k<=3):=(by rw[Bool.eq_iff_iff,decide_eq_true_eq];simp);rw[this]
def wcv8{a:Int}(b:0<=a:=by omega)(c:a<256:=by omega):wcv .u8 a=a:=by rw[wcvU8 a b];omega
def Ztp(k:Int)(l:List Int)(e:Byts l)(f:l.length<=1000000):Ct prog 192 ⟨[],[.own,.pure]⟩ [I k,SL 1 (bR l)] (λr=>r=[SL 1 (bR (putF k l).1),I (putF k l).2]):=by
 have b:rlen (bR l)=l.length:=(by simp[rlen]);refine fput_nf _ _ _ (Cl.of (Zre k) ⟨_,rfl,?_⟩);rw[b];refine Zaa (λh=>?_) (λh=>Zaa (λa=>?_) (λa=>?_))
 .simp at h;have:¬(1<=k/\k<=3):=Vo;simp[putF,this]
 .simp at h a;simp[putF,h,show 200<l.length by omega]
 .simp at h a;have e1:wcv IntKind.u8 (wshr IntKind.i64 (l.length:Int) 8)=0:=(by have:wshr IntKind.i64 (l.length:Int) 8=0:=(by unfold wshr;have:(2:Int)^(min (8:Int).toNat IntKind.i64.bits)=256:=Vd;rw[this];show(l.length:Int).fdiv 256=0;rw[Int.fdiv_eq_ediv_of_nonneg _ Vo];omega);rw[this];rfl);have e2:wcv IntKind.u8 (l.length:Int)=l.length:=wcv8;have c:wcv IntKind.u8 k=k:=wcv8;rw[e1,e2,c];refine⟨Vo,Cl.of Zig ⟨_,rfl,by simp[lsum,rlen];omega,?_⟩⟩;have d:rapp [[U8 0],[U8 (l.length:Int)],[U8 k]] (bR l)=bR (0::(l.length:Int)::k::l):=rfl;rw[d];refine Cl.of (Zww _ Vm) ⟨_,rfl,?_⟩;simp[putF,h,show¬200<l.length by omega,fr]
def wor8{x y:Int}(hx:0<=x/\x<=255)(c:0<=y/\y<=255):wor .i64 (wshl .i64 (wcv .i64 x) 8) (wcv .i64 y)=256*x+y:=by
 have e1:wshl .i64 x 8=x*256:=(by unfold wshl;have:(2:Int)^(min (8:Int).toNat IntKind.i64.bits)=256:=Vd;rw[this];exact Zbj Vo Vo);rw[Zh1,Zh1,e1]
 obtain⟨m,rfl⟩:∃m:Nat,x=m:=⟨x.toNat,Vo⟩
 obtain⟨n,rfl⟩:∃n:Nat,y=n:=⟨y.toNat,Vo⟩
 unfold wor;have a:(BitVec.ofInt IntKind.i64.bits ((m:Int)*256)).toNat=m*256:=by have:((m:Int)*256)=((m*256:Nat):Int):=Vo;rw[this,BitVec.ofInt_natCast,BitVec.toNat_ofNat];exact Nat.mod_eq_of_lt (by show m*256<18446744073709551616;omega)
 have b:(BitVec.ofInt IntKind.i64.bits (n:Int)).toNat=n:=(by rw[BitVec.ofInt_natCast,BitVec.toNat_ofNat];exact Nat.mod_eq_of_lt (by show n<18446744073709551616;omega));rw[BitVec.toNat_or,a,b];have:m*256|||n=m*256+n:=(by have:=Wt (show n<2^8 by omega) m;rw[Nat.shiftLeft_eq]at this;exact this.symm);rw[this];have:((m*256+n:Nat):Int)=256*(m:Int)+n:=Vo;rw[this];exact Zbj Vo Vo
def nextR(r:List Int):Int×Int×List Int×Int:=
 if r=[]then(1,0,[],0)else if r.length<7 then(2,0,[],0)
 else if 200<256*byAt r 0+byAt r 1 then(3,0,[],0)
 else if(r.length:Int)<256*byAt r 0+byAt r 1+7 then(2,0,[],0)
 else if¬(1<=byAt r 2/\byAt r 2<=3)then(3,0,[],0)
 else if sealB (r.take ((256*byAt r 0+byAt r 1).toNat+3))=r.take ((256*byAt r 0+byAt r 1).toNat+7)then
  (0,byAt r 2,(r.take ((256*byAt r 0+byAt r 1).toNat+3)).drop 3,256*byAt r 0+byAt r 1+7)else(3,0,[],0)
def nextF(l:List Int)(a:Int):Int×Int×List Int×Int:=if a<0\/(l.length:Int)<a then(3,0,[],0)else nextR (l.drop a.toNat)
def Zel(a:Byts x){i:Int}(c:0<=i:=by omega)(d:i<x.length:=by omega):0<=byAt x i/\byAt x i<=255:=by
 have:i.toNat<x.length:=Vo;have b:byAt x i=x[i.toNat]:=(by simp[byAt,this]);rw[b];exact a _ (List.getElem_mem _)
abbrev nxS(p:Int×Int×List Int×Int):List SV:=[I p.1,I p.2.1,SL 1 (bR p.2.2.1),I p.2.2.2]
def fnext_fn(l:List Int)(a:Int)(y:Byts l)(K:l.length<=1000000):Ct prog 137 {} [SL 1 (bR l),I a] (λr=>r=nxS (nextF l a)):=by
 have o:rlen (bR l)=l.length:=(by simp[rlen]);refine fnext_nf ?_;rw[o];refine Zaa (λh=>?_) (λh=>?_)
 .simp at h;simp[nextF,h]
 simp at h;have z:¬(a<0\/(l.length:Int)<a):=Vo;have p:rsub (bR l) a (l.length:Int)=bR (l.drop a.toNat):=by rw[Zdf];simp
 have c:Byts (l.drop a.toNat):=y.sub λx hx=>List.mem_of_mem_drop hx;have G:(l.drop a.toNat).length<=1000000:=Vm;refine⟨⟨h.1,h.2,Vo⟩,?_⟩;rw[p,show nextF l a=nextR (l.drop a.toNat) by unfold nextF;rw[if_neg z]];generalize l.drop a.toNat=r at*;have q:rlen (bR r)=r.length:=(by simp[rlen]);rw[q];refine Zaa (λb=>?_) (λb=>Zaa (λj=>?_) (λj=>?_))
 .simp at b;simp[nextR,b]
 .simp at b j;simp[nextR,b,show r.length<7 by omega]
 simp at b j;have A:¬r.length<7:=Vo;have C:=Zel c (i:=0);have D:=Zel c (i:=1);have L:=Zel c (i:=2);refine⟨⟨Vo,Vo⟩,_,Zfi,Vo,⟨Vo,Vo⟩,_,Zfi,?_⟩;rw[wor8 C D]
 have d:nextR r=if 200<256*byAt r 0+byAt r 1 then(3,0,[],0)
   else if(r.length:Int)<256*byAt r 0+byAt r 1+7 then(2,0,[],0)
   else if¬(1<=byAt r 2/\byAt r 2<=3)then(3,0,[],0)
   else if sealB (r.take ((256*byAt r 0+byAt r 1).toNat+3))=r.take ((256*byAt r 0+byAt r 1).toNat+7)then
    (0,byAt r 2,(r.take ((256*byAt r 0+byAt r 1).toNat+3)).drop 3,256*byAt r 0+byAt r 1+7)else(3,0,[],0):=by
  conv=>lhs;unfold nextR
  rw[if_neg b,if_neg A]
 have H:0<=256*byAt r 0+byAt r 1:=Vo;rw[d];generalize 256*byAt r 0+byAt r 1=n at*;refine Zaa (λe=>?_) (λe=>?_)
 .simp at e;simp[e]
 simp at e;have w:wadd IntKind.i64 n 7=n+7:=Zac;rw[w];refine Zaa (λf=>?_) (λf=>?_)
 .simp at f;simp[f,show¬200<n by omega]
 simp at f;have E:wcv IntKind.i64 (byAt r 2)=byAt r 2:=Zh1;refine⟨⟨Vo,Vo⟩,_,Zfi,?_⟩;rw[E];refine Cl.of (Zre _) ⟨_,rfl,Zaa (λg=>?_) (λg=>?_)⟩
 .simp at g;have:¬(1<=byAt r 2/\byAt r 2<=3):=Vo;rw[if_neg Vo,if_neg Vo,if_pos this];rfl
 simp at g
 have k:(if 200<n then((3,0,[],0):Int×Int×List Int×Int)
   else if(r.length:Int)<n+7 then(2,0,[],0)
   else if¬(1<=byAt r 2/\byAt r 2<=3)then(3,0,[],0)
   else if sealB (r.take (n.toNat+3))=r.take (n.toNat+7)then
    (0,byAt r 2,(r.take (n.toNat+3)).drop 3,n+7)else(3,0,[],0))=if sealB (r.take (n.toNat+3))=r.take (n.toNat+7)then
    (0,byAt r 2,(r.take (n.toNat+3)).drop 3,n+7)else(3,0,[],0):=by
  rw[if_neg Vo,if_neg Vo,if_neg (by simp;exact g)]
 rw[k];have s:(n+7).toNat=n.toNat+7:=Vo;have t:rsub (bR r) 0 (n+7)=bR (r.take (n.toNat+7)):=by rw[Zdf,s];simp
 have u:(r.take (n.toNat+7)).length=n.toNat+7:=Vm;refine⟨⟨Vo,Vo,Vo⟩,Cl.of Zig ⟨_,rfl,?_⟩⟩;rw[t];refine Cl.of (Zwx _ (c.sub λx hx=>List.mem_of_mem_take hx) Vo) ⟨_,_,rfl,?_⟩;have v:(r.take (n.toNat+7)).take ((r.take (n.toNat+7)).length-4)=r.take (n.toNat+3):=(by rw[u,List.take_take];congr 1;omega);have F:openE (r.take (n.toNat+7))=if sealB (r.take (n.toNat+3))=r.take (n.toNat+7)then(r.take (n.toNat+3),0)else([],12):=(by unfold openE;rw[if_neg Vo,v]);rw[F];by_cases he:sealB (r.take (n.toNat+3))=r.take (n.toNat+7)
 .rw[if_pos he,if_pos he];have J:(r.take (n.toNat+3)).length=n.toNat+3:=Vm
  have m:rlen (bR (r.take (n.toNat+3)))=((n.toNat+3:Nat):Int):=(by simp[rlen];omega);refine Zaa (λh=>by simp at h) (λ_=>?_);rw[m];refine⟨⟨Vo,Vo,Vo⟩,?_⟩;rw[Zdf];have:((r.take (n.toNat+3)).take ((n.toNat+3:Nat):Int).toNat).drop (3:Int).toNat=(r.take (n.toNat+3)).drop 3:=(by rw[Int.toNat_natCast,List.take_of_length_le Vo];rfl);rw[this]
 .rw[if_neg he,if_neg he];exact Zaa (λ_=>rfl) (λh=>by simp at h)
def Zsd(n:Int):Ct prog 134 {} [I n] (λr=>r=[B (decide (1<=n/\n<=99999999))]):=by
 refine snumb_nf ?_;have:bpick (ige n 1) (ile n 99999999) false=decide (1<=n/\n<=99999999):=(by rw[Bool.eq_iff_iff,decide_eq_true_eq];simp);rw[this]
def Zse(l:List Int)(n s a:Int)(e:LL)(b:0<=n/\n<=9223372036854775807)(c:0<=s/\s<=9223372036854775807)(d:0<=a/\a<=9223372036854775807)(f:l.length<=90000):
  Ct prog 194 ⟨[],[.own]⟩ [SL 1 (bR l),I n,Seg.cx3 s a e] (λr=>r=[SL 1 (bR (l++(leb n.toNat++(leb s.toNat++leb a.toNat))))]):=by
 refine sput_nf ?_;have g:(leb n.toNat).length<=10:=leb_small;have h:(leb s.toNat).length<=10:=leb_small;rw[Zcf b.1,Zcf c.1,Zcf d.1];refine Cl.of (Zaq l n b.1 Vo Vo) ⟨_,rfl,Cl.of (Zaq _ s c.1 Vo Vm) ⟨_,rfl,Cl.of (Zaq _ a d.1 Vo Vm) ⟨_,rfl,?_⟩⟩⟩;simp
def hdP(n s a:Int):List Int:=[102,98,120,49]++(leb n.toNat++(leb s.toNat++leb a.toNat))
def slP(n s a:Int):List Int:=leb n.toNat++(leb s.toNat++leb a.toNat)
def ctxOK(s a:Int):Prop:=0<=s/\s<=4294967296/\0<=a/\a<=1099511627776
instance (s a:Int):Decidable (ctxOK s a):=inferInstanceAs (Decidable (_/\_))
def headE(n s a:Int)(l:List BA):List Int×Int:=if¬(1<=n/\n<=99999999)then([],1)else if¬(ctxOK s a/\l=[])then([],1)else(fr 1 (hdP n s a),0)
def Zsf{n s a:Int}(b:n<=99999999:=by omega)(c:s<=4294967296:=by omega)(d:a<=1099511627776:=by omega):(hdP n s a).length<=34:=by
 have e:(leb n.toNat).length<=10:=leb_small;have f:(leb s.toNat).length<=10:=leb_small;have g:(leb a.toNat).length<=10:=leb_small;simp[hdP];omega
theorem Zu3(n s a:Int):Byts (hdP n s a):=Byts.app (λx hx=>by simp at hx;omega) ((Zat _).app ((Zat _).app (Zat _)))
def shead_fn(n s a:Int)(l:List BA)(g:l.length<=9223372036854775807):Ct prog 124 ⟨[],[.own,.pure]⟩ [I n,Seg.cx3 s a (nR l)] (λr=>r=[SL 1 (bR (headE n s a l).1),I (headE n s a l).2]):=by
 refine shead_nf (Cl.of (Zsd n) ⟨_,rfl,Zaa (λh=>?_) (λh=>?_)⟩)
 .simp at h;have:¬(1<=n/\n<=99999999):=Vo;simp only[headE,if_pos this];rfl
 simp at h;refine Cl.of (Zfx s a l) ⟨_,rfl,Zaa (λb=>?_) (λb=>?_)⟩
 .have d:¬(ctxOK s a/\l=[]):=(by rintro⟨c,rfl⟩;have:ctxB s a []=true:=Zba.2 ⟨c,by rfl⟩;simp[this,rlen]at b);rw[headE,if_neg (by simp;exact h),if_pos d];rfl
 .simp[rlen]at b;have c:=(Zba.1 b.1).1;have e:l=[]:=b.2;subst e;rw[headE,if_neg (by simp;exact h),if_neg (by simp;exact c)];refine⟨Vd,Cl.of (Zse [102,98,120,49] n s a _ Vo Vo Vo Vd) ⟨_,rfl,?_⟩⟩;have f:=Zsf (n:=n) (s:=s) (a:=a);refine Cl.of (Ztp 1 (hdP n s a) (Zu3 _ _ _) Vo) ⟨_,_,rfl,?_⟩;simp[putF,show¬200<(hdP n s a).length by omega]
def shead1_nf{num bs n:Int}{a:LL}{rows:LL}(h:(0<(rlen ([[U8 102],[U8 98],[U8 120],[U8 49]])))/\Cl prog 246 sP ([SL 1 rows,SL 1 ([[U8 102],[U8 98],[U8 120],[U8 49]])]) (λrs=>∃g b,(rs=[SL 1 g,B b])/\ifB (bnot b) (Q ([B false,SV.agg [I num,I bs,I n,SL 1 l,SL 7 r,I c,I i,SL 1 a,I e,I j,B o]])) (Cl prog 129 sP [SL 1 g] (λF=>∃N x O,(F=[SV.agg [SL 1 N,I x,I O]])/\Cl prog 128 sP ([SV.agg [SL 1 N,I x,I O]]) (λG=>∃P R,∃T C,(G=[SV.agg [SL 1 P,I R,I T],U64 C])/\Cl prog 128 sP ([SV.agg [SL 1 P,I R,I T]]) (λH=>∃U V,∃W p,(H=[SV.agg [SL 1 U,I V,I W],U64 p])/\Cl prog 128 sP ([SV.agg [SL 1 U,I V,I W]]) (λJ=>∃D E,∃q d,(J=[SV.agg [SL 1 D,I E,I q],U64 d])/\ifB (ine q 0) (Q ([B false,SV.agg [I num,I bs,I n,SL 1 l,SL 7 r,I c,I i,SL 1 a,I e,I j,B o]])) (Cl prog 289 sP ([SV.agg [SL 1 D,I E,I q]]) (λK=>∃ev,(K=[I ev])/\ifB (igt ev 0) (Q ([B false,SV.agg [I num,I bs,I n,SL 1 l,SL 7 r,I c,I i,SL 1 a,I e,I j,B o]])) (Cl prog 134 sP [I (wcv .i64 C)] (λL=>∃X,(L=[B X])/\ifB (bnot X) (Q ([B false,SV.agg [I num,I bs,I n,SL 1 l,SL 7 r,I c,I i,SL 1 a,I e,I j,B o]])) (Cl prog 193 sP ([SV.agg ([I (wcv .i64 p),I (wcv .i64 d),SL 1 []])]) (λM=>∃Y,(M=[B Y])/\ifB (bnot Y) (Q ([B false,SV.agg [I num,I bs,I n,SL 1 l,SL 7 r,I c,I i,SL 1 a,I e,I j,B o]])) (∃s:Int->Int->Int->LL->LL->Int->Int->LL->Int->Int->Bool->Prop,∃m:Int->Int->Int->LL->LL->Int->Int->LL->Int->Int->Bool->Nat,((Sm (some ([[SL 1 D,I E,I q],[I (wcv .i64 p),I (wcv .i64 d),SV.slice 1 [] 1]])))/\s (wcv .i64 C) (wcv .i64 p) (wcv .i64 d) [] r (wcv .i64 p) (wcv .i64 d) [] e j o)/\∀t u,∀v Z,∀l6 w,∀y l7,∀z A b3,(s t u v Z l6 w y l7 z A b3)->Q ([B true,SV.agg [I t,I u,I v,SL 1 Z,SL 7 l6,I w,I y,SL 1 l7,I z,I A,B b3]]))))))))))))))):Ct prog 221 ⟨[.lend [false,false,false,false,true,false,false,false,false,false,false]],[]⟩ [sc11 num bs n l r c i a e j o,SL 1 rows] Q:=
 fO SgT SvT (λk=>bif Nat.beq k 1000010 then some {boxes:=[(1048576,[.int .i64,.int .i64,.int .i64,.sl 1,.own 7,.int .i64,.int .i64,.sl 1,.int .i64,.int .i64,.bool])],fixed:=[896,1408]}else none) func221 h
def srec_nf{num bs c:Int}{g:LL}{rows:LL}(h:Cl prog 290 sP ([SV.agg [I b,I e,SL 1 g],SL 1 rows]) (λu=>∃x k,∃m s,∃n a,∃p q,∃ev d t,(u=[SV.agg [I x,I k,I m,S s,I n,I a,I p],SV.agg [I q,I ev,SL 1 d],I t])/\ifB (ine t 0) (Q ([B false,SV.agg [I num,I bs,I c,SL 1 l,SL 7 r,I b,I e,SL 1 g,I i,I j,B o]])) (((lsum (rlen r) (rlen ([[I x,I k,I m,S s,I n,I a,I p]])))<=2147483648)/\Q ([B true,SV.agg ([I num,I bs,I c,SL 1 l,SL 7 (rapp r ([[I x,I k,I m,S s,I n,I a,I p]])),I q,I ev,SL 1 d,I i,I j,B o])])))):Ct prog 222 ⟨[.lend [false,false,false,false,true,false,false,false,false,false,false]],[]⟩ [sc11 num bs c l r b e g i j o,SL 1 rows] Q:=
 fN SgT SvT func222 h
def stake_nf{num bs t:Int}{g:LL}{rows:LL}(h:ifB o (Q ([B false,SV.agg [I num,I bs,I t,SL 1 l,SL 7 r,I c,I e,SL 1 g,I i,I j,B o]])) (ifB (ieq num 0) (ifB (ieq k 1) (Cl prog 221 (Sig.mk ([Md.lend [false,false,false,false,true,false,false,false,false,false,false]]) []) ([SV.agg [I num,I bs,I t,SL 1 l,SL 7 r,I c,I e,SL 1 g,I i,I j,B o],SL 1 rows]) (λy=>∃b x,∃v w,∃u n,∃a p,∃q ev,∃s z,(y=[B b,SV.agg [I x,I v,I w,SL 1 u,SL 7 n,I a,I p,SL 1 q,I ev,I s,B z]])/\Q ([B b,SV.agg [I x,I v,I w,SL 1 u,SL 7 n,I a,I p,SL 1 q,I ev,I s,B z]]))) (Q ([B false,SV.agg [I num,I bs,I t,SL 1 l,SL 7 r,I c,I e,SL 1 g,I i,I j,B o]]))) (ifB (ieq k 2) (Cl prog 222 (Sig.mk ([Md.lend [false,false,false,false,true,false,false,false,false,false,false]]) []) ([SV.agg [I num,I bs,I t,SL 1 l,SL 7 r,I c,I e,SL 1 g,I i,I j,B o],SL 1 rows]) (λy=>∃b x,∃v w,∃u n,∃a p,∃q ev,∃s z,(y=[B b,SV.agg [I x,I v,I w,SL 1 u,SL 7 n,I a,I p,SL 1 q,I ev,I s,B z]])/\Q ([B b,SV.agg [I x,I v,I w,SL 1 u,SL 7 n,I a,I p,SL 1 q,I ev,I s,B z]]))) (ifB (ieq k 3) (∃A:Int->Int->Int->LL->LL->Int->Int->LL->Int->Int->Bool->Prop,∃m:Int->Int->Int->LL->LL->Int->Int->LL->Int->Int->Bool->Nat,(Cl prog 194 sO ([SL 1 [],I (rlen r),SV.agg [I c,I e,SL 1 g]]) (λy=>∃u,(y=[SL 1 u])/\Cl prog 223 sP [SL 1 rows,SL 1 u] (λC=>∃b,(C=[B b])/\((Option.some []:Option LL)=Option.some [])/\A num bs t l r c e g i j b)))/\∀x v,∀w u,∀n a,∀p q,∀ev s b,(A x v w u n a p q ev s b)->Q ([B b,SV.agg [I x,I v,I w,SL 1 u,SL 7 n,I a,I p,SL 1 q,I ev,I s,B b]])) (Q ([B false,SV.agg [I num,I bs,I t,SL 1 l,SL 7 r,I c,I e,SL 1 g,I i,I j,B o]])))))):Ct prog 138 ⟨[.lend [false,false,false,false,true,false,false,false,false,false,false]],[]⟩ [sc11 num bs t l r c e g i j o,I k,SL 1 rows] Q:=
 fO SgT SvT (λd=>bif Nat.beq d 1000008 then some {boxes:=[(1048576,[.int .i64,.int .i64,.int .i64,.sl 1,.own 7,.int .i64,.int .i64,.sl 1,.int .i64,.int .i64,.bool])],fixed:=[]}else none) func138 h
def sends_nf{num bs d:Int}{g:LL}(h:ifB (bpick (ieq b 1) o false) (Q ([I 4,SV.agg [I num,I bs,I d,SL 1 l,SL 7 r,I c,I i,SL 1 g,I j,I k,B o]])) (ifB (ieq b 1) (Q ([I 1,SV.agg [I num,I bs,I d,SL 1 l,SL 7 r,I c,I i,SL 1 g,I j,I k,B o]])) (ifB (bpick (ieq b 2) (bnot o) false) (Q ([I 2,SV.agg [I num,I bs,I d,SL 1 l,SL 7 r,I c,I i,SL 1 g,I j,I k,B o]])) (Q ([I 3,SV.agg [I num,I bs,I d,SL 1 l,SL 7 r,I c,I i,SL 1 g,I j,I k,B o]]))))):Ct prog 139 ⟨[.lend [false,false,false,false,true,false,false,false,false,false,false]],[]⟩ [sc11 num bs d l r c i g j k o,I b] Q:=
 fN SgT SvT func139 h
def sread_nf{rows:LL}(h:∃s:Int->Int->Int->LL->LL->Int->Int->LL->Int->Int->Bool->Prop,∃m:Int->Int->Int->LL->LL->Int->Int->LL->Int->Int->Bool->Nat,(s 0 0 0 [] [] 0 0 [] 0 0 false)/\∀x u,∀v l,∀w y,∀z A,∀C t b,(s x u v l w y z A C t b)->Cl prog 137 sP [SL 1 rows,I t] (λX=>∃D P,∃R N,(X=[I D,I P,SL 1 R,I N])/\ifB (ine D 0) (Cl prog 139 (Sig.mk ([Md.lend [false,false,false,false,true,false,false,false,false,false,false]]) []) ([SV.agg [I x,I u,I v,SL 1 l,SL 7 w,I y,I z,SL 1 A,I C,I t,B b],I D]) (λr=>∃a c,∃d e,∃o p,∃g i,∃q j,∃n E,(r=[I a,SV.agg [I c,I d,I e,SL 1 o,SL 7 p,I g,I i,SL 1 q,I j,I n,B E]])/\Q ([SV.agg [I c,I d,I e,SL 1 o,SL 7 p,I g,I i,SL 1 q,I a,I n]]))) (Cl prog 138 (Sig.mk ([Md.lend [false,false,false,false,true,false,false,false,false,false,false]]) []) ([SV.agg [I x,I u,I v,SL 1 l,SL 7 w,I y,I z,SL 1 A,I C,I t,B b],I P,SL 1 R]) (λr=>∃E a,∃c d,∃o p,∃e g,∃q i,∃j F,(r=[B E,SV.agg [I a,I c,I d,SL 1 o,SL 7 p,I e,I g,SL 1 q,I i,I j,B F]])/\ifB (bnot E) (Cl prog 139 (Sig.mk ([Md.lend [false,false,false,false,true,false,false,false,false,false,false]]) []) ([SV.agg [I a,I c,I d,SL 1 o,SL 7 p,I e,I g,SL 1 q,I i,I j,B F],I D]) (λO=>∃n G,∃H J,∃T U,∃K L,∃V W,∃M b3,(O=[I n,SV.agg [I G,I H,I J,SL 1 T,SL 7 U,I K,I L,SL 1 V,I W,I M,B b3]])/\Q ([SV.agg [I G,I H,I J,SL 1 T,SL 7 U,I K,I L,SL 1 V,I n,I M]]))) ((Sm (some ([[I 0,I 0,I 0,SV.slice 1 [] 1,SV.slice 7 [] 1,I 0,I 0,SV.slice 1 [] 1,I 0,I 0]])))/\(s a c d o p e g q i (wadd .i64 j N) F)/\Nl (m a c d o p e g q i (wadd .i64 j N) F) (m x u v l w y z A C t b)))))):Ct prog 69 {} [SL 1 rows] Q:=
 fO SgT SvT (λk=>bif Nat.beq k 9 then some {boxes:=[(384,[.int .i64,.int .i64,.int .i64,.sl 1,.own 7,.int .i64,.int .i64,.sl 1,.int .i64,.int .i64,.bool])],fixed:=[256]}else none) func69 h
abbrev evR(l:List EvD):LL:=l.map λe=>[I e.s,I e.a,I e.k,S e.c,I e.x,I e.y,I e.z]
structure Sc where
 num:Int
 bs:Int
 ba:Int
 ev:List EvD
 s:Int
 a:Int
 m:List BA
 sl:Bool
abbrev Sc.sv(d:Sc)(b c:Int):SV:=sc11 d.num d.bs d.ba [] (evR d.ev) d.s d.a (nR d.m) b c d.sl
def Zvr(l m:List Int)(c:Byts l)(d:Byts m):Ct prog 246 {} [SL 1 (bR l),SL 1 (bR m)] (λr=>(∃t,l=m++t/\r=[SL 1 (bR t),B true])\/((∀t,l≠m++t)/\r=[SL 1 (bR l),B false])):=by
 have a:rlen (bR l)=l.length:=(by simp[rlen]);have b:rlen (bR m)=m.length:=by simp[rlen]
 have f:Ct prog 315 {} [SL 1 (bR l),SL 1 (bR m)] (λr=>r=[B (decide (m.length<=l.length/\l.take m.length=m))]):=by
  refine bhasp_nf ?_;rw[a,b];refine Zaa (λh=>?_) (λh=>?_)
  .simp at h;refine⟨⟨Vo,Vo,Vo⟩,?_⟩;rw[Zdf];refine Cl.of (Zhz _ _ (c.sub λx hx=>List.mem_of_mem_take (List.mem_of_mem_drop hx)) d) ⟨_,rfl,?_⟩;simp[h]
  .simp at h;simp[show¬m.length<=l.length by omega]
 refine bcutp_nf (Cl.of f ⟨_,rfl,Zaa (λh=>?_) (λh=>?_)⟩)
 .refine .inr ⟨λt e=>?_,rfl⟩;subst e;simp at h
 .simp at h;rw[a,b];refine⟨⟨Vo,Vo,Vo⟩,.inl ⟨l.drop m.length,?_,?_⟩⟩
  .conv=>lhs;rw[<-List.take_append_drop m.length l,h.2]
  .rw[Zdf];simp
def headOK(n s a:Int):Prop:=(1<=n/\n<=99999999)/\ctxOK s a
def ctx_nil{s a:Int}:ctxB s a []=true↔ctxOK s a:=by
 rw[Zba];exact⟨λh=>h.1,λh=>⟨h,by rfl⟩⟩
def shead1_fn(d:Sc)(k o:Int)(p:List Int)(N:Byts p)(hl:p.length<=100000):Ct prog 221 sL [d.sv k o,SL 1 (bR p)] (λr=>
  (∃n s a,headOK n s a/\p=hdP n s a/\r=[B true,Sc.sv {d with num:=n,bs:=s,ba:=a,s:=s,a:=a,m:=[]} k o])\/
  ((∀n s a,headOK n s a->p≠hdP n s a)/\r=[B false,d.sv k o])):=by
 have no:(∀n s a,headOK n s a->p≠hdP n s a)->(∃n s a,headOK n s a/\p=hdP n s a/\([B false,d.sv k o]:List SV)=[B true,Sc.sv {d with num:=n,bs:=s,ba:=a,s:=s,a:=a,m:=[]} k o])\/
  ((∀n s a,headOK n s a->p≠hdP n s a)/\([B false,d.sv k o]:List SV)=[B false,d.sv k o]):=λh=>.inr ⟨h,rfl⟩
 refine shead1_nf ⟨Vd,Cl.ofQ (Zvr p [102,98,120,49] N (λx hx=>by simp at hx;omega)) ?_⟩;rintro r (⟨q,rfl,rfl⟩|⟨hno,rfl⟩)
 rotate_left
 .refine⟨_,_,rfl,Zaa (λ_=>no λn s a _ e=>hno _ e) (λh=>by simp at h)⟩
 refine⟨_,_,rfl,Zaa (λh=>by simp at h) (λ_=>?_)⟩;have A:Byts q:=N.sub λx hx=>List.mem_append.2 (.inr hx);have w:q.length<=100000:=by simp at hl;omega
 refine Cl.of (Zju q) ⟨_,_,_,rfl,Cl.ofQ (Ze2 q 0 0 w A) ?_⟩;rintro r ⟨a1,er1,n,rfl,o1,s1⟩;refine⟨_,_,_,_,rfl,Cl.ofQ (Ze2 q a1 er1 w A) ?_⟩;rintro r ⟨a2,er2,s,rfl,o2,s2⟩;refine⟨_,_,_,_,rfl,Cl.ofQ (Ze2 q a2 er2 w A) ?_⟩;rintro r ⟨a3,er3,a,rfl,o3,s3⟩
 have y:∀f g c,headOK f g c->([102,98,120,49]++q:List Int)=hdP f g c->er3=0/\a3=q.length/\n=f/\s=g/\a=c:=(by rintro f g c ⟨z,u⟩ C;unfold ctxOK at u;have C:=List.append_cancel_left C;obtain⟨g1,g2,g3⟩:=o1.good rfl Vo f.toNat (leb g.toNat++leb c.toNat) (by simpa using C) Vo;have hd1:=Za8 (l:=q) (a:=0) Vo (by simpa using C);rw[<-g1]at hd1;have a9:=Zf0 f.toNat;obtain⟨k1,k2,k3⟩:=o2.good g2 Vo g.toNat (leb c.toNat) hd1 Vo;have J:=Za8 (l:=q) (a:=a1) Vo hd1;rw[<-k1]at J;obtain⟨j1,j2,j3⟩:=o3.good k2 Vo c.toNat [] (by rw[J,List.append_nil]) Vo;have M:=congrArg List.length C;simp at M;exact⟨j2,Vo,Vo,Vo,Vo⟩);have n0:=o1.n0;have s0:=o2.n0;have a0:=o3.n0;refine⟨_,_,_,_,rfl,Zaa (λh=>?_) (λh=>?_)⟩
 .simp at h;exact no λf g c z u=>h (y f g c z u).1
 simp at h;obtain⟨u1,u2,r3,L,u4⟩:=s3 h;obtain⟨v1,v2,r2,Z,v4⟩:=s2 u1;obtain⟨w1,w2,r1,w3,w4⟩:=s1 v1;have K:rgtC q a3 er3=true:=(by have z:=congrArg List.length L;have h0:=Zf0 a.toNat;simp at z;simp only[rgtC,decide_eq_true_eq];omega);refine Cl.of (Zkb q a3 er3 w) ⟨_,rfl,?_⟩;rw[if_pos K];refine Zaa (λu=>?_) (λu=>?_)
 .simp at u;exact no λf g c t i=>by have:=(y f g c t i).2.1;omega
 simp at u
 have hq:q=leb n.toNat++(leb s.toNat++leb a.toNat):=(by have e1:=Za8 (l:=q) (a:=0) Vo w3;rw[<-w4]at e1;have e2:=Za8 (l:=q) (a:=a1) v2 Z;rw[<-v4]at e2;have E:=Za8 (l:=q) (a:=a2) u2 L;rw[<-u4]at E;simp only[rgtC,decide_eq_true_eq]at K;have a7:r3=[]:=(by rw[<-E];exact List.drop_eq_nil_of_le Vo);rw[L,a7]at e2;rw[Z,<-e2]at e1;have a8:q=leb n.toNat++r1:=(by simpa using w3);rw[a8,<-e1];simp);have v:∀x:Int,0<=x->x<=18446744073709551615->(x<=9223372036854775807->wcv .i64 x=x)/\(9223372036854775807<x->wcv .i64 x<0):=(by intro x h0 z;refine⟨λh=>Zh1 Vo h,λh=>?_⟩;unfold wcv;simp only[IntKind.wrap,IntKind.signed,IntKind.bits];simp;omega);obtain⟨F,a4⟩:=v n n0 o1.n1;obtain⟨G,a5⟩:=v s s0 o2.n1;obtain⟨H,a6⟩:=v a a0 o3.n1;refine Cl.of (Zsd _) ⟨_,rfl,Zaa (λt=>?_) (λt=>?_)⟩
 .simp at t;refine no λf g c i j=>?_;obtain⟨_,_,e1,_,_⟩:=y f g c i j;have D:=i.1;rw[F Vo]at t;omega
 simp at t
 have hn:n<=9223372036854775807:=by
  rcases Wq 9223372036854775807 n with h|h
  .have:=a4 h;omega
  .exact h
 rw[F hn]at t|-;refine Cl.of (Zfx (wcv .i64 s) (wcv .i64 a) []) ⟨_,rfl,Zaa (λi=>?_) (λi=>?_)⟩
 .simp at i;refine no λf g c j D=>?_;obtain⟨_,_,_,e2,E⟩:=y f g c j D;have h7:=j.2;unfold ctxOK at h7;rw[G Vo,H Vo,e2,E,ctx_nil.2 j.2]at i
  cases i
 simp at i;have j:=ctx_nil.1 i;unfold ctxOK at j
 have hs:s<=9223372036854775807:=by
  rcases Wq 9223372036854775807 s with h|h
  .have:=a5 h;omega
  .exact h
 have ha:a<=9223372036854775807:=by
  rcases Wq 9223372036854775807 a with h|h
  .have:=a6 h;omega
  .exact h
 rw[G hs,H ha]at j|-
 refine⟨λO P Q R T U V W X Y b=>[B true,SV.agg [I O,I P,I Q,SL 1 R,SL 7 T,I U,I V,SL 1 W,I X,I Y,B b]]=[B true,Sc.sv {d with num:=n,bs:=s,ba:=a,s:=s,a:=a,m:=[]} k o],
  λ_ _ _ _ _ _ _ _ _ _ _=>0,?_,?_⟩
 .exact⟨rfl,rfl⟩
 .rintro O P Q R T U V W X Y b D;exact .inl ⟨n,s,a,⟨t,j⟩,by rw[hq];rfl,D⟩
def ev_row(l:List EvD)(e:EvD):rapp (evR l) [[I e.s,I e.a,I e.k,S e.c,I e.x,I e.y,I e.z]]=evR (l++[e]):=by simp[rapp]
def srec_fn(d:Sc)(b f:Int)(p:List Int)(i:Byts p)(j:p.length<=100000)(g:d.ev.length<=1000000):Ct prog 222 sL [d.sv b f,SL 1 (bR p)] (λr=>
  (∃e,EncOK d.s d.a d.m e/\encL d.s d.a d.m e=p/\r=[B true,Sc.sv {d with ev:=d.ev++[e],s:=e.s,a:=e.a,m:=bhdN d.m e.c} b f])\/
  ((∀e,EncOK d.s d.a d.m e->encL d.s d.a d.m e≠p)/\r=[B false,d.sv b f])):=by
 refine srec_nf (Cl.ofQ (decode_fn d.s d.a d.m p j i) ?_);rintro r (⟨h1,rfl⟩|⟨h1,⟨e,h2,h3,rfl⟩|⟨h2,rfl⟩⟩)
 .refine⟨_,_,_,_,_,_,_,_,_,_,_,rfl,Zaa (λ_=>.inr ⟨λe g=>?_,rfl⟩) (λh=>by simp at h)⟩;rw[g.ctx]at h1;cases h1
 .refine⟨_,_,_,_,_,_,_,_,_,_,_,rfl,Zaa (λh=>by simp at h) (λ_=>⟨by simp[lsum,rlen];omega,.inl ⟨e,h2,h3,?_⟩⟩)⟩;rw[ev_row]
 .exact⟨_,_,_,_,_,_,_,_,_,_,_,rfl,Zaa (λ_=>.inr ⟨h2,rfl⟩) (λh=>by simp at h)⟩
inductive TakeO(d:Sc)(k:Int)(p:List Int):Bool->Sc->Prop
 |head (n s a:Int) (hs:d.sl=false) (hn:d.num=0) (hk:k=1) (ok:headOK n s a) (hp:p=hdP n s a):TakeO d k p true {d with num:=n,bs:=s,ba:=a,s:=s,a:=a,m:=[]}
 |record (e:EvD) (hs:d.sl=false) (hn:d.num≠0) (hk:k=2) (ok:EncOK d.s d.a d.m e) (hp:encL d.s d.a d.m e=p):TakeO d k p true {d with ev:=d.ev++[e],s:=e.s,a:=e.a,m:=bhdN d.m e.c}
 |last (hs:d.sl=false) (hn:d.num≠0) (hk:k=3) (hp:p=slP d.ev.length d.s d.a):TakeO d k p true {d with sl:=true}
 |no (h1:d.sl=false->d.num=0->k=1->∀n s a,headOK n s a->p≠hdP n s a) (h2:d.sl=false->d.num≠0->k=2->∀e,EncOK d.s d.a d.m e->encL d.s d.a d.m e≠p)
   (h3:d.sl=false->d.num≠0->k=3->p≠slP d.ev.length d.s d.a):TakeO d k p false d
def sl_false{d:Sc}(h:d.sl=false):{d with sl:=false}=d:=by cases d;simp at h;simp[h]
def stake_fn(d:Sc)(i j k:Int)(p:List Int)(o:Byts p)(t:p.length<=100000)(J:d.ev.length<=1000000)(q:d.num≠0->ctxOK d.s d.a):
  Ct prog 138 sL [d.sv i j,I k,SL 1 (bR p)] (λr=>∃b G,r=[B b,Sc.sv G i j]/\TakeO d k p b G):=by
 refine stake_nf (Zaa (λh=>⟨false,d,rfl,.no (λe=>by rw[h]at e;cases e) (λe=>by rw[h]at e;cases e) (λe=>by rw[h]at e;cases e)⟩) (λl=>?_));refine Zaa (λc=>Zaa (λf=>?_) (λf=>?_)) (λc=>Zaa (λf=>?_) (λf=>Zaa (λg=>?_) (λg=>?_)))
 .simp at c f;refine Cl.ofQ (shead1_fn d i j p o t) ?_;rintro r (⟨n,s,a,h1,h2,rfl⟩|⟨h1,rfl⟩)
  .exact⟨_,_,_,_,_,_,_,_,_,_,_,_,rfl,true,_,rfl,.head n s a l c f h1 h2⟩
  .exact⟨_,_,_,_,_,_,_,_,_,_,_,_,rfl,false,d,rfl,.no (λ_ _ _=>h1) (λ_ h=>absurd c h) (λ_ h=>absurd c h)⟩
 .simp at c f;exact⟨false,d,rfl,.no (λ_ _ h=>absurd h f) (λ_ h=>absurd c h) (λ_ h=>absurd c h)⟩
 .simp at c f;refine Cl.ofQ (srec_fn d i j p o t J) ?_;rintro r (⟨e,h1,h2,rfl⟩|⟨h1,rfl⟩)
  .exact⟨_,_,_,_,_,_,_,_,_,_,_,_,rfl,true,_,rfl,.record e l c f h1 h2⟩
  .exact⟨_,_,_,_,_,_,_,_,_,_,_,_,rfl,false,d,rfl,.no (λ_ h=>absurd h c) (λ_ _ _=>h1) (λ_ _ h=>Vo)⟩
 .simp at c f g;have q:=q c;unfold ctxOK at q;have H:rlen (evR d.ev)=d.ev.length:=(by simp[rlen]);refine⟨λu v w y z A C D E F b=>b=decide (p=slP d.ev.length d.s d.a)/\SV.agg [I u,I v,I w,SL 1 y,SL 7 z,I A,I C,SL 1 D,I E,I F,B b]=Sc.sv {d with sl:=b} i j,λ_ _ _ _ _ _ _ _ _ _ _=>0,?_,?_⟩
  .rw[H];refine Cl.of (Zse [] d.ev.length d.s d.a (nR d.m) Vo Vo Vo Vs) ⟨_,rfl,Cl.of (Zhz p _ o ?_) ⟨_,rfl,rfl,rfl,rfl⟩⟩;exact Byts.app (λx hx=>by simp at hx) ((Zat _).app ((Zat _).app (Zat _)))
  .rintro u v w y z A C D E F b ⟨hb',e⟩;by_cases hp:p=slP d.ev.length d.s d.a
   .rw[decide_eq_true hp]at hb';subst hb';exact⟨true,_,by rw[e],.last l c g hp⟩
   .rw[decide_eq_false hp]at hb';subst hb';refine⟨false,d,?_,.no (λ_ h=>absurd h c) (λ_ _ h=>absurd h f) (λ_ _ _=>hp)⟩;rw[e,sl_false l]
 .simp at c f g;exact⟨false,d,rfl,.no (λ_ h=>absurd h c) (λ_ _ h=>absurd h f) (λ_ _ h=>absurd h g)⟩
def endW(w:Int)(a:Bool):Int:=if w=1 then(if a=true then 4 else 1)else if w=2/\a=false then 2 else 3
def Zvs(d:Sc)(c e w:Int):Ct prog 139 sL [d.sv c e,I w] (λr=>r=[I (endW w d.sl),d.sv c e]):=by
 refine sends_nf (Zaa (λh=>?_) (λh=>Zaa (λa=>?_) (λa=>Zaa (λb=>?_) (λb=>?_))))
 .simp at h;simp[endW,h]
 .simp at h a;have:=h a;simp[endW,a,this]
 .simp at b;simp[endW,b]
 .simp at a b;by_cases hw:w=2
  .have:=b hw;simp[endW,hw,this]
  .simp[endW,a,hw]
def recL:Int->Int->List BA->List EvD->List Int
 |_,_,_,[]=>[]
 |s,a,m,e::l=>fr 2 (encL s a m e)++recL e.s e.a (bhdN m e.c) l
def okL:Int->Int->List BA->List EvD->Prop
 |_,_,_,[]=>True
 |s,a,m,e::l=>EncOK s a m e/\okL e.s e.a (bhdN m e.c) l
def fin3:Int->Int->List BA->List EvD->Int×Int×List BA
 |s,a,m,[]=>(s,a,m)
 |_,_,m,e::l=>fin3 e.s e.a (bhdN m e.c) l
def Zkv:∀(l:List EvD) (s a:Int) (m:List BA) (e:EvD),fin3 s a m (l++[e])=(e.s,e.a,bhdN (fin3 s a m l).2.2 e.c)
 | [],s,a,m,e=>rfl
 |x::l,s,a,m,e=>Zkv l x.s x.a (bhdN m x.c) e
def Zkw:∀(l:List EvD) (s a:Int) (m:List BA) (e:EvD),recL s a m (l++[e])=recL s a m l++fr 2 (encL (fin3 s a m l).1 (fin3 s a m l).2.1 (fin3 s a m l).2.2 e)
 | [],s,a,m,e=>by simp[recL,fin3]
 |x::l,s,a,m,e=>by simp[recL,fin3,Zkw l]
def Zn5:∀(l:List EvD) (s a:Int) (m:List BA) (e:EvD),okL s a m (l++[e])↔okL s a m l/\EncOK (fin3 s a m l).1 (fin3 s a m l).2.1 (fin3 s a m l).2.2 e
 | [],s,a,m,e=>by simp[okL,fin3]
 |x::l,s,a,m,e=>by simp[okL,fin3,Zn5 l,and_assoc]
def Zui:∀(l:List EvD) (s a:Int) (m:List BA),7*l.length<=(recL s a m l).length
 | [],_,_,_=>Vs
 |x::l,s,a,m=>by have:=Zui l x.s x.a (bhdN m x.c);simp only[recL,List.length_append,Zf2,List.length_cons];omega
def segL(d:Sc):List Int:=if d.num=0 then[]else fr 1 (hdP d.num d.bs d.ba)++(recL d.bs d.ba [] d.ev++(if d.sl=true then fr 3 (slP d.ev.length d.s d.a)else[]))
def sc0:Sc:=⟨0,0,0,[],0,0,[],false⟩
structure ScOK(d:Sc):Prop where
 zero:d.num=0->d=sc0
 head:d.num≠0->headOK d.num d.bs d.ba
 evs:d.num≠0->okL d.bs d.ba [] d.ev
 fin:d.num≠0->(d.s,d.a,d.m)=fin3 d.bs d.ba [] d.ev
def Zn6:∀(l:List EvD) (s a:Int) (m:List BA),ctxOK s a->okL s a m l->ctxOK (fin3 s a m l).1 (fin3 s a m l).2.1
 | [],_,_,_,h,_=>h
 |e::l,s,a,m,h,⟨h1,h2⟩=>by refine Zn6 l e.s e.a (bhdN m e.c) ?_ h2;obtain⟨_,_,_,b,d⟩:=chkE_zero h1.chk;exact⟨d.1,d.2,b.1,b.2⟩
def ScOK.ctx{d:Sc}(h:ScOK d)(b:d.num≠0):ctxOK d.s d.a:=by
 have c:=Zn6 d.ev d.bs d.ba [] (h.head b).2 (h.evs b);rw[<-h.fin b]at c;exact c
def TakeO.ok{d j:Sc}{k:Int}{p:List Int}{b:Bool}(t:TakeO d k p b j)(h:ScOK d)(u:b=true):ScOK j/\segL j=segL d++fr k p/\j.num≠0:=by
 cases t with
 |head n s a l c g ok i=>have o:=h.zero c;have f:n≠0:=(by have:=ok.1;omega);refine⟨⟨λe=>absurd e f,λ_=>ok,λ_=>by rw[o];trivial,λ_=>by rw[o];rfl⟩,?_,f⟩;subst g i;simp only[segL,c,if_true,if_neg f,Y5];rw[o];simp[sc0,recL]
 |record e l c g ok i=>have q:=h.fin c;have e1:(fin3 d.bs d.ba [] d.ev).1=d.s:=(by rw[<-q]);have e2:(fin3 d.bs d.ba [] d.ev).2.1=d.a:=(by rw[<-q]);have r:(fin3 d.bs d.ba [] d.ev).2.2=d.m:=(by rw[<-q]);refine⟨⟨λe=>absurd e c,h.head,λ_=>(Zn5 _ _ _ _ _).2 ⟨h.evs c,by rw[e1,e2,r];exact ok⟩,λ_=>by rw[Zkv,r]⟩,?_,c⟩;subst g i;simp only[segL,if_neg c,l,Zkw,e1,e2,r];simp
 |last l c g i=>refine⟨⟨λe=>absurd e c,h.head,h.evs,h.fin⟩,?_,c⟩;subst g i;simp only[segL,if_neg c,l];simp
 |no=>cases u
def Zrz{r:List Int}(e:Byts r){k n:Int}{p:List Int}(h:nextR r=(0,k,p,n)):(1<=k/\k<=3)/\p.length<=200/\n=p.length+7/\∃t,r=fr k p++t:=by
 unfold nextR at h
 split at h
 .cases h
 rename_i w
 split at h
 .cases h
 rename_i a
 split at h
 .cases h
 rename_i d
 split at h
 .cases h
 rename_i c
 split at h
 .cases h
 rename_i f
 split at h
 .rename_i b;have m:=Zel e (i:=0);have o:=Zel e (i:=1)
  obtain⟨x,y,z,q,rfl⟩:∃x y z q,r=x::y::z::q:=by
   match r,a with
   |x::y::z::q,_=>exact⟨x,y,z,q,rfl⟩
   | [],a=>simp at a
   | [_],a=>simp at a
   | [_,_],a=>simp at a
  have s:byAt (x::y::z::q) 0=x:=rfl;have e1:byAt (x::y::z::q) 1=y:=rfl;have e2:byAt (x::y::z::q) 2=z:=rfl;rw[s]at h d c b m;rw[e1]at h d c b o;rw[e2]at h f;have hx:x=0:=Vo;rw[hx]at h d c b;have u:(256*0+y).toNat=y.toNat:=Vo;rw[u]at h b;simp only[List.take_succ_cons,WA,List.drop_zero,Prod.mk.injEq,true_and]at h;obtain⟨g,j,l⟩:=h;have A:(q.take y.toNat).length=y.toNat:=(by simp at c|-;omega);have v:((q.take y.toNat).length:Int)=y:=Vo;rw[<-g,<-j,<-l];refine⟨Vo,Vo,Vo,(x::y::z::q).drop (y.toNat+7),?_⟩;have:fr z (q.take y.toNat)=(x::y::z::q).take (y.toNat+7):=(by rw[hx,<-b,fr,v];rfl);rw[this,List.take_append_drop]
 .cases h
def Zfn(k:Int)(p t:List Int):fr k p++t=0::(p.length:Int)::k::(p++(s4 (sumL (0::(p.length:Int)::k::p) 0)++t)):=by simp[fr,sealB]
def nextR_fr{k:Int}{p:List Int}(g:1<=k/\k<=3)(h:p.length<=200)(t:List Int):nextR (fr k p++t)=(0,k,p,(p.length:Int)+7):=by
 have b:(fr k p++t).length=p.length+7+t.length:=(by simp[Zf2]);have c:byAt (fr k p++t) 0=0:=(by rw[Zfn];rfl);have d:byAt (fr k p++t) 1=p.length:=(by rw[Zfn];rfl);have e:byAt (fr k p++t) 2=k:=(by rw[Zfn];rfl);have a:fr k p++t≠[]:=(by rw[Zfn];simp);have f:(256*0+(p.length:Int)).toNat=p.length:=Vo;unfold nextR;rw[c,d,e,f,if_neg a,if_neg Vo,if_neg Vo,if_neg Vo,if_neg Vo];have e1:(fr k p++t).take (p.length+3)=0::(p.length:Int)::k::p:=(by rw[Zfn];simp);have e2:(fr k p++t).take (p.length+7)=fr k p:=(by rw[List.take_append_of_le_length (by rw[Zf2];omega),List.take_of_length_le (by rw[Zf2];omega)]);rw[e1,e2,if_pos (show sealB (0::(p.length:Int)::k::p)=fr k p from rfl)];simp
abbrev scanS(d:Sc)(b c:Int):SV:=.agg [I d.num,I d.bs,I d.ba,SL 1 [],SL 7 (evR d.ev),I d.s,I d.a,SL 1 (nR d.m),I b,I c]
structure RdO(l:List Int)(d:Sc)(st:Int):Prop where
 ok:ScOK d
 pre:segL d<+:l
 ext:(∃w k p n,w≠0/\nextR (l.drop (segL d).length)=(w,k,p,n)/\st=endW w d.sl)\/(∃k p n,nextR (l.drop (segL d).length)=(0,k,p,n)/\TakeO d k p false d/\st=3)
def Zn7(l:List Int)(u:Byts l)(U:l.length<=100000):Ct prog 69 {} [SL 1 (bR l)] (λr=>∃d F,r=[scanS d F (segL d).length]/\RdO l d F):=by
 refine sread_nf ⟨λx v y q z A C D E e b=>∃d:Sc,SV.agg [I x,I v,I y,SL 1 q,SL 7 z,I A,I C,SL 1 D,I E,I e,B b]=d.sv 0 (segL d).length/\ScOK d/\segL d<+:l,
  λ_ _ _ _ _ _ _ _ _ e _=>(l.length-e).toNat,⟨sc0,rfl,⟨λ_=>rfl,λh=>absurd rfl h,λh=>absurd rfl h,λh=>absurd rfl h⟩,W6⟩,?_⟩
 rintro x v y q z A C D E e b ⟨d,hd,hok,hpre⟩;have O:e=(segL d).length:=by have m:=hd;simp at m;exact m.2.2.2.2.2.2.2.2.2.1
 subst O;obtain⟨t,c⟩:=hpre;have Q:(segL d).length+t.length=l.length:=by rw[<-c];simp
 have R:7*d.ev.length<=(segL d).length:=by
  by_cases j:d.num=0
  .rw[hok.zero j];simp[sc0]
  .have:=Zui d.ev d.bs d.ba [];simp only[segL,if_neg j,List.length_append];omega
 have i:l.drop (segL d).length=t:=(by rw[<-c];simp);have H:nextF l (segL d).length=nextR t:=(by unfold nextF;rw[if_neg Vo,Int.toNat_natCast,i]);have o:Byts t:=u.sub λx hx=>by rw[<-c];exact List.mem_append.2 (.inr hx)
 refine Cl.of (fnext_fn l _ u Vo) ?_;rw[H,hd]
 obtain⟨w,k,p,n,hw⟩:∃w k p n,nextR t=(w,k,p,n):=⟨_,_,_,_,rfl⟩
 rw[hw];refine⟨w,k,bR p,n,rfl,Zaa (λf=>?_) (λf=>?_)⟩
 .simp at f;exact Cl.of (Zvs d 0 _ w) ⟨_,_,_,_,_,_,_,_,_,_,_,_,rfl,d,endW w d.sl,rfl,hok,⟨t,c⟩,.inl ⟨w,k,p,n,f,by rw[i];exact hw,rfl⟩⟩
 .simp at f;subst f;obtain⟨V,W,j,M,g⟩:=Zrz o hw;have J:Byts p:=o.sub λx hx=>by rw[g,Zfn];simp[hx]
  refine Cl.ofQ (stake_fn d 0 (segL d).length k p J Vo Vo hok.ctx) ?_;rintro r ⟨b',d',rfl,tk⟩;refine⟨_,_,_,_,_,_,_,_,_,_,_,_,rfl,Zaa (λa=>?_) (λa=>?_)⟩
  .simp at a;subst a;have K:d'=d:=by cases tk;rfl
   subst K;exact Cl.of (Zvs d' 0 _ 0) ⟨_,_,_,_,_,_,_,_,_,_,_,_,rfl,d',3,rfl,hok,⟨t,c⟩,.inr ⟨k,p,n,by rw[i];exact hw,tk,rfl⟩⟩
  .simp at a;subst a;obtain⟨N,G,X⟩:=tk.ok hok rfl;have L:(fr k p).length=p.length+7:=Zf2 _ _;have s:(segL d').length=(segL d).length+(p.length+7):=(by rw[G,List.length_append,L]);have T:(segL d').length<=l.length:=by rw[s];have:=congrArg List.length g;simp[Zf2]at this;omega
   have P:wadd IntKind.i64 ((segL d).length:Int) n=(segL d').length:=(by rw[Zac,s,j];omega);rw[P];refine⟨rfl,⟨d',rfl,N,⟨M,?_⟩⟩,?_⟩
   .rw[G,<-c,g];simp
   .show Nat.succ (l.length-((segL d').length:Int)).toNat<=(l.length-((segL d).length:Int)).toNat;omega
def bhd_small{e:EvD}(ok:EncOK b i N e):(bhdN N e.c).length<=32:=by
 have f:=(Zc6.1 (Zba.1 ok.ctx).2).1;unfold bhdN
 split
 .rename_i h;have a:=ok.put h;unfold putN at a
  have:N.length≠32:=λe=>by
   rw[if_neg (by simp[(Zba.1 ok.ctx).2])]at a
   split at a
   .simp at a
   .rw[if_neg Vo]at a;simp at a
  simp;omega
 .exact f
def bhd_right{e:EvD}(ok:EncOK i j N e):ctxB e.s e.a (bhdN N e.c)=true:=by
 obtain⟨k,m,c3,n,o⟩:=chkE_zero ok.chk;have d:=Zc6.1 (Zba.1 ok.ctx).2;refine Zba.2 ⟨Vo,Zc6.2 ⟨bhd_small ok,?_,?_⟩⟩
 .intro s b;unfold bhdN at b
  split at b
  .rcases List.mem_append.1 b with b|b
   .exact d.2.1 s b
   .simp at b;subst b;simp[nmB];omega
  .exact d.2.1 s b
 .unfold bhdN
  split
  next g=>rw[We];refine⟨d.2.2,Vs,λx hx y f=>?_⟩;simp at f;subst f;intro h;subst h;exact Zj3.1 g hx
  .exact d.2.2
def Zp5:∀(l:List EvD) (s a:Int) (m:List BA),ctxB s a m=true->okL s a m l->ctxB (fin3 s a m l).1 (fin3 s a m l).2.1 (fin3 s a m l).2.2=true
 | [],_,_,_,h,_=>h
 |e::l,s,a,m,h,⟨h1,h2⟩=>Zp5 l e.s e.a (bhdN m e.c) (bhd_right h1) h2
def numB_len{e:EvD}(h:chkE e=0):(numB e).length<=30:=by
 have b:=Zei h;have d:(numI e.k e.x e.y e.z).length<=3:=(by unfold numI;simp;omega);unfold numB
 have:∀l:List Int,(∀n∈l,0<=n/\n<=2147483647)->(l.flatMap λn=>leb n.toNat).length<=10*l.length:=by
  intro l
  induction l with
  |nil=>intro _;simp
  |cons x l c=>intro h;have f:=c λn a=>h n (by simp[a]);have g:=h x Vs;have i:(leb x.toNat).length<=10:=leb_small;simp only[Yg,List.length_append,List.length_cons];omega
 have:=this _ b;omega
def Zhr{cs ca:Int}{l:List BA}{e:EvD}(ok:EncOK cs ca l e):(encL cs ca l e).length<=120:=by
 obtain⟨d,f,g,h,i⟩:=chkE_zero ok.chk;have b:=Zba.1 ok.ctx;have j:=(Zc6.1 b.2).1;have m:=Zu8 (l:=l) (s:=e.c);have n:(leb e.k.toNat).length<=10:=leb_small;have o:(leb (e.s-cs).toNat).length<=10:=leb_small;have b3:(leb (e.a-ca).toNat).length<=10:=leb_small;have p:(leb (plc l e.c)).length<=10:=leb_small;have b5:(leb e.c.size).length<=10:=leb_small;have q:=numB_len ok.chk;have r:(txB e.c).length=e.c.size:=(by simp[txB]);unfold encL;simp only[List.length_append]
 have t:(if plc l e.c=0 then leb e.c.size++txB e.c else[]).length<=34:=by
  split
  .rw[List.length_append];omega
  .simp
 omega
def sseal_fn(n s a:Int)(m:List BA)(d:0<=n)(e:n<=9223372036854775807):Ct prog 122 {} [I n,cx3 s a (nR m)] (λr=>
  r=if ctxB s a m=true then[SL 1 (bR (fr 3 (slP n s a))),I 0]else[SL 1 [],I 1]):=by
 refine Zua (Zaa (λh=>by simp at h;omega) (λ_=>Cl.of (Zfx s a m) ⟨_,rfl,Zaa (λh=>?_) (λh=>?_)⟩))
 .simp at h;rw[if_neg (by simp[h])]
 .simp at h;rw[if_pos h];have f:=(Zba.1 h).1;refine Cl.of (Zse [] n s a (nR m) Vo Vo Vo Vs) ⟨_,rfl,?_⟩;have g:(leb n.toNat).length<=10:=leb_small;have i:(leb s.toNat).length<=10:=leb_small;have b3:(leb a.toNat).length<=10:=leb_small;have c:Byts (slP n s a):=Byts.app (Zat _) ((Zat _).app (Zat _));have j:(slP n s a).length<=30:=by simp[slP];omega
  have b:=Ztp 3 (slP n s a) c Vo;have:putF 3 (slP n s a)=(fr 3 (slP n s a),0):=(by unfold putF;rw[if_neg Vo,if_neg Vo]);rw[this]at b;exact Cl.of b ⟨_,_,rfl,rfl⟩
def mkS(n s a:Int)(l:List EvD)(b:Bool):Sc:=⟨n,s,a,l,(fin3 s a [] l).1,(fin3 s a [] l).2.1,(fin3 s a [] l).2.2,b⟩
def segL_mk{l:List EvD}(c:i≠0):segL (mkS i j k l o)=fr 1 (hdP i j k)++(recL j k [] l++(if o=true then fr 3 (slP l.length (fin3 j k [] l).1 (fin3 j k [] l).2.1)else[])):=by
 unfold segL;rw[if_neg (show(mkS i j k l o).num≠0 from c)];rfl
def Zwr{p b t c:List Int}(h:fr k p++t=fr i b++c):k=i/\p=b/\t=c:=by
 have e:=h;rw[Zfn,Zfn]at h;simp only[List.cons.injEq,true_and]at h;obtain⟨g,rfl,d⟩:=h;have f:=(List.append_inj d Vo).1;subst f;exact⟨rfl,rfl,List.append_cancel_left e⟩
def hdP_inj{n s a b c d:Int}(h:headOK n s a)(f:headOK b c d)(e:hdP n s a=hdP b c d):n=b/\s=c/\a=d:=by
 obtain⟨j,g⟩:=h;obtain⟨k,i⟩:=f;unfold ctxOK at g i;have e:=List.append_cancel_left e;obtain⟨e1,e⟩:=Zck _ _ _ _ e;obtain⟨e2,e⟩:=Zck _ _ _ _ e;obtain⟨l,_⟩:=Zck _ _ [] [] (by simpa using e);omega
def Zws:∀(p q:List EvD) (s a:Int) (m:List BA),recL s a m (p++q)=recL s a m p++recL (fin3 s a m p).1 (fin3 s a m p).2.1 (fin3 s a m p).2.2 q
 | [],q,s,a,m=>rfl
 |x::p,q,s,a,m=>by simp[recL,Zws p q,fin3]
def okL_app:∀(p q:List EvD) (s a:Int) (m:List BA),okL s a m (p++q)->okL (fin3 s a m p).1 (fin3 s a m p).2.1 (fin3 s a m p).2.2 q
 | [],q,s,a,m,h=>h
 |x::p,q,s,a,m,h=>okL_app p q x.s x.a _ h.2
def Zwt:∀(p q:List EvD) (s a:Int) (m:List BA) (x y:List Int),okL s a m p->okL s a m q->recL s a m p++x=recL s a m q++y->
  (∃u,q=p++u/\x=recL (fin3 s a m p).1 (fin3 s a m p).2.1 (fin3 s a m p).2.2 u++y)\/(∃u,p=q++u/\y=recL (fin3 s a m q).1 (fin3 s a m q).2.1 (fin3 s a m q).2.2 u++x)
 | [],q,s,a,m,x,y,_,_,h=>.inl ⟨q,rfl,h⟩
 |e::p,[],s,a,m,x,y,_,_,h=>.inr ⟨e::p,rfl,h.symm⟩
 |e::p,e'::q,s,a,m,x,y,h1,h2,h=>by
  simp only[recL,List.append_assoc]at h;obtain⟨_,c,d⟩:=Zwr h;obtain⟨rfl,_⟩:=enc_inj (r:=[]) (r':=[]) h1.1 h2.1 (by rw[c])
  rcases Zwt p q _ _ _ x y h1.2 h2.2 d with⟨u,rfl,b⟩|⟨u,rfl,b⟩
  .exact .inl ⟨u,rfl,b⟩
  .exact .inr ⟨u,rfl,b⟩
def Beg(d t:Sc):Prop:=d=sc0\/(d.num≠0/\d.num=t.num/\d.bs=t.bs/\d.ba=t.ba/\(∃u,t.ev=d.ev++u/\(d.sl=true->u=[]))/\(d.sl=true->t.sl=true))
def slx(d:Sc):List Int:=if d.sl=true then fr 3 (slP d.ev.length d.s d.a)else[]
theorem Zb7{d:Sc}(h:d.num≠0):segL d=fr 1 (hdP d.num d.bs d.ba)++(recL d.bs d.ba [] d.ev++slx d):=by unfold segL;rw[if_neg h];rfl
def seg_cmp{d t:Sc}(hd:ScOK d)(f:ScOK t)(h:segL d++x=segL t++X):Beg d t\/Beg t d:=by
 by_cases h1:d.num=0
 .exact .inl (.inl (hd.zero h1))
 by_cases h2:t.num=0
 .exact .inr (.inl (f.zero h2))
 rw[Zb7 h1,Zb7 h2]at h;simp only[List.append_assoc]at h;obtain⟨_,j,g⟩:=Zwr h;obtain⟨e1,e2,a⟩:=hdP_inj (hd.head h1) (f.head h2) j;have i:=hd.evs h1;have k:=f.evs h2;rw[e2,a]at g i
 rcases Zwt _ _ _ _ _ _ _ i k g with⟨u,b,hx⟩|⟨u,b,hx⟩
 .cases hs:d.sl with
  |false=>exact .inl (.inr ⟨h1,e1,e2,a,⟨u,b,λe=>by rw[hs]at e;cases e⟩,λe=>by rw[hs]at e;cases e⟩)
  |true=>
   have c:u=[]:=by
    cases u with
    |nil=>rfl
    |cons e u=>simp only[slx,hs,if_true,recL,List.append_assoc]at hx;have:=(Zwr hx).1;omega
   subst c
   cases hs2:t.sl with
   |true=>exact .inl (.inr ⟨h1,e1,e2,a,⟨[],b,λ_=>rfl⟩,λ_=>hs2⟩)
   |false=>exact .inr (.inr ⟨h2,e1.symm,e2.symm,a.symm,⟨[],by simpa using b.symm,λ_=>rfl⟩,λe=>by rw[hs2]at e;cases e⟩)
 .cases hs:t.sl with
  |false=>exact .inr (.inr ⟨h2,e1.symm,e2.symm,a.symm,⟨u,b,λe=>by rw[hs]at e;cases e⟩,λe=>by rw[hs]at e;cases e⟩)
  |true=>
   have c:u=[]:=by
    cases u with
    |nil=>rfl
    |cons e u=>simp only[slx,hs,if_true,recL,List.append_assoc]at hx;have:=(Zwr hx).1;omega
   subst c
   cases hs2:d.sl with
   |true=>exact .inl (.inr ⟨h1,e1,e2,a,⟨[],by simpa using b.symm,λ_=>rfl⟩,λ_=>hs⟩)
   |false=>exact .inl (.inr ⟨h1,e1,e2,a,⟨[],by simpa using b.symm,λ_=>rfl⟩,λe=>by rw[hs2]at e;cases e⟩)
def Sc.eq{d t:Sc}(hd:ScOK d)(j:ScOK t)(h:d.num≠0)(c:d.num=t.num)(e:d.bs=t.bs)(f:d.ba=t.ba)(g:d.ev=t.ev)(i:d.sl=t.sl):d=t:=by
 have b:=hd.fin h;have p:=j.fin (c▸h);rw[e,f,g,<-p]at b;obtain⟨n,bs,w,ev,s,a,m,x⟩:=d;obtain⟨y,q,r,u,z,A,C,v⟩:=t;simp only at c e f g i b;simp only[Prod.mk.injEq]at b;obtain⟨k,l,o⟩:=b;subst c e f g i k l o;rfl
def Zpo:∀(l:List EvD) (s a:Int) (m:List BA),okL s a m l->s+l.length<=(fin3 s a m l).1
 | [],s,_,_,_=>by simp[fin3]
 |e::l,s,a,m,h=>by have b:=Zpo l e.s e.a _ h.2;have c:=h.1.seq;simp only[fin3,List.length_cons];omega
def Beg.next{d t:Sc}(hd:ScOK d)(i:ScOK t)(h:Beg d t):d=t\/(d.sl=false/\∃k p r,segL t=segL d++(fr k p++r)/\(1<=k/\k<=3)/\p.length<=200/\¬TakeO d k p false d):=by
 rcases h with rfl|⟨h0,h1,h2,h3,⟨u,hu,hs⟩,hl⟩
 .by_cases f:t.num=0
  .exact .inl (i.zero f).symm
  have w:=i.head f;have C:=w;unfold headOK ctxOK at C;have:=Zsf (n:=t.num) (s:=t.bs) (a:=t.ba);refine .inr ⟨rfl,1,_,_,by rw[Zb7 f];rfl,Vo,Vo,?_⟩;intro j
  cases j with
  |no y z A=>exact y rfl rfl rfl _ _ _ w rfl
 .have f:t.num≠0:=h1▸h0;have o:=i.evs f;have l:=hd.fin h0;rw[h2,h3]at l;have e1:(fin3 t.bs t.ba [] d.ev).1=d.s:=(by rw[<-l]);have e2:(fin3 t.bs t.ba [] d.ev).2.1=d.a:=(by rw[<-l]);have D:(fin3 t.bs t.ba [] d.ev).2.2=d.m:=(by rw[<-l]);have x:segL t=fr 1 (hdP d.num d.bs d.ba)++(recL d.bs d.ba [] d.ev++(recL d.s d.a d.m u++slx t)):=by rw[Zb7 f,h1,h2,h3,hu,Zws,e1,e2,D];simp
  cases u with
  |cons e u=>
   have b:d.sl=false:=by
    cases h:d.sl with
    |false=>rfl
    |true=>exact absurd (hs h) Vs
   rw[hu]at o;have o:=okL_app _ _ _ _ _ o;rw[e1,e2,D]at o;have:=Zhr o.1;refine .inr ⟨b,2,encL d.s d.a d.m e,recL e.s e.a (bhdN d.m e.c) u++slx t,?_,Vo,Vo,?_⟩
   .rw[x,Zb7 h0];simp[recL,slx,b]
   .intro j
    cases j with
    |no y z A=>exact z b h0 rfl e o.1 rfl
  |nil=>
   have q:d.ev=t.ev:=(by simpa using hu.symm);by_cases b:d.sl=t.sl
   .exact .inl (Sc.eq hd i h0 h1 h2 h3 q b)
   have g:d.sl=false:=by
    cases h:d.sl with
    |false=>rfl
    |true=>exact absurd (h.trans (hl h).symm) b
   have E:t.sl=true:=by
    cases h:t.sl with
    |true=>rfl
    |false=>exact absurd (g.trans h.symm) b
   have v:=i.fin f;rw[<-q,<-l]at v;simp only[Prod.mk.injEq]at v;obtain⟨G,H,_⟩:=v;have J:=hd.ctx h0;unfold ctxOK at J;have F:(slP d.ev.length d.s d.a).length<=200:=(by have M:(leb d.s.toNat).length<=10:=leb_small;have b3:(leb d.a.toNat).length<=10:=leb_small;have K:=Zpo _ _ _ _ (hd.evs h0);rw[<-hd.fin h0]at K;have w:=(hd.head h0).2;unfold ctxOK at w;have L:(leb (d.ev.length:Int).toNat).length<=10:=leb_small;simp[slP]at L|-;omega);refine .inr ⟨g,3,slP d.ev.length d.s d.a,[],?_,Vo,F,?_⟩
   .rw[x,Zb7 h0];simp[recL,slx,g,E,q,G,H]
   .intro j
    cases j with
    |no y z A=>exact A g h0 rfl rfl
def Beg.len{d t:Sc}(hd:ScOK d)(a:ScOK t)(h:Beg d t):(segL d).length<=(segL t).length/\((segL d).length=(segL t).length->d=t):=by
 rcases h.next hd a with rfl|⟨_,k,p,r,h1,_,_,_⟩
 .exact⟨Nat.le_refl _,λ_=>rfl⟩
 .rw[h1];simp only[List.length_append,Zf2];exact⟨Vo,λh=>Vo⟩
def RdO.far{d t:Sc}(h:RdO x d i)(a:ScOK t)(g:segL t<+:x):Beg t d:=by
 obtain⟨l,hx⟩:=h.pre;obtain⟨y,b⟩:=g
 rcases seg_cmp h.ok a (hx.trans b.symm)with hb|hb
 .rcases hb.next h.ok a with rfl|⟨hs,k,p,r,h1,h2,h3,h4⟩
  .by_cases hn:d.num=0
   .exact .inl (h.ok.zero hn)
   .exact .inr ⟨hn,rfl,rfl,rfl,⟨[],Vs,λ_=>rfl⟩,id⟩
  .exfalso;have c:x.drop (segL d).length=fr k p++(r++y):=(by rw[<-b,h1];simp);have hx:=h.ext;rw[c,nextR_fr h2 h3]at hx
   rcases hx with⟨w,f,j,n,m,e,_⟩|⟨f,j,n,e,tk,_⟩
   .simp only[Prod.mk.injEq]at e;exact m e.1.symm
   .simp only[Prod.mk.injEq,true_and]at e;obtain⟨rfl,rfl,_⟩:=e;exact h4 tk
 .exact hb
def RdO.whole{d t:Sc}{a:Int}(h:RdO (segL t) d a)(b:ScOK t):d=t/\a=endW 1 t.sl:=by
 have g:=h.far b (List.prefix_refl _);have i:=g.len b h.ok;have j:=h.pre.length_le;have e:=i.2 Vo;subst e;refine⟨rfl,?_⟩;have hx:=h.ext;rw[List.drop_length]at hx
 rcases hx with⟨w,c,f,n,k,e,hst⟩|⟨c,f,n,e,tk,_⟩
 .simp only[nextR,if_true,Prod.mk.injEq]at e;rw[hst,<-e.1]
 .simp[nextR]at e
def mkS_ok{l:List EvD}(b:Bool)(h:headOK i j k)(c:okL j k [] l):ScOK (mkS i j k l b):=by
 have d:i≠0:=(by have:=h.1;omega);exact⟨λe=>absurd e d,λ_=>h,λ_=>c,λ_=>rfl⟩
def Zvh(n s a:Int):Byts (slP n s a):=Byts.app (Zat _) ((Zat _).app (Zat _))
theorem Ziv{k:Int}{p:List Int}(a:0<=k/\k<=255)(b:p.length<=200)(h:Byts p):Byts (fr k p):=by
 unfold fr;refine Zi1 (λx hx=>?_);simp only[List.mem_cons]at hx
 rcases hx with rfl|rfl|rfl|hx
 .omega
 .omega
 .omega
 .exact h x hx
def slP_len{d:Sc}(h:ScOK d)(b:d.num≠0):(slP d.ev.length d.s d.a).length<=30:=by
 have c:=h.ctx b;have e:=Zpo _ _ _ _ (h.evs b);rw[<-h.fin b]at e;have f:=(h.head b).2;unfold ctxOK at f c;have g:(leb (d.ev.length:Int).toNat).length<=10:=leb_small;have i:(leb d.s.toNat).length<=10:=leb_small;have b3:(leb d.a.toNat).length<=10:=leb_small;simp[slP]at g|-;omega
def e1:EvD:=⟨4,9,4,bA [100,98],1,0,0⟩
def e2:EvD:=⟨5,9,7,bA [113],0,0,0⟩
def w4(a b c d:Nat):Nat:=a^^^(256*b^^^(256*(256*c)^^^256*(256*(256*d))))
end Seg
namespace Cmp
open Go Go.Px Go.Proofs Tryz
def SgT:FuncId->Sig:=(λf=>bif Nat.beq f 263 then⟨[],[.own]⟩else{})
def SvT:TypeId->Sig:=λ_=>{}
abbrev win3(a b:Int)(c:LL):SV:=.agg [I a,I b,SL 2 c]
abbrev his10(a b c d e f g h i j:Int):SV:=.agg [I a,I b,I c,I d,I e,I f,I g,I h,I i,I j]
abbrev bkt2(a b:Int):SV:=.agg [I a,I b]
abbrev cmp21(a:BA)(b c d e:Int)(f:LL)(g h i j k l m n o p q r s t u:Int):SV:=.agg [S a,I b,I c,I d,I e,SL 2 f,I g,I h,I i,I j,I k,I l,I m,I n,I o,I p,I q,I r,I s,I t,I u]
def hold_nf(h:Q [I (imax 0 (imin i 1099511627776))]):Ct prog 319 {} [I i] Q:=
 fN SgT SvT func319 h
def up_nf(h:Cl prog 319 sP [I i] (λa=>∃x,(a=[I x])/\Cl prog 319 sP [I b] (λc=>∃e,(c=[I e])/\Cl prog 319 sP [I (wadd .i64 x e)] (λd=>∃g,(d=[I g])/\Q [I g])))):Ct prog 264 {} [I i,I b] Q:=
 fN SgT SvT func264 h
def rhold_nf(h:ifB (ilt i 0) (Q [I 0]) (ifB (igt i 1099511627776) (Q [I 1099511627776]) (Q [I i]))):Ct prog 311 {} [I i] Q:=
 fN SgT SvT func311 h
def bright_nf(h:Q [B (bpick (bpick (bpick (ige i 0) (ile i 2147483647) false) (ige b 0) false) (ile b i) false)]):Ct prog 260 {} [bkt2 i b] Q:=
 fN SgT SvT func260 h
def Zyy(h:Q [B (bpick (bpick (ile i 2147483647) (ile b i) false) (ige b 0) false)]):Ct prog 310 {} [bkt2 i b] Q:=
 fN SgT SvT func310 h
def bnew_nf(h:Cl prog 260 sP ([SV.agg [I i,I c]]) (λd=>∃b,(d=[B b])/\ifB (bnot b) (Q ([SV.agg [I 0,I 0],I 1])) (Q ([SV.agg [I i,I c],I 0])))):Ct prog 179 {} [I i,I c] Q:=
 fN SgT SvT func179 h
def btake_nf(h:Cl prog 260 sP ([SV.agg [I c,I i]]) (λd=>∃b,(d=[B b])/\ifB (bpick (bnot b) true (ilt j 0)) (Q ([SV.agg [I c,I i],B false])) (Q ([SV.agg [I c,I (wsub .i64 i (imin j i))],B (ige i j)])))):Ct prog 189 {} [bkt2 c i,I j] Q:=
 fN SgT SvT func189 h
def bput_nf(h:Cl prog 260 sP ([SV.agg [I i,I c]]) (λd=>∃b,(d=[B b])/\ifB (bpick (bnot b) true (ilt j 0)) (Q ([SV.agg [I i,I c]])) (Q ([SV.agg [I i,I (wadd .i64 c (imin j (wsub .i64 i c)))]])))):Ct prog 190 {} [bkt2 i c,I j] Q:=
 fN SgT SvT func190 h
def hbound_nf{p:Int}(h:ifB (bpick (ilt p 0) true (ige p 8)) (Q [I 0]) ((0<=p)/\Q [I (wshl .i64 1 p)])):Ct prog 324 {} [I p] Q:=
 fN SgT SvT func324 h
def hplace_nf(h:∃b:Int->Int->Prop,∃m:Int->Int->Nat,(b 0 0)/\∀x a,(b x a)->ifB (ilt a 8) (Cl prog 324 sP [I a] (λd=>∃c,(d=[I c])/\ifB (ile i c) (Q [I a]) (((Option.some []:Option LL)=Option.some [])/\(b x (wadd .i64 a 1))/\Nl (m x (wadd .i64 a 1)) (m x a)))) (Q [I 8])):Ct prog 266 {} [I i] Q:=
 fN SgT SvT func266 h
def hright_nf{e g i j k l n o p q:Int}(h:∃d:Bool->Int->Prop,∃m:Bool->Int->Nat,(d false 0)/\∀b x,(d b x)->ifB (ilt x 9) (((0<=x)/\x<9)/\((x=0)->Cl prog 319 sP [I e] (λc=>∃a,(c=[I a])/\ifB (ine e a) (Q [B false]) ((Sm (some ([[I e,I g,I i,I j,I k,I l,I n,I o,I p,I q]])))/\(d b (wadd .i64 x 1))/\Nl (m b (wadd .i64 x 1)) (m b x))))/\((x=1)->Cl prog 319 sP [I g] (λc=>∃a,(c=[I a])/\ifB (ine g a) (Q [B false]) ((Sm (some ([[I e,I g,I i,I j,I k,I l,I n,I o,I p,I q]])))/\(d b (wadd .i64 x 1))/\Nl (m b (wadd .i64 x 1)) (m b x))))/\((x=2)->Cl prog 319 sP [I i] (λc=>∃a,(c=[I a])/\ifB (ine i a) (Q [B false]) ((Sm (some ([[I e,I g,I i,I j,I k,I l,I n,I o,I p,I q]])))/\(d b (wadd .i64 x 1))/\Nl (m b (wadd .i64 x 1)) (m b x))))/\((x=3)->Cl prog 319 sP [I j] (λc=>∃a,(c=[I a])/\ifB (ine j a) (Q [B false]) ((Sm (some ([[I e,I g,I i,I j,I k,I l,I n,I o,I p,I q]])))/\(d b (wadd .i64 x 1))/\Nl (m b (wadd .i64 x 1)) (m b x))))/\((x=4)->Cl prog 319 sP [I k] (λc=>∃a,(c=[I a])/\ifB (ine k a) (Q [B false]) ((Sm (some ([[I e,I g,I i,I j,I k,I l,I n,I o,I p,I q]])))/\(d b (wadd .i64 x 1))/\Nl (m b (wadd .i64 x 1)) (m b x))))/\((x=5)->Cl prog 319 sP [I l] (λc=>∃a,(c=[I a])/\ifB (ine l a) (Q [B false]) ((Sm (some ([[I e,I g,I i,I j,I k,I l,I n,I o,I p,I q]])))/\(d b (wadd .i64 x 1))/\Nl (m b (wadd .i64 x 1)) (m b x))))/\((x=6)->Cl prog 319 sP [I n] (λc=>∃a,(c=[I a])/\ifB (ine n a) (Q [B false]) ((Sm (some ([[I e,I g,I i,I j,I k,I l,I n,I o,I p,I q]])))/\(d b (wadd .i64 x 1))/\Nl (m b (wadd .i64 x 1)) (m b x))))/\((x=7)->Cl prog 319 sP [I o] (λc=>∃a,(c=[I a])/\ifB (ine o a) (Q [B false]) ((Sm (some ([[I e,I g,I i,I j,I k,I l,I n,I o,I p,I q]])))/\(d b (wadd .i64 x 1))/\Nl (m b (wadd .i64 x 1)) (m b x))))/\((x=8)->Cl prog 319 sP [I p] (λc=>∃a,(c=[I a])/\ifB (ine p a) (Q [B false]) ((Sm (some ([[I e,I g,I i,I j,I k,I l,I n,I o,I p,I q]])))/\(d b (wadd .i64 x 1))/\Nl (m b (wadd .i64 x 1)) (m b x))))/\True) (Cl prog 319 sP [I q] (λc=>∃a,(c=[I a])/\Q [B (ieq q a)]))):Ct prog 265 {} [his10 e g i j k l n o p q] Q:=
 fN SgT SvT func265 h
def timely_nf(h:Q [B (bpick (ige i 0) (ile i 1099511627776) false)]):Ct prog 259 {} [I i] Q:=
 fN SgT SvT func259 h
def wheld_nf(h:Cl prog 319 sP [I i] (λa=>∃x,(a=[I x])/\Q [B (ieq i x)])):Ct prog 359 {} [I i] Q:=
 fN SgT SvT func359 h
def wwrong_nf{f:FuncId}(h:Cl prog f sP ((I i)::C) (λe=>∃b,(e=[B b])/\ifB (bnot b) (Q [B true]) (Cl prog f sP ((I j)::C) (λc=>∃d,(c=[B d])/\Q [B (bpick false true (bnot d))])))):Ct prog 360 {} [.agg [I i,I j],.ref 0 [.clo f C]] Q:=
 fN SgT SvT func360 h
def cindex_nf{rows:LL}{f:FuncId}(h:∃c:Int->Int->Prop,∃m:Int->Int->Nat,(c 0 0)/\∀x a,(c x a)->ifB (ilt a (rlen rows)) (((0<=a)/\a<(rlen rows))/\∃e g,(rget rows a=[I e,I g])/\Cl prog f sP ((SV.agg [I e,I g])::C) (λi=>∃b,(i=[B b])/\ifB b (Q [I a]) (((Option.some []:Option LL)=Option.some [])/\(c x (wadd .i64 a 1))/\Nl (m x (wadd .i64 a 1)) (m x a)))) (Q [I (-1)])):Ct prog 377 {} [SL 2 rows,.clo f C] Q:=
 fN SgT SvT func377 h
def ccont_nf{rows:LL}{f:FuncId}(h:Cl prog 377 sP [SL 2 rows,SV.clo f C] (λb=>∃x,(b=[I x])/\Q [B (ige x 0)])):Ct prog 361 {} [SL 2 rows,.clo f C] Q:=
 fN SgT SvT func361 h
def wright_nf(h:ifB (bpick (ilt c 1) true (igt c 2147483647)) (Q [B false]) (Cl prog 259 sP [I i] (λd=>∃b,(d=[B b])/\ifB (bpick false true (bnot b)) (Q [B false]) (ifB (bpick (ilt (rlen l) 1) true (igt (rlen l) 16)) (Q [B false]) (Cl prog 361 sP ([SL 2 l,SV.clo 360 ([SV.ref 0 ([SV.clo 359 []])])]) (λe=>∃g,(e=[B g])/\Q [B (bnot g)])))))):Ct prog 320 {} [win3 c i l] Q:=
 fN SgT SvT func320 h
def wnew_nf(h:ifB (bpick (bpick (bpick (ilt i 1) true (igt i 2147483647)) true (ilt j 1)) true (igt j 16)) (Q ([SV.agg ([I 0,I 0,SL 2 []]),I 1])) (Cl prog 259 sP [I c] (λd=>∃b,(d=[B b])/\ifB (bpick false true (bnot b)) (Q ([SV.agg ([I 0,I 0,SL 2 []]),I 1])) (((i=0)->False)/\((0<=j)/\(j<=j)/\j<=2147483648)/\Q ([SV.agg ([I i,I (wquo .i64 c i),SL 2 (rrep j [I 0,I 0])]),I 0]))))):Ct prog 178 {} [I i,I j,I c] Q:=
 fN SgT SvT func178 h
def cclone_nf{rows:LL}(h:∀b,((b=true)->rlen rows=0)->ifB b (Q ([SL 2 []])) (((lsum (rlen []) (rlen rows))<=2147483648)/\Q ([SL 2 (rapp [] rows)]))):Ct prog 263 ⟨[],[.own]⟩ [SL 2 rows] Q:=
 fN SgT SvT func263 h
def wmove_nf{a d:Int}(h:Cl prog 320 sP ([SV.agg [I a,I d,SL 2 l]]) (λo=>∃b,(o=[B b])/\ifB (bnot b) (Q ([SV.agg [I a,I d,SL 2 l],I 1])) (Cl prog 259 sP [I c] (λj=>∃n,(j=[B n])/\ifB (bpick false true (bnot n)) (Q ([SV.agg [I a,I d,SL 2 l],I 1])) (((a=0)->False)/\ifB (ile (wquo .i64 c a) d) (Q ([SV.agg [I a,I d,SL 2 l],I 0])) (Cl prog 263 sO [SL 2 l] (λk=>∃e,(k=[SL 2 e])/\∃i:Int->LL->Prop,∃m:Int->LL->Nat,(i (imax (wadd .i64 d 1) (wadd .i64 (wsub .i64 (wquo .i64 c a) (rlen e)) 1)) e)/\∀x g,(i x g)->ifB (ile x (wquo .i64 c a)) (((rlen e=0)->False)/\((0<=(wrem x (rlen e)))/\(wrem x (rlen e))<(rlen g))/\((0<=(wrem x (rlen e)))/\(wrem x (rlen e))<(rlen g))/\(Sm (some ([[I 0,I 0,SV.slice 2 [] 1],[I a,I d,SL 2 l]])))/\(i (wadd .i64 x 1) (rset g (wrem x (rlen e)) [I 0,I 0]))/\Nl (m (wadd .i64 x 1) (rset g (wrem x (rlen e)) [I 0,I 0])) (m x g)) (Q ([SV.agg [I a,I (wquo .i64 c a),SL 2 g],I 0]))))))))):Ct prog 262 {} [win3 a d l,I c] Q:=
 fN SgT SvT func262 h
def Zvi{n ok:Int}(h:Cl prog 262 sP ([SV.agg [I n,I ok,SL 2 l],I i]) (λr=>∃x c,∃p m,(r=[SV.agg [I x,I c,SL 2 p],I m])/\ifB (ine m 0) (Q ([SV.agg [I x,I c,SL 2 p],I m])) (((x=0)->False)/\ifB (ile (wquo .i64 i x) (wsub .i64 c (rlen p))) (Q ([SV.agg [I x,I c,SL 2 p],I 0])) (Cl prog 263 sO [SL 2 p] (λq=>∃b,(q=[SL 2 b])/\((rlen p=0)->False)/\((0<=(wrem (wquo .i64 i x) (rlen p)))/\(wrem (wquo .i64 i x) (rlen p))<(rlen b))/\ifB o (((0<=(wrem (wquo .i64 i x) (rlen p)))/\(wrem (wquo .i64 i x) (rlen p))<(rlen b))/\∃g a,(rget b (wrem (wquo .i64 i x) (rlen p))=[I g,I a])/\Cl prog 264 sP [I g,I 1] (λd=>∃e,(d=[I e])/\((0<=(wrem (wquo .i64 i x) (rlen p)))/\(wrem (wquo .i64 i x) (rlen p))<(rlen b))/\∃j k,(rget b (wrem (wquo .i64 i x) (rlen p))=[I j,I k])/\Q ([SV.agg ([I x,I c,SL 2 (rset b (wrem (wquo .i64 i x) (rlen p)) [I e,I k])]),I 0]))) (((0<=(wrem (wquo .i64 i x) (rlen p)))/\(wrem (wquo .i64 i x) (rlen p))<(rlen b))/\∃g a,(rget b (wrem (wquo .i64 i x) (rlen p))=[I g,I a])/\Cl prog 264 sP [I a,I 1] (λd=>∃e,(d=[I e])/\((0<=(wrem (wquo .i64 i x) (rlen p)))/\(wrem (wquo .i64 i x) (rlen p))<(rlen b))/\∃j k,(rget b (wrem (wquo .i64 i x) (rlen p))=[I j,I k])/\Q ([SV.agg ([I x,I c,SL 2 (rset b (wrem (wquo .i64 i x) (rlen p)) [I j,I e])]),I 0])))))))):Ct prog 186 {} [win3 n ok l,I i,B o] Q:=
 fN SgT SvT func186 h
def rtime_nf(h:Q [B (bpick (ige i 0) (ile i 1099511627776) false)]):Ct prog 237 {} [I i] Q:=
 fN SgT SvT func237 h
def Zyz(h:ifB (bpick (ilt j 1) true (igt j 2147483647)) (ifB (bpick (bpick true true (ilt (rlen l) 1)) true (igt (rlen l) 16)) (Q [B false]) (∃c:Bool->Int->Prop,∃m:Bool->Int->Nat,(c false 0)/\∀b x,(c b x)->ifB (ilt x (rlen l)) (((0<=x)/\x<(rlen l))/\∃d e,(rget l x=[I d,I e])/\ifB (bpick (bpick (bpick (ilt d 0) true (igt d 1099511627776)) true (ilt e 0)) true (igt e 1099511627776)) (Q [B false]) ((Sm (some ([[I j,I i,SL 2 l]])))/\(c b (wadd .i64 x 1))/\Nl (m b (wadd .i64 x 1)) (m b x))) (Q [B true]))) (Cl prog 237 sP [I i] (λk=>∃b,(k=[B b])/\ifB (bpick (bpick (bpick false true (bnot b)) true (ilt (rlen l) 1)) true (igt (rlen l) 16)) (Q [B false]) (∃c:Bool->Int->Prop,∃m:Bool->Int->Nat,(c false 0)/\∀g x,(c g x)->ifB (ilt x (rlen l)) (((0<=x)/\x<(rlen l))/\∃d e,(rget l x=[I d,I e])/\ifB (bpick (bpick (bpick (ilt d 0) true (igt d 1099511627776)) true (ilt e 0)) true (igt e 1099511627776)) (Q [B false]) ((Sm (some ([[I j,I i,SL 2 l]])))/\(c g (wadd .i64 x 1))/\Nl (m g (wadd .i64 x 1)) (m g x))) (Q [B true]))))):Ct prog 348 {} [win3 j i l] Q:=
 fN SgT SvT func348 h
def cequal_nf{rows a:LL}(h:ifB (ine (rlen rows) (rlen a)) (Q [B false]) (∃c:Bool->Int->Prop,∃m:Bool->Int->Nat,(c false 0)/\∀b x,(c b x)->ifB (ilt x (rlen rows)) (((0<=x)/\x<(rlen rows))/\∃d e,(rget rows x=[I d,I e])/\((0<=x)/\x<(rlen a))/\∃g i,(rget a x=[I g,I i])/\ifB (bnot (band (ieq d g) (band (ieq e i) true))) (Q [B false]) (((Option.some []:Option LL)=Option.some [])/\(c b (wadd .i64 x 1))/\Nl (m b (wadd .i64 x 1)) (m b x))) (Q [B true]))):Ct prog 164 {} [SL 2 rows,SL 2 a] Q:=
 fN SgT SvT func164 h
def bare_nf(h:Q [B (bpick (bpick (ieq i 0) (ieq b 0) false) (ieq (rlen l) 0) false)]):Ct prog 321 {} [win3 i b l] Q:=
 fN SgT SvT func321 h
def Zy0(h:ifB (ieq b 1) (Q [B (bpick (bpick (bpick (ige c 1) (ige e 1) false) (ile e 16) false) (ieq z 0) false)]) (ifB (ieq b 2) (Q [B (bpick (ile e c) (ieq z 0) false)]) (Q [B (bpick (ieq e 0) (ieq z 0) false)]))):Ct prog 258 {} [I b,ev7 i j k s c e z] Q:=
 fN SgT SvT func258 h
def Zy1{d n k g m o p q r a t u v w y:Int}(h:((0<=j)/\j<3)/\((j=0)->Cl prog 264 sP [I v,I 1] (λz=>∃x,(z=[I x])/\((0<=j)/\j<3)/\((j=0)->Q ([SV.agg [S s,I b,I c,I i,I e,SL 2 l,I d,I n,I k,I g,I m,I o,I p,I q,I r,I a,I t,I u,I x,I w,I y]]))/\((j=1)->Q ([SV.agg [S s,I b,I c,I i,I e,SL 2 l,I d,I n,I k,I g,I m,I o,I p,I q,I r,I a,I t,I u,I v,I x,I y]]))/\((j=2)->Q ([SV.agg [S s,I b,I c,I i,I e,SL 2 l,I d,I n,I k,I g,I m,I o,I p,I q,I r,I a,I t,I u,I v,I w,I x]]))/\True))/\((j=1)->Cl prog 264 sP [I w,I 1] (λz=>∃x,(z=[I x])/\((0<=j)/\j<3)/\((j=0)->Q ([SV.agg [S s,I b,I c,I i,I e,SL 2 l,I d,I n,I k,I g,I m,I o,I p,I q,I r,I a,I t,I u,I x,I w,I y]]))/\((j=1)->Q ([SV.agg [S s,I b,I c,I i,I e,SL 2 l,I d,I n,I k,I g,I m,I o,I p,I q,I r,I a,I t,I u,I v,I x,I y]]))/\((j=2)->Q ([SV.agg [S s,I b,I c,I i,I e,SL 2 l,I d,I n,I k,I g,I m,I o,I p,I q,I r,I a,I t,I u,I v,I w,I x]]))/\True))/\((j=2)->Cl prog 264 sP [I y,I 1] (λz=>∃x,(z=[I x])/\((0<=j)/\j<3)/\((j=0)->Q ([SV.agg [S s,I b,I c,I i,I e,SL 2 l,I d,I n,I k,I g,I m,I o,I p,I q,I r,I a,I t,I u,I x,I w,I y]]))/\((j=1)->Q ([SV.agg [S s,I b,I c,I i,I e,SL 2 l,I d,I n,I k,I g,I m,I o,I p,I q,I r,I a,I t,I u,I v,I x,I y]]))/\((j=2)->Q ([SV.agg [S s,I b,I c,I i,I e,SL 2 l,I d,I n,I k,I g,I m,I o,I p,I q,I r,I a,I t,I u,I v,I w,I x]]))/\True))/\True):Ct prog 188 {} [cmp21 s b c i e l d n k g m o p q r a t u v w y,I j] Q:=
 fN SgT SvT func188 h

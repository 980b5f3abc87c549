import Derived.Test.YtgehiiginclniaaGreatDoorK10
import Derived.Test.YtgehiiginclniaaGreatDoorProg
import Derived.Laws.Externs
set_option linter.all false
set_option maxRecDepth 100000
variable{b c e i j k:Int}{m n:Nat}{l r:Go.Px.LL}{Q:Go.Px.QQ}{s t:BA}{y:List Go.Px.FiD}{d:Go.Px.DiD}{o:Bool}{f:Go.Px.FiD}{C:List Go.Px.SV}{g:Go.Proofs.YtgehiiginclniaaGreatDoor.Sx.StD}{D:Go.Proofs.YtgehiiginclniaaGreatDoor.Seg.Sc}
namespace Go.Proofs.YtgehiiginclniaaGreatDoor
namespace Row
open Go Go.Px Go.Proofs Cmp Sx Cod Tryz
def pre_or:∀(a b r c:List Int),(∀n∈a,0≤n)→(∀n∈b,0≤n)→encN a++r=encN b++c→a<+:b∨b<+:a
 | [],b,r,c,_,_,_=>.inl Yw
 |n::a,[],r,c,_,_,_=>.inr Yw
 |n::a,m::b,r,c,h1,h2,h=>by
  simp only[encN,Yb,List.append_assoc]at h;obtain⟨e1,e2⟩:=Zct _ _ _ _ h;have:=h1 n (by simp);have:=h2 m (by simp);have f:n=m:=by omega
  rcases pre_or a b r c (λx d=>h1 x (by simp[d])) (λx d=>h2 x (by simp[d])) e2 with⟨t,e⟩|⟨t,e⟩
  ·exact .inl ⟨t,by rw[f,←e];rfl⟩
  ·exact .inr ⟨t,by rw[f,←e];rfl⟩
def tx_inj(h:txB s=txB t):s=t:=by
 have:=congrArg (λl=>bstr (bR l)) h
 simpa[Zpk]using this
def encC_inj{c d:CoD}(b:shp c)(e:shp d){r f:List Int}(h:encC c++r=encC d++f):c=d∧r=f:=by
 simp only[encC,List.append_assoc]at h;obtain⟨e1,e2⟩:=Zct _ _ _ _ h;obtain⟨i,g⟩:=List.append_inj e2 (by rw[Zcs,Zcs];exact e1);have a:=tx_inj i
 have:c=d:=by
  rcases pre_or _ _ _ _ (λn a=>(b.n n a).1) (λn a=>(e.n n a).1) g with h1|h1
  ·exact Zqh b.z e.z a h1
  ·exact(Zqh e.z b.z a.symm h1).symm
 subst this;exact⟨rfl,List.append_cancel_left g⟩
def Zqw:∀(l m:List CoD) (r a:List Int),(∀c∈l,shp c)→(∀c∈m,shp c)→l.length=m.length→l.flatMap encC++r=m.flatMap encC++a→l=m∧r=a
 | [],[],r,a,_,_,_,h=>⟨rfl,by simpa using h⟩
 | [],y::m,r,a,_,_,hl,_=>by simp at hl
 |x::l,[],r,a,_,_,hl,_=>by simp at hl
 |x::l,y::m,r,a,h1,h2,hl,h=>by simp only[Yb,List.append_assoc]at h;obtain⟨e1,e2⟩:=encC_inj (h1 x (by simp)) (h2 y (by simp)) h;obtain⟨d,e⟩:=Zqw l m r a (λc b=>h1 c (by simp[b])) (λc b=>h2 c (by simp[b])) (by simpa using hl) e2;exact⟨by rw[e1,d],e⟩
def encS_pre{d c:StD}(h:d.P)(f:c.P){r r':List Int}(e:encS d++r=encS c++r'):d=c:=by
 simp only[encS,List.append_assoc]at e;obtain⟨e1,e2⟩:=Zct _ _ _ _ e;obtain⟨g,i⟩:=Zqw _ _ _ _ (P_shp h) (P_shp f) e1 e2;obtain⟨k,j⟩:=Zct _ _ _ _ i;obtain⟨l,_⟩:=Zct _ _ _ _ j;have a:=h.1;have b:=f.1
 cases d;cases c
 simp only[StD.mk.injEq]
 dsimp only at*
 exact⟨g,by omega,by omega⟩
def encS_inj{d a:StD}(h:d.P)(b:a.P)(e:encS d=encS a):d=a:=encS_pre h b (r:=[]) (r':=[]) (by rw[e])
def encS_len{d:StD}(h:d.P):(encS d).length≤8000∧0<(encS d).length:=by
 have b:=Zr8 (P_shp h);have a:=h.1;have c:(leb d.cs.length).length≤10:=leb_small;have e:(leb d.q.toNat).length≤10:=leb_small;have f:(leb d.t.toNat).length≤10:=leb_small;have g:=Zjm d.cs.length;simp only[encS,List.length_append];omega
end Row
namespace Dsk
open Go Go.Px Go.Proofs Tryz
abbrev dsk4(rows:LL)(b a:Int)(c:Bool):SV:=.agg [SL 3 rows,I b,I a,B c]
abbrev fil3(nm:BA)(a b:LL):SV:=.agg [S nm,SL 1 a,SL 1 b]
def SgT:FuncId→Sig:=(λf=>bif Nat.beq f 246 then⟨[.own],[.own]⟩else bif Nat.beq f 48 then⟨[],[.own]⟩else bif Nat.beq f 47 then⟨[],[.own]⟩else bif Nat.beq f 247 then⟨[.own],[.own]⟩else bif Nat.beq f 248 then⟨[.own],[.own]⟩else bif Nat.beq f 245 then⟨[.own],[.own]⟩else bif Nat.beq f 244 then⟨[.own],[.own]⟩else bif Nat.beq f 221 then⟨[.own],[.own]⟩else bif Nat.beq f 176 then⟨[.own],[.own]⟩else bif Nat.beq f 177 then⟨[.own],[.own]⟩else bif Nat.beq f 111 then⟨[.own],[.own]⟩else bif Nat.beq f 311 then⟨[.own],[.own]⟩else bif Nat.beq f 307 then⟨[],[.own]⟩else{})
def SvT:TypeId→Sig:=(λf=>bif Nat.beq f 22 then⟨[.own],[.own]⟩else{})
def grow_nf{rows:LL}(h:ifB (ilt i 0) False (∀x,((rlen rows)≤x)→(x≤9223372036854775807)→ifB (igt (wsub .i64 i (wsub .i64 x (isub (rlen rows) 0))) 0) ((((0:Int)≤0)∧(0≤(isub x 0))∧(isub x 0)≤(isub x 0))∧(((0≤(wsub .i64 i (wsub .i64 x (isub (rlen rows) 0))))∧(wsub .i64 i (wsub .i64 x (isub (rlen rows) 0)))≤2147483648)∧(x<(lsum (lsum 0 (isub x 0)) (wsub .i64 i (wsub .i64 x (isub (rlen rows) 0)))))∧(lsum (isub (lsum 0 (isub x 0)) 0) (wsub .i64 i (wsub .i64 x (isub (rlen rows) 0))))≤2147483648)∧(((lsum 0 (isub x 0))≤(rlen rows))→∀a,((lsum (isub (lsum 0 (isub x 0)) 0) (wsub .i64 i (wsub .i64 x (isub (rlen rows) 0))))≤a)→(a≤9223372036854775807)→(((0:Int)≤0)∧(0≤(isub (rlen rows) 0))∧(isub (rlen rows) 0)≤(isub a 0))∧((lsum 0 (isub (rlen rows) 0))≤(rlen (rapp (rsub rows 0 (lsum 0 (isub x 0))) (rrep (wsub .i64 i (wsub .i64 x (isub (rlen rows) 0))) [U8 0]))))∧Q ([SV.slice 1 (rsub (rapp (rsub rows 0 (lsum 0 (isub x 0))) (rrep (wsub .i64 i (wsub .i64 x (isub (rlen rows) 0))) [U8 0])) 0 (lsum 0 (isub (rlen rows) 0))) 0]))∧(((rlen rows)<(lsum 0 (isub x 0)))→∀a,((lsum (isub (lsum 0 (isub x 0)) 0) (wsub .i64 i (wsub .i64 x (isub (rlen rows) 0))))≤a)→(a≤9223372036854775807)→(((0:Int)≤0)∧(0≤(isub (rlen rows) 0))∧(isub (rlen rows) 0)≤(isub a 0))∧((lsum 0 (isub (rlen rows) 0))≤(rlen (rsub rows 0 (rlen rows))))∧Q [SV.slice 1 (rsub (rsub rows 0 (rlen rows)) 0 (lsum 0 (isub (rlen rows) 0))) 0])) (((rlen rows)≤(rlen rows))∧Q [SL 1 (rsub rows 0 (rlen rows))]))):Ct prog 111 ⟨[.own],[.own]⟩ [SL 1 rows,I i] Q:=
 fO SgT SvT (λk=>bif Nat.beq k 3000000 then some ({}:LoopSpec)else none) func111 h
def concat_nf{rows:LL}(h:∃e:Int→Int→Prop,∃m:Int→Int→Nat,(e 0 0)∧∀x a,(e x a)→ifB (ilt a (rlen rows)) (((0≤a)∧a<(rlen rows))∧∃l,(rget rows a=[SL 1 l])∧ifB (ilt (wadd .i64 x (rlen l)) 0) False (((Option.some []:Option LL)=Option.some [])∧(e (wadd .i64 x (rlen l)) (wadd .i64 a 1))∧Nl (m (wadd .i64 x (rlen l)) (wadd .i64 a 1)) (m x a))) (Cl prog 111 (Sig.mk [Md.own] [Md.own]) ([SL 1 [],I x]) (λj=>∃l,(j=[SL 1 l])∧∃c:LL→Int→Prop,∃i:LL→Int→Nat,(c l 0)∧∀d b,(c d b)→ifB (ilt b (rlen rows)) (((0≤b)∧b<(rlen rows))∧∃g,(rget rows b=[SL 1 g])∧((lsum (rlen d) (rlen g))≤2147483648)∧((Option.some []:Option LL)=Option.some [])∧(c (rapp d g) (wadd .i64 b 1))∧Nl (i (rapp d g) (wadd .i64 b 1)) (i d b)) (Q [SL 1 d])))):Ct prog 48 ⟨[],[.own]⟩ [SL 1 rows] Q:=
 fN SgT SvT func48 h
def dsize_nf(h:Q [I (wadd .i64 (rlen l) (rlen r))]):Ct prog 94 {} [fil3 s l r] Q:=
 fN SgT SvT func94 h
def dused_nf{rows:LL}(h:∃e:Int→Int→Prop,∃m:Int→Int→Nat,(e 0 0)∧∀x a,(e x a)→ifB (ilt a (rlen rows)) (((0≤a)∧a<(rlen rows))∧∃s l i,(rget rows a=[S s,SL 1 l,SL 1 i])∧Cl prog 94 sP ([SV.agg [S s,SL 1 l,SL 1 i]]) (λj=>∃g,(j=[I g])∧(Sm (some ([[SL 3 rows,I c,I b,B o]])))∧(e (wadd .i64 x g) (wadd .i64 a 1))∧Nl (m (wadd .i64 x g) (wadd .i64 a 1)) (m x a))) (Q [I x])):Ct prog 77 {} [dsk4 rows c b o] Q:=
 fN SgT SvT func77 h
def dlist_nf{rows:LL}(h:(((0:Int)≤0)∧(0≤(rlen rows))∧(rlen rows)≤2147483648)∧∃d:LL→Int→Prop,∃m:LL→Int→Nat,(d (rrep 0 ([S (bA [])])) 0)∧∀l x,(d l x)→ifB (ilt x (rlen rows)) (((0≤x)∧x<(rlen rows))∧∃s e g,(rget rows x=[S s,SL 1 e,SL 1 g])∧((lsum (rlen l) (rlen ([[S s]])))≤2147483648)∧(Sm (some ([[SL 3 rows,I b,I i,B o]])))∧(d (rapp l ([[S s]])) (wadd .i64 x 1))∧Nl (m (rapp l ([[S s]])) (wadd .i64 x 1)) (m l x)) (Q [SL 1 l])):Ct prog 107 {} [dsk4 rows b i o] Q:=
 fN SgT SvT func107 h
def dnamed_nf(h:ifB (bpick (ilt (slen s) 1) true (igt (slen s) 16)) (Q [B false]) (∃a:Bool→Int→Prop,∃m:Bool→Int→Nat,(a false 0)∧∀b x,(a b x)→ifB (ilt x (slen s)) (((0≤x)∧x<(slen s))∧ifB (ige (sbyte s x) 97) (((0≤x)∧x<(slen s))∧((0≤x)∧x<(slen s))∧ifB (ige (sbyte s x) 48) (((0≤x)∧x<(slen s))∧ifB (bpick (bnot (bpick true (ile (sbyte s x) 122) false)) (bnot (bpick true (ile (sbyte s x) 57) false)) false) (((0≤x)∧x<(slen s))∧ifB (bpick true (ine (sbyte s x) 46) false) (Q [B false]) (((Option.some []:Option LL)=Option.some [])∧(a b (wadd .i64 x 1))∧Nl (m b (wadd .i64 x 1)) (m b x))) (ifB (bpick false true false) (Q [B false]) (((Option.some []:Option LL)=Option.some [])∧(a b (wadd .i64 x 1))∧Nl (m b (wadd .i64 x 1)) (m b x)))) (ifB (bpick (bnot (bpick true (ile (sbyte s x) 122) false)) (bnot (bpick false true false)) false) (((0≤x)∧x<(slen s))∧ifB (bpick true (ine (sbyte s x) 46) false) (Q [B false]) (((Option.some []:Option LL)=Option.some [])∧(a b (wadd .i64 x 1))∧Nl (m b (wadd .i64 x 1)) (m b x))) (ifB (bpick false true false) (Q [B false]) (((Option.some []:Option LL)=Option.some [])∧(a b (wadd .i64 x 1))∧Nl (m b (wadd .i64 x 1)) (m b x))))) (((0≤x)∧x<(slen s))∧ifB (ige (sbyte s x) 48) (((0≤x)∧x<(slen s))∧ifB (bpick (bnot (bpick false true false)) (bnot (bpick true (ile (sbyte s x) 57) false)) false) (((0≤x)∧x<(slen s))∧ifB (bpick true (ine (sbyte s x) 46) false) (Q [B false]) (((Option.some []:Option LL)=Option.some [])∧(a b (wadd .i64 x 1))∧Nl (m b (wadd .i64 x 1)) (m b x))) (ifB (bpick false true false) (Q [B false]) (((Option.some []:Option LL)=Option.some [])∧(a b (wadd .i64 x 1))∧Nl (m b (wadd .i64 x 1)) (m b x)))) (ifB (bpick (bnot (bpick false true false)) (bnot (bpick false true false)) false) (((0≤x)∧x<(slen s))∧ifB (bpick true (ine (sbyte s x) 46) false) (Q [B false]) (((Option.some []:Option LL)=Option.some [])∧(a b (wadd .i64 x 1))∧Nl (m b (wadd .i64 x 1)) (m b x))) (ifB (bpick false true false) (Q [B false]) (((Option.some []:Option LL)=Option.some [])∧(a b (wadd .i64 x 1))∧Nl (m b (wadd .i64 x 1)) (m b x)))))) (Q [B true]))):Ct prog 110 {} [S s] Q:=
 fN SgT SvT func110 h
def dright_nf{rows:LL}(h:ifB (bpick (bpick (bpick (igt (rlen rows) 64) true (ilt i 0)) true (igt i 65536)) true (ilt c ((-1:Int)))) (Q [B false]) (∃e:Bool→Int→Prop,∃m:Bool→Int→Nat,(e false 0)∧∀b x,(e b x)→ifB (ilt x (rlen rows)) (((0≤x)∧x<(rlen rows))∧∃s l n,(rget rows x=[S s,SL 1 l,SL 1 n])∧Cl prog 110 sP [S s] (λg=>∃a,(g=[B a])∧ifB (bnot a) (ifB (bpick true true (bpick (igt x 0) true false)) (Q [B false]) ((Sm (some ([[SL 3 rows,I i,I c,B o]])))∧(e b (wadd .i64 x 1))∧Nl (m b (wadd .i64 x 1)) (m b x))) (ifB (igt x 0) (((0≤(wsub .i64 x 1))∧(wsub .i64 x 1)<(rlen rows))∧∃j d p,(rget rows (wsub .i64 x 1)=[S j,SL 1 d,SL 1 p])∧ifB (bpick false true (bpick true (sge j s) false)) (Q [B false]) ((Sm (some ([[SL 3 rows,I i,I c,B o]])))∧(e b (wadd .i64 x 1))∧Nl (m b (wadd .i64 x 1)) (m b x))) (ifB (bpick false true (bpick false true false)) (Q [B false]) ((Sm (some ([[SL 3 rows,I i,I c,B o]])))∧(e b (wadd .i64 x 1))∧Nl (m b (wadd .i64 x 1)) (m b x)))))) (Cl prog 77 sP ([SV.agg [SL 3 rows,I i,I c,B o]]) (λg=>∃k,(g=[I k])∧Q [B (ile k i)])))):Ct prog 46 {} [dsk4 rows i c o] Q:=
 fN SgT SvT func46 h
def dready_nf{rows:LL}(h:Cl prog 46 sP ([SV.agg [SL 3 rows,I e,I c,B o]]) (λj=>∃b,(j=[B b])∧ifB (bnot b) (Q [I 1]) (ifB o (Q [I 16]) (Cl prog 157 sP ([SL 1 l,SV.clo 158 []]) (λg=>∃i,(g=[B i])∧ifB i (Q [I 1]) (Q [I 0])))))):Ct prog 92 {} [dsk4 rows e c o,SL 1 l] Q:=
 fN SgT SvT func92 h
def Zye(h:Cl prog 110 sP [S s] (λa=>∃b,(a=[B b])∧Q [B (bnot b)])):Ct prog 158 {} [S s] Q:=
 fN SgT SvT func158 h
def dplace_nf{rows:LL}(h:Cl prog 159 sP ([SL 3 rows,SV.clo 160 ([SV.ref 0 [S s]])]) (λd=>∃x,(d=[I x])∧Q [I x])):Ct prog 93 {} [dsk4 rows b i o,S s] Q:=
 fN SgT SvT func93 h
def Zyf(h:Q [B (seq s t)]):Ct prog 160 {} [fil3 s l r,.ref 0 [S t]] Q:=
 fN SgT SvT func160 h
def dsplit_nf(h:(((0:Int)≤0)∧(0≤i)∧(i=i)∧i≤(rlen l))∧((0≤i)∧(i≤(rlen l))∧(rlen l=rlen l)∧(rlen l)≤(rlen l))∧Q ([SV.agg [S s,SL 1 (rsub l 0 i),SL 1 (rsub l i (rlen l))]])):Ct prog 49 {} [S s,SL 1 l,I i] Q:=
 fN SgT SvT func49 h
def Zsu{rows:LL}{f:FuncId}(h:ifB (ieq i 0) (Q ([SV.agg [SL 3 rows,I b,I i,B true],I 16])) (ifB (igt i 0) (Cl prog 47 sO [SL 3 rows] (λa=>∃l,(a=[SL 3 l])∧Cl prog f (Sig.mk [Md.own] [Md.own]) ((SL 3 l)::C) (λd=>∃e,(d=[SL 3 e])∧Q ([SV.agg [SL 3 e,I b,I (wsub .i64 i 1),B o],I 0])))) (Cl prog 47 sO [SL 3 rows] (λa=>∃l,(a=[SL 3 l])∧Cl prog f (Sig.mk [Md.own] [Md.own]) ((SL 3 l)::C) (λd=>∃e,(d=[SL 3 e])∧Q ([SV.agg [SL 3 e,I b,I i,B o],I 0])))))):Ct prog 95 {} [dsk4 rows b i o,.clo f C] Q:=
 fN SgT SvT func95 h
def dread_nf{rows:LL}(h:Cl prog 92 sP ([SV.agg [SL 3 rows,I c,I i,B o],SL 1 ([[S s]])]) (λk=>∃x,(k=[I x])∧ifB (ine x 0) (Q ([SL 1 [],I x])) (Cl prog 93 sP ([SV.agg [SL 3 rows,I c,I i,B o],S s]) (λe=>∃b,(e=[I b])∧ifB (ieq b ((-1:Int))) (Q ([SL 1 [],I 14])) (((0≤b)∧b<(rlen rows))∧∃m l n,(rget rows b=[S m,SL 1 l,SL 1 n])∧((0≤b)∧b<(rlen rows))∧∃d p a,(rget rows b=[S d,SL 1 p,SL 1 a])∧Cl prog 48 sO ([SL 1 ([[SV.slice 1 l 0],[SV.slice 1 a 0]])]) (λg=>∃j,(g=[SL 1 j])∧Q [SL 1 j,I 0])))))):Ct prog 32 {} [dsk4 rows c i o,S s] Q:=
 fN SgT SvT func32 h
def Zyg{rows:LL}(h:Cl prog 92 sP ([SV.agg [SL 3 rows,I c,I i,B o],SL 1 ([[S s]])]) (λn=>∃x,(n=[I x])∧ifB (ine x 0) (Q ([SV.agg [SL 3 rows,I c,I i,B o],I x])) (Cl prog 93 sP ([SV.agg [SL 3 rows,I c,I i,B o],S s]) (λe=>∃a,(e=[I a])∧ifB (ine a ((-1:Int))) (Q ([SV.agg [SL 3 rows,I c,I i,B o],I 7])) (ifB (ieq (rlen rows) 64) (Q ([SV.agg [SL 3 rows,I c,I i,B o],I 13])) (Cl prog 95 sP ([SV.agg [SL 3 rows,I c,I i,B o],SV.clo 244 ([SV.ref 0 [S s]])]) (λg=>∃l j,∃k b m,(g=[SV.agg [SL 3 l,I j,I k,B b],I m])∧Q ([SV.agg [SL 3 l,I j,I k,B b],I m])))))))):Ct prog 168 {} [dsk4 rows c i o,S s] Q:=
 fN SgT SvT func168 h
def Zyh{rows:LL}(h:Cl prog 92 sP ([SV.agg [SL 3 rows,I c,I i,B o],SL 1 ([[S s]])]) (λv=>∃a,(v=[I a])∧ifB (ine a 0) (Q ([SV.agg [SL 3 rows,I c,I i,B o],I a])) (Cl prog 93 sP ([SV.agg [SL 3 rows,I c,I i,B o],S s]) (λm=>∃e,(m=[I e])∧ifB (ieq e ((-1:Int))) (Q ([SV.agg [SL 3 rows,I c,I i,B o],I 14])) (Cl prog 77 sP ([SV.agg [SL 3 rows,I c,I i,B o]]) (λn=>∃r,(n=[I r])∧ifB (igt (rlen l) (wsub .i64 c r)) (Q ([SV.agg [SL 3 rows,I c,I i,B o],I 13])) (Cl prog 95 sP ([SV.agg [SL 3 rows,I c,I i,B o],SV.clo 246 ([SV.ref 0 [I e],SV.ref 0 [S s],SV.ref 0 [SL 1 l]])]) (λd=>∃x j,∃k b g,(d=[SV.agg [SL 3 x,I j,I k,B b],I g])∧ifB (ieq g 16) (Cl prog 47 sO [SL 3 rows] (λp=>∃t,(p=[SL 3 t])∧Cl prog 246 (Sig.mk [Md.own] [Md.own]) ([SL 3 t,SV.ref 0 [I e],SV.ref 0 [S s],SV.ref 0 [SL 1 l]]) (λq=>∃u,(q=[SL 3 u])∧Q ([SV.agg [SL 3 u,I j,I k,B b],I g])))) (Q ([SV.agg [SL 3 x,I j,I k,B b],I g])))))))))):Ct prog 169 {} [dsk4 rows c i o,S s,SL 1 l] Q:=
 fN SgT SvT func169 h
def dsync_nf{rows:LL}(h:Cl prog 92 sP ([SV.agg [SL 3 rows,I c,I i,B o],SL 1 ([[S s]])]) (λn=>∃x,(n=[I x])∧ifB (ine x 0) (Q ([SV.agg [SL 3 rows,I c,I i,B o],I x])) (Cl prog 93 sP ([SV.agg [SL 3 rows,I c,I i,B o],S s]) (λg=>∃e,(g=[I e])∧ifB (ieq e ((-1:Int))) (Q ([SV.agg [SL 3 rows,I c,I i,B o],I 14])) (Cl prog 95 sP ([SV.agg [SL 3 rows,I c,I i,B o],SV.clo 221 ([SV.ref 0 [I e],SV.ref 0 [S s]])]) (λa=>∃l j,∃k b m,(a=[SV.agg [SL 3 l,I j,I k,B b],I m])∧Q ([SV.agg [SL 3 l,I j,I k,B b],I m]))))))):Ct prog 151 {} [dsk4 rows c i o,S s] Q:=
 fN SgT SvT func151 h
def Zyi{rows:LL}(h:Cl prog 92 sP ([SV.agg [SL 3 rows,I c,I i,B o],SL 1 ([[S s]])]) (λn=>∃x,(n=[I x])∧ifB (ine x 0) (Q ([SV.agg [SL 3 rows,I c,I i,B o],I x])) (Cl prog 93 sP ([SV.agg [SL 3 rows,I c,I i,B o],S s]) (λg=>∃e,(g=[I e])∧ifB (ieq e ((-1:Int))) (Q ([SV.agg [SL 3 rows,I c,I i,B o],I 14])) (Cl prog 95 sP ([SV.agg [SL 3 rows,I c,I i,B o],SV.clo 176 ([SV.ref 0 [I e]])]) (λa=>∃l j,∃k b m,(a=[SV.agg [SL 3 l,I j,I k,B b],I m])∧Q ([SV.agg [SL 3 l,I j,I k,B b],I m]))))))):Ct prog 106 {} [dsk4 rows c i o,S s] Q:=
 fN SgT SvT func106 h
def dwake_nf{rows:LL}(h:Cl prog 46 sP ([SV.agg [SL 3 rows,I i,I c,B o]]) (λy=>∃b,(y=[B b])∧ifB (bpick (bnot b) true (ilt j ((-1:Int)))) (Q ([SV.agg [SL 3 rows,I i,I c,B o],I 1])) (Cl prog 47 sO [SL 3 rows] (λw=>∃g,(w=[SL 3 g])∧∃q:Int→LL→Prop,∃m:Int→LL→Nat,(q 0 g)∧∀x a,(q x a)→ifB (ilt x (rlen g)) (((0≤x)∧x<(rlen a))∧((0≤x)∧x<(rlen a))∧∃s v d,(rget a x=[S s,SL 1 v,SL 1 d])∧ifB (igt (rlen l) 0) (((rlen l=0)→False)∧((0≤(wrem x (rlen l)))∧(wrem x (rlen l))<(rlen l))∧∃u,(rget l (wrem x (rlen l))=[I u])∧(((0:Int)≤0)∧(0≤(imax 0 (imin u (rlen d))))∧(imax 0 (imin u (rlen d)))≤(rlen d))∧Cl prog 48 sO ([SV.slice 1 ([[SL 1 v],[SV.slice 1 (rsub d 0 (imax 0 (imin u (rlen d)))) 0]]) 0]) (λr=>∃n,(r=[SL 1 n])∧Cl prog 49 sP [S s,SL 1 n,I (rlen n)] (λt=>∃k e p,(t=[SV.agg [S k,SL 1 e,SL 1 p]])∧((0≤x)∧x<(rlen a))∧((0≤x)∧x<(rlen a))∧(Sm (some ([[SV.slice 3 [] 1,I 0,I 0,B false],[SL 3 rows,I i,I c,B o]])))∧(q (wadd .i64 x 1) (rset a x [S k,SL 1 e,SL 1 p]))∧Nl (m (wadd .i64 x 1) (rset a x [S k,SL 1 e,SL 1 p])) (m x a)))) ((((0:Int)≤0)∧((0:Int)≤0)∧(0:Int)≤(rlen d))∧Cl prog 48 sO ([SL 1 ([[SV.slice 1 v 0],[SV.slice 1 (rsub d 0 0) 0]])]) (λr=>∃n,(r=[SL 1 n])∧Cl prog 49 sP [S s,SL 1 n,I (rlen n)] (λt=>∃k e p,(t=[SV.agg [S k,SL 1 e,SL 1 p]])∧((0≤x)∧x<(rlen a))∧((0≤x)∧x<(rlen a))∧(Sm (some ([[SV.slice 3 [] 1,I 0,I 0,B false],[SL 3 rows,I i,I c,B o]])))∧(q (wadd .i64 x 1) (rset a x [S k,SL 1 e,SL 1 p]))∧Nl (m (wadd .i64 x 1) (rset a x [S k,SL 1 e,SL 1 p])) (m x a))))) (Q ([SV.agg [SL 3 a,I i,I j,B false],I 0])))))):Ct prog 12 {} [dsk4 rows i c o,SL 1 l,I j] Q:=
 fN SgT SvT func12 h
def dapp1_nf{rows:LL}(h:((0≤i)∧i<(rlen rows))∧((0≤i)∧i<(rlen rows))∧∃k x c,(rget rows i=[S k,SL 1 x,SL 1 c])∧Cl prog 48 sO ([SL 1 ([[SV.slice 1 x 0],[SV.slice 1 c 0],[SV.slice 1 l 0]])]) (λj=>∃d,(j=[SL 1 d])∧Cl prog 49 sP [S s,SL 1 d,I (rlen x)] (λb=>∃e g a,(b=[SV.agg [S e,SL 1 g,SL 1 a]])∧((0≤i)∧i<(rlen rows))∧((0≤i)∧i<(rlen rows))∧Q ([SL 3 (rset rows i [S e,SV.slice 1 g 0,SV.slice 1 a 0])])))):Ct prog 246 ⟨[.own],[.own]⟩ [SL 3 rows,.ref 0 [I i],.ref 0 [S s],.ref 0 [SL 1 l]] Q:=
 fN SgT SvT func246 h
def dcre1_nf{rows:LL}(h:Cl prog 245 (Sig.mk [Md.own] [Md.own]) ([SL 3 rows,SV.agg ([S s,SL 1 [],SL 1 []])]) (λa=>∃l,(a=[SL 3 l])∧Q [SL 3 l])):Ct prog 244 ⟨[.own],[.own]⟩ [SL 3 rows,.ref 0 [S s]] Q:=
 fN SgT SvT func244 h
def dsyn1_nf{rows:LL}(h:((0≤i)∧i<(rlen rows))∧((0≤i)∧i<(rlen rows))∧∃e l b,(rget rows i=[S e,SL 1 l,SL 1 b])∧Cl prog 48 sO ([SL 1 ([[SV.slice 1 l 0],[SV.slice 1 b 0]])]) (λm=>∃g,(m=[SL 1 g])∧Cl prog 94 sP ([SV.agg [S e,SL 1 l,SL 1 b]]) (λc=>∃x,(c=[I x])∧Cl prog 49 sP [S s,SL 1 g,I x] (λd=>∃a j k,(d=[SV.agg [S a,SL 1 j,SL 1 k]])∧((0≤i)∧i<(rlen rows))∧((0≤i)∧i<(rlen rows))∧Q ([SL 3 (rset rows i [S a,SV.slice 1 j 0,SV.slice 1 k 0])]))))):Ct prog 221 ⟨[.own],[.own]⟩ [SL 3 rows,.ref 0 [I i],.ref 0 [S s]] Q:=
 fN SgT SvT func221 h
def drem1_nf{rows:LL}(h:Cl prog 177 (Sig.mk [Md.own] [Md.own]) [SL 3 rows,I i,I (wadd .i64 i 1)] (λb=>∃l,(b=[SL 3 l])∧Q [SL 3 l])):Ct prog 176 ⟨[.own],[.own]⟩ [SL 3 rows,.ref 0 [I i]] Q:=
 fN SgT SvT func176 h
def Zyj{rows:LL}(h:Cl prog 309 sP ([SL 3 rows,S s,SV.clo 310 []]) (λd=>∃x e,(d=[I x,B e])∧Cl prog 311 (Sig.mk [Md.own] [Md.own]) ([SL 3 rows,I x,SL 3 ([[S s,SV.slice 1 l 0,SV.slice 1 r 0]])]) (λc=>∃a,(c=[SL 3 a])∧Q [SL 3 a]))):Ct prog 245 ⟨[.own],[.own]⟩ [SL 3 rows,fil3 s l r] Q:=
 fN SgT SvT func245 h
def fclone_nf{rows:LL}(h:∀b,((b=true)→rlen rows=0)→ifB b (Q ([SL 3 []])) (((lsum (rlen []) (rlen rows))≤2147483648)∧Q ([SL 3 (rapp [] rows)]))):Ct prog 47 ⟨[],[.own]⟩ [SL 3 rows] Q:=
 fN SgT SvT func47 h
def Zyk{rows:LL}{f:FuncId}(h:∃b:Int→Int→Prop,∃m:Int→Int→Nat,(b 0 (rlen rows))∧∀x a,(b x a)→ifB (ilt x a) (((0:Int)≤1)∧((0≤(wcv .i64 (wshr .u64 (wcv .u64 (wadd .i64 x a)) 1)))∧(wcv .i64 (wshr .u64 (wcv .u64 (wadd .i64 x a)) 1))<(rlen rows))∧∃c l d,(rget rows (wcv .i64 (wshr .u64 (wcv .u64 (wadd .i64 x a)) 1))=[S c,SL 1 l,SL 1 d])∧Cl prog f sP ((SV.agg [S c,SL 1 l,SL 1 d])::((S s)::C)) (λi=>∃e,(i=[I e])∧ifB (ilt e 0) (((Option.some []:Option LL)=Option.some [])∧(b (wadd .i64 (wcv .i64 (wshr .u64 (wcv .u64 (wadd .i64 x a)) 1)) 1) a)∧Nl (m (wadd .i64 (wcv .i64 (wshr .u64 (wcv .u64 (wadd .i64 x a)) 1)) 1) a) (m x a)) (((Option.some []:Option LL)=Option.some [])∧(b x (wcv .i64 (wshr .u64 (wcv .u64 (wadd .i64 x a)) 1)))∧Nl (m x (wcv .i64 (wshr .u64 (wcv .u64 (wadd .i64 x a)) 1))) (m x a)))) (ifB (ilt x (rlen rows)) (((0≤x)∧x<(rlen rows))∧∃c l d,(rget rows x=[S c,SL 1 l,SL 1 d])∧Cl prog f sP ((SV.agg [S c,SL 1 l,SL 1 d])::((S s)::C)) (λi=>∃e,(i=[I e])∧Q [I x,B (bpick true (ieq e 0) false)])) (Q [I x,B (bpick false true false)]))):Ct prog 309 {} [SL 3 rows,S s,.clo f C] Q:=
 fN SgT SvT func309 h
def scont_nf{rows:LL}{f:FuncId}(h:Cl prog 234 sP [SL 1 rows,SV.clo f C] (λb=>∃x,(b=[I x])∧Q [B (ige x 0)])):Ct prog 157 {} [SL 1 rows,.clo f C] Q:=
 fN SgT SvT func157 h
def sindex_nf{rows:LL}{f:FuncId}(h:∃c:Int→Int→Prop,∃m:Int→Int→Nat,(c 0 0)∧∀x a,(c x a)→ifB (ilt a (rlen rows)) (((0≤a)∧a<(rlen rows))∧∃s,(rget rows a=[S s])∧Cl prog f sP ((S s)::C) (λe=>∃b,(e=[B b])∧ifB b (Q [I a]) (((Option.some []:Option LL)=Option.some [])∧(c x (wadd .i64 a 1))∧Nl (m x (wadd .i64 a 1)) (m x a)))) (Q [I (-1)])):Ct prog 234 {} [SL 1 rows,.clo f C] Q:=
 fN SgT SvT func234 h
def Zsv(h:Cl prog 190 sP [S s] (λd=>∃b,(d=[B b])∧Cl prog 190 sP [S t] (λc=>∃a,(c=[B a])∧ifB b (ifB a (Q [I 0]) (Q [I (-1)])) (ifB a (Q [I 1]) (ifB (slt s t) (Q [I (-1)]) (ifB (sgt s t) (Q [I 1]) (Q [I 0]))))))):Ct prog 134 {} [S s,S t] Q:=
 fN SgT SvT func134 h
def cnan_nf(h:Q [B (sne s s)]):Ct prog 190 {} [S s] Q:=
 fN SgT SvT func190 h
def dins1_nf(h:Cl prog 134 sP [S s,S t] (λc=>∃x,(c=[I x])∧Q [I x])):Ct prog 310 {} [fil3 s l r,S t] Q:=
 fN SgT SvT func310 h
def dcut_nf{rows:LL}(h:Cl prog 92 sP ([SV.agg [SL 3 rows,I c,I i,B o],SL 1 ([[S s]])]) (λu=>∃x,(u=[I x])∧ifB (ine x 0) (Q ([SV.agg [SL 3 rows,I c,I i,B o],I x])) (Cl prog 93 sP ([SV.agg [SL 3 rows,I c,I i,B o],S s]) (λm=>∃e,(m=[I e])∧ifB (ieq e ((-1:Int))) (Q ([SV.agg [SL 3 rows,I c,I i,B o],I 14])) (ifB (ilt j 0) (ifB (bpick true true true) (Q ([SV.agg [SL 3 rows,I c,I i,B o],I 1])) (Cl prog 95 sP ([SV.agg [SL 3 rows,I c,I i,B o],SV.clo 96 ([SV.ref 0 [I e],SV.ref 0 [S s],SV.ref 0 [I j]])]) (λg=>∃l a,∃n b k,(g=[SV.agg [SL 3 l,I a,I n,B b],I k])∧Q ([SV.agg [SL 3 l,I a,I n,B b],I k])))) (((0≤e)∧e<(rlen rows))∧∃p l q,(rget rows e=[S p,SL 1 l,SL 1 q])∧Cl prog 94 sP ([SV.agg [S p,SL 1 l,SL 1 q]]) (λg=>∃a,(g=[I a])∧ifB (bpick false true (igt j a)) (Q ([SV.agg [SL 3 rows,I c,I i,B o],I 1])) (Cl prog 95 sP ([SV.agg [SL 3 rows,I c,I i,B o],SV.clo 96 ([SV.ref 0 [I e],SV.ref 0 [S s],SV.ref 0 [I j]])]) (λd=>∃r n,∃k b t,(d=[SV.agg [SL 3 r,I n,I k,B b],I t])∧Q ([SV.agg [SL 3 r,I n,I k,B b],I t])))))))))):Ct prog 33 {} [dsk4 rows c i o,S s,I j] Q:=
 fN SgT SvT func33 h
def dcut1_nf{rows:LL}(h:((0≤i)∧i<(rlen rows))∧((0≤i)∧i<(rlen rows))∧∃k l d,(rget rows i=[S k,SL 1 l,SL 1 d])∧Cl prog 48 sO ([SL 1 ([[SV.slice 1 l 0],[SV.slice 1 d 0]])]) (λn=>∃b,(n=[SL 1 b])∧(((0:Int)≤0)∧(0≤j)∧j≤(rlen b))∧Cl prog 49 sP [S s,SL 1 (rsub b 0 j),I (imin j (rlen l))] (λc=>∃e g a,(c=[SV.agg [S e,SL 1 g,SL 1 a]])∧((0≤i)∧i<(rlen rows))∧((0≤i)∧i<(rlen rows))∧Q ([SL 3 (rset rows i [S e,SV.slice 1 g 0,SV.slice 1 a 0])])))):Ct prog 96 ⟨[.own],[.own]⟩ [SL 3 rows,.ref 0 [I i],.ref 0 [S s],.ref 0 [I j]] Q:=
 fN SgT SvT func96 h
def qsame_nf(rows:LL)(i d:Int)(j:Bool)(c:LL)(e a:Int)(g:Bool)(Q:QQ)(h:ifB (bpick (bpick (bpick (ine (rlen rows) (rlen c)) true (ine i e)) true (ine d a)) true (bnot (beqB j g))) (Q [B false]) (∃k:Bool→Int→Prop,∃m:Bool→Int→Nat,(k false 0)∧∀b x,(k b x)→ifB (ilt x (rlen rows)) (((0≤x)∧x<(rlen rows))∧∃s l n,(rget rows x=[S s,SL 1 l,SL 1 n])∧((0≤x)∧x<(rlen c))∧∃q p o,(rget c x=[S q,SL 1 p,SL 1 o])∧(ifB (sne s q) (ifB (bpick true true true) (ifB (bpick true true true) (Q [B false]) ((Sm (some ([[SL 3 c,I e,I a,B g],[SL 3 rows,I i,I d,B j]])))∧(k b (wadd .i64 x 1))∧Nl (m b (wadd .i64 x 1)) (m b x))) ((Zaq n)∧(Zaq o)∧ifB (bpick false true (sne (bstr n) (bstr o))) (Q [B false]) ((Sm (some ([[SL 3 c,I e,I a,B g],[SL 3 rows,I i,I d,B j]])))∧(k b (wadd .i64 x 1))∧Nl (m b (wadd .i64 x 1)) (m b x)))) ((Zaq l)∧(Zaq p)∧ifB (bpick false true (sne (bstr l) (bstr p))) (ifB (bpick true true true) (Q [B false]) ((Sm (some ([[SL 3 c,I e,I a,B g],[SL 3 rows,I i,I d,B j]])))∧(k b (wadd .i64 x 1))∧Nl (m b (wadd .i64 x 1)) (m b x))) ((Zaq n)∧(Zaq o)∧ifB (bpick false true (sne (bstr n) (bstr o))) (Q [B false]) ((Sm (some ([[SL 3 c,I e,I a,B g],[SL 3 rows,I i,I d,B j]])))∧(k b (wadd .i64 x 1))∧Nl (m b (wadd .i64 x 1)) (m b x)))))∧ifB (sne s q) (ifB (bpick true true true) (ifB (bpick true true true) (Q [B false]) ((Sm (some ([[SL 3 c,I e,I a,B g],[SL 3 rows,I i,I d,B j]])))∧(k b (wadd .i64 x 1))∧Nl (m b (wadd .i64 x 1)) (m b x))) ((Zaq n)∧(Zaq o)∧ifB (bpick false true (sne (bstr n) (bstr o))) (Q [B false]) ((Sm (some ([[SL 3 c,I e,I a,B g],[SL 3 rows,I i,I d,B j]])))∧(k b (wadd .i64 x 1))∧Nl (m b (wadd .i64 x 1)) (m b x)))) ((Zaq l)∧(Zaq p)∧ifB (bpick false true (sne (bstr l) (bstr p))) (ifB (bpick true true true) (Q [B false]) ((Sm (some ([[SL 3 c,I e,I a,B g],[SL 3 rows,I i,I d,B j]])))∧(k b (wadd .i64 x 1))∧Nl (m b (wadd .i64 x 1)) (m b x))) ((Zaq n)∧(Zaq o)∧ifB (bpick false true (sne (bstr n) (bstr o))) (Q [B false]) ((Sm (some ([[SL 3 c,I e,I a,B g],[SL 3 rows,I i,I d,B j]])))∧(k b (wadd .i64 x 1))∧Nl (m b (wadd .i64 x 1)) (m b x))))) (Q [B true]))):Ct prog 14 {} [dsk4 rows i d j,dsk4 c e a g] Q:=
 fN SgT SvT func14 h
end Dsk
namespace Dsk
open Go Go.Px Go.Proofs Ins Tryz
def ovl_file:fovl prog 346 22:=by
 refine⟨#[4],λx y w=>?_⟩;rw[run_callFunc_extern func346 (by kernel_rfl) (by kernel_rfl) (by kernel_rfl) (e:=Extern.SlicesOverlaps.overlaps #[22,22] #[4]) (by kernel_rfl)]
def grow_fn(n:Nat)(i:n≤2147483648):Ct prog 111 ⟨[.own],[.own]⟩ [SL 1 [],I n] (λr=>r=[SL 1 []]):=by
 refine grow_nf (Zaa (λh=>by simp at h;omega) (λ_ x b g=>?_));simp only[rlen_eq,Y6,isub_d,lsum_eq,WL,Wo]at b⊢;have b:(0:Int)≤x:=b;have w:wsub .i64 (n:Int) (wsub .i64 x ((0:Nat):Int))=n-x:=(by rw[Zat (a:=x)];rw[Zat];omega);rw[w];refine Zaa (λh=>?_) (λh=>⟨Int.le_refl _,by simp[rsub]⟩);simp at h;refine⟨⟨by omega,b,by omega⟩,⟨⟨by omega,by omega⟩,by omega,by omega⟩,λc d e f=>⟨⟨by omega,by omega,by omega⟩,by omega,by simp[rsub]⟩,λc d e f=>⟨⟨by omega,by omega,by omega⟩,by omega,by simp[rsub]⟩⟩
def catL:List (List UInt8)→List UInt8:=List.flatten
abbrev sR(a:List (List UInt8)):LL:=a.map λl=>[SL 1 (uR l)]
def Zw3(a:List (List UInt8))(i:Nat)(h:i<a.length):catL (a.take (i+1))=catL (a.take i)++a[i]:=by
 rw[Zva _ _ h];unfold catL;rw[List.flatten_append,List.flatten_singleton]
def cat_le(a:List (List UInt8))(i:Nat):(catL (a.take i)).length≤(catL a).length:=by
 conv=>rhs;rw[←List.take_append_drop i a]
 simp only[catL,List.flatten_append,List.length_append];omega
def Zrx(a:List (List UInt8))(d:a.length≤1000)(b:(catL a).length≤2147483648):Ct prog 48 ⟨[],[.own]⟩ [SL 1 (sR a)] (λr=>r=[SL 1 (uR (catL a))]):=by
 refine concat_nf ⟨λx y=>∃i:Nat,y=i∧i≤a.length∧x=(catL (a.take i)).length,λ_ y=>a.length-y.toNat,⟨0,rfl,by omega,by simp[catL]⟩,?_⟩;rintro _ _ ⟨i,rfl,hi,rfl⟩;refine Zaa (λh=>?_) (λh=>?_)
 ·simp at h;have e:=Zw3 a i h;have e2:=cat_le a (i+1);rw[e,List.length_append]at e2;refine⟨⟨by omega,by simpa using h⟩,uR a[i],by rw[Zaj _ _ _ h],?_⟩;rw[rlen_eq,Zjv,Zqv _ _ (by omega)];refine Zaa (λc=>by simp at c;omega) (λ_=>⟨rfl,?_,?_⟩)
  ·rw[waddN _];exact⟨i+1,rfl,by omega,by rw[e,List.length_append]⟩
  ·rw[waddN _];exact stepL (by simp;omega)
 ·simp at h;have:i=a.length:=(by omega);subst this;rw[Yh];refine Cl.of (grow_fn _ b) ⟨_,rfl,λl y=>∃i:Nat,y=i∧i≤a.length∧l=uR (catL (a.take i)),λ_ y=>a.length-y.toNat,⟨0,rfl,by omega,by simp[catL]⟩,?_⟩;rintro _ _ ⟨i,rfl,hi,rfl⟩;refine Zaa (λh=>?_) (λh=>?_)
  ·simp at h;have e:=Zw3 a i h;have e2:=cat_le a (i+1);rw[e,List.length_append]at e2;refine⟨⟨by omega,by simpa using h⟩,uR a[i],by rw[Zaj _ _ _ h],by simp;omega,rfl,?_,?_⟩
   ·rw[waddN _];exact⟨i+1,rfl,by omega,by rw[e,Zkl]⟩
   ·rw[waddN _];exact stepL (by simp;omega)
  ·simp at h;have:i=a.length:=(by omega);subst this;rw[Yh]
def Zpu(a b:List UInt8)(h:a.length+b.length≤2147483648):Ct prog 48 ⟨[],[.own]⟩ [SL 1 [[SL 1 (uR a)],[SL 1 (uR b)]]] (λr=>r=[SL 1 (uR (a++b))]):=by
 have:=Zrx [a,b] (by simp) (by simpa[catL]using h)
 simpa[catL]using this
def concat3(a b c:List UInt8)(h:a.length+b.length+c.length≤2147483648):Ct prog 48 ⟨[],[.own]⟩ [SL 1 [[SL 1 (uR a)],[SL 1 (uR b)],[SL 1 (uR c)]]] (λr=>r=[SL 1 (uR (a++b++c))]):=by
 have:=Zrx [a,b,c] (by simp) (by simp[catL];omega)
 simpa[catL]using this
def Zpv(f:FiD)(h:f.len≤72057594037927936):Ct prog 94 {} [.agg f.row] (λr=>r=[I f.len]):=by
 refine dsize_nf ?_;unfold FiD.len at h⊢;rw[rlen_eq,rlen_eq,Zjv,Zjv,Zqv _ _ (by omega)]
def _root_.Go.Px.DiD.ok(d:DiD):Prop:=usedL d.fs≤72057594037927936∧d.fs.length≤72057594037927936∧d.st≤9223372036854775807
def _root_.Go.Px.DiD.P.ok{d:DiD}(h:d.P)(a:d.st≤9223372036854775807):d.ok:=by
 have b:=h.1;have c:=h.2.1;exact⟨by omega,by omega,a⟩
def used_take(l:List FiD)(i:Nat)(h:i<l.length):usedL (l.take (i+1))=usedL (l.take i)+l[i].len:=by
 rw[Zva _ _ h,Zc9];simp[usedL]
def used_le(l:List FiD)(i:Nat):usedL (l.take i)≤usedL l:=by
 have:=congrArg usedL (List.take_append_drop i l);rw[Zc9]at this;omega
def Zku(d:DiD)(h:d.ok):Ct prog 77 {} [d.sv] (λr=>r=[I (usedL d.fs)]):=by
 obtain⟨a,b,_⟩:=h;refine dused_nf ⟨λx y=>∃i:Nat,y=i∧i≤d.fs.length∧x=usedL (d.fs.take i),λ_ y=>d.fs.length-y.toNat,⟨0,rfl,by omega,by simp[usedL]⟩,?_⟩;rintro _ _ ⟨i,rfl,hi,rfl⟩;refine Zaa (λh=>?_) (λh=>?_)
 ·simp at h;have e:=used_take d.fs i h;have e2:=used_le d.fs (i+1);refine⟨⟨by omega,by simpa using h⟩,_,_,_,Zaj _ _ _ h,Cl.of (Zpv d.fs[i] (by have:=Zik (List.getElem_mem h);omega)) ⟨_,rfl,rfl,?_,?_⟩⟩
  ·rw[waddN _,Zqv _ _ (by omega)];exact⟨i+1,rfl,by omega,by rw[e]⟩
  ·rw[waddN _];exact stepL (by simp;omega)
 ·simp at h;have:i=d.fs.length:=(by omega);subst this;rw[Yh]
def Zw4(d:DiD)(h:d.fs.length≤2147483648):Ct prog 107 {} [d.sv] (λr=>r=[SL 1 (nR (d.fs.map FiD.nm))]):=by
 refine dlist_nf ⟨⟨by omega,by simp,by simp;omega⟩,λl y=>∃i:Nat,y=i∧i≤d.fs.length∧l=nR ((d.fs.take i).map FiD.nm),λ_ y=>d.fs.length-y.toNat,⟨0,rfl,by omega,by simp[rrep]⟩,?_⟩;rintro _ _ ⟨i,rfl,hi,rfl⟩;refine Zaa (λh=>?_) (λh=>?_)
 ·simp at h;refine⟨⟨by omega,by simpa using h⟩,_,_,_,Zaj _ _ _ h,by simp;omega,rfl,?_,?_⟩
  ·rw[waddN _];exact⟨i+1,rfl,by omega,by rw[Zva _ _ h,List.map_append];exact Zkl _ _ [d.fs[i].nm]⟩
  ·rw[waddN _];exact stepL (by simp;omega)
 ·simp at h;have:i=d.fs.length:=(by omega);subst this;rw[Yh]
def Zt4:fnB s=true↔(1≤s.size∧s.size≤16)∧∀i:Nat,∀h:i<s.size,fchr (s.data.toList[i]'(by rw[←Zdc];exact h))=true:=by
 unfold fnB;rw[Bool.and_eq_true,decide_eq_true_eq,List.all_eq_true];refine and_congr Iff.rfl ⟨λh i a=>h _ (List.getElem_mem _),λh b c=>?_⟩;obtain⟨i,a,rfl⟩:=List.mem_iff_getElem.1 c;exact h i (by rw[Zdc];exact a)
def Zry(s:BA):Ct prog 110 {} [S s] (λr=>r=[B (fnB s)]):=by
 refine dnamed_nf (Zaa (λh=>?_) (λh=>?_))
 ·simp at h;have:fnB s=false:=(by rw[Wd];intro k;have:=(Zt4.1 k).1;omega);rw[this]
 ·simp at h;refine⟨λ_ y=>∃i:Nat,y=i∧i≤s.size∧∀j:Nat,∀a:j<s.size,j<i→fchr (s.data.toList[j]'(by rw[←Zdc];exact a))=true,λ_ y=>s.size-y.toNat,⟨0,rfl,by omega,λj _ a=>by omega⟩,?_⟩;rintro _ _ ⟨i,rfl,hi,hall⟩;refine Zaa (λd=>?_) (λd=>?_)
  ·simp at d;rw[sbyte_u _ _ d,waddN _];generalize hb:s.data.toList[i]'(by rw[←Zdc];exact d)=b
   have o:fchr b=true→∃k:Nat,((i+1:Nat):Int)=k∧k≤s.size∧∀j:Nat,∀a:j<s.size,j<k→fchr (s.data.toList[j]'(by rw[←Zdc];exact a))=true:=λf=>
    ⟨i+1,rfl,by omega,λj a v=>by
     by_cases e:j=i
     ·subst e;rw[hb];exact f
     ·exact hall j a (by omega)⟩
   have no:fchr b=false→[B false]=[B (fnB s)]:=λf=>by have:fnB s=false:=(by rw[Wd];intro k;have:=(Zt4.1 k).2 i d;rw[hb,f]at this;cases this);rw[this]
   have u:Nl (s.size-((i+1:Nat):Int).toNat) (s.size-((i:Nat):Int).toNat):=stepL (by simp;omega)
   have rng:(0:Int)≤(i:Int)∧(i:Int)<slen s:=⟨by omega,by simpa using d⟩
   have w:∀{p:Prop},(p↔fchr b=true)→p→fchr b=true:=λh=>h.1;have q:fchr b=true↔(97≤b.toNat∧b.toNat≤122)∨(48≤b.toNat∧b.toNat≤57)∨b.toNat=46:=(by unfold fchr;rw[decide_eq_true_eq]);have t:fchr b=false↔¬((97≤b.toNat∧b.toNat≤122)∨(48≤b.toNat∧b.toNat≤57)∨b.toNat=46):=by rw[←q];simp
   have fin:∀(g:Bool),(g=true↔fchr b=false)→ifB g ([B false]=[B (fnB s)]) ((some []:Option LL)=some []∧(∃k:Nat,((i+1:Nat):Int)=k∧k≤s.size∧∀j:Nat,∀a:j<s.size,j<k→fchr (s.data.toList[j]'(by rw[←Zdc];exact a))=true)∧Nl (s.size-((i+1:Nat):Int).toNat) (s.size-((i:Nat):Int).toNat)):=λg n=>
    Zaa (λh=>no (n.1 h)) (λh=>⟨rfl,o (by cases f:fchr b with|true=>rfl|false=>rw[n.2 f]at h;cases h),u⟩)
   refine⟨rng,Zaa (λm=>⟨rng,rng,Zaa (λl=>⟨rng,Zaa (λc=>⟨rng,fin _ ?_⟩) (λc=>fin _ ?_)⟩) (λl=>Zaa (λc=>⟨rng,fin _ ?_⟩) (λc=>fin _ ?_))⟩) (λm=>⟨rng,Zaa (λl=>⟨rng,Zaa (λc=>⟨rng,fin _ ?_⟩) (λc=>fin _ ?_)⟩) (λl=>Zaa (λc=>⟨rng,fin _ ?_⟩) (λc=>fin _ ?_))⟩)⟩
   all_goals first|(simp at m l c;done)|(simp at m l c;rw[t];first|(simp;done)|(simp;omega))
  ·simp at d;have:fnB s=true:=Zt4.2 ⟨by omega,λj a=>hall j a (by omega)⟩;rw[this]
def adj_srt{l:List FiD}(h:∀i:Nat,∀a:i<l.length,0<i→nlt (l[i-1]'(by omega)).nm l[i].nm):srt FiD.nm l:=
 srt_adj λi a=>by have:=h (i+1) a (by omega);simpa using this
def Ze4(d:DiD)(h:d.ok):Ct prog 46 {} [d.sv] (λr=>r=[B (decide d.P)]):=by
 have no:¬d.P→[B false]=[B (decide d.P)]:=λh=>by simp[h]
 refine dright_nf (Zaa (λq=>no (λp=>?_)) (λq=>?_))
 ·have:=p.1;simp at q;omega
 ·simp at q;refine⟨λ_ y=>∃i:Nat,y=i∧i≤d.fs.length∧∀j:Nat,∀c:j<d.fs.length,j<i→fnB d.fs[j].nm=true∧(0<j→nlt (d.fs[j-1]'(by omega)).nm d.fs[j].nm),λ_ y=>d.fs.length-y.toNat,⟨0,rfl,by omega,λj _ c=>by omega⟩,?_⟩;rintro b _ ⟨i,rfl,hi,hall⟩;refine Zaa (λl=>?_) (λl=>?_)
  ·simp at l;have s:Nl (d.fs.length-((i+1:Nat):Int).toNat) (d.fs.length-((i:Nat):Int).toNat):=stepL (by simp;omega)
   have o:fnB d.fs[i].nm=true→(0<i→nlt (d.fs[i-1]'(by omega)).nm d.fs[i].nm)→∃k:Nat,((i+1:Nat):Int)=k∧k≤d.fs.length∧∀j:Nat,∀c:j<d.fs.length,j<k→fnB d.fs[j].nm=true∧(0<j→nlt (d.fs[j-1]'(by omega)).nm d.fs[j].nm):=λa b=>
    ⟨i+1,rfl,by omega,λj c x=>by
     by_cases e:j=i
     ·subst e;exact⟨a,b⟩
     ·exact hall j c (by omega)⟩
   rw[waddN _];refine⟨⟨by omega,by simpa using l⟩,_,_,_,Zaj _ _ _ l,Cl.of (Zry _) ⟨_,rfl,Zaa (λm=>?_) (λm=>?_)⟩⟩
   ·simp at m;refine Zaa (λ_=>no (λp=>?_)) (λn=>by simp at n);have:=p.2.2.1 _ (List.getElem_mem l);rw[this]at m;cases m
   ·simp at m;refine Zaa (λn=>?_) (λn=>?_)
    ·simp at n;have w:wsub .i64 (i:Int) 1=((i-1:Nat):Int):=by rw[Zat];omega
     rw[w];have hi1:i-1<d.fs.length:=(by omega);refine⟨⟨by omega,by simp;omega⟩,_,_,_,Zaj _ _ _ hi1,?_⟩;rw[sge_d];refine Zaa (λg=>no (λp=>?_)) (λg=>⟨rfl,o m (λ_=>?_),s⟩)
     ·simp at g;exact g (Zml p.2.2.2 (by omega) l)
     ·simp at g;exact g
    ·simp at n;refine Zaa (λg=>by simp at g) (λg=>⟨rfl,o m (λ_=>by omega),s⟩)
  ·simp at l;have u:srt FiD.nm d.fs:=adj_srt λj c=>(hall j c (by omega)).2;have v:∀f∈d.fs,fnB f.nm=true:=λf t=>by obtain⟨j,c,rfl⟩:=List.mem_iff_getElem.1 t;exact(hall j c (by omega)).1
   refine Cl.of (Zku d h) ⟨_,rfl,?_⟩;have:ile (usedL d.fs:Int) d.rm=decide d.P:=(by rw[ile_eq,decide_eq_decide];exact⟨λk=>⟨⟨by omega,by omega,by omega,by omega⟩,k,v,u⟩,λp=>p.2.1⟩);rw[this]
def Zyv(s:BA):Ct prog 158 {} [S s] (λr=>r=[B (!fnB s)]):=
 Zye (Cl.of (Zry s) ⟨_,rfl,rfl⟩)
def sindex_fn(l:List BA)(f:FuncId)(c:List SV)(p:BA→Bool)(d:l.length≤1000000)(g:∀s∈l,Ct prog f sP (S s::c) (λx=>x=[B (p s)])):
  Ct prog 234 {} [SL 1 (nR l),.clo f c] (λr=>∃x:Int,r=[I x]∧((x= -1∧∀s∈l,p s=false)∨(0≤x∧∃s∈l,p s=true))):=by
 refine sindex_nf ⟨λ_ y=>∃i:Nat,y=i∧i≤l.length∧∀j:Nat,∀a:j<l.length,j<i→p l[j]=false,λ_ y=>l.length-y.toNat,⟨0,rfl,by omega,λj _ a=>by omega⟩,?_⟩;rintro _ _ ⟨i,rfl,hi,hall⟩;refine Zaa (λh=>?_) (λh=>?_)
 ·simp at h;rw[waddN _];refine⟨⟨by omega,by simpa using h⟩,_,Zaj _ _ _ h,Cl.of (g _ (List.getElem_mem h)) ⟨_,rfl,Zaa (λb=>⟨_,rfl,.inr ⟨by omega,_,List.getElem_mem h,b⟩⟩) (λb=>⟨rfl,⟨i+1,rfl,by omega,λj a m=>?_⟩,stepL (by simp;omega)⟩)⟩⟩;by_cases e:j=i
  ·subst e;exact b
  ·exact hall j a (by omega)
 ·simp at h;refine⟨-1,rfl,.inl ⟨rfl,λs k=>?_⟩⟩;obtain⟨j,a,rfl⟩:=List.mem_iff_getElem.1 k;exact hall j a (by omega)
def scont_fn(l:List BA)(f:FuncId)(a:List SV)(p:BA→Bool)(b:l.length≤1000000)(d:∀s∈l,Ct prog f sP (S s::a) (λx=>x=[B (p s)])):
  Ct prog 157 {} [SL 1 (nR l),.clo f a] (λr=>r=[B (l.any p)]):=by
 refine scont_nf (Cl.ofQ (sindex_fn l f a p b d) ?_);rintro _ ⟨x,rfl,hx⟩;refine⟨x,rfl,?_⟩
 rcases hx with⟨rfl,h⟩|⟨h0,s,c,h⟩
 ·have:l.any p=false:=(by rw[YO];intro s c;simp[h s c]);rw[this];simp
 ·have:l.any p=true:=List.any_eq_true.2 ⟨s,c,h⟩;rw[this];simp;omega
def dready_fn(d:DiD)(h:d.ok)(l:List BA)(e:l.length≤1000):Ct prog 92 {} [d.sv,SL 1 (nR l)] (λr=>r=[I (if d.P then(if d.dn=true then 16 else if l.any (λs=>!fnB s)=true then 1 else 0)else 1)]):=by
 refine dready_nf (Cl.of (Ze4 d h) ⟨_,rfl,Zaa (λa=>?_) (λa=>Zaa (λb=>?_) (λb=>Cl.of (scont_fn l 158 [] (λs=>!fnB s) (by omega) (λs _=>Zyv s)) ⟨_,rfl,Zaa (λc=>?_) (λc=>?_)⟩))⟩)
 ·simp at a;rw[if_neg a]
 ·simp at a;rw[if_pos a,if_pos b]
 ·simp at a;rw[if_pos a,if_neg (by simp[b]),if_pos c]
 ·simp at a;rw[if_pos a,if_neg (by simp[b]),if_neg (by simp[c])]
def Zns(d:DiD)(h:d.ok)(s:BA):Ct prog 92 {} [d.sv,SL 1 [[S s]]] (λr=>r=[I (d.er s s)]):=by
 have:=dready_fn d h [s] (by simp)
 have e:(if d.P then(if d.dn=true then(16:Int)else if[s].any (λs=>!fnB s)=true then 1 else 0)else 1)=d.er s s:=by
  unfold DiD.er
  cases h1:fnB s<;>simp[h1]
 rw[e]at this;exact this
def Zyw(f:FiD)(s:BA):Ct prog 160 {} [.agg f.row,.ref 0 [S s]] (λr=>r=[B (decide (f.nm=s))]):=
 Zyf (by rw[seq_d])
def isFil_row(f:FiD):isFil f.row:=⟨_,_,_,rfl⟩
def rnm(r:List SV):BA:=match r with| .val (.string s)::_=>s|_=>ByteArray.empty
def rnm_row(f:FiD):rnm f.row=f.nm:=rfl
def Zez(d:DiD)(b:d.fs.length≤1000000)(s:BA):Ct prog 93 {} [d.sv,S s] (λr=>r=[I (fAt FiD.nm d.fs s)]):=by
 refine dplace_nf (Cl.ofQ (findex_fn (fR d.fs) 160 [.ref 0 [S s]] (λr=>decide (rnm r=s)) (by simpa using b) (λr c=>?_)) ?_)
 ·obtain⟨f,_,rfl⟩:=Y3.1 c;exact⟨isFil_row f,Zyw f s⟩
 ·rintro _ ⟨x,rfl,hx⟩;refine⟨x,rfl,?_⟩
  have:x=fAt FiD.nm d.fs s:=by
   rcases hx with⟨rfl,h⟩|⟨h0,h1,h2,h3⟩
   ·refine(Zgx.2 λf g=>?_).symm;have:=h f.row (Yg g);exact of_decide_eq_false (this:decide (f.nm=s)=false)
   ·obtain⟨i,rfl⟩:∃i:Nat,x=i:=⟨x.toNat,by omega⟩
    have a:i<d.fs.length:=(by simpa using h1);rw[Zaj _ _ _ a,rnm_row]at h3
    have e:fnd FiD.nm d.fs s=some i:=Zpw.2 ⟨a,by simpa using h3,λj l=>by
     have k:j<d.fs.length:=by omega
     have:=h2 d.fs[j].row (by
      rw[←List.map_take]
      exact Yg (List.mem_take_iff_getElem.2 ⟨j,by simp;omega,rfl⟩))
     exact of_decide_eq_false (this:decide (d.fs[j].nm=s)=false)⟩
    simp[fAt,e]
  rw[this]
def dsplit_fn(s:BA)(l:List UInt8)(n:Nat)(h:n≤l.length):Ct prog 49 {} [S s,SL 1 (uR l),I n] (λr=>r=[.agg (FiD.row ⟨s,l.take n,l.drop n⟩)]):=by
 refine dsplit_nf ⟨⟨by omega,by omega,rfl,by simpa using h⟩,⟨by omega,by simpa using h,rfl,Int.le_refl _⟩,?_⟩;rw[Zhu,Zhu];simp[FiD.row]
def Zlz(s:BA)(a b:List UInt8):Ct prog 49 {} [S s,SL 1 (uR (a++b)),I (a.length:Nat)] (λr=>r=[.agg (FiD.row ⟨s,a,b⟩)]):=by
 have:=dsplit_fn s (a++b) a.length (by simp);rw[List.take_left,Wa]at this;exact this
def Znt(s:BA)(a:List UInt8):Ct prog 49 {} [S s,SL 1 (uR a),I (a.length:Nat)] (λr=>r=[.agg (FiD.row ⟨s,a,[]⟩)]):=by
 have:=Zlz s a [];rw[List.append_nil]at this;exact this
def Zic(l:List FiD)(h:l.length≤2147483648):Ct prog 47 ⟨[],[.own]⟩ [SL 3 (fR l)] (λr=>r=[SL 3 (fR l)]):=by
 refine fclone_nf (λb c=>Zaa (λe=>?_) (λe=>⟨by simp;omega,by simp[rapp]⟩));have:=c e;have:l=[]:=(by have a:(fR l).length=0:=(by simp only[rlen_eq]at this;omega);rw[List.length_map]at a;exact Y9 a);rw[this];rfl
def Zdz(d:DiD)(i:d.fs.length≤1000000)(j: -1≤d.st)(hst:d.st≤9223372036854775807)(f:FuncId)(c:List SV)(a:List FiD)(g:d.st≠0→Ct prog f OO (SL 3 (fR d.fs)::c) (λr=>r=[SL 3 (fR a)])):
  Ct prog 95 {} [d.sv,.clo f c] (λr=>r=[(d.perf a).1.sv,I (d.perf a).2]):=by
 refine Zsu (Zaa (λh=>?_) (λh=>?_))
 ·simp at h;unfold DiD.perf;rw[if_pos h]
 ·simp at h;have e:d.perf a=({d.tick with fs:=a},0):=by unfold DiD.perf;rw[if_neg h]
  rw[e];refine Zaa (λb=>Cl.of (Zic d.fs (by omega)) ⟨_,rfl,Cl.of (g h) ⟨_,rfl,?_⟩⟩) (λb=>Cl.of (Zic d.fs (by omega)) ⟨_,rfl,Cl.of (g h) ⟨_,rfl,?_⟩⟩)
  ·simp at b;have:wsub .i64 d.st 1=d.st-1:=Zat;rw[this];simp[DiD.tick,b,DiD.sv]
  ·simp at b;have:¬0<d.st:=(by omega);simp[DiD.tick,this,DiD.sv]
def cnan_fn(s:BA):Ct prog 190 {} [S s] (λr=>r=[B false]):=by
 refine cnan_nf ?_;simp
def Zta(s t:BA):Ct prog 134 {} [S s,S t] (λr=>r=[I (if nlt s t then-1 else if nlt t s then 1 else 0)]):=by
 refine Zsv (Cl.of (cnan_fn s) ⟨_,rfl,Cl.of (cnan_fn t) ⟨_,rfl,?_⟩⟩);show ifB (slt s t) _ _;rw[slt_d,sgt_d];exact ifB_d (λh=>by rw[if_pos h]) (λh=>ifB_d (λk=>by rw[if_neg h,if_pos k]) (λk=>by rw[if_neg h,if_neg k]))
def Zv2(f:FiD)(s:BA):Ct prog 310 {} [.agg f.row,S s] (λr=>r=[I (if nlt f.nm s then-1 else if nlt s f.nm then 1 else 0)]):=
 dins1_nf (Cl.of (Zta _ _) ⟨_,rfl,rfl⟩)
def half(h:n+m≤9223372036854775807):wcv .i64 (wshr .u64 (wcv .u64 (wadd .i64 (n:Int) (m:Int))) 1)=(((n+m)/2:Nat):Int):=by
 rw[Zqv _ _ h];have e1:wcv .u64 ((n+m:Nat):Int)=((n+m:Nat):Int):=(by simp only[wcv,IntKind.wrap,IntKind.signed,IntKind.bits];simp;omega);rw[e1];have e2:wshr .u64 ((n+m:Nat):Int) 1=(((n+m)/2:Nat):Int):=(by simp only[wshr,IntKind.bits];simp;rw[Int.fdiv_eq_ediv_of_nonneg _ (by omega)]);rw[e2];unfold wcv;exact Zbe (by omega) (by omega)
def Zyt(l:List FiD)(g:srt FiD.nm l)(m:l.length≤1000000)(s:BA):Ct prog 309 {} [SL 3 (fR l),S s,.clo 310 []] (λr=>∃b:Bool,r=[I ((ahd FiD.nm l s).length:Nat),B b]):=by
 refine Zyk ⟨λx y=>∃i j:Nat,x=i∧y=j∧i≤(ahd FiD.nm l s).length∧(ahd FiD.nm l s).length≤j∧j≤l.length,λx y=>y.toNat-x.toNat,⟨0,l.length,rfl,by simp,by omega,Zp0,by omega⟩,?_⟩;rintro _ _ ⟨i,j,rfl,rfl,h1,h2,h3⟩;refine Zaa (λh=>?_) (λh=>?_)
 ·simp at h;rw[half (by omega)];have f:(i+j)/2<l.length:=(by omega);refine⟨by omega,⟨by omega,by simp;omega⟩,_,_,_,Zaj _ _ _ f,Cl.of (Zv2 _ s) ⟨_,rfl,Zaa (λa=>⟨rfl,?_,?_⟩) (λa=>⟨rfl,⟨i,(i+j)/2,rfl,rfl,h1,?_,by omega⟩,stepL (by simp;omega)⟩)⟩⟩
  ·rw[waddN _];refine⟨(i+j)/2+1,j,rfl,rfl,?_,h2,h3⟩
   have:nlt l[(i+j)/2].nm s:=by
    refine YI λc=>?_;rw[if_neg c]at a
    split at a<;>simp at a
   have:=(Zpz (s:=s) g f).2 this;omega
  ·rw[waddN _];exact stepL (by simp;omega)
  ·have c:¬nlt l[(i+j)/2].nm s:=λc=>by rw[if_pos c]at a;simp at a
   have:¬((i+j)/2<(ahd FiD.nm l s).length):=λk=>c ((Zpz (s:=s) g f).1 k);omega
 ·simp at h;have e:i=(ahd FiD.nm l s).length:=(by omega);refine Zaa (λa=>?_) (λa=>⟨_,by rw[←e]⟩);have a:i<l.length:=(by simpa using a);exact⟨⟨by omega,by simpa using a⟩,_,_,_,Zaj _ _ _ a,Cl.of (Zv2 _ s) ⟨_,rfl,_,by rw[←e]⟩⟩
def Zyu(l:List FiD)(c:srt FiD.nm l)(a:l.length≤1000000)(f:FiD):Ct prog 245 OO [SL 3 (fR l),.agg f.row] (λr=>r=[SL 3 (fR (insB FiD.nm l f))]):=by
 refine Zyj (Cl.ofQ (Zyt l c a f.nm) ?_);rintro _ ⟨b,rfl⟩;refine⟨_,_,rfl,Cl.of (Zy5 (fR l) (ahd FiD.nm l f.nm).length f.row (by simpa using Zp0) (by simpa using a) ovl_file) ⟨_,rfl,?_⟩⟩;rw[insB_at];simp[List.map_take,List.map_drop]
section
variable{d:DiD}(hp:d.P)
include hp
def flen(a:n<d.fs.length):d.fs[n].len≤65536:=by
 have:=Zik (List.getElem_mem a);have:=hp.2.1;have:=hp.1.2.2.1;omega
def set_eq(a:n<d.fs.length)(f:FiD)(e:f.nm=d.fs[n].nm):rset (fR d.fs) (n:Nat) f.row=fR (withB FiD.nm d.fs f):=by
 rw[Zop,Zgj hp.2.2.2 a e]
def dapp1_fn(a:n<d.fs.length)(x:List UInt8)(e:x.length≤65536):
  Ct prog 246 OO [SL 3 (fR d.fs),.ref 0 [I (n:Nat)],.ref 0 [S d.fs[n].nm],.ref 0 [SL 1 (uR x)]] (λr=>r=[SL 3 (fR (withB FiD.nm d.fs ⟨d.fs[n].nm,d.fs[n].su,d.fs[n].lo++x⟩))]):=by
 have b:(0:Int)≤(n:Nat)∧((n:Nat):Int)<rlen (fR d.fs):=⟨by omega,by simpa using a⟩
 have c:=flen hp a;refine dapp1_nf ⟨b,b,_,_,_,Zaj _ _ _ a,Cl.of (concat3 _ _ x (by unfold FiD.len at c;omega)) ⟨_,rfl,?_⟩⟩;rw[List.append_assoc,rlen_eq,Zjv];refine Cl.of (Zlz _ _ _) ⟨_,_,_,rfl,b,b,?_⟩;exact congrArg (λz=>[SL 3 z]) (set_eq hp a _ rfl)
def dsyn1_fn(a:n<d.fs.length):
  Ct prog 221 OO [SL 3 (fR d.fs),.ref 0 [I (n:Nat)],.ref 0 [S d.fs[n].nm]] (λr=>r=[SL 3 (fR (withB FiD.nm d.fs ⟨d.fs[n].nm,d.fs[n].su++d.fs[n].lo,[]⟩))]):=by
 have b:(0:Int)≤(n:Nat)∧((n:Nat):Int)<rlen (fR d.fs):=⟨by omega,by simpa using a⟩
 have c:=flen hp a;refine dsyn1_nf ⟨b,b,_,_,_,Zaj _ _ _ a,Cl.of (Zpu _ _ (by unfold FiD.len at c;omega)) ⟨_,rfl,Cl.of (Zpv _ (by omega)) ⟨_,rfl,?_⟩⟩⟩;have:=Znt d.fs[n].nm (d.fs[n].su++d.fs[n].lo);rw[show(d.fs[n].su++d.fs[n].lo).length=d.fs[n].len by simp[FiD.len]]at this;refine Cl.of this ⟨_,_,_,rfl,b,b,?_⟩;exact congrArg (λz=>[SL 3 z]) (set_eq hp a _ rfl)
def drem1_fn(a:n<d.fs.length):Ct prog 176 OO [SL 3 (fR d.fs),.ref 0 [I (n:Nat)]] (λr=>r=[SL 3 (fR (wout FiD.nm d.fs d.fs[n].nm))]):=by
 have b:=hp.1.1;refine drem1_nf ?_;rw[waddN _];refine Cl.of (Zyr (fR d.fs) n (n+1) (by omega) (by simp;omega)) ⟨_,rfl,?_⟩;rw[Zjl hp.2.2.2 a];simp[List.map_take,List.map_drop]
def dcre1_fn(s:BA)(a:∀f∈d.fs,f.nm≠s):Ct prog 244 OO [SL 3 (fR d.fs),.ref 0 [S s]] (λr=>r=[SL 3 (fR (withB FiD.nm d.fs ⟨s,[],[]⟩))]):=by
 have b:=hp.1.1;refine dcre1_nf (Cl.of (Zyu d.fs hp.2.2.2 (by omega) ⟨s,[],[]⟩) ⟨_,rfl,?_⟩);rw[Zd4 a]
def dcut1_fn(a:n<d.fs.length)(i:Nat)(e:i≤d.fs[n].len):
  Ct prog 96 OO [SL 3 (fR d.fs),.ref 0 [I (n:Nat)],.ref 0 [S d.fs[n].nm],.ref 0 [I (i:Nat)]] (λr=>r=[SL 3 (fR (withB FiD.nm d.fs ⟨d.fs[n].nm,d.fs[n].su.take i,d.fs[n].lo.take (i-d.fs[n].su.length)⟩))]):=by
 have b:(0:Int)≤(n:Nat)∧((n:Nat):Int)<rlen (fR d.fs):=⟨by omega,by simpa using a⟩
 have c:=flen hp a;refine dcut1_nf ⟨b,b,_,_,_,Zaj _ _ _ a,Cl.of (Zpu _ _ (by unfold FiD.len at c;omega)) ⟨_,rfl,⟨by omega,by omega,by simp[FiD.len]at e⊢;omega⟩,?_⟩⟩;rw[Zhu];have e1:List.drop (Int.toNat 0) (List.take ((i:Int)).toNat (d.fs[n].su++d.fs[n].lo))=d.fs[n].su.take i++d.fs[n].lo.take (i-d.fs[n].su.length):=(by simp[List.take_append]);have e2:imin (i:Int) (rlen (uR d.fs[n].su))=((d.fs[n].su.take i).length:Nat):=(by rw[imin_eq,rlen_eq,Zjv,List.length_take];omega);rw[e1,e2];refine Cl.of (Zlz _ _ _) ⟨_,_,_,rfl,b,b,?_⟩;exact congrArg (λz=>[SL 3 z]) (set_eq hp a _ rfl)
end
section
variable(d:DiD)(h:d.ok)
include h
def Zvg(s:BA):Ct prog 32 {} [d.sv,S s] (λr=>r=[SL 1 (uR (Zij d s).1),I (Zij d s).2]):=by
 refine dread_nf (Cl.of (Zns d h s) ⟨_,rfl,Zaa (λa=>?_) (λa=>?_)⟩)
 ·simp at a;simp[Zij,a]
 ·simp at a;have b:=(Zc0.1 a).1;have g:=b.1.1;refine Cl.of (Zez d (by omega) s) ⟨_,rfl,?_⟩
  rcases d.get_cases s with⟨e1,e2,f⟩|⟨i,hi,e2,e1,f⟩
  ·rw[e2];refine Zaa (λ_=>by simp[Zij,a,e1]) (λk=>by simp at k)
  ·rw[e2]
   have c:(0:Int)≤(i:Nat)∧((i:Nat):Int)<rlen (fR d.fs):=⟨by omega,by simpa using hi⟩
   have e:=flen b hi;refine Zaa (λk=>by simp at k) (λ_=>⟨c,_,_,_,Zaj _ _ _ hi,c,_,_,_,Zaj _ _ _ hi,Cl.of (Zpu _ _ (by unfold FiD.len at e;omega)) ⟨_,rfl,by simp[Zij,a,e1]⟩⟩)
def Zyb(s:BA):Ct prog 168 {} [d.sv,S s] (λr=>r=[(Zbi d s).1.sv,I (Zbi d s).2]):=by
 refine Zyg (Cl.of (Zns d h s) ⟨_,rfl,Zaa (λa=>?_) (λa=>?_)⟩)
 ·simp at a;simp[Zbi,a]
 ·simp at a;have b:=(Zc0.1 a).1;have f:=b.1.1;refine Cl.of (Zez d (by omega) s) ⟨_,rfl,?_⟩
  rcases d.get_cases s with⟨e1,e2,c⟩|⟨i,hi,e2,e1,c⟩
  ·rw[e2];refine Zaa (λk=>by simp at k) (λ_=>Zaa (λk=>?_) (λk=>?_))
   ·have k:d.fs.length=64:=(by simp at k;omega);simp[Zbi,a,e1,k]
   ·have k:¬d.fs.length=64:=λe=>by simp[e]at k
    refine Cl.of (Zdz d (by omega) b.1.2.2.2 h.2.2 244 _ _ (λ_=>dcre1_fn b s c)) ⟨_,_,_,_,_,rfl,?_⟩;simp[Zbi,a,e1,k]
  ·rw[e2];refine Zaa (λ_=>by simp[Zbi,a,e1]) (λk=>by simp at k)
def Zyc(s:BA)(x:List UInt8)(l:x.length≤9223372036854775807):Ct prog 169 {} [d.sv,S s,SL 1 (uR x)] (λr=>r=[(Zav d s x).1.sv,I (Zav d s x).2]):=by
 refine Zyh (Cl.of (Zns d h s) ⟨_,rfl,Zaa (λa=>?_) (λa=>?_)⟩)
 ·simp at a;simp[Zav,a]
 ·simp at a;have b:=(Zc0.1 a).1;have m:=b.1.1;refine Cl.of (Zez d (by omega) s) ⟨_,rfl,?_⟩
  rcases d.get_cases s with⟨e1,e2,c⟩|⟨i,hi,e2,e1,c⟩
  ·rw[e2];refine Zaa (λ_=>by simp[Zav,a,e1]) (λk=>by simp at k)
  ·rw[e2];refine Zaa (λk=>by simp at k) (λ_=>Cl.of (Zku d h) ⟨_,rfl,?_⟩);have n:=b.2.1;have j:=b.1.2.2.1;have g:=b.1.2.1;rw[Zat,rlen_eq,Zjv];refine Zaa (λk=>?_) (λk=>?_)
   ·simp at k;simp[Zav,a,e1,k]
   ·simp at k;have e:¬d.rm-usedL d.fs<x.length:=(by omega);subst c;have f:=dapp1_fn b hi x (by omega);refine Cl.of (Zdz d (by omega) b.1.2.2.2 h.2.2 246 _ _ (λ_=>f)) ⟨_,_,_,_,_,rfl,?_⟩;by_cases hz:d.st=0
    ·have:d.perf (withB FiD.nm d.fs ⟨d.fs[i].nm,d.fs[i].su,d.fs[i].lo++x⟩)=({d with dn:=true},16):=(by unfold DiD.perf;rw[if_pos hz]);rw[this];refine Zaa (λ_=>Cl.of (Zic d.fs (by omega)) ⟨_,rfl,Cl.of f ⟨_,rfl,?_⟩⟩) (λk=>by simp at k);simp[Zav,a,e1,e,hz]
    ·have:d.perf (withB FiD.nm d.fs ⟨d.fs[i].nm,d.fs[i].su,d.fs[i].lo++x⟩)=({d.tick with fs:=withB FiD.nm d.fs ⟨d.fs[i].nm,d.fs[i].su,d.fs[i].lo++x⟩},0):=(by unfold DiD.perf;rw[if_neg hz]);rw[this];refine Zaa (λk=>by simp at k) (λ_=>?_);simp[Zav,a,e1,e,hz]
def dsync_fn(s:BA):Ct prog 151 {} [d.sv,S s] (λr=>r=[(Za0 d s).1.sv,I (Za0 d s).2]):=by
 refine dsync_nf (Cl.of (Zns d h s) ⟨_,rfl,Zaa (λa=>?_) (λa=>?_)⟩)
 ·simp at a;simp[Za0,a]
 ·simp at a;have b:=(Zc0.1 a).1;have e:=b.1.1;refine Cl.of (Zez d (by omega) s) ⟨_,rfl,?_⟩
  rcases d.get_cases s with⟨e1,e2,c⟩|⟨i,hi,e2,e1,c⟩
  ·rw[e2];refine Zaa (λ_=>by simp[Za0,a,e1]) (λk=>by simp at k)
  ·rw[e2];subst c;refine Zaa (λk=>by simp at k) (λ_=>Cl.of (Zdz d (by omega) b.1.2.2.2 h.2.2 221 _ _ (λ_=>dsyn1_fn b hi)) ⟨_,_,_,_,_,rfl,?_⟩);simp[Za0,a,e1]
def dcut_fn(s:BA)(n:Int):Ct prog 33 {} [d.sv,S s,I n] (λr=>r=[(opCut d s n).1.sv,I (opCut d s n).2]):=by
 refine dcut_nf (Cl.of (Zns d h s) ⟨_,rfl,Zaa (λa=>?_) (λa=>?_)⟩)
 ·simp at a;simp[opCut,a]
 ·simp at a;have c:=(Zc0.1 a).1;have l:=c.1.1;refine Cl.of (Zez d (by omega) s) ⟨_,rfl,?_⟩
  rcases d.get_cases s with⟨e1,e2,e⟩|⟨i,hi,e2,e1,e⟩
  ·rw[e2];refine Zaa (λ_=>by simp[opCut,a,e1]) (λk=>by simp at k)
  ·rw[e2];subst e
   have f:(0:Int)≤(i:Nat)∧((i:Nat):Int)<rlen (fR d.fs):=⟨by omega,by simpa using hi⟩
   have j:=flen c hi;refine Zaa (λk=>by simp at k) (λ_=>Zaa (λk=>?_) (λk=>⟨f,_,_,_,Zaj _ _ _ hi,Cl.of (Zpv _ (by omega)) ⟨_,rfl,Zaa (λb=>?_) (λb=>?_)⟩⟩))
   ·simp at k;refine Zaa (λ_=>by simp[opCut,a,e1,k]) (λb=>by simp at b)
   ·simp at b;simp[opCut,a,e1,b]
   ·simp at k b
    obtain⟨m,rfl⟩:∃m:Nat,n=m:=⟨n.toNat,by omega⟩
    have g:¬((m:Int)<0∨(d.fs[i].len:Int)<m):=(by omega);refine Cl.of (Zdz d (by omega) c.1.2.2.2 h.2.2 96 _ _ (λ_=>dcut1_fn c hi m (by omega))) ⟨_,_,_,_,_,rfl,?_⟩;simp only[opCut,a,e1,ne_eq,not_true,if_false,g,Int.toNat_natCast]
def Zyd(s:BA):Ct prog 106 {} [d.sv,S s] (λr=>r=[(Zbb d s).1.sv,I (Zbb d s).2]):=by
 refine Zyi (Cl.of (Zns d h s) ⟨_,rfl,Zaa (λa=>?_) (λa=>?_)⟩)
 ·simp at a;simp[Zbb,a]
 ·simp at a;have b:=(Zc0.1 a).1;have e:=b.1.1;refine Cl.of (Zez d (by omega) s) ⟨_,rfl,?_⟩
  rcases d.get_cases s with⟨e1,e2,c⟩|⟨i,hi,e2,e1,c⟩
  ·rw[e2];refine Zaa (λ_=>by simp[Zbb,a,e1]) (λk=>by simp at k)
  ·rw[e2];subst c;refine Zaa (λk=>by simp at k) (λ_=>Cl.of (Zdz d (by omega) b.1.2.2.2 h.2.2 176 _ _ (λ_=>drem1_fn b hi)) ⟨_,_,_,_,_,rfl,?_⟩);simp[Zbb,a,e1]
def dwake_fn(a:List Int)(n:Int)(L:a.length≤1099511627776):Ct prog 12 {} [d.sv,SL 1 (a.map λk=>[I k]),I n] (λr=>r=[(Zcc d a n).1.sv,I (Zcc d a n).2]):=by
 refine dwake_nf (Cl.of (Ze4 d h) ⟨_,rfl,Zaa (λf=>?_) (λf=>?_)⟩)
 ·have:¬d.P∨n< -1:=(by simp at f;exact f);simp only[Zcc,if_pos this]
 ·have y:¬(¬d.P∨n< -1):=(by simp at f⊢;exact⟨f.1,by omega⟩);have z:d.P:=YI λk=>y (.inl k);have M:=z.1.1;refine Cl.of (Zic d.fs (by omega)) ⟨_,rfl,λx l=>∃i:Nat,x=i∧i≤d.fs.length∧l=fR ((wakeL a d.fs).take i++d.fs.drop i),λx _=>d.fs.length-x.toNat,⟨0,rfl,by omega,by simp⟩,?_⟩;rintro _ _ ⟨i,rfl,hi,rfl⟩;have A:((wakeL a d.fs).take i++d.fs.drop i).length=d.fs.length:=(by simp[Zb1];omega);refine Zaa (λb=>?_) (λb=>?_)
  ·have b:i<d.fs.length:=by simpa using b
   have j:(0:Int)≤(i:Nat)∧((i:Nat):Int)<rlen (fR ((wakeL a d.fs).take i++d.fs.drop i)):=⟨by omega,by rw[rlen_eq,List.length_map,A];omega⟩
   have G:rget (fR ((wakeL a d.fs).take i++d.fs.drop i)) (i:Nat)=d.fs[i].row:=(by rw[Zaj _ _ _ (by omega)];congr 1;rw[W4 (by simp[Zb1];omega)];simp[Zb1,Wp hi]);have C:=flen z b
   have D:∀m:Nat,m=more a i d.fs[i].lo.length→rset (fR ((wakeL a d.fs).take i++d.fs.drop i)) (i:Nat) (FiD.row ⟨d.fs[i].nm,d.fs[i].su++d.fs[i].lo.take m,[]⟩)=fR ((wakeL a d.fs).take (i+1)++d.fs.drop (i+1)):=λm g=>by
    rw[Zop];congr 1;have H:i<(wakeL a d.fs).length:=by rw[Zb1];exact b
    rw[List.set_append_right _ _ (by simp[Zb1];omega),Zva _ _ H,Zin];simp only[List.length_take,Zb1,Wp hi,Nat.sub_self];rw[List.drop_eq_getElem_cons b,List.set_cons_zero,List.append_assoc];rw[g];rfl
   have done:∀m:Nat,m=more a i d.fs[i].lo.length→m≤d.fs[i].lo.length→
     Cl prog 48 sO [SL 1 [[SL 1 (uR d.fs[i].su)],[SV.slice 1 (rsub (uR d.fs[i].lo) 0 (m:Nat)) 0]]] (λs=>∃q,s=[SL 1 q]∧Cl prog 49 sP [S d.fs[i].nm,SL 1 q,I (rlen q)] (λt=>∃u v w,t=[SV.agg [S u,SL 1 v,SL 1 w]]∧
      ((0:Int)≤(i:Nat)∧((i:Nat):Int)<rlen (fR ((wakeL a d.fs).take i++d.fs.drop i)))∧((0:Int)≤(i:Nat)∧((i:Nat):Int)<rlen (fR ((wakeL a d.fs).take i++d.fs.drop i)))∧
      (some [[SV.slice 3 [] 1,I 0,I 0,B false],[SL 3 (fR d.fs),I d.rm,I d.st,B d.dn]]=some [[SV.slice 3 [] 1,I 0,I 0,B false],[SL 3 (fR d.fs),I d.rm,I d.st,B d.dn]])∧
      (∃k:Nat,wadd .i64 ((i:Nat):Int) 1=k∧k≤d.fs.length∧rset (fR ((wakeL a d.fs).take i++d.fs.drop i)) (i:Nat) [S u,SL 1 v,SL 1 w]=fR ((wakeL a d.fs).take k++d.fs.drop k))∧
      Nl (d.fs.length-(wadd .i64 ((i:Nat):Int) 1).toNat) (d.fs.length-((i:Nat):Int).toNat))):=λm g K=>by
    rw[Zhu,show List.drop (Int.toNat 0) (List.take ((m:Nat):Int).toNat d.fs[i].lo)=d.fs[i].lo.take m by simp];refine Cl.of (Zpu _ _ (by unfold FiD.len at C;simp;omega)) ⟨_,rfl,?_⟩;rw[rlen_eq,Zjv];refine Cl.of (Znt _ _) ⟨_,_,_,rfl,j,j,rfl,⟨i+1,waddN _,by omega,D m g⟩,?_⟩;rw[waddN _];exact stepL (by simp;omega)
   refine⟨j,j,_,_,_,G,Zaa (λc=>?_) (λc=>?_)⟩
   ·have c:0<a.length:=(by simpa using c);have o:a≠[]:=λe=>by rw[e]at c;simp at c
    have g:wrem ((i:Nat):Int) (rlen (a.map λk=>[I k]))=((i%a.length:Nat):Int):=(by unfold wrem;rw[rlen_eq,List.length_map];rw[Int.tmod_eq_emod_of_nonneg (by omega)];simp);have p:i%a.length<a.length:=Nat.mod_lt _ c;rw[g];have E:imax 0 (imin a[i%a.length] (rlen (uR d.fs[i].lo)))=((more a i d.fs[i].lo.length:Nat):Int):=(by simp only[imax_eq,imin_eq,rlen_eq,Zjv,more,if_neg o,List.getD_eq_getElem?_getD,List.getElem?_eq_getElem p,Option.getD_some];omega);have F:more a i d.fs[i].lo.length≤d.fs[i].lo.length:=by unfold more;split<;>omega
    refine⟨λe=>by simp at e;exact o e,⟨by omega,by simp;omega⟩,a[i%a.length],Zaj _ _ _ p,?_⟩;rw[E];exact⟨⟨by omega,by omega,by simp;omega⟩,done _ rfl F⟩
   ·have c:¬0<a.length:=(by simpa using c);have J:a=[]:=Y9 (by omega);exact⟨⟨by omega,by omega,by simp⟩,done 0 (by simp[more,J]) (by omega)⟩
  ·have b:¬i<d.fs.length:=(by simpa using b);have:i=d.fs.length:=(by omega);subst this;have e:(wakeL a d.fs).take d.fs.length++d.fs.drop d.fs.length=wakeL a d.fs:=(by rw[List.drop_length,List.append_nil,List.take_of_length_le (by rw[Zb1];exact Nat.le_refl _)]);rw[e];simp only[Zcc,if_neg y]
end
section
variable(d:DiD)(h:d.ok)
include h
end
def sne_u(a b:List UInt8):sne (bstr (uR a)) (bstr (uR b))=!decide (a=b):=by
 rw[sne_d];congr 1;rw[decide_eq_decide];exact bstr_inj
def qsame_fn(d e:DiD)(C:d.fs.length≤9223372036854775806):Ct prog 14 {} [d.sv,e.sv] (λr=>r=[B (decide (d=e))]):=by
 have no:¬d=e→[B false]=[B (decide (d=e))]:=λh=>by simp[h]
 refine qsame_nf _ _ _ _ _ _ _ _ _ (Zaa (λf=>no (λq=>?_)) (λf=>?_))
 ·subst q;simp at f
 ·simp at f;obtain⟨⟨⟨o,x⟩,hst⟩,A⟩:=f;have o:d.fs.length=e.fs.length:=(by omega);refine⟨λ_ y=>∃i:Nat,y=i∧i≤d.fs.length∧∀j:Nat,∀c:j<d.fs.length,j<i→d.fs[j]=e.fs[j]'(by omega),λ_ y=>d.fs.length-y.toNat,⟨0,rfl,by omega,λj _ c=>by omega⟩,?_⟩;rintro _ _ ⟨i,rfl,hi,hall⟩;refine Zaa (λk=>?_) (λk=>?_)
  ·have k:i<d.fs.length:=(by simpa using k);have t:i<e.fs.length:=(by omega);rw[waddN _]
   have u:d.fs[i]=e.fs[i]→∃m:Nat,((i+1:Nat):Int)=m∧m≤d.fs.length∧∀j:Nat,∀c:j<d.fs.length,j<m→d.fs[j]=e.fs[j]'(by omega):=λq=>
    ⟨i+1,rfl,by omega,λj c w=>by
     by_cases z:j=i
     ·subst z;exact q
     ·exact hall j c (by omega)⟩
   have ne:∀{p:Prop},¬d.fs[i]=e.fs[i]→[B false]=[B (decide (d=e))]:=λq=>no (λz=>q (by subst z;rfl));refine⟨⟨by omega,by simpa using k⟩,_,_,_,Zaj _ _ _ k,⟨by omega,by simpa using t⟩,_,_,_,Zaj _ _ _ t,?_⟩
   have s:ifB (sne d.fs[i].nm e.fs[i].nm) (ifB (bpick true true true) (ifB (bpick true true true) ([B false]=[B (decide (d=e))]) ((some [[SL 3 (fR e.fs),I e.rm,I e.st,B e.dn],[SL 3 (fR d.fs),I d.rm,I d.st,B d.dn]]=some [[SL 3 (fR e.fs),I e.rm,I e.st,B e.dn],[SL 3 (fR d.fs),I d.rm,I d.st,B d.dn]])∧(∃m:Nat,((i+1:Nat):Int)=m∧m≤d.fs.length∧∀j:Nat,∀c:j<d.fs.length,j<m→d.fs[j]=e.fs[j]'(by omega))∧Nl (d.fs.length-((i+1:Nat):Int).toNat) (d.fs.length-((i:Nat):Int).toNat))) (Zaq (uR d.fs[i].lo)∧Zaq (uR e.fs[i].lo)∧ifB (bpick false true (sne (bstr (uR d.fs[i].lo)) (bstr (uR e.fs[i].lo)))) ([B false]=[B (decide (d=e))]) ((some [[SL 3 (fR e.fs),I e.rm,I e.st,B e.dn],[SL 3 (fR d.fs),I d.rm,I d.st,B d.dn]]=some [[SL 3 (fR e.fs),I e.rm,I e.st,B e.dn],[SL 3 (fR d.fs),I d.rm,I d.st,B d.dn]])∧(∃m:Nat,((i+1:Nat):Int)=m∧m≤d.fs.length∧∀j:Nat,∀c:j<d.fs.length,j<m→d.fs[j]=e.fs[j]'(by omega))∧Nl (d.fs.length-((i+1:Nat):Int).toNat) (d.fs.length-((i:Nat):Int).toNat))))
     (Zaq (uR d.fs[i].su)∧Zaq (uR e.fs[i].su)∧ifB (bpick false true (sne (bstr (uR d.fs[i].su)) (bstr (uR e.fs[i].su)))) (ifB (bpick true true true) ([B false]=[B (decide (d=e))]) ((some [[SL 3 (fR e.fs),I e.rm,I e.st,B e.dn],[SL 3 (fR d.fs),I d.rm,I d.st,B d.dn]]=some [[SL 3 (fR e.fs),I e.rm,I e.st,B e.dn],[SL 3 (fR d.fs),I d.rm,I d.st,B d.dn]])∧(∃m:Nat,((i+1:Nat):Int)=m∧m≤d.fs.length∧∀j:Nat,∀c:j<d.fs.length,j<m→d.fs[j]=e.fs[j]'(by omega))∧Nl (d.fs.length-((i+1:Nat):Int).toNat) (d.fs.length-((i:Nat):Int).toNat))) (Zaq (uR d.fs[i].lo)∧Zaq (uR e.fs[i].lo)∧ifB (bpick false true (sne (bstr (uR d.fs[i].lo)) (bstr (uR e.fs[i].lo)))) ([B false]=[B (decide (d=e))]) ((some [[SL 3 (fR e.fs),I e.rm,I e.st,B e.dn],[SL 3 (fR d.fs),I d.rm,I d.st,B d.dn]]=some [[SL 3 (fR e.fs),I e.rm,I e.st,B e.dn],[SL 3 (fR d.fs),I d.rm,I d.st,B d.dn]])∧(∃m:Nat,((i+1:Nat):Int)=m∧m≤d.fs.length∧∀j:Nat,∀c:j<d.fs.length,j<m→d.fs[j]=e.fs[j]'(by omega))∧Nl (d.fs.length-((i+1:Nat):Int).toNat) (d.fs.length-((i:Nat):Int).toNat)))):=by
    have v:Nl (d.fs.length-((i+1:Nat):Int).toNat) (d.fs.length-((i:Nat):Int).toNat):=stepL (by simp;omega);rw[sne_d,sne_u,sne_u];refine Zaa (λg=>Zaa (λ_=>Zaa (λ_=>ne (p:=True) (λq=>?_)) (λz=>by simp at z)) (λz=>by simp at z)) (λg=>⟨Zhv _,Zhv _,Zaa (λl=>Zaa (λ_=>ne (p:=True) (λq=>?_)) (λz=>by simp at z)) (λl=>⟨Zhv _,Zhv _,Zaa (λn=>ne (p:=True) (λq=>?_)) (λn=>⟨rfl,u ?_,v⟩)⟩)⟩)
    ·simp at g;exact g (by rw[q])
    ·simp at l;exact l (by rw[q])
    ·simp at n;exact n (by rw[q])
    ·simp at g l n;generalize d.fs[i]=a at g l n;generalize e.fs[i]=b at g l n
     cases a;cases b;simp_all
   exact⟨s,s⟩
  ·have k:¬i<d.fs.length:=by simpa using k
   have:d=e:=by
    have E:d.fs=e.fs:=List.ext_getElem o λj f D=>hall j f (by omega)
    cases d;cases e;simp_all
   simp[this]
end Dsk
namespace Snp
open Go Go.Px Go.Proofs  Tryz
abbrev dk4(rows:LL)(b a:Int)(c:Bool):SV:=.agg [SL 3 rows,I b,I a,B c]
abbrev st3(rows:LL)(s a:Int):SV:=.agg [SL 21 rows,I s,I a]
abbrev U32(n:Int):SV:=SV.int .u32 n
abbrev U16(n:Int):SV:=SV.int .u16 n
def SgT:FuncId→Sig:=(λf=>bif Nat.beq f 242 then⟨[],[.own]⟩else bif Nat.beq f 220 then⟨[],[.own]⟩else bif Nat.beq f 307 then⟨[],[.own]⟩else bif Nat.beq f 287 then⟨[],[.own]⟩else{})
def SvT:TypeId→Sig:=(λf=>{})
def nnum_nf(h:Cl prog 178 sP ([S s,S (bA [115,110,97,112,46])]) (λi=>∃c b,(i=[S c,B b])∧ifB (bpick (bnot b) true (ine (slen c) 10)) (Q [I 0,B false]) (∃e:Int→Bool→Int→Int→Prop,∃m:Int→Bool→Int→Int→Nat,(e 0 false 0 0)∧∀x g,∀d a,(e x g d a)→ifB (ilt a (slen c)) (((0≤a)∧a<(slen c))∧ifB (ilt (sbyte c a) 48) (Q [I 0,B false]) (((0≤a)∧a<(slen c))∧ifB (igt (sbyte c a) 57) (Q [I 0,B false]) (((0≤a)∧a<(slen c))∧((Option.some []:Option LL)=Option.some [])∧(e x g (wadd .i64 (wmul .i64 d 10) (wcv .i64 (wsub .u8 (sbyte c a) 48))) (wadd .i64 a 1))∧Nl (m x g (wadd .i64 (wmul .i64 d 10) (wcv .i64 (wsub .u8 (sbyte c a) 48))) (wadd .i64 a 1)) (m x g d a)))) (ifB (igt d 4294967296) (Q [I 0,B false]) (Q [I d,B true]))))):Ct prog 108 {} [S s] Q:=
 fN SgT SvT func108 h
def ndec_nf{rows:LL}(h:Cl prog 243 sP [] (λn=>∃a,(n=[SV.arr .u32 256 a])∧Cl prog 257 sP [SV.arr .u32 256 a,SL 1 rows] (λc=>∃l x,(c=[SL 1 l,I x])∧ifB (ine x 0) (Q ([SV.agg ([SL 21 [],I 0,I 0]),I x])) ((0<(rlen ([[U8 102],[U8 98],[U8 115],[U8 49]])))∧Cl prog 258 sP ([SL 1 l,SL 1 ([[U8 102],[U8 98],[U8 115],[U8 49]])]) (λd=>∃g b,(d=[SL 1 g,B b])∧ifB (bnot b) (Q ([SV.agg ([SL 21 [],I 0,I 0]),I 11])) (Cl prog 259 sP [SL 1 g] (λe=>∃i j,∃k m,(e=[SV.agg [SL 21 i,I j,I k],I m])∧ifB (ine m 0) (Q ([SV.agg ([SL 21 [],I 0,I 0]),I 11])) (Q ([SV.agg [SL 21 i,I j,I k],I 0]))))))))):Ct prog 182 {} [SL 1 rows] Q:=
 fN SgT SvT func182 h
def nnew_nf{rows:LL}(h:Cl prog 46 sP ([SV.agg [SL 3 rows,I i,I j,B o]]) (λC=>∃b,(C=[B b])∧ifB (bnot b) (Q ([SV.agg ([SL 21 [],I 0,I 0]),I 1])) (ifB o (Q ([SV.agg ([SL 21 [],I 0,I 0]),I 16])) (Cl prog 107 sP ([SV.agg [SL 3 rows,I i,I j,B o]]) (λr=>∃l,(r=[SL 1 l])∧∃a:Int→LL→Int→Int→Prop,∃m:Int→LL→Int→Int→Nat,(a 0 [] ((-1:Int)) 0)∧∀x g,∀e d,(a x g e d)→ifB (ilt x (rlen l)) (((0≤x)∧x<(rlen l))∧∃s,(rget l x=[S s])∧Cl prog 108 sP [S s] (λt=>∃c w,(t=[I c,B w])∧ifB (bpick (bnot w) true (ile c e)) ((Sm (some ([[SL 3 rows,I i,I j,B o],[SV.slice 21 [] 1,I 0,I 0]])))∧(a (wadd .i64 x 1) g e d)∧Nl (m (wadd .i64 x 1) g e d) (m x g e d)) (Cl prog 32 sP ([SV.agg [SL 3 rows,I i,I j,B o],S s]) (λu=>∃y z,(u=[SL 1 y,I z])∧ifB (ine z 0) ((Sm (some ([[SL 3 rows,I i,I j,B o],[SV.slice 21 [] 1,I 0,I 0]])))∧(a (wadd .i64 x 1) g e d)∧Nl (m (wadd .i64 x 1) g e d) (m x g e d)) (Cl prog 182 sP [SL 1 y] (λv=>∃p n,∃q A,(v=[SV.agg [SL 21 p,I n,I q],I A])∧ifB (bpick (ieq A 0) (ieq n c) false) ((Sm (some ([[SL 3 rows,I i,I j,B o],[SV.slice 21 [] 1,I 0,I 0]])))∧(a (wadd .i64 x 1) p n q)∧Nl (m (wadd .i64 x 1) p n q) (m x g e d)) ((Sm (some ([[SL 3 rows,I i,I j,B o],[SV.slice 21 [] 1,I 0,I 0]])))∧(a (wadd .i64 x 1) g e d)∧Nl (m (wadd .i64 x 1) g e d) (m x g e d)))))))) (ifB (ilt e 0) (Q ([SV.agg ([SL 21 [],I 0,I 0]),I 14])) (Q ([SV.agg [SL 21 g,I e,I d],I 0])))))))):Ct prog 113 {} [dk4 rows i j o] Q:=
 fO SgT SvT (λk=>bif Nat.beq k 24 then some {slots:=[(23,false,[.int .i64])],boxes:=[(512,[.sl 21,.int .i64,.int .i64])],fixed:=[128,256]}else none) func113 h
def Zu1(h:Cl prog 252 sP [S s,S t] (λc=>∃a b,(c=[S a,B b])∧Q [S a,B b])):Ct prog 178 {} [S s,S t] Q:=
 fN SgT SvT func178 h
def Zqr(s t:BA)(Q:QQ)(h:Cl prog 295 sP [S s,S t] (λa=>∃b,(a=[B b])∧ifB (bnot b) (Q [S s,B false]) (((0≤(slen t))∧((slen t)≤(slen s))∧(slen s)≤(slen s))∧Q [S (ssub s (slen t) (slen s)),B true]))):Ct prog 252 {} [S s,S t] Q:=
 fN SgT SvT func252 h
end Snp
namespace Snp
open Go Go.Px Go.Proofs Cod Seg Sgr Sx Row Tryz
abbrev pre:List UInt8:=[115,110,97,112,46]
def snNm(q:Int):BA:=⟨(pre++dgs 10 q.toNat).toArray⟩
def inQ(q:Int):Prop:=0≤q∧q≤4294967296
instance (q:Int):Decidable (inQ q):=inferInstanceAs (Decidable (_∧_))
def isD(c:UInt8):Prop:=48≤c.toNat∧c.toNat≤57
def vD(l:List UInt8):Nat:=l.foldl (λn c=>10*n+(c.toNat-48)) 0
def Zug(l:List UInt8)(c:UInt8):vD (l++[c])=10*vD l+(c.toNat-48):=by simp[vD]
def Zuh:∀(k n:Nat),∀c∈dgs k n,isD c
 |0,_,c,h=>by cases h
 |k+1,n,c,h=>by
  rw[dgs,List.mem_append]at h
  rcases h with h|h
  ·exact Zuh k _ c h
  ·simp at h;subst h;unfold isD;rw[show(48:UInt8)+UInt8.ofNat (n%10)=UInt8.ofNat (48+n%10) by simp];have:(UInt8.ofNat (48+n%10)).toNat=48+n%10:=by simp[UInt8.toNat_ofNat'];omega
   omega
def Zr3:∀(k n:Nat),n<10^k→vD (dgs k n)=n
 |0,n,h=>by simp at h;subst h;rfl
 |k+1,n,h=>by have e:(UInt8.ofNat (48+n%10)).toNat=48+n%10:=(by simp[UInt8.toNat_ofNat'];omega);rw[dgs,Zug,Zr3 k (n/10) (by rw[Nat.pow_succ]at h;omega),e];omega
def dgs_vDr:∀(r:List UInt8),(∀c∈r,isD c)→dgs r.length (vD r.reverse)=r.reverse∧vD r.reverse<10^r.length
 | [],_=>⟨rfl,by decide⟩
 |c::r,h=>by
  obtain⟨b,e⟩:=dgs_vDr r λx a=>h x (by simp[a]);have d:=h c (by simp);unfold isD at d;rw[List.reverse_cons,Zug,List.length_cons];constructor
  ·rw[dgs,show(10*vD r.reverse+(c.toNat-48))/10=vD r.reverse by omega,b,show(10*vD r.reverse+(c.toNat-48))%10=c.toNat-48 by omega,show 48+(c.toNat-48)=c.toNat by omega,UInt8.ofNat_toNat]
  ·rw[Nat.pow_succ];omega
def dgs_vD(l:List UInt8)(h:∀c∈l,isD c):dgs l.length (vD l)=l∧vD l<10^l.length:=by
 have:=dgs_vDr l.reverse λc a=>h c (by simpa using a)
 simpa using this
def snNm_inj(c:inQ i)(d:inQ b)(h:snNm i=snNm b):i=b:=by
 have e:(pre++dgs 10 i.toNat)=pre++dgs 10 b.toNat:=by
  have:=congrArg (λs:BA=>s.data.toList) h
  simpa[snNm]using this
 have f:=congrArg vD (List.append_cancel_left e);unfold inQ at c d;rw[Zr3 10 _ (by omega),Zr3 10 _ (by omega)]at f;omega
def NumR(s:BA)(n:Int)(b:Bool):Prop:=(∃q,inQ q∧s=snNm q∧n=q∧b=true)∨((∀q,inQ q→s≠snNm q)∧n=0∧b=false)
def NumR.no(h:∀q,inQ q→s≠snNm q):NumR s 0 false:=.inr ⟨h,rfl,rfl⟩
def Ze8(q:Int):(snNm q).data.toList=pre++dgs 10 q.toNat:=by simp[snNm]
def Zxf(c:n+5<s.data.toList.length)(h:¬isD (s.data.toList[n+5])):∀q,inQ q→s≠snNm q:=by
 rintro q d rfl;apply h;have a:=Ze8 q;have b:(snNm q).data.toList.length=15:=by rw[a];simp[Zdu]
 have:(snNm q).data.toList[n+5]=(dgs 10 q.toNat)[n]'(by rw[Zdu];omega):=(by simp only[a];rw[W4 (by simp)];simp);rw[this];exact Zuh _ _ _ (List.getElem_mem _)
structure Dig(s:BA)(i:Nat)(n:Int):Prop where
 len:s.data.toList.length=15
 pre:s.data.toList.take 5=pre
 ds:∀j (h:j<i) (h2:i≤10),isD (s.data.toList[j+5]'(by omega))
 val:n=(vD ((s.data.toList.drop 5).take i):Nat)
def Dig.step(h:Dig s n i)(d:n<10)(a:isD (s.data.toList[n+5]'(by have:=h.len;omega))):Dig s (n+1) (10*i+((s.data.toList[n+5]'(by have:=h.len;omega)).toNat-48)):=by
 have c:=h.len;refine⟨h.len,h.pre,λj f g=>?_,?_⟩
 ·by_cases e:j=n
  ·subst e;exact a
  ·exact h.ds j (by omega) (by omega)
 ·have b:n<(s.data.toList.drop 5).length:=(by simp at c⊢;omega);rw[List.take_succ_eq_append_getElem b,Zug];have k:=h.val;unfold isD at a;have e:(s.data.toList.drop 5)[n]=s.data.toList[n+5]'(by omega):=(by rw[List.getElem_drop];congr 1;omega);rw[e];omega
def vD_lt(l:List UInt8)(h:∀c∈l,isD c):vD l<10^l.length:=(dgs_vD l h).2
def Dig.lt{s:BA}{i:Nat}{n:Int}(h:Dig s i n)(d:i≤10):0≤n∧n<10000000000:=by
 have l:=h.len
 have g:∀c∈(s.data.toList.drop 5).take i,isD c:=by
  intro c f;obtain⟨j,a,e⟩:=YY f;have b:j<i:=by simp at a;omega
  have:=h.ds j b d;rw[List.getElem_take,List.getElem_drop]at e;rw[←e];have e2:s.data.toList[5+j]'(by simp at a;omega)=s.data.toList[j+5]'(by omega):=(by congr 1;omega);rw[e2];exact this
 have m:=vD_lt _ g;have k:((s.data.toList.drop 5).take i).length≤10:=(by simp;omega);have o:10^((s.data.toList.drop 5).take i).length≤10^10:=Nat.pow_le_pow_right (by omega) k;have:=h.val;have p:(10:Nat)^10=10000000000:=(by decide);omega
def Dig.done{s:BA}{n:Int}(h:Dig s 10 n):s=snNm n:=by
 have a:=h.len
 have m:∀c∈s.data.toList.drop 5,isD c:=by
  intro c k;obtain⟨j,l,e⟩:=YY k;have d:j<10:=by simp at l a;omega
  have:=h.ds j d (by omega);rw[List.getElem_drop]at e;rw[←e];have e2:s.data.toList[5+j]'(by omega)=s.data.toList[j+5]'(by omega):=(by congr 1;omega);rw[e2];exact this
 obtain⟨b,o⟩:=dgs_vD _ m;have f:=h.val;have g:(s.data.toList.drop 5).take 10=s.data.toList.drop 5:=List.take_of_length_le (by simp at a⊢;omega);rw[g]at f;have i:(s.data.toList.drop 5).length=10:=by simp at a⊢;omega
 rw[i]at b;have e:s.data.toList=Snp.pre++dgs 10 n.toNat:=(by rw[f,Int.toNat_natCast,b,←h.pre,List.take_append_drop]);exact(Ze2 _ _).1 (by rw[ByteArray.toList_eq,ByteArray.toList_eq,Ze8,e])
def Zp6(s:BA)(l h:Int):(ssub s l h).data.toList=(s.data.toList.take h.toNat).drop l.toNat:=by
 unfold ssub;rw[ByteArray.data_extract,Array.toList_extract];simp[List.extract_eq_take_drop,List.drop_take]
def Zhl(s:BA):slen s=s.data.toList.length:=by
 show((s.size:Nat):Int)=_;rw[Zdc]
def seq_bl(a b:BA):seq a b=decide (a.data.toList=b.data.toList):=by
 rw[seq_d];apply decide_eq_decide.2;rw[←Ze2,ByteArray.toList_eq,ByteArray.toList_eq]
def sbyte_bl(s:BA)(i:Int)(a:0≤i)(h:i<s.data.toList.length):sbyte s i=((s.data.toList[i.toNat]'(by omega)).toNat:Int):=by
 have:=sbyte_u s i.toNat (by rw[Zdc];omega);rw[show((i.toNat:Nat):Int)=i by omega]at this;exact this
def scut_fn(s:BA):Ct prog 178 {} [S s,S (bA [115,110,97,112,46])] (λr=>r=if s.data.toList.take 5=pre then[S (ssub s 5 (slen s)),B true]else[S s,B false]):=by
 have a:slen (bA [115,110,97,112,46])=5:=(by decide);have c:=Zhl s;refine Zu1 (Cl.ofQ (Zqr s (bA [115,110,97,112,46]) (λr=>r=if s.data.toList.take 5=pre then[S (ssub s 5 (slen s)),B true]else[S s,B false]) ?_) ?_)
 ·rw[a]
  have b:Ct prog 295 {} [S s,S (bA [115,110,97,112,46])] (λr=>r=[B (decide (s.data.toList.take 5=pre))]):=by
   refine Zvc ?_;rw[a];refine Zaa (λh=>⟨⟨by omega,by omega,by simp only[ige_eq,decide_eq_true_eq]at h;omega⟩,?_⟩) (λh=>?_)
   ·rw[seq_bl,Zp6];congr 3
   ·have:¬s.data.toList.take 5=pre:=λe=>by have:=congrArg List.length e;simp only[ige_eq,decide_eq_false_iff_not]at h;simp only[List.length_take,show pre.length=5 from rfl]at this;omega
    rw[decide_eq_false this]
  refine Cl.of b ⟨_,rfl,Zaa (λh=>?_) (λh=>⟨⟨by omega,?_,by omega⟩,?_⟩)⟩
  ·simp at h;rw[if_neg h]
  ·simp only[bnot,Yv,decide_eq_true_eq]at h;have:=congrArg List.length h;simp only[List.length_take,show pre.length=5 from rfl]at this;omega
  ·simp at h;rw[if_pos h]
 ·rintro r rfl
  split
  ·exact⟨_,_,rfl,rfl⟩
  ·exact⟨_,_,rfl,rfl⟩
def no_pre(h:¬s.data.toList.take 5=pre):∀q,inQ q→s≠snNm q:=by
 rintro q _ rfl;exact h (by rw[Ze8];rfl)
def no_len(h:¬s.data.toList.length=15):∀q,inQ q→s≠snNm q:=by
 rintro q _ rfl;exact h (by rw[Ze8];simp[Zdu])
def Dig.zero{s:BA}(a:s.data.toList.length=15)(b:s.data.toList.take 5=Snp.pre):Dig s 0 0:=⟨a,b,λj h=>by omega,rfl⟩
theorem Dig.num{s:BA}{n:Int}(h:Dig s 10 n):if 4294967296<n then NumR s 0 false else NumR s n true:=by
 have f:=h.lt (by omega);have b:=h.done
 split
 next g=>refine .inr ⟨λq a e=>?_,rfl,rfl⟩;have c:=h.val;have d:(s.data.toList.drop 5).take 10=dgs 10 q.toNat:=(by rw[e,Ze8];show(dgs 10 q.toNat).take 10=_;exact List.take_of_length_le (by rw[Zdu];omega));unfold inQ at a;rw[d,Zr3 10 _ (by omega)]at c;omega
 ·exact .inl ⟨n,⟨by omega,by omega⟩,b,rfl,rfl⟩
def digit_val{c:UInt8}(h:isD c):wcv IntKind.i64 (wsub IntKind.u8 (c.toNat:Int) 48)=c.toNat-48:=by
 unfold isD at h;have:wsub IntKind.u8 (c.toNat:Int) 48=c.toNat-48:=(by simp[wsub,IntKind.wrap,IntKind.signed,IntKind.bits];omega);rw[this];exact Zbe (by omega) (by omega)
def nnum_fn(s:BA):Ct prog 108 {} [S s] (λr=>∃n b,r=[I n,B b]∧NumR s n b):=by
 have no:(∀q,inQ q→s≠snNm q)→∃n b,([I 0,B false]:List SV)=[I n,B b]∧NumR s n b:=λh=>⟨_,_,rfl,.no h⟩
 have u:=Zhl s;refine nnum_nf (Cl.of (scut_fn s) ?_);by_cases hp:s.data.toList.take 5=pre
 rotate_left
 ·rw[if_neg hp];exact⟨_,_,rfl,Zaa (λ_=>no (no_pre hp)) (λh=>by simp at h)⟩
 rw[if_pos hp];refine⟨_,_,rfl,?_⟩;have d:(ssub s 5 (slen s)).data.toList=s.data.toList.drop 5:=(by rw[Zp6,u,Int.toNat_natCast,Yh];rfl);have o:slen (ssub s 5 (slen s))=(s.data.toList.drop 5).length:=(by rw[Zhl,d]);have w:5≤s.data.toList.length:=(by have:=congrArg List.length hp;simp at this⊢;omega);rw[o];refine Zaa (λh=>no (no_len λe=>?_)) (λh=>?_)
 ·simp at h e;omega
 have j:s.data.toList.length=15:=(by simp at h⊢;omega);have m:((s.data.toList.drop 5).length:Int)=10:=(by simp at j⊢;omega);rw[m];have p:∀i:Int,0≤i→i<10→∃l:i.toNat+5<s.data.toList.length,sbyte (ssub s 5 (slen s)) i=((s.data.toList[i.toNat+5]).toNat:Int):=(by intro i t g;refine⟨by omega,?_⟩;rw[sbyte_bl _ _ t (by rw[d];omega)];congr 2;simp only[d,List.getElem_drop];congr 1;omega);refine⟨λ_ _ f a=>0≤a∧a≤10∧Dig s a.toNat f,λ_ _ _ a=>(10-a).toNat,⟨by omega,by omega,.zero j hp⟩,?_⟩;rintro _ _ f a ⟨i0,i1,dg⟩;refine Zaa (λh=>?_) (λh=>?_)
 ·simp at h;obtain⟨l,e⟩:=p a i0 h;rw[e];refine⟨⟨i0,h⟩,Zaa (λg=>no (Zxf l λc=>?_)) (λg=>⟨⟨i0,h⟩,Zaa (λk=>no (Zxf l λc=>?_)) (λk=>?_)⟩)⟩
  ·unfold isD at c;simp only[ilt,decide_eq_true_eq]at g;omega
  ·unfold isD at c;simp only[igt,decide_eq_true_eq]at k;omega
  ·have c:isD (s.data.toList[a.toNat+5]):=(by unfold isD;simp only[ilt,igt,decide_eq_false_iff_not]at g k;omega);have v:=dg.lt (by omega);have hst:=dg.step (by omega) c;rw[digit_val c];unfold isD at c;have w1:wmul IntKind.i64 f 10=f*10:=Zbe (by omega) (by omega);have w2:wadd IntKind.i64 a 1=a+1:=Zac;rw[w1,w2,Zac];refine⟨⟨i0,h⟩,rfl,⟨by omega,by omega,?_⟩,mlt (by dsimp only;omega)⟩;rw[show(a+1).toNat=a.toNat+1 by omega,Int.mul_comm];exact hst
 ·simp at h;have e:a.toNat=10:=(by omega);rw[e]at dg;have:=dg.num;refine Zaa (λh=>?_) (λh=>?_)
  ·simp at h;rw[if_pos h]at this;exact⟨_,_,rfl,this⟩
  ·simp at h;rw[if_neg (by omega)]at this;exact⟨_,_,rfl,this⟩
abbrev mg:List Int:=[102,98,115,49]
def snB(d:StD):List Int:=sealB (mg++encS d)
def byts_mg:Byts mg:=λx a=>by simp at a;omega
def snB_byts(d:StD):Byts (snB d):=Zjo (byts_mg.app (byts_encS d))
def snB_len(h:g.P):(snB g).length≤8008∧8≤(snB g).length:=by
 have:=encS_len h;simp only[snB,Zgm,List.length_append,List.length_cons,Y6];omega
def Zl0{a b:List Int}(h:sealB a=sealB b):a=b:=by
 have c:=congrArg List.length h;rw[Zgm,Zgm]at c;unfold sealB at h;exact(List.append_inj h (by omega)).1
def Zte{d e:StD}(a:d.P)(b:e.P)(h:snB d=snB e):d=e:=
 encS_inj a b (List.append_cancel_left (Zl0 h))
def decE(l:List Int):Int:=if l.length<4 then 10 else if sealB (l.take (l.length-4))=l then 11 else 12
def SnD(l:List Int)(d:StD)(e:Int):Prop:=(d.P∧snB d=l∧e=0)∨((∀a:StD,a.P→snB a≠l)∧d=st0∧e=decE l)
def Zv5(l:List Int):decE l≠0:=by
 unfold decE
 split
 ·omega
 ·split<;>omega
def ndec_fn(l:List Int)(o:l.length≤100000)(j:Byts l):Ct prog 182 {} [SL 1 (bR l)] (λr=>∃d e,r=[StD.sv d,I e]∧SnD l d e):=by
 have no:∀e,(∀a:StD,a.P→snB a≠l)→e=decE l→∃d k,([.agg [SL 21 [],I 0,I 0],I e]:List SV)=[StD.sv d,I k]∧SnD l d k:=λe h f=>⟨st0,e,rfl,.inr ⟨h,rfl,f⟩⟩
 refine ndec_nf (Cl.of Zm2 ⟨_,rfl,Cl.of (Zxr l j (by omega)) ⟨_,_,rfl,?_⟩⟩);unfold openE;by_cases h4:l.length<4
 ·rw[if_pos h4];refine Zaa (λ_=>no 10 (λa h e=>?_) (by unfold decE;rw[if_pos h4])) (λh=>by simp at h);have:=snB_len h;rw[e]at this;omega
 rw[if_neg h4];by_cases hs:sealB (l.take (l.length-4))=l
 rotate_left
 ·rw[if_neg hs];refine Zaa (λ_=>no 12 (λa h e=>hs ?_) (by unfold decE;rw[if_neg h4,if_neg hs])) (λh=>by simp at h);have m:(mg++encS a).length=l.length-4:=by rw[←e,snB,Zgm];omega
  have:l.take (l.length-4)=mg++encS a:=(by rw[←m,←e,snB,sealB,List.take_left]);rw[this];exact e
 rw[if_pos hs];have b:Byts (l.take (l.length-4)):=j.sub λx g=>List.mem_of_mem_take g;have c:decE l=11:=by unfold decE;rw[if_neg h4,if_pos hs]
 refine Zaa (λh=>by simp at h) (λ_=>⟨by simp[rlen],Cl.ofQ (Zwx (l.take (l.length-4)) mg b byts_mg) ?_⟩);rintro r (⟨t,ht,rfl⟩|⟨hno,rfl⟩)
 ·have i:Byts t:=b.sub λx g=>by rw[ht];exact List.mem_append.2 (.inr g)
  have n:t.length≤100000:=(by have:=congrArg List.length ht;simp at this;omega);refine⟨_,_,rfl,Zaa (λh=>by simp at h) (λ_=>Cl.ofQ (rdec_fn t n i) ?_)⟩;rintro r ⟨d,e,rfl,⟨h1,f,rfl⟩|⟨h1,rfl,rfl⟩⟩
  ·refine⟨_,_,_,_,rfl,Zaa (λh=>by simp at h) (λ_=>⟨d,0,rfl,.inl ⟨h1,?_,rfl⟩⟩)⟩;rw[snB,f,←ht,hs]
  ·refine⟨_,_,_,_,rfl,Zaa (λ_=>no 11 (λa h e=>h1 a h ?_) c.symm) (λh=>by simp at h)⟩;rw[←hs,ht]at e;exact List.append_cancel_left (Zl0 e)
 ·refine⟨_,_,rfl,Zaa (λ_=>no 11 (λa h e=>hno (encS a) ?_) c.symm) (λh=>by simp at h)⟩;rw[←hs]at e;exact(Zl0 e).symm
abbrev iU(l:List UInt8):List Int:=l.map λb=>(b.toNat:Int)
def snU(d:StD):List UInt8:=(snB d).map λn=>UInt8.ofNat n.toNat
theorem uR_bR(l:List UInt8):uR l=bR (iU l):=by simp[iU]
def iU_byts(l:List UInt8):Byts (iU l):=by
 intro x a;obtain⟨b,_,rfl⟩:=Y3.1 a;have:=b.toNat_lt;omega
def iU_inj{a b:List UInt8}(h:iU a=iU b):a=b:=uR_inj.1 (by rw[uR_bR,uR_bR,h])
theorem iU_of{l:List Int}(h:Byts l):iU (l.map λn=>UInt8.ofNat n.toNat)=l:=by
 simp only[iU,List.map_map]
 conv=>rhs;rw[←YX l]
 apply List.map_congr_left;intro x a;have:=h x a;simp[UInt8.toNat_ofNat'];omega
def snU_i(d:StD):iU (snU d)=snB d:=iU_of (snB_byts d)
def snU_iff{l:List UInt8}:snB g=iU l↔snU g=l:=by
 rw[←snU_i];exact⟨iU_inj,λh=>by rw[h]⟩
end Snp
namespace Snp
open Go Go.Px Go.Proofs Cod Seg Sgr Sx Row Dsk Tryz
abbrev tmpB:BA:=bA [116,109,112]
def oldN(d:DiD):Nat:=match d.get tmpB with|some f=>f.len|none=>0
def newF(d:DiD):Nat:=match d.get tmpB with|some _=>0|none=>1
def Good(d:DiD):Prop:=d.st≤9223372036854775807
def stP_q(h:g.P):inQ g.q:=⟨h.1.2.1,h.1.2.2.1⟩
def isF(f:FiD)(t:StD):Prop:=t.P∧f.nm=snNm t.q∧f.su++f.lo=snU t
def Cand(l:List FiD)(t:StD):Prop:=∃f∈l,isF f t
def Best(l:List FiD)(o:Option StD):Prop:=match o with|none=>∀t,¬Cand l t|some s=>Cand l s∧∀t,Cand l t→t.q≤s.q
def NewR(d:DiD)(s:StD)(e:Int):Prop:=
 (¬d.P∧s=st0∧e=1)∨(d.P∧d.dn=true∧s=st0∧e=16)∨(d.P∧d.dn=false∧((e=0∧Best d.fs (some s))∨(e=14∧s=st0∧Best d.fs none)))
def cand_uniq{l:List FiD}(c:srt FiD.nm l){a b:StD}(d:Cand l a)(h:Cand l b)(e:a.q=b.q):a=b:=by
 obtain⟨f,i,j,k,m⟩:=d;obtain⟨g,n,o,p,r⟩:=h;have:f=g:=Zmm c i n (by rw[k,p,e]);subst this;exact Zte j o (by rw[←snU_i,←snU_i,←m,←r])
def best_uniq{l:List FiD}(e:srt FiD.nm l){a b:StD}(c:Best l (some a))(d:Best l (some b)):a=b:=
 cand_uniq e c.1 d.1 (Int.le_antisymm (d.2 a c.1) (c.2 b d.1))
def Zgf{l:List FiD}{f:FiD}{t:StD}:Cand (l++[f]) t↔Cand l t∨isF f t:=by
 unfold Cand;constructor
 ·rintro⟨g,a,h⟩
  rcases List.mem_append.1 a with a|a
  ·exact .inl ⟨g,a,h⟩
  ·simp at a;subst a;exact .inr h
 ·rintro(⟨g,a,h⟩|h)
  ·exact⟨g,by simp[a],h⟩
  ·exact⟨f,by simp,h⟩
def best_skip{o:Option StD}(h:Best y o)(b:∀t,isF f t→∃s,o=some s∧t.q≤s.q):Best (y++[f]) o:=by
 cases o with
 |none=>
  intro t a
  rcases Zgf.1 a with a|a
  ·exact h t a
  ·obtain⟨s,e,_⟩:=b t a;cases e
 |some s=>
  refine⟨Zgf.2 (.inl h.1),λt a=>?_⟩
  rcases Zgf.1 a with a|a
  ·exact h.2 t a
  ·obtain⟨d,e,c⟩:=b t a;cases e;exact c
def best_take{l:List FiD}{f:FiD}{o:Option StD}{s:StD}(h:Best l o)(b:isF f s)(c:∀t,o=some t→t.q<s.q):Best (l++[f]) (some s):=by
 refine⟨Zgf.2 (.inr b),λt a=>?_⟩
 rcases Zgf.1 a with a|a
 ·cases o with
  |none=>exact absurd a (h t)
  |some u=>have:=h.2 t a;have:=c u rfl;omega
 ·have e:t=s:=Zte a.1 b.1 (by rw[←snU_i,←snU_i,←a.2.2,←b.2.2]);rw[e];exact Int.le_refl _
def Hold(o:Option StD)(l:LL)(q t:Int):Prop:=match o with
 |none=>q= -1
 |some s=>l=coR s.cs∧q=s.q∧t=s.t∧s.P
def Zwt(h:d.P)(a:n<d.fs.length):(d.fs[n].su++d.fs[n].lo).length≤65536:=by
 have b:=h.1;have c:=h.2.1;have:=Zik (List.getElem_mem a);unfold FiD.len at this;rw[List.length_append];omega
def get_at(h:d.P)(a:n<d.fs.length):d.get d.fs[n].nm=some d.fs[n]:=(get_iff h.2.2.2).2 ⟨List.getElem_mem a,rfl⟩
def isF_of{f:FiD}{s:StD}{n e:Int}(a:SnD (iU (f.su++f.lo)) s e)(b:e=0)(c:NumR f.nm n true)(d:s.q=n):isF f s:=by
 subst b
 rcases a with⟨g,i,_⟩|⟨_,_,h⟩
 ·refine⟨g,?_,(snU_iff.1 i).symm⟩
  rcases c with⟨q,_,e,rfl,_⟩|⟨_,_,e⟩
  ·rw[d];exact e
  ·cases e
 ·exact absurd h.symm (Zv5 _)
def isF_num(h:isF f g)(d:NumR f.nm i o):o=true∧i=g.q:=by
 have c:=stP_q h.1
 rcases d with⟨q,a,e,rfl,rfl⟩|⟨a,_,_⟩
 ·exact⟨rfl,snNm_inj a c (e.symm.trans h.2.1)⟩
 ·exact absurd h.2.1 (a _ c)
def isF_dec{f:FiD}{t s:StD}{e:Int}(h:isF f t)(c:SnD (iU (f.su++f.lo)) s e):e=0∧s=t:=by
 have b:snB t=iU (f.su++f.lo):=snU_iff.2 h.2.2.symm
 rcases c with⟨a,d,g⟩|⟨a,_,_⟩
 ·exact⟨g,Zte a h.1 (d.trans b.symm)⟩
 ·exact absurd b (a t h.1)
def nnew_fn(d:DiD)(D:d.ok):Ct prog 113 {} [d.sv] (λr=>∃s e,r=[StD.sv s,I e]∧NewR d s e):=by
 refine nnew_nf (Cl.of (Ze4 d D) ⟨_,rfl,Zaa (λh=>?_) (λh=>?_)⟩)
 ·simp at h;exact⟨st0,1,rfl,.inl ⟨h,rfl,rfl⟩⟩
 simp at h;refine Zaa (λg=>⟨st0,16,rfl,.inr (.inl ⟨h,g,rfl,rfl⟩)⟩) (λg=>?_);have P:=h.1.1;refine Cl.of (Zw4 d (by omega)) ⟨_,rfl,?_⟩;have F:rlen (nR (d.fs.map FiD.nm))=d.fs.length:=(by simp[rlen]);rw[F];refine⟨λx y c z=>0≤x∧x≤d.fs.length∧∃o,Best (d.fs.take x.toNat) o∧Hold o y c z,λx _ _ _=>(d.fs.length-x).toNat,⟨by omega,by omega,none,(by rintro t ⟨f,A,_⟩;simp at A),rfl⟩,?_⟩;rintro x y c z ⟨x0,hx,o,hb,hh⟩
 have R: -1≤c:=by
  cases o with
  |none=>have:c= -1:=hh;omega
  |some s=>obtain⟨_,e,_,p⟩:=hh;have:=(stP_q p).1;omega
 have w:x<d.fs.length→wadd IntKind.i64 x 1=x+1:=λ_=>Zac;refine Zaa (λk=>?_) (λk=>?_)
 ·simp at k;have a:x.toNat<d.fs.length:=(by omega);have i:d.fs.take (x+1).toNat=d.fs.take x.toNat++[d.fs[x.toNat]]:=by rw[show(x+1).toNat=x.toNat+1 by omega,List.take_succ_eq_append_getElem a]
  have skip:(∀t,isF d.fs[x.toNat] t→∃s,o=some s∧t.q≤s.q)→0≤x+1∧x+1≤d.fs.length∧∃o,Best (d.fs.take (x+1).toNat) o∧Hold o y c z:=λA=>
   ⟨by omega,by omega,o,by rw[i];exact best_skip hb A,hh⟩
  have C:Nl (d.fs.length-(x+1)).toNat (d.fs.length-x).toNat:=mlt (by omega);rw[w k];refine⟨⟨x0,k⟩,d.fs[x.toNat].nm,by simp[rget,a],Cl.ofQ (nnum_fn _) ?_⟩;rintro r ⟨n,b,rfl,hn⟩;refine⟨_,_,rfl,Zaa (λl=>⟨rfl,skip λt m=>?_,C⟩) (λl=>?_)⟩
  ·obtain⟨E,Q⟩:=isF_num m hn;subst E;have G:n≤c:=by simpa using l
   cases o with
   |none=>have:c= -1:=hh;have:=(stP_q m.1).1;omega
   |some s=>obtain⟨_,e,_,_⟩:=hh;exact⟨s,rfl,by omega⟩
  ·rw[bor_f]at l;have H:b=true:=(by simpa using l.1);subst H;have G:c<n:=by have:=l.2;simp at this;omega
   have er:d.er d.fs[x.toNat].nm d.fs[x.toNat].nm=0:=Zc0.2 ⟨h,g,h.2.2.1 _ (List.getElem_mem a),h.2.2.1 _ (List.getElem_mem a)⟩;have J:Zij d d.fs[x.toNat].nm=(d.fs[x.toNat].su++d.fs[x.toNat].lo,0):=(by unfold Zij;rw[er,get_at h a];rfl);refine Cl.of (Zvg d D _) ⟨_,_,rfl,?_⟩;rw[J];refine Zaa (λh=>by simp at h) (λ_=>?_);have K:=Zwt h a;have v:=ndec_fn (iU (d.fs[x.toNat].su++d.fs[x.toNat].lo)) (by simp at K⊢;omega) (iU_byts _);rw[←uR_bR]at v;refine Cl.ofQ v ?_;rintro r ⟨s,e,rfl,hs⟩;refine⟨_,_,_,_,rfl,Zaa (λu=>⟨rfl,⟨by omega,by omega,some s,?_,rfl,rfl,rfl,?_⟩,C⟩) (λu=>⟨rfl,skip λt m=>?_,C⟩)⟩
   ·have j:e=0∧s.q=n:=by
     by_cases e0:e=0
     ·exact⟨e0,by simpa[e0]using u⟩
     ·simp[e0]at u
    rw[i];refine best_take hb (isF_of hs j.1 hn j.2) λt L=>?_;subst L;obtain⟨_,e1,_,_⟩:=hh;omega
   ·have j:e=0:=by
     by_cases e0:e=0
     ·exact e0
     ·simp[e0]at u
    rcases hs with⟨p,_,_⟩|⟨_,_,p⟩
    ·exact p
    ·exact absurd (p.symm.trans j) (Zv5 _)
   ·exfalso;obtain⟨M,N⟩:=isF_dec m hs;obtain⟨_,O⟩:=isF_num m hn;subst M N O;simp at u
 ·simp at k;have i:d.fs.take x.toNat=d.fs:=List.take_of_length_le (by omega);rw[i]at hb
  cases o with
  |none=>have:c= -1:=hh;subst this;exact Zaa (λ_=>⟨st0,14,rfl,.inr (.inr ⟨h,g,.inr ⟨rfl,rfl,hb⟩⟩)⟩) (λh=>by simp at h)
  |some s=>obtain⟨rfl,rfl,rfl,p⟩:=hh;have:=(stP_q p).1;exact Zaa (λh=>by simp at h;omega) (λ_=>⟨s,0,rfl,.inr (.inr ⟨h,g,.inl ⟨rfl,hb⟩⟩)⟩)
def Eqv(a b:List FiD):Prop:=∀f:FiD,f.nm≠tmpB→(f∈a↔f∈b)
def er_ok(h:d.P)(c:d.dn=false)(e:fnB s=true)(f:fnB t=true):d.er s t=0:=Zc0.2 ⟨h,c,e,f⟩
def newFile(s:StD):FiD:=⟨snNm s.q,snU s,[]⟩
inductive SaveR(d:DiD)(s:StD):DiD×Int→Prop
 |full (h:d.rm+oldN d<usedL d.fs+(snU s).length∨64<d.fs.length+newF d):SaveR d s (d,13)
 |down (x:DiD) (hp:x.P) (hst:d.st≠-1) (he:Eqv x.fs d.fs) (hg:Good d→Good x):SaveR d s (x,16)
 |ok (x:DiD) (hp:x.P) (hd:x.dn=false) (hst:d.st= -1→x.st= -1) (hrm:x.rm=d.rm) (hf:x.fs=withB FiD.nm (wout FiD.nm d.fs tmpB) (newFile s)) (hg:Good d→Good x):SaveR d s (x,0)
end Snp
namespace Jou
open Go Go.Px Go.Proofs Cod Seg Tryz
theorem rdO_uniq{l:List Int}{d i:Sc}{q f:Int}(h:RdO l d q)(b:RdO l i f):d=i∧q=f:=by
 have t:=h.far b.ok b.pre;have u:=b.far h.ok h.pre;have v:=Beg.len b.ok h.ok t;have x:=Beg.len h.ok b.ok u;have e:i=d:=v.2 (by omega);subst e;refine⟨rfl,?_⟩
 rcases h.ext with⟨w,k,p,n,r,c,rfl⟩|⟨k,p,n,c,ht,rfl⟩
 ·rcases b.ext with⟨s,j,m,o,g,a,rfl⟩|⟨j,m,o,a,ht',rfl⟩
  ·rw[c]at a;simp only[Prod.mk.injEq]at a;rw[a.1]
  ·rw[c]at a;simp only[Prod.mk.injEq]at a;exact absurd a.1 r
 ·rcases b.ext with⟨s,j,m,o,g,a,rfl⟩|⟨j,m,o,a,ht',rfl⟩
  ·rw[c]at a;simp only[Prod.mk.injEq]at a;exact absurd a.1.symm g
  ·rfl
def addS(d:Sc)(e:EvD):Sc:={d with ev:=d.ev++[e],s:=e.s,a:=e.a,m:=bhdN d.m e.c}
def recB(d:Sc)(e:EvD):List Int:=fr 2 (encL d.s d.a d.m e)
def addS_ok{e:EvD}(h:ScOK D)(b:D.num≠0)(k:D.sl=false)(ok:EncOK D.s D.a D.m e):ScOK (addS D e)∧segL (addS D e)=segL D++recB D e:=by
 have g:=h.fin b;simp only[Wq]at g;obtain⟨n,o,p⟩:=g;have i:(fin3 D.bs D.ba [] D.ev).1=D.s:=n.symm;have j:(fin3 D.bs D.ba [] D.ev).2.1=D.a:=o.symm;have f:(fin3 D.bs D.ba [] D.ev).2.2=D.m:=p.symm;refine⟨⟨λl=>absurd l b,λ_=>h.head b,λ_=>?_,λ_=>?_⟩,?_⟩
 ·show okL D.bs D.ba [] (D.ev++[e]);rw[Zox,i,j,f];exact⟨h.evs b,ok⟩
 ·show(e.s,e.a,bhdN D.m e.c)=fin3 D.bs D.ba [] (D.ev++[e]);rw[Zf5,f]
 ·rw[Zcu (show(addS D e).num≠0 from b),Zcu b];unfold slx addS recB;simp only[k,Bool.false_eq_true,if_false,List.append_nil];rw[Zlm,i,j,f,List.append_assoc]
def sealS(d:Sc):Sc:={d with sl:=true}
def seaB(d:Sc):List Int:=fr 3 (slP d.ev.length d.s d.a)
def Zu5{d:Sc}(h:ScOK d)(a:d.num≠0)(b:d.sl=false):ScOK (sealS d)∧segL (sealS d)=segL d++seaB d:=by
 refine⟨⟨λc=>absurd c a,λ_=>h.head a,λ_=>h.evs a,λ_=>h.fin a⟩,?_⟩;rw[Zcu (show(sealS d).num≠0 from a),Zcu a];unfold slx sealS seaB;simp only[b,Bool.false_eq_true,if_false,if_true,List.append_nil,List.append_assoc]
def newS(n s a:Int)(e:EvD):Sc:=mkS n s a [e] false
def newS_ok{e:EvD}(h:headOK i j k)(ok:EncOK j k [] e):ScOK (newS i j k e)∧segL (newS i j k e)=fr 1 (hdP i j k)++fr 2 (encL j k [] e):=by
 have b:i≠0:=(by have:=h.1.1;omega);refine⟨mkS_ok false h ⟨ok,trivial⟩,?_⟩;unfold newS;rw[segL_mk b];simp[recL]

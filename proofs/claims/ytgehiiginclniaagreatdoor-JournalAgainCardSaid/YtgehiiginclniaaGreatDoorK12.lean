import Derived.Test.YtgehiiginclniaaGreatDoorK11
set_option linter.all false
set_option maxRecDepth 100000
namespace Go.Proofs.YtgehiiginclniaaGreatDoor
namespace Snp
open Go Go.Px Go.Proofs  Tryz
abbrev dk4(rows:List (List SV))(b a:Int)(c:Bool):SV:=.agg [SL 3 rows,I b,I a,B c]
abbrev st3(rows:List (List SV))(s a:Int):SV:=.agg [SL 21 rows,I s,I a]
abbrev U32(n:Int):SV:=SV.int .u32 n
abbrev U16(n:Int):SV:=SV.int .u16 n
def SgT:FuncId→Sig:=(λf=>bif Nat.beq f 242 then⟨[],[.own]⟩else bif Nat.beq f 220 then⟨[],[.own]⟩else bif Nat.beq f 307 then⟨[],[.own]⟩else bif Nat.beq f 287 then⟨[],[.own]⟩else{})
def SvT:TypeId→Sig:=(λf=>{})
theorem nnum_nf{s:ByteArray}{Q:QQ}(h:Cl prog 178 sP ([S s,S (bA [115,110,97,112,46])]) (λi=>∃c b,(i=[S c,B b])∧ifB (bpick (bnot b) true (ine (slen c) 10)) (Q [I 0,B false]) (∃e:Int→Bool→Int→Int→Prop,∃m:Int→Bool→Int→Int→Nat,(e 0 false 0 0)∧∀x g,∀d a,(e x g d a)→ifB (ilt a (slen c)) ((((0:Int)≤a)∧a<(slen c))∧ifB (ilt (sbyte c a) 48) (Q [I 0,B false]) ((((0:Int)≤a)∧a<(slen c))∧ifB (igt (sbyte c a) 57) (Q [I 0,B false]) ((((0:Int)≤a)∧a<(slen c))∧((Option.some []:Option (LL))=Option.some [])∧(e x g (wadd .i64 (wmul .i64 d 10) (wcv .i64 (wsub .u8 (sbyte c a) 48))) (wadd .i64 a 1))∧Nat.le (Nat.succ (m x g (wadd .i64 (wmul .i64 d 10) (wcv .i64 (wsub .u8 (sbyte c a) 48))) (wadd .i64 a 1))) (m x g d a)))) (ifB (igt d 4294967296) (Q [I 0,B false]) (Q [I d,B true]))))):Ct prog 108 {} [S s] Q:=
 fN SgT SvT func108 h
theorem ndec_nf{rows:LL}{Q:QQ}(h:Cl prog 243 sP [] (λn=>∃a,(n=[SV.arr .u32 256 a])∧Cl prog 257 sP [SV.arr .u32 256 a,SL 1 rows] (λc=>∃l x,(c=[SL 1 l,I x])∧ifB (ine x 0) (Q ([SV.agg ([SL 21 [],I 0,I 0]),I x])) ((0<(rlen ([[U8 102],[U8 98],[U8 115],[U8 49]])))∧Cl prog 258 sP ([SL 1 l,SL 1 ([[U8 102],[U8 98],[U8 115],[U8 49]])]) (λd=>∃g b,(d=[SL 1 g,B b])∧ifB (bnot b) (Q ([SV.agg ([SL 21 [],I 0,I 0]),I 11])) (Cl prog 259 sP [SL 1 g] (λe=>∃i j,∃k m,(e=[SV.agg [SL 21 i,I j,I k],I m])∧ifB (ine m 0) (Q ([SV.agg ([SL 21 [],I 0,I 0]),I 11])) (Q ([SV.agg [SL 21 i,I j,I k],I 0]))))))))):Ct prog 182 {} [SL 1 rows] Q:=
 fN SgT SvT func182 h
theorem nnew_nf{rows:LL}{d a:Int}{c:Bool}{Q:QQ}(h:Cl prog 46 sP ([SV.agg [SL 3 rows,I d,I a,B c]]) (λC=>∃b,(C=[B b])∧ifB (bnot b) (Q ([SV.agg ([SL 21 [],I 0,I 0]),I 1])) (ifB c (Q ([SV.agg ([SL 21 [],I 0,I 0]),I 16])) (Cl prog 107 sP ([SV.agg [SL 3 rows,I d,I a,B c]]) (λr=>∃l,(r=[SL 1 l])∧∃j:Int→(LL)→Int→Int→Prop,∃m:Int→(LL)→Int→Int→Nat,(j 0 [] ((-1:Int)) 0)∧∀x g,∀e i,(j x g e i)→ifB (ilt x (rlen l)) ((((0:Int)≤x)∧x<(rlen l))∧∃s,(rget l x=[S s])∧Cl prog 108 sP [S s] (λt=>∃o w,(t=[I o,B w])∧ifB (bpick (bnot w) true (ile o e)) ((Sm (some ([[SL 3 rows,I d,I a,B c],[SV.slice 21 [] 1,I 0,I 0]])))∧(j (wadd .i64 x 1) g e i)∧Nat.le (Nat.succ (m (wadd .i64 x 1) g e i)) (m x g e i)) (Cl prog 32 sP ([SV.agg [SL 3 rows,I d,I a,B c],S s]) (λu=>∃y z,(u=[SL 1 y,I z])∧ifB (ine z 0) ((Sm (some ([[SL 3 rows,I d,I a,B c],[SV.slice 21 [] 1,I 0,I 0]])))∧(j (wadd .i64 x 1) g e i)∧Nat.le (Nat.succ (m (wadd .i64 x 1) g e i)) (m x g e i)) (Cl prog 182 sP [SL 1 y] (λv=>∃p n,∃q A,(v=[SV.agg [SL 21 p,I n,I q],I A])∧ifB (bpick (ieq A 0) (ieq n o) false) ((Sm (some ([[SL 3 rows,I d,I a,B c],[SV.slice 21 [] 1,I 0,I 0]])))∧(j (wadd .i64 x 1) p n q)∧Nat.le (Nat.succ (m (wadd .i64 x 1) p n q)) (m x g e i)) ((Sm (some ([[SL 3 rows,I d,I a,B c],[SV.slice 21 [] 1,I 0,I 0]])))∧(j (wadd .i64 x 1) g e i)∧Nat.le (Nat.succ (m (wadd .i64 x 1) g e i)) (m x g e i)))))))) (ifB (ilt e 0) (Q ([SV.agg ([SL 21 [],I 0,I 0]),I 14])) (Q ([SV.agg [SL 21 g,I e,I i],I 0])))))))):Ct prog 113 {} [dk4 rows d a c] Q:=
 fO SgT SvT (λk=>bif Nat.beq k 24 then some {slots:=[(23,false,[.int .i64])],boxes:=[(512,[.sl 21,.int .i64,.int .i64])],fixed:=[128,256]}else none) func113 h
theorem Ztu{s t:ByteArray}{Q:QQ}(h:Cl prog 252 sP [S s,S t] (λc=>∃a b,(c=[S a,B b])∧Q [S a,B b])):Ct prog 178 {} [S s,S t] Q:=
 fN SgT SvT func178 h
theorem Zpr(s t:ByteArray)(Q:QQ)(h:Cl prog 295 sP [S s,S t] (λa=>∃b,(a=[B b])∧ifB (bnot b) (Q [S s,B false]) ((((0:Int)≤(slen t))∧((slen t)≤(slen s))∧(slen s)≤(slen s))∧Q [S (ssub s (slen t) (slen s)),B true]))):Ct prog 252 {} [S s,S t] Q:=
 fN SgT SvT func252 h
end Snp
namespace Snp
open Go Go.Px Go.Proofs Cod Seg Sgr Sx Row Tryz
abbrev pre:List UInt8:=[115,110,97,112,46]
def snNm(q:Int):ByteArray:=⟨(pre++dgs 10 q.toNat).toArray⟩
def inQ(q:Int):Prop:=0≤q∧q≤4294967296
instance (q:Int):Decidable (inQ q):=inferInstanceAs (Decidable (_∧_))
def isD(c:UInt8):Prop:=48≤c.toNat∧c.toNat≤57
def vD(l:List UInt8):Nat:=l.foldl (λn c=>10*n+(c.toNat-48)) 0
theorem Zta(l:List UInt8)(c:UInt8):vD (l++[c])=10*vD l+(c.toNat-48):=by simp[vD]
theorem Ztb:∀(k n:Nat),∀c∈dgs k n,isD c
 |0,_,c,h=>by cases h
 |k+1,n,c,h=>by
  rw[dgs,List.mem_append]at h
  rcases h with h|h
  ·exact Ztb k _ c h
  ·simp at h;subst h;unfold isD;rw[show(48:UInt8)+UInt8.ofNat (n%10)=UInt8.ofNat (48+n%10) by simp];have:(UInt8.ofNat (48+n%10)).toNat=48+n%10:=by simp[UInt8.toNat_ofNat'];omega
   omega
theorem Zq2:∀(k n:Nat),n<10^k→vD (dgs k n)=n
 |0,n,h=>by simp at h;subst h;rfl
 |k+1,n,h=>by have e:(UInt8.ofNat (48+n%10)).toNat=48+n%10:=(by simp[UInt8.toNat_ofNat'];omega);rw[dgs,Zta,Zq2 k (n/10) (by rw[Nat.pow_succ]at h;omega),e];omega
theorem dgs_vDr:∀(r:List UInt8),(∀c∈r,isD c)→dgs r.length (vD r.reverse)=r.reverse∧vD r.reverse<10^r.length
 | [],_=>⟨rfl,by decide⟩
 |c::r,h=>by
  obtain⟨b,e⟩:=dgs_vDr r λx a=>h x (by simp[a]);have d:=h c (by simp);unfold isD at d;rw[List.reverse_cons,Zta,List.length_cons];constructor
  ·rw[dgs,show(10*vD r.reverse+(c.toNat-48))/10=vD r.reverse by omega,b,show(10*vD r.reverse+(c.toNat-48))%10=c.toNat-48 by omega,show 48+(c.toNat-48)=c.toNat by omega,UInt8.ofNat_toNat]
  ·rw[Nat.pow_succ];omega
theorem dgs_vD(l:List UInt8)(h:∀c∈l,isD c):dgs l.length (vD l)=l∧vD l<10^l.length:=by
 have:=dgs_vDr l.reverse λc a=>h c (by simpa using a)
 simpa using this
theorem Zv4{a b:Int}(c:inQ a)(d:inQ b)(h:snNm a=snNm b):a=b:=by
 have e:(pre++dgs 10 a.toNat)=pre++dgs 10 b.toNat:=by
  have:=congrArg (λs:ByteArray=>s.data.toList) h
  simpa[snNm]using this
 have f:=congrArg vD (List.append_cancel_left e);unfold inQ at c d;rw[Zq2 10 _ (by omega),Zq2 10 _ (by omega)]at f;omega
def NumR(s:ByteArray)(n:Int)(b:Bool):Prop:=(∃q,inQ q∧s=snNm q∧n=q∧b=true)∨((∀q,inQ q→s≠snNm q)∧n=0∧b=false)
theorem NumR.eq{s:ByteArray}{n m:Int}{b c:Bool}(h:NumR s n b)(k:NumR s m c):n=m∧b=c:=by
 rcases h with⟨q,a,e,rfl,rfl⟩|⟨a,rfl,rfl⟩<;>rcases k with⟨p,d,f,rfl,rfl⟩|⟨d,rfl,rfl⟩
 ·exact⟨Zv4 a d (e.symm.trans f),rfl⟩
 ·exact absurd e (d _ a)
 ·exact absurd f (a _ d)
 ·exact⟨rfl,rfl⟩
theorem NumR.no{s:ByteArray}(h:∀q,inQ q→s≠snNm q):NumR s 0 false:=.inr ⟨h,rfl,rfl⟩
theorem Ze0(q:Int):(snNm q).data.toList=pre++dgs 10 q.toNat:=by simp[snNm]
theorem Zv5{s:ByteArray}{i:Nat}(c:i+5<s.data.toList.length)(h:¬isD (s.data.toList[i+5])):∀q,inQ q→s≠snNm q:=by
 rintro q d rfl;apply h;have a:=Ze0 q;have b:(snNm q).data.toList.length=15:=by rw[a];simp[Zdm]
 have:(snNm q).data.toList[i+5]=(dgs 10 q.toNat)[i]'(by rw[Zdm];omega):=(by simp only[a];rw[YZ (by simp)];simp);rw[this];exact Ztb _ _ _ (List.getElem_mem _)
structure Dig(s:ByteArray)(i:Nat)(n:Int):Prop where
 len:s.data.toList.length=15
 pre:s.data.toList.take 5=pre
 ds:∀j (h:j<i) (h2:i≤10),isD (s.data.toList[j+5]'(by omega))
 val:n=(vD ((s.data.toList.drop 5).take i):Nat)
theorem Dig.step{s:ByteArray}{i:Nat}{n:Int}(h:Dig s i n)(d:i<10)(a:isD (s.data.toList[i+5]'(by have:=h.len;omega))):Dig s (i+1) (10*n+((s.data.toList[i+5]'(by have:=h.len;omega)).toNat-48)):=by
 have c:=h.len;refine⟨h.len,h.pre,λj f g=>?_,?_⟩
 ·by_cases e:j=i
  ·subst e;exact a
  ·exact h.ds j (by omega) (by omega)
 ·have b:i<(s.data.toList.drop 5).length:=(by simp at c⊢;omega);rw[List.take_succ_eq_append_getElem b,Zta];have k:=h.val;unfold isD at a;have e:(s.data.toList.drop 5)[i]=s.data.toList[i+5]'(by omega):=(by rw[List.getElem_drop];congr 1;omega);rw[e];omega
theorem vD_lt(l:List UInt8)(h:∀c∈l,isD c):vD l<10^l.length:=(dgs_vD l h).2
theorem Dig.lt{s:ByteArray}{i:Nat}{n:Int}(h:Dig s i n)(d:i≤10):0≤n∧n<10000000000:=by
 have l:=h.len
 have g:∀c∈(s.data.toList.drop 5).take i,isD c:=by
  intro c f;obtain⟨j,a,e⟩:=YW f;have b:j<i:=by simp at a;omega
  have:=h.ds j b d;rw[List.getElem_take,List.getElem_drop]at e;rw[←e];have e2:s.data.toList[5+j]'(by simp at a;omega)=s.data.toList[j+5]'(by omega):=(by congr 1;omega);rw[e2];exact this
 have m:=vD_lt _ g;have k:((s.data.toList.drop 5).take i).length≤10:=(by simp;omega);have o:10^((s.data.toList.drop 5).take i).length≤10^10:=Nat.pow_le_pow_right (by omega) k;have:=h.val;have p:(10:Nat)^10=10000000000:=(by decide);omega
theorem Dig.done{s:ByteArray}{n:Int}(h:Dig s 10 n):s=snNm n:=by
 have a:=h.len
 have m:∀c∈s.data.toList.drop 5,isD c:=by
  intro c k;obtain⟨j,l,e⟩:=YW k;have d:j<10:=by simp at l a;omega
  have:=h.ds j d (by omega);rw[List.getElem_drop]at e;rw[←e];have e2:s.data.toList[5+j]'(by omega)=s.data.toList[j+5]'(by omega):=(by congr 1;omega);rw[e2];exact this
 obtain⟨b,o⟩:=dgs_vD _ m;have f:=h.val;have g:(s.data.toList.drop 5).take 10=s.data.toList.drop 5:=List.take_of_length_le (by simp at a⊢;omega);rw[g]at f;have i:(s.data.toList.drop 5).length=10:=by simp at a⊢;omega
 rw[i]at b;have e:s.data.toList=Snp.pre++dgs 10 n.toNat:=(by rw[f,Int.toNat_natCast,b,←h.pre,List.take_append_drop]);exact(Zer _ _).1 (by rw[ByteArray.toList_eq,ByteArray.toList_eq,Ze0,e])
theorem Zpc(s:ByteArray)(l h:Int):(ssub s l h).data.toList=(s.data.toList.take h.toNat).drop l.toNat:=by
 unfold ssub;rw[ByteArray.data_extract,Array.toList_extract];simp[List.extract_eq_take_drop,List.drop_take]
theorem Zhd(s:ByteArray):slen s=s.data.toList.length:=by
 show((s.size:Nat):Int)=_;rw[Zc3]
theorem seq_bl(a b:ByteArray):seq a b=decide (a.data.toList=b.data.toList):=by
 rw[seq_d];apply decide_eq_decide.2;rw[←Zer,ByteArray.toList_eq,ByteArray.toList_eq]
theorem sbyte_bl(s:ByteArray)(i:Int)(a:0≤i)(h:i<s.data.toList.length):sbyte s i=((s.data.toList[i.toNat]'(by omega)).toNat:Int):=by
 have:=Zzk s i.toNat (by rw[Zc3];omega);rw[show((i.toNat:Nat):Int)=i by omega]at this;exact this
theorem scut_fn(s:ByteArray):Ct prog 178 {} [S s,S (bA [115,110,97,112,46])] (λr=>r=if s.data.toList.take 5=pre then[S (ssub s 5 (slen s)),B true]else[S s,B false]):=by
 have a:slen (bA [115,110,97,112,46])=5:=(by decide);have c:=Zhd s;refine Ztu (Cl.ofQ (Zpr s (bA [115,110,97,112,46]) (λr=>r=if s.data.toList.take 5=pre then[S (ssub s 5 (slen s)),B true]else[S s,B false]) ?_) ?_)
 ·rw[a]
  have b:Ct prog 295 {} [S s,S (bA [115,110,97,112,46])] (λr=>r=[B (decide (s.data.toList.take 5=pre))]):=by
   refine Zt4 ?_;rw[a];refine Zaa (λh=>⟨⟨by omega,by omega,by simp only[ige_eq,decide_eq_true_eq]at h;omega⟩,?_⟩) (λh=>?_)
   ·rw[seq_bl,Zpc];congr 3
   ·have:¬s.data.toList.take 5=pre:=λe=>by have:=congrArg List.length e;simp only[ige_eq,decide_eq_false_iff_not]at h;simp only[List.length_take,show pre.length=5 from rfl]at this;omega
    rw[decide_eq_false this]
  refine Cl.of b ⟨_,rfl,Zaa (λh=>?_) (λh=>⟨⟨by omega,?_,by omega⟩,?_⟩)⟩
  ·simp at h;rw[if_neg h]
  ·simp only[bnot,Yw,decide_eq_true_eq]at h;have:=congrArg List.length h;simp only[List.length_take,show pre.length=5 from rfl]at this;omega
  ·simp at h;rw[if_pos h]
 ·rintro r rfl
  split
  ·exact⟨_,_,rfl,rfl⟩
  ·exact⟨_,_,rfl,rfl⟩
theorem no_pre{s:ByteArray}(h:¬s.data.toList.take 5=pre):∀q,inQ q→s≠snNm q:=by
 rintro q _ rfl;exact h (by rw[Ze0];rfl)
theorem no_len{s:ByteArray}(h:¬s.data.toList.length=15):∀q,inQ q→s≠snNm q:=by
 rintro q _ rfl;exact h (by rw[Ze0];simp[Zdm])
theorem Dig.zero{s:ByteArray}(a:s.data.toList.length=15)(b:s.data.toList.take 5=Snp.pre):Dig s 0 0:=⟨a,b,λj h=>by omega,rfl⟩
theorem Dig.num{s:ByteArray}{n:Int}(h:Dig s 10 n):if 4294967296<n then NumR s 0 false else NumR s n true:=by
 have f:=h.lt (by omega);have b:=h.done
 split
 ·rename_i g;refine .inr ⟨λq a e=>?_,rfl,rfl⟩;have c:=h.val;have d:(s.data.toList.drop 5).take 10=dgs 10 q.toNat:=(by rw[e,Ze0];show(dgs 10 q.toNat).take 10=_;exact List.take_of_length_le (by rw[Zdm];omega));unfold inQ at a;rw[d,Zq2 10 _ (by omega)]at c;omega
 ·exact .inl ⟨n,⟨by omega,by omega⟩,b,rfl,rfl⟩
theorem digit_val{c:UInt8}(h:isD c):wcv IntKind.i64 (wsub IntKind.u8 (c.toNat:Int) 48)=c.toNat-48:=by
 unfold isD at h;have:wsub IntKind.u8 (c.toNat:Int) 48=c.toNat-48:=(by simp[wsub,IntKind.wrap,IntKind.signed,IntKind.bits];omega);rw[this];exact Zbr (by omega) (by omega)
theorem nnum_fn(s:ByteArray):Ct prog 108 {} [S s] (λr=>∃n b,r=[I n,B b]∧NumR s n b):=by
 have no:(∀q,inQ q→s≠snNm q)→∃n b,([I 0,B false]:List SV)=[I n,B b]∧NumR s n b:=λh=>⟨_,_,rfl,.no h⟩
 have u:=Zhd s;refine nnum_nf (Cl.of (scut_fn s) ?_);by_cases hp:s.data.toList.take 5=pre
 rotate_left
 ·rw[if_neg hp];exact⟨_,_,rfl,Zaa (λ_=>no (no_pre hp)) (λh=>by simp at h)⟩
 rw[if_pos hp];refine⟨_,_,rfl,?_⟩;have d:(ssub s 5 (slen s)).data.toList=s.data.toList.drop 5:=(by rw[Zpc,u,Int.toNat_natCast,Yb];rfl);have o:slen (ssub s 5 (slen s))=(s.data.toList.drop 5).length:=(by rw[Zhd,d]);have w:5≤s.data.toList.length:=(by have:=congrArg List.length hp;simp at this⊢;omega);rw[o];refine Zaa (λh=>no (no_len λe=>?_)) (λh=>?_)
 ·simp at h e;omega
 have j:s.data.toList.length=15:=(by simp at h⊢;omega);have m:((s.data.toList.drop 5).length:Int)=10:=(by simp at j⊢;omega);rw[m];have p:∀i:Int,0≤i→i<10→∃l:i.toNat+5<s.data.toList.length,sbyte (ssub s 5 (slen s)) i=((s.data.toList[i.toNat+5]).toNat:Int):=(by intro i t g;refine⟨by omega,?_⟩;rw[sbyte_bl _ _ t (by rw[d];omega)];congr 2;simp only[d,List.getElem_drop];congr 1;omega);refine⟨λ_ _ f a=>0≤a∧a≤10∧Dig s a.toNat f,λ_ _ _ a=>(10-a).toNat,⟨by omega,by omega,.zero j hp⟩,?_⟩;rintro _ _ f a ⟨i0,i1,dg⟩;refine Zaa (λh=>?_) (λh=>?_)
 ·simp at h;obtain⟨l,e⟩:=p a i0 h;rw[e];refine⟨⟨i0,h⟩,Zaa (λg=>no (Zv5 l λc=>?_)) (λg=>⟨⟨i0,h⟩,Zaa (λk=>no (Zv5 l λc=>?_)) (λk=>?_)⟩)⟩
  ·unfold isD at c;simp only[ilt,decide_eq_true_eq]at g;omega
  ·unfold isD at c;simp only[igt,decide_eq_true_eq]at k;omega
  ·have c:isD (s.data.toList[a.toNat+5]):=(by unfold isD;simp only[ilt,igt,decide_eq_false_iff_not]at g k;omega);have v:=dg.lt (by omega);have hst:=dg.step (by omega) c;rw[digit_val c];unfold isD at c;have w1:wmul IntKind.i64 f 10=f*10:=Zbr (by omega) (by omega);have w2:wadd IntKind.i64 a 1=a+1:=Zac (by omega) (by omega);rw[w1,w2,Zac (by omega) (by omega)];refine⟨⟨i0,h⟩,rfl,⟨by omega,by omega,?_⟩,mlt (by dsimp only;omega)⟩;rw[show(a+1).toNat=a.toNat+1 by omega,Int.mul_comm];exact hst
 ·simp at h;have e:a.toNat=10:=(by omega);rw[e]at dg;have:=dg.num;refine Zaa (λh=>?_) (λh=>?_)
  ·simp at h;rw[if_pos h]at this;exact⟨_,_,rfl,this⟩
  ·simp at h;rw[if_neg (by omega)]at this;exact⟨_,_,rfl,this⟩
abbrev mg:List Int:=[102,98,115,49]
def snB(d:StD):List Int:=sealB (mg++encS d)
theorem byts_mg:Byts mg:=λx a=>by simp at a;omega
theorem snB_byts(d:StD):Byts (snB d):=Zi8 (byts_mg.app (byts_encS d))
theorem snB_len{d:StD}(h:d.P):(snB d).length≤8008∧8≤(snB d).length:=by
 have:=encS_len h;simp only[snB,Zf7,List.length_append,List.length_cons,Y6];omega
theorem Zla{a b:List Int}(h:sealB a=sealB b):a=b:=by
 have c:=congrArg List.length h;rw[Zf7,Zf7]at c;unfold sealB at h;exact(List.append_inj h (by omega)).1
theorem Zok{d e:StD}(a:d.P)(b:e.P)(h:snB d=snB e):d=e:=
 Zt5 a b (List.append_cancel_left (Zla h))
def decE(l:List Int):Int:=if l.length<4 then 10 else if sealB (l.take (l.length-4))=l then 11 else 12
def SnD(l:List Int)(d:StD)(e:Int):Prop:=(d.P∧snB d=l∧e=0)∨((∀a:StD,a.P→snB a≠l)∧d=st0∧e=decE l)
theorem SnD.eq{l:List Int}{d t:StD}{e f:Int}(h:SnD l d e)(k:SnD l t f):d=t∧e=f:=by
 rcases h with⟨a,c,rfl⟩|⟨a,rfl,rfl⟩<;>rcases k with⟨b,g,rfl⟩|⟨b,rfl,rfl⟩
 ·exact⟨Zok a b (c.trans g.symm),rfl⟩
 ·exact absurd c (b _ a)
 ·exact absurd g (a _ b)
 ·exact⟨rfl,rfl⟩
theorem Zuw(l:List Int):decE l≠0:=by
 unfold decE
 split
 ·omega
 ·split<;>omega
theorem ndec_fn(l:List Int)(o:l.length≤100000)(j:Byts l):Ct prog 182 {} [SL 1 (bR l)] (λr=>∃d e,r=[StD.sv d,I e]∧SnD l d e):=by
 have no:∀e,(∀a:StD,a.P→snB a≠l)→e=decE l→∃d k,([.agg [SL 21 [],I 0,I 0],I e]:List SV)=[StD.sv d,I k]∧SnD l d k:=λe h f=>⟨st0,e,rfl,.inr ⟨h,rfl,f⟩⟩
 refine ndec_nf (Cl.of Zmb ⟨_,rfl,Cl.of (Zwi l j (by omega)) ⟨_,_,rfl,?_⟩⟩);unfold openE;by_cases h4:l.length<4
 ·rw[if_pos h4];refine Zaa (λ_=>no 10 (λa h e=>?_) (by unfold decE;rw[if_pos h4])) (λh=>by simp at h);have:=snB_len h;rw[e]at this;omega
 rw[if_neg h4];by_cases hs:sealB (l.take (l.length-4))=l
 rotate_left
 ·rw[if_neg hs];refine Zaa (λ_=>no 12 (λa h e=>hs ?_) (by unfold decE;rw[if_neg h4,if_neg hs])) (λh=>by simp at h);have m:(mg++encS a).length=l.length-4:=by rw[←e,snB,Zf7];omega
  have:l.take (l.length-4)=mg++encS a:=(by rw[←m,←e,snB,sealB,YR]);rw[this];exact e
 rw[if_pos hs];have b:Byts (l.take (l.length-4)):=j.sub λx g=>List.mem_of_mem_take g;have c:decE l=11:=by unfold decE;rw[if_neg h4,if_pos hs]
 refine Zaa (λh=>by simp at h) (λ_=>⟨by simp[rlen],Cl.ofQ (Zvm (l.take (l.length-4)) mg b byts_mg) ?_⟩);rintro r (⟨t,ht,rfl⟩|⟨hno,rfl⟩)
 ·have i:Byts t:=b.sub λx g=>by rw[ht];exact List.mem_append.2 (.inr g)
  have n:t.length≤100000:=(by have:=congrArg List.length ht;simp at this;omega);refine⟨_,_,rfl,Zaa (λh=>by simp at h) (λ_=>Cl.ofQ (rdec_fn t n i) ?_)⟩;rintro r ⟨d,e,rfl,⟨h1,f,rfl⟩|⟨h1,rfl,rfl⟩⟩
  ·refine⟨_,_,_,_,rfl,Zaa (λh=>by simp at h) (λ_=>⟨d,0,rfl,.inl ⟨h1,?_,rfl⟩⟩)⟩;rw[snB,f,←ht,hs]
  ·refine⟨_,_,_,_,rfl,Zaa (λ_=>no 11 (λa h e=>h1 a h ?_) c.symm) (λh=>by simp at h)⟩;rw[←hs,ht]at e;exact List.append_cancel_left (Zla e)
 ·refine⟨_,_,rfl,Zaa (λ_=>no 11 (λa h e=>hno (encS a) ?_) c.symm) (λh=>by simp at h)⟩;rw[←hs]at e;exact(Zla e).symm
abbrev iU(l:List UInt8):List Int:=l.map λb=>(b.toNat:Int)
def snU(d:StD):List UInt8:=(snB d).map λn=>UInt8.ofNat n.toNat
theorem uR_bR(l:List UInt8):uR l=bR (iU l):=by simp[iU]
theorem iU_byts(l:List UInt8):Byts (iU l):=by
 intro x a;obtain⟨b,_,rfl⟩:=Y3.1 a;have:=b.toNat_lt;omega
theorem iU_inj{a b:List UInt8}(h:iU a=iU b):a=b:=uR_inj.1 (by rw[uR_bR,uR_bR,h])
theorem iU_of{l:List Int}(h:Byts l):iU (l.map λn=>UInt8.ofNat n.toNat)=l:=by
 simp only[iU,List.map_map]
 conv=>rhs;rw[←YV l]
 apply List.map_congr_left;intro x a;have:=h x a;simp[UInt8.toNat_ofNat'];omega
theorem snU_i(d:StD):iU (snU d)=snB d:=iU_of (snB_byts d)
theorem snU_iff{d:StD}{l:List UInt8}:snB d=iU l↔snU d=l:=by
 rw[←snU_i];exact⟨iU_inj,λh=>by rw[h]⟩
end Snp
namespace Snp
open Go Go.Px Go.Proofs Cod Seg Sgr Sx Row Dsk Tryz
abbrev tmpB:ByteArray:=bA [116,109,112]
def chn(p:DiD×Int)(f:DiD→DiD×Int):DiD×Int:=if p.2=0 then f p.1 else p
def oldN(d:DiD):Nat:=match d.get tmpB with|some f=>f.len|none=>0
def newF(d:DiD):Nat:=match d.get tmpB with|some _=>0|none=>1
def mkT(d:DiD)(x:List UInt8)(q:Int):DiD×Int:=chn (chn (chn (Zbf d tmpB) λd=>Zaw d tmpB x) λd=>Za3 d tmpB) λd=>Zve d tmpB (snNm q)
def rmT(d:DiD):DiD×Int:=match d.get tmpB with|some _=>Za4 d tmpB|none=>(d,0)
def saveD(d:DiD)(s:StD):DiD×Int:=
 if¬(d.P∧s.P)then(d,1)else if d.dn=true then(d,16)
 else if d.rm+oldN d<usedL d.fs+(snU s).length∨64<d.fs.length+newF d then(d,13)
 else chn (rmT d) λd=>mkT d (snU s) s.q
def Good(d:DiD):Prop:=d.st≤9223372036854775807
theorem Good.ok{d:DiD}(h:Good d)(a:d.P):d.ok:=DiD.P.ok a h
theorem stP_q{s:StD}(h:s.P):inQ s.q:=⟨h.1.2.1,h.1.2.2.1⟩
abbrev isP(p:DiD×Int)(e:Int)(l:List (List SV))(a b:Int)(c:Bool):Prop:=e=p.2∧l=fR p.1.fs∧a=p.1.rm∧b=p.1.st∧c=p.1.dn
def isF(f:FiD)(t:StD):Prop:=t.P∧f.nm=snNm t.q∧f.su++f.lo=snU t
def Cand(l:List FiD)(t:StD):Prop:=∃f∈l,isF f t
def Best(l:List FiD)(o:Option StD):Prop:=match o with|none=>∀t,¬Cand l t|some s=>Cand l s∧∀t,Cand l t→t.q≤s.q
def NewR(d:DiD)(s:StD)(e:Int):Prop:=
 (¬d.P∧s=st0∧e=1)∨(d.P∧d.dn=true∧s=st0∧e=16)∨(d.P∧d.dn=false∧((e=0∧Best d.fs (some s))∨(e=14∧s=st0∧Best d.fs none)))
theorem cand_uniq{l:List FiD}(c:srt FiD.nm l){a b:StD}(d:Cand l a)(h:Cand l b)(e:a.q=b.q):a=b:=by
 obtain⟨f,i,j,k,m⟩:=d;obtain⟨g,n,o,p,r⟩:=h;have:f=g:=Zlx c i n (by rw[k,p,e]);subst this;exact Zok j o (by rw[←snU_i,←snU_i,←m,←r])
theorem Zqn{l:List FiD}(e:srt FiD.nm l){a b:StD}(c:Best l (some a))(d:Best l (some b)):a=b:=
 cand_uniq e c.1 d.1 (Int.le_antisymm (d.2 a c.1) (c.2 b d.1))
theorem NewR.eq{d:DiD}{s t:StD}{e f:Int}(h:NewR d s e)(k:NewR d t f):s=t∧e=f:=by
 rcases h with⟨a,rfl,rfl⟩|⟨a,h2,rfl,rfl⟩|⟨a,h2,c⟩<;>rcases k with⟨b,rfl,rfl⟩|⟨b,k2,rfl,rfl⟩|⟨b,k2,g⟩
 ·exact⟨rfl,rfl⟩
 ·exact absurd b a
 ·exact absurd b a
 ·exact absurd a b
 ·exact⟨rfl,rfl⟩
 ·rw[h2]at k2;cases k2
 ·exact absurd a b
 ·rw[h2]at k2;cases k2
 ·rcases c with⟨rfl,c⟩|⟨rfl,rfl,c⟩<;>rcases g with⟨rfl,g⟩|⟨rfl,rfl,g⟩
  ·exact⟨Zqn a.2.2.2 c g,rfl⟩
  ·exact absurd c.1 (g _)
  ·exact absurd g.1 (c _)
  ·exact⟨rfl,rfl⟩
theorem Zf0{l:List FiD}{f:FiD}{t:StD}:Cand (l++[f]) t↔Cand l t∨isF f t:=by
 unfold Cand;constructor
 ·rintro⟨g,a,h⟩
  rcases List.mem_append.1 a with a|a
  ·exact .inl ⟨g,a,h⟩
  ·simp at a;subst a;exact .inr h
 ·rintro(⟨g,a,h⟩|h)
  ·exact⟨g,by simp[a],h⟩
  ·exact⟨f,by simp,h⟩
theorem best_skip{l:List FiD}{f:FiD}{o:Option StD}(h:Best l o)(b:∀t,isF f t→∃s,o=some s∧t.q≤s.q):Best (l++[f]) o:=by
 cases o with
 |none=>
  intro t a
  rcases Zf0.1 a with a|a
  ·exact h t a
  ·obtain⟨s,e,_⟩:=b t a;cases e
 |some s=>
  refine⟨Zf0.2 (.inl h.1),λt a=>?_⟩
  rcases Zf0.1 a with a|a
  ·exact h.2 t a
  ·obtain⟨d,e,c⟩:=b t a;cases e;exact c
theorem best_take{l:List FiD}{f:FiD}{o:Option StD}{s:StD}(h:Best l o)(b:isF f s)(c:∀t,o=some t→t.q<s.q):Best (l++[f]) (some s):=by
 refine⟨Zf0.2 (.inr b),λt a=>?_⟩
 rcases Zf0.1 a with a|a
 ·cases o with
  |none=>exact absurd a (h t)
  |some u=>have:=h.2 t a;have:=c u rfl;omega
 ·have e:t=s:=Zok a.1 b.1 (by rw[←snU_i,←snU_i,←a.2.2,←b.2.2]);rw[e];exact Int.le_refl _
def Hold(o:Option StD)(l:List (List SV))(q t:Int):Prop:=match o with
 |none=>q= -1
 |some s=>l=coR s.cs∧q=s.q∧t=s.t∧s.P
theorem Zvi{d:DiD}(h:d.P){i:Nat}(a:i<d.fs.length):(d.fs[i].su++d.fs[i].lo).length≤65536:=by
 have b:=h.1;have c:=h.2.1;have:=Zfz (List.getElem_mem a);unfold FiD.len at this;rw[List.length_append];omega
theorem get_at{d:DiD}(h:d.P){i:Nat}(a:i<d.fs.length):d.get d.fs[i].nm=some d.fs[i]:=(get_iff h.2.2.2).2 ⟨List.getElem_mem a,rfl⟩
theorem isF_of{f:FiD}{s:StD}{n e:Int}(a:SnD (iU (f.su++f.lo)) s e)(b:e=0)(c:NumR f.nm n true)(d:s.q=n):isF f s:=by
 subst b
 rcases a with⟨g,i,_⟩|⟨_,_,h⟩
 ·refine⟨g,?_,(snU_iff.1 i).symm⟩
  rcases c with⟨q,_,e,rfl,_⟩|⟨_,_,e⟩
  ·rw[d];exact e
  ·cases e
 ·exact absurd h.symm (Zuw _)
theorem isF_num{f:FiD}{t:StD}{n:Int}{b:Bool}(h:isF f t)(d:NumR f.nm n b):b=true∧n=t.q:=by
 have c:=stP_q h.1
 rcases d with⟨q,a,e,rfl,rfl⟩|⟨a,_,_⟩
 ·exact⟨rfl,Zv4 a c (e.symm.trans h.2.1)⟩
 ·exact absurd h.2.1 (a _ c)
theorem isF_dec{f:FiD}{t s:StD}{e:Int}(h:isF f t)(c:SnD (iU (f.su++f.lo)) s e):e=0∧s=t:=by
 have b:snB t=iU (f.su++f.lo):=snU_iff.2 h.2.2.symm
 rcases c with⟨a,d,g⟩|⟨a,_,_⟩
 ·exact⟨g,Zok a h.1 (d.trans b.symm)⟩
 ·exact absurd b (a t h.1)
theorem nnew_fn(d:DiD)(D:d.ok):Ct prog 113 {} [d.sv] (λr=>∃s e,r=[StD.sv s,I e]∧NewR d s e):=by
 refine nnew_nf (Cl.of (Zeu d D) ⟨_,rfl,Zaa (λh=>?_) (λh=>?_)⟩)
 ·simp at h;exact⟨st0,1,rfl,.inl ⟨h,rfl,rfl⟩⟩
 simp at h;refine Zaa (λg=>⟨st0,16,rfl,.inr (.inl ⟨h,g,rfl,rfl⟩)⟩) (λg=>?_);have P:=h.1.1;refine Cl.of (Zvu d (by omega)) ⟨_,rfl,?_⟩;have F:rlen (nR (d.fs.map FiD.nm))=d.fs.length:=(by simp[rlen]);rw[F];refine⟨λx y c z=>0≤x∧x≤d.fs.length∧∃o,Best (d.fs.take x.toNat) o∧Hold o y c z,λx _ _ _=>(d.fs.length-x).toNat,⟨by omega,by omega,none,(by rintro t ⟨f,A,_⟩;simp at A),rfl⟩,?_⟩;rintro x y c z ⟨x0,hx,o,hb,hh⟩
 have R: -1≤c:=by
  cases o with
  |none=>have:c= -1:=hh;omega
  |some s=>obtain⟨_,e,_,p⟩:=hh;have:=(stP_q p).1;omega
 have w:x<d.fs.length→wadd IntKind.i64 x 1=x+1:=λ_=>Zac (by omega) (by omega);refine Zaa (λk=>?_) (λk=>?_)
 ·simp at k;have a:x.toNat<d.fs.length:=(by omega);have i:d.fs.take (x+1).toNat=d.fs.take x.toNat++[d.fs[x.toNat]]:=by rw[show(x+1).toNat=x.toNat+1 by omega,List.take_succ_eq_append_getElem a]
  have skip:(∀t,isF d.fs[x.toNat] t→∃s,o=some s∧t.q≤s.q)→0≤x+1∧x+1≤d.fs.length∧∃o,Best (d.fs.take (x+1).toNat) o∧Hold o y c z:=λA=>
   ⟨by omega,by omega,o,by rw[i];exact best_skip hb A,hh⟩
  have C:Nat.le (Nat.succ (d.fs.length-(x+1)).toNat) (d.fs.length-x).toNat:=mlt (by omega);rw[w k];refine⟨⟨x0,k⟩,d.fs[x.toNat].nm,by simp[rget,a],Cl.ofQ (nnum_fn _) ?_⟩;rintro r ⟨n,b,rfl,hn⟩;refine⟨_,_,rfl,Zaa (λl=>⟨rfl,skip λt m=>?_,C⟩) (λl=>?_)⟩
  ·obtain⟨E,Q⟩:=isF_num m hn;subst E;have G:n≤c:=by simpa using l
   cases o with
   |none=>have:c= -1:=hh;have:=(stP_q m.1).1;omega
   |some s=>obtain⟨_,e,_,_⟩:=hh;exact⟨s,rfl,by omega⟩
  ·rw[bor_f]at l;have H:b=true:=(by simpa using l.1);subst H;have G:c<n:=by have:=l.2;simp at this;omega
   have er:d.er d.fs[x.toNat].nm d.fs[x.toNat].nm=0:=Zcs.2 ⟨h,g,h.2.2.1 _ (List.getElem_mem a),h.2.2.1 _ (List.getElem_mem a)⟩;have J:Zib d d.fs[x.toNat].nm=(d.fs[x.toNat].su++d.fs[x.toNat].lo,0):=(by unfold Zib;rw[er,get_at h a];rfl);refine Cl.of (Zt9 d D _) ⟨_,_,rfl,?_⟩;rw[J];refine Zaa (λh=>by simp at h) (λ_=>?_);have K:=Zvi h a;have v:=ndec_fn (iU (d.fs[x.toNat].su++d.fs[x.toNat].lo)) (by simp at K⊢;omega) (iU_byts _);rw[←uR_bR]at v;refine Cl.ofQ v ?_;rintro r ⟨s,e,rfl,hs⟩;refine⟨_,_,_,_,rfl,Zaa (λu=>⟨rfl,⟨by omega,by omega,some s,?_,rfl,rfl,rfl,?_⟩,C⟩) (λu=>⟨rfl,skip λt m=>?_,C⟩)⟩
   ·have j:e=0∧s.q=n:=by
     by_cases e0:e=0
     ·exact⟨e0,by simpa[e0]using u⟩
     ·simp[e0]at u
    rw[i];refine best_take hb (isF_of hs j.1 hn j.2) λt L=>?_;subst L;obtain⟨_,e1,_,_⟩:=hh;omega
   ·have j:e=0:=by
     by_cases e0:e=0
     ·exact e0
     ·simp[e0]at u
    rcases hs with⟨p,_,_⟩|⟨_,_,p⟩
    ·exact p
    ·exact absurd (p.symm.trans j) (Zuw _)
   ·exfalso;obtain⟨M,N⟩:=isF_dec m hs;obtain⟨_,O⟩:=isF_num m hn;subst M N O;simp at u
 ·simp at k;have i:d.fs.take x.toNat=d.fs:=List.take_of_length_le (by omega);rw[i]at hb
  cases o with
  |none=>have:c= -1:=hh;subst this;exact Zaa (λ_=>⟨st0,14,rfl,.inr (.inr ⟨h,g,.inr ⟨rfl,rfl,hb⟩⟩)⟩) (λh=>by simp at h)
  |some s=>obtain⟨rfl,rfl,rfl,p⟩:=hh;have:=(stP_q p).1;exact Zaa (λh=>by simp at h;omega) (λ_=>⟨s,0,rfl,.inr (.inr ⟨h,g,.inl ⟨rfl,hb⟩⟩)⟩)
def Hold2(o:Option StD)(e:Int)(l:List (List SV))(q t:Int):Prop:=match o with
 |none=>e=14∧l=[]∧q=0∧t=0
 |some s=>e=0∧l=coR s.cs∧q=s.q∧t=s.t
def Eqv(a b:List FiD):Prop:=∀f:FiD,f.nm≠tmpB→(f∈a↔f∈b)
theorem Eqv.refl(a:List FiD):Eqv a a:=λ_ _=>Iff.rfl
theorem Eqv.trans{a b c:List FiD}(h:Eqv a b)(k:Eqv b c):Eqv a c:=λf d=>(h f d).trans (k f d)
theorem Eqv.symm{a b:List FiD}(h:Eqv a b):Eqv b a:=λf c=>(h f c).symm
theorem er_ok{d:DiD}(h:d.P)(c:d.dn=false){a b:ByteArray}(e:fnB a=true)(f:fnB b=true):d.er a b=0:=Zcs.2 ⟨h,c,e,f⟩
def newFile(s:StD):FiD:=⟨snNm s.q,snU s,[]⟩
inductive SaveR(d:DiD)(s:StD):DiD×Int→Prop
 |full (h:d.rm+oldN d<usedL d.fs+(snU s).length∨64<d.fs.length+newF d):SaveR d s (d,13)
 |down (x:DiD) (hp:x.P) (hst:d.st≠-1) (he:Eqv x.fs d.fs) (hg:Good d→Good x):SaveR d s (x,16)
 |ok (x:DiD) (hp:x.P) (hd:x.dn=false) (hst:d.st= -1→x.st= -1) (hrm:x.rm=d.rm) (hf:x.fs=withB FiD.nm (wout FiD.nm d.fs tmpB) (newFile s)) (hg:Good d→Good x):SaveR d s (x,0)
end Snp
namespace Jou
open Go Go.Px Go.Proofs Cod Seg Tryz
theorem rdO_uniq{l:List Int}{d i:Sc}{q f:Int}(h:RdO l d q)(b:RdO l i f):d=i∧q=f:=by
 have t:=h.far b.ok b.pre;have u:=b.far h.ok h.pre;have v:=Beg.len b.ok h.ok t;have x:=Beg.len h.ok b.ok u;have e:i=d:=v.2 (by omega);subst e;refine⟨rfl,?_⟩
 rcases h.ext with⟨w,k,p,n,r,c,rfl⟩|⟨k,p,n,c,ht,rfl⟩
 ·rcases b.ext with⟨s,j,m,o,g,a,rfl⟩|⟨j,m,o,a,ht',rfl⟩
  ·rw[c]at a;simp only[Prod.mk.injEq]at a;rw[a.1]
  ·rw[c]at a;simp only[Prod.mk.injEq]at a;exact absurd a.1 r
 ·rcases b.ext with⟨s,j,m,o,g,a,rfl⟩|⟨j,m,o,a,ht',rfl⟩
  ·rw[c]at a;simp only[Prod.mk.injEq]at a;exact absurd a.1.symm g
  ·rfl
def addS(d:Sc)(e:EvD):Sc:={d with ev:=d.ev++[e],s:=e.s,a:=e.a,m:=bhdN d.m e.c}
def recB(d:Sc)(e:EvD):List Int:=fr 2 (encL d.s d.a d.m e)
theorem Zza{d:Sc}{e:EvD}(h:ScOK d)(b:d.num≠0)(k:d.sl=false)(ok:EncOK d.s d.a d.m e):ScOK (addS d e)∧segL (addS d e)=segL d++recB d e:=by
 have g:=h.fin b;simp only[WX]at g;obtain⟨n,o,p⟩:=g;have i:(fin3 d.bs d.ba [] d.ev).1=d.s:=n.symm;have j:(fin3 d.bs d.ba [] d.ev).2.1=d.a:=o.symm;have f:(fin3 d.bs d.ba [] d.ev).2.2=d.m:=p.symm;refine⟨⟨λl=>absurd l b,λ_=>h.head b,λ_=>?_,λ_=>?_⟩,?_⟩
 ·show okL d.bs d.ba [] (d.ev++[e]);rw[Zn9,i,j,f];exact⟨h.evs b,ok⟩
 ·show(e.s,e.a,bhdN d.m e.c)=fin3 d.bs d.ba [] (d.ev++[e]);rw[Zky,f]
 ·rw[Zcm (show(addS d e).num≠0 from b),Zcm b];unfold slx addS recB;simp only[k,Bool.false_eq_true,if_false,List.append_nil];rw[Zkz,i,j,f,List.append_assoc]
def sealS(d:Sc):Sc:={d with sl:=true}
def seaB(d:Sc):List Int:=fr 3 (slP d.ev.length d.s d.a)
theorem Ztx{d:Sc}(h:ScOK d)(a:d.num≠0)(b:d.sl=false):ScOK (sealS d)∧segL (sealS d)=segL d++seaB d:=by
 refine⟨⟨λc=>absurd c a,λ_=>h.head a,λ_=>h.evs a,λ_=>h.fin a⟩,?_⟩;rw[Zcm (show(sealS d).num≠0 from a),Zcm a];unfold slx sealS seaB;simp only[b,Bool.false_eq_true,if_false,if_true,List.append_nil,List.append_assoc]
def newS(n s a:Int)(e:EvD):Sc:=mkS n s a [e] false
theorem Zzb{n s a:Int}{e:EvD}(h:headOK n s a)(ok:EncOK s a [] e):ScOK (newS n s a e)∧segL (newS n s a e)=fr 1 (hdP n s a)++fr 2 (encL s a [] e):=by
 have b:n≠0:=(by have:=h.1.1;omega);refine⟨mkS_ok false h ⟨ok,trivial⟩,?_⟩;unfold newS;rw[segL_mk b];simp[recL]
end Jou
namespace Jou
open Go Go.Px Go.Proofs Cod Seg Sgr Snp Tryz
abbrev spre:List UInt8:=[115,101,103,46]
def segNm(n:Int):ByteArray:=⟨(spre++dgs 8 n.toNat).toArray⟩
def inN(n:Int):Prop:=1≤n∧n≤99999999
instance (n:Int):Decidable (inN n):=inferInstanceAs (Decidable (_∧_))
theorem Zcb(n:Int):(segNm n).data.toList=spre++dgs 8 n.toNat:=by simp[segNm]
theorem Zuh{n:Int}(h:inN n):(vD ((segNm n).data.toList.drop 4):Int)=n:=by
 unfold inN at h;rw[Zcb,show(spre++dgs 8 n.toNat).drop 4=dgs 8 n.toNat from rfl,Zq2 8 _ (by omega)];omega
def numS(s:ByteArray):Int:=if inN (vD (s.data.toList.drop 4):Int)∧s=segNm (vD (s.data.toList.drop 4):Int)then(vD (s.data.toList.drop 4):Int)else 0
theorem Zui{n:Int}(h:inN n):numS (segNm n)=n:=by
 unfold numS;rw[Zuh h,if_pos ⟨h,rfl⟩]
theorem Zc4{s:ByteArray}(h:numS s≠0):inN (numS s)∧s=segNm (numS s):=by
 unfold numS at h⊢
 split
 ·rename_i g;exact g
 ·rename_i g;rw[if_neg g]at h;exact absurd rfl h
theorem lex_app:∀{a b:List UInt8} (x y:List UInt8),a.length=b.length→a<b→a++x<b++y
 | [],[],x,y,_,h=>absurd h (List.lt_irrefl _)
 | [],_::_,_,_,hl,_=>by simp at hl
 |_::_,[],_,_,hl,_=>by simp at hl
 |c::a,d::b,x,y,hl,h=>by
  rw[List.cons_append,List.cons_append,YD]
  rcases YD.1 h with h|⟨h1,h2⟩
  ·exact .inl h
  ·exact .inr ⟨h1,lex_app x y (by simpa using hl) h2⟩
theorem Zrt:∀(p:List UInt8) {a b:List UInt8},a<b→p++a<p++b
 | [],_,_,h=>h
 |c::p,a,b,h=>by rw[List.cons_append,List.cons_append,YD];exact .inr ⟨rfl,Zrt p h⟩
theorem dgs_lt:∀(k a b:Nat),a<b→b<10^k→dgs k a<dgs k b
 |0,a,b,h,hb=>by simp at hb;omega
 |k+1,a,b,h,hb=>by
  rw[dgs,dgs];by_cases e:a/10=b/10
  ·rw[e];refine Zrt _ ?_;rw[YD]
   left
   rw[UInt8.lt_iff_toNat_lt];simp only[UInt8.toNat_ofNat'];omega
  ·refine lex_app _ _ (by rw[Zdm,Zdm]) (dgs_lt k _ _ (by omega) ?_);rw[Nat.pow_succ]at hb;omega
theorem Zuj{a b:Int}(c:inN a)(d:inN b)(h:a<b):nlt (segNm a) (segNm b):=by
 unfold nlt;rw[Zcb,Zcb];unfold inN at c d;exact Zrt _ (dgs_lt 8 _ _ (by omega) (by omega))
structure Pt where
 d:Sc
 n:Nat
def foll(p a:Sc):Prop:=a.sl=true∧p.num=a.num+1∧p.bs=a.s∧p.ba=a.a
instance (p a:Sc):Decidable (foll p a):=inferInstanceAs (Decidable (_∧_))
def isSeg(f:FiD):Bool:=decide (numS f.nm≠0)
def segs(l:List FiD):List FiD:=l.filter isSeg
abbrev ptF(a:FiD→Sc)(f:FiD):Pt:=⟨a f,f.len⟩
def mayR(b:FiD→Sc)(r:List Pt)(o:List ByteArray)(f:FiD):Prop:=o=[]∧(b f).num=numS f.nm∧(match r.getLast? with|none=>True|some a=>foll (b f) a.d)
instance (sc:FiD→Sc) (r:List Pt) (o:List ByteArray) (f:FiD):Decidable (mayR sc r o f):=by
 unfold mayR
 cases r.getLast?<;>infer_instance
def rstep(b:FiD→Sc)(a:List Pt×List ByteArray)(f:FiD):List Pt×List ByteArray:=
 if numS f.nm=0 then a else if mayR b a.1 a.2 f then(a.1++[ptF b f],a.2)else(a.1,a.2++[f.nm])
def rowsD(a:FiD→Sc)(l:List FiD):List Pt×List ByteArray:=l.foldl (rstep a) ([],[])
theorem Zco(b:FiD→Sc):∀(l:List FiD) (a:List Pt×List ByteArray),l.foldl (rstep b) a=(segs l).foldl (rstep b) a
 | [],a=>rfl
 |f::l,a=>by
  unfold segs;rw[List.foldl_cons,List.filter_cons];by_cases h:numS f.nm=0
  ·have e:isSeg f=false:=(by unfold isSeg;simp[h]);rw[e,if_neg (by simp),show rstep b a f=a from if_pos h];exact Zco b l a
  ·have e:isSeg f=true:=(by unfold isSeg;simp[h]);rw[e,if_pos rfl,List.foldl_cons];exact Zco b l _
def inRow(b:FiD→Sc):Option Sc→List FiD→Prop
 |_,[]=>True
 |p,f::l=>(b f).num=numS f.nm∧(match p with|none=>True|some a=>foll (b f) a)∧inRow b (some (b f)) l
theorem Zru(b:FiD→Sc):∀(l:List FiD) (r:List Pt),(∀f∈l,numS f.nm≠0)→inRow b (r.getLast?.map (·.d)) l→l.foldl (rstep b) (r,[])=(r++l.map (ptF b),[])
 | [],r,_,_=>by simp
 |f::l,r,hn,h=>by
  obtain⟨i,e,j⟩:=h;rw[List.foldl_cons]
  have k:mayR b r [] f:=by
   refine⟨rfl,i,?_⟩
   cases c:r.getLast? with
   |none=>trivial
   |some a=>rw[c]at e;exact e
  rw[show rstep b (r,[]) f=(r++[ptF b f],[])from by unfold rstep;rw[if_neg (hn f (by simp)),if_pos k]];rw[Zru b l (r++[ptF b f]) (λg c=>hn g (by simp[c])) (by simpa using j)];simp
theorem Zob(a:FiD→Sc):∀(l:List FiD) (r:List Pt) (o:List ByteArray),o≠[]→((l.foldl (rstep a) (r,o)).2≠[])
 | [],r,o,h=>h
 |f::l,r,o,h=>by
  rw[List.foldl_cons];unfold rstep
  split
  ·exact Zob a l r o h
  ·rw[if_neg (λq=>h q.1)];exact Zob a l r _ (by simp)
theorem rows_in'(b:FiD→Sc):∀(l:List FiD) (r:List Pt),(∀f∈l,numS f.nm≠0)→(l.foldl (rstep b) (r,[])).2=[]→inRow b (r.getLast?.map (·.d)) l
 | [],r,_,_=>trivial
 |f::l,r,hn,h=>by
  rw[List.foldl_cons]at h;by_cases hm:mayR b r [] f
  ·rw[show rstep b (r,[]) f=(r++[ptF b f],[])from by unfold rstep;rw[if_neg (hn f (by simp)),if_pos hm]]at h;obtain⟨_,i,e⟩:=hm;refine⟨i,?_,?_⟩
   ·cases c:r.getLast? with
    |none=>trivial
    |some a=>rw[c]at e;exact e
   ·have:=rows_in' b l (r++[ptF b f]) (λg c=>hn g (by simp[c])) h
    simpa using this
  ·rw[show rstep b (r,[]) f=(r,[]++[f.nm])from by unfold rstep;rw[if_neg (hn f (by simp)),if_neg hm]]at h;exact absurd h (Zob b l r _ (by simp))
theorem Zbk{l:List FiD}:∀f∈segs l,numS f.nm≠0:=λf a=>by
 have:=(List.mem_filter.1 a).2
 simpa[isSeg]using this
theorem rows_iff{a:FiD→Sc}{l:List FiD}:(rowsD a l).2=[]↔inRow a none (segs l):=by
 unfold rowsD;rw[Zco];exact⟨λh=>rows_in' a _ [] Zbk h,λh=>by rw[Zru a _ [] Zbk h]⟩
theorem Zoc{a:FiD→Sc}{l:List FiD}(h:inRow a none (segs l)):rowsD a l=((segs l).map (ptF a),[]):=by
 unfold rowsD;rw[Zco,Zru a _ [] Zbk h];simp
theorem withB_map{l:List FiD}{f:FiD}(a:srt FiD.nm l)(c:∃g∈l,g.nm=f.nm):withB FiD.nm l f=l.map λg=>if g.nm=f.nm then f else g:=by
 obtain⟨g,h,e⟩:=c;obtain⟨i,b,rfl⟩:=List.mem_iff_getElem.1 h;rw[←Zf4 a b e.symm];apply List.ext_getElem
 ·simp
 ·intro j d k;rw[List.getElem_set,Wh];by_cases hij:i=j
  ·subst hij;rw[if_pos rfl,if_pos e]
  ·rw[if_neg hij,if_neg (λq=>hij (srt_inj a b (by simpa using d) (e.trans q.symm)))]
theorem segs_map{l:List FiD}{g:FiD→FiD}(h:∀x,(g x).nm=x.nm):segs (l.map g)=(segs l).map g:=by
 unfold segs;rw[List.filter_map];congr 1;apply List.filter_congr;intro x _;show isSeg (g x)=isSeg x;unfold isSeg;rw[h x]
theorem Zo9{l:List FiD}{f:FiD}(a:srt FiD.nm l)(b:∃g∈l,g.nm=f.nm):segs (withB FiD.nm l f)=(segs l).map λg=>if g.nm=f.nm then f else g:=by
 rw[withB_map a b];refine segs_map λx=>?_
 split
 ·rename_i h;exact h.symm
 ·rfl
theorem Zq0{l a:List FiD}{g f:FiD}(d:srt FiD.nm l)(e:segs l=a++[g])(c:g.nm=f.nm):segs (withB FiD.nm l f)=a++[f]:=by
 have j:g∈l:=(List.mem_filter.1 (show g∈l.filter isSeg by rw[show l.filter isSeg=a++[g]from e];simp)).1;rw[Zo9 d ⟨g,j,c⟩,e,List.map_append];congr 1
 ·have b:srt FiD.nm (segs l):=Yy _ d;rw[e]at b;have h:=(List.pairwise_append.1 b).2.2
  conv=>rhs;rw[←YV a]
  apply List.map_congr_left;intro x i;have:=Zjp (h x i g (by simp));rw[if_neg (λq=>this (q.trans c.symm))];rfl
 ·simp[c]
theorem Zew(b:FiD→Sc):∀(l:List FiD) (p:Option Sc) (f:FiD),inRow b p (l++[f])↔inRow b p l∧(b f).num=numS f.nm∧(match(l.getLast?.map b).or p with|none=>True|some a=>foll (b f) a)
 | [],p,f=>by cases p<;>simp[inRow]
 |g::l,p,f=>by
  rw[List.cons_append];show _∧_∧inRow b (some (b g)) (l++[f])↔(_∧_∧inRow b (some (b g)) l)∧_;rw[Zew b l (some (b g)) f]
  have e:((g::l).getLast?.map b).or p=(l.getLast?.map b).or (some (b g)):=by
   cases l with
   |nil=>simp
   |cons h l=>
    rw[WG]
    cases hh:(h::l).getLast? with
    |none=>simp at hh
    |some x=>simp
  rw[e];constructor
  ·rintro⟨c,d,i,j,k⟩;exact⟨⟨c,d,i⟩,j,k⟩
  ·rintro⟨⟨c,d,i⟩,j,k⟩;exact⟨c,d,i,j,k⟩
theorem Zvy(a b:List FiD):segs (a++b)=segs a++segs b:=List.filter_append ..
theorem segs_new{l:List FiD}{f:FiD}(v:srt FiD.nm l)(hno:∀g∈l,g.nm≠f.nm)(m:numS f.nm≠0)(j:∀g∈segs l,numS g.nm<numS f.nm):segs (withB FiD.nm l f)=segs l++[f]:=by
 rw[Zev hno];have c:ahd FiD.nm l f.nm++bhd FiD.nm l f.nm=l:=Wl
 have k:segs (bhd FiD.nm l f.nm)=[]:=by
  apply List.filter_eq_nil_iff.2;intro x n b;have o:x∈l:=by rw[←c];exact List.mem_append.2 (.inr n)
  have q:numS x.nm≠0:=(by simpa[isSeg]using b);have C:=j x (List.mem_filter.2 ⟨o,b⟩);obtain⟨w,e1⟩:=Zc4 q;obtain⟨A,e2⟩:=Zc4 m;have s:nlt x.nm f.nm:=by rw[e1,e2];exact Zuj w A C
  have d:∀y∈bhd FiD.nm l f.nm,¬nlt y.nm f.nm:=by
   intro y a h;have i:srt FiD.nm (bhd FiD.nm l f.nm):=by have:=v;rw[←c]at this;exact(List.pairwise_append.1 this).2.1
   cases hbb:bhd FiD.nm l f.nm with
   |nil=>rw[hbb]at a;cases a
   |cons z r=>
    have t:¬nlt z.nm f.nm:=by
     have:=List.head?_dropWhile_not (p:=λg:FiD=>decide (nlt g.nm f.nm)) l;unfold bhd at hbb;rw[hbb]at this
     simpa using this
    rw[hbb]at a i
    rcases List.mem_cons.1 a with rfl|a
    ·exact t h
    ·have D:nlt z.nm y.nm:=(List.pairwise_cons.1 i).1 y a;exact t (WV D h)
  exact d x n s
 have e:segs l=segs (ahd FiD.nm l f.nm):=by
  conv=>lhs;rw[←c,Zvy,k,List.append_nil]
 show segs (ahd FiD.nm l f.nm++f::bhd FiD.nm l f.nm)=_;rw[Zvy,e];congr 1
 show segs (f::bhd FiD.nm l f.nm)=[f]
 have u:isSeg f=true:=(by simp[isSeg,m]);unfold segs at k⊢;rw[List.filter_cons,u,if_pos rfl,k]
def byF(f:FiD):List Int:=(f.su++f.lo).map λb=>(b.toNat:Int)
open Classical in
noncomputable def scF(f:FiD):Sc:=if h:∃d st,RdO (byF f) d st then h.choose else sc0
theorem scF_eq{f:FiD}{d:Sc}{st:Int}(h:RdO (byF f) d st):scF f=d:=by
 have a:∃d st,RdO (byF f) d st:=⟨d,st,h⟩
 unfold scF;rw[dif_pos a];obtain⟨c,b⟩:=a.choose_spec;exact(rdO_uniq b h).1
theorem rdO_self{d:Sc}(h:ScOK d):RdO (segL d) d (endW 1 d.sl):=by
 refine⟨h,List.prefix_rfl,.inl ⟨1,(nextR []).2.1,(nextR []).2.2.1,(nextR []).2.2.2,by decide,?_,rfl⟩⟩;rw[List.drop_length];rfl
theorem Zbo{f:FiD}{d:Sc}(h:ScOK d)(a:byF f=segL d):scF f=d:=scF_eq (st:=endW 1 d.sl) (by rw[a];exact rdO_self h)
theorem byF_app(s:ByteArray)(a c x:List UInt8):byF ⟨s,a,c++x⟩=byF ⟨s,a,c⟩++x.map λb=>(b.toNat:Int):=by
 unfold byF;simp
end Jou
namespace Jou
open Go Go.Px Go.Proofs Cod Seg Sgr Snp Sx Row Tryz
open Classical in
noncomputable def newF(l:List FiD):Option StD:=if h:∃s,Best l (some s)then some h.choose else none
theorem Ztl{l:List FiD}{o:Option StD}(b:srt FiD.nm l)(h:Best l o):newF l=o:=by
 unfold newF
 cases o with
 |none=>rw[dif_neg];rintro⟨s,c⟩;exact h s c.1
 |some s=>
  have a:∃s,Best l (some s):=⟨s,h⟩
  rw[dif_pos a];exact congrArg some (Zqn b a.choose_spec h)
theorem Zf8{s:ByteArray}(h:numS s≠0)(q:Int):s≠snNm q:=by
 intro e;obtain⟨_,e2⟩:=Zc4 h;have:=congrArg (λb:ByteArray=>b.data.toList.length) (e.symm.trans e2);simp only[Ze0,Zcb,List.length_append,Zdm]at this;simp at this
theorem cand_seg{l:List FiD}{f:FiD}(b:numS f.nm≠0)(t:StD):Cand (withB FiD.nm l f) t↔Cand l t:=by
 constructor
 ·rintro⟨g,a,h⟩
  rcases Zc0.1 a with rfl|⟨a,_⟩
  ·exact absurd h.2.1 (Zf8 b _)
  ·exact⟨g,a,h⟩
 ·rintro⟨g,a,h⟩;exact⟨g,Zc0.2 (.inr ⟨a,λe=>Zf8 b _ (e.symm.trans h.2.1)⟩),h⟩
theorem Zys{l a:List FiD}(h:∀t,Cand l t↔Cand a t){o:Option StD}:Best l o↔Best a o:=by
 cases o with
 |none=>exact⟨λg t q=>g t ((h t).2 q),λg t q=>g t ((h t).1 q)⟩
 |some s=>exact⟨λg=>⟨(h s).1 g.1,λt q=>g.2 t ((h t).2 q)⟩,λg=>⟨(h s).2 g.1,λt q=>g.2 t ((h t).1 q)⟩⟩
theorem Znm{l a:List FiD}(h:∀t,Cand l t↔Cand a t):newF l=newF a:=by
 have e:Best l=Best a:=funext λo=>propext (Zys h);unfold newF;rw[e]
theorem Zwm{l:List FiD}{f:FiD}(a:numS f.nm≠0):newF (withB FiD.nm l f)=newF l:=Znm λt=>cand_seg a t
noncomputable def keptF(l:List FiD):Int:=match newF l with|none=>0|some s=>s.q
noncomputable def baseF(l:List FiD):StD:=match newF l with|none=>st0|some s=>s
def toE(e:Cod.EvD):Cmp.EvD:=⟨e.s,e.a,e.k,e.c,e.x,e.y,e.z⟩
def evsR(r:List Pt):List Cmp.EvD:=r.flatMap λp=>p.d.ev.map toE
def stR(r:List Pt)(k:Int)(s:StD):StD:=(foldS s ((evsR r).filter λe=>decide (k<e.s))).1
structure GoodR(r:List Pt)(k:Int)(s:StD):Prop where
 bs:∀p∈r.head?,p.d.bs≤k
 cnt:∀p∈r,(p.d.ev.length:Int)=p.d.s-p.d.bs
 app:(foldS s ((evsR r).filter λe=>decide (k<e.s))).2.2=0
 at_:∀p∈r.getLast?,p.d.a=(stR r k s).t
theorem Zi9:∀(l:List Cmp.EvD) (d:StD) (e:Cmp.EvD),(foldS d l).2.2=0→(appS (foldS d l).1 e).2=0→(foldS d (l++[e])).1=(appS (foldS d l).1 e).1∧(foldS d (l++[e])).2.2=0
 | [],d,e,_,h=>by simp only[foldS]at h⊢;rw[List.nil_append,foldS,if_neg (by simpa using h)];exact⟨rfl,rfl⟩
 |x::l,d,e,h0,h=>by
  rw[foldS]at h0 h;rw[List.cons_append,foldS,foldS];by_cases hx:(appS d x).2≠0
  ·rw[if_pos hx]at h0;exact absurd h0 hx
  ·rw[if_neg hx]at h0 h⊢;rw[if_neg hx];exact Zi9 l _ e h0 h
theorem Zwn{d:StD}{e:Cmp.EvD}(h:(appS d e).2=0):(appS d e).1.q=e.s∧(appS d e).1.t=e.a:=by
 unfold appS at h⊢
 split
 ·rename_i g;rw[if_pos g]at h;exact absurd h g
 ·exact⟨rfl,rfl⟩
theorem Zgn(a b:List Pt):evsR (a++b)=evsR a++evsR b:=by unfold evsR;rw[List.flatMap_append]
theorem goodR_add{b:List Pt}{p q:Pt}{k:Int}{s:StD}{e:Cod.EvD}(h:GoodR (b++[p]) k s)(f:q.d.bs=p.d.bs)(i:q.d.ev=p.d.ev++[e])(m:q.d.s=e.s)(n:q.d.a=e.a)(j:e.s=p.d.s+1)(o:k<e.s)(ok:(appS (stR (b++[p]) k s) (toE e)).2=0):
  GoodR (b++[q]) k s∧stR (b++[q]) k s=(appS (stR (b++[p]) k s) (toE e)).1:=by
 have l:(evsR (b++[q])).filter (λe=>decide (k<e.s))=(evsR (b++[p])).filter (λe=>decide (k<e.s))++[toE e]:=(by rw[Zgn,Zgn];have u:evsR [q]=evsR [p]++[toE e]:=(by simp[evsR,i]);rw[u,←List.append_assoc,List.filter_append];congr 1;simp[toE,o]);obtain⟨r,t⟩:=Zi9 _ s (toE e) h.app (by have:=ok;unfold stR at this;exact this);have hst:stR (b++[q]) k s=(appS (stR (b++[p]) k s) (toE e)).1:=(by unfold stR;rw[l,r]);refine⟨⟨?_,?_,?_,?_⟩,hst⟩
 ·intro x c
  cases b with
  |nil=>have:x=q:=(by simpa using c.symm);subst this;rw[f];exact h.bs p (by simp)
  |cons g b=>exact h.bs x (by simpa using c)
 ·intro x c
  rcases List.mem_append.1 c with c|c
  ·exact h.cnt x (by simp[c])
  ·have:x=q:=(by simpa using c);subst this;have:=h.cnt p (by simp);rw[i,f,m,j,List.length_append];simp only[Wk];omega
 ·rw[l];exact t
 ·intro x c;have:x=q:=(by simpa using c.symm);subst this;rw[hst,(Zwn ok).2,n];rfl
theorem Zyt{b:List Pt}{p q:Pt}{k:Int}{s:StD}(h:GoodR (b++[p]) k s)(e:q.d.bs=p.d.bs)(f:q.d.ev=p.d.ev)(j:q.d.s=p.d.s)(l:q.d.a=p.d.a):
  GoodR (b++[q]) k s∧stR (b++[q]) k s=stR (b++[p]) k s:=by
 have i:evsR (b++[q])=evsR (b++[p]):=(by rw[Zgn,Zgn];simp[evsR,f]);have hst:stR (b++[q]) k s=stR (b++[p]) k s:=(by unfold stR;rw[i]);refine⟨⟨?_,?_,by rw[i];exact h.app,?_⟩,hst⟩
 ·intro x c
  cases b with
  |nil=>have:x=q:=(by simpa using c.symm);subst this;rw[e];exact h.bs p (by simp)
  |cons g b=>exact h.bs x (by simpa using c)
 ·intro x c
  rcases List.mem_append.1 c with c|c
  ·exact h.cnt x (by simp[c])
  ·have:x=q:=(by simpa using c);subst this;have:=h.cnt p (by simp);rw[f,e,j];exact this
 ·intro x c;have:x=q:=(by simpa using c.symm);subst this;rw[hst,l];exact h.at_ p (by simp)
theorem goodR_new{r:List Pt}{q:Pt}{k:Int}{s:StD}{e:Cod.EvD}(h:GoodR r k s)(c:q.d.ev=[e])(l:q.d.s=e.s)(m:q.d.a=e.a)(f:e.s=q.d.bs+1)(n:k<e.s)(i:r=[]→q.d.bs≤k)(ok:(appS (stR r k s) (toE e)).2=0):
  GoodR (r++[q]) k s∧stR (r++[q]) k s=(appS (stR r k s) (toE e)).1:=by
 have j:(evsR (r++[q])).filter (λe=>decide (k<e.s))=(evsR r).filter (λe=>decide (k<e.s))++[toE e]:=(by rw[Zgn,List.filter_append];congr 1;simp[evsR,c,toE,n]);obtain⟨o,p⟩:=Zi9 _ s (toE e) h.app (by have:=ok;unfold stR at this;exact this);have hst:stR (r++[q]) k s=(appS (stR r k s) (toE e)).1:=(by unfold stR;rw[j,o]);refine⟨⟨?_,?_,by rw[j];exact p,?_⟩,hst⟩
 ·intro x b
  cases r with
  |nil=>have:x=q:=(by simpa using b.symm);subst this;exact i rfl
  |cons g t=>exact h.bs x (by simpa using b)
 ·intro x b
  rcases List.mem_append.1 b with b|b
  ·exact h.cnt x b
  ·have:x=q:=(by simpa using b);subst this;rw[c,l,f];simp only[Wk];omega
 ·intro x b;have:x=q:=(by simpa using b.symm);subst this;rw[hst,(Zwn ok).2,m];rfl
theorem Zg5(f:FiD):(byF f).length=f.len:=by unfold byF FiD.len;simp
theorem Zgx{f:FiD}(h:(scF f).num≠0):ScOK (scF f)∧segL (scF f)<+:byF f:=by
 by_cases hx:∃d b,RdO (byF f) d b
 ·obtain⟨d,b,a⟩:=hx;rw[scF_eq a];exact⟨a.ok,a.pre⟩
 ·exfalso;apply h;unfold scF;rw[dif_neg hx];rfl
theorem scF_all{f:FiD}(h:(scF f).num≠0)(a:f.len=(segL (scF f)).length):byF f=segL (scF f):=by
 obtain⟨_,b⟩:=Zgx h;exact(b.eq_of_length (by rw[Zg5,a])).symm
theorem foll_same{d b a:Sc}(c:b.num=d.num)(e:b.bs=d.bs)(f:b.ba=d.ba):foll b a↔foll d a:=by
 unfold foll;rw[c,e,f]
theorem row_last{l i:List FiD}{g f:FiD}{b:Sc}(p:srt FiD.nm l)(c:inRow scF none (segs l))(e:segs l=i++[g])(k:g.nm=f.nm)(m:ScOK b)(q:byF f=segL b)(n:b.num=(scF g).num)(r:b.bs=(scF g).bs)(s:b.ba=(scF g).ba):
  inRow scF none (segs (withB FiD.nm l f))∧rowsD scF (withB FiD.nm l f)=(i.map (ptF scF)++[⟨b,f.len⟩],[])∧segs (withB FiD.nm l f)=i++[f]:=by
 have d:=Zq0 p e k;have j:scF f=b:=Zbo m q;rw[e,Zew]at c
 have h:inRow scF none (segs (withB FiD.nm l f)):=by
  rw[d,Zew];refine⟨c.1,by rw[j,n,c.2.1,k],?_⟩;have o:=c.2.2
  cases hg:(i.getLast?.map scF).or none with
  |none=>trivial
  |some a=>rw[hg]at o;rw[j];exact(foll_same n r s).2 o
 refine⟨h,?_,d⟩;rw[Zoc h,d,List.map_append];simp[ptF,j]
theorem row_new{l:List FiD}{f:FiD}{a:Sc}(m:srt FiD.nm l)(i:inRow scF none (segs l))(hno:∀g∈l,g.nm≠f.nm)(j:numS f.nm≠0)(d:∀g∈segs l,numS g.nm<numS f.nm)(k:ScOK a)(n:byF f=segL a)(o:a.num=numS f.nm)(e:∀g,(segs l).getLast?=some g→foll a (scF g)):
  inRow scF none (segs (withB FiD.nm l f))∧rowsD scF (withB FiD.nm l f)=((segs l).map (ptF scF)++[⟨a,f.len⟩],[])∧segs (withB FiD.nm l f)=segs l++[f]:=by
 have b:=segs_new m hno j d;have h:scF f=a:=Zbo k n
 have c:inRow scF none (segs (withB FiD.nm l f)):=by
  rw[b,Zew];refine⟨i,by rw[h,o],?_⟩
  cases hg:(segs l).getLast? with
  |none=>trivial
  |some g=>show foll (scF f) (scF g);rw[h];exact e g hg
 refine⟨c,?_,b⟩;rw[Zoc c,b,List.map_append];simp[ptF,h]
structure SgD where
 num:Int
 fi:Int
 la:Int
 fr:Int
 ti:Int
 sz:Int
 sl:Bool
deriving DecidableEq
structure CxD where
 s:Int
 a:Int
 m:List ByteArray
deriving DecidableEq
structure JoD where
 dk:DiD
 cb:Int
 cg:Int
 sg:List SgD
 cx:CxD
 st:StD
 sure:Int
 kept:Int
 shut:Bool
def sgOf(p:Pt):SgD:=⟨p.d.num,p.d.bs,p.d.s,p.d.ba,p.d.a,(segL p.d).length,p.d.sl⟩
def Zbl(r:List Pt):CxD:=match r.getLast? with|none=>⟨0,0,[]⟩|some p=>if p.d.sl=true then⟨0,0,[]⟩else⟨p.d.s,p.d.a,p.d.m⟩
def mayC(b g:Int):Prop:=64≤b∧b≤65536∧1≤g∧g≤1099511627776
noncomputable def rowK(l:List FiD):List Pt×List ByteArray:=match(rowsD scF l).1.getLast? with
 |none=>rowsD scF l
 |some p=>if p.d.s<keptF l then([],(rowsD scF l).1.map (λp=>segNm p.d.num)++(rowsD scF l).2)else rowsD scF l
noncomputable def anewJ(a:DiD)(d e b:Int)(c:Bool):JoD:=
 ⟨a,d,e,(rowK a.fs).1.map sgOf,Zbl (rowK a.fs).1,stR (rowK a.fs).1 (keptF a.fs) (baseF a.fs),b,keptF a.fs,c⟩
structure RightJ(j:JoD):Prop where
 cfg:mayC j.cb j.cg
 dk:j.dk.P
 up:j.dk.dn=false
 out:(rowK j.dk.fs).2=[]
 good:GoodR (rowK j.dk.fs).1 (keptF j.dk.fs) (baseF j.dk.fs)
 all:∀p∈(rowK j.dk.fs).1,p.n=(segL p.d).length
 eq:j=anewJ j.dk j.cb j.cg j.sure j.shut
 sure:keptF j.dk.fs≤j.sure∧j.sure≤j.st.q
structure DkR(l gs:List FiD):Prop where
 srt:srt FiD.nm l
 eq:segs l=gs
 inr:inRow scF none gs
 kept:∀p,(gs.map (ptF scF)).getLast?=some p→keptF l≤p.d.s
theorem Zc5{l a:List FiD}(h:DkR l a):rowK l=(a.map (ptF scF),[]):=by
 have e:rowsD scF l=(a.map (ptF scF),[]):=(by rw[Zoc (by rw[h.eq];exact h.inr),h.eq]);unfold rowK;rw[e]
 cases hg:(a.map (ptF scF)).getLast? with
 |none=>rfl
 |some p=>have:=h.kept p hg;simp only;rw[if_neg (by omega)]
theorem dkR_of{l:List FiD}(c:srt FiD.nm l)(h:(rowK l).2=[]):DkR l (segs l):=by
 have a:(rowsD scF l).2=[]∧∀p,(rowsD scF l).1.getLast?=some p→keptF l≤p.d.s:=by
  unfold rowK at h
  cases hg:(rowsD scF l).1.getLast? with
  |none=>rw[hg]at h;exact⟨h,λp q=>by cases q⟩
  |some p=>
   rw[hg]at h;simp only at h
   split at h
   ·exfalso;have:=List.append_eq_nil_iff.1 h;have g:(rowsD scF l).1=[]:=(by simpa using this.1);rw[g]at hg;cases hg
   ·exact⟨h,λq e=>by cases e;omega⟩
 have b:=rows_iff.1 a.1;refine⟨c,rfl,b,λp f=>a.2 p ?_⟩;rw[Zoc b];exact f
theorem Zcg{l:List FiD}{f:FiD}(a:numS f.nm≠0):keptF (withB FiD.nm l f)=keptF l:=by unfold keptF;rw[Zwm a]
theorem Zdq{l:List FiD}{f:FiD}(a:numS f.nm≠0):baseF (withB FiD.nm l f)=baseF l:=by unfold baseF;rw[Zwm a]
def Cns:Int→List Cmp.EvD→Int→Prop
 |a,[],b=>a=b
 |a,e::l,b=>e.s=a+1∧Cns e.s l b
theorem cns_app:∀{l m:List Cmp.EvD} {a b c:Int},Cns a l b→Cns b m c→Cns a (l++m) c
 | [],m,a,b,c,h,k=>by simp only[Cns]at h;subst h;exact k
 |e::l,m,a,b,c,h,k=>⟨h.1,cns_app h.2 k⟩
theorem Zus:∀(l:List Cod.EvD) (s a:Int) (m:List ByteArray),okL s a m l→(fin3 s a m l).1=s+l.length→Cns s (l.map toE) (fin3 s a m l).1
 | [],s,a,m,_,_=>rfl
 |e::l,s,a,m,h,hf=>by obtain⟨f,b⟩:=h;have g:=Zl9 l e.s e.a (bhdN m e.c) b;have i:=f.seq;have d:(fin3 e.s e.a (bhdN m e.c) l).1=s+(l.length+1):=(by have:(fin3 s a m (e::l)).1=(fin3 e.s e.a (bhdN m e.c) l).1:=rfl;rw[←this,hf,List.length_cons];omega);have e1:e.s=s+1:=(by omega);refine⟨e1,?_⟩;exact Zus l e.s e.a (bhdN m e.c) b (by rw[d];omega)
theorem Zut{d:Sc}(h:ScOK d)(b:d.num≠0)(c:(d.ev.length:Int)=d.s-d.bs):Cns d.bs (d.ev.map toE) d.s:=by
 have a:=h.fin b;simp only[WX]at a;have:=Zus d.ev d.bs d.ba [] (h.evs b) (by rw[←a.1];omega);rw[←a.1]at this;exact this
theorem cns_row:∀(b:List FiD) (g:FiD),inRow scF none (b++[g])→(∀f∈b++[g],numS f.nm≠0)→(∀p∈(b++[g]).map (ptF scF),(p.d.ev.length:Int)=p.d.s-p.d.bs)→∀p∈((b++[g]).map (ptF scF)).head?,Cns p.d.bs (evsR ((b++[g]).map (ptF scF))) (scF g).s:=by
 intro b
 induction hlen:b.length generalizing b with
 |zero=>
  have:b=[]:=List.length_eq_zero_iff.1 hlen;subst this;intro g h j l p m;have e:p=ptF scF g:=(by simpa using m.symm);subst e;have c:(scF g).num≠0:=(by have:=h.1;rw[this];exact j g (by simp));have:=Zut (Zgx c).1 c (l (ptF scF g) (by simp))
  simpa[evsR,ptF]using this
 |succ k o=>
  rcases Y2 b with rfl|⟨b,x,rfl⟩
  ·simp at hlen
  rw[List.concat_eq_append]at hlen⊢;have o:=o b (by simpa using hlen);intro g h j l p m;rw[Zew]at h;obtain⟨v,w,z⟩:=h;have c:(scF g).num≠0:=by rw[w];exact j g (by simp)
  have t:p∈((b++[x]).map (ptF scF)).head?:=by
   cases b with
   |nil=>simpa using m
   |cons y b=>simpa using m
  have C:=o x v (λf i=>j f (by simp at i⊢;rcases i with i|i;exact .inl i;exact .inr (.inl i))) (λq r=>l q (by simp at r⊢;rcases r with⟨a,A,e⟩|e;exact .inl ⟨a,A,e⟩;exact .inr (.inl e))) p t;have u:foll (scF g) (scF x):=(by simpa using z);have n:=Zut (Zgx c).1 c (l (ptF scF g) (by simp));rw[u.2.2.1]at n;rw[List.map_append,Zgn];refine cns_app C ?_
  simpa[evsR,ptF]using n
theorem Zm0:∀{l:List Cmp.EvD} {a b:Int} (k:Int),Cns a l b→a≤k→k≤b→Cns k (l.filter λe=>decide (k<e.s)) b
 | [],a,b,k,h,h1,h2=>by simp only[Cns]at h;subst h;show Cns k [] a;simp only[Cns];omega
 |e::l,a,b,k,h,h1,h2=>by
  obtain⟨f,d⟩:=h;rw[List.filter_cons];by_cases hk:k<e.s
  ·rw[if_pos (by simpa using hk)];have e1:k=a:=(by omega);subst e1;refine⟨f,?_⟩
   have:(l.filter λe=>decide (k<e.s))=l:=by
    apply List.filter_eq_self.2;intro x c
    have g:∀{l:List Cmp.EvD} {a b:Int},Cns a l b→∀x∈l,a<x.s:=by
     intro l
     induction l with
     |nil=>intro a b _ x c;cases c
     |cons y l i=>
      intro a b h x c
      rcases List.mem_cons.1 c with rfl|c
      ·have:=h.1;omega
      ·have:=i h.2 x c;have:=h.1;omega
    have:=g d x c;simp;omega
   rw[this];exact d
  ·rw[if_neg (by simpa using hk)];exact Zm0 k d (by omega) h2
theorem fold_q:∀{l:List Cmp.EvD} {d:StD} {b:Int},Cns d.q l b→(foldS d l).2.2=0→(foldS d l).1.q=b
 | [],d,b,h,_=>h
 |e::l,d,b,h,h0=>by
  rw[foldS]at h0⊢;by_cases a:(appS d e).2≠0
  ·rw[if_pos a]at h0;exact absurd h0 a
  ·rw[if_neg a]at h0⊢;have a:(appS d e).2=0:=(by simpa using a);refine fold_q ?_ h0;rw[(Zwn a).1];exact h.2
theorem Zm1(l:List FiD):(baseF l).q=keptF l:=by
 unfold baseF keptF
 cases newF l<;>rfl
theorem stR_q{l a:List FiD}{g:FiD}(h:DkR l (a++[g]))(b:GoodR ((a++[g]).map (ptF scF)) (keptF l) (baseF l)):(stR ((a++[g]).map (ptF scF)) (keptF l) (baseF l)).q=(scF g).s:=by
 have c:∀f∈a++[g],numS f.nm≠0:=by rw[←h.eq];exact Zbk
 obtain⟨p,hp⟩:∃p,((a++[g]).map (ptF scF)).head?=some p:=by
  cases a with
  |nil=>exact⟨_,rfl⟩
  |cons y a=>exact⟨_,rfl⟩
 have d:=cns_row a g h.inr c b.cnt p hp;have e:=b.bs p hp;have i:=h.kept (ptF scF g) (by simp);have j:=Zm0 (keptF l) d e i;unfold stR;exact fold_q (by rw[Zm1];exact j) b.app
theorem RightJ.dkr{j:JoD}(h:RightJ j):DkR j.dk.fs (segs j.dk.fs):=dkR_of h.dk.2.2.2 h.out
theorem RightJ.row{j:JoD}(h:RightJ j):(rowK j.dk.fs).1=(segs j.dk.fs).map (ptF scF):=by rw[Zc5 h.dkr]
theorem DkR.bytes{l b:List FiD}(h:DkR l b)(k:∀p∈b.map (ptF scF),p.n=(segL p.d).length):∀f∈b,ScOK (scF f)∧byF f=segL (scF f)∧(scF f).num=numS f.nm∧numS f.nm≠0:=by
 intro f a;have e:numS f.nm≠0:=Zbk f (by rw[h.eq];exact a)
 have g:∀(l:List FiD) (p:Option Sc),inRow scF p l→∀f∈l,(scF f).num=numS f.nm:=by
  intro l
  induction l with
  |nil=>intro p _ f a;cases a
  |cons x l m=>
   intro p c f a
   rcases List.mem_cons.1 a with rfl|a
   ·exact c.1
   ·exact m _ c.2.2 f a
 have i:=g b none h.inr f a;have j:(scF f).num≠0:=(by rw[i];exact e);exact⟨(Zgx j).1,scF_all j (k (ptF scF f) (Y3.2 ⟨f,a,rfl⟩)),i,e⟩
theorem Zk1{l b:List FiD}{g f:FiD}{a:Sc}(h:DkR l (b++[g]))(o:g.nm=f.nm)(i:numS f.nm≠0)(c:ScOK a)(j:byF f=segL a)(q:a.num=(scF g).num)(r:a.bs=(scF g).bs)(t:a.ba=(scF g).ba)(u:keptF l≤a.s):
  DkR (withB FiD.nm l f) (b++[f])∧rowK (withB FiD.nm l f)=(b.map (ptF scF)++[⟨a,f.len⟩],[]):=by
 have m:inRow scF none (segs l):=(by rw[h.eq];exact h.inr);obtain⟨w,x,k⟩:=row_last h.srt m h.eq o c j q r t;have d:scF f=a:=Zbo c j
 have n:DkR (withB FiD.nm l f) (b++[f]):=⟨Zbn h.srt,k,by rw[←k];exact w,λp v=>by
  have e:p=ptF scF f:=(by simpa using v.symm);subst e;rw[Zcg i];show keptF l≤(scF f).s
  rw[d];exact u⟩
 refine⟨n,?_⟩;rw[Zc5 n,List.map_append];simp[ptF,d]
theorem rowK_new{l a:List FiD}{f:FiD}{d':Sc}(h:DkR l a)(hno:∀g∈l,g.nm≠f.nm)(b:numS f.nm≠0)(i:∀g∈a,numS g.nm<numS f.nm)(c:ScOK d')(m:byF f=segL d')(q:d'.num=numS f.nm)(j:∀g,a.getLast?=some g→foll d' (scF g))(r:keptF l≤d'.s):
  DkR (withB FiD.nm l f) (a++[f])∧rowK (withB FiD.nm l f)=(a.map (ptF scF)++[⟨d',f.len⟩],[]):=by
 have n:inRow scF none (segs l):=(by rw[h.eq];exact h.inr);obtain⟨u,v,k⟩:=row_new h.srt n hno b (by rw[h.eq];exact i) c m q (by rw[h.eq];exact j);rw[h.eq]at k;have d:scF f=d':=Zbo c m
 have o:DkR (withB FiD.nm l f) (a++[f]):=⟨Zbn h.srt,k,by rw[←k];exact u,λp t=>by
  have e:p=ptF scF f:=(by simpa using t.symm);subst e;rw[Zcg b];show keptF l≤(scF f).s
  rw[d];exact r⟩
 refine⟨o,?_⟩;rw[Zc5 o,List.map_append];simp[ptF,d]
structure Par(j:JoD)(gs:List FiD):Prop where
 dkr:DkR j.dk.fs gs
 good:GoodR (gs.map (ptF scF)) (keptF j.dk.fs) (baseF j.dk.fs)
 all:∀p∈gs.map (ptF scF),p.n=(segL p.d).length
 st:j.st=stR (gs.map (ptF scF)) (keptF j.dk.fs) (baseF j.dk.fs)
 sg:j.sg=(gs.map (ptF scF)).map sgOf
 cx:j.cx=Zbl (gs.map (ptF scF))
 kept:j.kept=keptF j.dk.fs
theorem RightJ.par{j:JoD}(h:RightJ j):Par j (segs j.dk.fs):=by
 have d:=h.row;have e:=h.good;have f:=h.all;have a:=h.eq;rw[d]at e f;have e1:j.st=(anewJ j.dk j.cb j.cg j.sure j.shut).st:=congrArg JoD.st a;have e2:j.sg=(anewJ j.dk j.cb j.cg j.sure j.shut).sg:=congrArg JoD.sg a;have b:j.cx=(anewJ j.dk j.cb j.cg j.sure j.shut).cx:=congrArg JoD.cx a;have c:j.kept=(anewJ j.dk j.cb j.cg j.sure j.shut).kept:=congrArg JoD.kept a;unfold anewJ at e1 e2 b c;simp only at e1 e2 b c;rw[d]at e1 e2 b;exact⟨h.dkr,e,f,e1,e2,b,c⟩
theorem Par.q{j:JoD}{a:List FiD}{g:FiD}(h:Par j (a++[g])):j.st.q=(scF g).s:=by rw[h.st];exact stR_q h.dkr h.good
theorem Par.q0{j:JoD}(h:Par j []):j.st.q=j.kept:=by
 rw[h.st,h.kept];show(baseF j.dk.fs).q=_;exact Zm1 _
theorem Par.kq{j:JoD}{a:List FiD}(h:Par j a):j.kept≤j.st.q:=by
 rcases Y2 a with rfl|⟨a,g,rfl⟩
 ·rw[h.q0];exact Int.le_refl _
 ·rw[List.concat_eq_append]at h;rw[h.q,h.kept];exact h.dkr.kept (ptF scF g) (by simp)
theorem anew_add{j:JoD}{i:List FiD}{g:FiD}(h:Par j (i++[g]))(A:(scF g).sl=false){e:Cod.EvD}(Z:e.s=j.st.q+1)(ok:EncOK (scF g).s (scF g).a (scF g).m e)(N:(appS j.st (toE e)).2=0){x:List UInt8}(O:(x.map λb=>(b.toNat:Int))=recB (scF g) e){d:DiD}(o:d.fs=withB FiD.nm j.dk.fs ⟨g.nm,g.su,g.lo++x⟩)(t u k:Int)(l:Bool):
  anewJ d t u k l=⟨d,t,u,((i.map (ptF scF)).map sgOf)++[sgOf ⟨addS (scF g) e,g.len+x.length⟩],⟨e.s,e.a,bhdN (scF g).m e.c⟩,(appS j.st (toE e)).1,k,j.kept,l⟩∧
   Par (anewJ d t u k l) (i++[⟨g.nm,g.su,g.lo++x⟩]):=by
 have W:=h.dkr.bytes h.all g (by simp);obtain⟨P,Q,b3,y⟩:=W;have E:(scF g).num≠0:=(by rw[b3];exact y);obtain⟨G,R⟩:=Zza P E A ok;have v:byF ⟨g.nm,g.su,g.lo++x⟩=segL (addS (scF g) e):=(by rw[byF_app,O,R,←Q]);have hq:=h.q;have a0:=h.kq;have X:keptF j.dk.fs≤(addS (scF g) e).s:=(by show _≤e.s;rw[←h.kept];omega);obtain⟨T,H⟩:=Zk1 (f:=⟨g.nm,g.su,g.lo++x⟩) h.dkr rfl y G v rfl rfl rfl X;have n:(⟨g.nm,g.su,g.lo++x⟩:FiD).len=g.len+x.length:=(by unfold FiD.len;simp;omega);rw[n]at H;have J:=h.good;rw[List.map_append]at J;have hst:=h.st;rw[List.map_append]at hst
 obtain⟨U,V⟩:=goodR_add (p:=ptF scF g) (q:=⟨addS (scF g) e,g.len+x.length⟩) J rfl rfl rfl rfl (by show e.s=(scF g).s+1;omega) (by rw[←h.kept];omega) (by
  have:stR (i.map (ptF scF)++[ptF scF g]) (keptF j.dk.fs) (baseF j.dk.fs)=j.st:=hst.symm
  rw[this];exact N)
 have C:keptF d.fs=keptF j.dk.fs:=(by rw[o];exact Zcg y);have D:baseF d.fs=baseF j.dk.fs:=(by rw[o];exact Zdq y);have z:rowK d.fs=(i.map (ptF scF)++[⟨addS (scF g) e,g.len+x.length⟩],[]):=(by rw[o];exact H);have F:stR (i.map (ptF scF)++[⟨addS (scF g) e,g.len+x.length⟩]) (keptF j.dk.fs) (baseF j.dk.fs)=(appS j.st (toE e)).1:=(by rw[V];have:stR (i.map (ptF scF)++[ptF scF g]) (keptF j.dk.fs) (baseF j.dk.fs)=j.st:=hst.symm;rw[this]);have K:Zbl (i.map (ptF scF)++[⟨addS (scF g) e,g.len+x.length⟩])=⟨e.s,e.a,bhdN (scF g).m e.c⟩:=(by unfold Zbl;rw[List.getLast?_concat];simp[addS,A]);have L:anewJ d t u k l=⟨d,t,u,((i.map (ptF scF)).map sgOf)++[sgOf ⟨addS (scF g) e,g.len+x.length⟩],⟨e.s,e.a,bhdN (scF g).m e.c⟩,(appS j.st (toE e)).1,k,j.kept,l⟩:=(by unfold anewJ;rw[z,C,D,F,K,List.map_append,h.kept];rfl);refine⟨L,?_⟩;have M:scF ⟨g.nm,g.su,g.lo++x⟩=addS (scF g) e:=Zbo G v;have w:(i++[(⟨g.nm,g.su,g.lo++x⟩:FiD)]).map (ptF scF)=i.map (ptF scF)++[⟨addS (scF g) e,g.len+x.length⟩]:=(by rw[List.map_append];simp only[List.map_cons,List.map_nil,ptF,M,n]);refine⟨?_,?_,?_,?_,?_,?_,?_⟩
 ·show DkR d.fs _;rw[o];exact T
 ·show GoodR _ (keptF d.fs) (baseF d.fs);rw[w,C,D];exact U
 ·intro p r;rw[w]at r
  rcases List.mem_append.1 r with r|r
  ·exact h.all p (by rw[List.map_append];exact List.mem_append.2 (.inl r))
  ·have Y:p=⟨addS (scF g) e,g.len+x.length⟩:=(by simpa using r);subst Y;show g.len+x.length=_;rw[←n,←Zg5,v]
 ·show stR (rowK d.fs).1 _ _=stR _ (keptF d.fs) (baseF d.fs);rw[w,z]
 ·show(rowK d.fs).1.map sgOf=_;rw[w,z]
 ·show Zbl (rowK d.fs).1=_;rw[w,z]
 ·rfl
theorem par_of{j:JoD}{a:DiD}{b:List FiD}{f:FiD}{c:Sc}{S:StD}(o:∀p∈b.map (ptF scF),p.n=(segL p.d).length)(u:DkR a.fs (b++[f]))(s:scF f=c)(t:byF f=segL c)(k:rowK a.fs=(b.map (ptF scF)++[⟨c,f.len⟩],[]))
  (l:keptF a.fs=keptF j.dk.fs) (m:baseF a.fs=baseF j.dk.fs) (v:j.kept=keptF j.dk.fs) (w:GoodR (b.map (ptF scF)++[⟨c,f.len⟩]) (keptF j.dk.fs) (baseF j.dk.fs)) (hst:stR (b.map (ptF scF)++[⟨c,f.len⟩]) (keptF j.dk.fs) (baseF j.dk.fs)=S) (q r e:Int) (g:Bool):
  anewJ a q r e g=⟨a,q,r,((b.map (ptF scF)).map sgOf)++[sgOf ⟨c,f.len⟩],Zbl (b.map (ptF scF)++[⟨c,f.len⟩]),S,e,j.kept,g⟩∧Par (anewJ a q r e g) (b++[f]):=by
 have i:(b++[f]).map (ptF scF)=b.map (ptF scF)++[⟨c,f.len⟩]:=(by rw[List.map_append];simp only[List.map_cons,List.map_nil,ptF,s]);refine⟨?_,⟨u,?_,?_,?_,?_,?_,rfl⟩⟩
 ·unfold anewJ;rw[k,l,m,hst,List.map_append,v];rfl
 ·show GoodR _ (keptF a.fs) (baseF a.fs);rw[i,l,m];exact w
 ·intro p h;rw[i]at h
  rcases List.mem_append.1 h with h|h
  ·exact o p h
  ·have x:p=⟨c,f.len⟩:=(by simpa using h);subst x;show f.len=_;rw[←Zg5,t]
 ·show stR (rowK a.fs).1 _ _=stR _ (keptF a.fs) (baseF a.fs);rw[i,k]
 ·show(rowK a.fs).1.map sgOf=_;rw[i,k]
 ·show Zbl (rowK a.fs).1=_;rw[i,k]
theorem Zy2{j:JoD}{l:List FiD}{g f:FiD}(h:Par j (l++[g]))(r:(scF g).sl=false)(t:g.nm=f.nm)(A:byF f=byF g++seaB (scF g)){a:DiD}(d:a.fs=withB FiD.nm j.dk.fs f)(m n b:Int)(c:Bool):
  anewJ a m n b c=⟨a,m,n,((l.map (ptF scF)).map sgOf)++[sgOf ⟨sealS (scF g),f.len⟩],⟨0,0,[]⟩,j.st,b,j.kept,c⟩∧Par (anewJ a m n b c) (l++[f]):=by
 obtain⟨D,E,b3,u⟩:=h.dkr.bytes h.all g (by simp);have o:(scF g).num≠0:=by rw[b3];exact u
 obtain⟨v,F⟩:=Ztx D o r;have i:byF f=segL (sealS (scF g)):=(by rw[A,F,←E]);have k:numS f.nm≠0:=by rw[←t];exact u
 have L:keptF j.dk.fs≤(sealS (scF g)).s:=h.dkr.kept (ptF scF g) (by simp);obtain⟨G,H⟩:=Zk1 (f:=f) h.dkr t k v i rfl rfl rfl L;have w:=h.good;rw[List.map_append]at w;have hst:=h.st;rw[List.map_append]at hst;obtain⟨J,K⟩:=Zyt (p:=ptF scF g) (q:=⟨sealS (scF g),f.len⟩) w rfl rfl rfl rfl;have x:keptF a.fs=keptF j.dk.fs:=(by rw[d];exact Zcg k);have y:baseF a.fs=baseF j.dk.fs:=(by rw[d];exact Zdq k);have e:=par_of (j:=j) (S:=j.st) (λp C=>h.all p (by rw[List.map_append];exact List.mem_append.2 (.inl C))) (by rw[d];exact G) (Zbo v i) i (by rw[d];exact H) x y h.kept J (K.trans hst.symm) m n b c;have z:Zbl (l.map (ptF scF)++[⟨sealS (scF g),f.len⟩])=⟨0,0,[]⟩:=(by unfold Zbl;rw[List.getLast?_concat];simp[sealS]);rw[z]at e;exact e
theorem anew_new{j:JoD}{b:List FiD}{f:FiD}{n:Int}{e:Cod.EvD}(h:Par j b)(A:∀g,b.getLast?=some g→(scF g).sl=true∧n=(scF g).num+1)(C:inN n)(a0:b=[]→n=1)(D:f.nm=segNm n)(hno:∀g∈j.dk.fs,g.nm≠f.nm)(y:∀g∈b,numS g.nm<n)
  (E:e.s=j.st.q+1) (F:headOK n j.st.q j.st.t) (ok:EncOK j.st.q j.st.t [] e) (N:(appS j.st (toE e)).2=0) (O:byF f=fr 1 (hdP n j.st.q j.st.t)++fr 2 (encL j.st.q j.st.t [] e)) {d:DiD} (l:d.fs=withB FiD.nm j.dk.fs f) (r u i:Int) (k:Bool):
  anewJ d r u i k=⟨d,r,u,((b.map (ptF scF)).map sgOf)++[sgOf ⟨newS n j.st.q j.st.t e,f.len⟩],⟨e.s,e.a,bhdN [] e.c⟩,(appS j.st (toE e)).1,i,j.kept,k⟩∧Par (anewJ d r u i k) (b++[f]):=by
 obtain⟨G,P⟩:=Zzb F ok;have m:byF f=segL (newS n j.st.q j.st.t e):=(by rw[O,P]);have o:numS f.nm=n:=by rw[D];exact Zui C
 have p:numS f.nm≠0:=(by rw[o];have:=C.1;omega);have a3:=h.kq;have Z:(newS n j.st.q j.st.t e).s=e.s:=rfl;have hk:keptF j.dk.fs≤(newS n j.st.q j.st.t e).s:=(by rw[Z,←h.kept];omega);have w:∀g,b.getLast?=some g→(scF g).s=j.st.q∧(scF g).a=j.st.t:=by intro g v;obtain⟨x,rfl⟩:∃x,b=x++[g]:=Wz.1 v;refine⟨h.q.symm,?_⟩;have:=h.good.at_ (ptF scF g) (by simp);rw[←h.st]at this;exact this
 obtain⟨Q,R⟩:=rowK_new (f:=f) (d':=newS n j.st.q j.st.t e) h.dkr hno p (by rw[o];exact y) G m (by rw[o];rfl) (λg v=>by
  obtain⟨T,U⟩:=w g v;obtain⟨V,W⟩:=A g v
  exact⟨V,W,T.symm,U.symm⟩) hk
 have hst:=h.st
 obtain⟨X,Y⟩:=goodR_new (q:=⟨newS n j.st.q j.st.t e,f.len⟩) (e:=e) h.good rfl rfl rfl (by show e.s=j.st.q+1;exact E) (by rw[←h.kept];omega) (λz=>by
  have H:b=[]:=(by simpa using z);subst H;show j.st.q≤_
  rw[h.q0,h.kept];exact Int.le_refl _) (by rw[←hst];exact N)
 have J:keptF d.fs=keptF j.dk.fs:=(by rw[l];exact Zcg p);have K:baseF d.fs=baseF j.dk.fs:=(by rw[l];exact Zdq p);have L:=par_of (j:=j) (S:=(appS j.st (toE e)).1) h.all (by rw[l];exact Q) (Zbo G m) m (by rw[l];exact R) J K h.kept X (by rw[Y,←hst]) r u i k;have M:Zbl (b.map (ptF scF)++[⟨newS n j.st.q j.st.t e,f.len⟩])=⟨e.s,e.a,bhdN [] e.c⟩:=(by unfold Zbl;rw[List.getLast?_concat];rfl);rw[M]at L;exact L
theorem Zjj{d:DiD}{f:FiD}(b:srt FiD.nm d.fs)(a:f∈d.fs):d.get f.nm=some f:=by
 unfold DiD.get
 cases h:d.fs.find? (λg=>decide (g.nm=f.nm))with
 |none=>have:=List.find?_eq_none.1 h f a;simp at this
 |some g=>have c:=Wm h;have e:=YY h;rw[Zlx b e a (by simpa using c)]
theorem get_none{d:DiD}{s:ByteArray}(h:d.get s=none):∀g∈d.fs,g.nm≠s:=by
 intro g a e;have:=List.find?_eq_none.1 h g a;simp[e]at this
theorem Zds{d a:DiD}{s:ByteArray}{x:List UInt8}(h:Zaw d s x=(a,0)):d.er s s=0∧∃f,d.get s=some f∧a.fs=withB FiD.nm d.fs ⟨s,f.su,f.lo++x⟩∧a.rm=d.rm∧a.dn=d.dn:=by
 unfold Zaw at h
 split at h
 ·rename_i g;simp only[Prod.mk.injEq]at h;exact absurd h.2 g
 ·rename_i g;refine⟨by simpa using g,?_⟩
  split at h
  ·simp at h
  ·rename_i f b
   split at h
   ·simp at h
   ·split at h
    ·simp at h
    ·simp only[Prod.mk.injEq]at h;refine⟨f,b,?_⟩;rw[←h.1];exact⟨rfl,rfl,rfl⟩
theorem Zom{d a:DiD}{b:List FiD}(h:d.perf b=(a,0)):a.fs=b∧a.rm=d.rm∧a.dn=d.dn:=by
 unfold DiD.perf at h
 split at h
 ·simp at h
 ·simp only[Prod.mk.injEq]at h;rw[←h.1];exact⟨rfl,rfl,rfl⟩
theorem Zh6{d a:DiD}{s:ByteArray}(h:Za3 d s=(a,0)):d.er s s=0∧∃f,d.get s=some f∧a.fs=withB FiD.nm d.fs ⟨s,f.su++f.lo,[]⟩∧a.rm=d.rm∧a.dn=d.dn:=by
 unfold Za3 at h
 split at h
 ·rename_i g;simp only[Prod.mk.injEq]at h;exact absurd h.2 g
 ·rename_i g;refine⟨by simpa using g,?_⟩
  split at h
  ·simp at h
  ·rename_i f b;exact⟨f,b,Zom h⟩
theorem Zle{d a:DiD}{s:ByteArray}(h:Zbf d s=(a,0)):d.er s s=0∧d.get s=none∧a.fs=withB FiD.nm d.fs ⟨s,[],[]⟩∧a.rm=d.rm∧a.dn=d.dn:=by
 unfold Zbf at h
 split at h
 ·rename_i g;simp only[Prod.mk.injEq]at h;exact absurd h.2 g
 ·rename_i g;refine⟨by simpa using g,?_⟩
  split at h
  ·simp at h
  ·rename_i b
   split at h
   ·simp at h
   ·exact⟨b,Zom h⟩
theorem Zon{d a:DiD}{f:FiD}(b:srt FiD.nm d.fs)(e:a.fs=withB FiD.nm d.fs f):a.get f.nm=some f:=get_withB b e
theorem app_app{d b c:DiD}{s:ByteArray}{x y:List UInt8}(e:srt FiD.nm d.fs)(h:Zaw d s x=(b,0))(i:Zaw b s y=(c,0)):∃f,d.get s=some f∧c.fs=withB FiD.nm d.fs ⟨s,f.su,f.lo++(x++y)⟩:=by
 obtain⟨_,f,j,e1,_⟩:=Zds h;obtain⟨_,l,a,e2,_⟩:=Zds i;have k:=Zon (f:=⟨s,f.su,f.lo++x⟩) e e1;rw[k]at a
 cases a
 refine⟨f,j,?_⟩;rw[e2,e1,Zhc (nm:=FiD.nm) (f:=⟨s,f.su,f.lo++x⟩) (g:=⟨s,f.su,f.lo++x++y⟩) rfl,List.append_assoc]
theorem app_sync{d b c:DiD}{s:ByteArray}{x:List UInt8}(e:srt FiD.nm d.fs)(h:Zaw d s x=(b,0))(i:Za3 b s=(c,0)):∃f,d.get s=some f∧c.fs=withB FiD.nm d.fs ⟨s,f.su++(f.lo++x),[]⟩:=by
 obtain⟨_,f,j,e1,_⟩:=Zds h;obtain⟨_,l,a,e2,_⟩:=Zh6 i;have k:=Zon (f:=⟨s,f.su,f.lo++x⟩) e e1;rw[k]at a
 cases a
 refine⟨f,j,?_⟩;rw[e2,e1,Zhc (nm:=FiD.nm) (f:=⟨s,f.su,f.lo++x⟩) (g:=⟨s,f.su++(f.lo++x),[]⟩) rfl]
theorem new_app{d a c e:DiD}{s:ByteArray}{x y:List UInt8}(h:srt FiD.nm d.fs)(k:Zbf d s=(a,0))(l:Zaw a s x=(c,0))(m:Zaw c s y=(e,0)):(∀g∈d.fs,g.nm≠s)∧e.fs=withB FiD.nm d.fs ⟨s,[],x++y⟩:=by
 obtain⟨_,n,b,_⟩:=Zle k;have j:srt FiD.nm a.fs:=by rw[b];exact Zbn h
 obtain⟨f,i,e2⟩:=app_app j l m;have o:=Zon (f:=⟨s,[],[]⟩) h b;rw[o]at i
 cases i
 refine⟨get_none n,?_⟩;rw[e2,b,Zhc (nm:=FiD.nm) (f:=⟨s,[],[]⟩) (g:=⟨s,[],[]++(x++y)⟩) rfl,List.nil_append]
theorem appS_may{d:StD}{e:Cmp.EvD}(h:(appS d e).2=0):MayS d e:=by
 refine Zh3 ?_;unfold appS at h
 split at h
 ·rename_i g;exact absurd h g
 ·rename_i g;simpa using g
theorem st_ctx{d:StD}(h:d.P):ctxOK d.q d.t:=by
 obtain⟨⟨_,a,b,c,e⟩,_⟩:=h;exact⟨a,b,c,e⟩
theorem ctx_nil{s a:Int}(h:ctxOK s a):ctxB s a []=true:=by
 unfold ctxB rgtB;obtain⟨b,c,d,e⟩:=h;simp[b,c,d,e]
theorem Par.t{j:JoD}{b:List FiD}{g:FiD}(h:Par j (b++[g])):j.st.t=(scF g).a:=by
 have:=h.good.at_ (ptF scF g) (by simp);rw[←h.st]at this;exact this.symm
theorem Par.ctx{j:JoD}{a:List FiD}{g:FiD}(h:Par j (a++[g])):ScOK (scF g)∧(scF g).num≠0:=by
 obtain⟨b,d,b3,c⟩:=h.dkr.bytes h.all g (by simp);exact⟨b,by rw[b3];exact c⟩
theorem Par.name{j:JoD}{a:List FiD}(h:Par j a):∀f∈a,f.nm=segNm (scF f).num∧inN (scF f).num:=by
 intro f b;obtain⟨g,i,b3,c⟩:=h.dkr.bytes h.all f b;obtain⟨d,e⟩:=Zc4 c;rw[b3];exact⟨e,d⟩
theorem Par.big{j:JoD}{c:List FiD}{g:FiD}(h:Par j (c++[g])):∀f∈c++[g],numS f.nm<(scF g).num+1:=by
 have o:srt FiD.nm (c++[g]):=(by rw[←h.dkr.eq];exact Yy _ h.dkr.srt);obtain⟨_,_,c3,k⟩:=h.dkr.bytes h.all g (by simp);intro f a;obtain⟨_,_,b3,l⟩:=h.dkr.bytes h.all f a
 rcases List.mem_append.1 a with a|a
 ·have b:=(List.pairwise_append.1 o).2.2 f a g (by simp);obtain⟨m,d⟩:=Zc4 l;obtain⟨n,e⟩:=Zc4 k;rw[c3]
  rcases Wp (numS f.nm) (numS g.nm)with q|q
  ·omega
  ·exfalso;have i:numS g.nm<numS f.nm∨numS g.nm=numS f.nm:=by omega
   rcases i with q2|q2
   ·have:=Zuj n m q2;rw[←e,←d]at this;exact Zlt _ (WV b this)
   ·rw[d,e,q2]at b;exact Zlt _ b
 ·have:f=g:=(by simpa using a);subst this;rw[c3];omega
theorem Zli(a:FiD→Sc):∀(l:List FiD) (r:List Pt) (o:List ByteArray),(∀f∈l,numS f.nm≠0)→o≠[]→l.foldl (rstep a) (r,o)=(r,o++l.map FiD.nm)
 | [],r,o,_,_=>by simp
 |f::l,r,o,hn,ho=>by rw[List.foldl_cons,show rstep a (r,o) f=(r,o++[f.nm])from by unfold rstep;rw[if_neg (hn f (by simp)),if_neg (λq=>ho q.1)]];rw[Zli a l r _ (λg b=>hn g (by simp[b])) (by simp)];simp
theorem Zm7(b:FiD→Sc):∀(l:List FiD) (r:List Pt),(∀f∈l,numS f.nm≠0)→∃n,l.foldl (rstep b) (r,[])=(r++(l.take n).map (ptF b),(l.drop n).map FiD.nm)∧inRow b (r.getLast?.map (·.d)) (l.take n)
 | [],r,_=>⟨0,by simp,trivial⟩
 |f::l,r,hn=>by
  rw[List.foldl_cons];by_cases hm:mayR b r [] f
  ·rw[show rstep b (r,[]) f=(r++[ptF b f],[])from by unfold rstep;rw[if_neg (hn f (by simp)),if_pos hm]];obtain⟨n,h,i⟩:=Zm7 b l (r++[ptF b f]) λg c=>hn g (by simp[c]);refine⟨n+1,by rw[h];simp,?_⟩;rw[List.take_succ_cons];obtain⟨_,j,e⟩:=hm;refine⟨j,?_,by simpa using i⟩
   cases c:r.getLast? with
   |none=>trivial
   |some a=>rw[c]at e;exact e
  ·rw[show rstep b (r,[]) f=(r,[]++[f.nm])from by unfold rstep;rw[if_neg (hn f (by simp)),if_neg hm]];refine⟨0,?_,trivial⟩;rw[Zli b l r _ (λg c=>hn g (by simp[c])) (by simp)];simp
theorem Zsh(l:List FiD):∃n,rowsD scF l=(((segs l).take n).map (ptF scF),((segs l).drop n).map FiD.nm)∧inRow scF none ((segs l).take n):=by
 unfold rowsD;rw[Zco];obtain⟨n,a,b⟩:=Zm7 scF (segs l) [] Zbk;exact⟨n,by simpa using a,b⟩
theorem Zbh{a:FiD→Sc}:∀{l:List FiD} {p:Option Sc},inRow a p l→∀f∈l,(a f).num=numS f.nm
 | [],_,_,f,hf=>by cases hf
 |g::l,p,h,f,hf=>by
  rcases List.mem_cons.1 hf with rfl|hf
  ·exact h.1
  ·exact Zbh h.2.2 f hf
theorem Zfe{f:FiD}(h:numS f.nm≠0):segNm (numS f.nm)=f.nm:=(Zc4 h).2.symm
theorem Zgh(l:List FiD):∃n,rowK l=(((segs l).take n).map (ptF scF),((segs l).drop n).map FiD.nm)∧inRow scF none ((segs l).take n)∧∀p,(((segs l).take n).map (ptF scF)).getLast?=some p→keptF l≤p.d.s:=by
 obtain⟨n,h,b⟩:=Zsh l;unfold rowK;rw[h]
 cases hg:(((segs l).take n).map (ptF scF)).getLast? with
 |none=>exact⟨n,rfl,b,λp c=>by rw[hg]at c;cases c⟩
 |some p=>
  simp only;by_cases hk:p.d.s<keptF l
  ·rw[if_pos hk];refine⟨0,?_,trivial,λq a=>by simp at a⟩;have e:(((segs l).take n).map (ptF scF)).map (λp=>segNm p.d.num)=((segs l).take n).map FiD.nm:=(by rw[List.map_map];apply List.map_congr_left;intro f g;show segNm (scF f).num=f.nm;rw[Zbh b f g];exact Zfe (Zbk f (List.mem_of_mem_take g)));rw[e,←List.map_append,List.take_append_drop];simp
  ·rw[if_neg hk];exact⟨n,rfl,b,λq a=>by rw[hg]at a;cases a;omega⟩
theorem Zqc{l:List FiD}{s:ByteArray}:segs (wout FiD.nm l s)=wout FiD.nm (segs l) s:=by
 unfold segs wout;rw[List.filter_filter,List.filter_filter];apply List.filter_congr;intro x _;exact Bool.and_comm _ _
theorem cand_wout{l:List FiD}{s:ByteArray}(h:numS s≠0)(t:StD):Cand (wout FiD.nm l s) t↔Cand l t:=by
 constructor
 ·rintro⟨g,a,q⟩;exact⟨g,(Zff.1 a).1,q⟩
 ·rintro⟨g,a,q⟩;exact⟨g,Zff.2 ⟨a,λe=>Zf8 h _ (e.symm.trans q.2.1)⟩,q⟩
theorem Zgi{l:List FiD}{s:ByteArray}(h:numS s≠0):keptF (wout FiD.nm l s)=keptF l∧baseF (wout FiD.nm l s)=baseF l:=by
 have e:=Znm λt=>cand_wout (l:=l) h t;unfold keptF baseF;rw[e];exact⟨rfl,rfl⟩
theorem Zqd{l:List FiD}{f:FiD}(a:srt FiD.nm (l++[f])):wout FiD.nm (l++[f]) f.nm=l:=by
 unfold wout;rw[List.filter_append]
 have c:(l.filter λg=>decide (g.nm≠f.nm))=l:=by
  apply List.filter_eq_self.2;intro x b;have:=Zjp ((List.pairwise_append.1 a).2.2 x b f (by simp))
  simpa using this
 rw[c];simp
theorem Zk3{h:FiD→FiD}:∀{l:List FiD} {p:Option Sc},(∀f∈l,(h f).nm=f.nm∧scF (h f)=scF f)→inRow scF p l→inRow scF p (l.map h)
 | [],_,_,_=>trivial
 |f::l,p,hh,hi=>by obtain⟨c,a⟩:=hh f (by simp);obtain⟨d,e,i⟩:=hi;refine⟨by rw[c,a];exact d,by rw[a];exact e,?_⟩;rw[a];exact Zk3 (λg b=>hh g (by simp[b])) i
noncomputable def ptW(f:FiD):Pt:=⟨scF f,(segL (scF f)).length⟩
theorem Zk4{l b:List FiD}{n:Nat}{h:FiD→FiD}(u:srt FiD.nm b)(m:segs b=((segs l).take n).map h)(i:inRow scF none ((segs l).take n))(j:∀p,(((segs l).take n).map (ptF scF)).getLast?=some p→keptF l≤p.d.s)
  (o:∀f∈(segs l).take n,(h f).nm=f.nm∧byF (h f)=segL (scF f)) (v:keptF b=keptF l):DkR b (segs b)∧rowK b=(((segs l).take n).map ptW,[]):=by
 have q:∀f∈(segs l).take n,ScOK (scF f):=λf a=>by have w:=Zbh i f a;exact(Zgx (by rw[w];exact Zbk f (List.mem_of_mem_take a))).1
 have k:∀f∈(segs l).take n,(h f).nm=f.nm∧scF (h f)=scF f:=λf a=>⟨(o f a).1,Zbo (q f a) (o f a).2⟩
 have r:(((segs l).take n).map h).map (ptF scF)=((segs l).take n).map ptW:=by
  rw[List.map_map];apply List.map_congr_left;intro f a
  show(⟨scF (h f),(h f).len⟩:Pt)=⟨scF f,(segL (scF f)).length⟩
  rw[(k f a).2,←Zg5,(o f a).2]
 have t:DkR b (segs b):=by
  refine⟨u,rfl,by rw[m];exact Zk3 k i,λp c=>?_⟩;rw[m,r]at c;rw[v]
  rcases Y2 ((segs l).take n)with e|⟨gs,g,e⟩
  ·rw[e]at c;simp at c
  ·rw[List.concat_eq_append]at e;rw[e]at c j;have e1:p=ptW g:=(by simpa using c.symm);subst e1;exact j (ptF scF g) (by simp)
 refine⟨t,?_⟩;rw[Zc5 t,m,r]
theorem Zuq(l:List FiD):evsR (l.map ptW)=evsR (l.map (ptF scF)):=by
 unfold evsR;rw[List.flatMap_map,List.flatMap_map];rfl
theorem Zr3(l:List FiD)(k:Int)(s:StD):stR (l.map ptW) k s=stR (l.map (ptF scF)) k s:=by unfold stR;rw[Zuq]
theorem Zp8{l:List FiD}{k:Int}{s:StD}(h:GoodR (l.map (ptF scF)) k s):GoodR (l.map ptW) k s:=by
 refine⟨λp a=>?_,λp a=>?_,by rw[Zuq];exact h.app,λp a=>?_⟩
 ·cases l with
  |nil=>simp at a
  |cons f l=>have e:p=ptW f:=(by simpa using a.symm);subst e;exact h.bs (ptF scF f) (by simp)
 ·obtain⟨f,b,rfl⟩:=Y3.1 a;exact h.cnt (ptF scF f) (Y3.2 ⟨f,b,rfl⟩)
 ·rw[Zr3]
  rcases Y2 l with rfl|⟨gs,g,rfl⟩
  ·simp at a
  ·rw[List.concat_eq_append]at a h⊢;have e:p=ptW g:=(by simpa using a.symm);subst e;exact h.at_ (ptF scF g) (by simp)
theorem byF_cut{f:FiD}{n:Nat}:byF ⟨f.nm,f.su.take n,f.lo.take (n-f.su.length)⟩=(byF f).take n:=by
 unfold byF;rw[←List.map_take,List.take_append]
theorem Zr4{f:FiD}(h:(scF f).num≠0):byF ⟨f.nm,f.su.take (segL (scF f)).length,f.lo.take ((segL (scF f)).length-f.su.length)⟩=segL (scF f):=by
 rw[byF_cut];exact WH.1 (Zgx h).2|>.symm
theorem Zur(s:ByteArray)(f:FiD):byF ⟨s,f.su++f.lo,[]⟩=byF f:=by unfold byF;simp
theorem Zg4{d a:DiD}{s:ByteArray}(h:Za4 d s=(a,0)):d.er s s=0∧(∃f,d.get s=some f)∧a.fs=wout FiD.nm d.fs s∧a.rm=d.rm∧a.dn=d.dn:=by
 unfold Za4 at h
 split at h
 ·rename_i g;simp only[Prod.mk.injEq]at h;exact absurd h.2 g
 ·rename_i g;refine⟨by simpa using g,?_⟩
  split at h
  ·simp at h
  ·rename_i f b;exact⟨⟨f,b⟩,Zom h⟩
theorem Zoh{d a:DiD}{s:ByteArray}{n:Int}(h:opCut d s n=(a,0)):d.er s s=0∧∃f,d.get s=some f∧0≤n∧n≤f.len∧a.fs=withB FiD.nm d.fs ⟨s,f.su.take n.toNat,f.lo.take (n.toNat-f.su.length)⟩∧a.rm=d.rm∧a.dn=d.dn:=by
 unfold opCut at h
 split at h
 ·rename_i g;simp only[Prod.mk.injEq]at h;exact absurd h.2 g
 ·rename_i g;refine⟨by simpa using g,?_⟩
  split at h
  ·simp at h
  ·rename_i f b
   split at h
   ·simp at h
   ·rename_i c;have:=Zom h;exact⟨f,b,by omega,by omega,this⟩
def runS:DiD→List (DiD→DiD×Int)→DiD×Int
 |d,[]=>(d,0)
 |d,s::l=>if(s d).2≠0 then s d else runS (s d).1 l
theorem Zfx{d a:DiD}{s:DiD→DiD×Int}{l:List (DiD→DiD×Int)}(h:runS d (s::l)=(a,0)):∃b,s d=(b,0)∧runS b l=(a,0):=by
 rw[runS]at h
 split at h
 ·rename_i g;rw[h]at g;exact absurd rfl g
 ·rename_i g;have g:(s d).2=0:=(by simpa using g);exact⟨(s d).1,by rw[←g],h⟩
theorem Zj5:∀(a b:List (DiD→DiD×Int)) {d c:DiD},runS d (a++b)=(c,0)→∃e,runS d a=(e,0)∧runS e b=(c,0)
 | [],b,d,c,h=>⟨d,rfl,h⟩
 |s::a,b,d,c,h=>by obtain⟨e,f,g⟩:=Zfx h;obtain⟨i,j,k⟩:=Zj5 a b g;refine⟨i,?_,k⟩;rw[runS,f,if_neg (by simp)];exact j
structure Same(d d':DiD):Prop where
 srt:srt FiD.nm d'.fs
 kept:keptF d'.fs=keptF d.fs
 base:baseF d'.fs=baseF d.fs
 rm:d'.rm=d.rm
 dn:d'.dn=d.dn
theorem Same.trans{a b c:DiD}(h:Same a b)(k:Same b c):Same a c:=⟨k.srt,k.kept.trans h.kept,k.base.trans h.base,k.rm.trans h.rm,k.dn.trans h.dn⟩
theorem Same.refl{d:DiD}(h:Go.Px.srt FiD.nm d.fs):Same d d:=⟨h,rfl,rfl,rfl,rfl⟩
theorem srt_wout{l:List FiD}{s:ByteArray}(h:srt FiD.nm l):srt FiD.nm (wout FiD.nm l s):=Yy _ h
theorem Zux{l X Y:List FiD}{g f:FiD}(d:srt FiD.nm l)(e:segs l=X++g::Y)(a:g.nm=f.nm):segs (withB FiD.nm l f)=X++f::Y:=by
 have j:g∈l:=(List.mem_filter.1 (show g∈l.filter isSeg by rw[show l.filter isSeg=X++g::Y from e];simp)).1;rw[Zo9 d ⟨g,j,a⟩,e,List.map_append,List.map_cons,if_pos a];have b:srt FiD.nm (segs l):=Yy _ d;rw[e]at b;obtain⟨k,h,i⟩:=List.pairwise_append.1 b;congr 1
 ·conv=>rhs;rw[←YV X]
  apply List.map_congr_left;intro x c;rw[if_neg (λq=>Zjp (i x c g (by simp)) (q.trans a.symm))];rfl
 ·congr 1
  conv=>rhs;rw[←YV Y]
  apply List.map_congr_left;intro x c;rw[if_neg (λq=>Zjp ((List.pairwise_cons.1 h).1 x c) (a.trans q.symm))];rfl
theorem Zxs:∀(k:Nat) (A B:List FiD) (d a:DiD),B.length=k→srt FiD.nm d.fs→segs d.fs=A++B→runS d ((B.map FiD.nm).reverse.map λs d=>Za4 d s)=(a,0)→segs a.fs=A∧Same d a:=by
 intro k
 induction k with
 |zero=>intro A B d a b c e h;have:B=[]:=List.length_eq_zero_iff.1 b;subst this;simp only[List.map_nil,List.reverse_nil,runS,Prod.mk.injEq]at h;rw[←h.1];exact⟨by simpa using e,Same.refl c⟩
 |succ k r=>
  intro A B d a b c e h
  rcases Y2 B with rfl|⟨B,f,rfl⟩
  ·simp at b
  ·rw[List.concat_eq_append]at b e h;rw[List.map_append,List.reverse_append]at h;simp only[List.map_cons,List.map_nil,List.reverse_cons,List.reverse_nil,List.nil_append,List.singleton_append]at h;obtain⟨j,m,n⟩:=Zfx h;obtain⟨_,_,e1,e2,o⟩:=Zg4 m;have g:numS f.nm≠0:=Zbk f (by rw[e];simp);have i:srt FiD.nm j.fs:=by rw[e1];exact srt_wout c
   have l:segs j.fs=A++B:=(by rw[e1,Zqc,e,←List.append_assoc];refine Zqd ?_;rw[List.append_assoc,←e];exact Yy _ c);obtain⟨p,q⟩:=r A B j a (by simpa using b) i l n;refine⟨p,Same.trans ⟨i,?_,?_,e2,o⟩ q⟩
   ·rw[e1];exact(Zgi g).1
   ·rw[e1];exact(Zgi g).2
noncomputable def cutF(f:FiD):FiD:=if(segL (scF f)).length<f.len then⟨f.nm,f.su.take (segL (scF f)).length,f.lo.take ((segL (scF f)).length-f.su.length)⟩else f
theorem Zc6(f:FiD):(cutF f).nm=f.nm:=by unfold cutF;split<;>rfl
theorem Zol{f:FiD}(h:(scF f).num≠0):byF (cutF f)=segL (scF f):=by
 unfold cutF
 split
 ·exact Zr4 h
 ·rename_i g;have a:=(Zgx h).2;exact(a.eq_of_length (by have:=a.length_le;rw[Zg5]at this⊢;omega)).symm
noncomputable def cutS(p:Pt):List (DiD→DiD×Int):=if(segL p.d).length<p.n then[λd=>opCut d (segNm p.d.num) (segL p.d).length]else[]
theorem run_cut:∀(k:Nat) (A B C:List FiD) (d a:DiD),B.length=k→srt FiD.nm d.fs→segs d.fs=A++(B++C)→(∀f∈B,(scF f).num=numS f.nm)→runS d ((B.map (ptF scF)).reverse.flatMap cutS)=(a,0)→segs a.fs=A++(B.map cutF++C)∧Same d a:=by
 intro k
 induction k with
 |zero=>intro A B C d a j b e p h;have:B=[]:=List.length_eq_zero_iff.1 j;subst this;simp only[List.map_nil,List.reverse_nil,WE,runS,Prod.mk.injEq]at h;rw[←h.1];exact⟨by simpa using e,Same.refl b⟩
 |succ k K=>
  intro A B C d a j b e p h
  rcases Y2 B with rfl|⟨B,f,rfl⟩
  ·simp at j
  ·rw[List.concat_eq_append]at j e h p⊢;rw[List.map_append,List.reverse_append]at h;simp only[List.map_cons,List.map_nil,List.reverse_cons,List.reverse_nil,List.nil_append,List.singleton_append,List.flatMap_cons]at h;obtain⟨q,m,y⟩:=Zj5 _ _ h;have n:numS f.nm≠0:=Zbk f (by rw[e];simp);have t:=p f (by simp)
   have u:segs q.fs=A++(B++(cutF f::C))∧Same d q:=by
    have v:segs d.fs=(A++B)++f::C:=(by rw[e];simp);unfold cutS at m
    split at m
    ·rename_i l;obtain⟨z,D,r⟩:=Zfx m;simp only[runS,Prod.mk.injEq]at r;have r:z=q:=r.1;subst r;obtain⟨_,g,i,_,_,c,E,F⟩:=Zoh D;have w:segNm (ptF scF f).d.num=f.nm:=(by show segNm (scF f).num=f.nm;rw[t];exact Zfe n);rw[w]at i c;have x:f∈d.fs:=(List.mem_filter.1 (show f∈d.fs.filter isSeg by rw[show d.fs.filter isSeg=(A++B)++f::C from v];simp)).1;rw[Zjj b x]at i
     cases i
     have o:cutF f=⟨f.nm,f.su.take ((segL (ptF scF f).d).length:Int).toNat,f.lo.take (((segL (ptF scF f).d).length:Int).toNat-f.su.length)⟩:=(by unfold cutF;rw[if_pos l];simp);rw[←o]at c;refine⟨?_,by rw[c];exact Zbn b,?_,?_,E,F⟩
     ·rw[c,Zux b v (Zc6 f).symm];simp
     ·rw[c];exact Zcg (by rw[Zc6];exact n)
     ·rw[c];exact Zdq (by rw[Zc6];exact n)
    ·rename_i l;simp only[runS,Prod.mk.injEq]at m;rw[←m.1];have o:cutF f=f:=by unfold cutF;rw[if_neg l]
     rw[o,e];exact⟨by simp,Same.refl b⟩
   obtain⟨G,s⟩:=u;obtain⟨H,J⟩:=K A B (cutF f::C) q a (by simpa using j) s.srt G (λg i=>p g (by simp[i])) y;exact⟨by rw[H];simp,s.trans J⟩
theorem Zwj{c:FiD→Sc}:∀{a:List FiD} {g:FiD} {p:Option Sc},inRow c p (a++[g])→∀f∈a,(c f).sl=true
 | [],_,_,_,f,hf=>by cases hf
 |x::a,g,p,h,f,hf=>by
  obtain⟨_,_,b⟩:=h
  rcases List.mem_cons.1 hf with rfl|hf
  ·cases a with
   |nil=>exact b.2.1.1
   |cons y a=>exact b.2.1.1
  ·exact Zwj b f hf
def synS(r:List Pt):List (DiD→DiD×Int):=match r.getLast? with
 |none=>[]
 |some p=>if p.d.sl=true then[]else[λd=>Za3 d (segNm p.d.num)]
noncomputable def mendS(r:List Pt)(o:List ByteArray):List (DiD→DiD×Int):=(o.reverse.map λs d=>Za4 d s)++(r.reverse.flatMap cutS++synS r)
noncomputable def menF(f:FiD):FiD:=if(scF f).sl=true then cutF f else⟨(cutF f).nm,(cutF f).su++(cutF f).lo,[]⟩
theorem Ztj(f:FiD):(menF f).nm=f.nm:=by unfold menF;split<;>exact Zc6 f
theorem menF_by{f:FiD}(h:(scF f).num≠0):byF (menF f)=segL (scF f):=by
 unfold menF
 split
 ·exact Zol h
 ·rw[Zur];exact Zol h
theorem Ztk{d c:DiD}(J:srt FiD.nm d.fs)(h:runS d (mendS (rowK d.fs).1 (rowK d.fs).2)=(c,0)):
  ∃p:List FiD,(rowK d.fs).1=p.map (ptF scF)∧inRow scF none p∧(∀f∈p,numS f.nm≠0)∧Same d c∧segs c.fs=p.map menF∧DkR c.fs (segs c.fs)∧rowK c.fs=(p.map ptW,[]):=by
 obtain⟨n,e,j,x⟩:=Zgh d.fs;rw[e]at h;refine⟨(segs d.fs).take n,by rw[e],j,λf b=>Zbk f (List.mem_of_mem_take b),?_⟩;obtain⟨y,K,L⟩:=Zj5 _ _ h;obtain⟨l,M,a⟩:=Zj5 _ _ L;obtain⟨N,z⟩:=Zxs ((segs d.fs).drop n).length ((segs d.fs).take n) ((segs d.fs).drop n) d y rfl J (List.take_append_drop n _).symm K;have k:=Zbh j;obtain⟨i,m⟩:=run_cut ((segs d.fs).take n).length [] ((segs d.fs).take n) [] y l rfl z.srt (by rw[N];simp) k M;have r:∀f∈(segs d.fs).take n,(scF f).num≠0:=λf b=>by rw[k f b];exact Zbk f (List.mem_of_mem_take b)
 have i:segs l.fs=((segs d.fs).take n).map cutF:=by rw[i];simp
 have D:segs c.fs=((segs d.fs).take n).map menF∧Same l c:=by
  rcases Y2 ((segs d.fs).take n)with q|⟨gs,g,q⟩
  ·rw[q]at a i⊢;simp only[synS,List.map_nil,List.getLast?_nil,runS,Prod.mk.injEq]at a;rw[←a.1,i];exact⟨rfl,Same.refl m.srt⟩
  ·rw[List.concat_eq_append]at q;rw[q]at a i j r k⊢;have E:=Zwj j;have F:gs.map menF=gs.map cutF:=(by apply List.map_congr_left;intro f b;unfold menF;rw[if_pos (E f b)]);rw[List.map_append]at i⊢;rw[F];unfold synS at a;rw[List.map_append]at a;simp only[List.map_cons,List.map_nil,List.getLast?_concat]at a i⊢;by_cases hg:(scF g).sl=true
   ·rw[if_pos (show(ptF scF g).d.sl=true from hg)]at a;simp only[runS,Prod.mk.injEq]at a;rw[←a.1,i];have:menF g=cutF g:=by unfold menF;rw[if_pos hg]
    rw[this];exact⟨rfl,Same.refl m.srt⟩
   ·rw[if_neg (show¬(ptF scF g).d.sl=true from hg)]at a;obtain⟨O,P,t⟩:=Zfx a;simp only[runS,Prod.mk.injEq]at t;have t:O=c:=t.1;subst t;obtain⟨_,f,b,o,Q,R⟩:=Zh6 P;have v:numS g.nm≠0:=by rw[←k g (by simp)];exact r g (by simp)
    have u:segNm (ptF scF g).d.num=g.nm:=(by show segNm (scF g).num=g.nm;rw[k g (by simp)];exact Zfe v);rw[u]at b o;have G:cutF g∈l.fs:=(List.mem_filter.1 (show cutF g∈l.fs.filter isSeg by rw[show l.fs.filter isSeg=gs.map cutF++[cutF g]from i];simp)).1;have s:=Zjj m.srt G;rw[Zc6,b]at s
    cases s
    have T:menF g=⟨g.nm,(cutF g).su++(cutF g).lo,[]⟩:=(by unfold menF;rw[if_neg hg,Zc6]);rw[←T]at o;have w:numS (menF g).nm≠0:=(by rw[Ztj];exact v);refine⟨?_,by rw[o];exact Zbn m.srt,by rw[o];exact Zcg w,by rw[o];exact Zdq w,Q,R⟩;rw[o,Zq0 m.srt i (by rw[Zc6,Ztj])]
 obtain⟨A,C⟩:=D;have H:Same d c:=(z.trans m).trans C;refine⟨H,A,?_⟩;exact Zk4 (h:=menF) C.srt A j x (λf b=>⟨Ztj f,menF_by (r f b)⟩) H.kept
theorem Zwk{d a:DiD}(v:srt FiD.nm d.fs)(r:GoodR (rowK d.fs).1 (keptF d.fs) (baseF d.fs))(h:runS d (mendS (rowK d.fs).1 (rowK d.fs).2)=(a,0))(n o b:Int)(c:Bool):
  anewJ a n o b c=⟨a,n,o,(rowK d.fs).1.map sgOf,Zbl (rowK d.fs).1,stR (rowK d.fs).1 (keptF d.fs) (baseF d.fs),b,keptF d.fs,c⟩∧Par (anewJ a n o b c) (segs a.fs):=by
 obtain⟨i,e,x,w,m,y,t,j⟩:=Ztk v h;have z:∀f∈i,True:=λ_ _=>trivial;rw[e]at r⊢;have q:(i.map ptW).map sgOf=(i.map (ptF scF)).map sgOf:=by rw[List.map_map,List.map_map];rfl
 have u:Zbl (i.map ptW)=Zbl (i.map (ptF scF)):=by
  rcases Y2 i with rfl|⟨gs,g,rfl⟩
  ·rfl
  ·rw[List.concat_eq_append,List.map_append,List.map_append];unfold Zbl;simp only[List.map_cons,List.map_nil,List.getLast?_concat];rfl
 have k:=Zc5 t;rw[j]at k;have l:i.map ptW=(segs a.fs).map (ptF scF):=congrArg Prod.fst k;refine⟨?_,⟨t,?_,?_,?_,?_,?_,rfl⟩⟩
 ·unfold anewJ;rw[j,m.kept,m.base];simp only;rw[q,u,Zr3]
 ·show GoodR _ (keptF a.fs) (baseF a.fs);rw[←l,m.kept,m.base];exact Zp8 r
 ·intro p s;rw[←l]at s;obtain⟨f,_,rfl⟩:=Y3.1 s;rfl
 ·show stR (rowK a.fs).1 _ _=stR _ (keptF a.fs) (baseF a.fs);rw[←l,j]
 ·show(rowK a.fs).1.map sgOf=_;rw[←l,j]
 ·show Zbl (rowK a.fs).1=_;rw[←l,j]
theorem dgs_D:∀(k n:Nat),∀c∈dgs k n,isD c
 |0,n,c,hc=>by cases hc
 |k+1,n,c,hc=>by
  rw[dgs]at hc
  rcases List.mem_append.1 hc with hc|hc
  ·exact dgs_D k _ c hc
  ·have:c=UInt8.ofNat (48+n%10):=(by simpa using hc);subst this;unfold isD;simp only[UInt8.toNat_ofNat'];omega
theorem Zvs(n:Int):fnB (segNm n)=true:=by
 have b:=Zcb n;have d:(segNm n).size=12:=(by have:(segNm n).data.toList.length=12:=(by rw[b,List.length_append,Zdm];rfl);rw[Array.length_toList]at this;exact this);unfold fnB;rw[d,b];simp only[Bool.and_eq_true,decide_eq_true_eq,List.all_eq_true];refine⟨by omega,λc a=>?_⟩;unfold fchr;rw[decide_eq_true_eq]
 rcases List.mem_append.1 a with a|a
 ·simp only[spre,List.mem_cons,YT,or_false]at a
  rcases a with rfl|rfl|rfl|rfl<;>decide
 ·have:=dgs_D _ _ c a;unfold isD at this;omega
theorem Zyj{l:List FiD}{g:FiD}(a:srt FiD.nm l)(b:g∈l):withB FiD.nm l g=l:=by
 obtain⟨i,c,rfl⟩:=List.mem_iff_getElem.1 b;rw[←Zf4 a c rfl];simp
theorem sync_same{d:DiD}{g:FiD}(b:d.P)(c:d.dn=false)(hst:d.st= -1)(f:g∈d.fs)(h:fnB g.nm=true)(a:g.lo=[]):Za3 d g.nm=(d,0):=by
 unfold Za3;rw[er_of b c h h,if_neg (by simp),Zjj b.2.2.2 f]
 have e:(⟨g.nm,g.su++g.lo,[]⟩:FiD)=g:=by
  rw[a,List.append_nil]
  cases g
  simp at a;subst a;rfl
 show d.perf (withB FiD.nm d.fs ⟨g.nm,g.su++g.lo,[]⟩)=_;rw[e,Zyj b.2.2.2 f];unfold DiD.perf DiD.tick;rw[if_neg (by omega),if_neg (by omega)]
theorem Zyk{d:DiD}(j:d.P)(f:d.dn=false)(hst:d.st= -1)(h:DkR d.fs (segs d.fs))(b:∀p∈(segs d.fs).map (ptF scF),p.n=(segL p.d).length)(c:∀g,(segs d.fs).getLast?=some g→(scF g).sl=false→g.lo=[]):runS d (mendS (rowK d.fs).1 (rowK d.fs).2)=(d,0):=by
 rw[Zc5 h];unfold mendS;have m:((segs d.fs).map (ptF scF)).reverse.flatMap cutS=[]:=(by apply List.flatMap_eq_nil_iff.2;intro p k;have:=b p (List.mem_reverse.1 k);unfold cutS;rw[if_neg (by omega)]);simp only[List.reverse_nil,List.map_nil,List.nil_append,m];unfold synS
 rcases Y2 (segs d.fs)with e|⟨gs,g,e⟩
 ·rw[e];rfl
 ·rw[List.concat_eq_append]at e;rw[e,List.map_append];simp only[List.map_cons,List.map_nil,List.getLast?_concat];by_cases hg:(scF g).sl=true
  ·rw[if_pos (show(ptF scF g).d.sl=true from hg)];rfl
  ·rw[if_neg (show¬(ptF scF g).d.sl=true from hg)];have i:g∈d.fs:=(List.mem_filter.1 (show g∈d.fs.filter isSeg by rw[show d.fs.filter isSeg=gs++[g]from e];simp)).1;obtain⟨r,s,b3,l⟩:=h.bytes b g (by rw[e];simp);have a:segNm (ptF scF g).d.num=g.nm:=(by show segNm (scF g).num=g.nm;rw[b3];exact Zfe l);have o:fnB g.nm=true:=(by rw[←a];exact Zvs _);have q:=sync_same j f hst i o (c g (by rw[e];simp) (by simpa using hg));rw[runS,a,q];rfl
theorem run_P:∀(l:List (DiD→DiD×Int)) {d a:DiD} {k:Int},(∀s∈l,∀d:DiD,d.P→(s d).1.P)→d.P→runS d l=(a,k)→a.P
 | [],d,a,k,_,h,e=>by simp only[runS,Prod.mk.injEq]at e;rw[←e.1];exact h
 |s::l,d,a,k,hs,h,e=>by
  rw[runS]at e;have b:=hs s (by simp) d h
  split at e
  ·rw[e]at b;exact b
  ·exact run_P l (λt c=>hs t (by simp[c])) b e

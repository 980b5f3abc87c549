import Derived.Test.YtgehiiginclniaaGreatDoorK13
set_option linter.all false
set_option maxRecDepth 100000
variable{b c e i j k:Int}{n:Nat}{l r:Go.Px.LL}{Q:Go.Px.QQ}{s:BA}{Y y:List Go.Px.FiD}{d:Go.Px.DiD}{x:List Int}{O o:Bool}{J:Go.Proofs.YtgehiiginclniaaGreatDoor.Jou.JoD}{g:Go.Proofs.YtgehiiginclniaaGreatDoor.Sx.StD}
namespace Go.Proofs.YtgehiiginclniaaGreatDoor
namespace Jou
open Go Go.Px Go.Proofs Cod Seg Sgr Snp Sx Row Tryz
def Znu(l:List FiD):∀p∈(rowK l).1,inN p.d.num:=by
 obtain⟨n,h,b,_⟩:=Zgv l;intro p a;rw[h]at a;obtain⟨f,c,rfl⟩:=Y3.1 a;have:=Zbk b f c;show inN (scF f).num;rw[this];exact(Zdd (Zbn f (List.mem_of_mem_take c))).1
def Zid(d:DiD):menD d=runS d (mendS (rowK d.fs).1 (rowK d.fs).2):=by
 unfold menD;rw[Zqx,Zot (Znu d.fs)]
def Stp.men:Stp→Prop
 | .rem _| .cut _ _| .syn _=>True
 |_=>False
def Stp.nm:Stp→BA
 | .cre s| .wri s _| .rem s| .cut s _| .syn s=>s
def Stp.eff(l:List FiD):Stp→Option (List FiD)
 | .rem s=>match l.find? (λf=>decide (f.nm=s))with|none=>none|some _=>some (wout FiD.nm l s)
 | .cut s n=>match l.find? (λf=>decide (f.nm=s))with|none=>none|some f=>if n<0∨(f.len:Int)<n then none else some (withB FiD.nm l ⟨s,f.su.take n.toNat,f.lo.take (n.toNat-f.su.length)⟩)
 | .syn s=>match l.find? (λf=>decide (f.nm=s))with|none=>none|some f=>some (withB FiD.nm l ⟨s,f.su++f.lo,[]⟩)
 |_=>none
def Zl1{s:Stp}(b:s.men){d:DiD}(h:d.P)(c:d.dn=false)(e:fnB s.nm=true):(s.eff d.fs=none∧(s.run d).2≠0)∨∃g,s.eff d.fs=some g∧s.run d=d.perf g:=by
 have a:=er_of h c e e
 cases s with
 |cre s=>cases b
 |wri s x=>cases b
 |syn s=>
  simp only[Stp.run,Stp.eff,Za0,DiD.get];rw[if_neg (λq=>q a)]
  cases hg:d.fs.find? (λf=>decide (f.nm=s))with
  |none=>exact .inl ⟨rfl,by simp⟩
  |some f=>exact .inr ⟨_,rfl,rfl⟩
 |rem s=>
  simp only[Stp.run,Stp.eff,Zbb,DiD.get];rw[if_neg (λq=>q a)]
  cases hg:d.fs.find? (λf=>decide (f.nm=s))with
  |none=>exact .inl ⟨rfl,by simp⟩
  |some f=>exact .inr ⟨_,rfl,rfl⟩
 |cut s n=>
  simp only[Stp.run,Stp.eff,opCut,DiD.get];rw[if_neg (λq=>q a)]
  cases hg:d.fs.find? (λf=>decide (f.nm=s))with
  |none=>exact .inl ⟨rfl,by simp⟩
  |some f=>
   dsimp only
   split
   ·exact .inl ⟨rfl,by simp⟩
   ·exact .inr ⟨_,rfl,rfl⟩
def Lst(l:List FiD):Prop:=∀f∈l,f.lo=[]
def eff_lst{s:Stp}{l c:List FiD}(h:Lst l)(a:s.eff l=some c):Lst c:=by
 cases s with
 |cre s=>cases a
 |wri s x=>cases a
 |syn s=>
  simp only[Stp.eff]at a
  split at a
  ·cases a
  ·cases a
   intro g b
   rcases Zas.1 b with rfl|⟨b,_⟩
   ·rfl
   ·exact h g b
 |rem s=>
  simp only[Stp.eff]at a
  split at a
  ·cases a
  ·cases a
   exact λg b=>h g (Zfo.1 b).1
 |cut s n=>
  simp only[Stp.eff]at a
  split at a
  ·cases a
  next f d=>
   split at a
   ·cases a
   ·cases a
    intro g b
    rcases Zas.1 b with rfl|⟨b,_⟩
    ·show f.lo.take _=[]
     rw[h f (YH d)];simp
    ·exact h g b
def bnd(d:DiD)(k:Int):DiD:={d with st:=k}
def bnd_P{d:DiD}(h:d.P)(a: -1≤k):(bnd d k).P:=⟨⟨h.1.1,h.1.2.1,h.1.2.2.1,a⟩,h.2⟩
def run_bnd:∀(l:List Stp) {d:DiD} {k:Int},d.P→d.dn=false→d.st= -1→0≤k→(∀s∈l,s.men∧fnB s.nm=true)→(runP d l).2=0→
  ((runP (bnd d k) l).2=0∧(runP (bnd d k) l).1.fs=(runP d l).1.fs∧(runP (bnd d k) l).1.rm=d.rm∧(runP (bnd d k) l).1.dn=false)∨
  ∃a b i,l=a++b∧b≠[]∧runP d a=(i,0)∧(runP (bnd d k) l).2=16∧(runP (bnd d k) l).1.fs=i.fs∧(runP (bnd d k) l).1.rm=d.rm∧(runP (bnd d k) l).1.dn=true
 | [],d,k,hP,hdn,hst,hk,hs,h=>.inl ⟨rfl,rfl,rfl,hdn⟩
 |s::l,d,k,hP,hdn,hst,hk,hs,h=>by
  obtain⟨m,n⟩:=hs s (by simp)
  rcases Zl1 m hP hdn n with⟨_,j⟩|⟨fs,he,hr⟩
  ·rw[runP,if_pos j]at h;exact absurd h j
  have f:s.run d=({d with fs:=fs},0):=by rw[hr];unfold DiD.perf DiD.tick;rw[if_neg (by omega),if_neg (by omega)]
  rcases Zl1 m (bnd_P hP (by omega)) hdn n (d:=bnd d k)with⟨j,_⟩|⟨fs',he',hr'⟩
  ·have:s.eff d.fs=none:=j;rw[he]at this;cases this
  have o:fs'=fs:=(by have:s.eff d.fs=some fs':=he';rw[he]at this;cases this;rfl);subst o;have e1:runP d (s::l)=runP {d with fs:=fs'} l:=(by rw[runP,f,if_neg (by simp)]);rw[e1]at h⊢;by_cases hk0:k=0
  ·have g:s.run (bnd d k)=({bnd d k with dn:=true},16):=by rw[hr'];unfold DiD.perf;rw[if_pos (show(bnd d k).st=0 from hk0)]
   right
   refine⟨[],s::l,d,rfl,by simp,rfl,?_⟩;have e2:runP (bnd d k) (s::l)=({bnd d k with dn:=true},16):=(by rw[runP,g,if_pos (by simp)]);rw[e2];exact⟨rfl,rfl,rfl,rfl⟩
  ·have g:s.run (bnd d k)=(bnd {d with fs:=fs'} (k-1),0):=by
    rw[hr'];unfold DiD.perf DiD.tick bnd
    dsimp only
    rw[if_neg hk0,if_pos (by omega)]
   have p:({d with fs:=fs'}:DiD).P:=(by have:=Zr4 (s:=s) hP;rw[f]at this;exact this);have e2:runP (bnd d k) (s::l)=runP (bnd {d with fs:=fs'} (k-1)) l:=(by rw[runP,g,if_neg (by simp)]);rw[e2]
   rcases run_bnd l (d:={d with fs:=fs'}) (k:=k-1) p hdn hst (by omega) (λt q=>hs t (by simp[q])) h with⟨a,b,c,e⟩|⟨a,b,i,e1,e2,e3,e4⟩
   ·exact .inl ⟨a,b,c,e⟩
   ·right
    refine⟨s::a,b,i,by rw[e1];rfl,e2,?_,e4⟩;rw[runP,f,if_neg (by simp)];exact e3
def Zti:∀(l:List Stp) {d a:DiD},d.P→d.dn=false→d.st= -1→(∀s∈l,s.men∧fnB s.nm=true)→Lst d.fs→runP d l=(a,0)→Lst a.fs∧a.P∧a.dn=false∧a.st= -1∧a.rm=d.rm
 | [],d,a,hP,hdn,hst,hs,hl,h=>by cases h;exact⟨hl,hP,hdn,hst,rfl⟩
 |s::l,d,a,hP,hdn,hst,hs,hl,h=>by
  obtain⟨i,j⟩:=hs s (by simp);obtain⟨k,c,m⟩:=Zfq h
  rcases Zl1 i hP hdn j with⟨_,e⟩|⟨fs,he,hr⟩
  ·rw[c]at e;exact absurd rfl e
  have b:s.run d=({d with fs:=fs},0):=(by rw[hr];unfold DiD.perf DiD.tick;rw[if_neg (by omega),if_neg (by omega)]);have f:({d with fs:=fs}:DiD).P:=(by have:=Zr4 (s:=s) hP;rw[b]at this;exact this);have e1:k={d with fs:=fs}:=(by rw[b]at c;cases c;rfl);subst e1;exact Zti l (d:={d with fs:=fs}) f hdn hst (λt g=>hs t (by simp[g])) (eff_lst (s:=s) hl he) m
def Zv9:∀(l:List Stp) {d:DiD},(runP d l).2≠0→∃a s c e,l=a++s::c∧runP d a=(e,0)∧(s.run e).2≠0
 | [],d,h=>absurd rfl h
 |s::l,d,h=>by
  by_cases b:(s.run d).2≠0
  ·exact⟨[],s,l,d,rfl,rfl,b⟩
  ·rw[runP,if_neg b]at h;obtain⟨a,t,c,e,e1,e2,f⟩:=Zv9 l h;have b:(s.run d).2=0:=(by simpa using b);refine⟨s::a,t,c,e,by rw[e1];rfl,?_,f⟩;rw[runP,if_neg (by simp[b])];exact e2
def Zie(i:∀f∈y,fnB f.nm=true):∀s∈mendP (rowK y).1 (rowK y).2,s.men∧fnB s.nm=true:=by
 obtain⟨n,h,k,_⟩:=Zgv y;have g:=Znu y;have c:∀p∈(rowK y).1,fnB (nmG p.d.num)=true:=λp b=>by rw[Zed (g p b)];exact Zpt _
 intro s a;unfold mendP at a
 rcases List.mem_append.1 a with a|a
 ·obtain⟨x,e,rfl⟩:=Y3.1 a;refine⟨trivial,?_⟩;have e:x∈(rowK y).2:=(by simpa using e);rw[h]at e;obtain⟨f,j,rfl⟩:=Y3.1 e;exact i f (List.mem_filter.1 (List.mem_of_mem_drop j)).1
 ·rcases List.mem_append.1 a with a|a
  ·obtain⟨p,b,a⟩:=List.mem_flatMap.1 a;unfold cutP at a
   split at a
   ·have:=List.mem_singleton.1 a;subst this;exact⟨trivial,c p (by simpa using b)⟩
   ·cases a
  ·unfold synP at a
   split at a
   ·cases a
   next p b=>
    split at a
    ·cases a
    ·have:=List.mem_singleton.1 a;subst this;exact⟨trivial,c p (List.mem_of_getLast? b)⟩
def Zy3(o:d.P)(q:d.dn=false)(hst:d.st= -1){s:Stp}{c:List Stp}(h:mendP (rowK d.fs).1 (rowK d.fs).2=s::c):(s.run d).2=0:=by
 obtain⟨A,C⟩:=Zie o.2.2.1 s (by rw[h];simp);obtain⟨n,j,t,_⟩:=Zgv d.fs;have w:=Znu d.fs;have fnd:∀g∈segs d.fs,d.fs.find? (λf=>decide (f.nm=g.nm))=some g:=λg b=>Zif o.2.2.2 (List.mem_filter.1 b).1;have l:∀p∈(rowK d.fs).1,∃g,d.fs.find? (λf=>decide (f.nm=nmG p.d.num))=some g∧p=ptF scF g:=λp e=>by have E:=w p e;rw[j]at e;obtain⟨g,b,rfl⟩:=Y3.1 e;have m:=List.mem_of_mem_take b;have y:nmG (scF g).num=g.nm:=(by have:inN (scF g).num:=E;rw[Zed this,Zbk t g b];exact Zfn (Zbn g m));exact⟨g,by show d.fs.find? (λf=>decide (f.nm=nmG (scF g).num))=_;rw[y];exact fnd g m,rfl⟩
 have z:∃r,s.eff d.fs=some r:=by
  have a:s∈mendP (rowK d.fs).1 (rowK d.fs).2:=(by rw[h];simp);unfold mendP at a
  rcases List.mem_append.1 a with a|a
  ·obtain⟨x,k,rfl⟩:=Y3.1 a;have k:x∈(rowK d.fs).2:=(by simpa using k);rw[j]at k;obtain⟨g,b,rfl⟩:=Y3.1 k;simp only[Stp.eff];rw[fnd g (List.mem_of_mem_drop b)];exact⟨_,rfl⟩
  ·rcases List.mem_append.1 a with a|a
   ·obtain⟨p,e,a⟩:=List.mem_flatMap.1 a;obtain⟨g,b,u⟩:=l p (by simpa using e);unfold cutP at a
    split at a
    ·rename_i i;have:=List.mem_singleton.1 a;subst this;simp only[Stp.eff];rw[b]
     dsimp only
     have i:(segL p.d).length<g.len:=(by rw[u]at i⊢;exact i);rw[if_neg (by omega)];exact⟨_,rfl⟩
    ·cases a
   ·unfold synP at a
    split at a
    ·cases a
    next p e=>
     split at a
     ·cases a
     ·have:=List.mem_singleton.1 a;subst this;obtain⟨g,b,_⟩:=l p (List.mem_of_getLast? e);simp only[Stp.eff];rw[b];exact⟨_,rfl⟩
 obtain⟨r,D⟩:=z
 rcases Zl1 A o q C with⟨v,_⟩|⟨fs',_,hr⟩
 ·rw[D]at v;cases v
 ·rw[hr];unfold DiD.perf;rw[if_neg (by omega)]
def mend_well(i:d.P)(g:d.dn=false)(hst:d.st= -1):(menD d).2=0:=by
 refine Classical.byContradiction λl=>?_;unfold menD at l;obtain⟨a,s,c,b,e1,e2,q⟩:=Zv9 _ l;have n:=Zie i.2.2.1
 have j:b.P∧b.dn=false∧b.st= -1:=by
  refine⟨by have:=Zr5 a i;rw[e2]at this;exact this,by rw[(Zqa a e2).1];exact g,?_⟩
  have o:∀(a:List Stp) {d b:DiD},(∀s∈a,s.men∧fnB s.nm=true)→d.P→d.dn=false→d.st= -1→runP d a=(b,0)→b.st= -1:=λa=>by
   induction a with
   |nil=>intro d b _ _ _ h e;cases e;exact h
   |cons t a y=>
    intro d b k i g h e;obtain⟨z,f,r⟩:=Zfq e;obtain⟨u,v⟩:=k t (by simp)
    rcases Zl1 u i g v with⟨_,p⟩|⟨fs,_,hr⟩
    ·rw[f]at p;exact absurd rfl p
    ·rw[hr]at f;unfold DiD.perf DiD.tick at f;rw[if_neg (by omega),if_neg (by omega)]at f
     cases f
     exact y (d:={d with fs:=fs}) (λx m=>k x (by simp[m])) (by have:=Zr4 (s:=t) i;rw[hr]at this;unfold DiD.perf DiD.tick at this;rw[if_neg (by omega),if_neg (by omega)]at this;exact this) g h r
  exact o a (λx m=>n x (by rw[e1];simp[m])) i g hst e2
 have w:mendS (rowK d.fs).1 (rowK d.fs).2=a.map Stp.run++(s::c).map Stp.run:=(by rw[←Zot (Znu d.fs),e1,List.map_append]);rw[Zqx]at e2;obtain⟨f,_⟩:=Zqe _ _ i.2.2.2 w (by simp) e2;rw[←Zot (Znu b.fs)]at f
 cases k:mendP (rowK b.fs).1 (rowK b.fs).2 with
 |nil=>rw[k]at f;simp at f
 |cons t A=>have:=Zy3 j.1 j.2.1 j.2.2 k;rw[k]at f;simp only[List.map_cons,List.cons.injEq]at f;have o:t.run b=s.run b:=congrFun f.1 b;rw[o]at this;exact q this
def evsR_d{r a:List Pt}(h:r.map (·.d)=a.map (·.d)):evsR r=evsR a:=by
 have:∀r:List Pt,evsR r=(r.map (·.d)).flatMap λd=>d.ev.map toE:=λr=>by unfold evsR;rw[List.flatMap_map]
 rw[this,this,h]
def goodR_d{r b:List Pt}{k:Int}{s:StD}(h:r.map (·.d)=b.map (·.d))(g:GoodR r k s):GoodR b k s:=by
 have i:=evsR_d h;have hst:stR r k s=stR b k s:=(by unfold stR;rw[i]);refine⟨λp c=>?_,λp c=>?_,by rw[←i];exact g.app,λp c=>?_⟩
 ·have a:(b.map (·.d)).head?=some p.d:=(by rw[List.head?_map,c];rfl);rw[←h,List.head?_map]at a;obtain⟨q,f,e⟩:=Option.map_eq_some_iff.1 a;rw[←e];exact g.bs q f
 ·have a:p.d∈b.map (·.d):=Y3.2 ⟨p,c,rfl⟩;rw[←h]at a;obtain⟨q,f,e⟩:=Y3.1 a;rw[←e];exact g.cnt q f
 ·have a:(b.map (·.d)).getLast?=some p.d:=(by rw[List.getLast?_map,c];rfl);rw[←h,List.getLast?_map]at a;obtain⟨q,f,e⟩:=Option.map_eq_some_iff.1 a;rw[←e,←hst];exact g.at_ q f
structure Opened(d:DiD)(cb cg:Int)(k:JoD):Prop where
 P:d.P
 cfg:mayC cb cg
 dn:d.dn=false
 good:GoodR (rowK d.fs).1 (keptF d.fs) (baseF d.fs)
 men:menD d=(k.dk,0)
 eq:k=anewJ k.dk cb cg k.st.q false
 st:k.st=stR (rowK d.fs).1 (keptF d.fs) (baseF d.fs)
 right:RightJ k
def stR_qk(h:DkR y Y)(b:GoodR (Y.map (ptF scF)) (keptF y) (baseF y)):keptF y≤(stR (Y.map (ptF scF)) (keptF y) (baseF y)).q:=by
 rcases Y1 Y with rfl|⟨Y,g,rfl⟩
 ·show keptF y≤(baseF y).q;rw[Zrc];exact Int.le_refl _
 ·rw[List.concat_eq_append]at h b⊢;rw[stR_q h b];exact h.kept (ptF scF g) (by simp)
def Zi7{k:JoD}(h:openP d c e=(k,0)):Opened d c e k:=by
 unfold openP at h
 split at h
 ·cases h
 rename_i b;have b:=Yk.1 b
 split at h
 ·cases h
 rename_i m
 split at h
 ·cases h
 rename_i g;have g:=Yk.1 g
 split at h
 next f=>rw[Prod.mk.injEq]at h;exact absurd h.2 f
 rename_i f;have f:(menD d).2=0:=(by simpa using f);have j:d.dn=false:=by simpa using m
 obtain⟨a,hm⟩:∃a,menD d=(a,0):=⟨_,by rw[←f]⟩
 rw[hm,Prod.mk.injEq]at h;have n:=h.1;rw[Zid]at hm;obtain⟨e1,i⟩:=Zqi b.1.2.2.2 g hm c e (stR (rowK d.fs).1 (keptF d.fs) (baseF d.fs)).q false;rw[←Zid]at hm;have o:a.P:=by have:=Zr5 (mendP (rowK d.fs).1 (rowK d.fs).2) b.1;rw[show runP d _=(a,0)from hm]at this;exact this
 have p:=(Zqa _ (show runP d (mendP (rowK d.fs).1 (rowK d.fs).2)=(a,0)from hm)).1;have l:k=anewJ a c e (stR (rowK d.fs).1 (keptF d.fs) (baseF d.fs)).q false:=(by rw[e1,←n]);have hst:(anewJ a c e (stR (rowK d.fs).1 (keptF d.fs) (baseF d.fs)).q false).st=stR (rowK d.fs).1 (keptF d.fs) (baseF d.fs):=(by rw[e1]);have s:keptF a.fs=keptF d.fs:=kept_same e1;have r:keptF a.fs≤(stR (rowK d.fs).1 (keptF d.fs) (baseF d.fs)).q:=(by have:=i.st;rw[hst]at this;rw[this];exact stR_qk i.dkr i.good);subst l;refine⟨b.1,b.2,j,g,hm,?_,hst,Zky i b.2 o (by rw[p];exact j) r (by rw[hst];exact Int.le_refl _)⟩;rw[hst];rfl
def Zon{d a:DiD}{cb cg:Int}(b:d.P)(h:mayC cb cg)(c:d.dn=false)(e:GoodR (rowK d.fs).1 (keptF d.fs) (baseF d.fs))(f:menD d=(a,0)):openP d cb cg=(anewJ a cb cg (stR (rowK d.fs).1 (keptF d.fs) (baseF d.fs)).q false,0):=by
 have g:=f;rw[Zid]at g;obtain⟨e1,_⟩:=Zqi b.2.2.2 e g cb cg (stR (rowK d.fs).1 (keptF d.fs) (baseF d.fs)).q false;unfold openP;rw[if_neg (by simp[b,h]),if_neg (by simp[c]),if_neg (by simp[e]),f,if_neg (by simp),e1]
def Zu0(a:d.P)(b:Lst d.fs)(c:List Int):Zcc d c (-1)=(⟨d.fs,d.rm,-1,false⟩,0):=by
 unfold Zcc;rw[if_neg (by simp[a])];congr 2;unfold wakeL;apply List.ext_getElem
 ·simp
 ·intro i g e;rw[List.getElem_mapIdx];have:=b _ (List.getElem_mem e)
  cases hf:d.fs[i]with
  |mk nm h f=>rw[hf]at this;have this:f=[]:=this;subst this;simp[wakeF]
def wakeL_lst(b:List Int)(l:List FiD):Lst (wakeL b l):=by
 intro f a;unfold wakeL at a;obtain⟨i,c,e⟩:=List.mem_iff_getElem.1 a;rw[List.getElem_mapIdx]at e;rw[←e];rfl
def men_row{d a:DiD}(c:Go.Px.srt FiD.nm d.fs)(b:menD d=(a,0)):(rowK a.fs).1.map (·.d)=(rowK d.fs).1.map (·.d)∧Same d a:=by
 rw[Zid]at b;obtain⟨h,e,_,_,f,_,_,g⟩:=Zuq c b;rw[e,g];exact⟨by rw[List.map_map,List.map_map];rfl,f⟩
def again_bnd{d:DiD}{cb cg:Int}{j:JoD}(hst:d.st= -1)(A:Lst d.fs)(M:openP d cb cg=(j,0)):
  openP j.dk cb cg=(j,0)∧Lst j.dk.fs∧j.dk.st= -1∧∀k:Int,0≤k→((openP (bnd d k) cb cg).2=0∨(openP (bnd d k) cb cg).2=16)∧(openP (bnd d k) cb cg).1.dk.P∧∀n:List Int,(Zcc (openP (bnd d k) cb cg).1.dk n (-1)).2=0∧openP (Zcc (openP (bnd d k) cb cg).1.dk n (-1)).1 cb cg=(j,0):=by
 have O:=Zi7 M;have h:=Zie O.P.2.2.1;have f:runP d (mendP (rowK d.fs).1 (rowK d.fs).2)=(j.dk,0):=O.men;obtain⟨C,D,x,E,R⟩:=Zti _ O.P O.dn hst h A f;have J:=O.men;rw[Zid]at J;obtain⟨_,_,_,_,F,_,y,T⟩:=Zn8 O.P O.dn hst O.good J;rw[←Zid]at y
 have fin:∀{da:DiD},da.P→da.dn=false→menD da=(j.dk,0)→openP da cb cg=(j,0):=λ{da} hP hdn hm=>by
  obtain⟨G,i⟩:=men_row hP.2.2.2 hm;have Z:GoodR (rowK da.fs).1 (keptF da.fs) (baseF da.fs):=by rw[i.kept,i.base]at F;exact goodR_d G F
  have hq:stR (rowK da.fs).1 (keptF da.fs) (baseF da.fs)=j.st:=(by rw[O.st,←T,i.kept,i.base];unfold stR;rw[evsR_d G]);rw[Zon hP O.cfg hdn Z hm,hq,←O.eq]
 have l:∀{w:List FiD} {da:DiD},da.fs=w→da.rm=d.rm→da.st= -1→da.dn=false→(⟨w,d.rm,-1,false⟩:DiD)=da:=λ{w da} a b c e=>by
  cases da
  simp_all
 refine⟨fin D x y,C,E,λk N=>?_⟩;have u:(bnd d k).P:=bnd_P O.P (by omega);have p:menD (bnd d k)=runP (bnd d k) (mendP (rowK d.fs).1 (rowK d.fs).2):=rfl;have v:openP (bnd d k) cb cg=if(menD (bnd d k)).2≠0 then(jo0 (menD (bnd d k)).1,(menD (bnd d k)).2)else(⟨(menD (bnd d k)).1,cb,cg,(rowK d.fs).1.map sgOf,Zbo (rowK d.fs).1,stR (rowK d.fs).1 (keptF d.fs) (baseF d.fs),(stR (rowK d.fs).1 (keptF d.fs) (baseF d.fs)).q,keptF d.fs,false⟩,0):=(by show openP (bnd d k) cb cg=_;unfold openP;rw[if_neg (by simp[u,O.cfg]),if_neg (show¬(bnd d k).dn=true from by show¬d.dn=true;simp[O.dn]),if_neg (show¬¬GoodR (rowK (bnd d k).fs).1 (keptF (bnd d k).fs) (baseF (bnd d k).fs)from by show¬¬GoodR (rowK d.fs).1 (keptF d.fs) (baseF d.fs);simp[O.good])];rfl);have m:(menD (bnd d k)).1.P:=by rw[p];exact Zr5 _ u
 rcases run_bnd _ O.P O.dn hst N h (by rw[f])with⟨o,g,c3,z⟩|⟨a,b,da,e1,e2,e3,o,g,c3,z⟩
 ·rw[←p]at o g c3 z;rw[v,if_neg (by simp[o])];refine⟨.inl rfl,m,λn=>?_⟩;have r:Lst (menD (bnd d k)).1.fs:=by rw[g,f];exact C
  rw[Zu0 m r];refine⟨rfl,?_⟩
  dsimp only
  rw[c3,l (da:=j.dk) (by rw[g,f]) R E x];exact fin D x y
 ·rw[←p]at o g c3 z;rw[v,if_pos (by rw[o];simp)];refine⟨.inr o,m,λn=>?_⟩;have K:∀s∈a,s.men∧fnB s.nm=true:=λs Q=>h s (by rw[e1];simp[Q]);obtain⟨U,V,H,W,X⟩:=Zti a O.P O.dn hst K A e3;have r:Lst (menD (bnd d k)).1.fs:=by rw[g];exact U
  show(Zcc (menD (bnd d k)).1 n (-1)).2=0∧openP (Zcc (menD (bnd d k)).1 n (-1)).1 cb cg=(j,0)
  rw[Zu0 m r];refine⟨rfl,?_⟩
  dsimp only
  rw[c3,l (da:=da) g.symm X W H];refine fin V H ?_
  have hb:runP da b=(j.dk,0):=by
   rw[e1]at f;obtain⟨d1,t,Y⟩:=Zkz a b f;rw[e3]at t
   cases t
   exact Y
  have L:mendS (rowK d.fs).1 (rowK d.fs).2=a.map Stp.run++b.map Stp.run:=(by rw[←Zot (Znu d.fs),e1,List.map_append]);rw[Zqx]at e3;obtain⟨t,_⟩:=Zqe _ _ O.P.2.2.2 L (by simp[e2]) e3;rw[Zid,t,←Zqx];exact hb
def Zqp{j k:JoD}(a:RightJ j)(h:synQ j=(k,0)):RightJ k∧k.st=j.st∧evsJ k=evsJ j∧k.sure=j.st.q∧k.cb=j.cb∧k.cg=j.cg∧k.shut=j.shut∧k.kept=j.kept∧k.dk.rm=j.dk.rm:=by
 obtain⟨y,z,R⟩:=Zek a
 have c:RightJ {j with sure:=j.st.q}∧evsJ {j with sure:=j.st.q}=evsJ j:=by
  have:RightJ {j with sure:=j.st.q}:=by
   refine⟨a.cfg,a.dk,a.up,a.out,a.good,a.all,?_,⟨Int.le_trans y z,Int.le_refl _⟩⟩;have e:=a.eq;unfold anewJ;have e1:=congrArg JoD.sg e;have e2:=congrArg JoD.cx e;have n:=congrArg JoD.st e;have o:=congrArg JoD.kept e
   dsimp only[anewJ]at e1 e2 n o
   dsimp only
   rw[←e1,←e2,←n,←o]
  refine⟨this,?_⟩;unfold evsJ;rw[if_pos this,if_pos a]
 unfold synQ at h
 rcases Ze9 j a with⟨A,m⟩|⟨gs,g,A,hp,m⟩
 ·rw[show lasS j.sg=none from by rw[m];rfl]at h;have h:({j with sure:=j.st.q},(0:Int))=(k,0):=h
  cases h
  exact⟨c.1,rfl,c.2,rfl,rfl,rfl,rfl,rfl,rfl⟩
 have t:=congrArg lasS m;rw[Zae]at t;rw[t]at h
 dsimp only at h
 split at h
 ·cases h
  exact⟨c.1,rfl,c.2,rfl,rfl,rfl,rfl,rfl,rfl⟩
 rename_i Q
 split at h
 next l=>rw[Prod.mk.injEq]at h;exact absurd h.2 l
 rename_i l;have l:(Za0 j.dk (nmG (scF g).num)).2=0:=Yk.1 l
 obtain⟨b,hd⟩:∃b,Za0 j.dk (nmG (scF g).num)=(b,0):=⟨_,YA rfl l⟩
 have h:({j with dk:=(Za0 j.dk (nmG (scF g).num)).1,sure:=j.st.q},(0:Int))=(k,0):=h;rw[hd]at h
 cases h
 obtain⟨L,M,b3,C,b5,w⟩:=hp.in_;obtain⟨_,f,D,i,E,F⟩:=Zgc hd;have H:g∈j.dk.fs:=(List.mem_filter.1 (show g∈segs j.dk.fs by rw[A];simp)).1;have J:f=g:=(by rw[←C,Zif hp.dkr.srt H]at D;exact(Option.some.inj D).symm);subst J;rw[←C]at i;have K:byF ⟨f.nm,f.su++f.lo,[]⟩=segL (scF f):=(by rw[Zv0,M]);have x:(⟨f.nm,f.su++f.lo,[]⟩:FiD).len=f.len:=(by simp[FiD.len]);obtain⟨N,G⟩:=Zlq hp.dkr (f:=⟨f.nm,f.su++f.lo,[]⟩) rfl w L K rfl rfl rfl (hp.dkr.kept (ptF scF f) (by simp));rw[←i]at N G;have d:rowK b.fs=rowK j.dk.fs:=(by rw[G,Zcx hp.dkr,x];simp[ptF]);have r:keptF b.fs=keptF j.dk.fs:=(by rw[i];exact Zcp w);have u:baseF b.fs=baseF j.dk.fs:=(by rw[i];exact Zdy w);have O:b.P:=by have:=Zim (s:=nmG (scF f).num) a.dk;rw[hd]at this;exact this
 have v:RightJ {j with dk:=b,sure:=j.st.q}:=by
  refine⟨a.cfg,O,by show b.dn=false;rw[F];exact a.up,by show(rowK b.fs).2=[];rw[d];exact a.out,?_,by show∀p∈(rowK b.fs).1,_;rw[d];exact a.all,?_,?_⟩
  ·show GoodR (rowK b.fs).1 (keptF b.fs) (baseF b.fs);rw[d,r,u];exact a.good
  ·have e:=a.eq;show _=anewJ b j.cb j.cg j.st.q j.shut;unfold anewJ;rw[d,r,u];have e1:=congrArg JoD.sg e;have e2:=congrArg JoD.cx e;have n:=congrArg JoD.st e;have o:=congrArg JoD.kept e
   dsimp only[anewJ]at e1 e2 n o
   rw[←e1,←e2,←n,←o]
  ·show keptF b.fs≤j.st.q∧j.st.q≤j.st.q;rw[r];exact⟨Int.le_trans y z,Int.le_refl _⟩
 refine⟨v,rfl,?_,rfl,rfl,rfl,rfl,rfl,E⟩;unfold evsJ;rw[if_pos v,if_pos a];show(rowK b.fs).1.flatMap _=_;rw[d]
end Jou
namespace Jou
open Go Go.Px Go.Proofs Cod Seg Sgr Snp Sx Row Dsk Tryz
def lim_P{d:StD}(h:d.P):lim d:=by
 refine⟨by have:=h.1.1;omega,λc a=>?_⟩;have:=(h.2.1 c a).2;unfold Cmp.CoD.roleP at this
 split at this
 ·have:=this.1.2.2.2.1.2;omega
 ·split at this
  ·rw[this.1.1.2.2.2];simp
  ·rw[this.2.1.2.2.2];simp
def ev_len{p:Pt}(h:PtK p):p.d.ev.length≤(segL p.d).length:=by
 have b:∀(l:List Cod.EvD) (s a:Int) (m:List BA),l.length≤(recL s a m l).length:=λl=>by
  induction l with
  |nil=>intro s a m;simp
  |cons e l f=>
   intro s a m;rw[recL,List.length_append,List.length_cons];have:=f e.s e.a (bhdN m e.c);have g:0<(fr 2 (encL s a m e)).length:=by unfold fr sealB;simp
   omega
 rw[Zcu h.ne,List.length_append,List.length_append];have:=b p.d.ev p.d.bs p.d.ba [];omega
def jrep_fn(r:List Pt)(G:∀p∈r,PtK p)(T:r.length≤1000000)(s:StD)(H:s.P):Ct prog 114 {} [SL 11 (ptR r),s.sv] (λx=>x=[(repP r s).1.sv,B (repP r s).2]):=by
 refine Zze (Zaa (λh=>?_) (λh=>?_))
 ·have:r=[]:=Yt.1 (by simpa using h);subst this;rfl
 have J:0<r.length:=by
  rcases Wz r.length with e|e
  ·simp[e]at h
  ·exact e
 have z:r.head?=some r[0]:=(by cases r with|nil=>simp at J|cons x l=>rfl);have v:r.length-1<r.length:=(by omega);have A:r.getLast?=some r[r.length-1]:=(by rw[List.getLast?_eq_getElem?];simp[v]);have k:repP r s=if s.q<r[0].d.bs then(s,false)else if(repR s.q s r).2=false then repR s.q s r else((repR s.q s r).1,decide (r[r.length-1].d.a=(repR s.q s r).1.t)):=(by unfold repP;rw[z,A]);refine⟨inM _ (by omega) (by omega),_,_,_,_,_,_,_,_,_,_,_,Zay ptRow r 0 (by omega) (by omega),Zaa (λo=>?_) (λo=>?_)⟩
 ·simp at o;rw[k,if_pos o]
 simp at o;rw[if_neg (by omega)]at k;refine⟨λx l q t=>∃b:StD,l=coR b.cs∧q=b.q∧t=b.t∧lim b∧0≤x∧x≤r.length∧repR s.q b (r.drop x.toNat)=repR s.q s r,λx _ _ _=>(r.length-x).toNat,⟨s,rfl,rfl,rfl,lim_P H,by omega,by omega,by simp⟩,?_⟩;rintro x l q t ⟨b,rfl,rfl,rfl,hL,x0,hx,he⟩;have C:rlen (ptR r)=r.length:=(by simp);rw[C];refine Zaa (λg=>?_) (λg=>?_)
 rotate_left
 ·simp at g;have K:x.toNat=r.length:=(by omega);rw[K,List.drop_length,repR]at he;have L:wsub IntKind.i64 (r.length:Int) 1=((r.length-1:Nat):Int):=by rw[Zat];omega
  rw[L];refine⟨inM _ (by omega) (by omega),_,_,_,_,_,_,_,_,_,_,_,Zf7 v,?_⟩
  dsimp only
  rw[k,←he,if_neg (by simp)];simp
 simp at g;have w:x.toNat<r.length:=(by omega);have m:=G _ (List.getElem_mem w);have D:r.drop x.toNat=r[x.toNat]::r.drop (x.toNat+1):=List.drop_eq_getElem_cons w;rw[D,repR]at he;have M:=m.bs;have N:=m.sx;unfold ctxOK at M N;refine⟨inM _ x0 g,_,_,_,_,_,_,_,_,_,_,_,Zay ptRow r x x0 g,?_⟩
 dsimp only
 rw[Zat];have E:rlen (evR r[x.toNat].d.ev)=r[x.toNat].d.ev.length:=(by simp);rw[E];refine Zaa (λc=>?_) (λc=>?_)
 ·have c:(r[x.toNat].d.ev.length:Int)≠r[x.toNat].d.s-r[x.toNat].d.bs:=(by simpa using c);rw[if_pos c]at he;rw[k,←he];rfl
 have c:¬(r[x.toNat].d.ev.length:Int)≠r[x.toNat].d.s-r[x.toNat].d.bs:=(by simpa using c);rw[if_neg c]at he;refine⟨λy l q t=>∃u:StD,l=coR u.cs∧q=u.q∧t=u.t∧lim u∧0≤y∧y≤r[x.toNat].d.ev.length∧repE s.q u (r[x.toNat].d.ev.drop y.toNat)=repE s.q b r[x.toNat].d.ev,λy _ _ _=>(r[x.toNat].d.ev.length-y).toNat,⟨b,rfl,rfl,rfl,hL,by omega,by omega,by simp⟩,?_⟩;rintro y l q t ⟨u,rfl,rfl,rfl,hU,y0,hy,hu⟩;refine Zaa (λi=>?_) (λi=>?_)
 rotate_left
 ·simp at i;have O:y.toNat=r[x.toNat].d.ev.length:=(by omega);rw[O,List.drop_length,repE]at hu;rw[←hu,if_neg (by simp)]at he;rw[Zac];exact⟨rfl,⟨u,rfl,rfl,rfl,hU,by omega,by omega,by rw[show(x+1).toNat=x.toNat+1 by omega];exact he⟩,mlt (by first|omega|(dsimp only;omega))⟩
 simp at i;have F:y.toNat<r[x.toNat].d.ev.length:=(by omega);have Q:=ev_len m;rw[List.drop_eq_getElem_cons F,repE]at hu;have R:(r[x.toNat].d.ev.length:Int)≤9223372036854775806:=by have:=m.le;have:=m.n;omega
 refine⟨inM _ y0 i,_,_,_,_,_,_,_,Zay _ _ y y0 i,Zaa (λj=>?_) (λj=>Cl.of (Zls u (by have:=hU.1;omega) (toE r[x.toNat].d.ev[y.toNat])) ⟨_,_,_,_,rfl,Zaa (λf=>?_) (λf=>?_)⟩)⟩
 ·simp at j;rw[if_pos j]at hu;rw[Zac];exact⟨rfl,⟨u,rfl,rfl,rfl,hU,by omega,by omega,by rw[show(y+1).toNat=y.toNat+1 by omega];exact hu⟩,mlt (by first|omega|(dsimp only;omega))⟩
 ·simp at j;rw[if_neg (by omega)]at hu;have f:(appS u (toE r[x.toNat].d.ev[y.toNat])).2≠0:=(by simpa using f);rw[if_pos f]at hu;rw[←hu,if_pos rfl]at he;rw[k,←he];rfl
 ·simp at j;rw[if_neg (by omega)]at hu;have f:(appS u (toE r[x.toNat].d.ev[y.toNat])).2=0:=(by simpa using f);rw[if_neg (by simp[f])]at hu;rw[Zac];exact⟨rfl,⟨_,rfl,rfl,rfl,lim_app hU _,by omega,by omega,by rw[show(y+1).toNat=y.toNat+1 by omega];exact hu⟩,mlt (by first|omega|(dsimp only;omega))⟩
def new_cases(a:d.P)(b:d.dn=false)(h:NewR d g e):(e=0∧keptF d.fs=g.q∧baseF d.fs=g)∨(e=14∧g=st0∧keptF d.fs=0∧baseF d.fs=st0):=by
 rcases h with⟨h,_⟩|⟨_,h,_⟩|⟨_,_,⟨he,hb⟩|⟨he,hs,hb⟩⟩
 ·exact absurd a h
 ·rw[b]at h;cases h
 ·have:=Zqj a.2.2.2 hb;exact .inl ⟨he,by unfold keptF;rw[this],by unfold baseF;rw[this]⟩
 ·have:=Zqj a.2.2.2 hb;exact .inr ⟨he,hs,by unfold keptF;rw[this],by unfold baseF;rw[this]⟩
def Zri(b:FiD→Sc):∀(l:List FiD) (a:List Pt×List BA),(l.foldl (rstep b) a).1.length+(l.foldl (rstep b) a).2.length≤a.1.length+a.2.length+l.length
 | [],a=>by simp
 |f::l,a=>by
  rw[List.foldl_cons];have h:=Zri b l (rstep b a f)
  have:(rstep b a f).1.length+(rstep b a f).2.length≤a.1.length+a.2.length+1:=by
   unfold rstep
   split
   ·omega
   ·split<;>simp<;>omega
  simp only[List.length_cons];omega
def Zwa(l:List FiD):(rowsD scF l).1.length+(rowsD scF l).2.length≤l.length:=by
 have:=Zri scF l ([],[])
 simpa[rowsD]using this
def Zpl(l:List FiD):(rowK l).1.length≤l.length∧(rowK l).2.length≤l.length:=by
 have:=Zwa l;unfold rowK
 split
 ·omega
 ·split
  ·simp;omega
  ·omega
def rowK_K(h:∀p∈(rowsD scF y).1,PtK p):∀p∈(rowK y).1,PtK p:=by
 unfold rowK
 split
 ·exact h
 ·split
  ·simp
  ·exact h
noncomputable abbrev FdV(d:DiD):SV:=fd7 (ptR (rowK d.fs).1) (nR (rowK d.fs).2) (keptF d.fs) (coR (repP (rowK d.fs).1 (baseF d.fs)).1.cs) (repP (rowK d.fs).1 (baseF d.fs)).1.q (repP (rowK d.fs).1 (baseF d.fs)).1.t (repP (rowK d.fs).1 (baseF d.fs)).2
def Zny{r:List Pt}(C:r.length≤1000000)(n:∀p∈r,PtK p){X:Prop}{K:LL→Prop}(o:X)(q:K (nR (r.map λp=>Jou.segNm p.d.num))):
  ∃c:LL→Int→Prop,∃m:LL→Int→Nat,c [] 0∧∀b:LL,∀a:Int,c b a→ifB (ilt a (rlen (ptR r))) (inR a (ptR r)∧(ej3 (rget (ptR r) a) λi t u D E v w F y z A=>
   (Cl prog 88 sP [I i] (λ(g:List SV)=>ej2 g λs=>(((lsum (rlen b) (rlen ([[S s]])))≤((2147483648:Int)))∧(X∧((c (rapp b ([[S s]])) (wadd IntKind.i64 a 1))∧(Nl (m (rapp b ([[S s]])) (wadd IntKind.i64 a 1)) (m b a))))))))) (K b):=by
 refine⟨λl x=>0≤x∧x≤r.length∧l=nR ((r.take x.toNat).map λp=>Jou.segNm p.d.num),λ_ x=>(r.length-x).toNat,⟨by omega,by omega,by simp⟩,?_⟩;rintro l x ⟨x0,hx,rfl⟩;have j:rlen (ptR r)=r.length:=(by simp);rw[j];refine Zaa (λh=>?_) (λh=>?_)
 ·simp at h;have f:x.toNat<r.length:=(by omega);have k:r.take (x+1).toNat=r.take x.toNat++[r[x.toNat]]:=(by rw[show(x+1).toNat=x.toNat+1 by omega,List.take_succ_eq_append_getElem f]);refine⟨inM _ x0 h,_,_,_,_,_,_,_,_,_,_,_,Zay ptRow r x x0 h,Cl.of (Zdh _) ⟨_,rfl,?_,o,?_,?_⟩⟩
  ·simp;omega
  ·rw[Zac];refine⟨by omega,by omega,?_⟩;have:=Zed (n _ (List.getElem_mem f)).num;unfold nmG at this;rw[k,List.map_append,this];unfold rapp nR;rw[List.map_append];rfl
  ·rw[Zac];exact mlt (by first|omega|(dsimp only;omega))
 ·simp at h;have e:x.toNat=r.length:=(by omega);rw[e,Yh];exact q
def Zpm(d:DiD)(q:d.ok)(n:d.P)(j:d.dn=false):Ct prog 51 {} [d.sv] (λr=>r=[FdV d]∧∀p∈(rowK d.fs).1,PtK p):=by
 have A:=n.1.1;refine jlook_nf (Cl.ofQ (jrows_fn d q n j) ?_);rintro r ⟨rfl,hK⟩;have b:=rowK_K hK;have E:=Zwa d.fs;refine⟨_,_,rfl,Cl.ofQ (nnew_fn d q) ?_⟩;rintro r ⟨s,e,rfl,hn⟩;have t:=base_P d.fs;have a:=jrep_fn (rowK d.fs).1 b (by have:=Zpl d.fs;omega) (baseF d.fs) t
 have i:∀(k:Int) (X Y Z:Prop),k=keptF d.fs→((rowK d.fs)=([],(rowsD scF d.fs).1.map (λp=>segNm p.d.num)++(rowsD scF d.fs).2)→X)→(rowK d.fs=rowsD scF d.fs→Y)→(rowK d.fs=rowsD scF d.fs→Z)→
   ifB (igt (rlen (ptR (rowsD scF d.fs).1)) 0) (inR (wsub IntKind.i64 (rlen (ptR (rowsD scF d.fs).1)) 1) (ptR (rowsD scF d.fs).1)∧(ej3 (rget (ptR (rowsD scF d.fs).1) (wsub IntKind.i64 (rlen (ptR (rowsD scF d.fs).1)) 1)) λF G H J K w L M N O D=>ifB (ilt w k) X Y)) Z:=by
  intro k X Y Z c x y z;generalize a:rowsD scF d.fs=R at*;have u:rlen (ptR R.1)=R.1.length:=(by simp);rw[u]
  have f:rowK d.fs=match R.1.getLast? with|none=>R|some p=>if p.d.s<keptF d.fs then([],R.1.map (λp=>segNm p.d.num)++R.2)else R:=by unfold rowK;rw[a];rfl
  refine Zaa (λh=>?_) (λh=>?_)
  ·simp at h;have l:R.1.length-1<R.1.length:=(by omega);have C:wsub IntKind.i64 (R.1.length:Int) 1=((R.1.length-1:Nat):Int):=by rw[Zat];omega
   have v:R.1.getLast?=some R.1[R.1.length-1]:=(by rw[List.getLast?_eq_getElem?];simp[l]);rw[v]at f
   dsimp only at f
   rw[C];refine⟨inM _ (by omega) (by omega),_,_,_,_,_,_,_,_,_,_,_,Zf7 l,Zaa (λo=>x ?_) (λo=>y ?_)⟩
   ·simp at o;rw[f,if_pos (by omega)]
   ·simp at o;rw[f,if_neg (by omega)]
  ·have h:R.1=[]:=(by simpa using h);have:R.1.getLast?=none:=(by rw[h];rfl);rw[this]at f;exact z f
 have m:(rowsD scF d.fs).1.length≤1000000:=by omega
 rcases new_cases n j hn with⟨rfl,c,g⟩|⟨rfl,rfl,c,g⟩
 ·refine⟨_,_,_,_,rfl,Zaa (λ_=>?_) (λh=>by simp at h)⟩;rw[g]at a;refine i _ _ _ _ c.symm (λer=>Zny m hK rfl ⟨?_,?_⟩) (λer=>?_) (λer=>?_)
  ·simp;omega
  ·rw[er]at a;refine Cl.of a ⟨_,_,_,_,rfl,⟨?_,b⟩⟩;simp only[FdV,er,c,g];rw[Zkl];rfl
  ·rw[er]at a;refine Cl.of a ⟨_,_,_,_,rfl,⟨?_,b⟩⟩;simp only[FdV,er,c,g]
  ·rw[er]at a;refine Cl.of a ⟨_,_,_,_,rfl,⟨?_,b⟩⟩;simp only[FdV,er,c,g]
 ·refine⟨_,_,_,_,rfl,Zaa (λh=>by simp at h) (λ_=>?_)⟩;rw[g]at a;refine i _ _ _ _ c.symm (λer=>Zny m hK rfl ⟨?_,?_⟩) (λer=>?_) (λer=>?_)
  ·simp;omega
  ·rw[er]at a;refine Cl.of a ⟨_,_,_,_,rfl,⟨?_,b⟩⟩;simp only[FdV,er,c,g];rw[Zkl];rfl
  ·rw[er]at a;refine Cl.of a ⟨_,_,_,_,rfl,⟨?_,b⟩⟩;simp only[FdV,er,c,g]
  ·rw[er]at a;refine Cl.of a ⟨_,_,_,_,rfl,⟨?_,b⟩⟩;simp only[FdV,er,c,g]
def Zx5(s:BA):Ct prog 116 {} [S s] (λr=>r=[.clo 184 [.ref 0 [S s]]]):=Zy9 rfl
def jcut_fn(s:BA)(n:Int):Ct prog 118 {} [S s,I n] (λr=>r=[.clo 186 [.ref 0 [S s],.ref 0 [I n]]]):=jcut_nf rfl
def Zht(s:BA):Ct prog 87 {} [S s] (λr=>r=[.clo 150 [.ref 0 [S s]]]):=jsync_nf rfl
def Zx6(s:BA):Ct prog 142 {} [S s] (λr=>r=[.clo 206 [.ref 0 [S s]]]):=Zza rfl
def jwrite_fn(s:BA)(x:List UInt8):Ct prog 205 {} [S s,SL 1 (uR x)] (λr=>r=[.clo 276 [.ref 0 [S s],.ref 0 [SL 1 (uR x)]]]):=jwrite_nf rfl
def backs_fn(a:LL):Ct prog 115 {} [SL 1 a] (λr=>r=[.clo 183 [.ref 0 [SL 1 a]]]):=backs_nf rfl
def backp_fn(a:LL):Ct prog 117 {} [SL 11 a] (λr=>r=[.clo 185 [.ref 0 [SL 11 a]]]):=backp_nf rfl
def rev_at{a:Type}(l:List a)(x:Int)(b:0≤x)(h:x<l.length):∃c:x.toNat<l.reverse.length,kdn (l.length:Int) x=((l.length-1-x.toNat:Nat):Int)∧∃d:l.length-1-x.toNat<l.length,l[l.length-1-x.toNat]=l.reverse[x.toNat]:=by
 grind [kdn]
def mend_fn(r:List Pt)(o:List BA)(g:Int)(u:LL)(s a:Int)(i:Bool)(z:r.length≤1000)(A:o.length≤1000):Ct prog 53 {} [fd7 (ptR r) (nR o) g u s a i] (λx=>x=[SL 1 (tR (mendP r o))]):=by
 have d:rlen (nR o)=o.length:=(by simp);have e:rlen (ptR r)=r.length:=(by simp);have q:∀p:Pt,(cutP p).length≤1:=λp=>by unfold cutP;split<;>simp
 have b:∀l:List Pt,(l.flatMap cutP).length≤l.length:=λl=>by
  induction l with
  |nil=>simp
  |cons p l D=>rw[Yb,List.length_append,List.length_cons];have:=q p;omega
 refine mend_nf _ _ _ _ _ _ _ _ (Cl.of (backs_fn _) ⟨_,_,rfl,_,rfl,rfl,by rw[d];omega,?_⟩);rw[d];refine⟨λx l=>0≤x∧x≤o.length∧l=tR ((o.reverse.take x.toNat).map Stp.rem),⟨by omega,by omega,by simp⟩,?_,?_⟩
 ·rintro x j k l ⟨_,_,rfl⟩;obtain⟨m,e1,n,e2⟩:=rev_at o x j k;rw[e1];refine⟨_,Zaj _ _ _ n,Cl.of (Zx5 _) ⟨_,_,rfl,?_,rfl,?_⟩⟩
  ·simp;omega
  ·unfold kup;refine⟨by omega,by omega,?_⟩;rw[show(x+1).toNat=x.toNat+1 by omega,List.take_succ_eq_append_getElem m,e2];simp[rapp,Stp.row]
 rintro l ⟨_,_,rfl⟩;rw[Int.toNat_natCast,show o.reverse.take o.length=o.reverse from List.take_of_length_le (by simp)];refine Cl.of (backp_fn _) ⟨_,_,rfl,_,rfl,rfl,by rw[e];omega,?_⟩;rw[e];refine⟨λx l=>0≤x∧x≤r.length∧l=tR (o.reverse.map Stp.rem++(r.reverse.take x.toNat).flatMap cutP),⟨by omega,by omega,by simp⟩,?_,?_⟩
 ·rintro x j k l ⟨_,_,rfl⟩;obtain⟨m,e1,n,e2⟩:=rev_at r x j k;have y:r.reverse.take (kup x).toNat=r.reverse.take x.toNat++[r.reverse[x.toNat]]:=(by unfold kup;rw[show(x+1).toNat=x.toNat+1 by omega,List.take_succ_eq_append_getElem m]);have c:=b (r.reverse.take x.toNat);have t:(r.reverse.take x.toNat).length≤1000:=(by simp;omega);rw[e1];refine⟨_,_,_,_,_,_,_,_,_,_,_,Zf7 n,Zaa (λh=>Cl.of (Zdh _) ⟨_,rfl,Cl.of (jcut_fn _ _) ⟨_,_,rfl,?_,rfl,?_⟩⟩) (λh=>⟨rfl,?_⟩)⟩
  ·simp at c t⊢;omega
  ·refine⟨by unfold kup;omega,by unfold kup;omega,?_⟩
   simp_all[List.flatMap_append,e2,rapp,Stp.row,cutP,nmG,segL]
  ·refine⟨by unfold kup;omega,by unfold kup;omega,?_⟩
   simp_all[List.flatMap_append,e2,cutP]
 rintro l ⟨_,_,rfl⟩;rw[Int.toNat_natCast,show r.reverse.take r.length=r.reverse from List.take_of_length_le (by simp)];have c:=b r.reverse;refine Zaa (λh=>?_) (λh=>?_)
 ·have h:0<r.length:=by
   simp_all
  have f:r.length-1<r.length:=(by omega);have w:wsub IntKind.i64 (r.length:Int) 1=((r.length-1:Nat):Int):=(by grind [Zat]);have C:r.getLast?=some r[r.length-1]:=(by grind);rw[w];refine⟨inM _ (by omega) (by omega),_,_,_,_,_,_,_,_,_,_,_,Zf7 f,Zaa (λv=>⟨inM _ (by omega) (by omega),_,_,_,_,_,_,_,_,_,_,_,Zf7 f,Cl.of (Zdh _) ⟨_,rfl,Cl.of (Zht _) ⟨_,_,rfl,?_,?_⟩⟩⟩) (λv=>?_)⟩
  ·simp only[rlen_eq,List.length_map,List.length_append,Y02,lsum_eq,List.length_cons,Y6]at c⊢;omega
  ·simp_all[rapp,Stp.row,synP,mendP,Znq,nmG]
  simp_all[synP,mendP,Znq]
 simp_all[synP,mendP]
def mendP_ok{r:List Pt}{o:List BA}:∀s∈mendP r o,s.ok:=by
 intro s a;unfold mendP at a
 rcases List.mem_append.1 a with h|h
 ·obtain⟨n,_,rfl⟩:=Y3.1 h;trivial
 ·rcases List.mem_append.1 h with h|h
  ·obtain⟨p,_,h⟩:=List.mem_flatMap.1 h;unfold cutP at h
   split at h
   ·simp at h;subst h;trivial
   ·cases h
  ·unfold synP at h
   split at h
   ·cases h
   ·split at h
    ·cases h
    ·simp at h;subst h;trivial
def mendP_len{r:List Pt}{o:List BA}:(mendP r o).length≤o.length+r.length+1:=by
 have a:∀l:List Pt,(l.flatMap cutP).length≤l.length:=λl=>by
  induction l with
  |nil=>simp
  |cons p l b=>
   grind [List.length_append,List.length_cons,cutP]
 grind [List.length_append,List.length_map,List.length_reverse,synP,mendP]
def JoD.sv(j:JoD):SV:=jr16 (fR j.dk.fs) j.dk.rm j.dk.st j.dk.dn j.cb j.cg (sgR j.sg) j.cx.s j.cx.a (nR j.cx.m) (coR j.st.cs) j.st.q j.st.t j.sure j.kept j.shut
def Zkj(d:DiD):(repP (rowK d.fs).1 (baseF d.fs)).2=true↔GoodR (rowK d.fs).1 (keptF d.fs) (baseF d.fs):=by
 rw[repP_iff,Zrc]
def good_st(h:GoodR (rowK d.fs).1 (keptF d.fs) (baseF d.fs)):(repP (rowK d.fs).1 (baseF d.fs)).1=stR (rowK d.fs).1 (keptF d.fs) (baseF d.fs):=by
 grind [Zrc,repP_st,rowK,baseF]
def Zkk(d:DiD)(j:d.ok)(a b:Int):Ct prog 13 {} [d.sv,.agg [I a,I b]] (λr=>r=[(openP d a b).1.sv,I (openP d a b).2]):=by
 refine jopen_nf (Cl.of (Ze4 d j) ⟨_,rfl,Zaa (λh=>?_) (λh=>Cl.of (Zq6 a b) ⟨_,rfl,Zaa (λf=>?_) (λf=>?_)⟩)⟩)
 ·simp at h;unfold openP;rw[if_pos (λq=>h q.1)];rfl
 ·simp at f;unfold openP;rw[if_pos (λq=>f q.2)];rfl
 simp at h f;have k:¬¬(d.P∧mayC a b):=λq=>q ⟨h,f⟩;refine Zaa (λi=>?_) (λi=>?_)
 ·unfold openP;rw[if_neg k,if_pos i];rfl
 have l:=h.1.1;have m:=Zpl d.fs;refine Cl.ofQ (Zpm d j h i) ?_;rintro r ⟨rfl,hK⟩;refine⟨_,_,_,_,_,_,_,rfl,Zaa (λc=>?_) (λc=>Cl.of (mend_fn _ _ _ _ _ _ _ (by omega) (by omega)) ⟨_,rfl,Cl.of (Zo5 d j _ mendP_ok (by have:=mendP_len (r:=(rowK d.fs).1) (o:=(rowK d.fs).2);omega)) ⟨_,_,_,_,_,rfl,?_⟩⟩)⟩
 ·have c:¬GoodR (rowK d.fs).1 (keptF d.fs) (baseF d.fs):=(by rw[←Zkj];simpa using c);unfold openP;rw[if_neg k,if_neg (by simp[i]),if_pos c];rfl
 have c:GoodR (rowK d.fs).1 (keptF d.fs) (baseF d.fs):=by simp_all[Zkj]
 have e:openP d a b=if(menD d).2≠0 then(jo0 (menD d).1,(menD d).2)else(⟨(menD d).1,a,b,(rowK d.fs).1.map sgOf,Zbo (rowK d.fs).1,stR (rowK d.fs).1 (keptF d.fs) (baseF d.fs),(stR (rowK d.fs).1 (keptF d.fs) (baseF d.fs)).q,keptF d.fs,false⟩,0):=by
  grind [openP]
 rw[e,good_st c];refine Zaa (λg=>?_) (λg=>?_)
 ·have g:(menD d).2≠0:=(by simp_all[menD]);rw[if_pos g];rfl
 ·have g:(menD d).2=0:=(by simp_all[menD]);rw[if_neg (by simp[g])];exact Cl.of (Zvs _ (by omega)) ⟨_,rfl,Cl.of (Zq5 _ (by omega)) ⟨_,_,_,rfl,rfl⟩⟩
structure JoD.ok(j:JoD):Prop where
 dk:j.dk.ok
 sg:j.sg.length≤1000000
 m:j.cx.m.length≤1000000
 cs:j.st.cs.length≤1000000
 cl:∀c∈j.st.cs,c.cl.length≤1000000
def Zu6(p q:SgD):band (ieq p.num q.num) (band (ieq p.fi q.fi) (band (ieq p.la q.la) (band (ieq p.fr q.fr) (band (ieq p.ti q.ti) (band (ieq p.sz q.sz) (band (beqB p.sl q.sl) true))))))=decide (p=q):=by
 cases p;cases q
 rw[Bool.eq_iff_iff];simp
theorem Zsk{c:Type}{a b:List c}(d:n<a.length)(f:n<b.length)(h:a.take n=b.take n)(e:a[n]=b[n]):a.take (n+1)=b.take (n+1):=by
 rw[List.take_succ_eq_append_getElem d,List.take_succ_eq_append_getElem f,h,e]
def jsegeq_fn(a b:List SgD)(g:a.length≤1000000):Ct prog 57 {} [SL 7 (sgR a),SL 7 (sgR b)] (λr=>r=[B (decide (a=b))]):=by
 refine segeq_nf (Zaa (λh=>?_) (λh=>?_))
 ·have:¬a=b:=λe=>by rw[e]at h;simp at h
  grind
 have i:a.length=b.length:=(by simp at h;omega);refine⟨λ_ x=>0≤x∧x≤a.length∧a.take x.toNat=b.take x.toNat,λ_ x=>(a.length-x).toNat,⟨by omega,by omega,rfl⟩,?_⟩;rintro _ x ⟨x0,hx,he⟩;refine Zaa (λc=>?_) (λc=>?_)
 ·have c:x<a.length:=(by simp_all);have d:x<b.length:=(by omega);refine⟨inM _ x0 c,_,_,_,_,_,_,_,Zay SgD.row a x x0 c,inM _ x0 d,_,_,_,_,_,_,_,Zay SgD.row b x x0 d,?_⟩
  dsimp only
  rw[Zu6,Zac];refine Zaa (λf=>?_) (λf=>⟨rfl,⟨by omega,by omega,?_⟩,mlt (by first|omega|(dsimp only;omega))⟩)
  ·have:¬a=b:=λe=>by subst e;simp at f
   grind
  ·rw[show(x+1).toNat=x.toNat+1 by omega];exact Zsk (by omega) (by omega) he (by simpa using f)
 ·have c:x=a.length:=by simp at c;omega
  grind [Int.toNat_natCast,List.take_length]
def jstreq_fn(a b:List BA)(g:a.length≤1000000):Ct prog 120 {} [SL 1 (nR a),SL 1 (nR b)] (λr=>r=[B (decide (a=b))]):=by
 refine streq_nf (Zaa (λh=>?_) (λh=>?_))
 ·have:¬a=b:=λe=>by rw[e]at h;simp at h
  grind
 have i:a.length=b.length:=(by simp at h;omega);refine⟨λ_ x=>0≤x∧x≤a.length∧a.take x.toNat=b.take x.toNat,λ_ x=>(a.length-x).toNat,⟨by omega,by omega,rfl⟩,?_⟩;rintro _ x ⟨x0,hx,he⟩;refine Zaa (λc=>?_) (λc=>?_)
 ·have c:x<a.length:=(by simp_all);have d:x<b.length:=(by omega);refine⟨inM _ x0 c,_,Zay _ a x x0 c,inM _ x0 d,_,Zay _ b x x0 d,?_⟩
  dsimp only
  rw[sne_eq,Zwq,Zac];refine Zaa (λf=>?_) (λf=>⟨rfl,⟨by omega,by omega,?_⟩,mlt (by first|omega|(dsimp only;omega))⟩)
  ·have:¬a=b:=λe=>by subst e;simp at f
   grind
  ·rw[show(x+1).toNat=x.toNat+1 by omega]
   grind [Zsk]
 ·have c:x=a.length:=by simp at c;omega
  grind [Int.toNat_natCast,List.take_length]
def jsame_fn(c d:CxD)(b:c.m.length≤1000000):Ct prog 58 {} [c.sv,d.sv] (λr=>r=[B (decide (c=d))]):=by
 have ext:c=d↔(c.s=d.s∧c.a=d.a)∧c.m=d.m:=(by cases c;cases d;simp[and_assoc]);refine jsame_nf (Zaa (λh=>Cl.of (jstreq_fn _ _ b) ⟨_,rfl,?_⟩) (λh=>?_))
 ·simp_all
 simp_all
open Classical in
noncomputable def rgtJ(j:JoD):Bool:=decide (RightJ j)
def Zec{j:JoD}:rgtJ j=true↔RightJ j:=by unfold rgtJ;simp
def rgtJ_no(h:¬RightJ J):rgtJ J=false:=by unfold rgtJ;simp[h]
def Zdp:RightJ J↔mayC J.cb J.cg∧J.dk.P∧J.dk.dn=false∧GoodR (rowK J.dk.fs).1 (keptF J.dk.fs) (baseF J.dk.fs)∧(rowK J.dk.fs).2=[]∧(∀p∈(rowK J.dk.fs).1,p.n=(segL p.d).length)∧
  J.sg=(rowK J.dk.fs).1.map sgOf∧J.cx=Zbo (rowK J.dk.fs).1∧J.st=stR (rowK J.dk.fs).1 (keptF J.dk.fs) (baseF J.dk.fs)∧J.kept=keptF J.dk.fs∧J.kept≤J.sure∧J.sure≤J.st.q:=by
 constructor
 ·intro h;have e:=h.eq;have e1:=congrArg JoD.sg e;have e2:=congrArg JoD.cx e;have b:=congrArg JoD.st e;have a:=congrArg JoD.kept e;have c:J.kept=keptF J.dk.fs:=a;exact⟨h.cfg,h.dk,h.up,h.good,h.out,h.all,e1,e2,b,a,by rw[c];exact h.sure.1,h.sure.2⟩
 ·rintro⟨f,g,i,k,l,m,e1,e2,b,a,o,r⟩;refine⟨f,g,i,l,k,m,?_,by rw[←a];exact o,r⟩;unfold anewJ;rw[←e1,←e2,←b,←a]
def Zf0(j:JoD)(h:j.ok):Ct prog 17 {} [j.sv] (λr=>r=[B (rgtJ j)]):=by
 have no:∀{p:Prop},(RightJ j→p)→¬p→rgtJ j=false:=λf g=>rgtJ_no λq=>g (f q);refine jright_nf (Cl.of (Zq6 _ _) ⟨_,rfl,Zaa (λg=>?_) (λg=>?_)⟩)
 ·rw[no (λq=>q.cfg) (by simpa using g)]
 have v:mayC j.cb j.cg:=(by simpa using g);refine Cl.of (Ze4 j.dk h.dk) ⟨_,rfl,Zaa (λg=>?_) (λg=>?_)⟩
 ·rw[no (λq=>And.intro q.dk q.up) (λq=>by simp[q.1,q.2]at g)]
 have l:j.dk.P:=Classical.byContradiction λq=>by simp[q]at g
 have o:j.dk.dn=false:=(by simp_all);have w:=l.1.1;have F:=Zpl j.dk.fs;refine Cl.ofQ (Zpm j.dk h.dk l o) ?_;rintro r ⟨rfl,hK⟩;refine⟨_,_,_,_,_,_,_,rfl,Zaa (λg=>?_) (λg=>?_)⟩
 ·rw[no (λq=>And.intro q.good q.out) (λq=>by
   have:=(Zkj j.dk).2 q.1;rw[this,q.2]at g
   simp at g)]
 have s:GoodR (rowK j.dk.fs).1 (keptF j.dk.fs) (baseF j.dk.fs):=(Zkj j.dk).1 (Classical.byContradiction λq=>by simp[q]at g)
 have y:(rowK j.dk.fs).2=[]:=by
  simp_all
 have t:rlen (ptR (rowK j.dk.fs).1)=(rowK j.dk.fs).1.length:=(by simp);refine⟨λ_ x=>0≤x∧x≤(rowK j.dk.fs).1.length∧∀i:Nat,∀c:i<(rowK j.dk.fs).1.length,i<x→(rowK j.dk.fs).1[i].n=(segL (rowK j.dk.fs).1[i].d).length,λ_ x=>((rowK j.dk.fs).1.length-x).toNat,⟨by omega,by omega,by intro i c q;omega⟩,?_⟩;rintro _ x ⟨x0,hx,hall⟩;rw[t];refine Zaa (λg=>?_) (λg=>?_)
 ·have g:x<(rowK j.dk.fs).1.length:=(by simpa using g);have a:x.toNat<(rowK j.dk.fs).1.length:=(by omega);have k:=hK _ (List.getElem_mem a);refine⟨inM _ x0 g,_,_,_,_,_,_,_,_,_,_,_,Zay ptRow _ x x0 g,Zaa (λz=>?_) (λz=>⟨rfl,?_,?_⟩)⟩
  ·rw[no (λq=>q.all _ (List.getElem_mem a)) (by simp at z;omega)]
  ·rw[Zac];refine⟨by omega,by omega,λi c q=>?_⟩;by_cases e:i<x
   ·grind
   ·have:i=x.toNat:=(by omega);subst this;have:=k.le;simp at z;omega
  grind [Zac,mlt]
 have A:∀p∈(rowK j.dk.fs).1,p.n=(segL p.d).length:=λp k=>by
  obtain⟨i,c,rfl⟩:=List.mem_iff_getElem.1 k;simp at g
  grind
 refine Cl.of (Zvs _ (by omega)) ⟨_,rfl,Cl.of (jsegeq_fn _ _ h.sg) ⟨_,rfl,Zaa (λg=>?_) (λg=>?_)⟩⟩
 ·rw[no (λq=>(Zdp.1 q).2.2.2.2.2.2.1) (by simpa using g)]
 have C:j.sg=(rowK j.dk.fs).1.map sgOf:=(by simpa using g);refine Cl.of (Zq5 _ (by omega)) ⟨_,_,_,rfl,Cl.of (jsame_fn j.cx (Zbo (rowK j.dk.fs).1) h.m) ⟨_,rfl,Zaa (λg=>?_) (λg=>?_)⟩⟩
 ·rw[no (λq=>(Zdp.1 q).2.2.2.2.2.2.2.1) (by simpa using g)]
 have D:j.cx=Zbo (rowK j.dk.fs).1:=(by simpa using g);have b:=Zvx j.st (repP (rowK j.dk.fs).1 (baseF j.dk.fs)).1 (by have:=h.cs;omega) h.cl;rw[good_st s]at b⊢;refine Cl.of b ⟨_,rfl,Zaa (λg=>?_) (λg=>?_)⟩
 ·rw[no (λq=>And.intro (Zdp.1 q).2.2.2.2.2.2.2.2.1 (Zdp.1 q).2.2.2.2.2.2.2.2.2.1) (λq=>by simp[q.1,q.2]at g)]
 have E:j.st=stR (rowK j.dk.fs).1 (keptF j.dk.fs) (baseF j.dk.fs):=Classical.byContradiction λq=>by simp[q]at g
 have u:j.kept=keptF j.dk.fs:=Classical.byContradiction λq=>by simp[q]at g
 have:rgtJ j=bpick (ige j.sure j.kept) (ile j.sure j.st.q) false:=by
  rw[Bool.eq_iff_iff,Zec];constructor
  ·intro q;have:=(Zdp.1 q).2.2.2.2.2.2.2.2.2.2
   simp_all
  ·intro q;have q:j.kept≤j.sure∧j.sure≤j.st.q:=(by simpa using q);exact Zdp.2 ⟨v,l,o,s,y,A,C,D,E,u,q.1,q.2⟩
 rw[this]
def Zsl(j:JoD)(h:j.ok):Ct prog 68 {} [j.sv] (λr=>r=[I (mayJ j)]):=by
 refine jmay_nf (Cl.of (Ze4 j.dk h.dk) ⟨_,rfl,Zaa (λg=>?_) (λg=>Cl.of (Zf0 j h) ⟨_,rfl,Zaa (λz=>?_) (λz=>?_)⟩)⟩)
 ·simp_all[mayJ]
 ·have z:¬RightJ j:=λq=>by rw[Zec.2 q]at z;simp at z
  simp_all[mayJ]
 ·have z:RightJ j:=Zec.1 (by simpa using z);rw[Zcm.2 z]
def Zng(j:JoD)(h:j.ok):Ct prog 15 {} [j.sv] (λr=>r=[SL 7 (evR (evsJ j))]):=by
 refine Zzd (Cl.of (Zf0 j h) ⟨_,rfl,Zaa (λg=>?_) (λg=>?_)⟩)
 ·have g:¬RightJ j:=λq=>by rw[Zec.2 q]at g;simp at g
  grind [evsJ]
 have g:RightJ j:=Zec.1 (by simpa using g);have o:evsJ j=(rowK j.dk.fs).1.flatMap (·.d.ev):=(by grind [evsJ]);rw[o];have s:=g.dk.1.1;have t:=Zpl j.dk.fs;refine Cl.ofQ (Zpm j.dk h.dk g.dk g.up) ?_;rintro r ⟨rfl,hK⟩;refine⟨_,_,_,_,_,_,_,rfl,?_⟩;generalize(rowK j.dk.fs).1=R at*
 have c:∀l:List Pt,(∀p∈l,PtK p)→(l.flatMap (·.d.ev)).length≤65536*l.length:=λl=>by
  induction l with
  |nil=>intro _;simp
  |cons p l y=>
   intro b;have u:=ev_len (b p (by simp));have v:=(b p (by simp)).le;have w:=(b p (by simp)).n
   grind
 have e:rlen (ptR R)=R.length:=(by simp);refine⟨λl x=>0≤x∧x≤R.length∧l=evR ((R.take x.toNat).flatMap (·.d.ev)),λ_ x=>(R.length-x).toNat,⟨by omega,by omega,rfl⟩,?_⟩;rintro l x ⟨x0,hx,rfl⟩;rw[e];refine Zaa (λg=>?_) (λg=>?_)
 ·have g:x<R.length:=(by simpa using g);have f:x.toNat<R.length:=(by omega);have i:R.take (x+1).toNat=R.take x.toNat++[R[x.toNat]]:=(by rw[show(x+1).toNat=x.toNat+1 by omega,List.take_succ_eq_append_getElem f]);have k:=c (R.take (x+1).toNat) (λp m=>hK p (List.mem_of_mem_take m));have a:(R.take (x+1).toNat).length≤64:=(by simp;omega);refine⟨inM _ x0 g,_,_,_,_,_,_,_,_,_,_,_,Zay ptRow _ x x0 g,?_,rfl,?_,?_⟩
  ·rw[i]at k a;simp only[List.flatMap_append,List.length_append,Yb,WM,List.append_nil,rlen_eq,List.length_map,lsum_eq]at k a⊢;omega
  ·grind [rapp,Zac]
  grind [Zac,mlt]
 ·have g:x.toNat=R.length:=by simp at g;omega
  grind
def WrD.sv(w:WrD):SV:=wr18 (fR w.j.dk.fs) w.j.dk.rm w.j.dk.st w.j.dk.dn w.j.cb w.j.cg (sgR w.j.sg) w.j.cx.s w.j.cx.a (nR w.j.cx.m) (coR w.j.st.cs) w.j.st.q w.j.st.t w.j.sure w.j.kept w.j.shut (tR w.td) w.sz
def bR_bys(h:Byts x):bR x=uR (bys x):=by
 grind [uR_bR,bys,iU_of]
theorem sg_len(l:List SgD)(p:SgD):rlen (sgR (l++[p]))=l.length+1:=by simp
def Zfv{l:List SgD}(p:SgD)(h:l.length≤1000000:=by omega):wsub .i64 (rlen (sgR (l++[p]))) 1=(l.length:Int):=by
 grind [sg_len,Zat]
def Zeh(l:List SgD)(p:SgD):rget (sgR (l++[p])) (l.length:Int)=p.row:=by simp[rget]
theorem Zv7(l:List SgD)(p q:SgD):rset (sgR (l++[p])) (l.length:Int) q.row=sgR (l++[q]):=by simp[rset]
def sg_in(l:List SgD)(p:SgD):inR (l.length:Int) (sgR (l++[p])):=⟨by omega,by rw[sg_len];omega⟩
def tR_app(a:List Stp)(s:Stp):rapp (tR a) [s.row]=tR (a++[s]):=by simp[rapp]
def Ztg(w:WrD)(l:List SgD)(p:SgD)(c:w.j.sg=l++[p])(b:List Int)(d:Byts b)(f:l.length≤1000000)(h:w.td.length≤1000000)(g:b.length≤1000000)(i:0≤p.sz∧p.sz≤1000000000)(k:0≤w.sz∧w.sz≤1000000000):
  Ct prog 140 sgP [w.sv,SL 1 (bR b)] (λr=>r=[(putW w l p b).sv]):=by
 refine wput_nf ?_;rw[c,Zfv p f,bR_bys d];have a:rlen (uR (bys b))=b.length:=(by simp[bys]);rw[a];refine⟨sg_in l p,sg_in l p,_,_,_,_,_,_,_,Zeh l p,sg_in l p,_,_,_,_,_,_,_,Zeh l p,?_⟩;rw[Zac,Zac];have e:=Zv7 l p {p with sz:=p.sz+b.length};unfold SgD.row at e
 dsimp only at e⊢
 rw[e];refine⟨sg_in l _,_,_,_,_,_,_,_,Zeh l _,Cl.of (Zdh _) ⟨_,rfl,Cl.of (jwrite_fn _ _) ⟨_,_,rfl,?_,?_⟩⟩⟩
 ·simp;omega
 ·have:=tR_app w.td (.wri (nmG p.num) (bys b));unfold Stp.row at this;rw[this];rfl
def wopen_fn(w:WrD)(b:w.j.sg.length≤1000000):Ct prog 74 sgW [w.sv] (λr=>r=[B (opnW w),w.sv]):=by
 refine wopen_nf ?_
 rcases Y1 w.j.sg with e|⟨l,p,e⟩
 ·rw[e];refine Zaa (λh=>by simp at h) (λ_=>?_);unfold WrD.sv opnW;rw[e];rfl
 ·rw[List.concat_eq_append]at e;have a:l.length≤1000000:=(by grind);rw[e,Zfv p a];refine Zaa (λ_=>⟨sg_in l p,sg_in l p,_,_,_,_,_,_,_,Zeh l p,?_⟩) (λh=>by simp at h<;>omega)
  simp_all[Zae,WrD.sv,opnW]
def slP_le{n s a:Int}(b:n≤9223372036854775807)(c:s≤9223372036854775807)(d:a≤9223372036854775807):(slP n s a).length≤30:=by
 have e:(leb n.toNat).length≤10:=Cod.leb_small;have f:(leb s.toNat).length≤10:=Cod.leb_small;have b3:(leb a.toNat).length≤10:=Cod.leb_small
 grind [slP]
def Zv8(w:WrD)(l:List SgD)(p:SgD)(d:w.j.sg=l++[p])(e:ctxB w.j.cx.s w.j.cx.a w.j.cx.m=true)(q:p.fi≤p.la)(t:0≤p.fi)(u:p.la≤9223372036854775807)(v:l.length≤100000)(x:w.td.length≤100000)(y:0≤p.sz∧p.sz≤100000000)(z:0≤w.sz∧w.sz≤100000000):
  Ct prog 72 sgW [w.sv] (λr=>r=[B true,(sealW w l p).sv]):=by
 have i:=(Zbh.1 e).1;have k:=slP_le (n:=p.la-p.fi) (s:=w.j.cx.s) (a:=w.j.cx.a) (by omega) (by omega) (by omega);have f:Byts (selB w.j p):=Zje (by omega) (by omega) (Zwo _ _ _);have o:(selB w.j p).length≤40:=(by grind [Zfy,selB]);refine wseal_nf ?_;rw[d,Zfv p];refine⟨sg_in l p,sg_in l p,_,_,_,_,_,_,_,Zeh l p,sg_in l p,_,_,_,_,_,_,_,Zeh l p,?_⟩
 dsimp only
 rw[Zat];have c:=sseal2_fn (p.la-p.fi) w.j.cx.s w.j.cx.a w.j.cx.m (by omega);rw[if_pos ⟨e,by omega⟩]at c;refine Cl.of c ⟨_,_,rfl,Zaa (λh=>by simp at h) (λ_=>?_)⟩;have b:=Ztg w l p d (selB w.j p) f (by omega) (by omega) (by omega) (by omega) (by omega);unfold WrD.sv at b;rw[d]at b;refine Cl.of b ⟨_,_,_,_,_,_,_,_,_,_,_,_,_,_,_,_,_,_,rfl,?_⟩;have g:(putW w l p (selB w.j p)).j.sg=l++[{p with sz:=p.sz+(selB w.j p).length}]:=rfl
 dsimp only
 rw[g];refine⟨sg_in l _,_,_,_,_,_,_,_,Zeh l _,Cl.of (Zdh _) ⟨_,rfl,Cl.of (Zht _) ⟨_,_,rfl,?_,sg_in l _,_,_,_,_,_,_,_,Zeh l _,?_⟩⟩⟩
 ·simp[putW];omega
 ·have e1:=tR_app (putW w l p (selB w.j p)).td (.syn (nmG p.num))
  grind [e1,e2,WrD.sv,sealW,putW,List.append_assoc,Stp.row,SgD.row,Zv7]
def sgW_snoc(l:List SgD)(p:SgD):rapp (sgR l) [p.row]=sgR (l++[p]):=by simp[rapp]
def wbeg_go(w:WrD)(n:Int)(E:nxtN w=n)(o:ctxOK w.j.st.q w.j.st.t)(hl:w.j.sg.length≤100000)(hf:w.j.dk.fs.length≤100000)(ht:w.td.length≤100000)(hs:0≤w.sz∧w.sz≤100000000){Q:List SV→Prop}(k:Q (match begW w with|none=>[B false,w.sv]|some v=>[B true,v.sv])):
  Cl prog 88 sP [I n] (λ(F:List SV)=>ej2 F λs=>(ifB (bpick (seq s (bA [])) true (igt (wadd IntKind.i64 (rlen (fR w.j.dk.fs)) 1) 64)) (Q ([B false,wr18 (fR w.j.dk.fs) w.j.dk.rm w.j.dk.st w.j.dk.dn w.j.cb w.j.cg (sgR w.j.sg) w.j.cx.s w.j.cx.a (nR w.j.cx.m) (coR w.j.st.cs) w.j.st.q w.j.st.t w.j.sure w.j.kept w.j.shut (tR w.td) w.sz])) (Cl prog 141 (Sig.mk [] [Md.own,Md.pure]) ([I n,cx3 w.j.st.q w.j.st.t []]) (λ(p:List SV)=>ej7 p λl x=>(ifB (ine x 0) (Q ([B false,wr18 (fR w.j.dk.fs) w.j.dk.rm w.j.dk.st w.j.dk.dn w.j.cb w.j.cg (sgR w.j.sg) w.j.cx.s w.j.cx.a (nR w.j.cx.m) (coR w.j.st.cs) w.j.st.q w.j.st.t w.j.sure w.j.kept w.j.shut (tR w.td) w.sz])) (Cl prog 142 sP [S s] (λ(r:List SV)=>ej0 r λf d=>(((lsum (rlen (tR w.td)) (rlen ([[SV.clo f d]])))≤((2147483648:Int)))∧(((lsum (rlen (sgR w.j.sg)) (rlen ([[I n,I w.j.st.q,I w.j.st.q,I w.j.st.t,I w.j.st.t,I 0,B false]])))≤((2147483648:Int)))∧(Cl prog 140 sgP ([wr18 (fR w.j.dk.fs) w.j.dk.rm w.j.dk.st w.j.dk.dn w.j.cb w.j.cg (rapp (sgR w.j.sg) ([[I n,I w.j.st.q,I w.j.st.q,I w.j.st.t,I w.j.st.t,I 0,B false]])) w.j.cx.s w.j.cx.a (nR w.j.cx.m) (coR w.j.st.cs) w.j.st.q w.j.st.t w.j.sure w.j.kept w.j.shut (rapp (tR w.td) ([[SV.clo f d]])) w.sz,SL 1 l]) (λ(u:List SV)=>ej8 u λG H J b K L M x5 x6 l3 N O P R y T U z=>(Q ([B true,wr18 G H J b K L M w.j.st.q w.j.st.t [] N O P R y T U z]))))))))))))):=by
 have C:rlen (fR w.j.dk.fs)=w.j.dk.fs.length:=(by simp);rw[C,Zac];have V:∀s:BA,seq s (bA [])=decide (s=ByteArray.mk #[]):=λs=>by rw[seq_eq,Zwq]
 have g:inN n→nmG n≠ByteArray.mk #[]:=λh e=>by
  grind [Zcj,Zed]
 refine Cl.of (Zdh n) ⟨_,rfl,?_⟩
 dsimp only
 rw[V];refine Zaa (λh=>?_) (λh=>?_)
 ·have:begW w=none:=by
   unfold begW;rw[E,if_pos];by_cases c:inN n
   ·have:=g c
    have h':64<(w.j.dk.fs.length:Int)+1:=by
     simp_all
    omega
   grind
  rw[this]at k;exact k
 have c:inN n:=Classical.byContradiction λq=>by
  simp_all[nmG,nmG_no]
 have Z:¬64<w.j.dk.fs.length+1:=by have:=g c;unfold nmG at this;simp[this]at h;omega
 have W:begW w=some ⟨{w.j with sg:=w.j.sg++[⟨n,w.j.st.q,w.j.st.q,w.j.st.t,w.j.st.t,(hedB w.j n).length,false⟩],cx:=⟨w.j.st.q,w.j.st.t,[]⟩},w.td++[.cre (nmG n),.wri (nmG n) (bys (hedB w.j n))],w.sz+(hedB w.j n).length⟩:=by
  grind [begW]
 rw[W]at k;obtain⟨A,Y⟩:=Zuj (j:=w.j) c o;have i:=shead_fn n w.j.st.q w.j.st.t [] (by simp);have X:headE n w.j.st.q w.j.st.t []=(hedB w.j n,0):=(by unfold headE;rw[if_neg (by have:=c.1;have:=c.2;omega),if_neg (by simp[o])];rfl);rw[X]at i;refine Cl.of i ⟨_,_,rfl,Zaa (λh=>by simp at h) (λ_=>Cl.of (Zx6 _) ⟨_,_,rfl,?_,?_,?_⟩)⟩
 ·simp;omega
 ·simp;omega
 have e1:=tR_app w.td (.cre (nmG n));have e2:=sgW_snoc w.j.sg ⟨n,w.j.st.q,w.j.st.q,w.j.st.t,w.j.st.t,0,false⟩;unfold Stp.row nmG at e1;unfold SgD.row at e2
 dsimp only at e1 e2⊢
 rw[e1,e2];have D:=Ztg ⟨{w.j with sg:=w.j.sg++[⟨n,w.j.st.q,w.j.st.q,w.j.st.t,w.j.st.t,0,false⟩]},w.td++[.cre (Sgr.segNm n)],w.sz⟩ w.j.sg _ rfl (hedB w.j n) A (by omega) (by simp;omega) (by omega) (by simp) (by dsimp only;omega);refine Cl.of D ⟨_,_,_,_,_,_,_,_,_,_,_,_,_,_,_,_,_,_,rfl,?_⟩
 simp_all[WrD.sv,putW,List.append_assoc,Y5,List.nil_append,List.map_nil,Wo]
def wbegin_fn(w:WrD)(k:∀l p,w.j.sg=l++[p]→0≤p.num∧p.num≤99999999)(c:ctxOK w.j.st.q w.j.st.t)(d:w.j.sg.length≤100000)(f:w.j.dk.fs.length≤100000)(g:w.td.length≤100000)(i:0≤w.sz∧w.sz≤100000000):
  Ct prog 75 sgW [w.sv] (λr=>r=match begW w with|none=>[B false,w.sv]|some v=>[B true,v.sv]):=by
 refine wbegin_nf ?_
 rcases Y1 w.j.sg with e|⟨l,p,e⟩
 ·have b:nxtN w=1:=(by unfold nxtN;rw[e];rfl);have h:=wbeg_go w 1 b c d f g i (Q:=λr=>r=match begW w with|none=>[B false,w.sv]|some v=>[B true,v.sv]) rfl
  simp_all[Zaa]
 ·rw[List.concat_eq_append]at e;have b:nxtN w=p.num+1:=(by grind [Zae,nxtN]);have n:=k l p e;have h:=wbeg_go w (p.num+1) b c d f g i (Q:=λr=>r=match begW w with|none=>[B false,w.sv]|some v=>[B true,v.sv]) rfl;have m:l.length≤100000:=(by grind);rw[←Zac]at h;refine Zaa (λ_=>?_) (λh=>by rw[e]at h;simp at h<;>omega);have a:inR (wsub IntKind.i64 (rlen (sgR w.j.sg)) 1) (sgR w.j.sg):=by rw[e,Zfv p];exact sg_in l p
  exact⟨a,a,_,_,_,_,_,_,_,by rw[e,Zfv p];exact Zeh l p,h⟩
def Zth{j:JoD}{e:Cod.EvD}(h:encE j.cx.s j.cx.a j.cx.m e=0):Byts (recL' j e)∧(recL' j e).length≤127:=by
 have:=Zh7 (Zc7.1 h)
 grind [Zfy,recL',Zje,Zi0]
def wrec_fn(w:WrD)(e:Cod.EvD)(l:List SgD)(p:SgD)(T:w.j.sg=l++[p])(hl:l.length≤100000)(ht:w.td.length≤100000)(hp:0≤p.sz∧p.sz≤100000000)(hs:0≤w.sz∧w.sz≤100000000):
  Ct prog 76 sgW [w.sv,e.sv] (λr=>r=match recW w e with|none=>[B false,w.sv]|some v=>[B true,v.sv]):=by
 have u:=Zu9 w.j.cx.s w.j.cx.a w.j.cx.m e;unfold addR at u
 have C:∀Q:List SV→Prop,Q (match recW w e with|none=>[B false,w.sv]|some v=>[B true,v.sv])→Cl prog 138 sP ([cx3 w.j.cx.s w.j.cx.a (nR w.j.cx.m),ev7 e.s e.a e.k e.c e.x e.y e.z]) (λ(U:List SV)=>ej6 U λl x V W X=>(ifB (ine X 0) (Q ([B false,wr18 (fR w.j.dk.fs) w.j.dk.rm w.j.dk.st w.j.dk.dn w.j.cb w.j.cg (sgR w.j.sg) w.j.cx.s w.j.cx.a (nR w.j.cx.m) (coR w.j.st.cs) w.j.st.q w.j.st.t w.j.sure w.j.kept w.j.shut (tR w.td) w.sz])) (Cl prog 140 sgP ([wr18 (fR w.j.dk.fs) w.j.dk.rm w.j.dk.st w.j.dk.dn w.j.cb w.j.cg (sgR w.j.sg) w.j.cx.s w.j.cx.a (nR w.j.cx.m) (coR w.j.st.cs) w.j.st.q w.j.st.t w.j.sure w.j.kept w.j.shut (tR w.td) w.sz,SL 1 l]) (λ(E:List SV)=>ej8 E λY Z x4 b x5 x6 d x7 x8 l4 l5 x9 F G H b1 l6 J=>((inR (wsub IntKind.i64 (rlen d) 1) d)∧((inR (wsub IntKind.i64 (rlen d) 1) d)∧(ej5 (rget d (wsub IntKind.i64 (rlen d) 1)) λf g a0 i n o D=>((inR (wsub IntKind.i64 (rlen d) 1) (rset d (wsub IntKind.i64 (rlen d) 1) [I f,I g,I e.s,I i,I n,I o,B D]))∧(ej5 (rget (rset d (wsub IntKind.i64 (rlen d) 1) [I f,I g,I e.s,I i,I n,I o,B D]) (wsub IntKind.i64 (rlen d) 1)) λK L M N a1 O b3=>(Q ([B true,wr18 Y Z x4 b x5 x6 (rset (rset d (wsub IntKind.i64 (rlen d) 1) [I f,I g,I e.s,I i,I n,I o,B D]) (wsub IntKind.i64 (rlen d) 1) [I K,I L,I M,I N,I e.a,I O,B b3]) x V W l5 x9 F G H b1 l6 J]))))))))))):=by
  intro Q A;by_cases hE:encE w.j.cx.s w.j.cx.a w.j.cx.m e=0
  rotate_left
  ·rw[if_neg hE]at u;have:recW w e=none:=(by grind [Zae,recW]);rw[this]at A;exact Cl.of u ⟨_,_,_,_,_,rfl,Zaa (λ_=>A) (λh=>by simp at h;exact absurd h hE)⟩
  rw[if_pos hE]at u;obtain⟨P,a2⟩:=Zth hE
  have hr:recW w e=some ⟨{w.j with sg:=l++[{p with sz:=p.sz+(recL' w.j e).length,la:=e.s,ti:=e.a}],cx:=⟨e.s,e.a,bhdN w.j.cx.m e.c⟩},w.td++[.wri (nmG p.num) (bys (recL' w.j e))],w.sz+(recL' w.j e).length⟩:=by
   grind [Zae,recW]
  rw[hr]at A;refine Cl.of u ⟨_,_,_,_,_,rfl,Zaa (λh=>by simp at h) (λ_=>Cl.of (Ztg w l p T (recL' w.j e) P (by omega) (by omega) (by omega) (by omega) (by omega)) ⟨_,_,_,_,_,_,_,_,_,_,_,_,_,_,_,_,_,_,rfl,?_⟩)⟩;have R:(putW w l p (recL' w.j e)).j.sg=l++[{p with sz:=p.sz+(recL' w.j e).length}]:=rfl
  dsimp only
  rw[R,Zfv _];refine⟨sg_in l _,sg_in l _,_,_,_,_,_,_,_,Zeh l _,?_⟩;have e1:=Zv7 l {p with sz:=p.sz+(recL' w.j e).length} {p with sz:=p.sz+(recL' w.j e).length,la:=e.s};unfold SgD.row at e1
  dsimp only at e1⊢
  rw[e1];refine⟨sg_in l _,_,_,_,_,_,_,_,Zeh l _,?_⟩;have e2:=Zv7 l {p with sz:=p.sz+(recL' w.j e).length,la:=e.s} {p with sz:=p.sz+(recL' w.j e).length,la:=e.s,ti:=e.a};unfold SgD.row at e2
  dsimp only at e2⊢
  rw[e2];exact A
 exact wrec_nf ⟨C (λr=>r=match recW w e with|none=>[B false,w.sv]|some v=>[B true,v.sv]) rfl,C (λr=>r=match recW w e with|none=>[B false,w.sv]|some v=>[B true,v.sv]) rfl⟩
def jover_fn(j:JoD)(e:Cod.EvD)(t:j.sg.length≤100000)(i:∀p∈j.sg,0≤p.sz∧p.sz≤1000000000∧0≤p.fr∧p.fr≤1099511627776)(u:0≤e.a∧e.a≤9223372036854775807):Ct prog 71 {} [j.sv,e.sv] (λr=>r=[B (ovrB j e)]):=by
 refine jover_nf ?_
 rcases Y1 j.sg with h|⟨l,p,h⟩
 ·have:ovrB j e=false:=by unfold ovrB;rw[h];rfl
  simp_all[Zaa]
 rw[List.concat_eq_append]at h;have o:l.length≤100000:=(by grind);have v:=i p (by rw[h];simp);have d:inR (wsub IntKind.i64 (rlen (sgR j.sg)) 1) (sgR j.sg):=by rw[h,Zfv p];exact sg_in l p
 have c:ovrB j e=if p.sl=true∨p.la≤p.fi then false else if encE j.cx.s j.cx.a j.cx.m e≠0∨j.cb<p.sz+(recL' j e).length then true else decide (j.cg<e.a-p.fr):=(by grind [Zae,ovrB]);have b:=Zu9 j.cx.s j.cx.a j.cx.m e
 unfold addR at b;refine Zaa (λg=>by rw[h]at g;simp at g<;>omega) (λ_=>⟨d,_,_,_,_,_,_,_,by rw[h,Zfv p];exact Zeh l p,Zaa (λg=>?_) (λg=>?_)⟩)
 ·have g:p.sl=true∨p.la≤p.fi:=by simp_all
  grind
 have g:¬(p.sl=true∨p.la≤p.fi):=(by simp_all);rw[if_neg g]at c;by_cases hE:encE j.cx.s j.cx.a j.cx.m e=0
 rotate_left
 ·rw[if_neg hE]at b;rw[if_pos (.inl hE)]at c;exact Cl.of b ⟨_,_,_,_,_,rfl,Zaa (λ_=>by rw[c]) (λq=>by simp[hE]at q)⟩
 rw[if_pos hE]at b;obtain⟨k,n⟩:=Zth hE;have f:rlen (bR (fr 2 (encL j.cx.s j.cx.a j.cx.m e)))=(recL' j e).length:=(by simp[recL']);refine Cl.of b ⟨_,_,_,_,_,rfl,?_⟩
 dsimp only
 rw[f,Zac,Zat];refine Zaa (λq=>?_) (λq=>?_)
 ·simp_all
 ·have q:¬j.cb<p.sz+(recL' j e).length:=by simpa using q
  simp_all
structure WB(w:WrD)(j:JoD)(n:Nat):Prop where
 dk:w.j.dk=j.dk
 st:w.j.st=j.st
 len:w.j.sg.length≤n
 td:w.td.length≤n
 sz:0≤w.sz∧w.sz≤n
 ps:∀p∈w.j.sg,(0≤p.sz∧p.sz≤65536+n)∧(1≤p.num∧p.num≤99999999)
 ok:∀s∈w.td,s.ok
def wri_ok(h:x.length≤1000):(Stp.wri s (bys x)).ok:=by
 show(bys x).length≤_;unfold bys;rw[List.length_map];omega
def selB_len(h:Fct J){p:SgD}(b:p∈J.sg):(selB J p).length≤40:=by
 have c:=(Zbh.1 h.cx).1;have d:=h.ps p b;have:=slP_le (n:=p.la-p.fi) (s:=J.cx.s) (a:=J.cx.a) (by omega) (by omega) (by omega);unfold selB;rw[Zfy];omega
def w0_B(h:Fct J):WB (w0 J) J 64:=
 ⟨rfl,rfl,h.len,by simp[w0],by simp[w0],λp a=>by have:=h.ps p a;exact⟨by omega,this.2.1⟩,λs b=>by simp[w0]at b⟩
def seal_B(h:Fct J){l:List SgD}{p:SgD}(a:J.sg=l++[p]):WB (sealW (w0 J) l p) J 110:=by
 have d:=selB_len h (p:=p) (by rw[a];simp);have c:=h.len;rw[a]at c;simp at c;have e:=h.ps p (by rw[a];simp);refine⟨rfl,rfl,by simp[sealW];omega,by simp[sealW,w0],?_,?_,?_⟩
 ·have:(sealW (w0 J) l p).sz=0+((selB J p).length:Int):=rfl;omega
 ·intro q b;have b:q∈l++[{p with sz:=p.sz+(selB J p).length,sl:=true}]:=b
  rcases List.mem_append.1 b with b|b
  ·have:=h.ps q (by rw[a];simp[b]);exact⟨by omega,this.2.1⟩
  ·have:q={p with sz:=p.sz+(selB J p).length,sl:=true}:=(by simpa using b);subst this
   dsimp only;omega
 ·intro s a;have a:s∈([]:List Stp)++[.wri (nmG p.num) (bys (selB J p)),.syn (nmG p.num)]:=a;simp at a
  rcases a with rfl|rfl
  ·exact wri_ok (by omega)
  ·trivial
def w1_B(h:Fct J)(e:Cod.EvD):WB (w1 J e) J 110:=by
 have a:WB (w0 J) J 110:=(by have:=w0_B h;exact⟨this.dk,this.st,by have:=this.len;omega,by have:=this.td;omega,by have:=this.sz;omega,λp b=>by have:=this.ps p b;omega,this.ok⟩);unfold w1
 rcases Y1 J.sg with hs|⟨l,p,hs⟩
 ·rw[hs];exact a
 ·rw[List.concat_eq_append]at hs;rw[hs,Zae]
  dsimp only
  split
  ·exact seal_B h hs
  ·exact a
def w2_B{j:JoD}(h:Fct j)(e:Cod.EvD){w:WrD}(c:w2 j e=some w):WB w j 170∧∃l p,w.j.sg=l++[p]:=by
 have a:=w1_B h e;unfold w2 at c
 split at c
 next g=>
  cases c
  refine⟨⟨a.dk,a.st,by have:=a.len;omega,by have:=a.td;omega,by have:=a.sz;omega,λp i=>by have:=a.ps p i;omega,a.ok⟩,?_⟩
  rcases Y1 (w1 j e).j.sg with b|⟨l,p,b⟩
  ·unfold opnW at g;rw[b]at g;cases g
  ·exact⟨l,p,by rw[b,List.concat_eq_append]⟩
 ·unfold begW at c
  split at c
  ·cases c
  rename_i k
  cases c
  have f:inN (nxtN (w1 j e)):=Classical.byContradiction λq=>k (.inl q);have n:=(Zuj (j:=(w1 j e).j) f (by rw[a.st];exact Zv4 h.st)).2;have m:=a.sz;refine⟨⟨a.dk,a.st,by have:=a.len;simp;omega,by have:=a.td;simp;omega,by dsimp only;omega,?_,?_⟩,_,_,rfl⟩
  ·intro q d
   rcases List.mem_append.1 d with d|d
   ·have:=a.ps q d;omega
   ·have:q=_:=List.mem_singleton.1 d;subst this;exact⟨by dsimp only;omega,f⟩
  ·intro s b
   rcases List.mem_append.1 b with b|b
   ·exact a.ok s b
   ·simp at b
    rcases b with rfl|rfl
    ·trivial
    ·exact wri_ok (by omega)
def rec_B{w v:WrD}{j:JoD}(h:WB w j 170){e:Cod.EvD}(b:recW w e=some v):WB v j 300:=by
 rcases Y1 w.j.sg with a|⟨l,p,a⟩
 ·unfold recW at b;rw[a]at b;cases b
 rw[List.concat_eq_append]at a;unfold recW at b;rw[a,Zae]at b
 dsimp only at b
 split at b
 ·cases b
 rename_i f
 cases b
 have i:=(Zth (j:=w.j) (e:=e) (by simpa using f)).2;have d:=h.len;rw[a]at d;simp at d;have k:=h.ps p (by rw[a];simp);have g:=h.sz;refine⟨h.dk,h.st,by simp;omega,by have:=h.td;simp;omega,by dsimp only;omega,?_,?_⟩
 ·intro q c
  rcases List.mem_append.1 c with c|c
  ·have:=h.ps q (by rw[a];simp[c]);omega
  ·have:q=_:=List.mem_singleton.1 c;subst this
   dsimp only;omega
 ·intro s a
  rcases List.mem_append.1 a with a|a
  ·exact h.ok s a
  ·simp at a;subst a;exact wri_ok (by omega)
def Zwz(l:List SgD)(h:l.length≤1000000):Ct prog 70 ⟨[],[.own]⟩ [SL 7 (sgR l)] (λr=>r=[SL 7 (sgR l)]):=by
 refine segcl_nf (λb a=>Zaa (λe=>?_) (λe=>⟨?_,?_⟩))
 ·have:=a e;have:l=[]:=(by simpa using this);rw[this];rfl
 ·simp;omega
 ·simp[rapp]
def Zps(j:JoD):Ct prog 73 {} [j.sv] (λr=>r=[(shtJ j).1.sv,I 13]):=jshut_nf rfl
def Zme(j:JoD)(T:j.ok)(e:Cod.EvD)(he: -9223372036854775808≤e.a∧e.a≤9223372036854775807):Ct prog 20 {} [j.sv,e.sv] (λr=>r=[(appP j e).1.sv,I (appP j e).2]):=by
 refine Zzc (Cl.of (Zsl j T) ⟨_,rfl,Zaa (λg=>?_) (λg=>?_)⟩)
 ·have g:mayJ j≠0:=(by simpa using g);unfold appP;rw[if_pos g];rfl
 have g:mayJ j=0:=(by simpa using g);have hR:=Zcm.1 g;have f:=hR.fct;have hst:=f.st.1;have eP:appP j e=appQ j e:=(by unfold appP;rw[if_neg (by simp[g])]);rw[eP];have hw:wadd IntKind.i64 j.st.q 1=j.st.q+1:=Zac;rw[hw];refine Cl.of (Zls j.st (by omega) (toE (evN j e))) ⟨_,_,_,_,rfl,Zaa (λg=>?_) (λg=>Zaa (λz=>?_) (λz=>?_))⟩
 ·have g:(appS j.st (toE (evN j e))).2≠0:=(by simpa using g);unfold appQ;rw[if_pos g];rfl
 ·have g:¬(appS j.st (toE (evN j e))).2≠0:=(by simpa using g);unfold appQ;rw[if_neg g,if_pos z];rfl
 have g:(appS j.st (toE (evN j e))).2=0:=by simpa using g
 have eQ:appQ j e=match w3 j (evN j e)with|none=>shtJ j|some w=>endJ j (appS j.st (toE (evN j e))).1 w:=by unfold appQ;rw[if_neg (by simp[g]),if_neg (by simp[z])];rfl
 have a0:0≤e.a:=(by have:=(appS_may g).tm;have h2:j.st.t≤(toE (evN j e)).a:=this;have:(toE (evN j e)).a=e.a:=rfl;omega);have R:w3 j (evN j e)=none→Cl prog 73 sP [j.sv] (λrs=>ej19 rs λG i k b3 m n H o s J u x y A C K D=>[jr16 G i k b3 m n H o s J u x y A C K,I D]=[(appQ j e).1.sv,I (appQ j e).2]):=λq=>by rw[eQ,q];exact Cl.of (Zps j) ⟨_,_,_,_,_,_,_,_,_,_,_,_,_,_,_,_,_,rfl,rfl⟩
 have h:=w1_B f (evN j e);refine Cl.of (Zwz j.sg T.sg) ⟨_,rfl,?_⟩;refine⟨λb Z x4 x5 b1 x6 x7 l3 x8 x9 l4 l5 L M N O b2 l6 P=>b=false∧wr18 Z x4 x5 b1 x6 x7 l3 x8 x9 l4 l5 L M N O b2 l6 P=(w1 j (evN j e)).sv,λ_ _ _ _ _ _ _ _ _ _ _ _ _ _ _ _ _ _ _=>0,?_,?_⟩
 ·refine Cl.of (jover_fn j (evN j e) (by have:=f.len;omega) (λp U=>by have:=f.ps p U;omega) ⟨a0,he.2⟩) ⟨_,rfl,Zaa (λq=>?_) (λq=>⟨rfl,rfl,?_⟩)⟩
  ·rcases Y1 j.sg with c|⟨l,p,c⟩
   ·unfold ovrB at q;rw[c]at q;cases q
   rw[List.concat_eq_append]at c;have U:=f.ps p (by rw[c];simp);have F:=f.len;rw[c]at F;simp at F;have:w1 j (evN j e)=sealW (w0 j) l p:=by unfold w1;rw[c,Zae];simp[q]
   rw[this];exact Cl.of (Zv8 (w0 j) l p c f.cx (by omega) (by omega) (by omega) (by omega) (by simp[w0]) (by omega) (by simp[w0])) ⟨_,_,_,_,_,_,_,_,_,_,_,_,_,_,_,_,_,_,_,rfl,rfl,rfl,rfl⟩
  ·have:w1 j (evN j e)=w0 j:=by
    unfold w1
    rcases Y1 j.sg with c|⟨l,p,c⟩
    ·rw[c];rfl
    ·rw[c,List.concat_eq_append,Zae];simp[q]
   rw[this];rfl
 rintro b Z x4 x5 b1 x6 x7 l3 x8 x9 l4 l5 L M N O b2 l6 P ⟨rfl,hv⟩;rw[hv];refine Zaa (λq=>by cases q) (λ_=>?_);refine⟨λb3 G i k K m n H o s J u x y A C b5 Q D=>match w2 j (evN j e)with|none=>b3=true|some v=>b3=false∧wr18 G i k K m n H o s J u x y A C b5 Q D=v.sv,λ_ _ _ _ _ _ _ _ _ _ _ _ _ _ _ _ _ _ _=>0,?_,?_⟩
 ·refine Cl.of (wopen_fn (w1 j (evN j e)) (by have:=h.len;omega)) ⟨_,_,_,_,_,_,_,_,_,_,_,_,_,_,_,_,_,_,_,rfl,Zaa (λq=>?_) (λq=>⟨rfl,?_⟩)⟩
  ·have q:opnW (w1 j (evN j e))=false:=(by simpa using q);have e2:w2 j (evN j e)=begW (w1 j (evN j e)):=(by unfold w2;rw[if_neg (by simp[q])]);have hb:=wbegin_fn (w1 j (evN j e)) (λl p c=>by have:=h.ps p (by rw[c];simp);omega) (by rw[h.st];exact Zv4 f.st) (by have:=h.len;omega) (by rw[h.dk];have:=f.fs;omega) (by have:=h.td;omega) (by have:=h.sz;omega);refine Cl.ofQ hb ?_;rintro r rfl;rw[e2]
   cases begW (w1 j (evN j e))with
   |none=>exact⟨_,_,_,_,_,_,_,_,_,_,_,_,_,_,_,_,_,_,_,rfl,rfl,rfl⟩
   |some v=>exact⟨_,_,_,_,_,_,_,_,_,_,_,_,_,_,_,_,_,_,_,rfl,rfl,rfl,rfl⟩
  ·have q:opnW (w1 j (evN j e))=true:=(by simpa using q);have e2:w2 j (evN j e)=some (w1 j (evN j e)):=(by unfold w2;rw[if_pos q]);rw[e2];exact⟨rfl,rfl⟩
 rintro b3 G i k K m n H o s J u x y A C b5 Q D d
 cases hw2:w2 j (evN j e)with
 |none=>rw[hw2]at d;have d:b3=true:=d;subst d;exact Zaa (λ_=>R (by unfold w3;rw[hw2])) (λq=>by cases q)
 |some w=>
  rw[hw2]at d;obtain⟨rfl,d⟩:=d;rw[d];obtain⟨E,l,p,c⟩:=w2_B f _ hw2;have e3:w3 j (evN j e)=recW w (evN j e):=by unfold w3;rw[hw2]
  have F:=E.len;rw[c]at F;simp at F;have U:=E.ps p (by rw[c];simp);refine Zaa (λq=>by cases q) (λ_=>?_);have V:=wrec_fn w (evN j e) l p c (by omega) (by have:=E.td;omega) (by omega) (by have:=E.sz;omega);refine Cl.ofQ V ?_;rintro r rfl
  cases hr:recW w (evN j e)with
  |none=>refine⟨_,_,_,_,_,_,_,_,_,_,_,_,_,_,_,_,_,_,_,rfl,Zaa (λ_=>R (by rw[e3,hr])) (λq=>by simp at q)⟩
  |some v=>
   have W:=rec_B E hr;have X:=T.dk;have hu:=X.1;have Y:appQ j e=endJ j (appS j.st (toE (evN j e))).1 v:=(by rw[eQ,e3,hr]);have a1:=W.sz;refine⟨_,_,_,_,_,_,_,_,_,_,_,_,_,_,_,_,_,_,_,rfl,Zaa (λq=>by simp at q) (λ_=>Cl.of (Zku j.dk X) ⟨_,rfl,?_⟩)⟩
   dsimp only
   rw[Zac];refine Zaa (λq=>?_) (λq=>?_)
   ·have q:j.dk.rm<usedL j.dk.fs+v.sz:=(by simpa using q);have:endJ j (appS j.st (toE (evN j e))).1 v=shtJ j:=(by unfold endJ;rw[if_pos q]);rw[Y,this];exact Cl.of (Zps j) ⟨_,_,_,_,_,_,_,_,_,_,_,_,_,_,_,_,_,rfl,rfl⟩
   ·have q:¬j.dk.rm<usedL j.dk.fs+v.sz:=(by simpa using q);refine Cl.of (Zo5 j.dk X v.td W.ok (by have:=W.td;omega)) ⟨_,_,_,_,_,rfl,Zaa (λz=>?_) (λz=>?_)⟩
    ·have z:(runP j.dk v.td).2≠0:=(by simpa using z);have:endJ j (appS j.st (toE (evN j e))).1 v=({j with dk:=(runP j.dk v.td).1},(runP j.dk v.td).2):=(by unfold endJ;rw[if_neg q,if_pos z]);rw[Y,this];rfl
    ·have z:¬(runP j.dk v.td).2≠0:=(by simpa using z);have:endJ j (appS j.st (toE (evN j e))).1 v=({v.j with dk:=(runP j.dk v.td).1,st:=(appS j.st (toE (evN j e))).1},0):=(by unfold endJ;rw[if_neg q,if_neg z]);rw[Y,this];rfl
def jsyn_fn(j:JoD)(k:j.ok):Ct prog 22 {} [j.sv] (λr=>r=[(synJ j).1.sv,I (synJ j).2]):=by
 refine jsyn_nf (Cl.of (Zsl j k) ⟨_,rfl,Zaa (λg=>?_) (λg=>?_)⟩)
 ·have g:mayJ j≠0:=(by simpa using g);unfold synJ;rw[if_pos g];rfl
 have g:mayJ j=0:=(by simpa using g);have n:=(Zcm.1 g).fct;have o:synJ j=synQ j:=(by unfold synJ;rw[if_neg (by simp[g])]);rw[o]
 rcases Y1 j.sg with e|⟨l,p,e⟩
 ·have:synQ j=({j with sure:=j.st.q},0):=(by unfold synQ;rw[e];rfl);rw[this];exact Zaa (λq=>by rw[e]at q;simp at q) (λ_=>rfl)
 rw[List.concat_eq_append]at e;have m:=n.len;rw[e]at m;simp at m;have f:synQ j=if p.sl=true then({j with sure:=j.st.q},0)else if(Za0 j.dk (nmG p.num)).2≠0 then({j with dk:=(Za0 j.dk (nmG p.num)).1},(Za0 j.dk (nmG p.num)).2)else({j with dk:=(Za0 j.dk (nmG p.num)).1,sure:=j.st.q},0):=by unfold synQ;rw[e,Zae]
 have h:inR (wsub IntKind.i64 (rlen (sgR j.sg)) 1) (sgR j.sg):=(by rw[e,Zfv p];exact sg_in l p);have i:rget (sgR j.sg) (wsub IntKind.i64 (rlen (sgR j.sg)) 1)=p.row:=(by rw[e,Zfv p];exact Zeh l p);refine Zaa (λ_=>⟨h,_,_,_,_,_,_,_,i,Zaa (λq=>?_) (λq=>?_)⟩) (λq=>by rw[e]at q;simp at q<;>omega)
 ·have q:p.sl=false:=(by simpa using q);rw[if_neg (by simp[q])]at f;have d:=Zo5 j.dk k.dk [.syn (nmG p.num)] (λs e=>by simp at e;subst e;trivial) (by simp);rw[run1]at d;refine⟨λx l a b c=>x=(Za0 j.dk (nmG p.num)).2∧dk4 l a b c=(Za0 j.dk (nmG p.num)).1.sv,λ_ _ _ _ _=>0,⟨h,_,_,_,_,_,_,_,i,?_⟩,?_⟩
  ·exact⟨Cl.of (Zdh _) ⟨_,rfl,⟨Cl.of (Zht _) ⟨_,_,rfl,⟨⟨Cl.of d ⟨_,_,_,_,_,rfl,rfl,rfl,rfl⟩,Cl.of d ⟨_,_,_,_,_,rfl,rfl,rfl,rfl⟩⟩,Cl.of d ⟨_,_,_,_,_,rfl,rfl,rfl,rfl⟩⟩⟩,Cl.of (Zht _) ⟨_,_,rfl,Cl.of d ⟨_,_,_,_,_,rfl,rfl,rfl,rfl⟩⟩⟩⟩,Cl.of (Zdh _) ⟨_,rfl,Cl.of (Zht _) ⟨_,_,rfl,Cl.of d ⟨_,_,_,_,_,rfl,rfl,rfl,rfl⟩⟩⟩⟩
  ·rintro x l a b c ⟨rfl,hd⟩;simp only[SV.agg.injEq,List.cons.injEq,SV.val.injEq,Value.int.injEq,Value.bool.injEq,SV.slice.injEq,true_and,and_true]at hd;obtain⟨rfl,rfl,rfl,rfl⟩:=hd;refine Zaa (λz=>?_) (λz=>?_)
   ·have z:(Za0 j.dk (nmG p.num)).2≠0:=(by simpa using z);rw[f,if_pos z];rfl
   ·have z:¬(Za0 j.dk (nmG p.num)).2≠0:=(by simpa using z);rw[f,if_neg z];rfl
 ·have q:p.sl=true:=(by simpa using q);rw[f,if_pos q];rfl
def jrot_fn(j:JoD)(e:j.ok):Ct prog 24 {} [j.sv] (λr=>r=[(rotJ j).1.sv,I (rotJ j).2]):=by
 refine jrot_nf (Cl.of (Zsl j e) ⟨_,rfl,Zaa (λg=>?_) (λg=>?_)⟩)
 ·have g:mayJ j≠0:=(by simpa using g);unfold rotJ;rw[if_pos g];rfl
 have g:mayJ j=0:=(by simpa using g);have d:=(Zcm.1 g).fct;have m:rotJ j=rotQ j:=(by unfold rotJ;rw[if_neg (by simp[g])]);rw[m]
 rcases Y1 j.sg with hs|⟨l,p,hs⟩
 ·have:rotQ j=(j,14):=(by unfold rotQ;rw[hs];rfl);rw[this];exact Zaa (λ_=>rfl) (λq=>by rw[hs]at q;simp at q)
 rw[List.concat_eq_append]at hs;have i:=d.len;rw[hs]at i;simp at i;have s:=d.ps p (by rw[hs];simp);have a:rotQ j=if p.sl=true∨p.la≤p.fi then(j,14)else endJ j j.st (sealW (w0 j) l p):=by unfold rotQ;rw[hs,Zae]
 have b:inR (wsub IntKind.i64 (rlen (sgR j.sg)) 1) (sgR j.sg):=(by rw[hs,Zfv p];exact sg_in l p);have c:rget (sgR j.sg) (wsub IntKind.i64 (rlen (sgR j.sg)) 1)=p.row:=(by rw[hs,Zfv p];exact Zeh l p);refine Zaa (λq=>by rw[hs]at q;simp at q<;>omega) (λ_=>⟨b,_,_,_,_,_,_,_,c,Zaa (λq=>?_) (λq=>⟨b,_,_,_,_,_,_,_,c,b,_,_,_,_,_,_,_,c,Zaa (λz=>?_) (λz=>?_)⟩)⟩)
 ·rw[a,if_pos (.inl q)];rfl
 ·rw[a,if_pos (.inr (by simpa using z))];rfl
 have hno:¬(p.sl=true∨p.la≤p.fi):=(by simp at z;simp[q];omega);rw[if_neg hno]at a;have f:=seal_B d hs;have h:=e.dk;have t:=h.1;have o:=f.sz;refine Cl.of (Zwz j.sg e.sg) ⟨_,rfl,Cl.of (Zv8 (w0 j) l p hs d.cx (by omega) (by omega) (by omega) (by omega) (by simp[w0]) (by omega) (by simp[w0])) ⟨_,_,_,_,_,_,_,_,_,_,_,_,_,_,_,_,_,_,_,rfl,Zaa (λk=>by simp at k) (λ_=>Cl.of (Zku j.dk h) ⟨_,rfl,?_⟩)⟩⟩
 dsimp only
 rw[Zac];refine Zaa (λk=>?_) (λk=>?_)
 ·have k:j.dk.rm<usedL j.dk.fs+(sealW (w0 j) l p).sz:=(by simpa using k);have:endJ j j.st (sealW (w0 j) l p)=shtJ j:=(by unfold endJ;rw[if_pos k]);rw[a,this];exact Cl.of (Zps j) ⟨_,_,_,_,_,_,_,_,_,_,_,_,_,_,_,_,_,rfl,rfl⟩
 ·have k:¬j.dk.rm<usedL j.dk.fs+(sealW (w0 j) l p).sz:=(by simpa using k);refine Cl.of (Zo5 j.dk h (sealW (w0 j) l p).td f.ok (by have:=f.td;omega)) ⟨_,_,_,_,_,rfl,Zaa (λn=>?_) (λn=>?_)⟩
  ·have n:(runP j.dk (sealW (w0 j) l p).td).2≠0:=(by simpa using n);have:endJ j j.st (sealW (w0 j) l p)=({j with dk:=(runP j.dk (sealW (w0 j) l p).td).1},(runP j.dk (sealW (w0 j) l p).td).2):=(by unfold endJ;rw[if_neg k,if_pos n]);rw[a,this];rfl
  ·have n:¬(runP j.dk (sealW (w0 j) l p).td).2≠0:=(by simpa using n);have:endJ j j.st (sealW (w0 j) l p)=({(sealW (w0 j) l p).j with dk:=(runP j.dk (sealW (w0 j) l p).td).1,st:=j.st},0):=(by unfold endJ;rw[if_neg k,if_neg n]);rw[a,this];rfl
end Jou
namespace Jou
open Go Go.Px Go.Proofs Cod Tryz
abbrev en0(r:List SV)(K:LL→Int→Int→Bool→Int→Int→LL→Int→Int→LL→LL→Int→Int→Int→Int→Bool→Int→Prop):Prop:=∃h:LL,∃i:Int,∃j:Int,∃k:Bool,∃l:Int,∃m:Int,∃n:LL,∃o:Int,∃p:Int,∃q:LL,∃a:LL,∃b:Int,∃c:Int,∃d:Int,∃e:Int,∃f:Bool,∃g:Int,(r=[jr16 h i j k l m n o p q a b c d e f,I g])∧K h i j k l m n o p q a b c d e f g
abbrev en1(r:List SV)(K:LL→Prop):Prop:=∃a:LL,(r=[SL 7 a])∧K a
abbrev en2(r:List SV)(K:Int→Int→Int→BA→Int→Int→Int→Prop):Prop:=∃a:Int,∃b:Int,∃c:Int,∃d:BA,∃e:Int,∃f:Int,∃g:Int,(r=[I a,I b,I c,S d,I e,I f,I g])∧K a b c d e f g
abbrev en3(r:List SV)(K:Int→Int→Int→Int→Int→Int→Bool→Prop):Prop:=∃a:Int,∃b:Int,∃c:Int,∃d:Int,∃e:Int,∃f:Int,∃g:Bool,(r=[I a,I b,I c,I d,I e,I f,B g])∧K a b c d e f g
abbrev en4(r:List SV)(K:Bool→Prop):Prop:=∃a:Bool,(r=[B a])∧K a
def jawake_nf(h:Cl prog 13 sP ([dk4 [] 900 ((-1:Int)) false,SV.agg [I 64,I 99]]) (λrs=>en0 rs λl x x1 b x2 x3 l1 x4 x5 l2 l3 x6 x7 x8 x9 b1 w=>(Cl prog 20 sP ([jr16 l x x1 b x2 x3 l1 x4 x5 l2 l3 x6 x7 x8 x9 b1,ev7 0 3 1 (bA [98]) 1 0 0]) (λy=>en0 y λl4 z A b2 C D l5 E F l6 l7 G H J K b3 L=>(Cl prog 22 sP ([jr16 l4 z A b2 C D l5 E F l6 l7 G H J K b3]) (λM=>en0 M λl8 N O b4 P R l9 T U V W X Y Z a0 b5 a1=>(Cl prog 20 sP ([jr16 l8 N O b4 P R l9 T U V W X Y Z a0 b5,ev7 0 4 3 (bA [98]) 1 9 0]) (λa2=>en0 a2 λa3 a4 a5 b6 a6 a7 a8 a9 aa ab ac ad ae af ag b7 ah=>(Cl prog 20 sP ([jr16 a3 a4 a5 b6 a6 a7 a8 a9 aa ab ac ad ae af ag b7,ev7 0 4 3 (bA [98]) 1 900000 0]) (λai=>en0 ai λaj ak al b8 am an ao ap aq ar au av aw ax ay b9 az=>(Cl prog 20 sP ([jr16 aj ak al b8 am an ao ap aq ar au av aw ax ay b9,ev7 0 4 3 (bA [98]) 1 9 0]) (λb0=>en0 b0 λg i j k m n a o p q r c t d u v ba=>(Cl prog 15 sP ([jr16 g i j k m n a o p q r c t d u v]) (λbb=>en1 bb λe=>(ifB (bpick (bpick (bpick (bpick (bpick (bpick (ieq w 0) (ieq L 0) false) (ieq a1 0) false) (ieq ah 0) false) (ieq az 0) false) (ieq ba 0) false) (ieq (rlen e) 4) false) ((inR 3 e)∧en2 (rget e 3) λbc bg bh s bi bj bk=>(ifB (bpick (ieq bc 4) (igt (rlen a) 1) false) ((inR 0 a)∧en3 (rget a 0) λbl bm bn bo bp bq bd=>(ifB (bpick (bpick bd (ige d 1) false) (ieq c 4) false) (Cl prog 17 sP ([jr16 g i j k m n a o p q r c t d u v]) (λbe=>en4 be λbf=>(Q [B bf]))) (Q [B false]))) (Q [B false]))) (Q [B false])))))))))))))))):Ct prog 10 {} [] Q:=
 fN SgT SvT func10 h
def Zx8{rows:LL}{segs:LL}{K L p q:Int}{G:LL}{g F:Int}{n:Bool}{s t:Int}{a:LL}{u v:Int}{w y:LL}{z A d D:Int}{H:Bool}(h:ifB (bpick (bpick (bpick (bpick (ine (rlen segs) (rlen a)) true (bnot (band (ieq k s) (band (ieq b t) true)))) true (ine p d)) true (ine q D)) true (bnot (beqB O H))) (Q [B false]) (∃C:Bool→Int→Prop,∃m:Bool→Int→Nat,(C false 0)∧∀E x,(C E x)→ifB (ilt x (rlen segs)) ((inR x segs)∧en3 (rget segs x) λV W X Y Z x6 M=>((inR x a)∧en3 (rget a x) λx7 x8 x9 J P R N=>(ifB (bnot (band (ieq V x7) (band (ieq W x8) (band (ieq X x9) (band (ieq Y J) (band (ieq Z P) (band (ieq x6 R) (band (beqB M N) true)))))))) (Q [B false]) ((sm ([[SL 3 G,I g,I F,B n,I s,I t,SL 7 a,I u,I v,SL 1 w,SL 21 y,I z,I A,I d,I D,B H],[SL 3 rows,I i,I j,B o,I k,I b,SL 7 segs,I c,I e,SL 1 l,SL 21 r,I K,I L,I p,I q,B O]]))∧(C E (wadd .i64 x 1))∧Nl (m E (wadd .i64 x 1)) (m E x))))) (Cl prog 14 sP ([dk4 rows i j o,dk4 G g F n]) (λrs=>en4 rs λM=>(ifB M (Cl prog 56 sP ([cx3 c e l,cx3 u v w]) (λT=>en4 T λN=>(ifB N (Cl prog 35 sP ([st3 r K L,st3 y z A]) (λU=>en4 U λb3=>(Q [B b3]))) (Q [B false])))) (Q [B false])))))):Ct prog 16 {} [jr16 rows i j o k b segs c e l r K L p q O,jr16 G g F n s t a u v w y z A d D H] Q:=
 fN SgT SvT func16 h
end Jou
namespace Jou
open Go Go.Px Go.Proofs Cod Seg Sgr Snp Sx Row Tryz
def ok_of(h:RightJ J)(hst:J.dk.st≤9223372036854775807):J.ok:=by
 have F:=h.fct;have L:=lim_P F.st;have b:J.cx.m.length≤32:=(Zdk.1 (Zbh.1 F.cx).2).1;have d:=h.dk.2.1;have e:=h.dk.1.2.2.1;have f:=F.fs;have g:=F.len;exact⟨⟨by omega,by omega,hst⟩,by omega,by omega,by have:=L.1;omega,λc a=>by have:=L.2 c a;omega⟩
def Zwi(a:RightJ J)(e:Cod.EvD):appP J e=appQ J e:=by unfold appP;rw[if_neg (by rw[Zcm.2 a];simp)]
def synJ_q{j:JoD}(a:RightJ j):synJ j=synQ j:=by unfold synJ;rw[if_neg (by rw[Zcm.2 a];simp)]
abbrev wD:DiD:=⟨[],900,-1,false⟩
abbrev wA0:JoD:=⟨wD,64,99,[],⟨0,0,[]⟩,st0,0,0,false⟩
abbrev wE(a k y:Int):Cod.EvD:=⟨0,a,k,⟨#[98]⟩,1,y,0⟩
def wA1:=(appQ wA0 (wE 3 1 0)).1
def wA2:=(synQ wA1).1
def wA3:=(appQ wA2 (wE 4 3 9)).1
def wA4:=(appQ wA3 (wE 4 3 900000)).1
def wA5:=(appQ wA4 (wE 4 3 9)).1
def w_ok:((appQ wA0 (wE 3 1 0)).2=0∧(synQ wA1).2=0∧(appQ wA2 (wE 4 3 9)).2=0)∧((appQ wA3 (wE 4 3 900000)).2=0∧(appQ wA4 (wE 4 3 9)).2=0)∧((wA1.dk.st= -1∧wA2.dk.st= -1∧wA3.dk.st= -1∧wA4.dk.st= -1∧wA5.dk.st= -1)∧wA5.st.q=4∧1≤wA5.sure∧1<wA5.sg.length∧(wA5.sg.head?.map (·.sl))=some true)∧(evN wA4 (wE 4 3 9)).k=3∧((evN wA0 (wE 3 1 0)).s=1∧(evN wA2 (wE 4 3 9)).s=2∧(evN wA3 (wE 4 3 900000)).s=3∧(evN wA4 (wE 4 3 9)).s=4):=by decide+kernel
def dk_nil:DkR [] []:=⟨by simp[Go.Px.srt],rfl,by simp[inRow],by simp⟩
def new_nil:newF []=none:=Zqj (by simp[Go.Px.srt]) (λf a=>by obtain⟨_,h,_⟩:=a;cases h)
def w_open:openP wD 64 99=(wA0,0)∧evsJ wA0=[]:=by
 have b:rowK wD.fs=([],[]):=Zcx dk_nil;have c:keptF wD.fs=0:=(by unfold keptF;rw[show wD.fs=[]from rfl,new_nil]);have f:baseF wD.fs=st0:=(by unfold baseF;rw[show wD.fs=[]from rfl,new_nil]);have g:GoodR (rowK wD.fs).1 (keptF wD.fs) (baseF wD.fs):=(by rw[b,c,f];exact⟨λp a=>(by cases a),λp a=>(by cases a),by decide,λp a=>(by cases a)⟩);have h:menD wD=(wD,0):=(by unfold menD;rw[b];rfl);have i:stR (rowK wD.fs).1 (keptF wD.fs) (baseF wD.fs)=st0:=(by rw[b,c,f];rfl);have e:=Zon (d:=wD) (cb:=64) (cg:=99) (by decide) (by unfold mayC;omega) rfl g h;have j:anewJ wD 64 99 (stR (rowK wD.fs).1 (keptF wD.fs) (baseF wD.fs)).q false=wA0:=(by unfold anewJ;rw[i,c,b];rfl);rw[j]at e;refine⟨e,?_⟩;rw[Zb8 (Zi7 e).right];rfl
def jawake_fn:Ct prog 10 {} [] (λr=>r=[B true]):=by
 obtain⟨⟨j,m,n⟩,⟨o,q⟩,⟨⟨u,v,w,s4,x⟩,y,J,s,a⟩,z,e1,e2,K,L⟩:=w_ok;have h:=(Zi7 w_open.1).right;have b:=Zix h (k:=wA1) (YA rfl j);obtain⟨f,_,A,_⟩:=Zqp b.right (k:=wA2) (YA rfl m);have c:=Zix f (k:=wA3) (YA rfl n);have d:=Zix c.right (k:=wA4) (YA rfl o);have i:=Zix d.right (k:=wA5) (YA rfl q);have C:evsJ wA5=[evN wA0 (wE 3 1 0),evN wA2 (wE 4 3 9),evN wA3 (wE 4 3 900000),evN wA4 (wE 4 3 9)]:=(by rw[i.ev,d.ev,c.ev,A,b.ev,w_open.2];rfl);have D:appP wA0 (wE 3 1 0)=(wA1,0):=(by rw[Zwi h];exact YA rfl j);have E:synJ wA1=(wA2,0):=(by rw[synJ_q b.right];exact YA rfl m);have F:appP wA2 (wE 4 3 9)=(wA3,0):=(by rw[Zwi f];exact YA rfl n);have G:appP wA3 (wE 4 3 900000)=(wA4,0):=(by rw[Zwi c.right];exact YA rfl o);have H:appP wA4 (wE 4 3 9)=(wA5,0):=(by rw[Zwi d.right];exact YA rfl q);have e:=ok_of i.right (by rw[x];decide);refine jawake_nf (Cl.of (Zkk wD ⟨by decide,by decide,by decide⟩ 64 99) ?_);rw[w_open.1];refine⟨_,_,_,_,_,_,_,_,_,_,_,_,_,_,_,_,_,rfl,Cl.of (Zme wA0 (ok_of h (by decide)) (wE 3 1 0) (by decide)) ?_⟩;rw[D];refine⟨_,_,_,_,_,_,_,_,_,_,_,_,_,_,_,_,_,rfl,Cl.of (jsyn_fn wA1 (ok_of b.right (by rw[u];decide))) ?_⟩;rw[E];refine⟨_,_,_,_,_,_,_,_,_,_,_,_,_,_,_,_,_,rfl,Cl.of (Zme wA2 (ok_of f (by rw[v];decide)) (wE 4 3 9) (by decide)) ?_⟩;rw[F];refine⟨_,_,_,_,_,_,_,_,_,_,_,_,_,_,_,_,_,rfl,Cl.of (Zme wA3 (ok_of c.right (by rw[w];decide)) (wE 4 3 900000) (by decide)) ?_⟩;rw[G];refine⟨_,_,_,_,_,_,_,_,_,_,_,_,_,_,_,_,_,rfl,Cl.of (Zme wA4 (ok_of d.right (by rw[s4];decide)) (wE 4 3 9) (by decide)) ?_⟩;rw[H];refine⟨_,_,_,_,_,_,_,_,_,_,_,_,_,_,_,_,_,rfl,Cl.of (Zng wA5 e) ⟨_,rfl,?_⟩⟩;rw[C];have t:∀l:List SgD,rlen (sgR l)=l.length:=λl=>by simp
 refine Zaa (λ_=>⟨⟨by omega,by simp⟩,_,_,_,_,_,_,_,rfl,?_⟩) (λg=>by simp at g)
 obtain⟨p,l,hsg⟩:∃p l,wA5.sg=p::l:=by
  cases hw:wA5.sg with
  |nil=>rw[hw]at s;simp at s
  |cons p l=>exact⟨p,l,rfl⟩
 have a:p.sl=true:=(by rw[hsg]at a;simpa using a);refine Zaa (λ_=>⟨⟨by omega,by dsimp only;rw[t];omega⟩,p.num,p.fi,p.la,p.fr,p.ti,p.sz,p.sl,by dsimp only;rw[hsg];rfl,?_⟩) (λg=>?_)
 ·refine Zaa (λ_=>Cl.of (Zf0 wA5 e) ⟨_,rfl,?_⟩) (λg=>?_)
  ·rw[Zec.2 i.right]
  ·exfalso
   dsimp only at g
   rw[y]at g;simp[a]at g;omega
 ·exfalso
  dsimp only at g
  rw[t]at g;simp[z]at g;omega
end Jou
namespace Jou
open Go Go.Px Go.Proofs Cod Seg Sgr Snp Sx Row Dsk Tryz
deriving instance DecidableEq for JoD
def Zyl(j k:JoD)(h:j.ok):Ct prog 16 {} [j.sv,k.sv] (λr=>r=[B (decide (j=k))]):=by
 have no:¬j=k→[B false]=[B (decide (j=k))]:=λh=>by simp[h]
 have t:=h.sg;refine Zx8 (Zaa (λg=>no (λq=>?_)) (λg=>?_))
 ·subst q;simp at g
 have g:(((j.sg.length=k.sg.length∧j.cb=k.cb∧j.cg=k.cg)∧j.sure=k.sure)∧j.kept=k.kept)∧j.shut=k.shut:=(by simp at g;obtain⟨⟨⟨⟨f,i,l⟩,n⟩,o⟩,p⟩:=g;exact⟨⟨⟨⟨by omega,i,l⟩,n⟩,o⟩,p⟩);obtain⟨⟨⟨⟨f,i,l⟩,n⟩,o⟩,p⟩:=g;refine⟨λ_ x=>0≤x∧x≤j.sg.length∧j.sg.take x.toNat=k.sg.take x.toNat,λ_ x=>(j.sg.length-x).toNat,⟨by omega,by omega,rfl⟩,?_⟩;rintro _ x ⟨x0,hx,he⟩;refine Zaa (λb=>?_) (λb=>?_)
 ·have b:x<j.sg.length:=(by simpa using b);have e:x<k.sg.length:=(by omega);refine⟨inM _ x0 b,_,_,_,_,_,_,_,Zay _ j.sg x x0 b,inM _ x0 e,_,_,_,_,_,_,_,Zay _ k.sg x x0 e,?_⟩
  dsimp only
  rw[Zu6,Zac];refine Zaa (λc=>no (λq=>?_)) (λc=>⟨rfl,⟨by omega,by omega,?_⟩,mlt (by first|omega|(dsimp only;omega))⟩)
  ·subst q;simp at c
  ·rw[show(x+1).toNat=x.toNat+1 by omega];exact Zsk (by omega) (by omega) he (by simpa using c)
 ·have b:x=j.sg.length:=(by simp at b;omega);have u:j.sg=k.sg:=(by rw[b,Int.toNat_natCast,Yh,f,Yh]at he;exact he);refine Cl.of (qsame_fn j.dk k.dk (by have:=h.dk.2.1;omega)) ⟨_,rfl,Zaa (λc=>?_) (λc=>no (λq=>by subst q;simp at c))⟩;have c:j.dk=k.dk:=(by simpa using c);refine Cl.of (csame_fn j.cx.s j.cx.a j.cx.m k.cx.s k.cx.a k.cx.m h.m) ⟨_,rfl,Zaa (λd=>?_) (λd=>no (λq=>by subst q;simp at d))⟩
  have d:j.cx=k.cx:=by
   have d:j.cx.s=k.cx.s∧j.cx.a=k.cx.a∧j.cx.m=k.cx.m:=by simpa using d
   cases hj:j.cx;cases hk:k.cx;rw[hj,hk]at d;simp at d;simp[d]
  refine Cl.of (srsame_fn j.st k.st (by have:=h.cs;omega) h.cl) ⟨_,rfl,?_⟩;congr 2;refine decide_eq_decide.2 ⟨λq=>?_,λq=>by rw[q]⟩
  cases j;cases k
  simp_all
end Jou
namespace Jou
open Go Go.Px Go.Proofs Cod Seg Sgr Snp Sx Row Tryz
def effW(l:List FiD):Stp→List FiD
 | .cre s=>withB FiD.nm l ⟨s,[],[]⟩
 | .wri s x=>match l.find? (λf=>decide (f.nm=s))with|none=>l|some f=>withB FiD.nm l ⟨s,f.su,f.lo++x⟩
 | .syn s=>match l.find? (λf=>decide (f.nm=s))with|none=>l|some f=>withB FiD.nm l ⟨s,f.su++f.lo,[]⟩
 |_=>l
def effL(l:List FiD)(p:List Stp):List FiD:=p.foldl effW l
def Nms(d:DiD)(N:List BA):Prop:=(∀s,s∈N↔∃f∈d.fs,f.nm=s)∧N.length=d.fs.length
def nms(d:DiD):Nms d (d.fs.map FiD.nm):=⟨λs=>by simp,by simp⟩
def Zu4{s:BA}(h:∃f∈d.fs,f.nm=s):∃i,∃a:i<d.fs.length,d.get s=some d.fs[i]∧d.fs[i].nm=s:=by
 rcases d.get_cases s with⟨b,c,g⟩|⟨i,a,_,b,c⟩
 ·obtain⟨f,j,e⟩:=h;exact absurd e (g f j)
 ·exact⟨i,a,b,c⟩
def can(a:Int):List BA→Nat→List Stp→Prop
 |_,_,[]=>True
 |N,u,.wri s x::l=>fnB s=true∧s∈N∧(u:Int)+x.length≤a∧can a N (u+x.length) l
 |N,u,.syn s::l=>fnB s=true∧s∈N∧can a N u l
 |N,u,.cre s::l=>fnB s=true∧s∉N∧N.length<64∧numS s≠0∧can a (s::N) u l
 |_,_,.rem _::_=>False
 |_,_,.cut _ _::_=>False
structure Ends(d:DiD)(l:List Stp)(d':DiD)(c:Int):Prop where
 run:runP d l=(d',c)
 P:d'.P
 rm:d'.rm=d.rm
 nm:(∀f∈d.fs,numS f.nm≠0)→∀f∈d'.fs,numS f.nm≠0
 how:(c=0∧d'.dn=false∧d'.fs=effL d.fs l∧(d.st= -1→d'.st= -1))∨(c=16∧d.st≠-1∧d'.dn=true∧∃p,p<+:l∧d'.fs=effL d.fs p)
def Zk6{s:Stp}{l:List Stp}{x:Int}(r:d.st=0→∃a,s.run d=(a,16)∧a.P∧a.dn=true∧a.rm=d.rm∧(a.fs=d.fs∨a.fs=effW d.fs s))
  (u:d.st≠0→s.run d=({d.tick with fs:=effW d.fs s},0)∧({d.tick with fs:=effW d.fs s}:DiD).P) (z:d.dn=false) (m:(∀f∈d.fs,numS f.nm≠0)→∀f∈effW d.fs s,numS f.nm≠0)
  (v:({d.tick with fs:=effW d.fs s}:DiD).P→∃a c,Ends {d.tick with fs:=effW d.fs s} l a c):∃a c,Ends d (s::l) a c:=by
 by_cases hs:d.st=0
 ·obtain⟨a,b,g,w,y,n⟩:=r hs;refine⟨a,16,⟨by rw[runP,b,if_pos (show(16:Int)≠0 by decide)],g,y,λq=>?_,.inr ⟨rfl,by rw[hs];decide,w,?_⟩⟩⟩
  ·rcases n with e|e
   ·rw[e];exact q
   ·rw[e];exact m q
  ·rcases n with e|e
   ·exact⟨[],Yw,e⟩
   ·exact⟨[s],⟨l,rfl⟩,e⟩
 ·obtain⟨b,g⟩:=u hs;obtain⟨a,c,E⟩:=v g;have o:d.st= -1↔d.tick.st= -1:=by unfold DiD.tick;dsimp only;split<;>omega
  refine⟨a,c,⟨by rw[runP,b,if_neg (by simp)];exact E.run,E.P,E.rm,λq=>E.nm (m q),?_⟩⟩
  rcases E.how with⟨h,i,j,k⟩|⟨h,i,j,p,k,a5⟩
  ·exact .inl ⟨h,i,j,λq=>k (o.1 q)⟩
  ·refine .inr ⟨h,λq=>i (o.1 q),j,s::p,?_,a5⟩;obtain⟨t,e⟩:=k;exact⟨t,by rw[←e];rfl⟩
def Zfe:∀(l:List Stp) {d:DiD} {N:List BA},d.P→d.dn=false→Nms d N→can d.rm N (usedL d.fs) l→∃y c,Ends d l y c
 | [],d,N,h,hd,hN,hc=>⟨d,0,rfl,h,rfl,λh=>h,.inl ⟨rfl,hd,rfl,λh=>h⟩⟩
 | .wri s x::l,d,N,h,hd,hN,⟨hf,hs,hr,hc⟩=>by
  obtain⟨i,n,j,o⟩:=Zu4 ((hN.1 s).1 hs);have b:=Zjh (s:=s) (x:=x) h;have k:effW d.fs (.wri s x)=withB FiD.nm d.fs ⟨s,d.fs[i].su,d.fs[i].lo++x⟩:=by show(match d.get s with|none=>_|some f=>_)=_;rw[j]
  have e:Zav d s x=if d.st=0 then({d with dn:=true,fs:=effW d.fs (.wri s x)},16)else({d.tick with fs:=effW d.fs (.wri s x)},0):=by
   unfold Zav;rw[er_of h hd hf hf,if_neg (by simp),j,k]
   dsimp only
   rw[if_neg (by omega)]
  rw[e]at b;have u:=Zd3 (f:=⟨s,d.fs[i].su,d.fs[i].lo++x⟩) h.2.2.2 n o.symm;have v:=Zb5 (nm:=FiD.nm) (f:=⟨s,d.fs[i].su,d.fs[i].lo++x⟩) h.2.2.2 n o.symm;have p:usedL (effW d.fs (.wri s x))=usedL d.fs+x.length:=(by rw[k];simp only[FiD.len,List.length_append]at u;omega);refine Zk6 (x:=0) (λm=>?_) (λm=>?_) hd (λq f a=>?_) λr=>?_
  ·rw[if_pos m]at e b;exact⟨_,e,b,rfl,rfl,.inr rfl⟩
  ·rw[if_neg m]at e b;exact⟨e,b⟩
  ·rw[k]at a
   rcases Zas.1 a with rfl|⟨a,_⟩
   ·have:=q _ (List.getElem_mem n);rw[o]at this;exact this
   ·exact q f a
  ·refine Zfe l (N:=N) r hd ⟨λt=>(hN.1 t).trans ⟨λ⟨f,a,q⟩=>?_,λ⟨f,a,q⟩=>?_⟩,?_⟩ (by show can d.rm N (usedL (effW d.fs (.wri s x))) l;rw[p];exact hc)
   ·show∃f∈effW d.fs (.wri s x),_;rw[k];by_cases z:t=s
    ·exact⟨_,Zas.2 (.inl rfl),z.symm⟩
    ·exact⟨f,Zas.2 (.inr ⟨a,by rw[q];exact z⟩),q⟩
   ·have a:f∈effW d.fs (.wri s x):=a;rw[k]at a
    rcases Zas.1 a with rfl|⟨a,_⟩
    ·exact⟨d.fs[i],List.getElem_mem n,by rw[o];exact q⟩
    ·exact⟨f,a,q⟩
   ·show _=(effW d.fs (.wri s x)).length;rw[k,hN.2];exact v.symm
 | .syn s::l,d,N,h,hd,hN,⟨hf,hs,hc⟩=>by
  obtain⟨i,n,j,o⟩:=Zu4 ((hN.1 s).1 hs);have b:=Zim (s:=s) h;have k:effW d.fs (.syn s)=withB FiD.nm d.fs ⟨s,d.fs[i].su++d.fs[i].lo,[]⟩:=by show(match d.get s with|none=>_|some f=>_)=_;rw[j]
  have e:Za0 d s=if d.st=0 then({d with dn:=true},16)else({d.tick with fs:=effW d.fs (.syn s)},0):=(by unfold Za0;rw[er_of h hd hf hf,if_neg (by simp),j,k];rfl);rw[e]at b;have u:=Zd3 (f:=⟨s,d.fs[i].su++d.fs[i].lo,[]⟩) h.2.2.2 n o.symm;have v:=Zb5 (nm:=FiD.nm) (f:=⟨s,d.fs[i].su++d.fs[i].lo,[]⟩) h.2.2.2 n o.symm
  have p:usedL (effW d.fs (.syn s))=usedL d.fs:=(by rw[k];simp only[FiD.len,List.length_append,Y6]at u;omega);refine Zk6 (x:=0) (λm=>?_) (λm=>?_) hd (λq f a=>?_) λr=>?_
  ·rw[if_pos m]at e b;exact⟨_,e,b,rfl,rfl,.inl rfl⟩
  ·rw[if_neg m]at e b;exact⟨e,b⟩
  ·rw[k]at a
   rcases Zas.1 a with rfl|⟨a,_⟩
   ·have:=q _ (List.getElem_mem n);rw[o]at this;exact this
   ·exact q f a
  ·refine Zfe l (N:=N) r hd ⟨λt=>(hN.1 t).trans ⟨λ⟨f,a,q⟩=>?_,λ⟨f,a,q⟩=>?_⟩,?_⟩ (by show can d.rm N (usedL (effW d.fs (.syn s))) l;rw[p];exact hc)
   ·show∃f∈effW d.fs (.syn s),_;rw[k];by_cases z:t=s
    ·exact⟨_,Zas.2 (.inl rfl),z.symm⟩
    ·exact⟨f,Zas.2 (.inr ⟨a,by rw[q];exact z⟩),q⟩
   ·have a:f∈effW d.fs (.syn s):=a;rw[k]at a
    rcases Zas.1 a with rfl|⟨a,_⟩
    ·exact⟨d.fs[i],List.getElem_mem n,by rw[o];exact q⟩
    ·exact⟨f,a,q⟩
   ·show _=(effW d.fs (.syn s)).length;rw[k,hN.2];exact v.symm
 | .cre s::l,d,N,h,hd,hN,⟨hf,hs,hlt,hnum,hc⟩=>by
  have hno:∀g∈d.fs,g.nm≠s:=λg j q=>hs ((hN.1 s).2 ⟨g,j,q⟩);have j:d.get s=none:=(by unfold DiD.get;rw[List.find?_eq_none];intro g j;simp[hno g j]);have b:=Zjg (s:=s) h
  have e:Zbi d s=if d.st=0 then({d with dn:=true},16)else({d.tick with fs:=effW d.fs (.cre s)},0):=by
   unfold Zbi;rw[er_of h hd hf hf,if_neg (by simp),j]
   dsimp only
   rw[if_neg (by have:=hN.2;omega)];rfl
  rw[e]at b;have w:effW d.fs (.cre s)=insB FiD.nm d.fs ⟨s,[],[]⟩:=Zd4 (λg j=>hno g j);have p:usedL (effW d.fs (.cre s))=usedL d.fs:=by rw[w,Zjf];simp[FiD.len]
  refine Zk6 (x:=0) (λm=>?_) (λm=>?_) hd (λq f a=>?_) λr=>?_
  ·rw[if_pos m]at e b;exact⟨_,e,b,rfl,rfl,.inl rfl⟩
  ·rw[if_neg m]at e b;exact⟨e,b⟩
  ·rcases Zas.1 (show f∈withB FiD.nm d.fs _ from a)with rfl|⟨a,_⟩
   ·exact hnum
   ·exact q f a
  ·refine Zfe l (N:=s::N) r hd ⟨λt=>?_,?_⟩ (by show can d.rm (s::N) (usedL (effW d.fs (.cre s))) l;rw[p];exact hc)
   ·rw[List.mem_cons];constructor
    ·rintro(rfl|q)
     ·exact⟨_,Zas.2 (.inl rfl),rfl⟩
     ·obtain⟨f,a,q⟩:=(hN.1 t).1 q;exact⟨f,Zas.2 (.inr ⟨a,hno f a⟩),q⟩
    ·rintro⟨f,a,q⟩
     rcases Zas.1 (show f∈withB FiD.nm d.fs _ from a)with rfl|⟨a,_⟩
     ·exact .inl q.symm
     ·exact .inr ((hN.1 t).2 ⟨f,a,q⟩)
   ·show(s::N).length=(effW d.fs (.cre s)).length;rw[w,Zpx,List.length_cons,hN.2]

import Derived.Test.YtaenkbbfockfgaaGreatDoorK00
import Derived.Laws.Sem
import Derived.Laws.Cells
import Derived.Laws.StructEq
import Derived.ChangeKeysEq
import Derived.Laws.CopyRow
set_option linter.all false
set_option maxRecDepth 100000
variable{c i j:Int}{m n:Nat}{s t:BA}{o:Bool}{v:Go.Value}{u:Go.Px.SV}{T:Go.TypeId}{C:List Go.Px.SV}
namespace Go.Px
open Go.RowKit
theorem Zca(l:List SV):∀n,lget l n=(l[n]?).getD .unk:=by
 induction l with
 |nil=>intro n;rfl
 |cons x b a=>intro n;cases n with
  |zero=>rfl
  |succ n=>simpa[lget]using a n
def Zec(l:List SV)(v:SV):∀n,lset l n v=l.set n v:=by
 induction l with
 |nil=>intro n;cases n<;>rfl
 |cons x b a=>intro n;cases n with
  |zero=>rfl
  |succ n=>simpa[lset]using a n
def Zax(l:List SV):lenN l=l.length:=by
 induction l with
 |nil=>rfl
 |cons x b a=>simpa[lenN]using a
def Ze5:∀(n:Nat) (l:List SV),takeN n l=l.take n:=by
 intro n
 induction n with
 |zero=>intro l;simp[takeN]
 |succ n a=>intro l;cases l with
  |nil=>simp[takeN]
  |cons x b=>simp[takeN,a]
def Ze6:∀(n:Nat) (l:List SV),dropN n l=l.drop n:=by
 intro n
 induction n with
 |zero=>intro l;simp[dropN]
 |succ n a=>intro l;cases l with
  |nil=>simp[dropN]
  |cons x b=>simp[dropN,a]
theorem hmapL_getElem?(g:SV->SV):∀(a:List SV) (i:Nat),(hmapL g a)[i]?=(a[i]?).map (hmap g)
 | [],i=>by simp[hmapL]
 |c::a,0=>by simp[hmapL]
 |c::a,i+1=>by simpa[hmapL]using hmapL_getElem? g a i
def Zbh(g:SV->SV):∀(a:List SV),(hmapL g a).length=a.length
 | []=>rfl
 |c::a=>by simp[hmapL,Zbh g a]
def ungdAll_getElem?(d:Nat):∀(a:List SV) (i:Nat),(Zfm d a)[i]?=(a[i]?).map (Zja d)
 | [],i=>by simp[Zfm]
 |c::a,0=>by simp[Zfm]
 |c::a,i+1=>by simpa[Zfm]using ungdAll_getElem? d a i
theorem Zed(n:Nat):∀(a:List SV),(Zfm n a).length=a.length
 | []=>rfl
 |c::a=>by simp[Zfm,Zed n a]
theorem Zaj{k n:Nat}(h:k≠n):Nat.beq k n=false:=by
 cases hb:Nat.beq k n
 .rfl
 simp_all
theorem Zbu(k:Nat)(o:Ob)(a:List (Nat×Ob))(n:Nat):oget ((k,o)::a) n=if k=n then some o else oget a n:=by
 simp_all[oget,Zaj]
def Zk8(a b:List (Nat×Ob))(id:Nat):oget (a++b) id=(oget a id).or (oget b id):=by
 induction a with
 |nil=>simp[oget]
 |cons x c d=>
  grind [Zbu]
theorem Zqi(a:List (Nat×Ob))(n m:Nat):oget (odel a n) m=if n=m then none else oget a m:=by
 induction a with
 |nil=>simp[odel,oget]
 |cons x a b=>
  grind [odel,Nat.beq_refl,Zbu,Zaj]
def Zhv(a:List (Nat×Ob))(n m:Nat)(o:Ob):oget (oput a n o) m=if n=m then(oget a m).map (λ_=>o)else oget a m:=by
 induction a with
 |nil=>simp[oput,oget]
 |cons x a b=>
  grind [oput,Nat.beq_refl,Zbu,Zaj]
def Zgb(g:SV->SV)(a:List (Nat×Ob))(m:Nat):oget (hmapO g a) m=(oget a m).map (Zdy g):=by
 induction a with
 |nil=>simp[hmapO,oget]
 |cons x a b=>
  grind [hmapO,Zbu]
theorem HLe.refl(h:Hp):HLe h h:=λ_ _ _ e=>e
def HLe.trans{a b c:Hp}(x:HLe a b)(y:HLe b c):HLe a c:=λb o v e=>y b o v (x b o v e)
theorem Keeps.refl(G:Nat->Prop)(w:World):Keeps G w w:=⟨rfl,rfl,rfl,Nat.le_refl _,λ_ _ _=>rfl⟩
def Keeps.trans{G:Nat->Prop}{a b c:World}(x:Keeps G a b)(y:Keeps G b c):Keeps G a c:=
 ⟨y.os.trans x.os,y.tape.trans x.tape,y.output.trans x.output,Nat.le_trans x.size y.size,λk d e=>(y.block k (Nat.lt_of_lt_of_le d x.size) e).trans (x.block k d e)⟩
def Keeps.step{G d:Nat->Prop}{a b c:World}(x:Keeps G a b)(y:Keeps d b c)(h:∀k,d k->a.heap.size<=k\/G k):Keeps G a c:=
 ⟨y.os.trans x.os,y.tape.trans x.tape,y.output.trans x.output,Nat.le_trans x.size y.size,λk f g=>by
  rw[y.block k (Nat.lt_of_lt_of_le f x.size) (λe=>by rcases h k e with h|h;omega;exact g h)]
  exact x.block k f g⟩
def Keeps.below{G:Nat->Prop}{a b:World}(x:Keeps G a b)(h:∀k,¬G k):Below a.heap.size a b:=
 ⟨x.os,x.tape,x.output,x.size,λk c=>x.block k c (h k)⟩
def PRep.mono{h C:Hp}(k:HLe h C){v:Value}{s:SV}(r:PRep h v s):PRep C v s:=by
 induction r with
 |val v=>exact .val v
 |agg a n o _ d=>exact .agg a n o d
 |empty p e q g u w E=>exact .empty p e q g u w E
 |slice b off e q rows g a x F y _ G u w z d=>exact .slice b off e q rows g a x F (λi r j c D l=>k _ _ _ (y i r j c D l)) d G u w z
 |ref b A off cells a y _ d=>exact .ref b A off cells a (λj c l=>k _ _ _ (y j c l)) d
 |clo f a n o _ d=>exact .clo f a n o d
 |ifc t v s _ d=>exact .ifc t v s d
 |arr a H m J K L=>exact .arr a H m J K L
 |fnv t M v b=>exact .fnv t M v b
 |unk v=>exact .unk v
def Rep.mono{h m:Hp}(o:HLe h m){q:Nat->Loc}{v:Value}{s:SV}(r:Rep h q v s):Rep m q v s:=by
 induction r with
 |pure v s b=>exact .pure v s (b.mono o)
 |agg d f g _ j=>exact .agg d f g j
 |tup d f g _ j=>exact .tup d f g j
 |ptr id off=>exact .ptr id off
 |bsl id off n=>exact .bsl id off n
 |osl0 id p a=>exact .osl0 id p a
 |osl id a=>exact .osl id a
 |eptr id e i off a=>exact .eptr id e i off a
 |osv id l k c p u w x y b=>exact .osv id l k c p u w x y b
 |omp id=>exact .omp id
 |aptr id i=>exact .aptr id i
 |asl id l k t=>exact .asl id l k t
def Zbi:SV->Bool
 | .agg _| .tup _| .gd _ _ _=>false
 |_=>true
def Zk9{g:SV->SV}{s:SV}(a:Zbi s=true):hmap g s=g s:=by
 cases s<;>first|rfl|(simp[Zbi]at a)
def Rep.not_gd{h:Hp}{a:Nat->Loc}(r:Rep h a v (.gd n o u)):False:=by
 cases r with
 |pure _ _ c=>cases c
def PRep.turn{h z:Hp}{ρ':Nat->Loc}{g:SV->SV}(a:∀v u,Zbi u=true->PRep h v u->Rep z ρ' v (g u))(r:PRep h v u):Rep z ρ' v (hmap g u):=by
 induction r with
 |agg d C l _ M=>
  refine .agg d _ (by rw[Zbh];exact l) λi v c k A=>?_
  grind [hmapL_getElem?]
 |val v=>exact a _ _ rfl (.val v)
 |empty p e n j o q E=>exact a _ _ rfl (.empty p e n j o q E)
 |slice b off e n rows j d s F w x G o q D=>exact a _ _ rfl (.slice b off e n rows j d s F w x G o q D)
 |ref b y off cells d w x=>exact a _ _ rfl (.ref b y off cells d w x)
 |clo f d C l A=>exact a _ _ rfl (.clo f d C l A)
 |ifc t v u k=>exact a _ _ rfl (.ifc t v u k)
 |arr d H m J K k=>exact a _ _ rfl (.arr d H m J K k)
 |fnv t L v b=>exact a _ _ rfl (.fnv t L v b)
 |unk v=>exact a _ _ rfl (.unk v)
def Rep.turn{h o:Hp}{q ρ':Nat->Loc}{g:SV->SV}(a:∀v s,Zbi s=true->Rep h q v s->Rep o ρ' v (g s)){v:Value}{s:SV}(r:Rep h q v s):Rep o ρ' v (hmap g s):=by
 induction r with
 |pure v s f=>exact f.turn (λv s u r=>a v s u (.pure _ _ r))
 |agg j x k _ y=>
  refine .agg j _ (by rw[Zbh];exact k) λi v c w d=>?_
  grind [hmapL_getElem?]
 |tup j x k _ y=>
  refine .tup j _ (by rw[Zbh];exact k) λi v c w d=>?_
  grind [hmapL_getElem?]
 |ptr id off=>exact a _ _ rfl (.ptr id off)
 |bsl id off n=>exact a _ _ rfl (.bsl id off n)
 |osl0 id p b=>exact a _ _ rfl (.osl0 id p b)
 |osl id b=>exact a _ _ rfl (.osl id b)
 |eptr id e i off b=>exact a _ _ rfl (.eptr id e i off b)
 |osv id l m c p z A C d f=>exact a _ _ rfl (.osv id l m c p z A C d f)
 |omp id=>exact a _ _ rfl (.omp id)
 |aptr id i=>exact a _ _ rfl (.aptr id i)
 |asl id l m t=>exact a _ _ rfl (.asl id l m t)
def Zx3{h:Hp}{v:Value}{s:SV}(n:Nat)(a:Zbi s=true)(r:PRep h v s):killG n s=s:=by
 cases r<;>first|rfl|(simp[Zbi]at a)
def Rep.kill(n:Nat){h f:Hp}(m:HLe h f){o ρ':Nat->Loc}(a:∀i,i≠n->ρ' i=o i)(r:Rep h o v u):Rep f ρ' v (hmap (killG n) u):=by
 refine r.turn λv u g r=>?_;have y:Rep f ρ' v .unk:=.pure _ _ (.unk _)
 cases r with
 |pure _ _ d=>rw[Zx3 n g d];exact .pure _ _ (d.mono m)
 |agg=>simp[Zbi]at g
 |tup=>simp[Zbi]at g
 |ptr id off=>
  by_cases h:id=n
  .grind [killG,Nat.beq_refl]
  .simp only[killG,Zaj h,cond_false];rw[<-a id h];exact .ptr id off
 |bsl id off k=>
  by_cases h:id=n
  .grind [killG,Nat.beq_refl]
  .simp only[killG,Zaj h,cond_false];rw[<-a id h];exact .bsl id off k
 |osl0 id p b=>
  by_cases h:id=n
  .grind [killG,Nat.beq_refl]
  .simp only[killG,Zaj h,cond_false];exact .osl0 id p (by rw[a id h];exact b)
 |osl id b=>
  by_cases h:id=n
  .grind [killG,Nat.beq_refl]
  .simp only[killG,Zaj h,cond_false];rw[<-a id h]at b|-;exact .osl id b
 |eptr id e i off b=>
  by_cases h:id=n
  .grind [killG,Nat.beq_refl]
  .simp only[killG,Zaj h,cond_false];rw[<-a id h]at b|-;exact .eptr id e i off b
 |osv id l j c p t s w x d=>
  by_cases h:id=n
  .grind [killG,Nat.beq_refl]
  .simp only[killG,Zaj h,cond_false];exact .osv id l j c p t s w (by rw[a id h];exact x) (by rw[a id h];exact d)
 |omp id=>
  by_cases h:id=n
  .grind [killG,Nat.beq_refl]
  .simp only[killG,Zaj h,cond_false];rw[<-a id h];exact .omp id
 |aptr id i=>
  by_cases h:id=n
  .grind [killG,Nat.beq_refl]
  .simp only[killG,Zaj h,cond_false];rw[<-a id h];exact .aptr id i
 |asl id l j q=>
  by_cases h:id=n
  .grind [killG,Nat.beq_refl]
  .simp only[killG,Zaj h,cond_false];rw[<-a id h];exact .asl id l j q
def PRep.tok0{h:Hp}{rows:LL}{tok:Nat}(r:PRep h v (.slice n rows tok)):PRep h v (.slice n rows 0):=by
 cases r with
 |empty p a _ _ f g i=>exact .empty p a n 0 Vo Vo i
 |slice b off a _ _ _ j d k l m c f g e=>exact .slice b off a n rows 0 j d k l m c Vo Vo e
def PRep.fix{h:Hp}{rows:LL}{tok:Nat}(r:PRep h v (.slice m rows tok))(e:m=n\/m=0):PRep h v (.slice n rows tok):=by
 rcases e with rfl|rfl
 .exact r
 .cases r with
  |empty p d _ _ f g i=>exact .empty p d _ _ f g i
  |slice _ _ _ _ _ _ _ b=>exact absurd b (Nat.lt_irrefl 0)
def HSub.lt{h:Hp}{w:World}(a:HSub h w)(e:h n m=some v):n<w.heap.size:=by
 have:=a n m v e
 grind [World.cell?]
end Go.Px
namespace Go.Px
open Go.RowKit
def TRep.of_rep{h:Hp}{ρ:Nat->Loc}{b:Array Value}{v:Value}{s:SV}(c:∀t w x,s≠ .gd t w x)(r:Rep h ρ v s):TRep h ρ b v s:=by
 cases s<;>first|exact r|exact absurd rfl (c _ _ _)
theorem TRep.of_rep'{h:Hp}{ρ:Nat->Loc}{b:Array Value}{v:Value}{s:SV}(r:Rep h ρ v s):TRep h ρ b v s:=
 .of_rep (λt w x e=>by subst e;exact r.not_gd) r
theorem TRep.rep_unk{h:Hp}{ρ:Nat->Loc}(b:Array Value)(v:Value):TRep h ρ b v .unk:=Rep.pure _ _ (.unk _)
def TRep.carry{h f:Hp}{ρ b:Nat->Loc}{i d:Array Value}{v:Value}{s c:SV}
  (l:∀t w x,s= .gd t w x->c= .unk\/∃g,c= .gd t w g/\d.getD t undef=i.getD t undef/\(Rep h ρ v x->Rep f b v g))
  (m:(∀t w x,s≠ .gd t w x)->(∀t w x,c≠ .gd t w x)/\(Rep h ρ v s->Rep f b v c)) (r:TRep h ρ i v s):TRep f b d v c:=by
 by_cases hs:∃t w x,s= .gd t w x
 .obtain⟨t,w,x,rfl⟩:=hs
  rcases l t w x rfl with rfl|⟨g,rfl,ht,hx⟩
  .exact .rep_unk _ _
  grind [TRep]
 .have k:∀t w x,s≠ .gd t w x:=λt w x e=>hs ⟨t,w,x,e⟩;obtain⟨j,hx⟩:=m k;refine .of_rep j (hx ?_)
  cases s<;>first|exact r|exact absurd rfl (k _ _ _)
def TRep.turn{h b:Hp}{ρ ρ':Nat->Loc}{c:Array Value}{g:SV->SV}(d:∀u,Rep h ρ v u->Rep b ρ' v (hmap g u))(r:TRep h ρ c v u):TRep b ρ' c v (hmap g u):=by
 by_cases hs:∃t w x,u= .gd t w x
 .grind [TRep,hmap]
 .have f:∀t w x,u≠ .gd t w x:=λt w x e=>hs ⟨t,w,x,e⟩;refine TRep.of_rep' (d u ?_)
  cases u<;>first|exact r|exact absurd rfl (f _ _ _)
def TRep.mono{h c:Hp}{ρ:Nat->Loc}{d:Array Value}{v:Value}{s:SV}(b:HLe h c)(r:TRep h ρ d v s):TRep c ρ d v s:=
 r.carry (λt w x e=>.inr ⟨x,e,rfl,λr=>r.mono b⟩) (λf=>⟨f,λr=>r.mono b⟩)
theorem Zpt{d:Nat}{s:SV}(b:∀t w x,s≠ .gd t w x):Zja d s=s:=by
 cases s<;>first|rfl|exact absurd rfl (b _ _ _)
theorem Zgn(d:Nat)(w:Bool)(x:SV):Zja d (.gd d w x)= .unk:=by simp[Zja]
theorem Zi6(h:n≠m)(w:Bool)(x:SV):Zja n (.gd m w x)= .gd m w x:=by simp[Zja,Zaj h]
theorem getD_set_ne'{b:Array Value}(v:Value)(h:n≠m):(b.setIfInBounds n v).getD m undef=b.getD m undef:=by
 simp_all
def upd(ρ:Nat->Loc)(id:Nat)(l:Loc):Nat->Loc:=λi=>if i=id then l else ρ i
theorem Zab(ρ:Nat->Loc)(id:Nat)(l:Loc):upd ρ id l id=l:=by simp[upd]
def Zi7(ρ:Nat->Loc){id i:Nat}(l:Loc)(h:i≠id):upd ρ id l i=ρ i:=by simp[upd,h]
section
variable{X:Cx}{h:Hp}{ρ:Nat->Loc}{st:St}{a:Act}{w:World}
def FitsAt.put(F:FitsAt X h ρ st a w)(d:Option Nat){v:Value}{s:SV}(r:TRep h ρ a.tmps v s):FitsAt X h ρ (st.put d s) (a.put d v) w:=by
 cases d with
 |none=>exact F
 |some d=>
  refine{F with size:=?_,tm:=?_,df:=F.df}
  .simp[St.put,Act.put,Zec,Zed,F.size]
  .intro t k b;simp only[St.put,Zec,Act.put]at b|-;rw[List.getElem?_set]at b;by_cases hdt:d=t
   .subst hdt;simp only[if_true]at b
    split at b
    next i=>
     cases b
     have c:d<a.tmps.size:=(by grind [F.size,Zed]);have g:(a.tmps.setIfInBounds d v).getD d undef=v:=(by simp[c]);rw[g];refine r.carry (λt w x e=>?_) (λf=>?_)
     .grind [Zgn,Zi6,getD_set_ne']
     grind [Zpt]
    .cases b
   .simp only[hdt,if_false]at b;rw[ungdAll_getElem?]at b
    cases hx:st.tmps[t]? with
    |none=>simp[hx]at b
    |some x=>
     simp[hx]at b;subst b;rw[getD_set_ne' _ hdt];refine(F.tm t x hx).carry (λj w' y e=>?_) (λf=>?_)
     .grind [Zgn,Zi6,getD_set_ne']
     grind [Zpt]
def OwnOK.mono{b:Hp}{f:World}{l:Loc}{g:Nat}{rows:LL}(r:OwnOK h w l g rows)(k:HLe h b)(m:f.heap[l.blk]?=w.heap[l.blk]?)
  (hno:∀o,h l.blk o=none->b l.blk o=none):OwnOK b f l g rows:=by
 obtain⟨d,t,fz,s,hs,hf,u⟩:=r.hblk
 exact{r with hblk:=⟨d,t,fz,by rw[m];exact s,hs,hf,λi n j c p q=>by
  obtain⟨v,e1,e2,x⟩:=u i n j c p q;exact⟨v,e1,e2.mono k,x⟩⟩,hh:=λo=>hno o (r.hh o),hfz:=λd t fz e=>r.hfz d t fz (by rw[<-m];exact e),hcm:=r.hcm}
def ObOK.turn{j:Hp}{ρ':Nat->Loc}{u:World}{o:Ob}{g:SV->SV}(C:∀v s,Rep h ρ v s->Rep j ρ' v (hmap g s))(y:HLe h j)(b:ρ' n=ρ n)
  (k:(ρ n).none=false->u.heap[(ρ n).blk]?=w.heap[(ρ n).blk]?) (l:(ρ n).none=false->∀x,h (ρ n).blk x=none->j (ρ n).blk x=none)
  (r:ObOK h ρ w n o):ObOK j ρ' u n (Zdy g o):=by
 cases o with
 |box cells=>
  obtain⟨d,⟨id,t,f,z,A⟩,hno⟩:=r;refine⟨by rw[b];exact d,⟨id,t,by rw[b,k d];exact f,by rw[Zbh];exact z,λi v c E f=>?_⟩,λx=>by rw[b];exact l d x (hno x)⟩
  grind [hmapL_getElem?]
 |own F rows=>
  rcases r with⟨d,e⟩|⟨d,r⟩
  .exact .inl ⟨by rw[b];exact d,e⟩
  .refine .inr ⟨by rw[b];exact d,?_⟩;rw[b];exact r.mono y (k d) (l d)
 |mp G=>obtain⟨d,⟨p,D,f,q⟩,hno⟩:=r;exact⟨by rw[b];exact d,⟨p,D,by rw[b,k d];exact f,q⟩,λx=>by rw[b];exact l d x (hno x)⟩
 |arr H m J=>obtain⟨d,⟨id,t,f,q⟩,hno⟩:=r;exact⟨by rw[b];exact d,⟨id,t,by rw[b,k d];exact f,q⟩,λx=>by rw[b];exact l d x (hno x)⟩
mutual
def Zrl:∀(s:SV),hmap (λs=>s) s=s
 | .agg b=>by simp[hmap,Zjv b]
 | .tup b=>by simp[hmap,Zjv b]
 | .gd t w v=>by simp[hmap,Zrl v]
 | .val _| .slice .. | .mapv _| .ref .. | .clo .. | .ifc .. | .ptr .. | .bsl .. | .osl _| .eptr .. | .osv .. | .omp _| .arr .. | .aptr .. | .asl .. | .fnv .. | .unk=>by simp[hmap]
def Zjv:∀(l:List SV),hmapL (λs=>s) l=l
 | []=>rfl
 |c::cs=>by simp[hmapL,Zrl c,Zjv cs]
end
theorem Zzn(o:Ob):Zdy (λs=>s) o=o:=by cases o<;>simp[Zdy,Zjv]
def ObOK.carry{c:Hp}{d:World}{o:Ob}(b:HLe h c)
  (e:(ρ n).none=false->d.heap[(ρ n).blk]?=w.heap[(ρ n).blk]?) (f:(ρ n).none=false->∀x,h (ρ n).blk x=none->c (ρ n).blk x=none)
  (r:ObOK h ρ w n o):ObOK c ρ d n o:=by
 have:=r.turn (ρ':=ρ) (g:=λs=>s) (λv s q=>by rw[Zrl];exact q.mono b) b rfl e f
 grind [Zzn]
def ObOK.blk_lt{o:Ob}(r:ObOK h ρ w n o)(f:(ρ n).none=false):(ρ n).blk<w.heap.size:=by
 have:∀x,w.heap[(ρ n).blk]?=some x->(ρ n).blk<w.heap.size:=λx hx=>(Y3.1 hx).1
 cases o with
 |box cells=>obtain⟨_,⟨c,t,b,_⟩,_⟩:=r;exact this _ b
 |own j rows=>
  rcases r with⟨e,_⟩|⟨_,r⟩
  .grind
  .obtain⟨c,t,g,b,_⟩:=r.hblk;exact this _ b
 |mp k=>obtain⟨_,⟨d,i,b,_⟩,_⟩:=r;exact this _ b
 |arr l m id=>obtain⟨_,⟨c,t,b,_⟩,_⟩:=r;exact this _ b
def ObOK.hno{o:Ob}(r:ObOK h ρ w n o)(b:(ρ n).none=false):∀x,h (ρ n).blk x=none:=by
 cases o with
 |box cells=>exact r.2.2
 |own c rows=>
  rcases r with⟨e,_⟩|⟨_,r⟩
  .grind
  .exact r.hh
 |mp d=>exact r.2.2
 |arr f m g=>exact r.2.2
def Zim{c:World}(d:HSub h w)(f:∀b,b<w.heap.size->c.heap[b]?=w.heap[b]?):HSub h c:=λb o v e=>by
 have:=d b o v e
 grind [World.cell?]
def Gl.le{h d:Hp}{w:World}(g:Gl h w)(b:HLe h d):Gl d w:=
 ⟨λp f i c e=>by
  obtain⟨v,j,k⟩:=g.cells p f i c e
  exact⟨v,b _ _ _ j,k.mono b⟩,g.size⟩
def Gl.off{h:Hp}{w:World}(g:Gl h w){b:List (Nat×Ob)}{ρ:Nat->Loc}(f:∀i,live b ρ i->∀o,h (ρ i).blk o=none):∀p∈Zbf,¬Gv b ρ p.1:=by
 rintro p d ⟨i,hi,e⟩;obtain⟨c,_⟩:=g.size p d;obtain⟨v,j,_⟩:=g.cells p d 0 _ (List.getElem?_eq_getElem c)
 grind
def ObOK.hnone{h:Hp}{ρ:Nat->Loc}{w:World}{o:Ob}(k:ObOK h ρ w n o)(b:(ρ n).none=false):∀x,h (ρ n).blk x=none:=by
 cases o with
 |box cells=>exact k.2.2
 |own d rows=>
  rcases k with⟨c,_⟩|⟨_,h2⟩
  .grind
  .exact h2.hh
 |mp e=>exact k.2.2
 |arr f m g=>exact k.2.2
def FitsAt.glob(F:FitsAt X h ρ st a w):Gl h w:=by
 refine⟨(F.gl.1.le F.mono).cells,λp b=>?_⟩;obtain⟨d,e,t,f,c,g⟩:=F.gl.1.size p b;refine⟨d,e,t,f,?_,g⟩
 rw[F.kp.block p.1 (by
  have:=Y3.1 c
  exact this.1) (F.gl.2 p b)]
 exact c
def FitsAt.grow{i:Hp}{j:World}(F:FitsAt X h ρ st a w)(c:HLe h i)(n:∀b,b<w.heap.size->j.heap[b]?=w.heap[b]?)
  (d:∀b,b<w.heap.size->∀o,h b o=none->i b o=none) (k:HSub i j) (l:Keeps X.G X.w j):FitsAt X i ρ st a j:=by
 have lt:=λid o f g=>ObOK.blk_lt (F.obj id o f) g;refine{F with tm:=λt s p=>(F.tm t s p).mono c,sub:=k,obj:=λid o f=>?_,mono:=F.mono.trans c,ext:=λb m q o e=>?_,kp:=l}
 .exact(F.obj id o f).carry c (λg=>n _ (lt id o f g)) (λg x=>d _ (lt id o f g) x)
 .exact d b (Nat.lt_of_lt_of_le m F.kp.size) o (F.ext b m q o e)
def FitsAt.world{c:World}(F:FitsAt X h ρ st a w)(d:∀b,b<w.heap.size->c.heap[b]?=w.heap[b]?)(f:Keeps X.G X.w c):FitsAt X h ρ st a c:=
 F.grow (HLe.refl h) d (λ_ _ _ e=>e) (Zim F.sub d) f
def FitsAt.turn{h':Hp}{ρ':Nat->Loc}{w':World}(F:FitsAt X h ρ st a w)(g:SV->SV)(objs':List (Nat×Ob))(hrep:∀v s,Rep h ρ v s->Rep h' ρ' v (hmap g s))
  (hobj:∀id o,oget objs' id=some o->ObOK h' ρ' w' id o) (hlive:∀i,live objs' ρ' i->live st.objs ρ i/\(ρ' i).blk=(ρ i).blk)
  (hsub:HSub h' w') (hle:HLe h h') (hext:∀b,b<X.w.heap.size->¬X.G b->∀o,h b o=none->h' b o=none) (hkp:Keeps X.G X.w w') (hpin:∀i,idOK i=false->ρ' i=ρ i):
  FitsAt X h' ρ' {tmps:=hmapL g st.tmps,objs:=objs'} a w' where
 size:=by simp[Zbh,F.size]
 tm:=λt s hs=>by
  simp only[hmapL_getElem?]at hs
  cases hx:st.tmps[t]? with
  |none=>simp[hx]at hs
  |some x=>simp[hx]at hs;subst hs;exact(F.tm t x hx).turn (λs r=>hrep _ s r)
 df:=F.df
 sub:=hsub
 obj:=hobj
 inj:=λi j hi hj hij=>by rw[(hlive i hi).2,(hlive j hj).2];exact F.inj i j (hlive i hi).1 (hlive j hj).1 hij
 own:=λi hi=>by rw[(hlive i hi).2];exact F.own i (hlive i hi).1
 mono:=F.mono.trans hle
 ext:=λb hb hg o e=>hext b hb hg o (F.ext b hb hg o e)
 kp:=hkp
 pin:=λi l e=>⟨by rw[hpin i (F.pin i l e).2];exact(F.pin i l e).1,(F.pin i l e).2⟩
 gl:=F.gl
theorem Zaf{g:SV->SV}{c:List (Nat×Ob)}{o:Ob}(e:oget (hmapO g c) m=some o):∃b,oget c m=some b/\o=Zdy g b:=by
 rw[Zgb]at e
 cases h:oget c m with
 |none=>simp[h]at e
 |some b=>simp[h]at e;exact⟨b,rfl,e.symm⟩
theorem Zae{b:List (Nat×Ob)}{o:Ob}(e:oget (odel b n) m=some o):m≠n/\oget b m=some o:=by
 grind [Zqi]
def FitsAt.drop(F:FitsAt X h ρ st a w)(id:Nat){ρ':Nat->Loc}(b:∀i,i≠id->ρ' i=ρ i)(hid:idOK id=true\/ρ' id=ρ id):FitsAt X h ρ' (st.drop id) a w:=by
 refine F.turn (killG id) _ (λv s r=>r.kill id (HLe.refl h) b) (λi o e=>?_) (λi j=>?_) F.sub (HLe.refl h) (λ_ _ _ _ e=>e) F.kp (λi j=>?_)
 .obtain⟨f,g,rfl⟩:=Zaf e;obtain⟨c,d⟩:=Zae g;exact(F.obj i f d).turn (λv s r=>r.kill id (HLe.refl h) b) (HLe.refl h) (b i c) (λ_=>rfl) (λ_ _ e=>e)
 .obtain⟨⟨o,e⟩,k⟩:=j;obtain⟨f,g,rfl⟩:=Zaf e;obtain⟨c,d⟩:=Zae g;rw[b i c]at k|-;exact⟨⟨⟨f,d⟩,k⟩,rfl⟩
 grind
theorem FitsAt.add(F:FitsAt X h ρ st a w)(id:Nat)(o:Ob)(hno:oget st.objs id=none)(g:ObOK h ρ w id o)
  (d:(ρ id).none=false->X.w.heap.size<=(ρ id).blk\/X.G (ρ id).blk) (c:(ρ id).none=false->∀i,live st.objs ρ i->(ρ i).blk≠(ρ id).blk):
  FitsAt X h ρ {st with objs:=(id,o)::st.objs} a w:=by
 have b:∀i,live ((id,o)::st.objs) ρ i->i=id\/live st.objs ρ i:=by
  rintro i ⟨⟨x,hx⟩,hn⟩;rw[Zbu]at hx
  split at hx
  .grind
  .exact .inr ⟨⟨x,hx⟩,hn⟩
 refine{F with obj:=λi x hx=>?_,inj:=λi j hi e f=>?_,own:=λi hi=>?_}
 .simp only[Zbu]at hx
  split at hx
  .grind
  .exact F.obj i x hx
 .rcases b i hi with rfl|hi'
  .rcases b j e with rfl|hj'
   .grind
   .exact YN (c hi.2 j hj')
  .rcases b j e with rfl|hj'
   .exact c e.2 i hi'
   .exact F.inj i j hi' hj' f
 .rcases b i hi with rfl|hi'
  .exact d hi.2
  .exact F.own i hi'
def Zmi(st:St)(id:Nat):oget (st.drop id).objs id=none:=by simp[St.drop,Zgb,Zqi]
def FitsAt.bind(F:FitsAt X h ρ st a w)(id:Nat)(hid:idOK id=true)(o:Ob)(l:Loc)(n:ObOK h (upd ρ id l) w id (Zdy (killG id) o))
  (d:l.none=false->X.w.heap.size<=l.blk\/X.G l.blk) (f:l.none=false->∀i,i≠id->live st.objs ρ i->(ρ i).blk≠l.blk):
  FitsAt X h (upd ρ id l) (st.bind id o) a w:=by
 have q:=F.drop id (ρ':=upd ρ id l) (λi g=>Zi7 ρ l g) (.inl hid);refine q.add id _ (Zmi st id) n (by rw[Zab];exact d) (λj i g=>?_);rw[Zab]at j|-;obtain⟨⟨r,e⟩,b⟩:=g;obtain⟨k,p,rfl⟩:=Zaf e;obtain⟨c,m⟩:=Zae p;rw[Zi7 ρ l c]at b|-;exact f j i c ⟨⟨k,m⟩,b⟩
def FitsAt.setOb(F:FitsAt X h ρ st a w)(id:Nat)(o m:Ob)(g:World)(p:oget st.objs id=some o)(q:(ρ id).none=false)(y:ObOK h ρ g id m)
  (n:∀b,b≠(ρ id).blk->g.heap[b]?=w.heap[b]?) (r:Keeps (λb=>b=(ρ id).blk) w g):FitsAt X h ρ {st with objs:=oput st.objs id m} a g:=by
 have l:live st.objs ρ id:=⟨⟨_,p⟩,q⟩
 have hno:=(F.obj id _ p).hno q
 have c:∀i,live (oput st.objs id m) ρ i->live st.objs ρ i:=by
  rintro i ⟨⟨x,hx⟩,f⟩;rw[Zhv]at hx
  split at hx
  .grind
  .exact⟨⟨x,hx⟩,f⟩
 refine{F with tm:=F.tm,sub:=λb o v e=>?_,obj:=λi x d=>?_,inj:=λi j d t=>F.inj i j (c i d) (c j t),own:=λi d=>F.own i (c i d),kp:=?_}
 .have s:b≠(ρ id).blk:=λs=>by subst s;rw[hno o]at e;cases e
  have:=F.sub b o v e
  grind [World.cell?]
 .simp only[Zhv]at d;by_cases hii:id=i
  .grind
  .rw[if_neg hii]at d;refine(F.obj i x d).carry (HLe.refl h) (λf=>n _ ?_) (λ_ _ e=>e);exact F.inj i id ⟨⟨x,d⟩,f⟩ l (YN hii)
 .refine F.kp.step r (λk u=>?_);subst u;exact F.own id l
end
end Go.Px
namespace Go.Px
open Go.RowKit
def Zbn(b off n:Nat):(⟨b,off,none⟩:Addr).add n=⟨b,off+n,none⟩:=by
 grind [Addr.add]
def run_typeInfo'{P:Program}(w:World){i:TypeInfo}(h:P.info? T=some i):(typeInfo T).run P w= .ok i w:=by
 simp[typeInfo,h]
def Zoj{P:Program}(h:szT P T=some n):∃i,P.info? T=some i/\i.size=n:=by
 simp_all[szT]
def run_sizeOf'{P:Program}(w:World)(h:szT P T=some n):(sizeOf T).run P w= .ok n w:=by
 obtain⟨i,b,rfl⟩:=Zoj h;simp[sizeOf,run_typeInfo' w b]
def run_isAgg'{P:Program}(w:World){d:TypeDesc}(h:P.underlying T=some d):(isAgg T).run P w= .ok (Za2 P T) w:=by
 simp only[isAgg,Sem.run_bind,run_underlying h,Result.andThen_ok,Za2,h]
 cases d<;>rfl
section
variable{X:Cx}{h:Hp}{ρ:Nat->Loc}{st:St}{a:Act}{w:World}{P:Program}
def TRep.out{b:Array Value}{v:Value}{s:SV}(c:∀t w x,s≠ .gd t w x)(r:TRep h ρ b v s):Rep h ρ v s:=by
 cases s<;>first|exact r|exact absurd rfl (c _ _ _)
theorem Zok{b:List (Nat×Bool)}{s:SV}(c:∀t w x,s≠ .gd t w x):ungd b s=s:=by
 cases s<;>first|rfl|exact absurd rfl (c _ _ _)
def FitsAt.slot(F:FitsAt X h ρ st a w)(c:List (Nat×Bool))(j:∀g∈c,a.tmps.getD g.1 undef= .bool g.2)(t:Nat):
  Rep h ρ (a.tmps.getD t undef) (ungd c (lget st.tmps t)):=by
 rw[Zca]
 cases hx:st.tmps[t]? with
 |none=>exact .pure _ _ (.unk _)
 |some s=>
  have r:=F.tm t s hx;simp only[Yl];by_cases hs:∃t w x,s= .gd t w x
  .obtain⟨d,k,x,rfl⟩:=hs;simp only[ungd]
   cases hb:c.any (λg=>Nat.beq g.1 d&&(g.2==k))with
   |false=>exact .pure _ _ (.unk _)
   |true=>
    obtain⟨g,f,b⟩:=List.any_eq_true.1 hb;simp only[Bool.and_eq_true,beq_iff_eq]at b;have e1:g.1=d:=Nat.eq_of_beq_eq_true b.1;have:=j g f;rw[e1,b.2]at this
    rcases r with⟨_,r⟩|⟨hne,_⟩
    .exact r
    grind
  .have i:∀t w x,s≠ .gd t w x:=λt w x e=>hs ⟨t,w,x,e⟩;rw[Zok i];exact r.out i
def FitsAt.global_rep(F:FitsAt X h ρ st a w)(g:Nat):PRep h (a.eval (.global g)) (Zfl g Zbf):=by
 rcases Zcb g Zbf with e|⟨cs,hm,e⟩
 .rw[e];exact .unk _
 .rw[e];have f:=F.gl.1.cells _ hm;refine .ref g 0 0 cs (λj=>(X.h g j).getD undef) (λj c d=>?_) (λj c d=>?_)
  .obtain⟨v,b,_⟩:=f j c d;rw[Yj];simp only[]at b;rw[b];exact F.mono _ _ _ b
  .obtain⟨v,b,i⟩:=f j c d;simp only[]at b;rw[b];exact i.mono F.mono
def FitsAt.operand(F:FitsAt X h ρ st a w)(d:List (Nat×Bool))(k:∀g∈d,a.tmps.getD g.1 undef= .bool g.2)(x:Operand):
  Rep h ρ (a.eval x) (ungd d (ev st x)):=by
 cases x with
 |tmp t=>exact F.slot d k t
 |const v=>
  by_cases h1:∃b,v= .agg b
  .obtain⟨b,rfl⟩:=h1;show Rep h ρ (.agg b) (.agg (b.toList.map .val));refine .pure _ _ (.agg b _ Vs λi v c l j=>?_);simp at j;obtain⟨x,hx,rfl⟩:=j;rw[l]at hx;cases hx;exact .val v
  .by_cases h2:v= .slice none 0 0
   .subst h2;show Rep h ρ (.slice none 0 0) (.slice 0 [] 1);exact .pure _ _ (.empty none 0 0 1 Vo Vo Vs)
   .have:ev st (.const v)= .val v:=by
     simp_all[ev]
    rw[this];exact .pure _ _ (.val _)
 |global g=>
  have m:∀t w x,Zfl g Zbf≠ .gd t w x:=λt w x e=>by
   grind [Zcb,Zbf]
  show Rep h ρ _ (ungd d (Zfl g Zbf));rw[Zok m];exact .pure _ _ (F.global_rep g)
 |func f=>exact .pure _ _ (.clo f #[] [] rfl Vs)
def SameB(c:Option Nat)(w d:World):Prop:=∀b,c=some b->d.heap[b]?=w.heap[b]?
theorem SameB.refl(b:Option Nat)(w:World):SameB b w w:=λ_ _=>rfl
def Zfs{w c:World}(x:c.heap[n]?=w.heap[n]?)(e:w.cell? ⟨n,m,none⟩=some v):c.cell? ⟨n,m,none⟩=some v:=by
 grind [World.cell?]
def fblk(P:Program)(a:Act)(o:Oper):Option Nat:=
 match Zbr P o.op with
 |none=>none
 |some x=>match a.eval x with
  | .pointer (some ad)=>some ad.block
  | .map (some r)=>some r
  | .slice (some ad) (_+1) _=>some ad.block
  |_=>none
def Ziu(w:World)(b off:Nat)(c:List Value):Prop:=∀(j:Nat) v,c[j]?=some v->w.cell? ⟨b,off+j,none⟩=some v
def Zdd{b base off:Nat}{vs:List Value}{cs:List SV}{t:TypeId}{s:SV}(l:Ziu w b base vs)(r:vs.length=cs.length)
  (u:∀(j:Nat) v c,vs[j]?=some v->cs[j]?=some c->Rep h ρ v c) (e:partN P t off cs=some s):
  ∃v,(∀f:World,f.heap[b]?=w.heap[b]?->(loadVar t ⟨b,base+off,none⟩).run P f= .ok v f)/\Rep h ρ v s:=by
 unfold partN at e
 split at e
 .cases e
 .cases e
 .rename_i d n m p;simp only[Zax,Ze5,Ze6,Zca]at e
  cases hagg:Za2 P t with
  |true=>
   simp only[hagg,cond_true]at e
   cases hb:Nat.ble (off+n) cs.length with
   |false=>simp[hb]at e
   |true=>
    simp[hb]at e;subst e;have o:=Nat.le_of_ble_eq_true hb;refine⟨.agg ((vs.drop off).take n).toArray,λf hx=>?_,?_⟩
    .have k:((vs.drop off).take n).length=n:=Vm
     have:=run_loadCells_list (P:=P) f ⟨b,base+off,none⟩ ((vs.drop off).take n) (λj v g=>by
      rw[Zbn];rw[Ye]at g
      split at g
      .rw[Yh]at g;have:=Zfs hx (l (off+j) v g)
       grind
      .cases g)
     rw[k]at this;simp[loadVar,run_isAgg' f m,run_sizeOf' f p,hagg,this]
    .refine .agg _ _ Vm λi v c g q=>?_
     grind
  |false=>
   simp only[hagg,cond_false]at e
   cases hb:Nat.ble (off+1) cs.length with
   |false=>simp[hb]at e
   |true=>
    simp[hb]at e;have o:=Nat.le_of_ble_eq_true hb
    obtain⟨v,g⟩:∃v,vs[off]?=some v:=⟨vs[off]'Vo,List.getElem?_eq_getElem Vo⟩
    obtain⟨c,hcs⟩:∃c,cs[off]?=some c:=⟨cs[off]'Vo,List.getElem?_eq_getElem Vo⟩
    refine⟨v,λf hx=>?_,?_⟩
    .simp[loadVar,run_isAgg' f m,hagg,Zfs hx (l off v g)]
    grind
theorem ObOK.cells{id:Nat}{cells:List SV}(r:ObOK h ρ w id (.box cells)):∃d:List Value,Ziu w (ρ id).blk 0 d/\d.length=cells.length/\
  ∀(j:Nat) v c,d[j]?=some v->cells[j]?=some c->Rep h ρ v c:=by
 obtain⟨_,⟨cs,t,i,g,b⟩,_⟩:=r;refine⟨cs.toList,λj v e=>?_,by simpa using g,λj v c e f=>(b j v c (by simpa using e) f).1⟩
 grind [World.cell?]
def Zjg(F:FitsAt X h ρ st a w){t:TypeId}{x:SV}{v:Value}{s:SV}(hx:Rep h ρ v x)(d:Zug P t x st.objs=some s):
  ∃u n,v= .pointer (some n)/\(∀l:World,l.heap[n.block]?=w.heap[n.block]?->(Instr.loadAt t v).run P l= .ok u l)/\Rep h ρ u s:=by
 unfold Zug at d
 split at d
 next id off=>
  split at d
  next f p=>
   cases hx with
   |pure _ _ k=>cases k
   |ptr=>
    obtain⟨vs,m,q,o⟩:=(F.obj id _ p).cells;obtain⟨u,y,r⟩:=Zdd (P:=P) m q o d;refine⟨u,_,rfl,λl hx=>?_,r⟩
    simp_all[Yj,Instr.loadAt,Instr.sureAddr]
  .cases d
 next off f=>
  cases hx with
  |pure _ _ k=>
   cases k with
   |ref b base _ _ vs z o=>
    have i:∀j,j<f.length->((List.range f.length).map vs)[j]?=some (vs j):=λj e=>by simp[e]
    obtain⟨u,y,r⟩:=Zdd (P:=P) (w:=w) (h:=h) (ρ:=ρ) (b:=b) (base:=base) (vs:=(List.range f.length).map vs) (λj v g=>by
      have e:j<f.length:=by
       grind
      rw[i j e]at g;cases g
      exact F.sub _ _ _ (z j _ (List.getElem?_eq_getElem e))) Vs (λj v c g m=>by
      have e:j<f.length:=(Y0.1 m).1;rw[i j e]at g;cases g
      exact .pure _ _ (o j c m)) d
    grind [Instr.loadAt,Instr.sureAddr]
 .cases d
def Zql{t:TypeId}{x:SV}{f:Nat}{v:Value}{s:SV}(hx:Rep h ρ v x)(c:addrOf P t x f=some s):
  ∃u,(∀w,(Instr.fieldAt t v f).run P w= .ok u w)/\Rep h ρ u s:=by
 unfold addrOf at c
 split at c
 .cases c
 next j C=>
  split at c
  next m l=>
   have p:∃k:Array Field,P.underlying t=some (.struct k)/\k[f]?=some j:=by
    grind [Zn4]
   obtain⟨k,n,o⟩:=p
   split at c
   next id off=>
    cases c
    cases hx with
    |pure _ _ d=>cases d
    |ptr=>exact⟨.pointer (some ⟨(ρ id).blk,off+j.offset,none⟩),λw=>by simp[Instr.fieldAt,Instr.sureAddr,run_underlying n,o,fieldPlace,run_sizeOf' w l,Zbn],.ptr _ _⟩
   next off q=>
    cases c
    cases hx with
    |pure _ _ d=>
     cases d with
     |ref b g _ _ r y z=>refine⟨.pointer (some ⟨b,g+(off+j.offset),none⟩),λw=>by simp[Instr.fieldAt,Instr.sureAddr,run_underlying n,o,fieldPlace,run_sizeOf' w l,Zbn,YH],?_⟩;exact .pure _ _ (.ref b g _ q r y z)
   next id e i off=>
    cases c
    cases hx with
    |pure _ _ d=>cases d
    |eptr _ _ _ _ A=>exact⟨.pointer (some ⟨(ρ id).blk,(ρ id).off+i.toNat*(ρ id).sz+(off+j.offset),none⟩),λw=>by simp[Instr.fieldAt,Instr.sureAddr,run_underlying n,o,fieldPlace,run_sizeOf' w l,Zbn,YH],.eptr id e i _ A⟩
   .cases c
  .cases c
def Rep.val_inv{v x:Value}(r:Rep h ρ v (.val x)):v=x:=by
 cases r with
 |pure _ _ b=>cases b;rfl
def Rep.ifc_inv(r:Rep h ρ v u)(b:isIfc u=true):(v= .nilIface/\Zhp u=true)\/∃tx c,v= .iface tx c/\Zhp u=false:=by
 cases r with
 |pure _ _ d=>
  cases d with
  |val=>
   cases v<;>first|exact .inl ⟨rfl,rfl⟩|exact .inr ⟨_,_,rfl,rfl⟩|exact Bool.noConfusion b
  |ifc t v u _=>exact .inr ⟨_,_,rfl,rfl⟩
  |_=>exact Bool.noConfusion b
 |_=>exact Bool.noConfusion b
def Rep.slice_inv{rows:LL}{tok:Nat}(r:Rep h ρ v (.slice n rows tok)):∃b c,v= .slice b rows.length c:=by
 cases r with
 |pure _ _ e=>cases e with
  |empty=>exact⟨_,_,rfl⟩
  |slice=>exact⟨_,_,rfl⟩
def Rep.aptr_inv{v:Value}(r:Rep h ρ v (.aptr n i)):v= .pointer (some ⟨(ρ n).blk,i.toNat,none⟩):=by
 cases r with
 |pure _ _ b=>cases b
 |aptr=>rfl
def Rep.asl_inv(r:Rep h ρ v (.asl n i c)):∃b,v= .slice (some ⟨(ρ n).blk,i.toNat,none⟩) (c-i).toNat b:=by
 cases r with
 |pure _ _ d=>cases d
 |asl _ _ _ b=>exact⟨b,rfl⟩
def Rep.arr_inv{v:Value}{c:IntKind}{ns:List Int}(r:Rep h ρ v (.arr c m ns)):∃b:Array Value,v= .agg b/\ns.length=m/\b.toList=ns.map (Value.int c):=by
 cases r with
 |pure _ _ d=>
  cases d with
  |arr b _ _ _ e f=>exact⟨b,rfl,e,f⟩
def Rep.bsl_inv{id off n:Nat}(r:Rep h ρ v (.bsl id off n)):v= .slice (some ⟨(ρ id).blk,off,none⟩) n n:=by
 cases r with
 |pure _ _ b=>cases b
 |bsl=>rfl
def Rep.tup_inv(r:Rep h ρ v (.tup C)):∃b:Array Value,v= .tuple b/\b.size=C.length/\∀(i:Nat) u c,b[i]?=some u->C[i]?=some c->Rep h ρ u c:=by
 cases r with
 |pure _ _ e=>cases e
 |tup b C f g=>exact⟨b,rfl,f,g⟩
def Zdn(b:BinOp)(t:TypeId)(x y:Operand)(k c:IntKind)(m n:Int)(P:Program)(w:World):(eqGuard b t x y (.int k m) (.int c n)).run P w= .ok () w:=by
 unfold eqGuard
 simp_all
def Zsk(b:BinOp)(t:TypeId)(x y:Operand)(k c:FloatKind)(m n:Nat)(P:Program)(w:World):(eqGuard b t x y (.float k m) (.float c n)).run P w= .ok () w:=by
 unfold eqGuard
 simp_all
def Zsl(b:BinOp)(t:TypeId)(x y:Operand)(k c:FloatKind)(m d n e:Nat)(P:Program)(w:World):(eqGuard b t x y (.complex k m d) (.complex c n e)).run P w= .ok () w:=by
 unfold eqGuard
 simp_all
def real_go(c:Array TypeId)(t:TypeId)(k:FloatKind)(a b:Nat):Builtin.real_ c t #[.complex k a b]=pure (.float k a):=rfl
def imag_go(c:Array TypeId)(t:TypeId)(k:FloatKind)(a b:Nat):Builtin.imag_ c t #[.complex k a b]=pure (.float k b):=rfl
def Zyi(c:Array TypeId)(t:TypeId)(k:FloatKind)(a b:Nat):Builtin.complex_ c t #[.float k a,.float k b]=pure (.complex k a b):=by
 show(if k=k then _ else _)=_
 grind
def Zlf(b:BinOp)(t:TypeId)(x y:Operand)(m n:BA)(P:Program)(w:World):(eqGuard b t x y (.string m) (.string n)).run P w= .ok () w:=by
 unfold eqGuard
 simp_all
def Zsm{b:BinOp}{k:IntKind}(t:TypeId)(c:intOp b k i j=some v)(w:World):(binOp b t (.int k i) (.int k j)).run P w= .ok v w:=by
 cases b<;>simp[intOp]at c<;>subst c<;>simp[binOp,Op.intArith,Op.intCmp,Op.intBits,wadd,wsub,wmul,ieq,ine,ilt,ile,igt,ige,wand,wor,wxor]
def Zsn{b:BinOp}(n:TypeId)(c:strOp b s t=some v)(w:World):(binOp b n (.string s) (.string t)).run P w= .ok v w:=by
 cases b<;>simp[strOp]at c<;>subst c<;>simp[binOp,Op.stringOp,seq,sne,slt,sle,sgt,sge]
def Zcp{vs:Array Value}{cs:List SV}{t:TypeId}{off:Nat}{s:SV}(m:vs.size=cs.length)
  (o:∀(j:Nat) v c,vs[j]?=some v->cs[j]?=some c->Rep h ρ v c) (b:partN P t off cs=some s):
  ∃v,(∀w,(part t vs off).run P w= .ok v w)/\Rep h ρ v s:=by
 unfold partN at b
 split at b
 .cases b
 .cases b
 .rename_i d n f k;simp only[Zax,Ze5,Ze6,Zca]at b
  cases hagg:Za2 P t with
  |true=>
   simp only[hagg,cond_true]at b
   cases hb:Nat.ble (off+n) cs.length with
   |false=>simp[hb]at b
   |true=>
    simp[hb]at b;subst b;have g:=Nat.le_of_ble_eq_true hb;refine⟨.agg (vs.extract off (off+n)),λw=>by simp[part,run_isAgg' w f,run_sizeOf' w k,hagg],?_⟩;refine .agg _ _ Vm λi v c e l=>?_
    grind
  |false=>
   simp only[hagg,cond_false]at b
   cases hb:Nat.ble (off+1) cs.length with
   |false=>simp[hb]at b
   |true=>
    simp[hb]at b;have g:=Nat.le_of_ble_eq_true hb
    obtain⟨v,e⟩:∃v,vs[off]?=some v:=⟨vs[off]'Vo,Y1 Vo⟩
    obtain⟨c,hcs⟩:∃c,cs[off]?=some c:=⟨cs[off]'Vo,List.getElem?_eq_getElem Vo⟩
    refine⟨v,λw=>by simp[part,run_isAgg' w f,hagg,e],?_⟩
    grind
def Rep.agg_inv'(r:Rep h ρ v (.agg C)):∃vs:Array Value,v= .agg vs/\vs.size=C.length/\∀(i:Nat) u c,vs[i]?=some u->C[i]?=some c->Rep h ρ u c:=by
 cases r with
 |pure _ _ j=>cases j with
  |agg vs _ d e=>exact⟨vs,rfl,d,λi u c g f=>.pure _ _ (e i u c g f)⟩
 |agg vs _ d e=>exact⟨vs,rfl,d,e⟩
def eqA_sound:∀(n:Nat) (t:TypeId) (x y:SV) (r:Bool),eqA P n t x y=some r->∀(u v:Value),Rep h ρ u x->Rep h ρ v y->∀d w,(Op.equalIn (d+n) t u v).run P w= .ok r w:=by
 intro n
 induction n with
 |zero=>intro t x y r h;cases h
 |succ n ih=>
  intro t x y r g u v D E d w;simp only[eqA]at g;rw[show d+(n+1)=(d+n)+1 from rfl]
  split at g
  next a b o=>
   cases g
   rw[D.val_inv,E.val_inv];simp[Op.equalIn,run_underlying o,beqB]
  .rename_i k0 k a k' b o;by_cases hk:k=k'
   .subst hk;simp at g;subst g;rw[D.val_inv,E.val_inv];simp[Op.equalIn,run_underlying o,ieq]
   grind
  next a b o=>
   cases g
   rw[D.val_inv,E.val_inv,run_equalIn_string w (d+n) t a b o];rfl
  next fs xs ys o=>
   cases hst:P.stoodInHeld t with
   |true=>simp[hst]at g
   |false=>
    simp only[hst,cond_false]at g;obtain⟨R,rfl,F,G⟩:=D.agg_inv';obtain⟨T,rfl,H,J⟩:=E.agg_inv';have L:P.fieldsOf t=fs:=(by simp[Program.fieldsOf,o]);rw[run_equalIn_struct w (d+n) t R T (by rw[L];exact o) hst,L];clear L o;generalize fs.toList=l at g|-
    induction l generalizing r with
    |nil=>simp at g;subst g;simp[Op.eqFields]
    |cons f l M=>
     simp only[W0]at g
     cases hn:(f.name== "_")with
     |true=>simp[hn]at g
     |false=>
      simp only[hn,cond_false]at g
      split at g
      .rename_i p q z O Q s;rw[Yp]at g;obtain⟨e,K,rfl⟩:=g;obtain⟨U,A,V⟩:=Zcp (P:=P) F G O;obtain⟨W,C,Y⟩:=Zcp (P:=P) H J Q;have Z:=ih f.type p q e K U W V Y d w;have A:=A w;have C:=C w
       have a0:f.name≠ "_" :=Vg
       simp only[Op.eqFields,ne_eq,a0,not_false_eq_true,if_true,Sem.run_bind,A,C,Z,Result.andThen_ok]
       cases e with
       |false=>simp[band]
       |true=>simpa[band]using M z s
      .cases g
  next m e xs ys o=>
   split at g
   .cases g
   .rename_i c hc;obtain⟨i,hi,a1⟩:=Zoj hc;obtain⟨R,rfl,F,G⟩:=D.agg_inv';obtain⟨T,rfl,H,J⟩:=E.agg_inv';have N:P.cellsOf e=c:=(by grind [Program.cellsOf]);rw[run_equalIn_array w (d+n) R T o hi,N];clear o;generalize List.range m=l at g|-
    induction l generalizing r with
    |nil=>simp at g;subst g;simp[Op.eqItems]
    |cons j l M=>
     simp only[W0]at g
     split at g
     .rename_i p q z O Q s;rw[Yp]at g;obtain⟨e',K,rfl⟩:=g;obtain⟨U,A,V⟩:=Zcp (P:=P) F G O;obtain⟨W,C,Y⟩:=Zcp (P:=P) H J Q;have Z:=ih e p q e' K U W V Y d w;have A:=A w;have C:=C w;simp only[Op.eqItems,Sem.run_bind,A,C,Z,Result.andThen_ok]
      cases e' with
      |false=>simp[band]
      |true=>simpa[band]using M z s
     .cases g
  .cases g
def Zmz{f:BinOp}{x y s:SV}(n o:Operand){u v:Value}(k:(∃a b,x= .agg a/\y= .agg b)\/(∃a b,x= .val (.bool a)/\y= .val (.bool b)))(g:Rep h ρ u x)(i:Rep h ρ v y)(c:eqOp P f T x y=some s):
  ∃r,(∀w,(do eqGuard f T n o u v;binOp f T u v:Sem Value).run P w= .ok r w)/\Rep h ρ r s:=by
 have e:P.eqGuardType P.depth T=false->∀w,(eqGuard f T n o u v).run P w= .ok () w:=by
  intro d w
  rcases k with⟨a,b,rfl,rfl⟩|⟨a,b,rfl,rfl⟩
  .obtain⟨p,rfl,_⟩:=g.agg_inv';obtain⟨q,rfl,_⟩:=i.agg_inv';exact run_eqGuard_agg w f T n o p q d
  .rw[g.val_inv,i.val_inv];unfold eqGuard;cases f<;>rfl
 have l:∀w r,eqA P 6 T x y=some r->(binOp .eql T u v).run P w= .ok (.bool r) w/\(binOp .neq T u v).run P w= .ok (.bool !r) w:=by
  intro w r j;have z:=eqA_sound 6 T x y r j u v g i 9994 w;have m:(Op.equal T u v).run P w= .ok r w:=z
  rcases k with⟨a,b,rfl,rfl⟩|⟨a,b,rfl,rfl⟩
  .obtain⟨p,rfl,_⟩:=g.agg_inv';obtain⟨q,rfl,_⟩:=i.agg_inv';constructor<;>simp[binOp,m]
  .have e1:=g.val_inv;have e2:=i.val_inv;subst e1;subst e2;constructor<;>simp[binOp,m]
 unfold eqOp at c
 split at c
 .cases d:P.eqGuardType P.depth T with
  |true=>simp[d]at c
  |false=>simp only[d,cond_false]at c;rw[Yp]at c;obtain⟨r,j,rfl⟩:=c;exact⟨.bool r,λw=>by simp[e d,(l w r j).1],.pure _ _ (.val _)⟩
 .cases d:P.eqGuardType P.depth T with
  |true=>simp[d]at c
  |false=>simp only[d,cond_false]at c;rw[Yp]at c;obtain⟨r,j,rfl⟩:=c;exact⟨.bool (bnot r),λw=>by simp[e d,(l w r j).2,bnot],.pure _ _ (.val _)⟩
 .cases c
def Zg2(b:Zbc u=true)(r:Rep h ρ v u):v.oneCell'=true:=by
 cases r with
 |pure _ _ d=>
  cases d with
  |val v=>cases v<;>first|rfl|(simp[Zbc]at b)
  |agg=>simp[Zbc]at b
  |empty=>rfl
  |slice=>rfl
  |ref=>rfl
  |clo=>rfl
  |ifc=>rfl
  |arr=>simp[Zbc]at b
  |fnv=>rfl
  |unk=>simp[Zbc]at b
 |agg=>simp[Zbc]at b
 |tup=>simp[Zbc]at b
 |ptr=>rfl
 |bsl=>rfl
 |osl0=>rfl
 |osl=>rfl
 |eptr=>rfl
 |osv=>rfl
 |omp=>rfl
 |aptr=>simp[Zbc]at b
 |asl=>simp[Zbc]at b
def Zj2:∀{b:List SV},boxL b=true->∀(i:Nat) c,b[i]?=some c->Zbc c=true
 | [],_,i,c,h=>by simp at h
 |x::xs,hb,0,c,h=>by simp[boxL]at hb;simp at h;subst h;exact hb.1
 |x::xs,hb,i+1,c,h=>by simp[boxL]at hb;exact Zj2 hb.2 i c (by simpa using h)
def Zem{v:Value}{s:SV}(r:Rep h ρ v s)(k:boxL (cellsOf s)=true):v.cells.size=(cellsOf s).length/\
  ∀(i:Nat) u c,v.cells[i]?=some u->(cellsOf s)[i]?=some c->Rep h ρ u c/\u.oneCell'=true:=by
 by_cases hs:∃g,s= .agg g
 .obtain⟨g,rfl⟩:=hs
  have l:∃b:Array Value,v= .agg b/\b.size=g.length/\∀(i:Nat) u c,b[i]?=some u->g[i]?=some c->Rep h ρ u c:=by
   cases r with
   |pure _ _ p=>cases p with
    |agg b _ e f=>exact⟨b,rfl,e,λi u c j d=>.pure _ _ (f i u c j d)⟩
   |agg b _ e f=>exact⟨b,rfl,e,f⟩
  obtain⟨b,rfl,e,f⟩:=l;refine⟨e,λi u c j d=>?_⟩;have:=f i u c j d;exact⟨this,Zg2 (Zj2 k i c d) this⟩
 .have m:cellsOf s=[s]:=by cases s<;>first|rfl|exact absurd ⟨_,rfl⟩ hs
  rw[m]at k|-;have n:Zbc s=true:=(by grind [boxL]);have o:=Zg2 n r
  have q:v.cells= #[v]:=by cases v<;>first|rfl|(simp[Value.oneCell']at o)
  grind
def Zol(h:Zdi v=true):v.oneCell'=true:=by
 cases v<;>first|rfl|(simp[Zdi]at h)
def Zjh(t:TypeId)(v:Value)(b:Zdi v=true):Rep h ρ v (Zdz P t v)/\Zbc (Zdz P t v)=true:=by
 unfold Zdz
 split
 .split
  .exact⟨.pure _ _ (.empty none 0 _ 1 Vo Vo Vs),rfl⟩
  .exact⟨.pure _ _ (.empty none 0 _ 1 Vo Vo Vs),rfl⟩
 .refine⟨.pure _ _ (.val _),?_⟩;have:=Zol b;unfold Zbc
  grind [Value.oneCell']
def Zhy:∀(e:List TypeId) (d:List Value) (b:List SV),zeroCells P e d=some b->
  d.length=b.length/\boxL b=true/\∀(i:Nat) v c,d[i]?=some v->b[i]?=some c->Rep h ρ v c
 | [],[],b,hz=>by simp[zeroCells]at hz;subst hz;simp[boxL]
 | [],_::_,b,hz=>by simp[zeroCells]at hz
 |_::_,[],b,hz=>by simp[zeroCells]at hz
 |t::e,v::d,b,hz=>by
  simp only[zeroCells]at hz
  cases hp:Zdi v with
  |false=>simp[hp]at hz
  |true=>
   simp[hp]at hz;obtain⟨f,g,rfl⟩:=hz;obtain⟨j,k,l⟩:=Zhy e d f g;have z:=Zjh (h:=h) (ρ:=ρ) (P:=P) t v hp
   grind [boxL,z.2]
def Zcd{t:TypeId}{z:SV}(b:Zjb P t=some z):∃v,(∀w,(zeroValue t).run P w= .ok v w)/\Rep h ρ v z/\boxL (cellsOf z)=true:=by
 unfold Zjb at b
 cases hi:P.info? t with
 |none=>simp[hi]at b
 |some i=>
  simp only[hi,Option.bind_some]at b
  split at b
  next e d=>simp at b;obtain⟨l,j,rfl⟩:=b;obtain⟨k,m,n⟩:=Zhy (h:=h) (ρ:=ρ) _ _ _ j;refine⟨.agg e,λw=>by simp[zeroValue,run_typeInfo' w hi,d],.agg e l (by simpa using k) (λi v c f g=>n i v c (by simpa using f) g),m⟩
  next v o d=>
   cases hp:Zdi v with
   |false=>simp[hp]at b
   |true=>
    simp[hp]at b;subst b;have z:=Zjh (h:=h) (ρ:=ρ) (P:=P) t v hp;refine⟨v,λw=>by simp[zeroValue,run_typeInfo' w hi,d],z.1,?_⟩
    have:cellsOf (Zdz P t v)=[Zdz P t v]:=by
     unfold Zdz;split
     .split<;>rfl
     .rfl
    grind [boxL,z.2]
  .cases b
def Zce:∀(n:Nat) (b l r:List SV),Zbb n b l=some r->n+b.length<=l.length/\r=l.take n++b++l.drop (n+b.length)
 |0,[],l,r,h=>by simp[Zbb]at h;subst h;simp
 |0,v::b,[],r,h=>by simp[Zbb]at h
 |0,v::b,x::xs,r,h=>by
  simp[Zbb]at h;obtain⟨d,c,rfl⟩:=h;obtain⟨e,f⟩:=Zce 0 b xs d c
  grind
 |n+1,b,[],r,h=>by simp[Zbb]at h
 |n+1,b,x::xs,r,h=>by
  simp[Zbb]at h;obtain⟨d,c,rfl⟩:=h;obtain⟨e,f⟩:=Zce n b xs d c
  grind
def Zlg(g:Nat->Option (Nat×Nat)):∀(parts:List (Nat×SV)) (e:List (Nat×Value)) (cells b:List SV) (m:Array Value),fillN g cells parts=some b->
  e.length=parts.length->(∀(i:Nat) p q,parts[i]?=some p->e[i]?=some q->q.1=p.1/\Rep h ρ q.2 p.2)->m.size=cells.length->
  (∀(i:Nat) v c,m[i]?=some v->cells[i]?=some c->Rep h ρ v c)->
  ∃r,Instr.fill g m e=some r/\r.size=b.length/\∀(i:Nat) v c,r[i]?=some v->b[i]?=some c->Rep h ρ v c
 | [],[],cells,b,m,hf,_,_,hl,hr=>by simp[fillN]at hf;subst hf;exact⟨m,rfl,hl,hr⟩
 | [],_::_,_,_,_,_,hlen,_,_,_=>by simp at hlen
 |_::_,[],_,_,_,_,hlen,_,_,_=>by simp at hlen
 |(i,s)::parts,(i',v)::e,cells,b,m,hf,hlen,hp,hl,hr=>by
  obtain⟨e1,J⟩:=hp 0 (i,s) (i',v) rfl rfl;simp only at e1 J;subst e1;simp only[fillN]at hf
  split at hf
  .cases hf
  next off n G=>
   cases hb:(boxL (cellsOf s)&&Nat.beq (lenN (cellsOf s)) n)with
   |false=>simp[hb]at hf
   |true=>
    simp only[hb,cond_true]at hf;simp only[Bool.and_eq_true]at hb
    split at hf
    .cases hf
    .rename_i t H;obtain⟨Q,K⟩:=Zem J hb.1;have T:(cellsOf s).length=n:=by rw[<-Zax];exact Nat.eq_of_beq_eq_true hb.2
     obtain⟨R,rfl⟩:=Zce _ _ _ _ H
     have y:∀(l:List Value) (k:Nat) (d:Array Value) (j:Nat),((l.zipIdx k).foldl (λt (c:Value×Nat)=>t.setIfInBounds (off+c.2) c.1) d)[j]?=
       if off+k<=j/\j<off+k+l.length/\j<d.size then l[j-(off+k)]? else d[j]?:=by
      intro l
      induction l with
      |nil=>intro k d j;simp;omega
      |cons x C D=>
       intro k d j;simp only[List.zipIdx_cons,List.foldl_cons];rw[D];simp only[WM,List.length_cons];by_cases hj:j=off+k
       .subst hj;have:¬(off+(k+1)<=off+k/\off+k<off+(k+1)+C.length/\off+k<d.size):=Vo;rw[if_neg this];by_cases hs:off+k<d.size
        .rw[if_pos Vo];simp[hs]
        .rw[if_neg Vo];simp[hs]
       .rw[Yi Vo];by_cases f:off+(k+1)<=j/\j<off+(k+1)+C.length/\j<d.size
        .rw[if_pos f,if_pos Vo];have:j-(off+k)=(j-(off+(k+1)))+1:=Vo;rw[this];simp
        .rw[if_neg f,if_neg Vo]
     have z:∀(l:List (Value×Nat)) (d:Array Value),(l.foldl (λt (c:Value×Nat)=>t.setIfInBounds (off+c.2) c.1) d).size=d.size:=by
      intro l;induction l with
      |nil=>intro d;rfl
      |cons x C D=>intro d;simp[D]
     obtain⟨r,L,M,N⟩:=Zlg g parts e _ b (v.cells.zipIdx.foldl (λt (c:Value×Nat)=>t.setIfInBounds (off+c.2) c.1) m) hf (by simpa using hlen)
      (λj p q E F=>hp (j+1) p q (by simpa using E) (by simpa using F)) (by
       rw[<-YO,z];simp;omega) (λj u c o f=>by
       rw[<-YO,Ww,y]at o;simp only[Nat.add_zero,Array.length_toList]at o;rw[List.append_assoc,List.getElem?_append]at f;have O:(List.take off cells).length=off:=Vm
       rw[O]at f;by_cases c1:j<off
       .rw[if_pos c1,Ye,if_pos c1]at f;rw[if_neg Vo]at o;exact hr j u c o f
       .rw[if_neg c1,List.getElem?_append]at f;by_cases c2:j-off<(cellsOf s).length
        .rw[if_pos c2]at f;rw[if_pos Vo]at o;exact(K _ u c (by simpa using o) f).1
        .rw[if_neg c2,Yh]at f;rw[if_neg Vo]at o
         exact hr _ u c o (by rw[<-f];congr 1;omega))
     refine⟨r,?_,M,N⟩;unfold Instr.fill;rw[G];have A:¬((v.cells.size≠n||off+v.cells.size>m.size)=true):=Vm
     simp only[];rw[if_neg A];exact L
def Zm0{P:Program}(w:World):∀(l:List Field),(∀f∈l,(szT P f.type).isSome=true)->(l.mapM λf=>do pure (f.offset,<-sizeOf f.type):Sem (List (Nat×Nat))).run P w= .ok (l.map λf=>(f.offset,(szT P f.type).getD 0)) w
 | [],_=>Vs
 |f::l,h=>by
  obtain⟨n,c⟩:=W7.1 (h f Vs);have d:=Zm0 w l (λg b=>h g (by simp[b]))
  simp_all[W9,Sem.run_bind,Result.andThen_ok,Sem.run_pure,List.map_cons,Yl,run_sizeOf']
def Zom{t:TypeId}{parts:List (Nat×SV)}{vparts:Array (Nat×Value)}{s:SV}(b:Zrv P t parts=some s)(D:vparts.size=parts.length)
  (E:∀(i:Nat) p q,parts[i]?=some p->vparts[i]?=some q->q.1=p.1/\Rep h ρ q.2 p.2):
  ∃v,(∀w,(Instr.build t vparts).run P w= .ok v w)/\Rep h ρ v s:=by
 unfold Zrv at b
 cases hagg:Zru P t with
 |false=>simp[hagg]at b
 |true=>
  simp only[hagg,cond_true]at b
  split at b
  .rename_i F G;simp at b;obtain⟨o,r,rfl⟩:=b;obtain⟨z,u,H,N⟩:=Zcd (h:=h) (ρ:=ρ) G;obtain⟨J,rfl,x,y⟩:=H.agg_inv';obtain⟨j,A,K,L⟩:=Zlg (Ziq P t) parts vparts.toList F o J r (by simpa using D) (λi p q l m=>E i p q l (by simpa using m)) x y;refine⟨.agg j,λw=>?_,.agg j o K L⟩;unfold Instr.build;simp only[Sem.run_bind,u,Result.andThen_ok,Value.cells];unfold Zru at hagg
   cases hu:P.underlying t with
   |none=>simp[hu]at hagg
   |some d=>
    rw[run_underlying hu];simp only[Result.andThen_ok];rw[hu]at hagg
    cases d with
    |struct k=>
     simp only[List.all_eq_true]at hagg;simp only[Sem.run_bind,Array.mapM_eq_mapM_toList,Sem.run_map];rw[Zm0 w k.toList hagg];simp only[Result.andThen_ok]
     have g:(λi=>((k.toList.map λf=>(f.offset,(szT P f.type).getD 0)).toArray)[i]?)=Ziq P t:=by
      funext i
      simp only[Ziq,hu,Yy,Yv,Yr]
      cases hf:k[i]? with
      |none=>rfl
      |some f=>obtain⟨n,M⟩:=W7.1 (hagg f (by have:=Array.mem_of_getElem? hf;simpa using this));simp[M]
     rw[g,A];rfl
    |array n e=>
     obtain⟨c,C⟩:=W7.1 hagg;simp only[Sem.run_bind];rw[run_sizeOf' w C];simp only[Result.andThen_ok]
     have g:(λi=>some (i*c,c))=Ziq P t:=by
      grind [Ziq]
     rw[g,A];rfl
    |_=>simp at hagg
  .cases b
theorem Ze8(t:TypeId)(r:PRep h v u):PRep h v (fixSz P t u):=by
 unfold fixSz
 split
 next e b rows c d=>
  cases hb:Nat.beq b 0 with
  |false=>exact r
  |true=>have:b=0:=Nat.eq_of_beq_eq_true hb;subst this;exact r.fix (.inr rfl)
 .exact r
def Rep.fixSz{v:Value}{s:SV}(t:TypeId)(r:Rep h ρ v s):Rep h ρ v (fixSz P t s):=by
 cases r with
 |pure _ _ j=>exact .pure _ _ (Ze8 t j)
 |agg k b m f=>
   have:Px.fixSz P t (.agg b)= .agg b:=by(unfold Px.fixSz;split<;>simp_all)
   rw[this];exact .agg k b m f
 |tup k b m f=>
   have:Px.fixSz P t (.tup b)= .tup b:=by(unfold Px.fixSz;split<;>simp_all)
   rw[this];exact .tup k b m f
 |ptr id off=>
   have:Px.fixSz P t (.ptr id off)= .ptr id off:=by(unfold Px.fixSz;split<;>simp_all)
   rw[this];exact .ptr id off
 |bsl id off n=>
   have:Px.fixSz P t (.bsl id off n)= .bsl id off n:=by(unfold Px.fixSz;split<;>simp_all)
   rw[this];exact .bsl id off n
 |osl0 id p g=>
   have:Px.fixSz P t (.osl id)= .osl id:=by(unfold Px.fixSz;split<;>simp_all)
   rw[this];exact .osl0 id p g
 |osl id g=>
   have:Px.fixSz P t (.osl id)= .osl id:=by(unfold Px.fixSz;split<;>simp_all)
   rw[this];exact .osl id g
 |eptr id e i off g=>
   have:Px.fixSz P t (.eptr id e i off)= .eptr id e i off:=by(unfold Px.fixSz;split<;>simp_all)
   rw[this];exact .eptr id e i off g
 |osv id l d c p q u x f j=>
   have:Px.fixSz P t (.osv id l d c)= .osv id l d c:=by(unfold Px.fixSz;split<;>simp_all)
   rw[this];exact .osv id l d c p q u x f j
 |omp id=>
   have:Px.fixSz P t (.omp id)= .omp id:=by(unfold Px.fixSz;split<;>simp_all)
   rw[this];exact .omp id
 |aptr id i=>
   have:Px.fixSz P t (.aptr id i)= .aptr id i:=by(unfold Px.fixSz;split<;>simp_all)
   rw[this];exact .aptr id i
 |asl id l d o=>
   have:Px.fixSz P t (.asl id l d)= .asl id l d:=by(unfold Px.fixSz;split<;>simp_all)
   rw[this];exact .asl id l d o
def Rep.fixNil{v:Value}{s:SV}(t:TypeId)(x:Operand)(r:Rep h ρ v s):Rep h ρ v (fixNil P t x s):=by
 unfold Px.fixNil
 split
 .exact r.fixSz t
 .exact r
theorem ba_beq(a b:BA):(a==b)=decide (a=b):=by
 show ByteArray.beq a b=_;unfold ByteArray.beq
 cases a with|mk x=>cases b with|mk y=>
 grind
def Zg3(s:BA):∀(l:List MapEntry) (b:List (BA×Int)) (i:Nat),l.map (λe=>(e.key,e.val))=b.map (λe=>((.string e.1:Value),(.int .i64 e.2:Value)))->
  (mhas b s=true/\∃j,i<=j/\Instr.findNow .string (.string s) l i=some (some (j,.int .i64 (mget b s)))/\(l[j-i]?).map (·.key)=some (.string s)/\
   ∀n,(l.modify (j-i) λe=>{e with key:=.string s,val:=.int .i64 n}).map (λe=>(e.key,e.val))=(mset b s n).map (λe=>((.string e.1:Value),(.int .i64 e.2:Value))))\/
  (mhas b s=false/\mget b s=0/\Instr.findNow .string (.string s) l i=some none/\∀n,mset b s n=b++[(s,n)])
 | [],[],i,_=>.inr ⟨rfl,rfl,rfl,λn=>rfl⟩
 | [],_::_,i,h=>by simp at h
 |_::_,[],i,h=>by simp at h
 |e::l,x::b,i,h=>by
  simp only[List.map_cons,List.cons.injEq,Prod.mk.injEq]at h;obtain⟨⟨p,q⟩,d⟩:=h;by_cases hs:x.1=s
  .grind [mhas,Instr.findNow,Instr.sameNow,mget,ba_beq,mset,msetR]
  .have o:(s==x.1)=false:=by
    grind [ba_beq]
   rcases Zg3 s l b (i+1) d with⟨c,j,m,f,g,k⟩|⟨c,f,g,k⟩
   .refine .inl ⟨by simp[mhas,hs]at c|-;exact c,j,Vo,?_,?_,λn=>?_⟩
    .grind [Instr.findNow,Instr.sameNow,mget]
    .grind
    .rw[show j-i=(j-(i+1))+1 by omega]
     simp_all[mset,msetR]
   grind [mhas,mget,Instr.findNow,Instr.sameNow,mset,msetR]
def Zci(d:P.underlying T=some .string)(b:Bool)(n:Nat)(s:BA)(w:World):(Instr.checkKey b (n+1) T (.string s)).run P w= .ok () w:=by
 simp[Instr.checkKey,run_underlying d]
def Rep.omp_inv(r:Rep h ρ v (.omp n)):v= .map (some (ρ n).blk):=by
 cases r with
 |pure _ _ b=>cases b
 |omp=>rfl
def Rep.osl_inv{v:Value}{id:Nat}(r:Rep h ρ v (.osl id)):((ρ id).none=true/\∃p,v= .slice p 0 0)\/((ρ id).none=false/\v= .slice (some ⟨(ρ id).blk,(ρ id).off,Option.none⟩) (ρ id).len (ρ id).cap):=by
 cases r with
 |pure _ _ c=>cases c
 |osl0 id p b=>exact .inl ⟨b,p,rfl⟩
 |osl id b=>exact .inr ⟨b,rfl⟩
def Rep.eptr_inv{off:Nat}(r:Rep h ρ v (.eptr n T i off)):(ρ n).none=false/\v= .pointer (some ⟨(ρ n).blk,(ρ n).off+i.toNat*(ρ n).sz+off,Option.none⟩):=by
 cases r with
 |pure _ _ b=>cases b
 |eptr _ _ _ _ c=>exact⟨c,rfl⟩
def osl_len{rows:LL}(r:Rep h ρ v (.osl n))(b:ObOK h ρ w n (.own m rows)):∃p c,v= .slice p rows.length c:=by
 rcases r.osl_inv with⟨f,p,rfl⟩|⟨f,rfl⟩
 .rcases b with⟨_,rfl⟩|⟨d,_⟩
  .grind
  grind
 .rcases b with⟨d,_⟩|⟨_,o⟩
  .grind
  grind [o.hlen]
def Zqm{name:String}{f:FuncId}(h:Zkt P T name=some f)(v:Value)(n:Nat)(w:World):(nilAhead (n+Made.depth) T v name).run P w= .ok (some false) w:=by
 unfold Zkt at h
 split at h
 .cases h
 next d i c e g=>
  split at h
  next m j=>
   cases b:m.path.isEmpty with
   |false=>simp only[b,cond_false]at h;cases h
   |true=>
    simp only[b,cond_true]at h;have b:m.path= #[]:=Array.isEmpty_iff.1 b
    split at h
    next o l=>
     cases h
     obtain⟨k,hk⟩:∃k,n+Made.depth=k+1:=by have:0<Made.depth:=Vd;exact⟨n+Made.depth-1,Vo⟩
     rw[hk]
     cases d<;>first|(simp[nilAhead,run_typeInfo' w g,j,b,followBlind,l,run_underlying e];done)|exact absurd rfl (c _)
    .cases h
  .cases h
 .cases h
def Zg4(F:FitsAt X h ρ st a w)(o:Oper)(gv:List (Nat×Bool)->Operand->SV)
  (U:∀ex x,(∀g∈ex,a.tmps.getD g.1 undef= .bool g.2)->Rep h ρ (a.eval x) (gv ex x)) {s:SV} (A:quiet P o.type gv st.objs o.op=some s):
  ∃v,(∀L,SameB (fblk P a o) w L->(execOp a.eval o).run P L= .ok (.value v) L)/\Rep h ρ v s:=by
 have C:∀x,Rep h ρ (a.eval x) (gv [] x):=λx=>U [] x Vs;unfold quiet at A
 split at A
 next x l=>
  cases A
  exact⟨a.eval x,λw _=>by simp[execOp,l],(C x).fixNil _ _⟩
 next x l=>
  cases A
  exact⟨a.eval x,λw _=>by simp[execOp,l],(C x).fixNil _ _⟩
 next c x y l=>
  split at A
  .rename_i t p J;have H:=C (.tmp t);rw[J]at H;have a2:a.tmps.getD t undef= .bool p:=H.val_inv;unfold pickV at A
   split at A
   next m n K Q=>
    cases A
    refine⟨.bool (bpick p m n),λw _=>?_,.pure _ _ (.val _)⟩;simp only[execOp,l,H.val_inv]
    cases p with
    |true=>have d:=U [(t,true)] x (by simpa using a2);rw[K]at d;simp[d.val_inv,asBool,bpick]
    |false=>have E:=U [(t,false)] y (by simpa using a2);rw[Q]at E;simp[E.val_inv,asBool,bpick]
   .cases p with
    |true=>
     cases A
     exact⟨a.eval x,λw _=>by simp[execOp,l,H.val_inv,asBool],U [(t,true)] x (by simpa using a2)⟩
    |false=>
     cases A
     exact⟨a.eval y,λw _=>by simp[execOp,l,H.val_inv,asBool],U [(t,false)] y (by simpa using a2)⟩
  .cases A
 next t x f l=>obtain⟨u,G,r⟩:=Zql (P:=P) (C x) A;exact⟨u,λw _=>by simp[execOp,l,G],r⟩
 next t x l=>obtain⟨u,ad,D,G,r⟩:=Zjg F (C x) A;exact⟨u,λL hx=>by simp[execOp,l,G L (hx ad.block (by simp[fblk,Zbr,l,D]))],r⟩
 next op t x y t' l=>
  split at A
  .rename_i k m W n K Q;have d:=C x;rw[K]at d;have E:=C y;rw[Q]at E;by_cases T:k=W
   .subst T;simp at A;obtain⟨r,N,rfl⟩:=A;exact⟨r,λw _=>by simp[execOp,l,d.val_inv,E.val_inv,Zdn,Zsm t N],.pure _ _ (.val _)⟩
   grind
  next m n K Q=>have d:=C x;rw[K]at d;have E:=C y;rw[Q]at E;simp at A;obtain⟨r,N,rfl⟩:=A;exact⟨r,λw _=>by simp[execOp,l,d.val_inv,E.val_inv,Zlf,Zsn t N],.pure _ _ (.val _)⟩
  next m n K Q=>have d:=C x;rw[K]at d;have E:=C y;rw[Q]at E;obtain⟨r,N,rr⟩:=Zmz x y (.inr ⟨m,n,rfl,rfl⟩) d E A;exact⟨r,λw _=>by have N:=N w;simp only[execOp,l];simp only[Sem.run_bind]at N|-;rw[N];rfl,rr⟩
  next m n K Q=>have d:=C x;rw[K]at d;have E:=C y;rw[Q]at E;obtain⟨r,N,rr⟩:=Zmz x y (.inl ⟨m,n,rfl,rfl⟩) d E A;exact⟨r,λw _=>by have N:=N w;simp only[execOp,l];simp only[Sem.run_bind]at N|-;rw[N];rfl,rr⟩
  .cases A
 next t parts l=>
  obtain⟨v,D,r⟩:=Zom (P:=P) (h:=h) (ρ:=ρ) (vparts:=parts.map λ(i,x)=>(i,a.eval x)) A Vs (λi p q J a3=>by
   simp at J a3;obtain⟨m,n,e1,rfl⟩:=J;obtain⟨m',n',e2,rfl⟩:=a3;rw[e1]at e2
   cases e2
   exact⟨rfl,C n⟩)
  exact⟨v,λw _=>by simp only[execOp,l,Sem.run_bind,D w,Result.andThen_ok];rfl,r⟩
 next t x f l=>
  split at A
  .rename_i cs fd hx aa;have d:=C x;rw[hx]at d;obtain⟨vs,D,hl,H⟩:=d.agg_inv';obtain⟨u,G,r⟩:=Zcp (P:=P) hl H A
   have a7:∃fs:Array Field,P.underlying t=some (.struct fs)/\fs[f]?=some fd:=by
    grind [Zn4]
   obtain⟨fs,a0,hf⟩:=a7;exact⟨u,λw _=>by simp[execOp,l,D,Instr.field,run_underlying a0,hf,asAgg,G],r⟩
  .cases A
 .rename_i x l;have d:=C x
  split at A
  next id off hx=>
   cases A
   rw[hx]at d;refine⟨a.eval x,λw _=>?_,d⟩
   cases h1':a.eval x with
   |pointer p=>
    cases p with
    |none=>rw[h1']at d;cases d with
     |pure _ _ J=>cases J
    |some ad=>simp[execOp,l,h1']
   |_=>rw[h1']at d;cases d with
       |pure _ _ J=>cases J
  next off cs hx=>
   cases A
   rw[hx]at d;refine⟨a.eval x,λw _=>?_,d⟩
   cases h1':a.eval x with
   |pointer p=>
    cases p with
    |none=>rw[h1']at d;cases d with
     |pure _ _ J=>cases J
    |some ad=>simp[execOp,l,h1']
   |_=>rw[h1']at d;cases d with
       |pure _ _ J=>cases J
  next f cs hx=>
   cases A
   rw[hx]at d;refine⟨a.eval x,λw _=>?_,d⟩
   cases h1':a.eval x with
   |func fn fi ca=>
    rw[h1']at d;cases d with
     |pure _ _ J=>cases J with
      |clo=>simp[execOp,l,h1']
   |_=>rw[h1']at d;cases d with
       |pure _ _ J=>cases J
  next id e i off hx=>
   cases A
   rw[hx]at d;exact⟨a.eval x,λw _=>by simp[execOp,l,d.eptr_inv.2],d⟩
  next t nm hx=>
   cases K:Zkt P t nm with
   |none=>simp[K]at A
   |some f=>
    simp only[K,Option.isSome_some,cond_true,YC]at A;subst A;rw[hx]at d
    obtain⟨v,b,D⟩:∃v b,a.eval x= .func (.method nm) #[.iface t v] b:=by
     generalize a.eval x=u at d
     cases d with
     |pure _ _ J=>cases J with
      |fnv _ _ v b=>exact⟨v,b,rfl⟩
    have a8:∀w,(nilAhead (P.types.size+Made.depth) t v nm).run P w= .ok (some false) w:=λw=>Zqm K v _ w;exact⟨a.eval x,λw _=>by simp[execOp,l,D,a8],d⟩
  .cases A
 next t x k ok l=>
  split at A
  next kt et id Y a0 hx T=>
   split at A
   next es a1 ab V=>
    split at A
    next hz=>
     cases A
     have d:=C x;rw[hx]at d;have E:=C k;rw[T]at E;obtain⟨Q,⟨R,cl,Z,K⟩,hno⟩:=F.obj id _ V;have D:=d.omp_inv;obtain⟨z,a5,rz,_⟩:=Zcd (h:=h) (ρ:=ρ) hz;have a9:=rz.val_inv;subst a9;have a4:∀L:World,SameB (fblk P a o) w L->L.heap[(ρ id).blk]?=some (.map R cl):=λL O=>by rw[O _ (by simp[fblk,Zbr,l,D])];exact Z
     rcases Zg3 Y R.toList es 0 K with⟨g1,j,_,g2,_⟩|⟨g1,g2,g3,_⟩
     .refine⟨if ok then .tuple #[.int .i64 (mget es Y),.bool true]else .int .i64 (mget es Y),λL O=>?_,?_⟩
      .have M:=a4 L O;simp[execOp,l,D,E.val_inv,Instr.lookup,run_underlying a0,getObj,Sem.run,M,Zci a1,Instr.findKey,run_underlying a1,g2]
      .cases ok with
       |true=>rw[g1];exact .tup _ _ rfl (λi v c D H=>by
         match i with
         |0=>simp at D H;subst D;subst H;exact .pure _ _ (.val _)
         |1=>simp at D H;subst D;subst H;exact .pure _ _ (.val _)
         |i+2=>simp at D)
       |false=>exact .pure _ _ (.val _)
     .refine⟨if ok then .tuple #[.int .i64 0,.bool false]else .int .i64 0,λL O=>?_,?_⟩
      .have M:=a4 L O;simp[execOp,l,D,E.val_inv,Instr.lookup,run_underlying a0,getObj,Sem.run,M,Zci a1,Instr.findKey,run_underlying a1,g3,a5 L]
      .cases ok with
       |true=>rw[g1,g2];exact .tup _ _ rfl (λi v c D H=>by
         match i with
         |0=>simp at D H;subst D;subst H;exact .pure _ _ (.val _)
         |1=>simp at D H;subst D;subst H;exact .pure _ _ (.val _)
         |i+2=>simp at D)
       |false=>rw[g2];exact .pure _ _ (.val _)
    .cases A
   .cases A
  .cases A
 next op t x l=>
  split at A
  next b M=>
   cases A
   have d:=C x;rw[M]at d;exact⟨.bool (bnot b),λw _=>by simp[execOp,l,d.val_inv,Op.unary,bnot],.pure _ _ (.val _)⟩
  next k n M=>
   cases A
   have d:=C x;rw[M]at d;exact⟨.int k (wneg k n),λw _=>by simp[execOp,l,d.val_inv,Op.unary,Op.intArith,wneg],.pure _ _ (.val _)⟩
  next k n M=>
   cases A
   have d:=C x;rw[M]at d;exact⟨.int k (wnot k n),λw _=>by simp[execOp,l,d.val_inv,Op.unary,Op.intBits,wnot,wxor],.pure _ _ (.val _)⟩
  .cases A
 next ac ae x l=>
  split at A
  next k0 k k1 n O hd hx=>
   cases A
   have d:=C x;rw[hx]at d;exact⟨.int k (wcv k n),λw _=>by simp[execOp,l,d.val_inv,convert,run_underlying O,run_underlying hd,Conv.intToInt,wcv],.pure _ _ (.val _)⟩
  next Y O hd hx=>
   cases A
   have d:=C x;rw[hx]at d;exact⟨.string Y,λw _=>by simp[execOp,l,d.val_inv,convert,run_underlying O,run_underlying hd],.pure _ _ (.val _)⟩
  .cases A
 next x i l=>
  split at A
  .rename_i cs hx;have d:=C x;rw[hx]at d;obtain⟨vs,D,hl,H⟩:=d.tup_inv;rw[Zax,Zca]at A
   cases M:Nat.ble (i+1) cs.length with
   |false=>simp[M]at A
   |true=>
    simp[M]at A;have ag:=Nat.le_of_ble_eq_true M
    obtain⟨u,G⟩:∃u,vs[i]?=some u:=⟨vs[i]'Vo,Y1 Vo⟩
    obtain⟨c,hcs⟩:∃c,cs[i]?=some c:=⟨cs[i]'Vo,List.getElem?_eq_getElem Vo⟩
    rw[hcs]at A;simp at A;subst A;exact⟨u,λw _=>by simp[execOp,l,D,Instr.extract,G],H i u c G hcs⟩
  .cases A
 next b x t l=>
  split at A
  next e sz rows af G hx=>
   cases A
   have d:=C x;rw[hx]at d;obtain⟨b,a6,D⟩:=d.slice_inv;exact⟨.int .i64 (rlen rows),λw _=>by simp[execOp,l,D,rlen,resolve,invoke,builtin,Builtin.len_,run_underlying G,goInt],.pure _ _ (.val _)⟩
  next e id off n G hx=>
   cases A
   have d:=C x;rw[hx]at d;have D:a.eval x= .slice (some ⟨(ρ id).blk,off,none⟩) n n:=d.bsl_inv;exact⟨.int .i64 (Int.ofNat n),λw _=>by simp[execOp,l,D,resolve,invoke,builtin,Builtin.len_,run_underlying G,goInt],.pure _ _ (.val _)⟩
  next e id G hx=>
   split at A
   next sz rows V=>
    cases A
    have d:=C x;rw[hx]at d;obtain⟨p,a6,D⟩:=osl_len d (F.obj id _ V);exact⟨.int .i64 (rlen rows),λw _=>by simp[execOp,l,D,rlen,resolve,invoke,builtin,Builtin.len_,run_underlying G,goInt],.pure _ _ (.val _)⟩
   .cases A
  next kt et id G hx=>
   split at A
   next es V=>
    cases A
    have d:=C x;rw[hx]at d;obtain⟨Q,⟨R,cl,Z,K⟩,hno⟩:=F.obj id _ V;have D:=d.omp_inv
    have hl:R.size=es.length:=by
     have:=congrArg List.length K
     grind
    refine⟨.int .i64 (mlen es),λL O=>?_,.pure _ _ (.val _)⟩;have M:L.heap[(ρ id).blk]?=some (.map R cl):=by rw[O _ (by simp[fblk,Zbr,l,D,G])];exact Z
    simp[execOp,l,D,mlen,resolve,invoke,builtin,Builtin.len_,run_underlying G,goInt,getObj,Sem.run,M,hl]
   .cases A
  next Y G hx=>
   cases A
   have d:=C x;rw[hx]at d;exact⟨.int .i64 (slen Y),λw _=>by simp[execOp,l,d.val_inv,slen,resolve,invoke,builtin,Builtin.len_,run_underlying G,goInt],.pure _ _ (.val _)⟩
  next n e G=>
   cases A
   refine⟨.int .i64 (Int.ofNat n),λw _=>?_,.pure _ _ (.val _)⟩;simp[execOp,l,resolve,invoke,builtin,Builtin.len_,run_underlying G,goInt]
  next k0 k re im G hx=>
   cases A
   have d:=C x;rw[hx]at d;exact⟨.float k re,λw _=>by simp[execOp,l,d.val_inv,resolve,invoke,builtin,real_go],.pure _ _ (.val _)⟩
  next k0 k re im G hx=>
   cases A
   have d:=C x;rw[hx]at d;exact⟨.float k im,λw _=>by simp[execOp,l,d.val_inv,resolve,invoke,builtin,imag_go],.pure _ _ (.val _)⟩
  .cases A
 next b x y t l=>
  split at A
  .rename_i k m W n hx hy;have d:=C x;rw[hx]at d;have E:=C y;rw[hy]at E;by_cases T:k=W
   .subst T;simp at A;subst A;exact⟨_,λw _=>by simp[execOp,l,d.val_inv,E.val_inv,resolve,invoke,builtin,Builtin.min_,Builtin.min2,imin],.pure _ _ (.val _)⟩
   grind
  .rename_i k m W n hx hy;have d:=C x;rw[hx]at d;have E:=C y;rw[hy]at E;by_cases T:k=W
   .subst T;simp at A;subst A;exact⟨_,λw _=>by simp[execOp,l,d.val_inv,E.val_inv,resolve,invoke,builtin,Builtin.max_,Builtin.max2,imax],.pure _ _ (.val _)⟩
   grind
  .rename_i k m W n hx hy;have d:=C x;rw[hx]at d;have E:=C y;rw[hy]at E;by_cases T:k=W
   .subst T;simp at A;subst A;exact⟨_,λw _=>by simp[execOp,l,d.val_inv,E.val_inv,resolve,invoke,builtin,Zyi],.pure _ _ (.val _)⟩
   grind
  .cases A
 .cases A
end
end Go.Px
namespace Go.Px
open Go.RowKit
def Zby(P:Program)(g o:Nat)(t:TypeId)(c:Nat×Nat):∀(d:List Value) (i:Nat) (b:Array Value) (w:World),w.heap[g]?=some (.cells b t c)->o+i+d.length<=b.size->(∀v∈d,v.oneCell'=true)->
  (∀x,o+i<=x->x<o+i+d.length->¬(c.1<=x/\x<c.2))->
  (storeCells ⟨g,o,none⟩ d i).run P w= .ok () (w.setRow g (b.toList.take (o+i)++d++b.toList.drop (o+i+d.length)).toArray)
 | [],i,b,w,hg,_,_,_=>by simp only[storeCells,List.append_nil,Y9,Nat.add_zero,List.take_append_drop,Array.toArray_toList];rw[setRow_self w g b t c hg];rfl
 |v::rest,i,b,w,hg,hl,h1,hf=>by
  have p:o+i<b.size:=Vg;have j:(⟨g,o,none⟩:Addr).add i=⟨g,o+i,none⟩:=(by grind [Addr.add]);have f:w.cell? ⟨g,o+i,none⟩=some b[o+i]:=by grind [World.cell?]
  have k:w.frozen? ⟨g,o+i,none⟩=false:=by
   simp_all[World.frozen?]
  have hst:(store ((⟨g,o,none⟩:Addr).add i) v).run P w= .ok () (w.setRow g (b.setIfInBounds (o+i) v)):=by rw[j,run_store P w _ v _ (h1 v Vs),f];simp[k,setCell_eq_setRow w g (o+i) b t c v hg]
  have m:=Zby P g o t c rest (i+1) (b.setIfInBounds (o+i) v) (w.setRow g (b.setIfInBounds (o+i) v)) (setRow_heap w g b _ t _ hg) (by simp at hl|-;omega) (λx hx=>h1 x (by simp[hx]))
   (λx n l=>hf x Vo (by simp at l|-;omega))
  simp only[storeCells,Sem.run_bind,hst,Result.andThen_ok,m,setRow_setRow];congr 3;have e:=list_seg_step b.toList (o+i) v rest (by simp at hl|-;omega)
  grind
def Zbv(w:World)(g:Nat)(c:Array Value):Keeps (λb=>b=g) w (w.setRow g c):=
 ⟨rfl,rfl,rfl,Vs,λk e d=>setRow_other _ _ _ _ d⟩
def Zbl(w:World)(o:Obj):Keeps (λ_=>False) w (w.alloc o):=
 ⟨rfl,rfl,rfl,by show _<=(w.heap.push _).size;simp,λk b _=>Below.heap_alloc w o k b⟩
def Zy5(w:World):Keeps (λ_=>False) w {w with drawn:=w.drawn+1}:=⟨rfl,rfl,rfl,Nat.le_refl _,λ_ _ _=>rfl⟩
section
variable{X:Cx}{h:Hp}{ρ:Nat->Loc}{st:St}{a:Act}{w:World}{P:Program}
def FitsAt.made{w':World}(F:FitsAt X h ρ st a w)(c:Keeps (λ_=>False) w w'):FitsAt X h ρ st a w':=
 F.world (λb d=>c.block b d id) (F.kp.step c (λ_ e=>e.elim))
def Zcv(c:HSub h w)(o:Nat)(b:Nat)(d:w.heap.size<=b):h b o=none:=by
 cases e:h b o with
 |none=>rfl
 |some v=>exact absurd (c.lt e) Vo
def FitsAt.newBox(F:FitsAt X h ρ st a w)(id:Nat)(hid:idOK id=true)(d:Array Value)(t:TypeId)(cells:List SV)(e:d.size=cells.length)
  (f:∀(i:Nat) u c,d[i]?=some u->cells[i]?=some c->Rep h ρ u c/\u.oneCell'=true):
  FitsAt X h (upd ρ id ⟨w.heap.size,0,0,0,0,false⟩) (st.bind id (.box cells)) a (w.alloc (.cells d t)):=by
 have r:=F.made (Zbl w (.cells d t));refine r.bind id hid (.box cells) _ ?_ (λ_=>.inl F.kp.size) (λ_ i _ g=>?_)
 .simp only[ObOK,Zdy,Zab];refine⟨trivial,⟨d,t,by show(w.heap.push _)[_]?=_;simp,by rw[Zbh];exact e,λi v c k b=>?_⟩,λo=>Zcv F.sub o _ (Nat.le_refl _)⟩;rw[hmapL_getElem?]at b
  cases hx:cells[i]? with
  |none=>simp[hx]at b
  |some y=>simp[hx]at b;subst b;obtain⟨p,q⟩:=f i v y k hx;exact⟨p.kill id (HLe.refl h) (λj l=>Zi7 ρ _ l),q⟩
 .obtain⟨⟨o,m⟩,n⟩:=g;exact Nat.ne_of_lt (ObOK.blk_lt (F.obj i o m) n)
def FitsAt.newOwn{b:World}(F:FitsAt X h ρ st a w)(id:Nat)(hid:idOK id=true)(o:Ob)(l:Loc)(g:Keeps (λ_=>False) w b)(c:∀cs,o≠ .box cs)(j:l.none=false->w.heap.size<=l.blk)
  (d:ObOK h (upd ρ id l) b id o):FitsAt X h (upd ρ id l) (st.bind id o) a b:=by
 have m:Zdy (killG id) o=o:=by cases o<;>first|rfl|exact absurd rfl (c _)
 refine(F.made g).bind id hid o l (by rw[m];exact d) (λe=>.inl (Nat.le_trans F.kp.size (j e))) (λe i _ k=>?_);obtain⟨⟨o,d⟩,f⟩:=k;have:=ObOK.blk_lt (F.obj i o d) f
 grind
theorem FitsAt.touch{w':World}(F:FitsAt X h ρ st a w)(b:Nat)(g:∀i,live st.objs ρ i->(ρ i).blk≠b)(j:∀o,h b o=none)(l:X.w.heap.size<=b\/X.G b)
  (c:∀k,k≠b->w'.heap[k]?=w.heap[k]?) (d:Keeps (λk=>k=b) w w'):FitsAt X h ρ st a w':=by
 refine{F with sub:=λk o v e=>?_,obj:=λi o f=>?_,kp:=F.kp.step d (λk e=>by subst e;exact l)}
 .have p:k≠b:=λm=>by subst m;rw[j o]at e;cases e
  have:=F.sub k o v e
  grind [World.cell?]
 .exact(F.obj i o f).carry (HLe.refl h) (λn=>c _ (g i ⟨⟨o,f⟩,n⟩)) (λ_ _ e=>e)
def live_drop{b:Nat->Loc}{id i:Nat}(d:∀i,i≠id->b i=ρ i)(j:live (st.drop id).objs b i):i≠id/\live st.objs ρ i:=by
 obtain⟨⟨o,e⟩,f⟩:=j;obtain⟨k,l,rfl⟩:=Zaf e;obtain⟨c,g⟩:=Zae l;rw[d i c]at f;exact⟨c,⟨k,g⟩,f⟩
def Zlt(F:FitsAt X h ρ st a w){id off n:Nat}{l j:List SV}(m:oget st.objs id=some (.box l))(x:szT P T=some n)
  (z:Rep h ρ v u) (d:boxL (cellsOf u)=true) (A:lenN (cellsOf u)=n) (C:Zbb off (cellsOf u) l=some j):
  ∃g,(Instr.storeAt T (.pointer (some ⟨(ρ id).blk,off,none⟩)) v).run P w= .ok () g/\FitsAt X h ρ {st with objs:=oput st.objs id (.box j)} a g/\
   w.heap.size<=g.heap.size/\∀b,b≠(ρ id).blk->g.heap[b]?=w.heap[b]?:=by
 obtain⟨k,⟨c,ty,f,G,s⟩,hno⟩:=F.obj id _ m;obtain⟨o,p⟩:=Zem z d;obtain⟨H,rfl⟩:=Zce _ _ _ _ C;rw[Zax]at A
 have E:=run_storeCells_at P (ρ id).blk off ty v.cells.toList 0 c w f (by simp[o];omega) (λy D=>by
  obtain⟨i,J,e⟩:=List.mem_iff_getElem.1 D;have q:i<v.cells.size:=Vg;have r:i<(cellsOf u).length:=Vo
  exact(p i y _ (by rw[Y1 q];simp at e;rw[e]) (List.getElem?_eq_getElem r)).2)
 refine⟨_,?_,F.setOb id (.box l) _ (w.setRow (ρ id).blk (c.toList.take (off+0)++v.cells.toList++c.toList.drop (off+0+v.cells.toList.length)).toArray) m k ⟨k,⟨_,ty,setRow_heap w _ c _ ty _ f,?_,?_⟩,hno⟩
  (λb d=>setRow_other _ _ _ _ d) (Zbv _ _ _),Vs,λb d=>setRow_other _ _ _ _ d⟩
 .simp only[Instr.storeAt,Instr.sureAddr,storeVar,Sem.run_bind,Sem.run_pure,Result.andThen_ok,run_sizeOf' w x]
  grind
 .grind
 .grind
def frzH(h:Hp)(w:World)(l:Loc)(n:Nat):Hp:=λb o=>if b=l.blk/\l.off<=o/\o<l.off+n then w.cell? ⟨b,o,none⟩else h b o
def Zlu{i n j b:Nat}(c:i<n)(d:j<b):i*b+j<n*b:=by
 have:(i+1)*b<=n*b:=Yf b Vo
 grind
theorem frz_slice{l:Loc}{b:Nat}{rows:LL}(f:HLe h (frzH h w l (rows.length*b)))(o:OwnOK h w l b rows):
  PRep (frzH h w l (rows.length*b)) (.slice (some ⟨l.blk,l.off,none⟩) l.len l.cap) (.slice b rows 0):=by
 obtain⟨n,t,q,s,u,x,g⟩:=o.hblk;rw[o.hlen];refine .slice l.blk l.off l.cap b rows 0 (λi j=>(n[l.off+i*b+j]?).getD undef) o.pos o.hrow (λi r j c d e=>?_) (λi r j c d e=>?_) (λi r j c d e=>?_) Vo Vo o.hcap
 .obtain⟨v,e1,_⟩:=g i r j c d e;have p:=(Y0.1 d).1;have k:=(Y0.1 e).1;rw[o.hrow i r d]at k;have:=Zlu p k
  have m:l.off<=l.off+i*b+j/\l.off+i*b+j<l.off+rows.length*b:=⟨Vo,Vo⟩
  simp_all[frzH,e1,Yl,World.cell?]
 .obtain⟨v,e1,e2,_⟩:=g i r j c d e;simp only[e1,Yl];exact e2.mono f
 grind
theorem FitsAt.frz(F:FitsAt X h ρ st a w)(id:Nat):∃g,HLe h g/\FitsAt X g ρ (st.frz id) a w:=by
 unfold St.frz
 split
 .rename_i u rows G;have M:=F.obj id _ G
  have N:∃g,HLe h g/\HSub g w/\(∀b,b≠(ρ id).blk\/(ρ id).none=true->∀o,g b o=h b o)/\∀v,Rep h ρ v (.osl id)->PRep g v (.slice u rows 0):=by
   rcases M with⟨f,rfl⟩|⟨f,o⟩
   .refine⟨h,HLe.refl h,F.sub,λ_ _ _=>rfl,λv r=>?_⟩
    rcases r.osl_inv with⟨_,p,rfl⟩|⟨m,_⟩
    .exact .empty p 0 u 0 Vo Vo (λ_=>rfl)
    grind
   .have k:HLe h (frzH h w (ρ id) (rows.length*u)):=λb x v e=>by
     grind [o.hh,frzH]
    refine⟨frzH h w (ρ id) (rows.length*u),k,λb x v e=>?_,λb Q x=>?_,λv r=>?_⟩
    .unfold frzH at e
     split at e
     .exact e
     .exact F.sub b x v e
    .grind [frzH]
    .rcases r.osl_inv with⟨m,_⟩|⟨_,rfl⟩
     .grind
     grind [frz_slice]
  obtain⟨g,k,H,q,C⟩:=N
  have y:∀v s,Rep h ρ v s->Rep g ρ v (hmap (frzG id u rows) s):=λv s r=>r.turn λv s E r=>by
   cases r with
   |pure _ _ A=>
    have:frzG id u rows s=s:=by cases A<;>first|rfl|(simp[Zbi]at E)
    rw[this];exact .pure _ _ (A.mono k)
   |agg=>simp[Zbi]at E
   |tup=>simp[Zbi]at E
   |ptr i off=>exact .ptr i off
   |bsl i off n=>exact .bsl i off n
   |osl0 i p f=>
    by_cases d:i=id
    .subst d;simp only[frzG,Y8,cond_true];exact .pure _ _ (C _ (.osl0 i p f))
    .simp only[frzG,Zaj d,cond_false];exact .osl0 i p f
   |osl i f=>
    by_cases d:i=id
    .subst d;simp only[frzG,Y8,cond_true];exact .pure _ _ (C _ (.osl i f))
    .simp only[frzG,Zaj d,cond_false];exact .osl i f
   |eptr i e j off f=>
    by_cases d:i=id
    .subst d;simp only[frzG,Y8,cond_true];exact .pure _ _ (.unk _)
    .simp only[frzG,Zaj d,cond_false];exact .eptr i e j off f
   |osv i l K c p T L U V A=>
    by_cases d:i=id
    .subst d;simp only[frzG,Y8,cond_true];exact .pure _ _ (.unk _)
    .simp only[frzG,Zaj d,cond_false];exact .osv i l K c p T L U V A
   |omp i=>exact .omp i
   |aptr i n=>exact .aptr i n
   |asl i l K O=>exact .asl i l K O
  refine⟨g,k,F.turn _ _ y (λi o e=>?_) (λi d=>?_) H k (λb Q W x e=>?_) F.kp (λ_ _=>rfl)⟩
  .obtain⟨z,J,rfl⟩:=Zaf e;obtain⟨D,t⟩:=Zae J;refine(F.obj i z t).turn y k rfl (λ_=>rfl) (λf x e=>?_);rw[q]
   .exact e
   .by_cases m:(ρ id).none=true
    .grind
    .exact .inl (F.inj i id ⟨⟨z,t⟩,f⟩ ⟨⟨_,G⟩,by simpa using m⟩ D)
  .obtain⟨⟨o,e⟩,f⟩:=d;obtain⟨z,J,rfl⟩:=Zaf e;obtain⟨D,t⟩:=Zae J;exact⟨⟨⟨z,t⟩,f⟩,rfl⟩
  .rw[q]
   .exact e
   .by_cases m:(ρ id).none=true
    .grind
    .refine .inl λR=>?_;subst R
     rcases F.own id ⟨⟨_,G⟩,by simpa using m⟩with L|L
     .omega
     grind
 grind [HLe.refl]
def FitsAt.frzAll:∀(b:List Nat) {st:St} {h:Hp},FitsAt X h ρ st a w->∃e,HLe h e/\FitsAt X e ρ (St.frzAll b st) a w
 | [],st,h,F=>⟨h,HLe.refl h,F⟩
 |id::b,st,h,F=>by obtain⟨j,c,f⟩:=F.frz id;obtain⟨g,d,i⟩:=FitsAt.frzAll b f;exact⟨g,c.trans d,i⟩
theorem Zbp{v:Value}{s l:SV}(r:Rep h ρ v s)(c:Zao s=some l):PRep h v l:=by
 cases r with
 |pure _ _ d=>
  cases d with
  |val v=>cases v<;>simp[Zao]at c<;>subst c<;>exact .val _
  |agg=>simp[Zao]at c
  |empty p e m n q u x=>simp[Zao]at c;subst c;exact .empty p e _ 0 Vo Vo x
  |slice b off e m rows n g i y j d z q u o=>simp[Zao]at c;subst c;exact .slice b off e m rows 0 g i y j d z Vo Vo o
  |ref b k off cells g j d=>simp[Zao]at c;subst c;exact .ref b k off cells g j d
  |clo f g A C D=>simp[Zao]at c;subst c;exact .clo f g A C D
  |ifc t v s E=>simp[Zao]at c;subst c;exact .ifc t v s E
  |arr=>simp[Zao]at c
  |fnv=>simp[Zao]at c
  |unk=>simp[Zao]at c
 |agg=>simp[Zao]at c
 |tup=>simp[Zao]at c
 |ptr=>simp[Zao]at c
 |bsl=>simp[Zao]at c
 |osl0=>simp[Zao]at c
 |osl=>simp[Zao]at c
 |eptr=>simp[Zao]at c
 |osv=>simp[Zao]at c
 |omp=>simp[Zao]at c
 |aptr=>simp[Zao]at c
 |asl=>simp[Zao]at c
def Zds:∀(d b:List SV),pureL d=some b->b.length=d.length/\
  ∀(i:Nat) c',b[i]?=some c'->∃c,d[i]?=some c/\Zao c=some c'
 | [],b,h=>by simp[pureL]at h;subst h;simp
 |c::d,b,h=>by
  simp only[pureL]at h
  split at h
  next j e k f=>
   cases h
   obtain⟨l,g⟩:=Zds d e f
   grind
  .cases h
theorem Ze9{v:Value}{s d:SV}(r:Rep h ρ v s)(b:Zc2 s=some d):PRep h v d:=by
 unfold Zc2 at b
 split at b
 .rename_i n;simp at b;obtain⟨e,f,rfl⟩:=b;obtain⟨l,g⟩:=Zds _ _ f;obtain⟨j,rfl,o,p⟩:=r.agg_inv';refine .agg j e Vo λi u c m k=>?_
  grind [Zbp]
 grind [Zbp]
def Zo9{v:Value}{s c:SV}(r:Rep h ρ v s)(b:Zts s=some c):PRep h v c:=by
 unfold Zts at b
 split at b
 .cases b
  cases r with
  |pure _ _ b=>exact b
 grind [Ze9]
def FitsAt.frzBox(F:FitsAt X h ρ st a w)(id:Nat){K:St}(f:st.frzBox id=some K):∃d,HLe h d/\FitsAt X d ρ K a w:=by
 unfold St.frzBox at f
 split at f
 next cs M=>
  split at f
  next y Y=>
   cases f
   obtain⟨g,⟨E,t,N,a1,G⟩,hno⟩:=F.obj id _ M;obtain⟨hl,O⟩:=Zds _ _ Y
   let d:Hp:=λb o=>if b=(ρ id).blk then w.cell? ⟨b,o,none⟩else h b o
   have k:HLe h d:=λb o v e=>by
    grind
   have T:HSub d w:=λb o v e=>by
    simp only[d]at e
    split at e
    .exact e
    .exact F.sub b o v e
   have A:∀b,b≠(ρ id).blk->∀o,d b o=h b o:=λb V o=>by simp[d,V]
   have m:∀(j:Nat) c,y[j]?=some c->∃v,E[j]?=some v/\PRep h v c:=λj c q=>by obtain⟨c0,Q,C⟩:=O j c q;have Z:j<E.size:=Vg;exact⟨E[j],Y1 Z,Zbp (G j _ c0 (Y1 Z) Q).1 C⟩
   have D:∀v s,Rep h ρ v s->Rep d ρ v (hmap (frzBG id y) s):=λv s r=>r.turn λv s f r=>by
    cases r with
    |pure _ _ J=>
     have:frzBG id y s=s:=by cases J<;>first|rfl|(simp[Zbi]at f)
     rw[this];exact .pure _ _ (J.mono k)
    |agg=>simp[Zbi]at f
    |tup=>simp[Zbi]at f
    |ptr i off=>
     by_cases u:i=id
     .subst u;simp only[frzBG,Y8,cond_true]
      have:=PRep.ref (h:=d) (ρ i).blk 0 off y (λj=>(E[j]?).getD undef) (λj c q=>by
       obtain⟨v,e1,_⟩:=m j c q;simp only[d,if_true,Yj,e1,Yl]
       simp[World.cell?,N,e1]) (λj c q=>by
       obtain⟨v,e1,e2⟩:=m j c q
       simp only[e1,Yl];exact e2.mono k)
      rw[Yj]at this;exact .pure _ _ this
     .simp only[frzBG,Zaj u,cond_false];exact .ptr i off
    |bsl i off n=>
     by_cases u:i=id
     .subst u;simp only[frzBG,Y8,cond_true];exact .pure _ _ (.unk _)
     .simp only[frzBG,Zaj u,cond_false];exact .bsl i off n
    |osl0 i p g=>exact .osl0 i p g
    |osl i g=>exact .osl i g
    |eptr i e j off g=>exact .eptr i e j off g
    |osv i l U c p Q C h2 q J=>exact .osv i l U c p Q C h2 q J
    |omp i=>exact .omp i
    |aptr i n=>exact .aptr i n
    |asl i l U a0=>exact .asl i l U a0
   refine⟨d,k,F.turn _ _ D (λi o e=>?_) (λi u=>?_) T k (λb V hg x e=>?_) F.kp (λ_ _=>rfl)⟩
   .obtain⟨H,R,rfl⟩:=Zaf e;obtain⟨L,z⟩:=Zae R;refine(F.obj i H z).turn D k rfl (λ_=>rfl) (λW x e=>?_);rw[A]
    .exact e
    .exact F.inj i id ⟨⟨H,z⟩,W⟩ ⟨⟨_,M⟩,g⟩ L
   .obtain⟨⟨o,e⟩,g⟩:=u;obtain⟨H,R,rfl⟩:=Zaf e;obtain⟨L,z⟩:=Zae R;exact⟨⟨⟨H,z⟩,g⟩,rfl⟩
   .rw[A]
    .exact e
    .intro eb;subst eb
     rcases F.own id ⟨⟨_,M⟩,g⟩with C|C
     .omega
     grind
  .cases f
 .cases f
def FitsAt.frzBoxes:∀(c:List Nat) {st b:St} {h:Hp},FitsAt X h ρ st a w->St.frzBoxes c st=some b->∃d,HLe h d/\FitsAt X d ρ b a w
 | [],st,b,h,F,e=>by simp[St.frzBoxes]at e;subst e;exact⟨h,HLe.refl h,F⟩
 |id::c,st,b,h,F,e=>by
  simp only[St.frzBoxes]at e
  split at e
  next g p=>
   split at e
   next q f=>obtain⟨r,i,j⟩:=F.frzAll (Zfc g);obtain⟨s,k,l⟩:=j.frzBox id f;obtain⟨m,n,o⟩:=FitsAt.frzBoxes c l e;exact⟨m,(i.trans k).trans n,o⟩
   .cases e
  .cases e
end
end Go.Px
namespace Go.Px
open Go.RowKit
def Zb6{l:List (Nat×Ob)}{o:Ob}(e:oget l n=some o):(n,o)∈l:=by
 induction l with
 |nil=>simp[oget]at e
 |cons x a b=>
  grind [Zbu]
def Pulls(a:List (Option Nat×Nat))(ρ ρ':Nat->Loc):Prop:=
 ∀p∈a,match p.1 with
  |some id=>ρ' p.2=ρ id
  |none=>(ρ' p.2).none=true
theorem Pulls.left{a b:List (Option Nat×Nat)}{ρ ρ':Nat->Loc}(h:Pulls (a++b) ρ ρ'):Pulls a ρ ρ':=λp c=>h p (by simp[c])
def Pulls.right{b a:List (Option Nat×Nat)}{ρ ρ':Nat->Loc}(h:Pulls (b++a) ρ ρ'):Pulls a ρ ρ':=λp c=>h p (by simp[c])
def pull:List (Option Nat×Nat)->(Nat->Loc)->(Nat->Loc)->Nat->Loc
 | [],ρ,ρ0,c=>ρ0 c
 |(o,k)::l,ρ,ρ0,c=>if k=c then(match o with|some id=>ρ id|none=>noLoc)else pull l ρ ρ0 c
def Zay:∀{l:List Nat},Zbq l=true->l.Nodup
 | [],_=>Y00
 |x::xs,h=>by simp only[Zbq,Bool.and_eq_true,Yk,YR]at h;refine Yo.2 ⟨λa=>?_,Zay h.2⟩;have:=h.1 x a;simp at this
def Zet(ρ c:Nat->Loc):∀{b:List (Option Nat×Nat)},(b.map (·.2)).Nodup->Pulls b ρ (pull b ρ c)
 | [],_=>by intro p a;simp at a
 |(o,k)::l,h=>by
  simp only[List.map_cons,Yo]at h;intro p a
  rcases List.mem_cons.1 a with rfl|a
  .grind [pull,noLoc]
  .have d:k≠p.2:=λe=>h.1 (by rw[e];exact Yb a);have:=Zet ρ c h.2 p a
   simp_all[pull]
def Znd(ρ a:Nat->Loc):∀{b:List (Option Nat×Nat)} {c:Nat},(∀p∈b,p.2≠c)->pull b ρ a c=a c
 | [],c,_=>rfl
 |(o,k)::l,c,h=>by have:=h (o,k) Vs;simp only at this;simp only[pull,if_neg this];exact Znd ρ a (λp d=>h p (by simp[d]))
section
variable{h:Hp}{ρ ρ':Nat->Loc}{objs:List (Nat×Ob)}{w:World}{P:Program}
structure PassOK(objs:List (Nat×Ob))(h:Hp)(ρ':Nat->Loc)(w:World)(ids:List (Option Nat×Nat))(os:List (Nat×Ob)):Prop where
 ob:∀c o,(c,o)∈os->ObOK h ρ' w c o
 at_:∀c o,(c,o)∈os->∃p∈ids,p.2=c
 here:∀id c,(some id,c)∈ids->∃o,oget objs id=some o
def PassOK.nil:PassOK objs h ρ' w [] []:=⟨Vs,Vs,Vs⟩
def PassOK.append{l1 l2:List (Option Nat×Nat)}{o1 o2:List (Nat×Ob)}(a:PassOK objs h ρ' w l1 o1)(b:PassOK objs h ρ' w l2 o2):PassOK objs h ρ' w (l1++l2) (o1++o2) where
 ob:=λc o hm=>(List.mem_append.1 hm).elim (a.ob c o) (b.ob c o)
 at_:=λc o hm=>by
  rcases List.mem_append.1 hm with hm|hm
  .obtain⟨p,hp,e⟩:=a.at_ c o hm;exact⟨p,by simp[hp],e⟩
  .obtain⟨p,hp,e⟩:=b.at_ c o hm;exact⟨p,by simp[hp],e⟩
 here:=λid c hm=>(List.mem_append.1 hm).elim (a.here id c) (b.here id c)
def Zlw(t:TypeId)(a:Nat)(rows:LL)(tok:Nat):∃b,fixSz P t (.slice a rows tok)= .slice b rows tok/\(b=a\/a=0):=by
 unfold fixSz
 split
 next e f rows1 d g c=>
  cases c
  refine⟨_,rfl,?_⟩
  cases hb:Nat.beq a 0 with
  |false=>exact .inl rfl
  |true=>exact .inr (Nat.eq_of_beq_eq_true hb)
 grind
def Zy6(t:TypeId)(a:List (BA×Int)):fixSz P t (.mapv a)= .mapv a:=by
 simp_all[fixSz]
def Zfa(u:∀id o,oget objs id=some o->ObOK h ρ w id o){f:Nat}{s d:SV}{m:List (Option Nat×Nat)}(e:Zf4 objs f s=some (d,m))(y:Pulls m ρ ρ')(t:TypeId):
  ∃hd o,ownH f (fixSz P t d)=some (hd,o)/\(∀v,Rep h ρ v s->Rep h ρ' v hd/\v.oneCell'=true)/\PassOK objs h ρ' w m [(f,o)]/\(∀H,o≠ .box H)/\(∀t b x,hd≠ .gd t b x):=by
 unfold Zf4 at e
 split at e
 next id=>
  split at e
  next n rows q=>
   cases e
   obtain⟨l,z,D⟩:=Zlw (P:=P) t n rows 0;have a:ρ' f=ρ id:=y (some id,f) Vs;have M:=u id _ q;rw[z];refine⟨.osl f,.own l rows,rfl,λv r=>?_,⟨λc o g=>?_,λc o g=>?_,λi c g=>?_⟩,Vs,Vs⟩
   .rcases r.osl_inv with⟨j,p,rfl⟩|⟨j,rfl⟩
    .exact⟨.osl0 f p (by rw[a];exact j),rfl⟩
    .refine⟨?_,rfl⟩;rw[<-a]at j|-;exact .osl f j
   .simp at g;obtain⟨rfl,rfl⟩:=g
    rcases M with⟨j,rfl⟩|⟨j,o⟩
    .exact .inl ⟨by rw[a];exact j,rfl⟩
    .have E:l=n:=D.resolve_right (by have:=o.pos;omega);subst E;exact .inr ⟨by rw[a];exact j,by rw[a];exact o⟩
   .simp_all
   grind
  .cases e
 next id=>
  split at e
  next J q=>
   cases e
   have a:ρ' f=ρ id:=y (some id,f) Vs;obtain⟨j,⟨A,K,L,g⟩,hno⟩:=u id _ q;rw[Zy6];refine⟨.omp f,.mp J,rfl,λv r=>?_,⟨λc o k=>?_,λc o k=>?_,λi c k=>?_⟩,Vs,Vs⟩
   .rw[r.omp_inv,<-a];exact⟨.omp f,rfl⟩
   .simp at k;obtain⟨rfl,rfl⟩:=k;exact⟨by rw[a];exact j,⟨A,K,by rw[a];exact L,g⟩,by rw[a];exact hno⟩
   .simp_all
   grind
  .cases e
 next n=>
  cases e
  obtain⟨l,z,_⟩:=Zlw (P:=P) t n [] 0;have a:(ρ' f).none=true:=y (none,f) Vs;rw[z];refine⟨.osl f,.own l [],rfl,λv r=>?_,⟨λc o g=>?_,λc o g=>?_,λi c g=>?_⟩,Vs,Vs⟩
  .cases r with
   |pure _ _ F=>cases F with
    |empty p G _ _ N C j=>have:=C rfl;subst this;exact⟨.osl0 f p a,rfl⟩
    |slice b off G _ rows Q T O D U V q N C R=>have:=C rfl;subst this;exact⟨.osl0 f _ a,rfl⟩
  .simp at g;obtain⟨rfl,rfl⟩:=g;exact .inl ⟨a,rfl⟩
  .simp_all
  .simp at g
 .cases e
def fix0(P:Program)(a:List TypeId)(d:SV):SV:=
 match a with
 | []=>d
 |t::_=>fixSz P t d
def Zdt(A:∀id o,oget objs id=some o->ObOK h ρ w id o)(n:Nat):∀(u:List SV) (j:Nat) (p:List Bool) (f:List TypeId) (D:List SV) (q:List (Option Nat×Nat)),
  Za1 objs n j p u=some (D,q)->Pulls q ρ ρ'->
  ∃m z,Zaw n j p (fixL' P f D)=some (m,z)/\m.length=u.length/\(∀(i:Nat) v c s,u[i]?=some c->m[i]?=some s->Rep h ρ v c->Rep h ρ' v s)/\
   PassOK objs h ρ' w q z/\(∀c o,(c,o)∈z->∀x,o≠ .box x)/\(∀(i:Nat) s,m[i]?=some s->∀t b x,s≠ .gd t b x)
 | [],j,p,f,D,q,e,hp=>by
  simp[Za1]at e;obtain⟨rfl,rfl⟩:=e;have:fixL' P f []=[]:=by cases f<;>rfl
  rw[this];exact⟨[],[],rfl,rfl,Vs,PassOK.nil,Vs,Vs⟩
 |c::u,j,p,f,D,q,e,hp=>by
  simp only[Za1]at e
  split at e
  next d l C R y T=>
   cases e
   obtain⟨m,z,e1,e2,U,K,V,W⟩:=Zdt A n u (j+1) p.tail f.tail C R T hp.right
   have H:fixL' P f (d::C)=(fix0 P f d)::fixL' P f.tail C:=by
    cases f with
    |nil=>simp[fixL',fix0]
    |cons t f=>simp[fixL',fix0]
   rw[H]
   cases hm:p.headD false with
   |true=>
    simp only[hm,cond_true]at y
    have M:∃hd o,ownH (Zih n p j) (fix0 P f d)=some (hd,o)/\(∀v,Rep h ρ v c->Rep h ρ' v hd/\v.oneCell'=true)/\PassOK objs h ρ' w l [(Zih n p j,o)]/\(∀u,o≠ .box u)/\(∀t b x,hd≠ .gd t b x):=by
     cases f with
     |cons t f=>exact Zfa (P:=P) A y hp.left t
     |nil=>
      obtain⟨hd,o,E,L⟩:=Zfa (P:=(default:Program)) A y hp.left 0
      have N:fixSz (default:Program) 0 d=d:=by
       unfold fixSz
       split
       .rename_i e _ _ _ hu;have:(default:Program).underlying 0=none:=by rfl
        grind
       .rfl
      rw[N]at E;exact⟨hd,o,E,L⟩
    obtain⟨hd,o,E,L,X,g4,g5⟩:=M;refine⟨hd::m,(Zih n p j,o)::z,by simp only[Zaw,e1,hm,cond_true,E],by simp[e2],λi v x J hx g r=>?_,X.append K,λx Z Y=>?_,λi s k=>?_⟩
    .grind
    .grind
    grind
   |false=>
    simp only[hm,cond_false]at y
    cases hpc:Zao c with
    |none=>simp[hpc]at y
    |some Q=>
     simp[hpc]at y;obtain⟨rfl,rfl⟩:=y;refine⟨fix0 P f Q::m,z,by simp only[Zaw,e1,hm,cond_false],by simp[e2],λi v x J hx g r=>?_,by simpa using K,V,λi s k=>?_⟩
     .cases i with
      |zero=>
       simp at hx g;subst hx;have F:=Zbp r hpc
       cases f with
       |nil=>simp[fix0]at g;subst g;exact .pure _ _ F
       |cons t f=>simp[fix0]at g;subst g;exact .pure _ _ (Ze8 t F)
      |succ i=>exact U i v x J (by simpa using hx) (by simpa using g) r
     .cases i with
      |zero=>
       simp at k
       have O:∀t b x,Q≠ .gd t b x:=by
        intro t b x G;subst G
        cases c<;>simp[Zao]at hpc
        grind
       cases f with
       |nil=>simp[fix0]at k;subst k;exact O
       |cons t f=>
        simp[fix0]at k;subst k;intro t' b x G;unfold fixSz at G
        grind
      |succ i=>exact W i s (by simpa using k)
  .cases e
def fixL'_get:∀(b:List TypeId) (a:List SV),(fixL' P b a).length=a.length/\∀(i:Nat) d,(fixL' P b a)[i]?=some d->∃c t,a[i]?=some c/\(d=c\/d=fixSz P t c)
 | [],a=>by simp only[fixL'];exact⟨trivial,λi d h=>⟨d,0,h,.inl rfl⟩⟩
 |t::b,[]=>by simp[fixL']
 |t::b,c::a=>by
  obtain⟨l,g⟩:=fixL'_get b a
  grind [fixL']
def Zs9(t:TypeId)(r:PRep h v u):PRep h v (normT P t u):=by
 unfold normT
 split
 next a=>
  cases r with
  |agg b _ f j=>
   obtain⟨l,g⟩:=fixL'_get (P:=P) (Zdh P 8 t) a;refine .agg b _ Vo λi s c e d=>?_
   grind [Ze8]
 grind [Ze8]
def Rep.ptr_inv{id off:Nat}(r:Rep h ρ v (.ptr id off)):v= .pointer (some ⟨(ρ id).blk,off,none⟩):=by
 cases r with
 |pure _ _ a=>cases a
 |ptr=>rfl
def Zh7(g:∀id o,oget objs id=some o->ObOK h ρ w id o){a:Nat}{m:Md}{s d:SV}{j:List (Option Nat×Nat)}(t:TypeId)(e:Zf5 objs a m s=some (d,j))(u:Pulls j ρ ρ'):
  ∃hd q,argH a m (normM P m t d)=some (hd,q)/\(∀v,Rep h ρ v s->Rep h ρ' v hd)/\PassOK objs h ρ' w j q:=by
 unfold Zf5 at e
 cases m with
 |pure=>simp at e;obtain⟨U,y,rfl,rfl⟩:=e;exact⟨_,[],rfl,λv r=>.pure _ _ (by simp only[normM];exact Zs9 t (Zo9 r y)),PassOK.nil⟩
 |own=>
  simp only[]at e
  have G:normM P .own t d=fixSz P t d:=by
   unfold Zf4 at e
   grind [normM,normT]
  obtain⟨hd,o,V,K,L,_,_⟩:=Zfa (P:=P) g e u t;refine⟨hd,[(a,o)],?_,λv r=>(K v r).1,L⟩
  grind [argH]
 |lend E=>
  simp only[]at e
  split at e
  next id=>
   split at e
   .rename_i H J;simp at e;obtain⟨M,l,z,rfl,rfl⟩:=e;have D:Pulls l ρ ρ':=λp k=>u p (by simp[k]);have f:ρ' a=ρ id:=u (some id,a) Vs;obtain⟨A,q,e1,e2,W,x,X,_⟩:=Zdt (P:=P) g a H 0 E (Zdh P 8 (datT P (.lend E) t)) M l z D;obtain⟨N,⟨O,ty,Q,C,F⟩,hno⟩:=g id _ J;refine⟨.ptr a 0,(a,.box A)::q,by simp[normM,argH,e1],λv r=>?_,⟨λc o b=>?_,λc o b=>?_,λi c b=>?_⟩⟩
    .rw[r.ptr_inv,<-f];exact .ptr a 0
    .rcases List.mem_cons.1 b with n|b
     .cases n
      refine⟨by rw[f];exact N,⟨O,ty,by rw[f];exact Q,by rw[e2];exact C,λi v c R T=>?_⟩,by rw[f];exact hno⟩
      grind
     .exact x.ob c o b
    .rcases List.mem_cons.1 b with n|b
     .simp_all
     .obtain⟨p,k,n⟩:=x.at_ c o b;exact⟨p,by simp[k],n⟩
    .rcases List.mem_cons.1 b with n|b
     .grind
     .exact x.here i c b
   .cases e
  .cases e
def Zcw(m:∀id o,oget objs id=some o->ObOK h ρ w id o)(f:Nat->Nat)(n:List Md):∀(p:List TypeId) (c:List SV) (i:Nat) (b:List SV) (a:List (Option Nat×Nat)),
  Za3 P objs f n i p c=some (b,a)->Pulls a ρ ρ'->
  ∃g j,argsH f n i b=some (g,j)/\g.length=c.length/\b.length=c.length/\(∀(k:Nat) v s hd,c[k]?=some s->g[k]?=some hd->Rep h ρ v s->Rep h ρ' v hd)/\PassOK objs h ρ' w a j
 | [],[],i,b,a,e,hp=>by simp[Za3]at e;obtain⟨rfl,rfl⟩:=e;exact⟨[],[],rfl,rfl,rfl,Vs,PassOK.nil⟩
 | [],_::_,i,b,a,e,hp=>by simp[Za3]at e
 |_::_,[],i,b,a,e,hp=>by simp[Za3]at e
 |t::p,s::c,i,b,a,e,hp=>by
  simp only[Za3]at e
  split at e
  next d l q u x y=>
   cases e
   obtain⟨hd,z,A,K,C⟩:=Zh7 (P:=P) m t x hp.left;obtain⟨g,j,e1,e2,D,L,E⟩:=Zcw m f n p c (i+1) q u y hp.right;refine⟨hd::g,z++j,by simp only[argsH,A,e1],by simp[e2],by simp[D],λk v J F G H r=>?_,C.append E⟩
   grind
  .cases e
def Zjl(d:Nat->Nat)(c:List Md):∀(f bs:List SV) (i:Nat) (g:List SV) (j:List (Nat×Ob)),argsH d c i f=some (g,j)->c.length<=i+f.length->argsH d c i (f++bs)=some (g++bs,j)
 | [],bs,i,g,j,e,hl=>by
  simp[argsH]at e;obtain⟨rfl,rfl⟩:=e
  have:∀(bs:List SV) (i:Nat),c.length<=i->argsH d c i bs=some (bs,[]):=by
   intro bs
   induction bs with
   |nil=>intro i _;rfl
   |cons b bs p=>
    intro i k
    have s:mdAt c i= .pure:=by
     have:∀(c:List Md) (i:Nat),c.length<=i->mdAt c i= .pure:=by
      intro c
      induction c with
      |nil=>intro i _;rfl
      |cons m c p=>intro i k;cases i with
       |zero=>simp at k
       |succ i=>exact p i (by simpa using k)
     grind
    grind [argsH,argH]
  grind
 |a::f,bs,i,g,j,e,hl=>by
  simp only[argsH]at e
  split at e
  next hd o l n r q=>
   cases e
   have:=Zjl d c f bs (i+1) l n q (by simp at hl;omega)
   grind [argsH]
  .cases e
def Zv6{d:List (Option Nat×Nat)}{k:List (Nat×Ob)}(n:PassOK objs h ρ' w d k)(q:Pulls d ρ ρ')(A:(d.filterMap (·.1)).Nodup)
  (m:∀i j,live objs ρ i->live objs ρ j->i≠j->(ρ i).blk≠(ρ j).blk):∀i j,live k ρ' i->live k ρ' j->i≠j->(ρ' i).blk≠(ρ' j).blk:=by
 have l:∀i,live k ρ' i->∃id,(some id,i)∈d/\ρ' i=ρ id/\live objs ρ id:=by
  rintro i ⟨⟨o,e⟩,hn⟩;obtain⟨p,g,rfl⟩:=n.at_ i o (Zb6 e);have f:=q p g;obtain⟨u,c⟩:=p
  cases u with
  |none=>simp only at f;rw[f]at hn;cases hn
  |some id=>exact⟨id,g,f,n.here id c g,by rw[<-f];exact hn⟩
 intro i j r s C;obtain⟨a,D,v,x⟩:=l i r;obtain⟨b,E,y,z⟩:=l j s;rw[v,y];refine m a b x z λe=>?_;subst e
 have:∀(d:List (Option Nat×Nat)),(d.filterMap (·.1)).Nodup->(some a,i)∈d->(some a,j)∈d->i=j:=by
  intro d
  induction d with
  |nil=>intro _ t;simp at t
  |cons p d F=>
   grind
 grind
def pass_holds{a:List (Option Nat×Nat)}{f:List (Nat×Ob)}(g:PassOK objs h ρ' w a f)(l:Pulls a ρ ρ')(k:(a.filterMap (·.1)).Nodup)(b:HSub h w)
  (d:∀i j,live objs ρ i->live objs ρ j->i≠j->(ρ i).blk≠(ρ j).blk):Holds h ρ' f w:=
 ⟨b,λc o e=>g.ob c o e,Zv6 g l k d⟩
theorem Zpa{d:List (Option Nat×Nat)}{j:List (Nat×Ob)}(k:PassOK objs h ρ' w d j)(l:Pulls d ρ ρ'){b:Nat}(m:Gv j ρ' b):∃id c,(some id,c)∈d/\live objs ρ id/\(ρ id).blk=b:=by
 obtain⟨i,⟨⟨o,e⟩,g⟩,rfl⟩:=m;obtain⟨p,f,rfl⟩:=k.at_ i o (Zb6 e);have a:=l p f;obtain⟨n,c⟩:=p
 cases n with
 |none=>simp only at a;rw[a]at g;cases g
 |some id=>exact⟨id,c,f,⟨k.here id c f,by rw[<-a];exact g⟩,by simp only at a;rw[a]⟩
end

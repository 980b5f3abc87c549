import Derived.Test.YtgehiiginclniaaGreatDoorK00
import Derived.Laws.Sem
import Derived.Laws.Cells
import Derived.Laws.StructEq
import Derived.ChangeKeysEq
import Derived.Laws.CopyRow
set_option linter.all false
set_option maxRecDepth 100000
namespace Go.Px
open Go.RowKit
def Zcf(l:List SV):∀n,lget l n=(l[n]?).getD .unk:=by
 induction l with
 |nil=>intro n;rfl
 |cons x b a=>intro n;cases n with
  |zero=>rfl
  |succ n=>simpa[lget]using a n
def Zeh(l:List SV)(v:SV):∀n,lset l n v=l.set n v:=by
 induction l with
 |nil=>intro n;cases n<;>rfl
 |cons x b a=>intro n;cases n with
  |zero=>rfl
  |succ n=>simpa[lset]using a n
def Za0(l:List SV):lenN l=l.length:=by
 induction l with
 |nil=>rfl
 |cons x b a=>simpa[lenN]using a
def Ze9:∀(n:Nat) (l:List SV),takeN n l=l.take n:=by
 intro n
 induction n with
 |zero=>intro l;simp[takeN]
 |succ n a=>intro l;cases l with
  |nil=>simp[takeN]
  |cons x b=>simp[takeN,a]
def Zfa:∀(n:Nat) (l:List SV),dropN n l=l.drop n:=by
 intro n
 induction n with
 |zero=>intro l;simp[dropN]
 |succ n a=>intro l;cases l with
  |nil=>simp[dropN]
  |cons x b=>simp[dropN,a]
def hmapL_getElem?(g:SV→SV):∀(a:List SV) (i:Nat),(hmapL g a)[i]?=(a[i]?).map (hmap g)
 | [],i=>by simp[hmapL]
 |c::a,0=>by simp[hmapL]
 |c::a,i+1=>by simpa[hmapL]using hmapL_getElem? g a i
def Zbm(g:SV→SV):∀(a:List SV),(hmapL g a).length=a.length
 | []=>rfl
 |c::a=>by simp[hmapL,Zbm g a]
def ungdAll_getElem?(d:Nat):∀(a:List SV) (i:Nat),(Zfu d a)[i]?=(a[i]?).map (Zi9 d)
 | [],i=>by simp[Zfu]
 |c::a,0=>by simp[Zfu]
 |c::a,i+1=>by simpa[Zfu]using ungdAll_getElem? d a i
def Zei(n:Nat):∀(a:List SV),(Zfu n a).length=a.length
 | []=>rfl
 |c::a=>by simp[Zfu,Zei n a]
def Zaj{k n:Nat}(h:k≠n):Nat.beq k n=false:=by
 cases hb:Nat.beq k n
 ·rfl
 ·exact absurd (Nat.eq_of_beq_eq_true hb) h
def Zbf(k:Nat)(o:Ob)(a:List (Nat×Ob))(n:Nat):oget ((k,o)::a) n=if k=n then some o else oget a n:=by
 simp only[oget];by_cases h:k=n
 ·subst h;simp
 ·simp[Zaj h,h]
def Zk5(a b:List (Nat×Ob))(id:Nat):oget (a++b) id=(oget a id).or (oget b id):=by
 induction a with
 |nil=>simp[oget]
 |cons x d c=>
  obtain⟨k,o⟩:=x;rw[List.cons_append,Zbf,Zbf,c]
  split<;>simp
def Zpt(a:List (Nat×Ob))(n m:Nat):oget (odel a n) m=if n=m then none else oget a m:=by
 induction a with
 |nil=>simp[odel,oget]
 |cons x a b=>
  obtain⟨k,o⟩:=x;simp only[odel];by_cases h:k=n
  ·subst h;simp only[Y5,cond_true,b,Zbf]
   split<;>simp_all
  ·simp only[Zaj h,cond_false,Zbf,b];by_cases hm:n=m
   ·subst hm;simp[h]
   ·simp[hm]
def Zhq(a:List (Nat×Ob))(n m:Nat)(o:Ob):oget (oput a n o) m=if n=m then(oget a m).map (λ_=>o)else oget a m:=by
 induction a with
 |nil=>simp[oput,oget]
 |cons x a b=>
  obtain⟨k,p⟩:=x;simp only[oput];by_cases h:k=n
  ·subst h;simp only[Y5,cond_true,Zbf,b];by_cases hm:k=m<;>simp[hm]
  ·simp only[Zaj h,cond_false,Zbf,b];by_cases hm:n=m
   ·subst hm;simp[h]
   ·simp[hm]
def Zgf(g:SV→SV)(a:List (Nat×Ob))(m:Nat):oget (hmapO g a) m=(oget a m).map (Zd4 g):=by
 induction a with
 |nil=>simp[hmapO,oget]
 |cons x a b=>
  obtain⟨k,o⟩:=x;simp only[hmapO,Zbf,b]
  split<;>simp
def HLe.refl(h:Hp):HLe h h:=λ_ _ _ e=>e
def HLe.trans{a b c:Hp}(x:HLe a b)(y:HLe b c):HLe a c:=λb o v e=>y b o v (x b o v e)
def Keeps.refl(G:Nat→Prop)(w:World):Keeps G w w:=⟨rfl,rfl,rfl,Nat.le_refl _,λ_ _ _=>rfl⟩
def Keeps.trans{G:Nat→Prop}{a b c:World}(x:Keeps G a b)(y:Keeps G b c):Keeps G a c:=
 ⟨y.os.trans x.os,y.tape.trans x.tape,y.output.trans x.output,Nat.le_trans x.size y.size,λk d e=>(y.block k (Nat.lt_of_lt_of_le d x.size) e).trans (x.block k d e)⟩
def Keeps.step{G d:Nat→Prop}{a b c:World}(x:Keeps G a b)(y:Keeps d b c)(h:∀k,d k→a.heap.size≤k∨G k):Keeps G a c:=
 ⟨y.os.trans x.os,y.tape.trans x.tape,y.output.trans x.output,Nat.le_trans x.size y.size,λk f g=>by
  rw[y.block k (Nat.lt_of_lt_of_le f x.size) (λe=>by rcases h k e with h|h;omega;exact g h)]
  exact x.block k f g⟩
def Keeps.below{G:Nat→Prop}{a b:World}(x:Keeps G a b)(h:∀k,¬G k):Below a.heap.size a b:=
 ⟨x.os,x.tape,x.output,x.size,λk c=>x.block k c (h k)⟩
def PRep.mono{h C:Hp}(k:HLe h C){v:Value}{s:SV}(r:PRep h v s):PRep C v s:=by
 induction r with
 |val v=>exact .val v
 |agg a n o _ d=>exact .agg a n o d
 |empty p e q g u w E=>exact .empty p e q g u w E
 |slice b off e q rows g a x F y _ G u w z d=>exact .slice b off e q rows g a x F (λi r j c D l=>k _ _ _ (y i r j c D l)) d G u w z
 |ref b A off cells a y _ d=>exact .ref b A off cells a (λj c l=>k _ _ _ (y j c l)) d
 |clo f a n o _ d=>exact .clo f a n o d
 |ifc t v s _ d=>exact .ifc t v s d
 |arr a H m J K L=>exact .arr a H m J K L
 |unk v=>exact .unk v
def Rep.mono{h m:Hp}(o:HLe h m){q:Nat→Loc}{v:Value}{s:SV}(r:Rep h q v s):Rep m q v s:=by
 induction r with
 |pure v s b=>exact .pure v s (b.mono o)
 |agg d f g _ j=>exact .agg d f g j
 |tup d f g _ j=>exact .tup d f g j
 |ptr id off=>exact .ptr id off
 |bsl id off n=>exact .bsl id off n
 |osl0 id p a=>exact .osl0 id p a
 |osl id a=>exact .osl id a
 |eptr id e i off a=>exact .eptr id e i off a
 |osv id l k c p u w x y b=>exact .osv id l k c p u w x y b
 |omp id=>exact .omp id
 |aptr id i=>exact .aptr id i
 |asl id l k t=>exact .asl id l k t
def Zbn:SV→Bool
 | .agg _| .tup _| .gd _ _ _=>false
 |_=>true
def Zk6{g:SV→SV}{s:SV}(a:Zbn s=true):hmap g s=g s:=by
 cases s<;>first|rfl|(simp[Zbn]at a)
def Rep.not_gd{h:Hp}{a:Nat→Loc}{v:Value}{t:Nat}{b:Bool}{x:SV}(r:Rep h a v (.gd t b x)):False:=by
 cases r with
 |pure _ _ c=>cases c
def PRep.turn{h D:Hp}{ρ':Nat→Loc}{g:SV→SV}(d:∀v s,Zbn s=true→PRep h v s→Rep D ρ' v (g s)){v:Value}{s:SV}(r:PRep h v s):Rep D ρ' v (hmap g s):=by
 induction r with
 |agg a n o _ F=>
  refine .agg a _ (by rw[Zbm];exact o) λi v c j e=>?_;rw[hmapL_getElem?]at e
  cases hx:n[i]? with
  |none=>simp[hx]at e
  |some x=>simp[hx]at e;subst e;exact F i v x j hx
 |val v=>exact d _ _ rfl (.val v)
 |empty p k q l u w G=>exact d _ _ rfl (.empty p k q l u w G)
 |slice b off k q rows l a y H z A J u w E=>exact d _ _ rfl (.slice b off k q rows l a y H z A J u w E)
 |ref b C off cells a z A=>exact d _ _ rfl (.ref b C off cells a z A)
 |clo f a n o e=>exact d _ _ rfl (.clo f a n o e)
 |ifc t v s j=>exact d _ _ rfl (.ifc t v s j)
 |arr a K m L M j=>exact d _ _ rfl (.arr a K m L M j)
 |unk v=>exact d _ _ rfl (.unk v)
def Rep.turn{h u:Hp}{w ρ':Nat→Loc}{g:SV→SV}(b:∀v s,Zbn s=true→Rep h w v s→Rep u ρ' v (g s)){v:Value}{s:SV}(r:Rep h w v s):Rep u ρ' v (hmap g s):=by
 induction r with
 |pure v s j=>exact j.turn (λv s z r=>b v s z (.pure _ _ r))
 |agg k m o _ q=>
  refine .agg k _ (by rw[Zbm];exact o) λi v c f a=>?_;rw[hmapL_getElem?]at a
  cases hx:m[i]? with
  |none=>simp[hx]at a
  |some x=>simp[hx]at a;subst a;exact q i v x f hx
 |tup k m o _ q=>
  refine .tup k _ (by rw[Zbm];exact o) λi v c f a=>?_;rw[hmapL_getElem?]at a
  cases hx:m[i]? with
  |none=>simp[hx]at a
  |some x=>simp[hx]at a;subst a;exact q i v x f hx
 |ptr id off=>exact b _ _ rfl (.ptr id off)
 |bsl id off n=>exact b _ _ rfl (.bsl id off n)
 |osl0 id p d=>exact b _ _ rfl (.osl0 id p d)
 |osl id d=>exact b _ _ rfl (.osl id d)
 |eptr id e i off d=>exact b _ _ rfl (.eptr id e i off d)
 |osv id l t c p A C D a j=>exact b _ _ rfl (.osv id l t c p A C D a j)
 |omp id=>exact b _ _ rfl (.omp id)
 |aptr id i=>exact b _ _ rfl (.aptr id i)
 |asl id l t y=>exact b _ _ rfl (.asl id l t y)
def Zwp{h:Hp}{v:Value}{s:SV}(n:Nat)(a:Zbn s=true)(r:PRep h v s):killG n s=s:=by
 cases r<;>first|rfl|(simp[Zbn]at a)
def Rep.kill(n:Nat){h g:Hp}(o:HLe h g){q ρ':Nat→Loc}(a:∀i,i≠n→ρ' i=q i){v:Value}{s:SV}(r:Rep h q v s):Rep g ρ' v (hmap (killG n) s):=by
 refine r.turn λv s j r=>?_;have b:Rep g ρ' v .unk:=.pure _ _ (.unk _)
 cases r with
 |pure _ _ f=>rw[Zwp n j f];exact .pure _ _ (f.mono o)
 |agg=>simp[Zbn]at j
 |tup=>simp[Zbn]at j
 |ptr id off=>
  by_cases h:id=n
  ·subst h;simp only[killG,Y5,cond_true];exact b
  ·simp only[killG,Zaj h,cond_false];rw[←a id h];exact .ptr id off
 |bsl id off k=>
  by_cases h:id=n
  ·subst h;simp only[killG,Y5,cond_true];exact b
  ·simp only[killG,Zaj h,cond_false];rw[←a id h];exact .bsl id off k
 |osl0 id p d=>
  by_cases h:id=n
  ·subst h;simp only[killG,Y5,cond_true];exact b
  ·simp only[killG,Zaj h,cond_false];exact .osl0 id p (by rw[a id h];exact d)
 |osl id d=>
  by_cases h:id=n
  ·subst h;simp only[killG,Y5,cond_true];exact b
  ·simp only[killG,Zaj h,cond_false];rw[←a id h]at d⊢;exact .osl id d
 |eptr id e i off d=>
  by_cases h:id=n
  ·subst h;simp only[killG,Y5,cond_true];exact b
  ·simp only[killG,Zaj h,cond_false];rw[←a id h]at d⊢;exact .eptr id e i off d
 |osv id l m c p u w x y f=>
  by_cases h:id=n
  ·subst h;simp only[killG,Y5,cond_true];exact b
  ·simp only[killG,Zaj h,cond_false];exact .osv id l m c p u w x (by rw[a id h];exact y) (by rw[a id h];exact f)
 |omp id=>
  by_cases h:id=n
  ·subst h;simp only[killG,Y5,cond_true];exact b
  ·simp only[killG,Zaj h,cond_false];rw[←a id h];exact .omp id
 |aptr id i=>
  by_cases h:id=n
  ·subst h;simp only[killG,Y5,cond_true];exact b
  ·simp only[killG,Zaj h,cond_false];rw[←a id h];exact .aptr id i
 |asl id l m t=>
  by_cases h:id=n
  ·subst h;simp only[killG,Y5,cond_true];exact b
  ·simp only[killG,Zaj h,cond_false];rw[←a id h];exact .asl id l m t
def PRep.tok0{h:Hp}{v:Value}{c:Nat}{rows:LL}{tok:Nat}(r:PRep h v (.slice c rows tok)):PRep h v (.slice c rows 0):=by
 cases r with
 |empty p a _ _ f g i=>exact .empty p a c 0 (by omega) (by omega) i
 |slice b off a _ _ _ j d k l m n f g e=>exact .slice b off a c rows 0 j d k l m n (by omega) (by omega) e
def PRep.fix{h:Hp}{v:Value}{c a:Nat}{rows:LL}{tok:Nat}(r:PRep h v (.slice a rows tok))(e:a=c∨a=0):PRep h v (.slice c rows tok):=by
 rcases e with rfl|rfl
 ·exact r
 ·cases r with
  |empty p d _ _ f g i=>exact .empty p d _ _ f g i
  |slice _ _ _ _ _ _ _ b=>exact absurd b (Nat.lt_irrefl 0)
def HSub.lt{h:Hp}{w:World}{b o:Nat}{v:Value}(a:HSub h w)(e:h b o=some v):b<w.heap.size:=by
 have:=a b o v e;unfold World.cell? at this;simp only[]at this
 rcases YT b w.heap.size with h'|h'
 ·exact h'
 ·rw[Yk h']at this;cases this
end Go.Px
namespace Go.Px
open Go.RowKit
def TRep.of_rep{h:Hp}{ρ:Nat→Loc}{b:Array Value}{v:Value}{s:SV}(c:∀t w x,s≠ .gd t w x)(r:Rep h ρ v s):TRep h ρ b v s:=by
 cases s<;>first|exact r|exact absurd rfl (c _ _ _)
def TRep.of_rep'{h:Hp}{ρ:Nat→Loc}{b:Array Value}{v:Value}{s:SV}(r:Rep h ρ v s):TRep h ρ b v s:=
 .of_rep (λt w x e=>by subst e;exact r.not_gd) r
def TRep.rep_unk{h:Hp}{ρ:Nat→Loc}(b:Array Value)(v:Value):TRep h ρ b v .unk:=Rep.pure _ _ (.unk _)
def TRep.carry{h g:Hp}{ρ c:Nat→Loc}{k f:Array Value}{v:Value}{s d:SV}
  (n:∀t w x,s= .gd t w x→d= .unk∨∃i,d= .gd t w i∧f.getD t undef=k.getD t undef∧(Rep h ρ v x→Rep g c v i))
  (o:(∀t w x,s≠ .gd t w x)→(∀t w x,d≠ .gd t w x)∧(Rep h ρ v s→Rep g c v d)) (r:TRep h ρ k v s):TRep g c f v d:=by
 by_cases hs:∃t w x,s= .gd t w x
 ·obtain⟨t,w,x,rfl⟩:=hs
  rcases n t w x rfl with rfl|⟨i,rfl,ht,j⟩
  ·exact .rep_unk _ _
  ·simp only[TRep]at r⊢;rw[ht];exact r.elim (λ⟨a,b⟩=>Or.inl ⟨a,j b⟩) Or.inr
 ·have m:∀t w x,s≠ .gd t w x:=λt w x e=>hs ⟨t,w,x,e⟩;obtain⟨l,j⟩:=o m;refine .of_rep l (j ?_)
  cases s<;>first|exact r|exact absurd rfl (m _ _ _)
def TRep.turn{h c:Hp}{ρ ρ':Nat→Loc}{d:Array Value}{v:Value}{s:SV}{g:SV→SV}(f:∀s,Rep h ρ v s→Rep c ρ' v (hmap g s))(r:TRep h ρ d v s):TRep c ρ' d v (hmap g s):=by
 by_cases hs:∃t w x,s= .gd t w x
 ·obtain⟨t,w,x,rfl⟩:=hs;simp only[TRep,hmap]at r⊢;exact r.elim (λ⟨a,b⟩=>Or.inl ⟨a,f x b⟩) Or.inr
 ·have i:∀t w x,s≠ .gd t w x:=λt w x e=>hs ⟨t,w,x,e⟩;refine TRep.of_rep' (f s ?_)
  cases s<;>first|exact r|exact absurd rfl (i _ _ _)
def TRep.mono{h c:Hp}{ρ:Nat→Loc}{d:Array Value}{v:Value}{s:SV}(b:HLe h c)(r:TRep h ρ d v s):TRep c ρ d v s:=
 r.carry (λt w x e=>.inr ⟨x,e,rfl,λr=>r.mono b⟩) (λf=>⟨f,λr=>r.mono b⟩)
def Zpa{d:Nat}{s:SV}(b:∀t w x,s≠ .gd t w x):Zi9 d s=s:=by
 cases s<;>first|rfl|exact absurd rfl (b _ _ _)
def Zgn(d:Nat)(w:Bool)(x:SV):Zi9 d (.gd d w x)= .unk:=by simp[Zi9]
def Zi6{d t:Nat}(h:d≠t)(w:Bool)(x:SV):Zi9 d (.gd t w x)= .gd t w x:=by simp[Zi9,Zaj h]
def getD_set_ne'{b:Array Value}{d t:Nat}(v:Value)(h:d≠t):(b.setIfInBounds d v).getD t undef=b.getD t undef:=by
 simp[Yb h]
def upd(ρ:Nat→Loc)(id:Nat)(l:Loc):Nat→Loc:=λi=>if i=id then l else ρ i
def Zab(ρ:Nat→Loc)(id:Nat)(l:Loc):upd ρ id l id=l:=by simp[upd]
def Zi7(ρ:Nat→Loc){id i:Nat}(l:Loc)(h:i≠id):upd ρ id l i=ρ i:=by simp[upd,h]
section
variable{X:Cx}{h:Hp}{ρ:Nat→Loc}{st:St}{a:Act}{w:World}
def FitsAt.put(F:FitsAt X h ρ st a w)(d:Option Nat){v:Value}{s:SV}(r:TRep h ρ a.tmps v s):FitsAt X h ρ (st.put d s) (a.put d v) w:=by
 cases d with
 |none=>exact F
 |some d=>
  refine{F with size:=?_,tm:=?_,df:=F.df}
  ·simp[St.put,Act.put,Zeh,Zei,F.size]
  ·intro t k b;simp only[St.put,Zeh,Act.put]at b⊢;rw[List.getElem?_set]at b;by_cases hdt:d=t
   ·subst hdt;simp only[if_true]at b
    split at b
    next g=>
     cases b
     have f:d<a.tmps.size:=(by rw[F.size];rwa[Zei]at g);have j:(a.tmps.setIfInBounds d v).getD d undef=v:=(by simp[f]);rw[j];refine r.carry (λt w x e=>?_) (λc=>?_)
     ·subst e;by_cases hd:d=t
      ·subst hd;exact .inl (Zgn _ _ _)
      ·exact .inr ⟨x,Zi6 hd _ _,getD_set_ne' _ hd,id⟩
     ·rw[Zpa c];exact⟨c,id⟩
    ·cases b
   ·simp only[hdt,if_false]at b;rw[ungdAll_getElem?]at b
    cases hx:st.tmps[t]? with
    |none=>simp[hx]at b
    |some x=>
     simp[hx]at b;subst b;rw[getD_set_ne' _ hdt];refine(F.tm t x hx).carry (λi w' y e=>?_) (λc=>?_)
     ·subst e;by_cases hd:d=i
      ·subst hd;exact .inl (Zgn _ _ _)
      ·exact .inr ⟨y,Zi6 hd _ _,getD_set_ne' _ hd,id⟩
     ·rw[Zpa c];exact⟨c,id⟩
def OwnOK.mono{b:Hp}{f:World}{l:Loc}{g:Nat}{rows:LL}(r:OwnOK h w l g rows)(k:HLe h b)(m:f.heap[l.blk]?=w.heap[l.blk]?)
  (hno:∀o,h l.blk o=none→b l.blk o=none):OwnOK b f l g rows:=by
 obtain⟨d,t,fz,s,hs,hf,u⟩:=r.hblk
 exact{r with hblk:=⟨d,t,fz,by rw[m];exact s,hs,hf,λi n j c p q=>by
  obtain⟨v,e1,e2,x⟩:=u i n j c p q;exact⟨v,e1,e2.mono k,x⟩⟩,hh:=λo=>hno o (r.hh o),hfz:=λd t fz e=>r.hfz d t fz (by rw[←m];exact e),hcm:=r.hcm}
def ObOK.turn{j:Hp}{ρ':Nat→Loc}{D:World}{id:Nat}{o:Ob}{g:SV→SV}(u:∀v s,Rep h ρ v s→Rep j ρ' v (hmap g s))(E:HLe h j)(b:ρ' id=ρ id)
  (k:(ρ id).none=false→D.heap[(ρ id).blk]?=w.heap[(ρ id).blk]?) (l:(ρ id).none=false→∀x,h (ρ id).blk x=none→j (ρ id).blk x=none)
  (r:ObOK h ρ w id o):ObOK j ρ' D id (Zd4 g o):=by
 cases o with
 |box cells=>
  obtain⟨d,⟨z,t,f,F,n⟩,hno⟩:=r;refine⟨by rw[b];exact d,⟨z,t,by rw[b,k d];exact f,by rw[Zbm];exact F,λi v c G f=>?_⟩,λx=>by rw[b];exact l d x (hno x)⟩;rw[hmapL_getElem?]at f
  cases hx:cells[i]? with
  |none=>simp[hx]at f
  |some y=>simp[hx]at f;subst f;obtain⟨p,q⟩:=n i v y G hx;exact⟨u _ _ p,q⟩
 |own J rows=>
  rcases r with⟨d,e⟩|⟨d,r⟩
  ·exact .inl ⟨by rw[b];exact d,e⟩
  ·refine .inr ⟨by rw[b];exact d,?_⟩;rw[b];exact r.mono E (k d) (l d)
 |mp K=>obtain⟨d,⟨A,H,f,C⟩,hno⟩:=r;exact⟨by rw[b];exact d,⟨A,H,by rw[b,k d];exact f,C⟩,λx=>by rw[b];exact l d x (hno x)⟩
 |arr L m M=>obtain⟨d,⟨z,t,f,C⟩,hno⟩:=r;exact⟨by rw[b];exact d,⟨z,t,by rw[b,k d];exact f,C⟩,λx=>by rw[b];exact l d x (hno x)⟩
mutual
def Zqx:∀(s:SV),hmap (λs=>s) s=s
 | .agg b=>by simp[hmap,Zjs b]
 | .tup b=>by simp[hmap,Zjs b]
 | .gd t w v=>by simp[hmap,Zqx v]
 | .val _| .slice .. | .mapv _| .ref .. | .clo .. | .ifc .. | .ptr .. | .bsl .. | .osl _| .eptr .. | .osv .. | .omp _| .arr .. | .aptr .. | .asl .. | .unk=>by simp[hmap]
def Zjs:∀(l:List SV),hmapL (λs=>s) l=l
 | []=>rfl
 |c::cs=>by simp[hmapL,Zqx c,Zjs cs]
end
def Zx5(o:Ob):Zd4 (λs=>s) o=o:=by cases o<;>simp[Zd4,Zjs]
def ObOK.carry{c:Hp}{d:World}{id:Nat}{o:Ob}(b:HLe h c)
  (e:(ρ id).none=false→d.heap[(ρ id).blk]?=w.heap[(ρ id).blk]?) (f:(ρ id).none=false→∀x,h (ρ id).blk x=none→c (ρ id).blk x=none)
  (r:ObOK h ρ w id o):ObOK c ρ d id o:=by
 have:=r.turn (ρ':=ρ) (g:=λs=>s) (λv s q=>by rw[Zqx];exact q.mono b) b rfl e f;rwa[Zx5]at this
def ObOK.blk_lt{id:Nat}{o:Ob}(r:ObOK h ρ w id o)(c:(ρ id).none=false):(ρ id).blk<w.heap.size:=by
 have:∀x,w.heap[(ρ id).blk]?=some x→(ρ id).blk<w.heap.size:=λx f=>(Array.getElem?_eq_some_iff.1 f).1
 cases o with
 |box cells=>obtain⟨_,⟨d,t,b,_⟩,_⟩:=r;exact this _ b
 |own k rows=>
  rcases r with⟨e,_⟩|⟨_,r⟩
  ·rw[e]at c;cases c
  ·obtain⟨d,t,i,b,_⟩:=r.hblk;exact this _ b
 |mp l=>obtain⟨_,⟨g,j,b,_⟩,_⟩:=r;exact this _ b
 |arr n m p=>obtain⟨_,⟨d,t,b,_⟩,_⟩:=r;exact this _ b
def ObOK.hno{id:Nat}{o:Ob}(r:ObOK h ρ w id o)(b:(ρ id).none=false):∀x,h (ρ id).blk x=none:=by
 cases o with
 |box cells=>exact r.2.2
 |own c rows=>
  rcases r with⟨e,_⟩|⟨_,r⟩
  ·rw[e]at b;cases b
  ·exact r.hh
 |mp d=>exact r.2.2
 |arr f m g=>exact r.2.2
def Zik{c:World}(d:HSub h w)(g:∀b,b<w.heap.size→c.heap[b]?=w.heap[b]?):HSub h c:=λb o v e=>by
 have:=d b o v e;have f:=d.lt e;unfold World.cell? at this⊢;simp only[]at this⊢;rw[g b f];exact this
def Gl.le{h d:Hp}{w:World}(g:Gl h w)(b:HLe h d):Gl d w:=
 ⟨λp f i c e=>by
  obtain⟨v,j,k⟩:=g.cells p f i c e
  exact⟨v,b _ _ _ j,k.mono b⟩,g.size⟩
def Gl.off{h:Hp}{w:World}(g:Gl h w){b:List (Nat×Ob)}{ρ:Nat→Loc}(j:∀i,live b ρ i→∀o,h (ρ i).blk o=none):∀p∈Zbk,¬Gv b ρ p.1:=by
 rintro p d ⟨i,hi,e⟩;obtain⟨c,_⟩:=g.size p d;obtain⟨v,f,_⟩:=g.cells p d 0 _ (List.getElem?_eq_getElem c);rw[←e,j i hi 0]at f
 cases f
def ObOK.hnone{h:Hp}{ρ:Nat→Loc}{w:World}{id:Nat}{o:Ob}(k:ObOK h ρ w id o)(b:(ρ id).none=false):∀x,h (ρ id).blk x=none:=by
 cases o with
 |box cells=>exact k.2.2
 |own d rows=>
  rcases k with⟨c,_⟩|⟨_,h2⟩
  ·rw[c]at b;cases b
  ·exact h2.hh
 |mp e=>exact k.2.2
 |arr f m g=>exact k.2.2
def FitsAt.glob(F:FitsAt X h ρ st a w):Gl h w:=by
 refine⟨(F.gl.1.le F.mono).cells,λp b=>?_⟩;obtain⟨d,e,t,f,c,g⟩:=F.gl.1.size p b;refine⟨d,e,t,f,?_,g⟩
 rw[F.kp.block p.1 (by
  have:=Array.getElem?_eq_some_iff.1 c
  exact this.1) (F.gl.2 p b)]
 exact c
def FitsAt.grow{i:Hp}{j:World}(F:FitsAt X h ρ st a w)(c:HLe h i)(n:∀b,b<w.heap.size→j.heap[b]?=w.heap[b]?)
  (d:∀b,b<w.heap.size→∀o,h b o=none→i b o=none) (k:HSub i j) (l:Keeps X.G X.w j):FitsAt X i ρ st a j:=by
 have lt:=λid o f g=>ObOK.blk_lt (F.obj id o f) g;refine{F with tm:=λt s p=>(F.tm t s p).mono c,sub:=k,obj:=λid o f=>?_,mono:=F.mono.trans c,ext:=λb m q o e=>?_,kp:=l}
 ·exact(F.obj id o f).carry c (λg=>n _ (lt id o f g)) (λg x=>d _ (lt id o f g) x)
 ·exact d b (Nat.lt_of_lt_of_le m F.kp.size) o (F.ext b m q o e)
def FitsAt.world{c:World}(F:FitsAt X h ρ st a w)(d:∀b,b<w.heap.size→c.heap[b]?=w.heap[b]?)(f:Keeps X.G X.w c):FitsAt X h ρ st a c:=
 F.grow (HLe.refl h) d (λ_ _ _ e=>e) (Zik F.sub d) f
def FitsAt.turn{h':Hp}{ρ':Nat→Loc}{w':World}(F:FitsAt X h ρ st a w)(g:SV→SV)(objs':List (Nat×Ob))(hrep:∀v s,Rep h ρ v s→Rep h' ρ' v (hmap g s))
  (hobj:∀id o,oget objs' id=some o→ObOK h' ρ' w' id o) (hlive:∀i,live objs' ρ' i→live st.objs ρ i∧(ρ' i).blk=(ρ i).blk)
  (hsub:HSub h' w') (hle:HLe h h') (hext:∀b,b<X.w.heap.size→¬X.G b→∀o,h b o=none→h' b o=none) (hkp:Keeps X.G X.w w') (hpin:∀i,idOK i=false→ρ' i=ρ i):
  FitsAt X h' ρ' {tmps:=hmapL g st.tmps,objs:=objs'} a w' where
 size:=by simp[Zbm,F.size]
 tm:=λt s hs=>by
  simp only[hmapL_getElem?]at hs
  cases hx:st.tmps[t]? with
  |none=>simp[hx]at hs
  |some x=>simp[hx]at hs;subst hs;exact(F.tm t x hx).turn (λs r=>hrep _ s r)
 df:=F.df
 sub:=hsub
 obj:=hobj
 inj:=λi j hi hj hij=>by rw[(hlive i hi).2,(hlive j hj).2];exact F.inj i j (hlive i hi).1 (hlive j hj).1 hij
 own:=λi hi=>by rw[(hlive i hi).2];exact F.own i (hlive i hi).1
 mono:=F.mono.trans hle
 ext:=λb hb hg o e=>hext b hb hg o (F.ext b hb hg o e)
 kp:=hkp
 pin:=λi l e=>⟨by rw[hpin i (F.pin i l e).2];exact(F.pin i l e).1,(F.pin i l e).2⟩
 gl:=F.gl
def Zah{g:SV→SV}{c:List (Nat×Ob)}{m:Nat}{o:Ob}(e:oget (hmapO g c) m=some o):∃b,oget c m=some b∧o=Zd4 g b:=by
 rw[Zgf]at e
 cases h:oget c m with
 |none=>simp[h]at e
 |some b=>simp[h]at e;exact⟨b,rfl,e.symm⟩
def Zaf{b:List (Nat×Ob)}{n m:Nat}{o:Ob}(e:oget (odel b n) m=some o):m≠n∧oget b m=some o:=by
 rw[Zpt]at e
 split at e
 ·cases e
 next h=>exact⟨λx=>h x.symm,e⟩
def FitsAt.drop(F:FitsAt X h ρ st a w)(id:Nat){ρ':Nat→Loc}(b:∀i,i≠id→ρ' i=ρ i)(k:idOK id=true∨ρ' id=ρ id):FitsAt X h ρ' (st.drop id) a w:=by
 refine F.turn (killG id) _ (λv s r=>r.kill id (HLe.refl h) b) (λi o e=>?_) (λi f=>?_) F.sub (HLe.refl h) (λ_ _ _ _ e=>e) F.kp (λi f=>?_)
 ·obtain⟨g,j,rfl⟩:=Zah e;obtain⟨c,d⟩:=Zaf j;exact(F.obj i g d).turn (λv s r=>r.kill id (HLe.refl h) b) (HLe.refl h) (b i c) (λ_=>rfl) (λ_ _ e=>e)
 ·obtain⟨⟨o,e⟩,l⟩:=f;obtain⟨g,j,rfl⟩:=Zah e;obtain⟨c,d⟩:=Zaf j;rw[b i c]at l⊢;exact⟨⟨⟨g,d⟩,l⟩,rfl⟩
 ·by_cases e:i=id
  ·subst e
   rcases k with h|h
   ·rw[f]at h;cases h
   ·exact h
  ·exact b i e
def FitsAt.add(F:FitsAt X h ρ st a w)(id:Nat)(o:Ob)(hno:oget st.objs id=none)(l:ObOK h ρ w id o)
  (g:(ρ id).none=false→X.w.heap.size≤(ρ id).blk∨X.G (ρ id).blk) (d:(ρ id).none=false→∀i,live st.objs ρ i→(ρ i).blk≠(ρ id).blk):
  FitsAt X h ρ {st with objs:=(id,o)::st.objs} a w:=by
 have b:∀i,live ((id,o)::st.objs) ρ i→i=id∨live st.objs ρ i:=by
  rintro i ⟨⟨x,c⟩,hn⟩;rw[Zbf]at c
  split at c
  next e=>exact .inl e.symm
  ·exact .inr ⟨⟨x,c⟩,hn⟩
 refine{F with obj:=λi x c=>?_,inj:=λi j hi k f=>?_,own:=λi hi=>?_}
 ·simp only[Zbf]at c
  split at c
  next e=>subst e;cases c;exact l
  ·exact F.obj i x c
 ·rcases b i hi with rfl|hi'
  ·rcases b j k with rfl|hj'
   ·exact absurd rfl f
   ·exact YL (d hi.2 j hj')
  ·rcases b j k with rfl|hj'
   ·exact d k.2 i hi'
   ·exact F.inj i j hi' hj' f
 ·rcases b i hi with rfl|hi'
  ·exact g hi.2
  ·exact F.own i hi'
def Zl6(st:St)(id:Nat):oget (st.drop id).objs id=none:=by simp[St.drop,Zgf,Zpt]
def FitsAt.bind(F:FitsAt X h ρ st a w)(id:Nat)(j:idOK id=true)(o:Ob)(l:Loc)(p:ObOK h (upd ρ id l) w id (Zd4 (killG id) o))
  (d:l.none=false→X.w.heap.size≤l.blk∨X.G l.blk) (f:l.none=false→∀i,i≠id→live st.objs ρ i→(ρ i).blk≠l.blk):
  FitsAt X h (upd ρ id l) (st.bind id o) a w:=by
 have r:=F.drop id (ρ':=upd ρ id l) (λi g=>Zi7 ρ l g) (.inl j);refine r.add id _ (Zl6 st id) p (by rw[Zab];exact d) (λk i g=>?_);rw[Zab]at k⊢;obtain⟨⟨s,e⟩,b⟩:=g;obtain⟨m,q,rfl⟩:=Zah e;obtain⟨c,n⟩:=Zaf q;rw[Zi7 ρ l c]at b⊢;exact f k i c ⟨⟨m,n⟩,b⟩
def FitsAt.setOb(F:FitsAt X h ρ st a w)(id:Nat)(o n:Ob)(m:World)(p:oget st.objs id=some o)(r:(ρ id).none=false)(s:ObOK h ρ m id n)
  (f:∀b,b≠(ρ id).blk→m.heap[b]?=w.heap[b]?) (t:Keeps (λb=>b=(ρ id).blk) w m):FitsAt X h ρ {st with objs:=oput st.objs id n} a m:=by
 have l:live st.objs ρ id:=⟨⟨_,p⟩,r⟩
 have hno:=(F.obj id _ p).hno r
 have d:∀i,live (oput st.objs id n) ρ i→live st.objs ρ i:=by
  rintro i ⟨⟨x,hx⟩,g⟩;rw[Zhq]at hx
  split at hx
  next e=>subst e;exact l
  ·exact⟨⟨x,hx⟩,g⟩
 refine{F with tm:=F.tm,sub:=λb o v e=>?_,obj:=λi x c=>?_,inj:=λi j c u=>F.inj i j (d i c) (d j u),own:=λi c=>F.own i (d i c),kp:=?_}
 ·have q:b≠(ρ id).blk:=λq=>by subst q;rw[hno o]at e;cases e
  have:=F.sub b o v e;unfold World.cell? at this⊢;simp only[]at this⊢;rw[f b q];exact this
 ·simp only[Zhq]at c;by_cases hii:id=i
  ·subst hii;rw[if_pos rfl,p]at c
   cases c
   exact s
  ·rw[if_neg hii]at c;refine(F.obj i x c).carry (HLe.refl h) (λg=>f _ ?_) (λ_ _ e=>e);exact F.inj i id ⟨⟨x,c⟩,g⟩ l (YL hii)
 ·refine F.kp.step t (λk y=>?_);subst y;exact F.own id l
end
end Go.Px
namespace Go.Px
open Go.RowKit
def Zbp(b off n:Nat):(⟨b,off,none⟩:Addr).add n=⟨b,off+n,none⟩:=by
 unfold Addr.add;split<;>simp_all
def run_typeInfo'{P:Program}(w:World){t:TypeId}{i:TypeInfo}(h:P.info? t=some i):(typeInfo t).run P w= .ok i w:=by
 simp[typeInfo,h]
def Zn5{P:Program}{t:TypeId}{n:Nat}(h:szT P t=some n):∃i,P.info? t=some i∧i.size=n:=by
 unfold szT at h
 cases hi:P.info? t with
 |none=>simp[hi]at h
 |some i=>simp[hi]at h;exact⟨i,rfl,h⟩
def run_sizeOf'{P:Program}(w:World){t:TypeId}{n:Nat}(h:szT P t=some n):(sizeOf t).run P w= .ok n w:=by
 obtain⟨i,b,rfl⟩:=Zn5 h;simp[sizeOf,run_typeInfo' w b]
def run_isAgg'{P:Program}(w:World){t:TypeId}{d:TypeDesc}(h:P.underlying t=some d):(isAgg t).run P w= .ok (Zas P t) w:=by
 simp only[isAgg,Sem.run_bind,run_underlying h,Result.andThen_ok,Zas,h]
 cases d<;>rfl
section
variable{X:Cx}{h:Hp}{ρ:Nat→Loc}{st:St}{a:Act}{w:World}{P:Program}
def TRep.out{b:Array Value}{v:Value}{s:SV}(c:∀t w x,s≠ .gd t w x)(r:TRep h ρ b v s):Rep h ρ v s:=by
 cases s<;>first|exact r|exact absurd rfl (c _ _ _)
def Zn6{b:List (Nat×Bool)}{s:SV}(c:∀t w x,s≠ .gd t w x):ungd b s=s:=by
 cases s<;>first|rfl|exact absurd rfl (c _ _ _)
def FitsAt.slot(F:FitsAt X h ρ st a w)(c:List (Nat×Bool))(j:∀g∈c,a.tmps.getD g.1 undef= .bool g.2)(t:Nat):
  Rep h ρ (a.tmps.getD t undef) (ungd c (lget st.tmps t)):=by
 rw[Zcf]
 cases hx:st.tmps[t]? with
 |none=>exact .pure _ _ (.unk _)
 |some s=>
  have r:=F.tm t s hx;simp only[Ye];by_cases hs:∃t w x,s= .gd t w x
  ·obtain⟨d,k,x,rfl⟩:=hs;simp only[ungd]
   cases hb:c.any (λg=>Nat.beq g.1 d&&(g.2==k))with
   |false=>exact .pure _ _ (.unk _)
   |true=>
    obtain⟨g,f,b⟩:=List.any_eq_true.1 hb;simp only[Bool.and_eq_true,beq_iff_eq]at b;have e1:g.1=d:=Nat.eq_of_beq_eq_true b.1;have:=j g f;rw[e1,b.2]at this
    rcases r with⟨_,r⟩|⟨hne,_⟩
    ·exact r
    ·exact absurd this hne
  ·have i:∀t w x,s≠ .gd t w x:=λt w x e=>hs ⟨t,w,x,e⟩;rw[Zn6 i];exact r.out i
def FitsAt.global_rep(F:FitsAt X h ρ st a w)(g:Nat):PRep h (a.eval (.global g)) (Zft g Zbk):=by
 rcases Zb8 g Zbk with e|⟨cs,hm,e⟩
 ·rw[e];exact .unk _
 ·rw[e];have f:=F.gl.1.cells _ hm;refine .ref g 0 0 cs (λj=>(X.h g j).getD undef) (λj c d=>?_) (λj c d=>?_)
  ·obtain⟨v,b,_⟩:=f j c d;rw[Yc];simp only[]at b;rw[b];exact F.mono _ _ _ b
  ·obtain⟨v,b,i⟩:=f j c d;simp only[]at b;rw[b];exact i.mono F.mono
def FitsAt.operand(F:FitsAt X h ρ st a w)(d:List (Nat×Bool))(l:∀g∈d,a.tmps.getD g.1 undef= .bool g.2)(x:Operand):
  Rep h ρ (a.eval x) (ungd d (ev st x)):=by
 cases x with
 |tmp t=>exact F.slot d l t
 |const v=>
  by_cases h1:∃b,v= .agg b
  ·obtain⟨b,rfl⟩:=h1;show Rep h ρ (.agg b) (.agg (b.toList.map .val));refine .pure _ _ (.agg b _ (by simp) λi v c m j=>?_);simp at j;obtain⟨x,k,rfl⟩:=j;rw[m]at k;cases k;exact .val v
  ·by_cases h2:v= .slice none 0 0
   ·subst h2;show Rep h ρ (.slice none 0 0) (.slice 0 [] 1);exact .pure _ _ (.empty none 0 0 1 (by omega) (by omega) (by simp))
   ·have:ev st (.const v)= .val v:=by
     unfold ev
     split<;>simp_all
    rw[this];exact .pure _ _ (.val _)
 |global g=>
  have n:∀t w x,Zft g Zbk≠ .gd t w x:=λt w x e=>by
   rcases Zb8 g Zbk with e'|⟨b,_,e'⟩<;>rw[e']at e<;>cases e
  show Rep h ρ _ (ungd d (Zft g Zbk));rw[Zn6 n];exact .pure _ _ (F.global_rep g)
 |func f=>exact .pure _ _ (.clo f #[] [] rfl (by simp))
def SameB(c:Option Nat)(w d:World):Prop:=∀b,c=some b→d.heap[b]?=w.heap[b]?
def SameB.refl(b:Option Nat)(w:World):SameB b w w:=λ_ _=>rfl
def Zfz{w c:World}{b o:Nat}{v:Value}(x:c.heap[b]?=w.heap[b]?)(e:w.cell? ⟨b,o,none⟩=some v):c.cell? ⟨b,o,none⟩=some v:=by
 unfold World.cell? at e⊢;rw[x];exact e
def fblk(P:Program)(a:Act)(o:Oper):Option Nat:=
 match Zbu P o.op with
 |none=>none
 |some x=>match a.eval x with
  | .pointer (some ad)=>some ad.block
  | .map (some r)=>some r
  | .slice (some ad) (_+1) _=>some ad.block
  |_=>none
def Zir(w:World)(b off:Nat)(c:List Value):Prop:=∀(j:Nat) v,c[j]?=some v→w.cell? ⟨b,off+j,none⟩=some v
def Zdd{b base off:Nat}{vs:List Value}{cs:List SV}{t:TypeId}{s:SV}(o:Zir w b base vs)(y:vs.length=cs.length)
  (p:∀(j:Nat) v c,vs[j]?=some v→cs[j]?=some c→Rep h ρ v c) (e:partN P t off cs=some s):
  ∃v,(∀g:World,g.heap[b]?=w.heap[b]?→(loadVar t ⟨b,base+off,none⟩).run P g= .ok v g)∧Rep h ρ v s:=by
 unfold partN at e
 split at e
 ·cases e
 ·cases e
 ·rename_i d n q x;simp only[Za0,Ze9,Zfa,Zcf]at e
  cases hagg:Zas P t with
  |true=>
   simp only[hagg,cond_true]at e
   cases hb:Nat.ble (off+n) cs.length with
   |false=>simp[hb]at e
   |true=>
    simp[hb]at e;subst e;have u:=Nat.le_of_ble_eq_true hb;refine⟨.agg ((vs.drop off).take n).toArray,λg l=>?_,?_⟩
    ·have m:((vs.drop off).take n).length=n:=by simp;omega
     have:=run_loadCells_list (P:=P) g ⟨b,base+off,none⟩ ((vs.drop off).take n) (λj v f=>by
      rw[Zbp];rw[Y4]at f
      split at f
      ·rw[Y8]at f;have:=Zfz l (o (off+j) v f);rwa[←Ys]at this
      ·cases f)
     rw[m]at this;simp[loadVar,run_isAgg' g q,run_sizeOf' g x,hagg,this]
    ·refine .agg _ _ (by simp;omega) λi v c f k=>?_;simp only[Yn]at f;rw[Y4]at f k
     split at f
     next r=>rw[if_pos r]at k;rw[Y8]at f k;exact p _ v c f k
     ·cases f
  |false=>
   simp only[hagg,cond_false]at e
   cases hb:Nat.ble (off+1) cs.length with
   |false=>simp[hb]at e
   |true=>
    simp[hb]at e;have u:=Nat.le_of_ble_eq_true hb
    obtain⟨v,f⟩:∃v,vs[off]?=some v:=⟨vs[off]'(by omega),List.getElem?_eq_getElem (by omega)⟩
    obtain⟨c,hcs⟩:∃c,cs[off]?=some c:=⟨cs[off]'(by omega),List.getElem?_eq_getElem (by omega)⟩
    refine⟨v,λg l=>?_,?_⟩
    ·simp[loadVar,run_isAgg' g q,hagg,Zfz l (o off v f)]
    ·rw[hcs]at e;simp at e;subst e;exact p off v c f hcs
def ObOK.cells{id:Nat}{cells:List SV}(r:ObOK h ρ w id (.box cells)):∃e:List Value,Zir w (ρ id).blk 0 e∧e.length=cells.length∧
  ∀(j:Nat) v c,e[j]?=some v→cells[j]?=some c→Rep h ρ v c:=by
 obtain⟨_,⟨cs,t,i,g,b⟩,_⟩:=r;refine⟨cs.toList,λj v d=>?_,by simpa using g,λj v c d f=>(b j v c (by simpa using d) f).1⟩;have:cs[j]?=some v:=(by simpa using d);simp[World.cell?,i,this]
def Zjc(F:FitsAt X h ρ st a w){t:TypeId}{x:SV}{v:Value}{s:SV}(f:Rep h ρ v x)(d:Zto P t x st.objs=some s):
  ∃u p,v= .pointer (some p)∧(∀e:World,e.heap[p.block]?=w.heap[p.block]?→(Instr.loadAt t v).run P e= .ok u e)∧Rep h ρ u s:=by
 unfold Zto at d
 split at d
 next id off=>
  split at d
  next k y=>
   cases f with
   |pure _ _ n=>cases n
   |ptr=>obtain⟨vs,o,z,q⟩:=(F.obj id _ y).cells;obtain⟨u,l,r⟩:=Zdd (P:=P) o z q d;refine⟨u,_,rfl,λe f=>?_,r⟩;have l:=l e f;rw[Yc]at l;simp[Instr.loadAt,Instr.sureAddr,l]
  ·cases d
 next off k=>
  cases f with
  |pure _ _ n=>
   cases n with
   |ref b base _ _ vs A q=>
    have m:∀j,j<k.length→((List.range k.length).map vs)[j]?=some (vs j):=λj g=>by simp[g]
    obtain⟨u,l,r⟩:=Zdd (P:=P) (w:=w) (h:=h) (ρ:=ρ) (b:=b) (base:=base) (vs:=(List.range k.length).map vs) (λj v i=>by
      have g:j<k.length:=(by have:=(Y0.1 i).1;simpa using this);rw[m j g]at i;cases i
      exact F.sub _ _ _ (A j _ (List.getElem?_eq_getElem g))) (by simp) (λj v c i o=>by
      have g:j<k.length:=(Y0.1 o).1;rw[m j g]at i;cases i
      exact .pure _ _ (q j c o)) d
    refine⟨u,_,rfl,λe f=>?_,r⟩;simp[Instr.loadAt,Instr.sureAddr,l e f]
 ·cases d
def Zpv{t:TypeId}{x:SV}{f:Nat}{v:Value}{s:SV}(o:Rep h ρ v x)(c:Zyx P t x f=some s):
  ∃u,(∀w,(Instr.fieldAt t v f).run P w= .ok u w)∧Rep h ρ u s:=by
 unfold Zyx at c
 split at c
 ·cases c
 next n g=>
  split at c
  next m p=>
   have r:∃j:Array Field,P.underlying t=some (.struct j)∧j[f]?=some n:=by
    unfold Znp at g
    split at g
    next j k=>exact⟨j,k,g⟩
    ·cases g
   obtain⟨j,k,q⟩:=r
   split at c
   next id off=>
    cases c
    cases o with
    |pure _ _ d=>cases d
    |ptr=>exact⟨.pointer (some ⟨(ρ id).blk,off+n.offset,none⟩),λw=>by simp[Instr.fieldAt,Instr.sureAddr,run_underlying k,q,fieldPlace,run_sizeOf' w p,Zbp],.ptr _ _⟩
   next off y=>
    cases c
    cases o with
    |pure _ _ d=>
     cases d with
     |ref b l _ _ z A C=>refine⟨.pointer (some ⟨b,l+(off+n.offset),none⟩),λw=>by simp[Instr.fieldAt,Instr.sureAddr,run_underlying k,q,fieldPlace,run_sizeOf' w p,Zbp,Ys],?_⟩;exact .pure _ _ (.ref b l _ y z A C)
   next id e i off=>
    cases c
    cases o with
    |pure _ _ d=>cases d
    |eptr _ _ _ _ D=>exact⟨.pointer (some ⟨(ρ id).blk,(ρ id).off+i.toNat*(ρ id).sz+(off+n.offset),none⟩),λw=>by simp[Instr.fieldAt,Instr.sureAddr,run_underlying k,q,fieldPlace,run_sizeOf' w p,Zbp,Ys],.eptr id e i _ D⟩
   ·cases c
  ·cases c
def Rep.val_inv{v x:Value}(r:Rep h ρ v (.val x)):v=x:=by
 cases r with
 |pure _ _ b=>cases b;rfl
def Rep.ifc_inv{v:Value}{s:SV}(r:Rep h ρ v s)(b:isIfc s=true):(v= .nilIface∧Zhl s=true)∨∃c d,v= .iface c d∧Zhl s=false:=by
 cases r with
 |pure _ _ e=>
  cases e with
  |val=>
   cases v<;>first|exact .inl ⟨rfl,rfl⟩|exact .inr ⟨_,_,rfl,rfl⟩|exact Bool.noConfusion b
  |ifc t v s _=>exact .inr ⟨_,_,rfl,rfl⟩
  |_=>exact Bool.noConfusion b
 |_=>exact Bool.noConfusion b
def Rep.slice_inv{v:Value}{d:Nat}{rows:LL}{tok:Nat}(r:Rep h ρ v (.slice d rows tok)):∃b c,v= .slice b rows.length c:=by
 cases r with
 |pure _ _ e=>cases e with
  |empty=>exact⟨_,_,rfl⟩
  |slice=>exact⟨_,_,rfl⟩
def Rep.aptr_inv{v:Value}{id:Nat}{i:Int}(r:Rep h ρ v (.aptr id i)):v= .pointer (some ⟨(ρ id).blk,i.toNat,none⟩):=by
 cases r with
 |pure _ _ b=>cases b
 |aptr=>rfl
def Rep.asl_inv{v:Value}{id:Nat}{l c:Int}(r:Rep h ρ v (.asl id l c)):∃b,v= .slice (some ⟨(ρ id).blk,l.toNat,none⟩) (c-l).toNat b:=by
 cases r with
 |pure _ _ d=>cases d
 |asl _ _ _ b=>exact⟨b,rfl⟩
def Rep.arr_inv{v:Value}{c:IntKind}{m:Nat}{ns:List Int}(r:Rep h ρ v (.arr c m ns)):∃b:Array Value,v= .agg b∧ns.length=m∧b.toList=ns.map (Value.int c):=by
 cases r with
 |pure _ _ d=>
  cases d with
  |arr b _ _ _ e f=>exact⟨b,rfl,e,f⟩
def Rep.bsl_inv{v:Value}{id off n:Nat}(r:Rep h ρ v (.bsl id off n)):v= .slice (some ⟨(ρ id).blk,off,none⟩) n n:=by
 cases r with
 |pure _ _ b=>cases b
 |bsl=>rfl
def Rep.tup_inv{v:Value}{d:List SV}(r:Rep h ρ v (.tup d)):∃b:Array Value,v= .tuple b∧b.size=d.length∧∀(i:Nat) u c,b[i]?=some u→d[i]?=some c→Rep h ρ u c:=by
 cases r with
 |pure _ _ e=>cases e
 |tup b d f g=>exact⟨b,rfl,f,g⟩
def Zdp(b:BinOp)(t:TypeId)(x y:Operand)(k c:IntKind)(m n:Int)(P:Program)(w:World):(eqGuard b t x y (.int k m) (.int c n)).run P w= .ok () w:=by
 unfold eqGuard
 cases b<;>rfl
def Zrr(b:BinOp)(t:TypeId)(x y:Operand)(k c:FloatKind)(m n:Nat)(P:Program)(w:World):(eqGuard b t x y (.float k m) (.float c n)).run P w= .ok () w:=by
 unfold eqGuard
 cases b<;>rfl
def Zrs(b:BinOp)(t:TypeId)(x y:Operand)(k c:FloatKind)(m d n e:Nat)(P:Program)(w:World):(eqGuard b t x y (.complex k m d) (.complex c n e)).run P w= .ok () w:=by
 unfold eqGuard
 cases b<;>rfl
def real_go(c:Array TypeId)(t:TypeId)(k:FloatKind)(a b:Nat):Builtin.real_ c t #[.complex k a b]=pure (.float k a):=rfl
def imag_go(c:Array TypeId)(t:TypeId)(k:FloatKind)(a b:Nat):Builtin.imag_ c t #[.complex k a b]=pure (.float k b):=rfl
def Zw1(c:Array TypeId)(t:TypeId)(k:FloatKind)(a b:Nat):Builtin.complex_ c t #[.float k a,.float k b]=pure (.complex k a b):=by
 show(if k=k then _ else _)=_;rw[if_pos rfl]
def Zlb(b:BinOp)(t:TypeId)(x y:Operand)(m n:BA)(P:Program)(w:World):(eqGuard b t x y (.string m) (.string n)).run P w= .ok () w:=by
 unfold eqGuard
 cases b<;>rfl
def Zrt{b:BinOp}{k:IntKind}{m n:Int}{r:Value}(t:TypeId)(c:intOp b k m n=some r)(w:World):(binOp b t (.int k m) (.int k n)).run P w= .ok r w:=by
 cases b<;>simp[intOp]at c<;>subst c<;>simp[binOp,Op.intArith,Op.intCmp,Op.intBits,wadd,wsub,wmul,ieq,ine,ilt,ile,igt,ige,wand,wor,wxor]
def Zru{b:BinOp}{m n:BA}{r:Value}(t:TypeId)(c:strOp b m n=some r)(w:World):(binOp b t (.string m) (.string n)).run P w= .ok r w:=by
 cases b<;>simp[strOp]at c<;>subst c<;>simp[binOp,Op.stringOp,seq,sne,slt,sle,sgt,sge]
def Zcn{vs:Array Value}{cs:List SV}{t:TypeId}{off:Nat}{s:SV}(o:vs.size=cs.length)
  (g:∀(j:Nat) v c,vs[j]?=some v→cs[j]?=some c→Rep h ρ v c) (b:partN P t off cs=some s):
  ∃v,(∀w,(part t vs off).run P w= .ok v w)∧Rep h ρ v s:=by
 unfold partN at b
 split at b
 ·cases b
 ·cases b
 ·rename_i d n k m;simp only[Za0,Ze9,Zfa,Zcf]at b
  cases hagg:Zas P t with
  |true=>
   simp only[hagg,cond_true]at b
   cases hb:Nat.ble (off+n) cs.length with
   |false=>simp[hb]at b
   |true=>
    simp[hb]at b;subst b;have l:=Nat.le_of_ble_eq_true hb;refine⟨.agg (vs.extract off (off+n)),λw=>by simp[part,run_isAgg' w k,run_sizeOf' w m,hagg],?_⟩;refine .agg _ _ (by simp;omega) λi v c f e=>?_;rw[Array.getElem?_extract]at f;rw[Y4]at e
    split at e
    ·rw[Y8]at e
     split at f
     ·exact g _ v c f e
     ·cases f
    ·cases e
  |false=>
   simp only[hagg,cond_false]at b
   cases hb:Nat.ble (off+1) cs.length with
   |false=>simp[hb]at b
   |true=>
    simp[hb]at b;have l:=Nat.le_of_ble_eq_true hb
    obtain⟨v,f⟩:∃v,vs[off]?=some v:=⟨vs[off]'(by omega),Y1 (by omega)⟩
    obtain⟨c,hcs⟩:∃c,cs[off]?=some c:=⟨cs[off]'(by omega),List.getElem?_eq_getElem (by omega)⟩
    refine⟨v,λw=>by simp[part,run_isAgg' w k,hagg,f],?_⟩;rw[hcs]at b;simp at b;subst b;exact g off v c f hcs
def Rep.agg_inv'{v:Value}{b:List SV}(r:Rep h ρ v (.agg b)):∃vs:Array Value,v= .agg vs∧vs.size=b.length∧∀(i:Nat) u c,vs[i]?=some u→b[i]?=some c→Rep h ρ u c:=by
 cases r with
 |pure _ _ j=>cases j with
  |agg vs _ d e=>exact⟨vs,rfl,d,λi u c g f=>.pure _ _ (e i u c g f)⟩
 |agg vs _ d e=>exact⟨vs,rfl,d,e⟩
def eqA_sound:∀(n:Nat) (t:TypeId) (x y:SV) (r:Bool),eqA P n t x y=some r→∀(u v:Value),Rep h ρ u x→Rep h ρ v y→∀d w,(Op.equalIn (d+n) t u v).run P w= .ok r w:=by
 intro n
 induction n with
 |zero=>intro t x y r h;cases h
 |succ n ih=>
  intro t x y r g u v D E d w;simp only[eqA]at g;rw[show d+(n+1)=(d+n)+1 from rfl]
  split at g
  next a b o=>
   cases g
   rw[D.val_inv,E.val_inv];simp[Op.equalIn,run_underlying o,beqB]
  ·rename_i k0 k a k' b o;by_cases hk:k=k'
   ·subst hk;simp at g;subst g;rw[D.val_inv,E.val_inv];simp[Op.equalIn,run_underlying o,ieq]
   ·simp[hk]at g
  next a b o=>
   cases g
   rw[D.val_inv,E.val_inv,run_equalIn_string w (d+n) t a b o];rfl
  next fs xs ys o=>
   cases hst:P.stoodInHeld t with
   |true=>simp[hst]at g
   |false=>
    simp only[hst,cond_false]at g;obtain⟨R,rfl,F,G⟩:=D.agg_inv';obtain⟨T,rfl,H,J⟩:=E.agg_inv';have L:P.fieldsOf t=fs:=(by simp[Program.fieldsOf,o]);rw[run_equalIn_struct w (d+n) t R T (by rw[L];exact o) hst,L];clear L o;generalize fs.toList=l at g⊢
    induction l generalizing r with
    |nil=>simp at g;subst g;simp[Op.eqFields]
    |cons f l M=>
     simp only[W4]at g
     cases hn:(f.name== "_")with
     |true=>simp[hn]at g
     |false=>
      simp only[hn,cond_false]at g
      split at g
      ·rename_i p q z O Q s;rw[Yq]at g;obtain⟨e,K,rfl⟩:=g;obtain⟨U,A,V⟩:=Zcn (P:=P) F G O;obtain⟨W,C,Y⟩:=Zcn (P:=P) H J Q;have Z:=ih f.type p q e K U W V Y d w;have A:=A w;have C:=C w
       have a1:f.name≠ "_" :=by simpa using hn
       simp only[Op.eqFields,ne_eq,a1,not_false_eq_true,if_true,Sem.run_bind,A,C,Z,Result.andThen_ok]
       cases e with
       |false=>simp[band]
       |true=>simpa[band]using M z s
      ·cases g
  next m e xs ys o=>
   split at g
   ·cases g
   ·rename_i c hc;obtain⟨i,hi,a0⟩:=Zn5 hc;obtain⟨R,rfl,F,G⟩:=D.agg_inv';obtain⟨T,rfl,H,J⟩:=E.agg_inv';have N:P.cellsOf e=c:=(by simp[Program.cellsOf,hi,a0]);rw[run_equalIn_array w (d+n) R T o hi,N];clear o;generalize List.range m=l at g⊢
    induction l generalizing r with
    |nil=>simp at g;subst g;simp[Op.eqItems]
    |cons j l M=>
     simp only[W4]at g
     split at g
     ·rename_i p q z O Q s;rw[Yq]at g;obtain⟨e',K,rfl⟩:=g;obtain⟨U,A,V⟩:=Zcn (P:=P) F G O;obtain⟨W,C,Y⟩:=Zcn (P:=P) H J Q;have Z:=ih e p q e' K U W V Y d w;have A:=A w;have C:=C w;simp only[Op.eqItems,Sem.run_bind,A,C,Z,Result.andThen_ok]
      cases e' with
      |false=>simp[band]
      |true=>simpa[band]using M z s
     ·cases g
  ·cases g
def Zmp{f:BinOp}{t:TypeId}{x y s:SV}(n o:Operand){u v:Value}(k:(∃a b,x= .agg a∧y= .agg b)∨(∃a b,x= .val (.bool a)∧y= .val (.bool b)))(g:Rep h ρ u x)(i:Rep h ρ v y)(c:eqOp P f t x y=some s):
  ∃r,(∀w,(do eqGuard f t n o u v;binOp f t u v:Sem Value).run P w= .ok r w)∧Rep h ρ r s:=by
 have e:P.eqGuardType P.depth t=false→∀w,(eqGuard f t n o u v).run P w= .ok () w:=by
  intro d w
  rcases k with⟨a,b,rfl,rfl⟩|⟨a,b,rfl,rfl⟩
  ·obtain⟨p,rfl,_⟩:=g.agg_inv';obtain⟨q,rfl,_⟩:=i.agg_inv';exact run_eqGuard_agg w f t n o p q d
  ·rw[g.val_inv,i.val_inv];unfold eqGuard;cases f<;>rfl
 have l:∀w r,eqA P 6 t x y=some r→(binOp .eql t u v).run P w= .ok (.bool r) w∧(binOp .neq t u v).run P w= .ok (.bool !r) w:=by
  intro w r j;have z:=eqA_sound 6 t x y r j u v g i 9994 w;have m:(Op.equal t u v).run P w= .ok r w:=z
  rcases k with⟨a,b,rfl,rfl⟩|⟨a,b,rfl,rfl⟩
  ·obtain⟨p,rfl,_⟩:=g.agg_inv';obtain⟨q,rfl,_⟩:=i.agg_inv';constructor<;>simp[binOp,m]
  ·have e1:=g.val_inv;have e2:=i.val_inv;subst e1;subst e2;constructor<;>simp[binOp,m]
 unfold eqOp at c
 split at c
 ·cases d:P.eqGuardType P.depth t with
  |true=>simp[d]at c
  |false=>simp only[d,cond_false]at c;rw[Yq]at c;obtain⟨r,j,rfl⟩:=c;exact⟨.bool r,λw=>by simp[e d,(l w r j).1],.pure _ _ (.val _)⟩
 ·cases d:P.eqGuardType P.depth t with
  |true=>simp[d]at c
  |false=>simp only[d,cond_false]at c;rw[Yq]at c;obtain⟨r,j,rfl⟩:=c;exact⟨.bool (bnot r),λw=>by simp[e d,(l w r j).2,bnot],.pure _ _ (.val _)⟩
 ·cases c
def Zgy{v:Value}{c:SV}(b:Zbj c=true)(r:Rep h ρ v c):v.oneCell'=true:=by
 cases r with
 |pure _ _ d=>
  cases d with
  |val v=>cases v<;>first|rfl|(simp[Zbj]at b)
  |agg=>simp[Zbj]at b
  |empty=>rfl
  |slice=>rfl
  |ref=>rfl
  |clo=>rfl
  |ifc=>rfl
  |arr=>simp[Zbj]at b
  |unk=>simp[Zbj]at b
 |agg=>simp[Zbj]at b
 |tup=>simp[Zbj]at b
 |ptr=>rfl
 |bsl=>rfl
 |osl0=>rfl
 |osl=>rfl
 |eptr=>rfl
 |osv=>rfl
 |omp=>rfl
 |aptr=>simp[Zbj]at b
 |asl=>simp[Zbj]at b
def Zj0:∀{b:List SV},boxL b=true→∀(i:Nat) c,b[i]?=some c→Zbj c=true
 | [],_,i,c,h=>by simp at h
 |x::xs,hb,0,c,h=>by simp[boxL]at hb;simp at h;subst h;exact hb.1
 |x::xs,hb,i+1,c,h=>by simp[boxL]at hb;exact Zj0 hb.2 i c (by simpa using h)
def Zer{v:Value}{s:SV}(r:Rep h ρ v s)(j:boxL (cellsOf s)=true):v.cells.size=(cellsOf s).length∧
  ∀(i:Nat) u c,v.cells[i]?=some u→(cellsOf s)[i]?=some c→Rep h ρ u c∧u.oneCell'=true:=by
 by_cases hs:∃k,s= .agg k
 ·obtain⟨k,rfl⟩:=hs
  have l:∃d:Array Value,v= .agg d∧d.size=k.length∧∀(i:Nat) u c,d[i]?=some u→k[i]?=some c→Rep h ρ u c:=by
   cases r with
   |pure _ _ q=>cases q with
    |agg d _ g b=>exact⟨d,rfl,g,λi u c e f=>.pure _ _ (b i u c e f)⟩
   |agg d _ g b=>exact⟨d,rfl,g,b⟩
  obtain⟨d,rfl,g,b⟩:=l;refine⟨g,λi u c e f=>?_⟩;have:=b i u c e f;exact⟨this,Zgy (Zj0 j i c f) this⟩
 ·have m:cellsOf s=[s]:=by cases s<;>first|rfl|exact absurd ⟨_,rfl⟩ hs
  rw[m]at j⊢;have n:Zbj s=true:=by simp[boxL]at j;exact j
  have o:=Zgy n r
  have p:v.cells= #[v]:=by cases v<;>first|rfl|(simp[Value.oneCell']at o)
  rw[p];refine⟨rfl,λi u c e b=>?_⟩
  cases i with
  |zero=>simp at e b;subst e;subst b;exact⟨r,o⟩
  |succ i=>simp at e
def Zn7{v:Value}(h:Zdl v=true):v.oneCell'=true:=by
 cases v<;>first|rfl|(simp[Zdl]at h)
def Zjd(t:TypeId)(v:Value)(b:Zdl v=true):Rep h ρ v (Zd5 P t v)∧Zbj (Zd5 P t v)=true:=by
 unfold Zd5
 split
 ·split
  ·exact⟨.pure _ _ (.empty none 0 _ 1 (by omega) (by omega) (by simp)),rfl⟩
  ·exact⟨.pure _ _ (.empty none 0 _ 1 (by omega) (by omega) (by simp)),rfl⟩
 ·refine⟨.pure _ _ (.val _),?_⟩;have:=Zn7 b;unfold Zbj
  cases v<;>first|rfl|(simp[Value.oneCell']at this)
def Zht:∀(e:List TypeId) (d:List Value) (b:List SV),zeroCells P e d=some b→
  d.length=b.length∧boxL b=true∧∀(i:Nat) v c,d[i]?=some v→b[i]?=some c→Rep h ρ v c
 | [],[],b,hz=>by simp[zeroCells]at hz;subst hz;simp[boxL]
 | [],_::_,b,hz=>by simp[zeroCells]at hz
 |_::_,[],b,hz=>by simp[zeroCells]at hz
 |t::e,v::d,b,hz=>by
  simp only[zeroCells]at hz
  cases hp:Zdl v with
  |false=>simp[hp]at hz
  |true=>
   simp[hp]at hz;obtain⟨j,k,rfl⟩:=hz;obtain⟨l,m,n⟩:=Zht e d j k;have z:=Zjd (h:=h) (ρ:=ρ) (P:=P) t v hp;refine⟨by simp[l],by simp[boxL,z.2,m],λi u c f g=>?_⟩
   cases i with
   |zero=>simp at f g;subst f;subst g;exact z.1
   |succ i=>exact n i u c (by simpa using f) (by simpa using g)
def Zcx{t:TypeId}{z:SV}(b:Zkq P t=some z):∃v,(∀w,(zeroValue t).run P w= .ok v w)∧Rep h ρ v z∧boxL (cellsOf z)=true:=by
 unfold Zkq at b
 cases hi:P.info? t with
 |none=>simp[hi]at b
 |some i=>
  simp only[hi,Option.bind_some]at b
  split at b
  next e d=>simp at b;obtain⟨l,j,rfl⟩:=b;obtain⟨k,m,n⟩:=Zht (h:=h) (ρ:=ρ) _ _ _ j;refine⟨.agg e,λw=>by simp[zeroValue,run_typeInfo' w hi,d],.agg e l (by simpa using k) (λi v c f g=>n i v c (by simpa using f) g),m⟩
  next v o d=>
   cases hp:Zdl v with
   |false=>simp[hp]at b
   |true=>
    simp[hp]at b;subst b;have z:=Zjd (h:=h) (ρ:=ρ) (P:=P) t v hp;refine⟨v,λw=>by simp[zeroValue,run_typeInfo' w hi,d],z.1,?_⟩
    have:cellsOf (Zd5 P t v)=[Zd5 P t v]:=by
     unfold Zd5;split
     ·split<;>rfl
     ·rfl
    rw[this];simp[boxL,z.2]
  ·cases b
def Zcb:∀(n:Nat) (b l r:List SV),Zbh n b l=some r→n+b.length≤l.length∧r=l.take n++b++l.drop (n+b.length)
 |0,[],l,r,h=>by simp[Zbh]at h;subst h;simp
 |0,v::b,[],r,h=>by simp[Zbh]at h
 |0,v::b,x::xs,r,h=>by simp[Zbh]at h;obtain⟨d,c,rfl⟩:=h;obtain⟨e,f⟩:=Zcb 0 b xs d c;refine⟨by simp at e⊢;omega,?_⟩;subst f;simp[Nat.add_comm]
 |n+1,b,[],r,h=>by simp[Zbh]at h
 |n+1,b,x::xs,r,h=>by simp[Zbh]at h;obtain⟨d,c,rfl⟩:=h;obtain⟨e,f⟩:=Zcb n b xs d c;refine⟨by simp at e⊢;omega,?_⟩;subst f;have:n+1+b.length=(n+b.length)+1:=(by omega);simp[this]
def Zlc(g:Nat→Option (Nat×Nat)):∀(parts:List (Nat×SV)) (e:List (Nat×Value)) (cells b:List SV) (m:Array Value),fillN g cells parts=some b→
  e.length=parts.length→(∀(i:Nat) p q,parts[i]?=some p→e[i]?=some q→q.1=p.1∧Rep h ρ q.2 p.2)→m.size=cells.length→
  (∀(i:Nat) v c,m[i]?=some v→cells[i]?=some c→Rep h ρ v c)→
  ∃r,Instr.fill g m e=some r∧r.size=b.length∧∀(i:Nat) v c,r[i]?=some v→b[i]?=some c→Rep h ρ v c
 | [],[],cells,b,m,hf,_,_,hl,hr=>by simp[fillN]at hf;subst hf;exact⟨m,rfl,hl,hr⟩
 | [],_::_,_,_,_,_,hlen,_,_,_=>by simp at hlen
 |_::_,[],_,_,_,_,hlen,_,_,_=>by simp at hlen
 |(i,s)::parts,(i',v)::e,cells,b,m,hf,hlen,hp,hl,hr=>by
  obtain⟨e1,J⟩:=hp 0 (i,s) (i',v) rfl rfl;simp only at e1 J;subst e1;simp only[fillN]at hf
  split at hf
  ·cases hf
  next off n G=>
   cases hb:(boxL (cellsOf s)&&Nat.beq (lenN (cellsOf s)) n)with
   |false=>simp[hb]at hf
   |true=>
    simp only[hb,cond_true]at hf;simp only[Bool.and_eq_true]at hb
    split at hf
    ·cases hf
    ·rename_i t H;obtain⟨Q,K⟩:=Zer J hb.1;have T:(cellsOf s).length=n:=by rw[←Za0];exact Nat.eq_of_beq_eq_true hb.2
     obtain⟨R,rfl⟩:=Zcb _ _ _ _ H
     have y:∀(l:List Value) (k:Nat) (d:Array Value) (j:Nat),((l.zipIdx k).foldl (λt (c:Value×Nat)=>t.setIfInBounds (off+c.2) c.1) d)[j]?=
       if off+k≤j∧j<off+k+l.length∧j<d.size then l[j-(off+k)]? else d[j]?:=by
      intro l
      induction l with
      |nil=>intro k d j;simp;omega
      |cons x C D=>
       intro k d j;simp only[List.zipIdx_cons,List.foldl_cons];rw[D];simp only[WD,List.length_cons];by_cases hj:j=off+k
       ·subst hj;have:¬(off+(k+1)≤off+k∧off+k<off+(k+1)+C.length∧off+k<d.size):=(by omega);rw[if_neg this];by_cases hs:off+k<d.size
        ·rw[if_pos (by omega)];simp[hs]
        ·rw[if_neg (by omega)];simp[hs]
       ·rw[Yb (by omega)];by_cases f:off+(k+1)≤j∧j<off+(k+1)+C.length∧j<d.size
        ·rw[if_pos f,if_pos (by omega)];have:j-(off+k)=(j-(off+(k+1)))+1:=(by omega);rw[this];simp
        ·rw[if_neg f,if_neg (by omega)]
     have z:∀(l:List (Value×Nat)) (d:Array Value),(l.foldl (λt (c:Value×Nat)=>t.setIfInBounds (off+c.2) c.1) d).size=d.size:=by
      intro l;induction l with
      |nil=>intro d;rfl
      |cons x C D=>intro d;simp[D]
     obtain⟨r,L,M,N⟩:=Zlc g parts e _ b (v.cells.zipIdx.foldl (λt (c:Value×Nat)=>t.setIfInBounds (off+c.2) c.1) m) hf (by simpa using hlen)
      (λj p q E F=>hp (j+1) p q (by simpa using E) (by simpa using F)) (by
       rw[←YM,z];simp;omega) (λj u c o f=>by
       rw[←YM,Wv,y]at o;simp only[Nat.add_zero,Array.length_toList]at o;rw[List.append_assoc,List.getElem?_append]at f;have O:(List.take off cells).length=off:=by simp;omega
       rw[O]at f;by_cases c1:j<off
       ·rw[if_pos c1,Y4,if_pos c1]at f;rw[if_neg (by omega)]at o;exact hr j u c o f
       ·rw[if_neg c1,List.getElem?_append]at f;by_cases c2:j-off<(cellsOf s).length
        ·rw[if_pos c2]at f;rw[if_pos (by omega)]at o;exact(K _ u c (by simpa using o) f).1
        ·rw[if_neg c2,Y8]at f;rw[if_neg (by omega)]at o
         exact hr _ u c o (by rw[←f];congr 1;omega))
     refine⟨r,?_,M,N⟩;unfold Instr.fill;rw[G];have A:¬((v.cells.size≠n||off+v.cells.size>m.size)=true):=by simp;omega
     simp only[];rw[if_neg A];exact L
def Zmq{P:Program}(w:World):∀(l:List Field),(∀f∈l,(szT P f.type).isSome=true)→(l.mapM λf=>do pure (f.offset,←sizeOf f.type):Sem (List (Nat×Nat))).run P w= .ok (l.map λf=>(f.offset,(szT P f.type).getD 0)) w
 | [],_=>by simp
 |f::l,h=>by obtain⟨n,b⟩:=W6.1 (h f (by simp));have d:=Zmq w l (λg c=>h g (by simp[c]));simp only[Wa,Sem.run_bind,run_sizeOf' w b,Result.andThen_ok,Sem.run_pure,d,List.map_cons,b,Ye]
def Zn8{t:TypeId}{parts:List (Nat×SV)}{vparts:Array (Nat×Value)}{s:SV}(b:Zq6 P t parts=some s)(D:vparts.size=parts.length)
  (E:∀(i:Nat) p q,parts[i]?=some p→vparts[i]?=some q→q.1=p.1∧Rep h ρ q.2 p.2):
  ∃v,(∀w,(Instr.build t vparts).run P w= .ok v w)∧Rep h ρ v s:=by
 unfold Zq6 at b
 cases hagg:Zq5 P t with
 |false=>simp[hagg]at b
 |true=>
  simp only[hagg,cond_true]at b
  split at b
  ·rename_i F G;simp at b;obtain⟨r,u,rfl⟩:=b;obtain⟨z,x,H,N⟩:=Zcx (h:=h) (ρ:=ρ) G;obtain⟨J,rfl,y,A⟩:=H.agg_inv';obtain⟨j,C,K,L⟩:=Zlc (Zio P t) parts vparts.toList F r J u (by simpa using D) (λi p q m o=>E i p q m (by simpa using o)) y A;refine⟨.agg j,λw=>?_,.agg j r K L⟩;unfold Instr.build;simp only[Sem.run_bind,x,Result.andThen_ok,Value.cells];unfold Zq5 at hagg
   cases hu:P.underlying t with
   |none=>simp[hu]at hagg
   |some d=>
    rw[run_underlying hu];simp only[Result.andThen_ok];rw[hu]at hagg
    cases d with
    |struct l=>
     simp only[List.all_eq_true]at hagg;simp only[Sem.run_bind,Array.mapM_eq_mapM_toList,Sem.run_map];rw[Zmq w l.toList hagg];simp only[Result.andThen_ok]
     have g:(λi=>((l.toList.map λf=>(f.offset,(szT P f.type).getD 0)).toArray)[i]?)=Zio P t:=by
      funext i
      simp only[Zio,hu,Yn,Yt,Yo]
      cases hf:l[i]? with
      |none=>rfl
      |some f=>obtain⟨n,M⟩:=W6.1 (hagg f (by have:=WM hf;simpa using this));simp[M]
     rw[g,C];rfl
    |array n e=>
     obtain⟨c,k⟩:=W6.1 hagg;simp only[Sem.run_bind];rw[run_sizeOf' w k];simp only[Result.andThen_ok]
     have g:(λi=>some (i*c,c))=Zio P t:=by
      funext i;simp[Zio,hu,k]
     rw[g,C];rfl
    |_=>simp at hagg
  ·cases b
def Zfc{v:Value}{s:SV}(t:TypeId)(r:PRep h v s):PRep h v (fixSz P t s):=by
 unfold fixSz
 split
 next e b rows c d=>
  cases hb:Nat.beq b 0 with
  |false=>exact r
  |true=>have:b=0:=Nat.eq_of_beq_eq_true hb;subst this;exact r.fix (.inr rfl)
 ·exact r
def Rep.fixSz{v:Value}{s:SV}(t:TypeId)(r:Rep h ρ v s):Rep h ρ v (fixSz P t s):=by
 cases r with
 |pure _ _ j=>exact .pure _ _ (Zfc t j)
 |agg k b m f=>
   have:Px.fixSz P t (.agg b)= .agg b:=by(unfold Px.fixSz;split<;>simp_all)
   rw[this];exact .agg k b m f
 |tup k b m f=>
   have:Px.fixSz P t (.tup b)= .tup b:=by(unfold Px.fixSz;split<;>simp_all)
   rw[this];exact .tup k b m f
 |ptr id off=>
   have:Px.fixSz P t (.ptr id off)= .ptr id off:=by(unfold Px.fixSz;split<;>simp_all)
   rw[this];exact .ptr id off
 |bsl id off n=>
   have:Px.fixSz P t (.bsl id off n)= .bsl id off n:=by(unfold Px.fixSz;split<;>simp_all)
   rw[this];exact .bsl id off n
 |osl0 id p g=>
   have:Px.fixSz P t (.osl id)= .osl id:=by(unfold Px.fixSz;split<;>simp_all)
   rw[this];exact .osl0 id p g
 |osl id g=>
   have:Px.fixSz P t (.osl id)= .osl id:=by(unfold Px.fixSz;split<;>simp_all)
   rw[this];exact .osl id g
 |eptr id e i off g=>
   have:Px.fixSz P t (.eptr id e i off)= .eptr id e i off:=by(unfold Px.fixSz;split<;>simp_all)
   rw[this];exact .eptr id e i off g
 |osv id l d c p q u x f j=>
   have:Px.fixSz P t (.osv id l d c)= .osv id l d c:=by(unfold Px.fixSz;split<;>simp_all)
   rw[this];exact .osv id l d c p q u x f j
 |omp id=>
   have:Px.fixSz P t (.omp id)= .omp id:=by(unfold Px.fixSz;split<;>simp_all)
   rw[this];exact .omp id
 |aptr id i=>
   have:Px.fixSz P t (.aptr id i)= .aptr id i:=by(unfold Px.fixSz;split<;>simp_all)
   rw[this];exact .aptr id i
 |asl id l d o=>
   have:Px.fixSz P t (.asl id l d)= .asl id l d:=by(unfold Px.fixSz;split<;>simp_all)
   rw[this];exact .asl id l d o
def Rep.fixNil{v:Value}{s:SV}(t:TypeId)(x:Operand)(r:Rep h ρ v s):Rep h ρ v (fixNil P t x s):=by
 unfold Px.fixNil
 split
 ·exact r.fixSz t
 ·exact r
def ba_beq(a b:BA):(a==b)=decide (a=b):=by
 show ByteArray.beq a b=_;unfold ByteArray.beq
 cases a with|mk x=>cases b with|mk y=>
 by_cases h:x=y
 ·subst h;simp
 ·have:(x==y)=false:=(by simpa using h);simp[h]
def Zgz(s:BA):∀(l:List MapEntry) (b:List (BA×Int)) (i:Nat),l.map (λe=>(e.key,e.val))=b.map (λe=>((.string e.1:Value),(.int .i64 e.2:Value)))→
  (mhas b s=true∧∃j,i≤j∧Instr.findNow .string (.string s) l i=some (some (j,.int .i64 (mget b s)))∧(l[j-i]?).map (·.key)=some (.string s)∧
   ∀n,(l.modify (j-i) λe=>{e with key:=.string s,val:=.int .i64 n}).map (λe=>(e.key,e.val))=(mset b s n).map (λe=>((.string e.1:Value),(.int .i64 e.2:Value))))∨
  (mhas b s=false∧mget b s=0∧Instr.findNow .string (.string s) l i=some none∧∀n,mset b s n=b++[(s,n)])
 | [],[],i,_=>.inr ⟨rfl,rfl,rfl,λn=>rfl⟩
 | [],_::_,i,h=>by simp at h
 |_::_,[],i,h=>by simp at h
 |e::l,x::b,i,h=>by
  simp only[List.map_cons,List.cons.injEq,Prod.mk.injEq]at h;obtain⟨⟨c,o⟩,p⟩:=h;by_cases hs:x.1=s
  ·refine .inl ⟨by simp[mhas,hs],i,Nat.le_refl _,?_,?_,λn=>?_⟩
   ·simp[Instr.findNow,c,Instr.sameNow,hs,o,mget,ba_beq]
   ·simp[c,hs]
   ·simp[mset,msetR,hs,p]
  ·have g:(s==x.1)=false:=by rw[ba_beq];simp;exact λe=>hs e.symm
   rcases Zgz s l b (i+1) p with⟨d,j,q,f,k,m⟩|⟨d,f,k,m⟩
   ·refine .inl ⟨by simp[mhas,hs]at d⊢;exact d,j,by omega,?_,?_,λn=>?_⟩
    ·simp only[Instr.findNow,c,Instr.sameNow,g,f];simp[mget,hs]
    ·rw[show j-i=(j-(i+1))+1 by omega];simpa using k
    ·rw[show j-i=(j-(i+1))+1 by omega];have:=m n;simp[mset,msetR,hs,c,o]at this⊢;exact this
   ·refine .inr ⟨by simp[mhas,hs]at d⊢;exact d,?_,?_,λn=>?_⟩
    ·simp[mget,hs]at f⊢;exact f
    ·simp only[Instr.findNow,c,Instr.sameNow,g,k]
    ·have:=m n;simp only[mset]at this;simp[mset,msetR,hs,this]
def Zcg{c:TypeId}(d:P.underlying c=some .string)(b:Bool)(n:Nat)(s:BA)(w:World):(Instr.checkKey b (n+1) c (.string s)).run P w= .ok () w:=by
 simp[Instr.checkKey,run_underlying d]
def Rep.omp_inv{v:Value}{id:Nat}(r:Rep h ρ v (.omp id)):v= .map (some (ρ id).blk):=by
 cases r with
 |pure _ _ b=>cases b
 |omp=>rfl
def Rep.osl_inv{v:Value}{id:Nat}(r:Rep h ρ v (.osl id)):((ρ id).none=true∧∃p,v= .slice p 0 0)∨((ρ id).none=false∧v= .slice (some ⟨(ρ id).blk,(ρ id).off,Option.none⟩) (ρ id).len (ρ id).cap):=by
 cases r with
 |pure _ _ c=>cases c
 |osl0 id p b=>exact .inl ⟨b,p,rfl⟩
 |osl id b=>exact .inr ⟨b,rfl⟩
def Rep.eptr_inv{v:Value}{id:Nat}{e:TypeId}{i:Int}{off:Nat}(r:Rep h ρ v (.eptr id e i off)):(ρ id).none=false∧v= .pointer (some ⟨(ρ id).blk,(ρ id).off+i.toNat*(ρ id).sz+off,Option.none⟩):=by
 cases r with
 |pure _ _ b=>cases b
 |eptr _ _ _ _ c=>exact⟨c,rfl⟩
def osl_len{v:Value}{id f:Nat}{rows:LL}(r:Rep h ρ v (.osl id))(d:ObOK h ρ w id (.own f rows)):∃p e,v= .slice p rows.length e:=by
 rcases r.osl_inv with⟨c,p,rfl⟩|⟨c,rfl⟩
 ·rcases d with⟨_,rfl⟩|⟨b,_⟩
  ·exact⟨p,0,rfl⟩
  ·rw[c]at b;cases b
 ·rcases d with⟨b,_⟩|⟨_,o⟩
  ·rw[c]at b;cases b
  ·exact⟨_,_,by rw[o.hlen]⟩
def Zg0(F:FitsAt X h ρ st a w)(o:Oper)(gv:List (Nat×Bool)→Operand→SV)
  (V:∀ex x,(∀g∈ex,a.tmps.getD g.1 undef= .bool g.2)→Rep h ρ (a.eval x) (gv ex x)) {s:SV} (l:quiet P o.type gv st.objs o.op=some s):
  ∃v,(∀K,SameB (fblk P a o) w K→(execOp a.eval o).run P K= .ok (.value v) K)∧Rep h ρ v s:=by
 have C:∀x,Rep h ρ (a.eval x) (gv [] x):=λx=>V [] x (by simp);unfold quiet at l
 split at l
 next x A=>
  cases l
  exact⟨a.eval x,λw _=>by simp[execOp,A],(C x).fixNil _ _⟩
 next x A=>
  cases l
  exact⟨a.eval x,λw _=>by simp[execOp,A],(C x).fixNil _ _⟩
 next c x y A=>
  split at l
  ·rename_i t p L;have J:=C (.tmp t);rw[L]at J;have a4:a.tmps.getD t undef= .bool p:=J.val_inv;unfold pickV at l
   split at l
   next m n N T=>
    cases l
    refine⟨.bool (bpick p m n),λw _=>?_,.pure _ _ (.val _)⟩;simp only[execOp,A,J.val_inv]
    cases p with
    |true=>have d:=V [(t,true)] x (by simpa using a4);rw[N]at d;simp[d.val_inv,asBool,bpick]
    |false=>have G:=V [(t,false)] y (by simpa using a4);rw[T]at G;simp[G.val_inv,asBool,bpick]
   ·cases p with
    |true=>
     cases l
     exact⟨a.eval x,λw _=>by simp[execOp,A,J.val_inv,asBool],V [(t,true)] x (by simpa using a4)⟩
    |false=>
     cases l
     exact⟨a.eval y,λw _=>by simp[execOp,A,J.val_inv,asBool],V [(t,false)] y (by simpa using a4)⟩
  ·cases l
 next t x f A=>obtain⟨u,H,r⟩:=Zpv (P:=P) (C x) l;exact⟨u,λw _=>by simp[execOp,A,H],r⟩
 next t x A=>obtain⟨u,ad,E,H,r⟩:=Zjc F (C x) l;exact⟨u,λK D=>by simp[execOp,A,H K (D ad.block (by simp[fblk,Zbu,A,E]))],r⟩
 next op t x y t' A=>
  split at l
  ·rename_i k m Y n N T;have d:=C x;rw[N]at d;have G:=C y;rw[T]at G;by_cases O:k=Y
   ·subst O;simp at l;obtain⟨r,Q,rfl⟩:=l;exact⟨r,λw _=>by simp[execOp,A,d.val_inv,G.val_inv,Zdp,Zrt t Q],.pure _ _ (.val _)⟩
   ·simp[O]at l
  next m n N T=>have d:=C x;rw[N]at d;have G:=C y;rw[T]at G;simp at l;obtain⟨r,Q,rfl⟩:=l;exact⟨r,λw _=>by simp[execOp,A,d.val_inv,G.val_inv,Zlb,Zru t Q],.pure _ _ (.val _)⟩
  next m n N T=>have d:=C x;rw[N]at d;have G:=C y;rw[T]at G;obtain⟨r,Q,rr⟩:=Zmp x y (.inr ⟨m,n,rfl,rfl⟩) d G l;exact⟨r,λw _=>by have Q:=Q w;simp only[execOp,A];simp only[Sem.run_bind]at Q⊢;rw[Q];rfl,rr⟩
  next m n N T=>have d:=C x;rw[N]at d;have G:=C y;rw[T]at G;obtain⟨r,Q,rr⟩:=Zmp x y (.inl ⟨m,n,rfl,rfl⟩) d G l;exact⟨r,λw _=>by have Q:=Q w;simp only[execOp,A];simp only[Sem.run_bind]at Q⊢;rw[Q];rfl,rr⟩
  ·cases l
 next t parts A=>
  obtain⟨v,E,r⟩:=Zn8 (P:=P) (h:=h) (ρ:=ρ) (vparts:=parts.map λ(i,x)=>(i,a.eval x)) l (by simp) (λi p q L a5=>by
   simp at L a5;obtain⟨m,n,e1,rfl⟩:=L;obtain⟨m',n',e2,rfl⟩:=a5;rw[e1]at e2
   cases e2
   exact⟨rfl,C n⟩)
  exact⟨v,λw _=>by simp only[execOp,A,Sem.run_bind,E w,Result.andThen_ok];rfl,r⟩
 next t x f A=>
  split at l
  ·rename_i cs fd D a1;have d:=C x;rw[D]at d;obtain⟨vs,E,hl,J⟩:=d.agg_inv';obtain⟨u,H,r⟩:=Zcn (P:=P) hl J l
   have aa:∃fs:Array Field,P.underlying t=some (.struct fs)∧fs[f]?=some fd:=by
    unfold Znp at a1
    split at a1
    next fs a7=>exact⟨fs,a7,a1⟩
    ·cases a1
   obtain⟨fs,a2,hf⟩:=aa;exact⟨u,λw _=>by simp[execOp,A,E,Instr.field,run_underlying a2,hf,asAgg,H],r⟩
  ·cases l
 ·rename_i x A;have d:=C x
  split at l
  next id off D=>
   cases l
   rw[D]at d;refine⟨a.eval x,λw _=>?_,d⟩
   cases h1':a.eval x with
   |pointer p=>
    cases p with
    |none=>rw[h1']at d;cases d with
     |pure _ _ L=>cases L
    |some ad=>simp[execOp,A,h1']
   |_=>rw[h1']at d;cases d with
       |pure _ _ L=>cases L
  next off cs D=>
   cases l
   rw[D]at d;refine⟨a.eval x,λw _=>?_,d⟩
   cases h1':a.eval x with
   |pointer p=>
    cases p with
    |none=>rw[h1']at d;cases d with
     |pure _ _ L=>cases L
    |some ad=>simp[execOp,A,h1']
   |_=>rw[h1']at d;cases d with
       |pure _ _ L=>cases L
  next f cs D=>
   cases l
   rw[D]at d;refine⟨a.eval x,λw _=>?_,d⟩
   cases h1':a.eval x with
   |func fn fi ca=>
    rw[h1']at d;cases d with
     |pure _ _ L=>cases L with
      |clo=>simp[execOp,A,h1']
   |_=>rw[h1']at d;cases d with
       |pure _ _ L=>cases L
  next id e i off D=>
   cases l
   rw[D]at d;exact⟨a.eval x,λw _=>by simp[execOp,A,d.eptr_inv.2],d⟩
  ·cases l
 next t x k ok A=>
  split at l
  next kt et id Z a2 D O=>
   split at l
   next es a3 ac W=>
    split at l
    next hz=>
     cases l
     have d:=C x;rw[D]at d;have G:=C k;rw[O]at G;obtain⟨T,⟨U,cl,a0,N⟩,hno⟩:=F.obj id _ W;have E:=d.omp_inv;obtain⟨z,a8,rz,_⟩:=Zcx (h:=h) (ρ:=ρ) hz;have ab:=rz.val_inv;subst ab;have a6:∀K:World,SameB (fblk P a o) w K→K.heap[(ρ id).blk]?=some (.map U cl):=λK R=>by rw[R _ (by simp[fblk,Zbu,A,E])];exact a0
     rcases Zgz Z U.toList es 0 N with⟨g1,j,_,g2,_⟩|⟨g1,g2,g3,_⟩
     ·refine⟨if ok then .tuple #[.int .i64 (mget es Z),.bool true]else .int .i64 (mget es Z),λK R=>?_,?_⟩
      ·have M:=a6 K R;simp[execOp,A,E,G.val_inv,Instr.lookup,run_underlying a2,getObj,Sem.run,M,Zcg a3,Instr.findKey,run_underlying a3,g2]
      ·cases ok with
       |true=>rw[g1];exact .tup _ _ rfl (λi v c E J=>by
         match i with
         |0=>simp at E J;subst E;subst J;exact .pure _ _ (.val _)
         |1=>simp at E J;subst E;subst J;exact .pure _ _ (.val _)
         |i+2=>simp at E)
       |false=>exact .pure _ _ (.val _)
     ·refine⟨if ok then .tuple #[.int .i64 0,.bool false]else .int .i64 0,λK R=>?_,?_⟩
      ·have M:=a6 K R;simp[execOp,A,E,G.val_inv,Instr.lookup,run_underlying a2,getObj,Sem.run,M,Zcg a3,Instr.findKey,run_underlying a3,g3,a8 K]
      ·cases ok with
       |true=>rw[g1,g2];exact .tup _ _ rfl (λi v c E J=>by
         match i with
         |0=>simp at E J;subst E;subst J;exact .pure _ _ (.val _)
         |1=>simp at E J;subst E;subst J;exact .pure _ _ (.val _)
         |i+2=>simp at E)
       |false=>rw[g2];exact .pure _ _ (.val _)
    ·cases l
   ·cases l
  ·cases l
 next op t x A=>
  split at l
  next b M=>
   cases l
   have d:=C x;rw[M]at d;exact⟨.bool (bnot b),λw _=>by simp[execOp,A,d.val_inv,Op.unary,bnot],.pure _ _ (.val _)⟩
  next k n M=>
   cases l
   have d:=C x;rw[M]at d;exact⟨.int k (wneg k n),λw _=>by simp[execOp,A,d.val_inv,Op.unary,Op.intArith,wneg],.pure _ _ (.val _)⟩
  next k n M=>
   cases l
   have d:=C x;rw[M]at d;exact⟨.int k (wnot k n),λw _=>by simp[execOp,A,d.val_inv,Op.unary,Op.intBits,wnot,wxor],.pure _ _ (.val _)⟩
  ·cases l
 next ae af x A=>
  split at l
  next k0 k k1 n R hd D=>
   cases l
   have d:=C x;rw[D]at d;exact⟨.int k (wcv k n),λw _=>by simp[execOp,A,d.val_inv,convert,run_underlying R,run_underlying hd,Conv.intToInt,wcv],.pure _ _ (.val _)⟩
  next Z R hd D=>
   cases l
   have d:=C x;rw[D]at d;exact⟨.string Z,λw _=>by simp[execOp,A,d.val_inv,convert,run_underlying R,run_underlying hd],.pure _ _ (.val _)⟩
  ·cases l
 next x i A=>
  split at l
  ·rename_i cs D;have d:=C x;rw[D]at d;obtain⟨vs,E,hl,J⟩:=d.tup_inv;rw[Za0,Zcf]at l
   cases M:Nat.ble (i+1) cs.length with
   |false=>simp[M]at l
   |true=>
    simp[M]at l;have ah:=Nat.le_of_ble_eq_true M
    obtain⟨u,H⟩:∃u,vs[i]?=some u:=⟨vs[i]'(by omega),Y1 (by omega)⟩
    obtain⟨c,hcs⟩:∃c,cs[i]?=some c:=⟨cs[i]'(by omega),List.getElem?_eq_getElem (by omega)⟩
    rw[hcs]at l;simp at l;subst l;exact⟨u,λw _=>by simp[execOp,A,E,Instr.extract,H],J i u c H hcs⟩
  ·cases l
 next b x t A=>
  split at l
  next e sz rows ag H D=>
   cases l
   have d:=C x;rw[D]at d;obtain⟨b,a9,E⟩:=d.slice_inv;exact⟨.int .i64 (rlen rows),λw _=>by simp[execOp,A,E,rlen,resolve,invoke,builtin,Builtin.len_,run_underlying H,goInt],.pure _ _ (.val _)⟩
  next e id off n H D=>
   cases l
   have d:=C x;rw[D]at d;have E:a.eval x= .slice (some ⟨(ρ id).blk,off,none⟩) n n:=d.bsl_inv;exact⟨.int .i64 (Int.ofNat n),λw _=>by simp[execOp,A,E,resolve,invoke,builtin,Builtin.len_,run_underlying H,goInt],.pure _ _ (.val _)⟩
  next e id H D=>
   split at l
   next sz rows W=>
    cases l
    have d:=C x;rw[D]at d;obtain⟨p,a9,E⟩:=osl_len d (F.obj id _ W);exact⟨.int .i64 (rlen rows),λw _=>by simp[execOp,A,E,rlen,resolve,invoke,builtin,Builtin.len_,run_underlying H,goInt],.pure _ _ (.val _)⟩
   ·cases l
  next kt et id H D=>
   split at l
   next es W=>
    cases l
    have d:=C x;rw[D]at d;obtain⟨T,⟨U,cl,a0,N⟩,hno⟩:=F.obj id _ W;have E:=d.omp_inv
    have hl:U.size=es.length:=by
     have:=congrArg List.length N
     simpa using this
    refine⟨.int .i64 (mlen es),λK R=>?_,.pure _ _ (.val _)⟩;have M:K.heap[(ρ id).blk]?=some (.map U cl):=by rw[R _ (by simp[fblk,Zbu,A,E,H])];exact a0
    simp[execOp,A,E,mlen,resolve,invoke,builtin,Builtin.len_,run_underlying H,goInt,getObj,Sem.run,M,hl]
   ·cases l
  next Z H D=>
   cases l
   have d:=C x;rw[D]at d;exact⟨.int .i64 (slen Z),λw _=>by simp[execOp,A,d.val_inv,slen,resolve,invoke,builtin,Builtin.len_,run_underlying H,goInt],.pure _ _ (.val _)⟩
  next n e H=>
   cases l
   refine⟨.int .i64 (Int.ofNat n),λw _=>?_,.pure _ _ (.val _)⟩;simp[execOp,A,resolve,invoke,builtin,Builtin.len_,run_underlying H,goInt]
  next k0 k re im H D=>
   cases l
   have d:=C x;rw[D]at d;exact⟨.float k re,λw _=>by simp[execOp,A,d.val_inv,resolve,invoke,builtin,real_go],.pure _ _ (.val _)⟩
  next k0 k re im H D=>
   cases l
   have d:=C x;rw[D]at d;exact⟨.float k im,λw _=>by simp[execOp,A,d.val_inv,resolve,invoke,builtin,imag_go],.pure _ _ (.val _)⟩
  ·cases l
 next b x y t A=>
  split at l
  ·rename_i k m Y n D hy;have d:=C x;rw[D]at d;have G:=C y;rw[hy]at G;by_cases O:k=Y
   ·subst O;simp at l;subst l;exact⟨_,λw _=>by simp[execOp,A,d.val_inv,G.val_inv,resolve,invoke,builtin,Builtin.min_,Builtin.min2,imin],.pure _ _ (.val _)⟩
   ·simp[O]at l
  ·rename_i k m Y n D hy;have d:=C x;rw[D]at d;have G:=C y;rw[hy]at G;by_cases O:k=Y
   ·subst O;simp at l;subst l;exact⟨_,λw _=>by simp[execOp,A,d.val_inv,G.val_inv,resolve,invoke,builtin,Builtin.max_,Builtin.max2,imax],.pure _ _ (.val _)⟩
   ·simp[O]at l
  ·rename_i k m Y n D hy;have d:=C x;rw[D]at d;have G:=C y;rw[hy]at G;by_cases O:k=Y
   ·subst O;simp at l;subst l;exact⟨_,λw _=>by simp[execOp,A,d.val_inv,G.val_inv,resolve,invoke,builtin,Zw1],.pure _ _ (.val _)⟩
   ·simp[O]at l
  ·cases l
 ·cases l
end
end Go.Px
namespace Go.Px
open Go.RowKit
def Zb0(P:Program)(g o:Nat)(t:TypeId)(c:Nat×Nat):∀(d:List Value) (i:Nat) (b:Array Value) (w:World),w.heap[g]?=some (.cells b t c)→o+i+d.length≤b.size→(∀v∈d,v.oneCell'=true)→
  (∀x,o+i≤x→x<o+i+d.length→¬(c.1≤x∧x<c.2))→
  (storeCells ⟨g,o,none⟩ d i).run P w= .ok () (w.setRow g (b.toList.take (o+i)++d++b.toList.drop (o+i+d.length)).toArray)
 | [],i,b,w,hg,_,_,_=>by simp only[storeCells,List.append_nil,Y6,Nat.add_zero,List.take_append_drop,Array.toArray_toList];rw[setRow_self w g b t c hg];rfl
 |v::rest,i,b,w,hg,hl,h1,hf=>by
  have n:o+i<b.size:=(by simp at hl;omega);have j:(⟨g,o,none⟩:Addr).add i=⟨g,o+i,none⟩:=by unfold Addr.add;split<;>simp_all
  have f:w.cell? ⟨g,o+i,none⟩=some b[o+i]:=by simp[World.cell?,hg,n]
  have k:w.frozen? ⟨g,o+i,none⟩=false:=by
   have:=hf (o+i) (Nat.le_refl _) (by simp);simp only[World.frozen?,hg]
   simpa using this
  have hst:(store ((⟨g,o,none⟩:Addr).add i) v).run P w= .ok () (w.setRow g (b.setIfInBounds (o+i) v)):=by rw[j,run_store P w _ v _ (h1 v (by simp)),f];simp[k,setCell_eq_setRow w g (o+i) b t c v hg]
  have p:=Zb0 P g o t c rest (i+1) (b.setIfInBounds (o+i) v) (w.setRow g (b.setIfInBounds (o+i) v)) (setRow_heap w g b _ t _ hg) (by simp at hl⊢;omega) (λx m=>h1 x (by simp[m]))
   (λx q l=>hf x (by omega) (by simp at l⊢;omega))
  simp only[storeCells,Sem.run_bind,hst,Result.andThen_ok,p,setRow_setRow];congr 3;have e:=list_seg_step b.toList (o+i) v rest (by simp at hl⊢;omega)
  simpa[Array.toList_setIfInBounds,Ys]using e
def Zbw(w:World)(g:Nat)(c:Array Value):Keeps (λb=>b=g) w (w.setRow g c):=
 ⟨rfl,rfl,rfl,by simp,λk e d=>setRow_other _ _ _ _ d⟩
def Zbo(w:World)(o:Obj):Keeps (λ_=>False) w (w.alloc o):=
 ⟨rfl,rfl,rfl,by show _≤(w.heap.push _).size;simp,λk b _=>Below.heap_alloc w o k b⟩
def Zxp(w:World):Keeps (λ_=>False) w {w with drawn:=w.drawn+1}:=⟨rfl,rfl,rfl,Nat.le_refl _,λ_ _ _=>rfl⟩
section
variable{X:Cx}{h:Hp}{ρ:Nat→Loc}{st:St}{a:Act}{w:World}{P:Program}
def FitsAt.made{w':World}(F:FitsAt X h ρ st a w)(c:Keeps (λ_=>False) w w'):FitsAt X h ρ st a w':=
 F.world (λb d=>c.block b d id) (F.kp.step c (λ_ e=>e.elim))
def Zcs(c:HSub h w)(o:Nat)(b:Nat)(d:w.heap.size≤b):h b o=none:=by
 cases e:h b o with
 |none=>rfl
 |some v=>exact absurd (c.lt e) (by omega)
def FitsAt.newBox(F:FitsAt X h ρ st a w)(id:Nat)(e:idOK id=true)(d:Array Value)(t:TypeId)(cells:List SV)(f:d.size=cells.length)
  (g:∀(i:Nat) u c,d[i]?=some u→cells[i]?=some c→Rep h ρ u c∧u.oneCell'=true):
  FitsAt X h (upd ρ id ⟨w.heap.size,0,0,0,0,false⟩) (st.bind id (.box cells)) a (w.alloc (.cells d t)):=by
 have s:=F.made (Zbo w (.cells d t));refine s.bind id e (.box cells) _ ?_ (λ_=>.inl F.kp.size) (λ_ i _ k=>?_)
 ·simp only[ObOK,Zd4,Zab];refine⟨trivial,⟨d,t,by show(w.heap.push _)[_]?=_;simp,by rw[Zbm];exact f,λi v c l b=>?_⟩,λo=>Zcs F.sub o _ (Nat.le_refl _)⟩;rw[hmapL_getElem?]at b
  cases hx:cells[i]? with
  |none=>simp[hx]at b
  |some y=>simp[hx]at b;subst b;obtain⟨p,q⟩:=g i v y l hx;exact⟨p.kill id (HLe.refl h) (λj m=>Zi7 ρ _ m),q⟩
 ·obtain⟨⟨o,n⟩,r⟩:=k;exact Nat.ne_of_lt (ObOK.blk_lt (F.obj i o n) r)
def FitsAt.newOwn{b:World}(F:FitsAt X h ρ st a w)(id:Nat)(f:idOK id=true)(o:Ob)(l:Loc)(k:Keeps (λ_=>False) w b)(c:∀cs,o≠ .box cs)(g:l.none=false→w.heap.size≤l.blk)
  (d:ObOK h (upd ρ id l) b id o):FitsAt X h (upd ρ id l) (st.bind id o) a b:=by
 have n:Zd4 (killG id) o=o:=by cases o<;>first|rfl|exact absurd rfl (c _)
 refine(F.made k).bind id f o l (by rw[n];exact d) (λe=>.inl (Nat.le_trans F.kp.size (g e))) (λe i _ m=>?_);obtain⟨⟨o,d⟩,j⟩:=m;have:=ObOK.blk_lt (F.obj i o d) j;have:=g e;omega
def FitsAt.touch{w':World}(F:FitsAt X h ρ st a w)(b:Nat)(j:∀i,live st.objs ρ i→(ρ i).blk≠b)(l:∀o,h b o=none)(m:X.w.heap.size≤b∨X.G b)
  (c:∀k,k≠b→w'.heap[k]?=w.heap[k]?) (d:Keeps (λk=>k=b) w w'):FitsAt X h ρ st a w':=by
 refine{F with sub:=λk o v e=>?_,obj:=λi o f=>?_,kp:=F.kp.step d (λk e=>by subst e;exact m)}
 ·have g:k≠b:=λn=>by subst n;rw[l o]at e;cases e
  have:=F.sub k o v e;unfold World.cell? at this⊢;simp only[]at this⊢;rw[c k g];exact this
 ·exact(F.obj i o f).carry (HLe.refl h) (λp=>c _ (j i ⟨⟨o,f⟩,p⟩)) (λ_ _ e=>e)
def live_drop{b:Nat→Loc}{id i:Nat}(d:∀i,i≠id→b i=ρ i)(j:live (st.drop id).objs b i):i≠id∧live st.objs ρ i:=by
 obtain⟨⟨o,e⟩,f⟩:=j;obtain⟨k,l,rfl⟩:=Zah e;obtain⟨c,g⟩:=Zaf l;rw[d i c]at f;exact⟨c,⟨k,g⟩,f⟩
def Zlo(F:FitsAt X h ρ st a w){t:TypeId}{id off n:Nat}{l q:List SV}{v:Value}{y:SV}(z:oget st.objs id=some (.box l))(E:szT P t=some n)
  (G:Rep h ρ v y) (m:boxL (cellsOf y)=true) (A:lenN (cellsOf y)=n) (H:Zbh off (cellsOf y) l=some q):
  ∃p,(Instr.storeAt t (.pointer (some ⟨(ρ id).blk,off,none⟩)) v).run P w= .ok () p∧FitsAt X h ρ {st with objs:=oput st.objs id (.box q)} a p∧
   w.heap.size≤p.heap.size∧∀b,b≠(ρ id).blk→p.heap[b]?=w.heap[b]?:=by
 obtain⟨r,⟨g,ty,o,O,k⟩,hno⟩:=F.obj id _ z;obtain⟨j,s⟩:=Zer G m;obtain⟨Q,rfl⟩:=Zcb _ _ _ _ H;rw[Za0]at A
 have x:=run_storeCells_at P (ρ id).blk off ty v.cells.toList 0 g w o (by simp[j];omega) (λu d=>by
  obtain⟨i,J,e⟩:=List.mem_iff_getElem.1 d;have C:i<v.cells.size:=(by simpa using J);have D:i<(cellsOf y).length:=by omega
  exact(s i u _ (by rw[Y1 C];simp at e;rw[e]) (List.getElem?_eq_getElem D)).2)
 refine⟨_,?_,F.setOb id (.box l) _ (w.setRow (ρ id).blk (g.toList.take (off+0)++v.cells.toList++g.toList.drop (off+0+v.cells.toList.length)).toArray) z r ⟨r,⟨_,ty,setRow_heap w _ g _ ty _ o,?_,?_⟩,hno⟩
  (λb m=>setRow_other _ _ _ _ m) (Zbw _ _ _),by simp,λb m=>setRow_other _ _ _ _ m⟩
 ·simp only[Instr.storeAt,Instr.sureAddr,storeVar,Sem.run_bind,Sem.run_pure,Result.andThen_ok,run_sizeOf' w E];have:¬(v.cells.size≠n):=by rw[j,A];simp
  simp only[this,if_false];exact x
 ·simp[j];omega
 ·intro i u c d f;simp only[Yn,Nat.add_zero,Array.length_toList]at d;rw[List.getElem?_append]at d f;have K:(List.take off g.toList++v.cells.toList).length=off+(cellsOf y).length:=by simp[j];omega
  have L:(List.take off l++cellsOf y).length=off+(cellsOf y).length:=(by simp;omega);rw[K]at d;rw[L]at f;by_cases h1:i<off+(cellsOf y).length
  ·rw[if_pos h1]at d f;rw[List.getElem?_append]at d f;have M:(List.take off g.toList).length=off:=by simp;omega
   have N:(List.take off l).length=off:=(by simp;omega);rw[M]at d;rw[N]at f;by_cases h2:i<off
   ·rw[if_pos h2]at d f;rw[Y4,if_pos h2]at d f;exact k i u c (by simpa using d) f
   ·rw[if_neg h2]at d f;exact s _ u c (by simpa using d) f
  ·rw[if_neg h1]at d f;rw[Y8]at d f;rw[j]at d;exact k _ u c (by simpa using d) f
def frzH(h:Hp)(w:World)(l:Loc)(n:Nat):Hp:=λb o=>if b=l.blk∧l.off≤o∧o<l.off+n then w.cell? ⟨b,o,none⟩else h b o
def Zlp{i n j b:Nat}(c:i<n)(d:j<b):i*b+j<n*b:=by
 have:(i+1)*b≤n*b:=Y9 b (by omega);rw[Yg]at this;omega
def frz_slice{l:Loc}{b:Nat}{rows:LL}(k:HLe h (frzH h w l (rows.length*b)))(o:OwnOK h w l b rows):
  PRep (frzH h w l (rows.length*b)) (.slice (some ⟨l.blk,l.off,none⟩) l.len l.cap) (.slice b rows 0):=by
 obtain⟨n,t,u,p,x,y,g⟩:=o.hblk;rw[o.hlen];refine .slice l.blk l.off l.cap b rows 0 (λi j=>(n[l.off+i*b+j]?).getD undef) o.pos o.hrow (λi r j c d e=>?_) (λi r j c d e=>?_) (λi r j c d e=>?_) (by omega) (by omega) o.hcap
 ·obtain⟨v,e1,_⟩:=g i r j c d e;have s:=(Y0.1 d).1;have m:=(Y0.1 e).1;rw[o.hrow i r d]at m;have:=Zlp s m
  have f:l.off≤l.off+i*b+j∧l.off+i*b+j<l.off+rows.length*b:=⟨by omega,by omega⟩
  simp only[frzH,f,and_self,if_true,e1,Ye];simp[World.cell?,p,e1]
 ·obtain⟨v,e1,e2,_⟩:=g i r j c d e;simp only[e1,Ye];exact e2.mono k
 ·obtain⟨v,e1,_,q⟩:=g i r j c d e;simp only[e1,Ye];exact q
def FitsAt.frz(F:FitsAt X h ρ st a w)(id:Nat):∃m,HLe h m∧FitsAt X m ρ (st.frz id) a w:=by
 unfold St.frz
 split
 ·rename_i y rows K;have N:=F.obj id _ K
  have O:∃m,HLe h m∧HSub m w∧(∀b,b≠(ρ id).blk∨(ρ id).none=true→∀o,m b o=h b o)∧∀v,Rep h ρ v (.osl id)→PRep m v (.slice y rows 0):=by
   rcases N with⟨f,rfl⟩|⟨f,o⟩
   ·refine⟨h,HLe.refl h,F.sub,λ_ _ _=>rfl,λv r=>?_⟩
    rcases r.osl_inv with⟨_,p,rfl⟩|⟨d,_⟩
    ·exact .empty p 0 y 0 (by omega) (by omega) (λ_=>rfl)
    ·rw[f]at d;cases d
   ·have k:HLe h (frzH h w (ρ id) (rows.length*y)):=λb x v e=>by
     have q:b≠(ρ id).blk:=λz=>by subst z;rw[o.hh]at e;cases e
     simp[frzH,q,e]
    refine⟨frzH h w (ρ id) (rows.length*y),k,λb x v e=>?_,λb q x=>?_,λv r=>?_⟩
    ·unfold frzH at e
     split at e
     ·exact e
     ·exact F.sub b x v e
    ·rcases q with q|q
     ·simp[frzH,q]
     ·rw[f]at q;cases q
    ·rcases r.osl_inv with⟨d,_⟩|⟨_,rfl⟩
     ·rw[f]at d;cases d
     ·exact frz_slice k o
  obtain⟨m,k,L,t,G⟩:=O
  have A:∀v s,Rep h ρ v s→Rep m ρ v (hmap (frzG id y rows) s):=λv s r=>r.turn λv s J r=>by
   cases r with
   |pure _ _ D=>
    have:frzG id y rows s=s:=by cases D<;>first|rfl|(simp[Zbn]at J)
    rw[this];exact .pure _ _ (D.mono k)
   |agg=>simp[Zbn]at J
   |tup=>simp[Zbn]at J
   |ptr i off=>exact .ptr i off
   |bsl i off n=>exact .bsl i off n
   |osl0 i p f=>
    by_cases g:i=id
    ·subst g;simp only[frzG,Y5,cond_true];exact .pure _ _ (G _ (.osl0 i p f))
    ·simp only[frzG,Zaj g,cond_false];exact .osl0 i p f
   |osl i f=>
    by_cases g:i=id
    ·subst g;simp only[frzG,Y5,cond_true];exact .pure _ _ (G _ (.osl i f))
    ·simp only[frzG,Zaj g,cond_false];exact .osl i f
   |eptr i e j off f=>
    by_cases g:i=id
    ·subst g;simp only[frzG,Y5,cond_true];exact .pure _ _ (.unk _)
    ·simp only[frzG,Zaj g,cond_false];exact .eptr i e j off f
   |osv i l M c p U E V W D=>
    by_cases g:i=id
    ·subst g;simp only[frzG,Y5,cond_true];exact .pure _ _ (.unk _)
    ·simp only[frzG,Zaj g,cond_false];exact .osv i l M c p U E V W D
   |omp i=>exact .omp i
   |aptr i n=>exact .aptr i n
   |asl i l M Q=>exact .asl i l M Q
  refine⟨m,k,F.turn _ _ A (λi o e=>?_) (λi g=>?_) L k (λb q R x e=>?_) F.kp (λ_ _=>rfl)⟩
  ·obtain⟨C,z,rfl⟩:=Zah e;obtain⟨H,u⟩:=Zaf z;refine(F.obj i C u).turn A k rfl (λ_=>rfl) (λf x e=>?_);rw[t]
   ·exact e
   ·by_cases d:(ρ id).none=true
    ·exact .inr d
    ·exact .inl (F.inj i id ⟨⟨C,u⟩,f⟩ ⟨⟨_,K⟩,by simpa using d⟩ H)
  ·obtain⟨⟨o,e⟩,f⟩:=g;obtain⟨C,z,rfl⟩:=Zah e;obtain⟨H,u⟩:=Zaf z;exact⟨⟨⟨C,u⟩,f⟩,rfl⟩
  ·rw[t]
   ·exact e
   ·by_cases d:(ρ id).none=true
    ·exact .inr d
    ·refine .inl λT=>?_;subst T
     rcases F.own id ⟨⟨_,K⟩,by simpa using d⟩with E|E
     ·omega
     ·exact R E
 ·exact⟨h,HLe.refl h,F⟩
def FitsAt.frzAll:∀(b:List Nat) {st:St} {h:Hp},FitsAt X h ρ st a w→∃e,HLe h e∧FitsAt X e ρ (St.frzAll b st) a w
 | [],st,h,F=>⟨h,HLe.refl h,F⟩
 |id::b,st,h,F=>by obtain⟨j,c,f⟩:=F.frz id;obtain⟨g,d,i⟩:=FitsAt.frzAll b f;exact⟨g,c.trans d,i⟩
def Zbs{v:Value}{s l:SV}(r:Rep h ρ v s)(c:Zap s=some l):PRep h v l:=by
 cases r with
 |pure _ _ d=>
  cases d with
  |val v=>cases v<;>simp[Zap]at c<;>subst c<;>exact .val _
  |agg=>simp[Zap]at c
  |empty p e m n q u x=>simp[Zap]at c;subst c;exact .empty p e _ 0 (by omega) (by omega) x
  |slice b off e m rows n g i y j d z q u o=>simp[Zap]at c;subst c;exact .slice b off e m rows 0 g i y j d z (by omega) (by omega) o
  |ref b k off cells g j d=>simp[Zap]at c;subst c;exact .ref b k off cells g j d
  |clo f g A C D=>simp[Zap]at c;subst c;exact .clo f g A C D
  |ifc t v s E=>simp[Zap]at c;subst c;exact .ifc t v s E
  |arr=>simp[Zap]at c
  |unk=>simp[Zap]at c
 |agg=>simp[Zap]at c
 |tup=>simp[Zap]at c
 |ptr=>simp[Zap]at c
 |bsl=>simp[Zap]at c
 |osl0=>simp[Zap]at c
 |osl=>simp[Zap]at c
 |eptr=>simp[Zap]at c
 |osv=>simp[Zap]at c
 |omp=>simp[Zap]at c
 |aptr=>simp[Zap]at c
 |asl=>simp[Zap]at c
def Zdu:∀(d b:List SV),pureL d=some b→b.length=d.length∧
  ∀(i:Nat) e,b[i]?=some e→∃c,d[i]?=some c∧Zap c=some e
 | [],b,h=>by simp[pureL]at h;subst h;simp
 |c::d,b,h=>by
  simp only[pureL]at h
  split at h
  next n j k m=>
   cases h
   obtain⟨l,g⟩:=Zdu d j m;refine⟨by simp[l],λi e f=>?_⟩
   cases i with
   |zero=>simp at f;subst f;exact⟨c,by simp,k⟩
   |succ i=>simpa using g i e (by simpa using f)
  ·cases h
def Zh3{v:Value}{s d:SV}(r:Rep h ρ v s)(b:Zdz s=some d):PRep h v d:=by
 unfold Zdz at b
 split at b
 next t=>simp at b;obtain⟨f,j,rfl⟩:=b;obtain⟨l,g⟩:=Zdu _ _ j;obtain⟨m,rfl,x,n⟩:=r.agg_inv';refine .agg m f (by omega) λi u c k e=>?_;obtain⟨o,p,q⟩:=g i c e;exact Zbs (n i u o k p) q
 ·exact Zbs r b
def Zoq{v:Value}{s c:SV}(r:Rep h ρ v s)(b:Zsw s=some c):PRep h v c:=by
 unfold Zsw at b
 split at b
 ·cases b
  cases r with
  |pure _ _ b=>exact b
 ·exact Zh3 r b
def FitsAt.frzBox(F:FitsAt X h ρ st a w)(id:Nat){N:St}(f:st.frzBox id=some N):∃d,HLe h d∧FitsAt X d ρ N a w:=by
 unfold St.frzBox at f
 split at f
 next cs Q=>
  split at f
  next y Y=>
   cases f
   obtain⟨g,⟨H,t,R,Z,J⟩,hno⟩:=F.obj id _ Q;obtain⟨hl,T⟩:=Zdu _ _ Y
   let d:Hp:=λb o=>if b=(ρ id).blk then w.cell? ⟨b,o,none⟩else h b o
   have k:HLe h d:=λb o v e=>by
    have G:b≠(ρ id).blk:=λD=>by subst D;rw[hno]at e;cases e
    simp[d,G,e]
   have U:HSub d w:=λb o v e=>by
    simp only[d]at e
    split at e
    ·exact e
    ·exact F.sub b o v e
   have A:∀b,b≠(ρ id).blk→∀o,d b o=h b o:=λb G o=>by simp[d,G]
   have m:∀(j:Nat) c,y[j]?=some c→∃v,H[j]?=some v∧PRep h v c:=λj c q=>by
    obtain⟨c0,K,C⟩:=T j c q;have hj:j<H.size:=by rw[Z];exact(Y0.1 K).1
    exact⟨H[j],Y1 hj,Zbs (J j _ c0 (Y1 hj) K).1 C⟩
   have E:∀v s,Rep h ρ v s→Rep d ρ v (hmap (frzBG id y) s):=λv s r=>r.turn λv s f r=>by
    cases r with
    |pure _ _ M=>
     have:frzBG id y s=s:=by cases M<;>first|rfl|(simp[Zbn]at f)
     rw[this];exact .pure _ _ (M.mono k)
    |agg=>simp[Zbn]at f
    |tup=>simp[Zbn]at f
    |ptr i off=>
     by_cases u:i=id
     ·subst u;simp only[frzBG,Y5,cond_true]
      have:=PRep.ref (h:=d) (ρ i).blk 0 off y (λj=>(H[j]?).getD undef) (λj c q=>by
       obtain⟨v,e1,_⟩:=m j c q;simp only[d,if_true,Yc,e1,Ye]
       simp[World.cell?,R,e1]) (λj c q=>by
       obtain⟨v,e1,e2⟩:=m j c q
       simp only[e1,Ye];exact e2.mono k)
      rw[Yc]at this;exact .pure _ _ this
     ·simp only[frzBG,Zaj u,cond_false];exact .ptr i off
    |bsl i off n=>
     by_cases u:i=id
     ·subst u;simp only[frzBG,Y5,cond_true];exact .pure _ _ (.unk _)
     ·simp only[frzBG,Zaj u,cond_false];exact .bsl i off n
    |osl0 i p g=>exact .osl0 i p g
    |osl i g=>exact .osl i g
    |eptr i e j off g=>exact .eptr i e j off g
    |osv i l V c p K C h2 q M=>exact .osv i l V c p K C h2 q M
    |omp i=>exact .omp i
    |aptr i n=>exact .aptr i n
    |asl i l V a0=>exact .asl i l V a0
   refine⟨d,k,F.turn _ _ E (λi o e=>?_) (λi u=>?_) U k (λb G hg x e=>?_) F.kp (λ_ _=>rfl)⟩
   ·obtain⟨L,D,rfl⟩:=Zah e;obtain⟨O,z⟩:=Zaf D;refine(F.obj i L z).turn E k rfl (λ_=>rfl) (λW x e=>?_);rw[A]
    ·exact e
    ·exact F.inj i id ⟨⟨L,z⟩,W⟩ ⟨⟨_,Q⟩,g⟩ O
   ·obtain⟨⟨o,e⟩,g⟩:=u;obtain⟨L,D,rfl⟩:=Zah e;obtain⟨O,z⟩:=Zaf D;exact⟨⟨⟨L,z⟩,g⟩,rfl⟩
   ·rw[A]
    ·exact e
    ·intro eb;subst eb
     rcases F.own id ⟨⟨_,Q⟩,g⟩with C|C
     ·omega
     ·exact hg C
  ·cases f
 ·cases f
def FitsAt.frzBoxes:∀(c:List Nat) {st b:St} {h:Hp},FitsAt X h ρ st a w→St.frzBoxes c st=some b→∃d,HLe h d∧FitsAt X d ρ b a w
 | [],st,b,h,F,e=>by simp[St.frzBoxes]at e;subst e;exact⟨h,HLe.refl h,F⟩
 |id::c,st,b,h,F,e=>by
  simp only[St.frzBoxes]at e
  split at e
  next g p=>
   split at e
   next q f=>obtain⟨r,i,j⟩:=F.frzAll (Zfg g);obtain⟨s,k,l⟩:=j.frzBox id f;obtain⟨m,n,o⟩:=FitsAt.frzBoxes c l e;exact⟨m,(i.trans k).trans n,o⟩
   ·cases e
  ·cases e
end
end Go.Px
namespace Go.Px
open Go.RowKit
def Zb6{l:List (Nat×Ob)}{c:Nat}{o:Ob}(e:oget l c=some o):(c,o)∈l:=by
 induction l with
 |nil=>simp[oget]at e
 |cons x b a=>
  obtain⟨k,p⟩:=x;rw[Zbf]at e
  split at e
  next h=>subst h;cases e;simp
  ·simp[a e]
def Pulls(a:List (Option Nat×Nat))(ρ ρ':Nat→Loc):Prop:=
 ∀p∈a,match p.1 with
  |some id=>ρ' p.2=ρ id
  |none=>(ρ' p.2).none=true
def Pulls.left{a b:List (Option Nat×Nat)}{ρ ρ':Nat→Loc}(h:Pulls (a++b) ρ ρ'):Pulls a ρ ρ':=λp c=>h p (by simp[c])
def Pulls.right{b a:List (Option Nat×Nat)}{ρ ρ':Nat→Loc}(h:Pulls (b++a) ρ ρ'):Pulls a ρ ρ':=λp c=>h p (by simp[c])
def pull:List (Option Nat×Nat)→(Nat→Loc)→(Nat→Loc)→Nat→Loc
 | [],ρ,ρ0,c=>ρ0 c
 |(o,k)::l,ρ,ρ0,c=>if k=c then(match o with|some id=>ρ id|none=>noLoc)else pull l ρ ρ0 c
def Za1:∀{l:List Nat},Zbt l=true→l.Nodup
 | [],_=>WN
 |x::xs,h=>by simp only[Zbt,Bool.and_eq_true,Yp,YQ]at h;refine Ym.2 ⟨λa=>?_,Za1 h.2⟩;have:=h.1 x a;simp at this
def Zev(ρ c:Nat→Loc):∀{b:List (Option Nat×Nat)},(b.map (·.2)).Nodup→Pulls b ρ (pull b ρ c)
 | [],_=>by intro p a;simp at a
 |(o,k)::l,h=>by
  simp only[List.map_cons,Ym]at h;intro p a
  rcases List.mem_cons.1 a with rfl|a
  ·cases o with
   |none=>simp[pull,noLoc]
   |some id=>simp[pull]
  ·have d:k≠p.2:=λe=>h.1 (by rw[e];exact Yd a);have:=Zev ρ c h.2 p a;simp only[pull,if_neg d];exact this
def Zmy(ρ a:Nat→Loc):∀{b:List (Option Nat×Nat)} {c:Nat},(∀p∈b,p.2≠c)→pull b ρ a c=a c
 | [],c,_=>rfl
 |(o,k)::l,c,h=>by have:=h (o,k) (by simp);simp only at this;simp only[pull,if_neg this];exact Zmy ρ a (λp d=>h p (by simp[d]))
section
variable{h:Hp}{ρ ρ':Nat→Loc}{objs:List (Nat×Ob)}{w:World}{P:Program}
structure PassOK(objs:List (Nat×Ob))(h:Hp)(ρ':Nat→Loc)(w:World)(ids:List (Option Nat×Nat))(os:List (Nat×Ob)):Prop where
 ob:∀c o,(c,o)∈os→ObOK h ρ' w c o
 at_:∀c o,(c,o)∈os→∃p∈ids,p.2=c
 here:∀id c,(some id,c)∈ids→∃o,oget objs id=some o
def PassOK.nil:PassOK objs h ρ' w [] []:=⟨by simp,by simp,by simp⟩
def PassOK.append{l1 l2:List (Option Nat×Nat)}{o1 o2:List (Nat×Ob)}(a:PassOK objs h ρ' w l1 o1)(b:PassOK objs h ρ' w l2 o2):PassOK objs h ρ' w (l1++l2) (o1++o2) where
 ob:=λc o hm=>(List.mem_append.1 hm).elim (a.ob c o) (b.ob c o)
 at_:=λc o hm=>by
  rcases List.mem_append.1 hm with hm|hm
  ·obtain⟨p,hp,e⟩:=a.at_ c o hm;exact⟨p,by simp[hp],e⟩
  ·obtain⟨p,hp,e⟩:=b.at_ c o hm;exact⟨p,by simp[hp],e⟩
 here:=λid c hm=>(List.mem_append.1 hm).elim (a.here id c) (b.here id c)
def Zlr(t:TypeId)(a:Nat)(rows:LL)(tok:Nat):∃b,fixSz P t (.slice a rows tok)= .slice b rows tok∧(b=a∨a=0):=by
 unfold fixSz
 split
 next e f rows1 d g c=>
  cases c
  refine⟨_,rfl,?_⟩
  cases hb:Nat.beq a 0 with
  |false=>exact .inl rfl
  |true=>exact .inr (Nat.eq_of_beq_eq_true hb)
 ·exact⟨a,rfl,.inl rfl⟩
def Zxq(t:TypeId)(a:List (BA×Int)):fixSz P t (.mapv a)= .mapv a:=by
 unfold fixSz
 split<;>simp_all
def Zfd(u:∀id o,oget objs id=some o→ObOK h ρ w id o){a:Nat}{s d:SV}{n:List (Option Nat×Nat)}(e:Zf8 objs a s=some (d,n))(y:Pulls n ρ ρ')(t:TypeId):
  ∃z o,ownH a (fixSz P t d)=some (z,o)∧(∀v,Rep h ρ v s→Rep h ρ' v z∧v.oneCell'=true)∧PassOK objs h ρ' w n [(a,o)]∧(∀J,o≠ .box J)∧(∀t b x,z≠ .gd t b x):=by
 unfold Zf8 at e
 split at e
 next id=>
  split at e
  next q rows m=>
   cases e
   obtain⟨l,A,E⟩:=Zlr (P:=P) t q rows 0;have f:ρ' a=ρ id:=y (some id,a) (by simp);have N:=u id _ m;rw[A];refine⟨.osl a,.own l rows,rfl,λv r=>?_,⟨λc o g=>?_,λc o g=>?_,λi c g=>?_⟩,by simp,by simp⟩
   ·rcases r.osl_inv with⟨k,p,rfl⟩|⟨k,rfl⟩
    ·exact⟨.osl0 a p (by rw[f];exact k),rfl⟩
    ·refine⟨?_,rfl⟩;rw[←f]at k⊢;exact .osl a k
   ·simp at g;obtain⟨rfl,rfl⟩:=g
    rcases N with⟨k,rfl⟩|⟨k,o⟩
    ·exact .inl ⟨by rw[f];exact k,rfl⟩
    ·have F:l=q:=E.resolve_right (by have:=o.pos;omega);subst F;exact .inr ⟨by rw[f];exact k,by rw[f];exact o⟩
   ·simp at g;exact⟨(some id,a),by simp,g.1.symm⟩
   ·simp at g;rw[g.1];exact⟨_,m⟩
  ·cases e
 next id=>
  split at e
  next K m=>
   cases e
   have f:ρ' a=ρ id:=y (some id,a) (by simp);obtain⟨k,⟨C,L,M,g⟩,hno⟩:=u id _ m;rw[Zxq];refine⟨.omp a,.mp K,rfl,λv r=>?_,⟨λc o j=>?_,λc o j=>?_,λi c j=>?_⟩,by simp,by simp⟩
   ·rw[r.omp_inv,←f];exact⟨.omp a,rfl⟩
   ·simp at j;obtain⟨rfl,rfl⟩:=j;exact⟨by rw[f];exact k,⟨C,L,by rw[f];exact M,g⟩,by rw[f];exact hno⟩
   ·simp at j;exact⟨(some id,a),by simp,j.1.symm⟩
   ·simp at j;rw[j.1];exact⟨_,m⟩
  ·cases e
 next q=>
  cases e
  obtain⟨l,A,_⟩:=Zlr (P:=P) t q [] 0;have f:(ρ' a).none=true:=y (none,a) (by simp);rw[A];refine⟨.osl a,.own l [],rfl,λv r=>?_,⟨λc o g=>?_,λc o g=>?_,λi c g=>?_⟩,by simp,by simp⟩
  ·cases r with
   |pure _ _ G=>cases G with
    |empty p H _ _ O D k=>have:=D rfl;subst this;exact⟨.osl0 a p f,rfl⟩
    |slice b off H _ rows R U Q E V W m O D T=>have:=D rfl;subst this;exact⟨.osl0 a _ f,rfl⟩
  ·simp at g;obtain⟨rfl,rfl⟩:=g;exact .inl ⟨f,rfl⟩
  ·simp at g;exact⟨(none,a),by simp,g.1.symm⟩
  ·simp at g
 ·cases e
def fix0(P:Program)(a:List TypeId)(d:SV):SV:=
 match a with
 | []=>d
 |t::_=>fixSz P t d
def Zdv(E:∀id o,oget objs id=some o→ObOK h ρ w id o)(n:Nat):∀(y:List SV) (j:Nat) (p:List Bool) (f:List TypeId) (H:List SV) (s:List (Option Nat×Nat)),
  Za4 objs n j p y=some (H,s)→Pulls s ρ ρ'→
  ∃m D,Zaz n j p (fixL' P f H)=some (m,D)∧m.length=y.length∧(∀(i:Nat) v c q,y[i]?=some c→m[i]?=some q→Rep h ρ v c→Rep h ρ' v q)∧
   PassOK objs h ρ' w s D∧(∀c o,(c,o)∈D→∀x,o≠ .box x)∧(∀(i:Nat) q,m[i]?=some q→∀t b x,q≠ .gd t b x)
 | [],j,p,f,H,s,e,hp=>by
  simp[Za4]at e;obtain⟨rfl,rfl⟩:=e;have:fixL' P f []=[]:=by cases f<;>rfl
  rw[this];exact⟨[],[],rfl,rfl,by simp,PassOK.nil,by simp,by simp⟩
 |c::y,j,p,f,H,s,e,hp=>by
  simp only[Za4]at e
  split at e
  next d l G ls C h2=>
   cases e
   obtain⟨m,D,e1,e2,R,T,U,V⟩:=Zdv E n y (j+1) p.tail f.tail G ls h2 hp.right
   have O:fixL' P f (d::G)=(fix0 P f d)::fixL' P f.tail G:=by
    cases f with
    |nil=>simp[fixL',fix0]
    |cons t f=>simp[fixL',fix0]
   rw[O]
   cases hm:p.headD false with
   |true=>
    simp only[hm,cond_true]at C
    have W:∃A o,ownH (Zie n p j) (fix0 P f d)=some (A,o)∧(∀v,Rep h ρ v c→Rep h ρ' v A∧v.oneCell'=true)∧PassOK objs h ρ' w l [(Zie n p j,o)]∧(∀y,o≠ .box y)∧(∀t b x,A≠ .gd t b x):=by
     cases f with
     |cons t f=>exact Zfd (P:=P) E C hp.left t
     |nil=>
      obtain⟨A,o,J,N⟩:=Zfd (P:=(default:Program)) E C hp.left 0
      have X:fixSz (default:Program) 0 d=d:=by
       unfold fixSz
       split
       next e _ _ _ Q=>have:(default:Program).underlying 0=none:=(by rfl);rw[this]at Q;cases Q
       ·rfl
      rw[X]at J;exact⟨A,o,J,N⟩
    obtain⟨A,o,J,N,g3,g4,g5⟩:=W;refine⟨A::m,(Zie n p j,o)::D,by simp only[Zaz,e1,hm,cond_true,J],by simp[e2],λi v x M z g r=>?_,g3.append T,λx Z F=>?_,λi q k=>?_⟩
    ·cases i with
     |zero=>simp at z g;subst z;subst g;exact(N v r).1
     |succ i=>exact R i v x M (by simpa using z) (by simpa using g) r
    ·rcases List.mem_cons.1 F with u|F
     ·cases u;exact g4
     ·exact U x Z F
    ·cases i with
     |zero=>simp at k;subst k;exact g5
     |succ i=>exact V i q (by simpa using k)
   |false=>
    simp only[hm,cond_false]at C
    cases hpc:Zap c with
    |none=>simp[hpc]at C
    |some Y=>
     simp[hpc]at C;obtain⟨rfl,rfl⟩:=C;refine⟨fix0 P f Y::m,D,by simp only[Zaz,e1,hm,cond_false],by simp[e2],λi v x M z g r=>?_,by simpa using T,U,λi q k=>?_⟩
     ·cases i with
      |zero=>
       simp at z g;subst z;have K:=Zbs r hpc
       cases f with
       |nil=>simp[fix0]at g;subst g;exact .pure _ _ K
       |cons t f=>simp[fix0]at g;subst g;exact .pure _ _ (Zfc t K)
      |succ i=>exact R i v x M (by simpa using z) (by simpa using g) r
     ·cases i with
      |zero=>
       simp at k
       have L:∀t b x,Y≠ .gd t b x:=by
        intro t b x u;subst u
        cases c<;>simp[Zap]at hpc
        rename_i v;cases v<;>simp at hpc
       cases f with
       |nil=>simp[fix0]at k;subst k;exact L
       |cons t f=>
        simp[fix0]at k;subst k;intro t' b x u;unfold fixSz at u
        split at u
        ·cases u
        ·exact L _ _ _ u
      |succ i=>exact V i q (by simpa using k)
  ·cases e
def fixL'_get:∀(d:List TypeId) (a:List SV),(fixL' P d a).length=a.length∧∀(i:Nat) b,(fixL' P d a)[i]?=some b→∃c t,a[i]?=some c∧(b=c∨b=fixSz P t c)
 | [],a=>by simp only[fixL'];exact⟨trivial,λi b h=>⟨b,0,h,.inl rfl⟩⟩
 |t::d,[]=>by simp[fixL']
 |t::d,c::a=>by
  obtain⟨l,g⟩:=fixL'_get d a;simp only[fixL'];refine⟨by simp[l],λi b h=>?_⟩
  cases i with
  |zero=>simp at h;exact⟨c,t,by simp,.inr h.symm⟩
  |succ i=>simpa using g i b (by simpa using h)
def Zsg{v:Value}{s:SV}(t:TypeId)(r:PRep h v s):PRep h v (normT P t s):=by
 unfold normT
 split
 next d=>
  cases r with
  |agg m _ o n=>
   obtain⟨l,g⟩:=fixL'_get (P:=P) (Zdk P 8 t) d;refine .agg m _ (by omega) λi u c b a=>?_;obtain⟨f,j,e,k⟩:=g i c a;have:=n i u f b e
   rcases k with rfl|rfl
   ·exact this
   ·exact Zfc j this
 ·exact Zfc t r
def Rep.ptr_inv{v:Value}{id off:Nat}(r:Rep h ρ v (.ptr id off)):v= .pointer (some ⟨(ρ id).blk,off,none⟩):=by
 cases r with
 |pure _ _ a=>cases a
 |ptr=>rfl
def Zh4(j:∀id o,oget objs id=some o→ObOK h ρ w id o){a:Nat}{m:Md}{s d:SV}{k:List (Option Nat×Nat)}(t:TypeId)(e:Zf9 objs a m s=some (d,k))(z:Pulls k ρ ρ'):
  ∃q u,argH a m (normM P m t d)=some (q,u)∧(∀v,Rep h ρ v s→Rep h ρ' v q)∧PassOK objs h ρ' w k u:=by
 unfold Zf9 at e
 cases m with
 |pure=>simp at e;obtain⟨d',F,rfl,rfl⟩:=e;exact⟨_,[],rfl,λv r=>.pure _ _ (by simp only[normM];exact Zsg t (Zoq r F)),PassOK.nil⟩
 |own=>
  simp only[]at e
  have y:normM P .own t d=fixSz P t d:=by
   unfold Zf8 at e;simp only[normM];unfold normT
   split
   ·split at e
    ·split at e<;>simp at e
    ·split at e<;>simp at e
    ·simp at e
    ·cases e
   ·rfl
  obtain⟨q,o,O,Q,R,_,_⟩:=Zfd (P:=P) j e z t;refine⟨q,[(a,o)],?_,λv r=>(Q v r).1,R⟩;rw[y];simp[argH,O]
 |lend M=>
  simp only[]at e
  split at e
  next id=>
   split at e
   ·rename_i D E;simp at e;obtain⟨T,n,G,rfl,rfl⟩:=e;have K:Pulls n ρ ρ':=λp l=>z p (by simp[l]);have f:ρ' a=ρ id:=z (some id,a) (by simp);obtain⟨H,u,e1,e2,U,A,e5,_⟩:=Zdv (P:=P) j a D 0 M (Zdk P 8 (datT P (.lend M) t)) T n G K;obtain⟨V,⟨W,ty,X,J,x⟩,hno⟩:=j id _ E;refine⟨.ptr a 0,(a,.box H)::u,by simp[normM,argH,e1],λv r=>?_,⟨λc o b=>?_,λc o b=>?_,λi c b=>?_⟩⟩
    ·rw[r.ptr_inv,←f];exact .ptr a 0
    ·rcases List.mem_cons.1 b with g|b
     ·cases g
      refine⟨by rw[f];exact V,⟨W,ty,by rw[f];exact X,by rw[e2];exact J,λi v c N C=>?_⟩,by rw[f];exact hno⟩;have L:i<D.length:=by have:=(Y0.1 C).1;omega
      obtain⟨Y,Z⟩:=x i v _ N (List.getElem?_eq_getElem L);exact⟨U i v _ c (List.getElem?_eq_getElem L) C Y,Z⟩
     ·exact A.ob c o b
    ·rcases List.mem_cons.1 b with g|b
     ·cases g;exact⟨(some id,a),by simp,rfl⟩
     ·obtain⟨p,l,g⟩:=A.at_ c o b;exact⟨p,by simp[l],g⟩
    ·rcases List.mem_cons.1 b with g|b
     ·cases g;exact⟨_,E⟩
     ·exact A.here i c b
   ·cases e
  ·cases e
def Zct(q:∀id o,oget objs id=some o→ObOK h ρ w id o)(f:Nat→Nat)(u:List Md):∀(x:List TypeId) (c:List SV) (i:Nat) (b:List SV) (a:List (Option Nat×Nat)),
  Za5 P objs f u i x c=some (b,a)→Pulls a ρ ρ'→
  ∃m n,argsH f u i b=some (m,n)∧m.length=c.length∧b.length=c.length∧(∀(k:Nat) v s p,c[k]?=some s→m[k]?=some p→Rep h ρ v s→Rep h ρ' v p)∧PassOK objs h ρ' w a n
 | [],[],i,b,a,e,hp=>by simp[Za5]at e;obtain⟨rfl,rfl⟩:=e;exact⟨[],[],rfl,rfl,rfl,by simp,PassOK.nil⟩
 | [],_::_,i,b,a,e,hp=>by simp[Za5]at e
 |_::_,[],i,b,a,e,hp=>by simp[Za5]at e
 |t::x,s::c,i,b,a,e,hp=>by
  simp only[Za5]at e
  split at e
  next d l z C D E=>
   cases e
   obtain⟨p,F,G,H,J⟩:=Zh4 (P:=P) q t D hp.left;obtain⟨m,n,e1,e2,K,L,M⟩:=Zct q f u x c (i+1) z C E hp.right;refine⟨p::m,F++n,by simp only[argsH,G,e1],by simp[e2],by simp[K],λk v A y g j r=>?_,J.append M⟩
   cases k with
   |zero=>simp at g j;subst g;subst j;exact H v r
   |succ k=>exact L k v A y (by simpa using g) (by simpa using j) r
  ·cases e
def Zji(d:Nat→Nat)(c:List Md):∀(f bs:List SV) (i:Nat) (g:List SV) (j:List (Nat×Ob)),argsH d c i f=some (g,j)→c.length≤i+f.length→argsH d c i (f++bs)=some (g++bs,j)
 | [],bs,i,g,j,e,hl=>by
  simp[argsH]at e;obtain⟨rfl,rfl⟩:=e
  have:∀(bs:List SV) (i:Nat),c.length≤i→argsH d c i bs=some (bs,[]):=by
   intro bs
   induction bs with
   |nil=>intro i _;rfl
   |cons b bs l=>
    intro i k
    have s:mdAt c i= .pure:=by
     have:∀(c:List Md) (i:Nat),c.length≤i→mdAt c i= .pure:=by
      intro c
      induction c with
      |nil=>intro i _;rfl
      |cons m c l=>intro i k;cases i with
       |zero=>simp at k
       |succ i=>exact l i (by simpa using k)
     exact this c i k
    simp[argsH,s,argH,l (i+1) (by omega)]
  simpa using this bs i (by simpa using hl)
 |a::f,bs,i,g,j,e,hl=>by
  simp only[argsH]at e
  split at e
  next t o n p q r=>
   cases e
   have:=Zji d c f bs (i+1) n p r (by simp at hl;omega);simp[argsH,q,this]
  ·cases e
def Zu7{d:List (Option Nat×Nat)}{m:List (Nat×Ob)}(n:PassOK objs h ρ' w d m)(z:Pulls d ρ ρ')(u:(d.filterMap (·.1)).Nodup)
  (s:∀i j,live objs ρ i→live objs ρ j→i≠j→(ρ i).blk≠(ρ j).blk):∀i j,live m ρ' i→live m ρ' j→i≠j→(ρ' i).blk≠(ρ' j).blk:=by
 have r:∀i,live m ρ' i→∃id,(some id,i)∈d∧ρ' i=ρ id∧live objs ρ id:=by
  rintro i ⟨⟨o,e⟩,hn⟩;obtain⟨p,l,rfl⟩:=n.at_ i o (Zb6 e);have g:=z p l;obtain⟨D,c⟩:=p
  cases D with
  |none=>simp only at g;rw[g]at hn;cases hn
  |some id=>exact⟨id,l,g,n.here id c l,by rw[←g];exact hn⟩
 intro i j A C v;obtain⟨a,E,F,G⟩:=r i A;obtain⟨b,H,J,K⟩:=r j C;rw[F,J];refine s a b G K λe=>?_;subst e
 have:∀(d:List (Option Nat×Nat)),(d.filterMap (·.1)).Nodup→(some a,i)∈d→(some a,j)∈d→i=j:=by
  intro d
  induction d with
  |nil=>intro _ q;simp at q
  |cons p d y=>
   intro f q t;obtain⟨o,c⟩:=p
   cases o with
   |none=>simp only[YJ]at f;exact y f (by simpa using q) (by simpa using t)
   |some x=>
    simp only[YJ,Ym]at f;have hno:∀k,(some x,k)∈d→False:=λk n=>f.1 (Yl.2 ⟨_,n,rfl⟩)
    rcases List.mem_cons.1 q with e1|h3
    ·cases e1
     rcases List.mem_cons.1 t with e2|h4
     ·cases e2;rfl
     ·exact(hno _ h4).elim
    ·rcases List.mem_cons.1 t with e2|h4
     ·cases e2;exact(hno _ h3).elim
     ·exact y f.2 h3 h4
 exact v (this d u E H)
def pass_holds{a:List (Option Nat×Nat)}{f:List (Nat×Ob)}(g:PassOK objs h ρ' w a f)(l:Pulls a ρ ρ')(k:(a.filterMap (·.1)).Nodup)(b:HSub h w)
  (d:∀i j,live objs ρ i→live objs ρ j→i≠j→(ρ i).blk≠(ρ j).blk):Holds h ρ' f w:=
 ⟨b,λc o e=>g.ob c o e,Zu7 g l k d⟩
def Zor{d:List (Option Nat×Nat)}{j:List (Nat×Ob)}(k:PassOK objs h ρ' w d j)(l:Pulls d ρ ρ'){b:Nat}(m:Gv j ρ' b):∃id c,(some id,c)∈d∧live objs ρ id∧(ρ id).blk=b:=by
 obtain⟨i,⟨⟨o,e⟩,g⟩,rfl⟩:=m;obtain⟨p,f,rfl⟩:=k.at_ i o (Zb6 e);have a:=l p f;obtain⟨n,c⟩:=p
 cases n with
 |none=>simp only at a;rw[a]at g;cases g
 |some id=>exact⟨id,c,f,⟨k.here id c f,by rw[←a];exact g⟩,by simp only at a;rw[a]⟩
end

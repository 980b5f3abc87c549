import Derived.Test.YtgehiiginclniaaGreatDoorK01
import Derived.Laws.BytesString
import Derived.Tactics
set_option linter.all false
set_option maxRecDepth 100000
namespace Go.Px
open Go.RowKit
section
variable{X:Cx}{h h':Hp}{ρ:Nat→Loc}{st:St}{a:Act}{w w':World}{P:Program}
def FitsAt.weaken(F:FitsAt X h ρ st a w)(b:St)(d:b.tmps.length=st.tmps.length)(f:∀(t:Nat) s,b.tmps[t]?=some s→TRep h ρ a.tmps (a.tmps.getD t undef) s)
  (c:∀id o,oget b.objs id=some o→oget st.objs id=some o):FitsAt X h ρ b a w:=
 {F with
  size:=by rw[F.size,d]
  tm:=f
  obj:=λid o e=>F.obj id o (c id o e)
  inj:=λi j ⟨⟨o,e⟩,hi⟩ ⟨⟨o',e'⟩,hj⟩ hij=>F.inj i j ⟨⟨o,c i o e⟩,hi⟩ ⟨⟨o',c j o' e'⟩,hj⟩ hij
  own:=λi ⟨⟨o,e⟩,hi⟩=>F.own i ⟨⟨o,c i o e⟩,hi⟩}
def FitsAt.odel(F:FitsAt X h ρ st a w)(id:Nat):FitsAt X h ρ {st with objs:=odel st.objs id} a w:=
 F.weaken _ rfl F.tm (λi o e=>(Zaf e).2)
def Zdw(j:List Md):∀(l:List (Option Nat×Nat)) {st:St},FitsAt X h ρ st a w→FitsAt X h ρ (Za8 j l st) a w∧
  ∀i o,oget (Za8 j l st).objs i=some o→(∃b,oget st.objs i=some b)∧∀c,(some i,c)∉l
 | [],st,F=>⟨F,λi o e=>⟨⟨o,e⟩,by simp⟩⟩
 |(none,c)::l,st,F=>by obtain⟨p,g⟩:=Zdw j l F;exact⟨p,λi o e=>⟨(g i o e).1,λq k=>(g i o e).2 q (by simpa using k)⟩⟩
 |(some id,cid)::l,st,F=>by
  simp only[Za8]
  have step:∀d:St,FitsAt X h ρ d a w→(∀i o,oget d.objs i=some o→i≠id∧∃b,oget st.objs i=some b)→
    FitsAt X h ρ (Za8 j l d) a w∧∀i o,oget (Za8 j l d).objs i=some o→(∃b,oget st.objs i=some b)∧∀c,(some i,c)∉(some id,cid)::l:=by
   intro d p r;obtain⟨s,g⟩:=Zdw j l p;refine⟨s,λi o e=>?_⟩;obtain⟨⟨b,m⟩,hno⟩:=g i o e;obtain⟨f,t⟩:=r i b m;refine⟨t,λc k=>?_⟩
   rcases List.mem_cons.1 k with e2|k
   ·cases e2;exact f rfl
   ·exact hno c k
  split
  ·cases(Nat.beq (cid%128) 0||Nat.ble 64 (cid%128))with
   |true=>exact step _ (F.odel id) (λi o e=>⟨(Zaf e).1,_,(Zaf e).2⟩)
   |false=>refine step _ (F.drop id (λ_ _=>rfl) (.inr rfl)) (λi o e=>?_);obtain⟨b,m,rfl⟩:=Zah e;obtain⟨f,n⟩:=Zaf m;exact⟨f,_,n⟩
  ·refine step _ (F.drop id (λ_ _=>rfl) (.inr rfl)) (λi o e=>?_);obtain⟨b,m,rfl⟩:=Zah e;obtain⟨f,n⟩:=Zaf m;exact⟨f,_,n⟩
def FitsAt.called(F:FitsAt X h ρ st a w)(G:Nat→Prop)(l:∀i,live st.objs ρ i→¬G (ρ i).blk)(j:∀b,G b→X.w.heap.size≤b∨X.G b)(m:Keeps G w w')(f:HLe h h')(k:HSub h' w')
  (g:∀b,b<w.heap.size→¬G b→∀o,h b o=none→h' b o=none):FitsAt X h' ρ st a w':=by
 have lt:=λid o c d=>ObOK.blk_lt (F.obj id o c) d;refine{F with tm:=λt s r=>(F.tm t s r).mono f,sub:=k,obj:=λid o c=>?_,mono:=F.mono.trans f,ext:=λb n p o e=>?_,kp:=F.kp.step m j}
 ·exact(F.obj id o c).carry f (λd=>m.block _ (lt id o c d) (l id ⟨⟨o,c⟩,d⟩)) (λd x=>g _ (lt id o c d) (l id ⟨⟨o,c⟩,d⟩) x)
 ·refine g b (Nat.lt_of_lt_of_le n F.kp.size) (λq=>?_) o (F.ext b n p o e)
  rcases j b q with h1|h1
  ·omega
  ·exact p h1
def ObOK.move{b d:Nat→Loc}{i c:Nat}{o:Ob}(f:∀x,o≠ .box x)(e:d i=b c)(r:ObOK h b w c o):ObOK h d w i o:=by
 cases o with
 |box x=>exact absurd rfl (f x)
 |own g rows=>simp only[ObOK,e]at r⊢;exact r
 |mp j=>simp only[ObOK,e]at r⊢;exact r
 |arr k m l=>simp only[ObOK,e]at r⊢;exact r
def Zjj(b:Nat→Loc):∀(g:List (Nat×Nat×Ob)) {st:St} {ρ:Nat→Loc},FitsAt X h ρ st a w→(g.map (·.1)).Nodup→
  (∀i c o,(i,c,o)∈g→idOK i=true∧ObOK h b w c o∧(∀x,o≠ .box x)∧((b c).none=false→(X.w.heap.size≤(b c).blk∨X.G (b c).blk)∧∀k,live st.objs ρ k→(ρ k).blk≠(b c).blk))→
  (∀i c o l m j,(i,c,o)∈g→(l,m,j)∈g→i≠l→(b c).none=false→(b m).none=false→(b c).blk≠(b m).blk)→
  ∃r,FitsAt X h r (Zi3 g st) a w∧(∀i c o,(i,c,o)∈g→r i=b c)∧(∀k,(∀p∈g,p.1≠k)→r k=ρ k)∧
   (∀k o,oget (Zi3 g st).objs k=some o→k∈g.map (·.1)∨((∀p∈g,p.1≠k)∧∃j,oget st.objs k=some j))
 | [],st,ρ,F,_,_,_=>⟨ρ,F,by simp,λ_ _=>rfl,λk o e=>.inr ⟨by simp,o,e⟩⟩
 |(i,c,o)::g,st,ρ,F,hn,ho,hd=>by
  simp only[List.map_cons,Ym]at hn;obtain⟨C,U,D,E⟩:=ho i c o (by simp);have hm:Zd4 (killG i) o=o:=by cases o<;>first|rfl|exact absurd rfl (D _)
  have F1:=F.bind i C o (b c) (by rw[hm];exact U.move D (Zab _ _ _)) (λn=>(E n).1) (λn k _ q=>(E n).2 k q)
  have v:∀k,live (st.bind i o).objs (upd ρ i (b c)) k→k=i∨(k≠i∧live st.objs ρ k):=by
   intro k q;by_cases hki:k=i
   ·exact .inl hki
   ·refine .inr ⟨hki,?_⟩;obtain⟨⟨x,u⟩,y⟩:=q;simp only[St.bind,Zbf,if_neg (YL hki)]at u;rw[Zi7 ρ _ hki]at y;obtain⟨A,t,rfl⟩:=Zah u;exact⟨⟨A,(Zaf t).2⟩,y⟩
  have z:∀l m j,(l,m,j)∈g→l≠i:=λl m j d e=>hn.1 (by subst e;exact Yd (f:=(·.1)) d)
  obtain⟨r,V,W,H,Y⟩:=Zjj b g F1 hn.2 (λl m j d=>by
   obtain⟨q0,Z,q2,J⟩:=ho l m j (by simp[d]);refine⟨q0,Z,q2,λn=>⟨(J n).1,λk q=>?_⟩⟩
   rcases v k q with rfl|⟨hki,hk'⟩
   ·rw[Zab];exact hd k c o l m j (by simp) (by simp[d]) (λe=>z l m j d e.symm) (by have:=q.2;rwa[Zab]at this) n
   ·rw[Zi7 ρ _ hki];exact(J n).2 k hk') (λK L M N O Q R T=>hd K L M N O Q (by simp[R]) (by simp[T]))
  refine⟨r,V,λl m j d=>?_,λk q=>?_,λk x u=>?_⟩
  ·rcases List.mem_cons.1 d with e|d
   ·cases e
    rw[H i (λp s=>z p.1 p.2.1 p.2.2 s),Zab]
   ·exact W l m j d
  ·rw[H k (λp s=>q p (by simp[s])),Zi7];exact λe=>q (i,c,o) (by simp) e.symm
  ·rcases Y k x u with q|⟨hk1,j,ho'⟩
   ·exact .inl (by simp[q])
   ·by_cases hki:k=i
    ·exact .inl (by simp[hki])
    ·refine .inr ⟨λp s=>?_,?_⟩
     ·rcases List.mem_cons.1 s with rfl|s
      ·exact λe=>hki e.symm
      ·exact hk1 p s
     ·simp only[St.bind,Zbf,if_neg (YL hki)]at ho';obtain⟨A,t,rfl⟩:=Zah ho';exact⟨A,(Zaf t).2⟩
def Zls:∀(b:List (Nat×Ob)) {st:St},FitsAt X h ρ st a w→(b.map (·.1)).Nodup→
  (∀i o,(i,o)∈b→oget st.objs i=none∧ObOK h ρ w i o∧((ρ i).none=false→(X.w.heap.size≤(ρ i).blk∨X.G (ρ i).blk)∧∀k,live st.objs ρ k→(ρ k).blk≠(ρ i).blk))→
  (∀i o d j,(i,o)∈b→(d,j)∈b→i≠d→(ρ i).none=false→(ρ d).none=false→(ρ i).blk≠(ρ d).blk)→
  FitsAt X h ρ {tmps:=st.tmps,objs:=b++st.objs} a w
 | [],st,F,_,_,_=>F
 |(i,o)::b,st,F,hn,ho,hd=>by
  simp only[List.map_cons,Ym]at hn;have D:=Zls b F hn.2 (λd j n=>ho d j (by simp[n])) (λp q r s t u=>hd p q r s (by simp[t]) (by simp[u]));obtain⟨A,C,m⟩:=ho i o (by simp)
  have hno:oget (b++st.objs) i=none:=by
   rw[Zk5,A]
   cases e:oget b i with
   |none=>rfl
   |some x=>exact absurd (Yd (f:=(·.1)) (Zb6 e)) hn.1
  refine D.add i o hno C (λc=>(m c).1) (λc k v=>?_);obtain⟨⟨x,l⟩,g⟩:=v;simp only[Zk5]at l
  cases e:oget b k with
  |some y=>exact hd k y i o (by simp[Zb6 e]) (by simp) (λz=>hn.1 (by subst z;exact Yd (f:=(·.1)) (Zb6 e))) g c
  |none=>simp[e]at l;exact(m c).2 k ⟨⟨x,l⟩,g⟩
def Zdx:∀(d b:List SV),Zam d=true→Zam b=true→Zam (d++b)=true
 | [],b,_,h=>h
 |c::cs,b,h1,h2=>by simp only[Zam,Bool.and_eq_true,List.cons_append]at h1⊢;exact⟨h1.1,Zdx cs b h1.2 h2⟩
def Zew:∀(n:Nat) (t:TypeId) (K:List SV→Prop),Za2 P n t K→∃j,Zam j=true∧K j:=by
 intro n
 induction n with
 |zero=>intro t o h;exact h.elim
 |succ n A=>
  intro t o h;simp only[Za2]at h
  have p:∀(l:List TypeId) (o:List SV→Prop) (d:List SV),Zam d=true→(l.foldr (λf k d=>Za2 P n f λj=>k (d++j)) o) d→∃j,Zam j=true∧o j:=by
   intro l
   induction l with
   |nil=>intro o d r h;exact⟨d,r,h⟩
   |cons t E v=>intro o d r h;obtain⟨j,y,u⟩:=A t _ h;exact v o _ (Zdx _ _ r y) u
  split at h
  ·obtain⟨b,g⟩:=h;exact⟨_,rfl,g⟩
  ·obtain⟨b,g⟩:=h;exact⟨_,rfl,g⟩
  ·obtain⟨b,g⟩:=h;exact⟨_,rfl,g⟩
  ·split at h
   ·obtain⟨b,g⟩:=h;exact⟨_,rfl,g⟩
   ·exact h.elim
  ·obtain⟨b,g⟩:=h;exact⟨_,rfl,g⟩
  ·obtain⟨b,j,g⟩:=h;exact⟨_,rfl,g⟩
  ·obtain⟨b,g⟩:=h
   cases b with
   |true=>exact⟨_,rfl,g⟩
   |false=>obtain⟨i,g⟩:=g;exact⟨_,rfl,g⟩
  ·obtain⟨b,g⟩:=h;exact⟨_,rfl,g⟩
  ·obtain⟨b,c,g⟩:=h;exact⟨_,rfl,g⟩
  next D _=>
   have e:∀(l:List Field),l.foldr (λf k d=>Za2 P n f.type λj=>k (d++j)) o=(l.map (·.type)).foldr (λf k d=>Za2 P n f λj=>k (d++j)) o:=by
    intro l;induction l with
    |nil=>rfl
    |cons x C q=>simp only[W4,List.map_cons,q]
   rw[e]at h;exact p _ _ _ rfl h
  next m s _=>
   have e:∀(l:List Nat),l.foldr (λ_ k d=>Za2 P n s λj=>k (d++j)) o=(l.map (λ_=>s)).foldr (λf k d=>Za2 P n f λj=>k (d++j)) o:=by
    intro l;induction l with
    |nil=>rfl
    |cons x C q=>simp only[W4,List.map_cons,q]
   rw[e]at h;exact p _ _ _ rfl h
  ·obtain⟨b,z,g⟩:=h;exact⟨[b],by simp[Zam,z],g⟩
def Zlt:∀(d:List TypeId) (K:List SV→Prop),Zl0 P d K→∃e,e.length=d.length∧Zam e=true∧K e
 | [],K,h=>⟨[],rfl,rfl,h⟩
 |t::d,K,h=>by
  simp only[Zl0,shapeV]at h
  have g:∃s,Zav s=true∧Zl0 P d λi=>K (s::i):=by
   split at h
   next j m _=>obtain⟨k,h⟩:=h;exact⟨.arr j m k,by simp[Zav],h⟩
   ·obtain⟨l,f,b⟩:=Zew _ _ _ h
    cases hb:Zas P t with
    |true=>simp only[hb,cond_true]at b;exact⟨.agg l,by simp[Zav,f],b⟩
    |false=>
     simp only[hb,cond_false]at b
     split at b
     next c=>simp[Zam]at f;exact⟨c,f,b⟩
     ·exact b.elim
  obtain⟨s,n,o⟩:=g;obtain⟨e,e1,e2,p⟩:=Zlt d _ o;exact⟨s::e,by simp[e1],by simp[Zam,n,e2],p⟩
def Zlu:∀(c:List TypeId) (K:List SV→Prop),Zo4 P c K→∃b,b.length=c.length∧Zam b=true∧K b
 | [],K,h=>⟨[],rfl,rfl,h⟩
 |t::c,K,h=>by simp only[Zo4]at h;obtain⟨d,e,f⟩:=Zew _ _ _ h;obtain⟨b,e1,e2,g⟩:=Zlu c _ f;exact⟨.agg d::b,by simp[e1],by simp[Zam,Zav,e,e2],g⟩
def Zsl(c d:List TypeId)(K:List SV→Prop)(h:shapeRL P c d K):∃e,e.length=(c++d).length∧Zam e=true∧K e:=by
 obtain⟨a,f,g,h⟩:=Zlt c _ h;obtain⟨b,i,j,h⟩:=Zlu d _ h;exact⟨a++b,by simp[f,i],Zdx _ _ g j,h⟩
def Zjk:∀{l:List SV},Zam l=true→∀(i:Nat) c,l[i]?=some c→Zav c=true
 | [],_,i,c,h=>by simp at h
 |x::xs,hb,0,c,h=>by simp[Zam]at hb;simp at h;subst h;exact hb.1
 |x::xs,hb,i+1,c,h=>by simp[Zam]at hb;exact Zjk hb.2 i c (by simpa using h)
def Rep.toPure{v:Value}{s:SV}(r:Rep h ρ v s):Zav s=true→PRep h v s:=by
 induction r with
 |pure v s b=>intro _;exact b
 |agg f g j _ k=>intro b;exact .agg f g j (λi v c e d=>k i v c e d (Zjk (by simpa[Zav]using b) i c d))
 |tup=>intro b;simp[Zav]at b
 |ptr=>intro b;simp[Zav]at b
 |bsl=>intro b;simp[Zav]at b
 |osl0=>intro b;simp[Zav]at b
 |osl=>intro b;simp[Zav]at b
 |eptr=>intro b;simp[Zav]at b
 |osv=>intro b;simp[Zav]at b
 |omp=>intro b;simp[Zav]at b
 |aptr=>intro b;simp[Zav]at b
 |asl=>intro b;simp[Zav]at b
def Zex{i j:Nat}{s e c:SV}{o f:Ob}(e1:ownH i s=some (e,o))(e2:ownH j s=some (c,f)){ρ1 ρ2:Nat→Loc}(d:ρ1 i=ρ2 j):
  o=f∧(∀x,o≠ .box x)∧∀v,Rep h ρ2 v c→Rep h ρ1 v e:=by
 unfold ownH at e1 e2
 split at e1
 ·cases e1;cases e2
  refine⟨rfl,by simp,λv r=>?_⟩
  rcases r.osl_inv with⟨b,p,rfl⟩|⟨b,rfl⟩
  ·exact .osl0 i p (by rw[d];exact b)
  ·rw[←d]at b⊢;exact .osl i b
 ·cases e1;cases e2
  refine⟨rfl,by simp,λv r=>?_⟩;rw[r.omp_inv,←d];exact .omp i
 ·cases e1
def Zcy{b id:Nat}:∀{l:List (Option Nat×Nat)},Zeb b l=some id→(some id,b)∈l
 | [],e=>by simp[Zeb]at e
 |(none,_)::l,e=>by simp[Zeb]at e;simp[Zcy e]
 |(some x,c)::l,e=>by
  simp only[Zeb]at e
  cases hb:Nat.beq c b with
  |true=>simp[hb]at e;subst e;have:=Nat.eq_of_beq_eq_true hb;subst this;simp
  |false=>simp[hb]at e;simp[Zcy e]
def stay_mem{id j:Nat}{b:List Bool}(d:j<64)(f:(b.drop j).headD false=true)(c:stayH (b.drop j)=true):id+64+j∈Zjm id b:=by
 unfold Zjm
 have g:Nat.ble b.length 64=false:=by
  cases hb:Nat.ble b.length 64 with
  |false=>rfl
  |true=>
   have:=Nat.le_of_ble_eq_true hb;have e:(b.drop j).drop 64=[]:=List.drop_of_length_le (by simp;omega);unfold stayH at c;rw[e]at c
   cases c
 rw[g,cond_false];exact Yl.2 ⟨j,by simp[d],by rw[f,c];rfl⟩
def Zgu(L:List (Option Nat×Nat))(g id:Nat)(s:List Bool):∀(u:List SV) (j:Nat) (D E:List SV) (F:List (Nat×Nat×Ob)) (G H:List (Nat×Ob)),Zam u=true→Zga L g id j (s.drop j) u=some (D,F,G)→Zaz g j (s.drop j) u=some (E,H)→
  D.length=u.length∧E.length=u.length∧(∀x c o,(x,c,o)∈F→(c,o)∈H∧∀y,o≠ .box y)∧
  (∀k o,(k,o)∈G→∃c,(some k,c)∈L∧(c,o)∈H∧c∈Zjm g s∧∀y,o≠ .box y)∧
  ∀d f:Nat→Loc,(∀x c o,(x,c,o)∈F→d x=f c)→(∀k o,(k,o)∈G→∀c,(some k,c)∈L→c∈Zjm g s→d k=f c)→
   ∀(i:Nat) v x y,D[i]?=some x→E[i]?=some y→Rep h f v y→Rep h d v x
 | [],j,D,E,F,G,H,_,e1,e2=>by simp[Zaz]at e2;simp[Zga]at e1;obtain⟨rfl,rfl,rfl⟩:=e1;obtain⟨rfl,rfl⟩:=e2;exact⟨rfl,rfl,by simp,by simp,by simp⟩
 |c::u,j,D,E,F,G,H,hp,e1,e2=>by
  simp only[Zam,Bool.and_eq_true]at hp;simp only[Zaz,List.tail_drop]at e2;simp only[Zga,List.tail_drop]at e1
  split at e1
  ·cases e1
  next Y Z a0 h1=>
   split at e2
   ·cases e2
   ·rename_i a1 a2 h2;obtain⟨M,N,O,Q,R⟩:=Zgu L g id s u (j+1) Y a1 Z a0 a2 hp.2 h1 h2
    cases hm:(s.drop j).headD false with
    |true=>
     simp only[hm,cond_true]at e1 e2
     cases hs:stayH (s.drop j)with
     |true=>
      simp only[hs,cond_true,Zie]at e1 e2
      split at e1
      ·rename_i k J a3;have hj:j<64:=Nat.le_of_ble_eq_true a3
       split at e1
       next hd o K=>
        split at e2
        next a4 a5 t=>
         cases e1;cases e2
         have hst:g+64+j∈Zjm g s:=stay_mem hj hm hs;refine⟨by simp[M],by simp[N],λx m l b=>?_,λx l b=>?_,λd f C q i v x y n p r=>?_⟩
         ·obtain⟨z,A⟩:=O x m l b;exact⟨Yr _ z,A⟩
         ·rcases List.mem_cons.1 b with e|b
          ·cases e
           obtain⟨T,U,_⟩:=Zex (h:=h) K t (ρ1:=λ_=>noLoc) (ρ2:=λ_=>noLoc) rfl;subst T;exact⟨g+64+j,Zcy J,by simp,hst,U⟩
          ·obtain⟨m,z,A,V,W⟩:=Q x l b;exact⟨m,z,Yr _ A,V,W⟩
         ·cases i with
          |zero=>simp at n p;subst n;subst p;exact(Zex K t (q k o (by simp) _ (Zcy J) hst)).2.2 v r
          |succ i=>exact R d f (λx m l b=>C x m l (by simp[b])) (λk' l b=>q k' l (by simp[b])) i v x y (by simpa using n) (by simpa using p) r
        ·cases e2
       ·cases e1
      ·cases e1
     |false=>
      simp only[hs,cond_false,Zie]at e1 e2
      split at e1
      next hd o K=>
       split at e2
       next a4 a5 t=>
        cases e1;cases e2
        refine⟨by simp[M],by simp[N],λx m l b=>?_,λx l b=>?_,λd f C q i v x y n p r=>?_⟩
        ·rcases List.mem_cons.1 b with e|b
         ·cases e
          obtain⟨T,U,_⟩:=Zex (h:=h) K t (ρ1:=λ_=>noLoc) (ρ2:=λ_=>noLoc) rfl;subst T;exact⟨by simp,U⟩
         ·obtain⟨z,A⟩:=O x m l b;exact⟨Yr _ z,A⟩
        ·obtain⟨m,z,A,V,W⟩:=Q x l b;exact⟨m,z,Yr _ A,V,W⟩
        ·cases i with
         |zero=>simp at n p;subst n;subst p;exact(Zex K t (C (id+1+j) (g+1+j) o (by simp))).2.2 v r
         |succ i=>exact R d f (λx m l b=>C x m l (by simp[b])) q i v x y (by simpa using n) (by simpa using p) r
       ·cases e2
      ·cases e1
    |false=>
     simp only[hm,cond_false]at e1 e2
     cases e1;cases e2
     refine⟨by simp[M],by simp[N],O,Q,λd f C q i v x y n p r=>?_⟩
     cases i with
     |zero=>simp at n p;subst n;subst p;exact .pure _ _ (r.toPure hp.1)
     |succ i=>exact R d f C q i v x y (by simpa using n) (by simpa using p) r
end
end Go.Px
namespace Go.Px
open Go.RowKit
def Ztj{k r:Nat}(b:r=0∨(64≤r∧r<128)):idOK (pId k+r)=false:=by
 have c:Nat.blt (1048576+128*k+r) 1048576=false:=by
  cases hb:Nat.blt (1048576+128*k+r) 1048576
  ·rfl
  ·have:=Nat.le_of_ble_eq_true hb;omega
 have d:(1048576+128*k+r)%128=r:=by omega
 have e:(Nat.beq r 0||Nat.ble 64 r)=true:=by
  rcases b with rfl|⟨b,_⟩
  ·rfl
  ·rw[Nat.ble_eq_true_of_le b,Bool.or_true]
 unfold idOK pId;rw[c,d,e];rfl
def Znk(k:Nat):idOK (pId k)=false:=Ztj (r:=0) (.inl rfl)
def Zmd{l:List (Option Nat×Nat)}{d:List Nat}(h:Zqq l d=true){id:Nat}(e:id∈d):(some id,id)∈l:=by
 unfold Zqq at h;have g:=List.all_eq_true.1 h id e;obtain⟨⟨o,c⟩,f,b⟩:=List.any_eq_true.1 g;simp only[Bool.and_eq_true]at b;have e2:c=id:=Nat.eq_of_beq_eq_true b.2;subst e2
 cases o with
 |none=>cases b.1
 |some k=>have e1:k=c:=Nat.eq_of_beq_eq_true b.1;subst e1;exact f
def Zv6{id c:Nat}{b:List Bool}(h:c∈Zjm id b):∃j,j<64∧c=id+64+j:=by
 unfold Zjm at h
 cases hb:Nat.ble b.length 64 with
 |true=>rw[hb]at h;cases h
 |false=>
  rw[hb,cond_false]at h;obtain⟨j,e,d⟩:=Yl.1 h;refine⟨j,by simpa using e,?_⟩
  cases hc:(b.drop j).headD false&&stayH (b.drop j)with
  |true=>rw[hc,cond_true]at d;cases d;rfl
  |false=>rw[hc,cond_false]at d;cases d
def Ze4:∀(b:List Md) (i:Nat) {c:Nat},c∈Zb2 i b→∃k j,j<64∧c=pId k+(64+j)
 | [],i,c,h=>by cases h
 | .lend mm::r,i,c,h=>by
  rcases List.mem_append.1 h with h|h
  ·obtain⟨j,d,e⟩:=Zv6 h;exact⟨i,j,d,by omega⟩
  ·exact Ze4 r (i+1) h
 | .pure::r,i,c,h=>Ze4 r (i+1) h
 | .own::r,i,c,h=>Ze4 r (i+1) h
def Zke{b:List Md}{i c:Nat}(h:c∈Zb2 i b):idOK c=false:=by
 obtain⟨k,j,d,rfl⟩:=Ze4 b i h;exact Ztj (.inr ⟨by omega,by omega⟩)
def lendN:List Md→Nat
 | []=>0
 | .lend _::r=>lendN r+1
 |_::r=>lendN r
def Zhe:∀(d:List Md) (i:Nat) (c:List SV) (b:List (Nat×Ob)),lentH i d c=some b→c.length=lendN d
 | [],i,[],b,_=>rfl
 | [],i,_::_,b,e=>by simp[lentH]at e
 | .lend d::r,i,[],b,e=>by simp[lentH]at e
 | .lend d::r,i,s::c,b,e=>by
  simp only[lentH]at e
  split at e
  next j f g=>have:=Zhe r (i+1) c f g;simp[lendN,this]
  ·cases e
 | .pure::r,i,c,b,e=>by simp only[lentH]at e;simpa[lendN]using Zhe r (i+1) c b e
 | .own::r,i,c,b,e=>by simp only[lentH]at e;simpa[lendN]using Zhe r (i+1) c b e
def Zkf:∀(b:List Md) (i:Nat),(∃m r,b.drop i=m::r∧mdAt b i=m∧b.drop (i+1)=r)∨(b.drop i=[]∧mdAt b i= .pure∧b.drop (i+1)=[])
 | [],i=>.inr ⟨by simp,by cases i<;>rfl,by simp⟩
 |m::b,0=>.inl ⟨m,b,rfl,rfl,rfl⟩
 |m::b,i+1=>by simpa[mdAt]using Zkf b i
def Zhf(P:Program)(b:List Md):∀(d:List TypeId) (i:Nat),b.length≤i+d.length→(Ze0 P b i d).length=lendN (b.drop i)
 | [],i,h=>by have:b.drop i=[]:=List.drop_of_length_le (by simpa using h);simp[Ze0,this,lendN]
 |t::d,i,h=>by
  have c:=Zhf P b d (i+1) (by simp at h;omega);simp only[Ze0]
  rcases Zkf b i with⟨m,r,e1,e2,e⟩|⟨e1,e2,e⟩
  ·rw[e1,e2];rw[e]at c
   cases m<;>simp[lendN,c]
  ·rw[e1,e2];rw[e]at c;simp[lendN]at c⊢;exact c
def Zhg(d:Nat→Nat)(g:List Md):∀(b:List SV) (i:Nat) (c:List SV) (f:List (Nat×Ob)),argsH d g i b=some (c,f)→c.length=b.length
 | [],i,c,f,e=>by simp[argsH]at e;obtain⟨rfl,rfl⟩:=e;rfl
 |s::b,i,c,f,e=>by
  simp only[argsH]at e
  split at e
  next m o j k n l=>
   cases e
   simp[Zhg d g b (i+1) j k l]
  ·cases e
def Zi8(P:Program)(c:List (Nat×Ob))(k:Nat→Nat)(m:List Md):∀(g:List TypeId) (j:List SV) (i:Nat) (f:List SV) (b:List (Option Nat×Nat)),Za5 P c k m i g j=some (f,b)→g.length=j.length
 | [],[],i,f,b,e=>rfl
 | [],_::_,i,f,b,e=>by simp[Za5]at e
 |_::_,[],i,f,b,e=>by simp[Za5]at e
 |t::g,s::j,i,f,b,e=>by
  simp only[Za5]at e
  split at e
  next d l n o q p=>simp[Zi8 P c k m g j (i+1) n o p]
  ·cases e
def mem_oget{l:List (Nat×Ob)}{c:Nat}{o:Ob}(h:(c,o)∈l):∃b,oget l c=some b:=by
 induction l with
 |nil=>simp at h
 |cons x f d=>
  obtain⟨k,p⟩:=x;rw[Zbf];by_cases e:k=c
  ·exact⟨p,by simp[e]⟩
  ·rw[if_neg e]
   rcases List.mem_cons.1 h with e'|h
   ·cases e';exact absurd rfl e
   ·exact d h
def Zhh{g:List (Nat×Ob)}{i:Nat}{s d:SV}{f:List (Option Nat×Nat)}(e:Zf8 g i s=some (d,f)):∀id c,(some id,c)∈f→s= .osl id∨s= .omp id:=by
 intro id c b;unfold Zf8 at e
 split at e
 ·split at e
  ·cases e;simp at b;exact .inl (by rw[b.1])
  ·cases e
 ·split at e
  ·cases e;simp at b;exact .inr (by rw[b.1])
  ·cases e
 ·cases e;simp at b
 ·cases e
def Zfq{m:List (Nat×Ob)}(k:Nat):∀(g:List SV) (j:Nat) (i:List Bool) (n:List SV) (b:List (Option Nat×Nat)),Za4 m k j i g=some (n,b)→∀id c,(some id,c)∈b→.osl id∈g∨.omp id∈g
 | [],j,i,n,b,e,id,c,hm=>by simp[Za4]at e;obtain⟨rfl,rfl⟩:=e;simp at hm
 |x::g,j,i,n,b,e,id,c,hm=>by
  simp only[Za4]at e
  split at e
  next d l o p f q=>
   cases e
   rcases List.mem_append.1 hm with hm|hm
   ·cases hmm:i.headD false with
    |true=>
     simp only[hmm,cond_true]at f
     rcases Zhh f id c hm with e|e
     ·exact .inl (by simp[e])
     ·exact .inr (by simp[e])
    |false=>
     simp only[hmm,cond_false]at f
     cases hp:Zap x with
     |none=>simp[hp]at f
     |some y=>simp[hp]at f;rw[f.2]at hm;simp at hm
   ·rcases Zfq k g (j+1) i.tail o p q id c hm with e|e
    ·exact .inl (by simp[e])
    ·exact .inr (by simp[e])
  ·cases e
def Zkg:∀(b:List SV) (id:Nat),.osl id∈b→id∈Zfg b
 | [],id,h=>by simp at h
 |c::b,id,h=>by
  simp only[Zfg,List.mem_append]
  rcases List.mem_cons.1 h with e|h
  ·rw[←e];exact .inl (by simp[Zvu])
  ·exact .inr (Zkg b id h)
def Znl{b:List (Nat×Ob)}{g:Nat}{m:Md}{s d:SV}{i:List (Option Nat×Nat)}(e:Zf9 b g m s=some (d,i)):∀id c,(some id,c)∈i→id∈Zig b m s:=by
 intro id c f;unfold Zf9 at e
 cases m with
 |pure=>simp at e;obtain⟨x,_,_,rfl⟩:=e;simp at f
 |own=>
  simp only[]at e
  rcases Zhh e id c f with rfl|rfl
  ·simp[Zig]
  ·simp[Zig]
 |lend p=>
  simp only[]at e
  split at e
  next q=>
   split at e
   ·rename_i k n;simp at e;obtain⟨o,j,l,rfl,rfl⟩:=e;simp only[Zig,n]
    rcases List.mem_cons.1 f with e|f
    ·cases e;simp
    ·rcases Zfq g k 0 p o j l id c f with e|e
     ·simp[Zkg k id e]
     ·refine Yr _ (Yw _ (Yl.2 ⟨_,e,rfl⟩))
   ·cases e
  ·cases e
def Zgo(P:Program)(f:List (Nat×Ob))(k:Nat→Nat)(m:List Md):∀(n:List TypeId) (j:List SV) (i:Nat) (g:List SV) (b:List (Option Nat×Nat)),Za5 P f k m i n j=some (g,b)→
  ∀id c,(some id,c)∈b→id∈Zcz f m i j
 | [],[],i,g,b,e,id,c,hm=>by simp[Za5]at e;obtain⟨rfl,rfl⟩:=e;simp at hm
 | [],_::_,i,g,b,e,_,_,_=>by simp[Za5]at e
 |_::_,[],i,g,b,e,_,_,_=>by simp[Za5]at e
 |t::n,s::j,i,g,b,e,id,c,hm=>by
  simp only[Za5]at e
  split at e
  next d l o p q r=>
   cases e
   simp only[Zcz,List.mem_append]
   rcases List.mem_append.1 hm with hm|hm
   ·exact .inl (Znl q id c hm)
   ·exact .inr (Zgo P f k m n j (i+1) o p r id c hm)
  ·cases e
section
variable{X:Cx}{h h':Hp}{ρ:Nat→Loc}{st:St}{a:Act}{w w':World}{P:Program}
def Zme(t A:Nat→Nat)(b:List Md)(G:b.all Md.noLend=true):∀(u:List SV) (i:Nat) (C D:List SV) (z E:List (Nat×Ob)),Zam u=true→argsH t b i u=some (C,z)→argsH A b i u=some (D,E)→
  (∀c o,(c,o)∈z→∃k,c=t k∧(A k,o)∈E∧∀x,o≠ .box x)∧
  ∀d f:Nat→Loc,(∀k o,(t k,o)∈z→d (t k)=f (A k))→∀(k:Nat) v x y,C[k]?=some x→D[k]?=some y→Rep h f v y→Rep h d v x
 | [],i,C,D,z,E,_,e1,e2=>by simp[argsH]at e1 e2;obtain⟨rfl,rfl⟩:=e1;obtain⟨rfl,rfl⟩:=e2;exact⟨by simp,by simp⟩
 |s::u,i,C,D,z,E,hp,e1,e2=>by
  simp only[Zam,Bool.and_eq_true]at hp;simp only[argsH]at e1 e2
  split at e1
  next hd o L M q Y=>
   split at e2
   next a0 o' N O l Q=>
    cases e1;cases e2
    obtain⟨T,U⟩:=Zme t A b G u (i+1) L N M O hp.2 Y Q
    have W:mdAt b i= .pure∨mdAt b i= .own:=by
     have:∀(b:List Md) (i:Nat),b.all Md.noLend=true→(mdAt b i).noLend=true:=by
      intro b
      induction b with
      |nil=>intro i _;rfl
      |cons m b ih=>
       intro i g;simp only[List.all_cons,Bool.and_eq_true]at g
       cases i with
       |zero=>exact g.1
       |succ i=>exact ih i g.2
     have:=this b i G
     cases g:mdAt b i<;>simp[g,Md.noLend]at this<;>simp
    rcases W with g|g
    ·simp only[g,argH]at q l
     cases q;cases l
     refine⟨by simpa using T,λd f F k v x y n p r=>?_⟩
     cases k with
     |zero=>simp at n p;subst n;subst p;exact .pure _ _ (r.toPure hp.1)
     |succ k=>exact U d f (by simpa using F) k v x y (by simpa using n) (by simpa using p) r
    ·simp only[g,argH]at q l
     split at q
     next a1 R H=>
      split at l
      next a2 a3 J=>
       cases q;cases l
       refine⟨λc o j=>?_,λd f F k v x y n p r=>?_⟩
       ·rcases List.mem_append.1 j with j|j
        ·simp at j;obtain⟨rfl,rfl⟩:=j;obtain⟨Z,K,_⟩:=Zex (h:=h) H J (ρ1:=λ_=>noLoc) (ρ2:=λ_=>noLoc) rfl;subst Z;exact⟨i,rfl,by simp,K⟩
        ·obtain⟨k,e,V,K⟩:=T c o j;exact⟨k,e,by simp[V],K⟩
       ·cases k with
        |zero=>simp at n p;subst n;subst p;exact(Zex H J (F i R (by simp))).2.2 v r
        |succ k=>exact U d f (λk o g=>F k o (by simp[g])) k v x y (by simpa using n) (by simpa using p) r
      ·cases l
     ·cases q
   ·cases e2
  ·cases e1
def Zc5(C:List (Option Nat×Nat)):∀(E:List Md) (i:Nat) (A:List SV) (m:List (Nat×Ob)) (n:List (Nat×Nat×Ob)) (p:List (Nat×Ob)),Zam A=true→lentH i E A=some m→Zc9 C i E A=some (n,p)→
  (∀x c o,(x,c,o)∈n→(c,o)∈m∧∀y,o≠ .box y)∧
  (∀id o,(id,o)∈p→(∃k G u z,(some id,pId (i+k))∈C∧E[k]?=some (.lend G)∧o= .box u∧(pId (i+k),.box z)∈m∧u.length=z.length∧
   ∀q t:Nat→Loc,(∀x c o,(x,c,o)∈n→q x=t c)→(∀k o,(k,o)∈p→∀c,(some k,c)∈C→c∈Zb2 i E→q k=t c)→∀(j:Nat) v x y,u[j]?=some x→z[j]?=some y→Rep h t v y→Rep h q v x)∨
   (∃c,(some id,c)∈C∧(c,o)∈m∧c∈Zb2 i E∧∀y,o≠ .box y))
 | [],i,[],m,n,p,_,e1,e2=>by simp[Zc9]at e2;obtain⟨rfl,rfl⟩:=e2;exact⟨by simp,by simp⟩
 | [],i,_::_,m,n,p,_,e1,e2=>by simp[lentH]at e1
 | .lend G::r,i,[],m,n,p,_,e1,e2=>by simp[lentH]at e1
 | .lend G::r,i,s::A,m,n,p,hp,e1,e2=>by
  simp only[Zam,Bool.and_eq_true]at hp;simp only[lentH]at e1;simp only[Zc9]at e2
  split at e1
  next V W h1=>
   split at e1
   next z o2 Y=>
    cases e1
    split at e2
    next a6 id Z a0 a1 U a2=>
     cases a1
     split at e2
     next u a3 sx a4=>
      cases e2
      have a5:Zam V=true:=(by simpa[Zav]using hp.1);obtain⟨l1,l2,g1,g2,g3⟩:=Zgu (h:=h) C (pId i) id G V 0 u z a3 sx o2 a5 a4 Y;obtain⟨H,J⟩:=Zc5 C r (i+1) A W Z a0 hp.2 h1 a2;refine⟨λx c o b=>?_,λO o b=>?_⟩
      ·rcases List.mem_append.1 b with b|b
       ·obtain⟨d,f⟩:=g1 x c o b;exact⟨by simp[d],f⟩
       ·obtain⟨d,f⟩:=H x c o b;exact⟨by simp[d],f⟩
      ·simp only[List.cons_append,List.mem_cons,List.mem_append]at b
       rcases b with e|b|b
       ·cases e
        refine .inl ⟨0,G,u,z,Zcy U,rfl,rfl,by simp,by omega,λq t Q F j v x y hx hy rr=>?_⟩;exact g3 q t (λx c o b=>Q x c o (by simp[b])) (λk o b c R T=>F k o (by simp[b]) c R (YV _ T)) j v x y hx hy rr
       ·obtain⟨c,d,f,g,l⟩:=g2 O o b;exact .inr ⟨c,d,by simp[f],YV _ g,l⟩
       ·rcases J O o b with⟨k,D,K,L,d,f,g,l,M,N⟩|⟨c,d,f,g,l⟩
        ·exact .inl ⟨k+1,D,K,L,by rw[show i+(k+1)=i+1+k by omega];exact d,by simpa using f,g,by rw[show i+(k+1)=i+1+k by omega];simp[l],M,λq t Q F=>N q t (λx c o b=>Q x c o (by simp[b])) (λk o b c R T=>F k o (by simp[b]) c R (Yw _ T))⟩
        ·exact .inr ⟨c,d,by simp[f],Yw _ g,l⟩
     ·cases e2
    ·cases e2
   ·cases e1
  ·cases e1
 | .pure::r,i,A,m,n,p,hp,e1,e2=>by
  obtain⟨H,J⟩:=Zc5 C r (i+1) A m n p hp (by simpa[lentH]using e1) (by simpa[Zc9]using e2);refine⟨H,λid o b=>?_⟩
  rcases J id o b with⟨k,D,K,L,d,f,g,l,M,N⟩|⟨c,d,f,g,l⟩
  ·exact .inl ⟨k+1,D,K,L,by rw[show i+(k+1)=i+1+k by omega];exact d,by simpa using f,g,by rw[show i+(k+1)=i+1+k by omega];exact l,M,N⟩
  ·exact .inr ⟨c,d,f,g,l⟩
 | .own::r,i,A,m,n,p,hp,e1,e2=>by
  obtain⟨H,J⟩:=Zc5 C r (i+1) A m n p hp (by simpa[lentH]using e1) (by simpa[Zc9]using e2);refine⟨H,λid o b=>?_⟩
  rcases J id o b with⟨k,D,K,L,d,f,g,l,M,N⟩|⟨c,d,f,g,l⟩
  ·exact .inl ⟨k+1,D,K,L,by rw[show i+(k+1)=i+1+k by omega];exact d,by simpa using f,g,by rw[show i+(k+1)=i+1+k by omega];exact l,M,N⟩
  ·exact .inr ⟨c,d,f,g,l⟩
def Zyo{b:Nat→Loc}:∀(d:List Value) (e:List SV),d.length=e.length→(∀(k:Nat) v s,d[k]?=some v→e[k]?=some s→Rep h b v s)→Rep h b (rets d) (one e)
 | [],[],_,_=>.tup #[] [] rfl (by simp)
 | [v],[s],_,hr=>hr 0 v s rfl rfl
 | [],_::_,hl,_=>by simp at hl
 |_::_,[],hl,_=>by simp at hl
 | [_],_::_::_,hl,_=>by simp at hl
 |_::_::_,[_],hl,_=>by simp at hl
 |v::v'::vs,s::s'::ss,hl,hr=>.tup _ _ (by simpa using hl) (λi u c f g=>hr i u c (by simpa using f) g)
def Zhi:∀(n:Nat) (l:List SV),Zam l=true→Zam (l.take n)=true∧Zam (l.drop n)=true
 |0,l,h=>⟨by simp[Zam],by simpa using h⟩
 |n+1,[],h=>⟨by simp[Zam],by simp[Zam]⟩
 |n+1,c::cs,h=>by simp only[Zam,Bool.and_eq_true]at h;obtain⟨a,b⟩:=Zhi n cs h.2;exact⟨by simp[Zam,h.1,a],by simpa using b⟩
def Zmf:∀{l:List SV},Zck l=true→∀(i:Nat) s,l[i]?=some s→∃v,s= .val v
 | [],_,i,s,e=>by simp at e
 | .val v::l,h,0,s,e=>by simp at e;exact⟨v,e.symm⟩
 | .val v::l,h,i+1,s,e=>Zmf (by simpa[Zck]using h) i s (by simpa using e)
 | .agg _::l,h,i,s,e=>by simp[Zck]at h
 | .tup _::l,h,i,s,e=>by simp[Zck]at h
 | .slice .. ::l,h,i,s,e=>by simp[Zck]at h
 | .mapv _::l,h,i,s,e=>by simp[Zck]at h
 | .ref .. ::l,h,i,s,e=>by simp[Zck]at h
 | .clo .. ::l,h,i,s,e=>by simp[Zck]at h
 | .ifc .. ::l,h,i,s,e=>by simp[Zck]at h
 | .ptr .. ::l,h,i,s,e=>by simp[Zck]at h
 | .bsl .. ::l,h,i,s,e=>by simp[Zck]at h
 | .osl _::l,h,i,s,e=>by simp[Zck]at h
 | .eptr .. ::l,h,i,s,e=>by simp[Zck]at h
 | .omp _::l,h,i,s,e=>by simp[Zck]at h
 | .gd .. ::l,h,i,s,e=>by simp[Zck]at h
 | .unk::l,h,i,s,e=>by simp[Zck]at h
def Goes(X:Cx)(K:St→Prop)(a:Act)(w:World):Prop:=∃st,Fits X st a w∧K st
def Zbc(c:Nat→Nat):∀(b:List SV) (i:Nat),argsH c [] i b=some (b,[])
 | [],i=>rfl
 |s::b,i=>by simp[argsH,mdAt,argH,Zbc c b (i+1)]
def Zmg{h0:Hp}{st0:St}(F0:FitsAt X h0 ρ st0 a w)(F:FitsAt X h ρ st a w)(bd:HLe h0 h)(f:FuncId)(j:Sig)(a5 ab:List TypeId)(z Z:List SV)(vs cv:Array Value)(ac:Option Nat)(K:St→Prop)
  (hl:vs.size=z.length) (hr:∀(i:Nat) v s,vs[i]?=some v→z[i]?=some s→Rep h ρ v s) (co:cv.size=Z.length) (bm:∀(i:Nat) v s,cv[i]?=some v→Z[i]?=some s→PRep h v s)
  (hc:callC P f j a5 ab z Z ac st0 st K):
  (callFunc f (vs++cv)).run P w= .ok (.enter f (vs++cv)) w∧
  Calls P f (vs++cv) w λe O=>∃v,e= .returned v∧Goes X K (a.put ac v) O∧w.heap.size≤O.heap.size∧
   ∀b,b<w.heap.size→(∀id∈Zcz st.objs j.ps 0 z,live st.objs ρ id→(ρ id).blk≠b)→O.heap[b]?=w.heap[b]?:=by
 unfold callC at hc
 split at hc
 ·exact hc.elim
 next as C E=>
  cases hb:(Zbt (C.filterMap (·.1))&&Zbt (C.map (·.2))&&Nat.ble j.ps.length a5.length&&j.rs.all Md.noLend)with
  |false=>simp only[hb,cond_false]at hc
  |true=>
   simp only[hb,cond_true]at hc;simp only[Bool.and_eq_true]at hb;obtain⟨⟨⟨aq,ar⟩,au⟩,bs⟩:=hb;have aq:=Za1 aq;have ar:=Za1 ar;have au:=Nat.le_of_ble_eq_true au;obtain⟨Q,⟨⟨fn,hf,b1,b2⟩,bt⟩,hq⟩:=hc;refine⟨?_,?_⟩
   ·simp[callFunc,hf,b2];intro hnone;simp[hnone]at b1
   ·let u:=pull C ρ (λ_=>noLoc)
    have a2:Pulls C ρ u:=Zev ρ _ ar;obtain⟨hs,os,e1,e2,e3,e4,e5⟩:=Zct (P:=P) (ρ':=u) F.obj pId j.ps a5 z 0 as C E a2;have cn:=Zi8 _ _ _ _ _ _ _ _ _ E;have e6:=Zji pId j.ps as Z 0 hs os e1 (by omega);have hH:Holds h u os w:=pass_holds e5 a2 aq F.sub F.inj;have ay:∀b,Gv os u b→∃id,id∈Zcz st.objs j.ps 0 z∧(∃c,(some id,c)∈C)∧live st.objs ρ id∧(ρ id).blk=b:=λb hg=>by obtain⟨id,c,g,a0,e⟩:=Zor e5 a2 hg;exact⟨id,Zgo P st.objs pId j.ps a5 z 0 as C E id c g,⟨c,g⟩,a0,e⟩
    have az:∀b,Gv os u b→X.w.heap.size≤b∨X.G b:=λb hg=>by obtain⟨id,_,_,a0,rfl⟩:=ay b hg;exact F.own id a0
    refine(bt (hs++Z) os e6 h u w (vs++cv) hH F.glob ⟨by simp;omega,λi v s J A=>?_⟩).mono ?_
    ·simp only[Array.toList_append]at J;rw[List.getElem?_append]at J A;simp only[Array.length_toList]at J;have:hs.length=vs.size:=(by omega);rw[this]at A
     split at J
     next ad=>rw[if_pos ad]at A;have hi:i<z.length:=(by omega);exact e4 i v _ s (List.getElem?_eq_getElem hi) A (hr i v _ (by simpa using J) (List.getElem?_eq_getElem hi))
     next ad=>rw[if_neg ad]at A;exact .pure _ _ (bm _ v s (by simpa using J) A)
    ·rintro e O ⟨vr,h',ρ2,rs,hr',objs',rfl,hQ,hend,hrep,hhold,hown,hlent,a8,hext,hkp⟩;have bi:∀b,b<w.heap.size→(∀id∈Zcz st.objs j.ps 0 z,live st.objs ρ id→(ρ id).blk≠b)→O.heap[b]?=w.heap[b]?:=λb ad hno=>hkp.block b ad λhg=>by obtain⟨id,h1,_,a0,e⟩:=ay b hg;exact hno id h1 a0 e
     refine⟨_,rfl,?_,hkp.size,bi⟩;obtain⟨xs,bu,bv,rfl,q⟩:=Zsl _ _ _ (hq rs hQ);unfold endH at hend
     split at hend
     next cp a6 a7 ha ap=>
      cases hend
      have l1:=Zhg _ _ _ _ _ _ ha;have l2:=Zhe _ _ _ _ ap;have l3:=Zhf P j.ps a5 0 (by omega);simp only[List.drop_zero]at l3;simp only[List.length_append,l3]at bu;simp at l1 l2;have l4:=hrep.1;have hn:vr.length=ab.length:=(by omega);rw[hn]at ha ap;obtain⟨bw,bz⟩:=Zhi ab.length rs bv
      cases hbor:(C.isEmpty&&j.rs.isEmpty&&Zck rs)with
      |true=>
       simp only[hbor,cond_true]at q;simp only[Bool.and_eq_true,List.isEmpty_iff]at hbor;obtain⟨⟨b8,c1⟩,c2⟩:=hbor
       have ci:os=[]:=by
        cases os with
        |nil=>rfl
        |cons x xs=>obtain⟨p,V,_⟩:=e5.at_ x.1 x.2 (by simp);rw[b8]at V;simp at V
       subst ci;have bj:∀b,¬Gv [] u b:=λb ⟨i,⟨⟨o,e⟩,_⟩,_⟩=>by simp[oget]at e
       have F1:FitsAt X h0 ρ st0 a O:=F0.called (Gv [] u) (λi _=>bj _) az hkp (HLe.refl h0) (λb o v e=>hhold.sub b o v (a8 b o v (bd b o v e))) (λ_ _ _ _ e=>e);refine⟨_,⟨h0,ρ,F1.put ac (TRep.of_rep' ?_)⟩,q⟩
       have cs:lendN j.ps=0:=by
        have:∀(ts:List TypeId) (z:List SV) (i:Nat) (ds:List SV),Za5 P st.objs pId j.ps i ts z=some (ds,[])→j.ps.length≤i+ts.length→lendN (j.ps.drop i)=0:=by
         intro ts
         induction ts with
         |nil=>intro z i ds e a8;rw[List.drop_of_length_le (by simpa using a8)];rfl
         |cons t ts ih=>
          intro z i ds e a8
          cases z with
          |nil=>simp[Za5]at e
          |cons s z=>
           simp only[Za5]at e
           split at e
           ·rename_i d l bp ls W g2;simp at e;obtain⟨_,rfl,rfl⟩:=e;have:=ih z (i+1) bp g2 (by simp at a8;omega)
            rcases Zkf j.ps i with⟨m,r,q1,q2,q3⟩|⟨q1,q2,q3⟩
            ·rw[q1];rw[q3]at this
             cases m with
             |lend ms=>
              rw[q2]at W;unfold Zf9 at W;simp only[]at W
              split at W
              ·split at W
               ·simp at W
               ·cases W
              ·cases W
             |pure=>simpa[lendN]using this
             |own=>simpa[lendN]using this
            ·rw[q1];rfl
           ·cases e
        have:=this a5 z 0 as (by rw[b8]at E;exact E) (by omega)
        simpa using this
       have b4:rs.take ab.length=rs:=List.take_of_length_le (by omega);rw[b4,c1,Zbc]at ha
       cases ha
       refine Zyo vr rs hrep.1 (λk v s J A=>?_);obtain⟨x,rfl⟩:=Zmf c2 k s A;rw[(hrep.2 k v _ J A).val_inv];exact .pure _ _ (.val _)
      |false=>
       simp only[hbor,cond_false]at q
       split at q
       next im bx rr H bq a9=>
        cases hck:(Zbt ((im++H).map (·.1)++bx.map (·.1))&&Zbt ((im++H).map (·.2.1))&&(im++H).all (λp=>idOK p.1&&idOK p.2.1))with
        |false=>simp only[hck,cond_false]at q
        |true=>
         simp only[hck,cond_true]at q;simp only[Bool.and_eq_true,List.all_eq_true]at hck;obtain⟨⟨ah,ai⟩,al⟩:=hck;have ah:=Za1 ah;have ai:=Za1 ai;obtain⟨be,bf,av⟩:=Wg.1 ah
         obtain⟨Fd,b9⟩:=Zdw j.ps C F
         have ag:∀i,live (Za8 j.ps C st).objs ρ i→live st.objs ρ i∧¬Gv os u (ρ i).blk:=by
          rintro i ⟨⟨o,Y⟩,hni⟩;obtain⟨T,c4⟩:=b9 i o Y;refine⟨⟨T,hni⟩,λhg=>?_⟩;obtain⟨id,_,⟨c,g⟩,a0,e⟩:=ay _ hg;by_cases hid:id=i
          ·subst hid;exact c4 c g
          ·exact F.inj id i a0 ⟨T,hni⟩ hid e
         have Fc:FitsAt X h' ρ (Za8 j.ps C st) a O:=Fd.called (Gv os u) (λi hi=>(ag i hi).2) az hkp a8 hhold.sub hext
         obtain⟨q1,q2⟩:=Zc5 (h:=h') C j.ps 0 (rs.drop ab.length) a7 im bx bz ap bq
         have bk:(∀x c o,(x,c,o)∈H→(c,o)∈a6∧∀y,o≠ .box y)∧∀ae:Nat→Loc,(∀x c o,(x,c,o)∈H→ae x=ρ2 c)→(ac=none∧rr= .unk)∨Rep h' ae (rets vr) rr:=by
          unfold resBack at a9
          split at a9
          ·cases a9;exact⟨by simp,λae _=>.inl ⟨rfl,rfl⟩⟩
          next d=>
           split at a9
           next b6 br b7=>
            cases a9
            obtain⟨L,t2⟩:=Zme (h:=h') (cId d) rId j.rs bs _ 0 b6 hr' br a6 bw b7 ha;refine⟨λx c o g=>?_,λae bn=>.inr ?_⟩
            ·simp only[Y3]at g;obtain⟨p,c5,e⟩:=g
             cases e
             obtain⟨k,e,c6,hb⟩:=L p.1 p.2 c5;have:p.1-cId d 0=k:=by rw[e];simp[cId]
             rw[this];exact⟨c6,hb⟩
            ·refine Zyo vr b6 ?_ (λk v s J A=>?_)
             ·rw[hrep.1,Zhg _ _ _ _ _ _ ha,Zhg _ _ _ _ _ _ b7]
             ·have hk:k<hr'.length:=(by have:=(Y0.1 J).1;rw[←hrep.1];exact this);refine t2 ae ρ2 (λk o g=>?_) k v s _ A (List.getElem?_eq_getElem hk) (hrep.2 k v _ J (List.getElem?_eq_getElem hk));have:=bn (cId d k) (rId (cId d k-cId d 0)) o (Y3.2 ⟨_,g,rfl⟩);rw[this];congr 2;simp[cId]
           ·cases a9
         obtain⟨q3,q4⟩:=bk
         have M:∀x c o,(x,c,o)∈im++H→(c,o)∈a6++a7∧∀y,o≠ .box y:=λx c o g=>by
          rcases List.mem_append.1 g with g|g
          ·exact⟨by simp[(q1 x c o g).1],(q1 x c o g).2⟩
          ·exact⟨by simp[(q3 x c o g).1],(q3 x c o g).2⟩
         have n:∀c o,(c,o)∈a6++a7→(ρ2 c).none=false→live (a6++a7) ρ2 c:=λc o g R=>⟨mem_oget g,R⟩
         have N:∀c o,(c,o)∈a6++a7→(ρ2 c).none=false→(X.w.heap.size≤(ρ2 c).blk∨X.G (ρ2 c).blk)∧∀k,live (Za8 j.ps C st).objs ρ k→(ρ k).blk≠(ρ2 c).blk:=λc o g R=>by
          have Y:=hown c (n c o g R);refine⟨?_,λk hk e=>?_⟩
          ·rcases Y with Y|Y
           ·exact .inl (Nat.le_trans F.kp.size Y)
           ·exact az _ Y
          ·obtain⟨c7,c9⟩:=ag k hk
           rcases Y with Y|Y
           ·obtain⟨⟨U,T⟩,aa⟩:=c7;have:=ObOK.blk_lt (F.obj k U T) aa;omega
           ·rw[←e]at Y;exact c9 Y
         obtain⟨a1,Ff,W,g2,g3⟩:=Zjj ρ2 (im++H) Fc be (λi c o g=>⟨(by have:=al (i,c,o) g;simp only at this;exact this.1),hhold.obj c o (M i c o g).1,(M i c o g).2,N c o (M i c o g).1⟩) (λi c o i' c' U m1 m2 ao n1 n2=>by
          have aj:c≠c':=λe=>by
           subst e
           have:∀(l:List (Nat×Nat×Ob)),(l.map (·.2.1)).Nodup→(i,c,o)∈l→(i',c,U)∈l→i=i':=by
            intro l
            induction l with
            |nil=>intro _ h1;simp at h1
            |cons p l ih=>
             intro ak h1 h2;simp only[List.map_cons,Ym]at ak
             rcases List.mem_cons.1 h1 with e1|h1'
             ·rcases List.mem_cons.1 h2 with e2|h2'
              ·rw[←e1]at e2;cases e2;rfl
              ·exfalso;apply ak.1;rw[←e1];exact Y3.2 ⟨_,h2',rfl⟩
             ·rcases List.mem_cons.1 h2 with e2|h2'
              ·exfalso;apply ak.1;rw[←e2];exact Y3.2 ⟨_,h1',rfl⟩
              ·exact ih ak.2 h1' h2'
           exact ao (this _ ai m1 m2)
          exact hhold.inj c c' (n c o (M i c o m1).1 n1) (n c' U (M i' c' U m2).1 n2) aj)
         have bl:∀x c o,(x,c,o)∈im→a1 x=ρ2 c:=λx c o g=>W x c o (by simp[g])
         have a3:∀id o,(id,o)∈bx→a1 id=ρ id:=λid o g=>g2 id (λp V e=>av p.1 (Yd (f:=(·.1)) V) id (Yd (f:=(·.1)) g) e);have an:∀k c,(some k,c)∈C→c∈Zb2 0 j.ps→ρ2 c=ρ k:=λk c hk hc=>(hlent.2 c hc).trans (a2 (some k,c) hk)
         have b0:∀id o,(id,o)∈bx→∃c o2,(some id,c)∈C∧(c,o2)∈a7∧idOK c=false∧((ρ id).none=false→(ρ2 c).blk=(ρ id).blk∧(ρ2 c).none=false)∧ObOK h' a1 O id o:=λid o g=>by
          have hf:=a3 id o g
          rcases q2 id o g with⟨k,mm,cq,aw,L,t2,rfl,t4,t5,t6⟩|⟨c,L,t2,t3,t4⟩
          ·rw[Yc]at L t4;have a4:u (pId k)=ρ id:=a2 (some id,pId k) L;obtain⟨ba,D⟩:=hlent.1 k mm t2;rw[a4]at ba D;obtain⟨ca,⟨cb,ty,cc,cr,cd⟩,ce⟩:=hhold.obj (pId k) (.box aw) (by simp[t4]);refine⟨pId k,.box aw,L,t4,Znk k,λ_=>⟨D,ca⟩,⟨by rw[hf];exact ba,⟨cb,ty,by rw[hf,←D];exact cc,by omega,λi v c J aj=>?_⟩,by rw[hf,←D];exact ce⟩⟩;have hi:i<aw.length:=by have:=(Y0.1 aj).1;omega
           obtain⟨r1,r2⟩:=cd i v _ J (List.getElem?_eq_getElem hi);exact⟨t6 a1 ρ2 bl (λk o g c hc hs=>(a3 k o g).trans (an k c hc hs).symm) i v c _ aj (List.getElem?_eq_getElem hi) r1,r2⟩
          ·have a4:ρ2 c=ρ id:=an id c L t3;refine⟨c,o,L,t2,Zke t3,λR=>⟨by rw[a4],by rw[a4];exact R⟩,(hhold.obj c o (by simp[t2])).move t4 (by rw[hf,a4])⟩
         have Fb:=Zls (ρ:=a1) bx Ff bf (λi o g=>by
          obtain⟨c0,o2,L,t4,ax,hl,bb⟩:=b0 i o g;have hf:=a3 i o g;have hi1:∀p∈im++H,p.1≠i:=λp V e=>av p.1 (Yd (f:=(·.1)) V) i (Yd (f:=(·.1)) g) e;refine⟨?_,bb,λR=>?_⟩
          ·cases e:oget (Zi3 (im++H) (Za8 j.ps C st)).objs i with
           |none=>rfl
           |some x=>
            rcases g3 i x e with hm'|⟨_,U,T⟩
            ·obtain⟨p,V,e'⟩:=Y3.1 hm';exact absurd e' (hi1 p V)
            ·exact absurd L ((b9 i U T).2 _)
          ·rw[hf]at R;obtain⟨D,af⟩:=hl R;refine⟨by rw[hf,←D];exact(N c0 o2 (by simp[t4]) af).1,λk' bo e=>?_⟩;obtain⟨⟨x,hx⟩,aa⟩:=bo;rw[hf]at e
           rcases g3 k' x hx with hm'|⟨hno,U,T⟩
           ·obtain⟨⟨x',c,am⟩,V,rfl⟩:=Y3.1 hm';rw[W x' c am V]at e aa;have cj:=(M x' c am V).1;refine hhold.inj c c0 (n c am cj aa) (n c0 o2 (by simp[t4]) af) (λe'=>?_) (by rw[e,D]);subst e';have:=al (x',_,am) V;simp only[ax]at this;exact absurd this.2 (by simp)
           ·rw[g2 k' hno]at e aa
            exact(N c0 o2 (by simp[t4]) af).2 k' ⟨⟨U,T⟩,aa⟩ (by rw[e,D])) (λi o i' U m1 m2 ao n1 n2=>by
          obtain⟨c,o2,L,t4,ax,hl,bb⟩:=b0 i o m1;obtain⟨c',cf,bc,cg,cl,ch,cm⟩:=b0 i' U m2;rw[a3 i o m1]at n1⊢;rw[a3 i' U m2]at n2⊢;obtain⟨D,af⟩:=hl n1;obtain⟨bg,bh⟩:=ch n2;rw[←D,←bg];refine hhold.inj c c' (n c o2 (by simp[t4]) af) (n c' cf (by simp[cg]) bh) (λe=>?_);have e1:u c=ρ i:=a2 (some i,c) L;have e2:u c'=ρ i':=a2 (some i',c') bc;rw[e]at e1;rw[e1]at e2
          have li:live st.objs ρ i:=⟨e5.here i _ L,n1⟩
          have ck:live st.objs ρ i':=⟨e5.here i' _ bc,n2⟩
          exact F.inj i i' li ck ao (by rw[e2]))
         refine⟨_,⟨h',a1,?_⟩,q⟩
         rcases q4 a1 (λx c o g=>W x c o (by simp[g]))with⟨hd,rfl⟩|hrr
         ·subst hd;exact Fb.put none (TRep.rep_unk _ (rets vr))
         ·exact Fb.put ac (TRep.of_rep' hrr)
       ·exact q.elim
     ·cases hend
end
end Go.Px
namespace Go.Px
open Go.RowKit
section
variable{X:Cx}{h:Hp}{ρ:Nat→Loc}{st:St}{a:Act}{w:World}{P:Program}
def Zqb{n:Int}{K:Nat→Prop}:∀(m j:Nat),caseN n K m j→∀i,j≤i→i<j+m→n=Int.ofNat i→K i
 |0,j,_,i,h1,h2,_=>by omega
 |m+1,j,h,i,h1,h2,e=>by
  by_cases hij:i=j
  ·subst hij;exact h.1 e
  ·exact Zqb m (j+1) h.2 i (by omega) (by omega) e
def Zhy{m:Nat}{i:Operand}{n:Int}{K:Nat→Prop}(b:arrIx m i n K)(e:∀c j,i= .const (.int c (.ofNat j))→n=Int.ofNat j):∃j,j<m∧n=Int.ofNat j∧K j:=by
 unfold arrIx at b
 split at b
 next c j=>
  cases hb:Nat.blt j m with
  |false=>simp[hb]at b
  |true=>simp only[hb,cond_true]at b;exact⟨j,Nat.le_of_ble_eq_true hb,e c j rfl,b⟩
 ·cases hb:Nat.ble m 16 with
  |false=>simp[hb]at b
  |true=>simp only[hb,cond_true]at b;obtain⟨⟨g,d⟩,f⟩:=b;refine⟨n.toNat,by simp at d;omega,by simp;omega,Zqb m 0 f n.toNat (by omega) (by simp at d;omega) (by simp;omega)⟩
def Rep.slice_pure{v:Value}{b:Nat}{rows:LL}{tok:Nat}(r:Rep h ρ v (.slice b rows tok)):PRep h v (.slice b rows 0):=by
 cases r with
 |pure _ _ c=>exact c.tok0
def PRep.sub{p:Option Addr}{len f g:Nat}{rows:LL}(r:PRep h (.slice p len f) (.slice g rows 0)){l hh m z:Nat}(J:l≤hh)(E:hh≤rows.length)(K:hh≤m)(L:m≤f)(F:z=g∨g=0)(tok:Nat)(q:tok≤1)(s:tok=1→m=hh):
  PRep h (.slice (if m=l then p else p.map (·.add (l*z))) (hh-l) (m-l)) (.slice g ((rows.take hh).drop l) tok):=by
 by_cases he:hh=l
 ·subst he;have:(rows.take hh).drop hh=[]:=(by simp);rw[this,Nat.sub_self];refine .empty _ _ _ tok q (λe=>by have:=s e;omega) (λe=>?_);generalize hv:Value.slice p len f=v at r
  cases r with
  |empty M k _ _ _ _ G=>
   cases hv
   split at e
   ·omega
   ·simp at e;have:=G e;omega
  |slice b off k _ _ _ x _ _ _ _ _ _ _ _=>
   cases hv
   split at e<;>simp at e
 ·generalize hv:Value.slice p len f=v at r
  cases r with
  |empty=>cases hv;simp at E;omega
  |slice b off k _ _ _ x o y A C D _ _ H=>
   cases hv
   have t:¬m=l:=(by omega);simp only[t,if_false,YA,Zbp];have u:z=g:=(by rcases F with h|h;exact h;omega);subst u;have n:((rows.take hh).drop l).length=hh-l:=(by simp;omega);rw[←n]
   have d:∀i r,((rows.take hh).drop l)[i]?=some r→rows[l+i]?=some r:=by
    intro i r e;rw[Y8,Y4]at e
    split at e
    ·exact e
    ·cases e
   refine .slice b (off+l*z) (m-l) z _ tok (λi j=>x (l+i) j) o (λi r e=>y _ r (d i r e)) (λi r j c e1 e2=>?_) (λi r j c e1 e2=>C _ r j c (d i r e1) e2) (λi r j c e1 e2=>D _ r j c (d i r e1) e2) q (λe=>by have:=s e;omega) (by omega);have:=A (l+i) r j c (d i r e1) e2;rwa[Yg,←Ys]at this
def Zix{gv:List (Nat×Bool)→Operand→SV}{w':World}(hsv:∀x,Rep h ρ (a.eval x) (gv [] x))(k:Bool)(len c:Nat){lo hi:Option Operand}{l h':Int}
  (i:bndOf gv 0 lo=some l) (d:bndOf gv (Int.ofNat len) hi=some h') (m:0≤l) (q:l≤h') (z:h'≤(len:Int)) (o:h'≤(c:Int)):
  (Instr.sliceBounds k len c (lo.map a.eval) (hi.map a.eval) none).run P w'= .ok (l.toNat,h'.toNat,c) w':=by
 have p:∀x n,bndOf gv n (some x)=some l→∃b,a.eval x= .int b l:=by
  intro x n e;simp only[bndOf]at e
  split at e
  next b r f=>
   cases e
   have:=hsv x;rw[f]at this;exact⟨b,this.val_inv⟩
  ·cases e
 have g:∀x n,bndOf gv n (some x)=some h'→∃b,a.eval x= .int b h':=by
  intro x n e;simp only[bndOf]at e
  split at e
  next b r f=>
   cases e
   have:=hsv x;rw[f]at this;exact⟨b,this.val_inv⟩
  ·cases e
 have v:l≤(h'.toNat:Int):=by omega
 cases lo with
 |none=>
  simp[bndOf]at i;subst i
  cases hi with
  |none=>simp[bndOf]at d;subst d;simp[Instr.sliceBounds]
  |some y=>
   obtain⟨b,j⟩:=g y _ d
   have:(0:Int)≤h'∧h'≤(c:Int):=⟨by omega,o⟩
   simp[Instr.sliceBounds,Instr.sliceBound,j,asIntOf,this]
 |some x=>
  obtain⟨b,f⟩:=p x _ i
  cases hi with
  |none=>
   simp[bndOf]at d;subst d
   have:(0:Int)≤l∧l≤(len:Int):=⟨m,q⟩
   simp[Instr.sliceBounds,Instr.sliceBound,f,asIntOf,this]
  |some y=>
   obtain⟨u,j⟩:=g y _ d
   have s:(0:Int)≤h'∧h'≤(c:Int):=⟨by omega,o⟩
   have t:(0:Int)≤l∧l≤max h' 0:=⟨m,by omega⟩
   simp[Instr.sliceBounds,Instr.sliceBound,f,j,asIntOf,s,t]
def Zsa{gv:List (Nat×Bool)→Operand→SV}{w':World}(hsv:∀x,Rep h ρ (a.eval x) (gv [] x))(len f:Nat){lo:Option Operand}{hi m:Operand}{b:IntKind}{l h':Int}
  (e:bndOf gv 0 lo=some l) (g:bndOf gv (Int.ofNat len) (some hi)=some h') (i:a.eval m= .int b h') (n:0≤l) (t:l≤h') (o:h'≤(f:Int)):
  (Instr.sliceBounds true len f (lo.map a.eval) (some (a.eval hi)) (some (a.eval m))).run P w'= .ok (l.toNat,h'.toNat,h'.toNat) w':=by
 have d:∃b,a.eval hi= .int b h':=by
  simp only[bndOf]at g
  split at g
  next b p c=>
   cases g
   have:=hsv hi;rw[c]at this;exact⟨b,this.val_inv⟩
  ·cases g
 obtain⟨r,d⟩:=d
 have j:(0:Int)≤h'∧h'≤(f:Int):=⟨by omega,o⟩
 have k:(0:Int)≤h'∧h'≤max h' 0:=⟨by omega,by omega⟩
 cases lo with
 |none=>simp[bndOf]at e;subst e;simp[Instr.sliceBounds,Instr.sliceBound,d,i,asIntOf,j,k]
 |some x=>
  have c:∃b,a.eval x= .int b l:=by
   simp only[bndOf]at e
   split at e
   next b p c=>
    cases e
    have:=hsv x;rw[c]at this;exact⟨b,this.val_inv⟩
   ·cases e
  obtain⟨s,c⟩:=c
  have q:(0:Int)≤l∧l≤max h' 0:=⟨n,by omega⟩
  simp[Instr.sliceBounds,Instr.sliceBound,d,i,c,asIntOf,j,q,k]
def FitsAt.val(F:FitsAt X h ρ st a w)(x:Operand):Rep h ρ (a.eval x) (st.val x):=F.operand [] (by simp) x
def FitsAt.pureOps(F:FitsAt X h ρ st a w)(b:List Operand):∃h',HLe h h'∧FitsAt X h' ρ (pureOps b st) a w:=F.frzAll _
def Zhz(F:FitsAt X h ρ st a w){i:Operand}{c:IntKind}{n:Int}(d:st.val i= .val (.int c n)):∀b j,i= .const (.int b (.ofNat j))→n=Int.ofNat j:=by
 intro b j e;subst e;have:=F.val (.const (.int b (.ofNat j)));rw[d]at this;have:=this.val_inv;simp[Act.eval]at this;exact this.2.symm
def Goes.put{K:St→Prop}(F:FitsAt X h ρ st a w)(d:Option Nat){v:Value}{s:SV}(r:Rep h ρ v s)(b:K (st.put d s)):Goes X K (a.put d v) w:=
 ⟨_,⟨h,ρ,F.put d (TRep.of_rep' r)⟩,b⟩
def Zlh{rows:LL}{n:Int}{c:List SV}(f:0≤n)(d:n<rlen rows)(e:rget rows n=c):n.toNat<rows.length∧rows[n.toNat]?=some c:=by
 simp only[rlen]at d;have b:n.toNat<rows.length:=by simp at d;omega
 refine⟨b,?_⟩;rw[←e,rget,List.getD_eq_getElem?_getD,List.getElem?_eq_getElem b];rfl
def own_row{i:Nat}{rows:LL}{l:Loc}(o:OwnOK h w l i rows){n:Nat}{b:List SV}(p:rows[n]?=some b):
  ∃k:List Value,Zir w l.blk (l.off+n*i) k∧k.length=b.length∧∀(j:Nat) v c,k[j]?=some v→b[j]?=some c→Rep h ρ v c:=by
 obtain⟨m,t,u,q,x,y,r⟩:=o.hblk;have g:∀(j:Nat) c,b[j]?=some c→∃v,m[l.off+n*i+j]?=some v∧PRep h v c:=λj c d=>by obtain⟨v,e1,e2,_⟩:=r n b j c p d;exact⟨v,e1,e2⟩
 refine⟨(List.range b.length).map λj=>(m[l.off+n*i+j]?).getD undef,λj v f=>?_,by simp,λj v c f d=>?_⟩
 ·have e:j<b.length:=(by have:=(Y0.1 f).1;simpa using this);obtain⟨s,e1,_⟩:=g j _ (List.getElem?_eq_getElem e);simp[e,e1]at f;subst f;simp[World.cell?,q,e1]
 ·have e:j<b.length:=(Y0.1 d).1;obtain⟨s,e1,e2⟩:=g j c d;simp[e,e1]at f;subst f;exact .pure _ _ e2
def Zqc{p:Option Addr}{len cap:Nat}{rows:LL}(g:len=rows.length)(l:Zbv rows)(A:0<len→∃b off,p=some ⟨b,off,none⟩∧∀(i:Nat) r c,rows[i]?=some r→r[0]?=some c→∃v,w.cell? ⟨b,off+i,none⟩=some v∧PRep h v c)
  (f:World) (C:∀b off,0<len→p=some ⟨b,off,none⟩→f.heap[b]?=w.heap[b]?):(Conv.bytesToString (.slice p len cap)).run P f= .ok (.string (bstr rows)) f:=by
 have x:∀(rows:LL),Zbv rows→∃d:List Int,rows=d.map (λn=>[.val (.int .u8 n)]):=by
  intro rows
  induction rows with
  |nil=>intro _;exact⟨[],rfl⟩
  |cons r rows q=>intro l;obtain⟨d,e⟩:=q (λr o=>l r (by simp[o]));obtain⟨n,e1,_⟩:=l r (by simp);exact⟨n::d,by simp[e1,e]⟩
 obtain⟨d,rfl⟩:=x rows l
 have m:∀(d:List Int) (s:BA),d.foldl (λr n=>r.push (UInt8.ofNat n.toNat)) s=⟨s.data++(d.map λn=>UInt8.ofNat n.toNat).toArray⟩:=by
  intro d
  induction d with
  |nil=>intro s;simp
  |cons n d q=>intro s;rw[List.foldl_cons,q];simp[ByteArray.push]
 have k:bstr (d.map (λn=>[.val (.int .u8 n)]))=d.foldl (λr n=>r.push (UInt8.ofNat n.toNat)) ByteArray.empty:=(by rw[m];simp[bstr,Zcu,Function.comp_def,ByteArray.empty,ByteArray.emptyWithCapacity];rfl);simp at g;subst g;by_cases h0:0<d.length
 ·obtain⟨b,off,rfl,D⟩:=A h0;rw[k];refine run_bytesToString f _ _ cap d ?_
  have:=run_loadCells_list (P:=P) f ⟨b,off,none⟩ (d.map (Value.int .u8)) (λj v t=>by
   rw[Zbp];simp at t;obtain⟨n,E,rfl⟩:=t;obtain⟨u,F,o⟩:=D j [.val (.int .u8 n)] (.val (.int .u8 n)) (by simp[E]) rfl
   cases o
   exact Zfz (C b off h0 rfl) F)
  simpa using this
 ·have y:d=[]:=by cases d with
   |nil=>rfl
   |cons=>simp at h0
  subst y
  cases p with
  |none=>simp[Conv.bytesToString,bstr];rfl
  |some z=>have:(loadCells z 0).run P f= .ok (([]:List Int).map (Value.int .u8)).toArray f:=(by simp[loadCells,loadCellsFrom]);have:=run_bytesToString f z 0 cap [] this;rw[k];exact this
def PRep.cells{v:Value}{e:Nat}{rows:LL}{tok:Nat}(g:HSub h w)(r:PRep h v (.slice e rows tok)):∃p d,v= .slice p rows.length d∧(0<rows.length→∃b off,p=some ⟨b,off,none⟩∧0<e∧(∀(i:Nat) r,rows[i]?=some r→r.length=e)∧
  ∀(i:Nat) r (j:Nat) c,rows[i]?=some r→r[j]?=some c→∃v,w.cell? ⟨b,off+i*e+j,none⟩=some v∧PRep h v c∧v.oneCell'=true):=by
 cases r with
 |empty p d _ _ k l u=>exact⟨p,d,rfl,λh=>by simp at h⟩
 |slice b off d _ _ _ m f n o q s k l t=>exact⟨_,d,rfl,λ_=>⟨b,off,rfl,f,n,λi r j c e1 e2=>⟨m i j,g _ _ _ (o i r j c e1 e2),q i r j c e1 e2,s i r j c e1 e2⟩⟩⟩
def Zd8(F:FitsAt X h ρ st a w){v:Value}{s:SV}{f:Nat}{rows:LL}(r:Rep h ρ v s)(e:Zjn st.objs s=some (f,rows)):∃p cap,v= .slice p rows.length cap∧(0<rows.length→∃b off,p=some ⟨b,off,none⟩∧0<f∧
  (∀(i:Nat) r,rows[i]?=some r→r.length=f)∧∀(i:Nat) r (j:Nat) c,rows[i]?=some r→r[j]?=some c→∃v,w.cell? ⟨b,off+i*f+j,none⟩=some v∧PRep h v c∧v.oneCell'=true):=by
 unfold Zjn at e
 split at e
 ·cases e
  exact r.slice_pure.cells F.sub
 next id=>
  split at e
  next y k l=>
   cases e
   rcases F.obj id _ l with⟨g,rfl⟩|⟨g,o⟩
   ·rcases r.osl_inv with⟨_,p,rfl⟩|⟨d,_⟩
    ·exact⟨p,0,rfl,λh=>by simp at h⟩
    ·rw[g]at d;cases d
   ·rcases r.osl_inv with⟨d,_⟩|⟨_,rfl⟩
    ·rw[g]at d;cases d
    ·refine⟨_,_,by rw[o.hlen],λ_=>⟨_,_,rfl,o.pos,o.hrow,λi r j c e1 e2=>?_⟩⟩;obtain⟨z,t,A,m,C,D,n⟩:=o.hblk;obtain⟨v,q,u,x⟩:=n i r j c e1 e2;exact⟨v,by simp[World.cell?,m,q],u,x⟩
  ·cases e
 ·cases e
def Zh0{P:Program}{t:TypeId}{R:Value→Prop}{K:SV→Prop}(h:fres P t R K):∃v,R v∧K (.val v):=by
 unfold fres at h
 split at h
 ·exact⟨_,h.choose_spec⟩
 ·exact⟨_,h.choose_spec⟩
 ·exact⟨_,h.choose_spec⟩
 ·obtain⟨a,b,h⟩:=h;exact⟨_,h⟩
 ·exact h.elim
def Zuy{t:TypeId}{c:IntKind}{m:Nat}(b:bigT P t=some (c,m)):∃e,P.underlying t=some (.array m e)∧P.underlying e=some (.int c)∧szT P e=some 1∧szT P t=some m:=by
 unfold bigT at b
 split at b
 next d e f=>
  cases h16:Nat.blt 16 d with
  |false=>simp only[h16,cond_false]at b;cases b
  |true=>
   simp only[h16,cond_true]at b
   split at b
   next k n g i j=>
    cases hn:Nat.beq n d with
    |false=>simp only[hn,cond_false]at b;cases b
    |true=>
     simp only[hn,cond_true]at b
     cases b
     have:=Nat.eq_of_beq_eq_true hn;subst this;exact⟨e,f,g,i,j⟩
   ·cases b
 ·cases b
def Zqd{kd:IntKind}{ns:List Int}{vs:Array Value}(g:vs.size=ns.length)(d:∀(i:Nat) v c,vs[i]?=some v→(ns.map λx=>SV.val (.int kd x))[i]?=some c→Rep h ρ v c):vs.toList=ns.map (Value.int kd):=by
 apply List.ext_getElem?;intro i;by_cases hi:i<ns.length
 ·have b:vs[i]?=some vs[i]:=Y1 (by omega);have e:=d i vs[i] (.val (.int kd ns[i])) b (by simp[hi]);have f:=e.val_inv;rw[Yo,b,f];simp[hi]
 ·rw[YB (by simp;omega),YB (by simp;omega)]
def Zuz{b:Nat}{t:TypeId}{d:IntKind}{m:Nat}{f:List Int}(r:bigT P t=some (d,m))(A:f.length=m)(g:Zir w b 0 (f.map (Value.int d))):
  ∃i:Array Value,i.toList=f.map (Value.int d)∧∀k:World,k.heap[b]?=w.heap[b]?→(loadVar t ⟨b,0,none⟩).run P k= .ok (.agg i) k:=by
 obtain⟨e,o,C,D,s⟩:=Zuy r;have q:Zas P t=true:=(by simp[Zas,o]);have z:partN P t 0 (f.map λx=>SV.val (.int d x))=some (.agg (f.map λx=>SV.val (.int d x))):=by unfold partN;simp only[o,s,q,cond_true,Za0,Ze9,Zfa];have:Nat.ble (0+m) (f.map λx=>SV.val (.int d x)).length=true:=Nat.ble_eq_true_of_le (by simp;omega);rw[this];simp only[cond_true,List.drop_zero,Option.some.injEq,SV.agg.injEq];exact List.take_of_length_le (by simp;omega)
 obtain⟨v,l,u⟩:=Zdd (P:=P) (h:=λ_ _=>none) (ρ:=λ_=>noLoc) (cs:=f.map λx=>SV.val (.int d x)) g (by simp) (λj v c n g=>by
  simp at n g;obtain⟨E,e1,rfl⟩:=n;obtain⟨F,e2,rfl⟩:=g;rw[e1]at e2;cases e2
  exact .pure _ _ (.val _)) z
 obtain⟨i,rfl,y,p⟩:=u.agg_inv';exact⟨i,Zqd (by simpa using y) p,l⟩
def Zh1(F:FitsAt X h ρ st a w){id m:Nat}{c:IntKind}{b:List Int}(e:oget st.objs id=some (.arr c m b)):
  b.length=m∧Zir w (ρ id).blk 0 (b.map (Value.int c)):=by
 obtain⟨k,⟨l,t,f,g,i⟩,hno⟩:=F.obj id _ e;refine⟨g,λj v d=>?_⟩;rw[←i]at d;simp[World.cell?,f]
 simpa using d
def Zli{d:IntKind}:∀{f:List SV} {b:List Int},Zqp d f=some b→f=b.map λx=>SV.val (.int d x)
 | [],b,e=>by cases e;rfl
 |c::f,b,e=>by
  unfold Zqp at e
  split at e
  next h=>cases h
  next g x k i=>
   cases i
   by_cases hk:g=d
   ·subst hk;simp only[decide_true,cond_true]at e
    split at e
    next l j=>
     cases e
     rw[Zli j];rfl
    ·cases e
   ·simp[hk]at e
  ·cases e
def Zu0(b:IntKind)(i v:Int)(d:0≤i):∀(c:List Int) (j:Nat),putsN b i v j c=(c.mapIdx λk x=>SV.val (.int b (if i=((j+k:Nat):Int)then v else x)))
 | [],j=>by simp[putsN]
 |x::xs,j=>by
  rw[List.mapIdx_cons];unfold putsN;rw[Zu0 b i v d xs (j+1)];simp only[apick,Nat.add_zero,List.cons.injEq];refine⟨rfl,?_⟩;congr 1
  funext k y
  have:j+1+k=j+(k+1):=(by omega);rw[this]
def Zsb(b:IntKind)(i v:Int)(c:List Int)(j:0≤i)(p:i<c.length):Zbh i.toNat [SV.val (.int b v)] (c.map λx=>SV.val (.int b x))=some (putsN b i v 0 c):=by
 have e:∀(n:Nat) (l:List SV),n<l.length→Zbh n [SV.val (.int b v)] l=some (l.set n (.val (.int b v))):=by
  intro n
  induction n with
  |zero=>intro l d;cases l with
   |nil=>simp at d
   |cons a l=>cases l<;>rfl
  |succ n o=>intro l d;cases l with
   |nil=>simp at d
   |cons a l=>have:=o l (by simpa using d);simp[Zbh,this]
 rw[e _ _ (by simp;omega),Zu0 b i v j];congr 1;apply List.ext_getElem?;intro k;rw[List.getElem?_mapIdx,List.getElem?_set];by_cases hk:i.toNat=k
 ·subst hk;have f:i.toNat<c.length:=(by omega);have m:i=((0+i.toNat:Nat):Int):=(by omega);rw[if_pos rfl,if_pos (by simpa using f),List.getElem?_eq_getElem f,YA,if_pos m]
 ·have g:¬i=((0+k:Nat):Int):=(by omega);simp only[hk,if_false,g,Yt]
def Zlj{ns:List Int}{n:Int}(b:0≤n)(c:n<ns.length):ns[n.toNat]?=some (aget ns n):=by
 have:n.toNat<ns.length:=(by omega);simp[aget,this]
def Zsc(F:FitsAt X h ρ st a w)(o:Oper)(K:St→Prop)(g:stillC P o st K):
  ∃v,(∀w',SameB (fblk P a o) w w'→(execOp a.eval o).run P w'= .ok (.value v) w')∧Goes X K (a.put o.dst v) w:=by
 have hsv:=F.val;unfold stillC at g
 split at g
 next t x i A=>
  split at g
  ·rename_i e T rows b8 M n G D his;have q:=hsv x;rw[D]at q;have H:=hsv i;rw[his]at H
   split at g
   next z O=>
    cases C:(Nat.beq z T&&Nat.blt 0 z)with
    |false=>simp[C]at g
    |true=>
     simp only[C,cond_true]at g;simp only[Bool.and_eq_true]at C;have af:z=T:=Nat.eq_of_beq_eq_true C.1;subst af;obtain⟨⟨N,L⟩,an⟩:=g;obtain⟨cs,_,a9,E⟩:=Zew _ _ _ an;obtain⟨aj,a2⟩:=Zlh N L a9;simp only[rlen]at L;have R:=q.slice_pure;generalize J:a.eval x=v at R
     cases R with
     |empty=>simp at aj
     |slice b off cap _ _ _ vs b4 bt hh hr _ _ _ ae=>
      refine⟨.pointer (some ⟨b,off+n.toNat*z,none⟩),λw' _=>?_,Goes.put F o.dst ?_ E⟩
      ·have ac:0≤n∧n<(rows.length:Int):=⟨N,by simpa using L⟩
       simp[execOp,A,J,H.val_inv,Instr.indexAt,asIntOf,run_underlying G,run_sizeOf' w' O,ac,Zbp]
      ·have:=PRep.ref (h:=h) b (off+n.toNat*z) 0 cs (λj=>vs n.toNat j) (λj c e=>hh _ cs j c a2 e) (λj c e=>hr _ cs j c a2 e);exact .pure _ _ this
   ·exact g.elim
  ·rename_i e id M n G D his;have q:=hsv x;rw[D]at q;have H:=hsv i;rw[his]at H
   split at g
   next z T rows O ho=>
    cases C:(Nat.beq z T&&Nat.blt 0 z)with
    |false=>simp[C]at g
    |true=>
     simp only[C,cond_true]at g;simp only[Bool.and_eq_true]at C;have af:z=T:=Nat.eq_of_beq_eq_true C.1;subst af;obtain⟨⟨N,L⟩,E⟩:=g;simp only[rlen]at L
     rcases F.obj id _ ho with⟨hn,rfl⟩|⟨hn,ok⟩
     ·simp at L;omega
     ·rcases q.osl_inv with⟨ad,_⟩|⟨_,J⟩
      ·rw[hn]at ad;cases ad
      ·have hr:=Rep.eptr (h:=h) (ρ:=ρ) id e n 0 hn;refine⟨_,λw' _=>?_,Goes.put F o.dst hr E⟩
       have ac:0≤n∧n<((ρ id).len:Int):=⟨N,by rw[ok.hlen];simpa using L⟩
       simp[execOp,A,J,H.val_inv,Instr.indexAt,asIntOf,run_underlying G,run_sizeOf' w' O,ac,Zbp,ok.hsz]
   ·exact g.elim
  ·rename_i m e id off M n G D his;have q:=hsv x;rw[D]at q;have H:=hsv i;rw[his]at H
   split at g
   next a3 m' ns O ho=>
    cases C:(Nat.beq m m'&&Nat.beq off 0)with
    |false=>simp only[C,cond_false]at g
    |true=>simp only[C,cond_true]at g;simp only[Bool.and_eq_true]at C;have a1:off=0:=Nat.eq_of_beq_eq_true C.2;subst a1;obtain⟨⟨N,L⟩,E⟩:=g;obtain⟨j,rfl⟩:=Wf N;have hj:j<m:=(by simpa using L);refine⟨.pointer (some ⟨(ρ id).blk,j,none⟩),λw' _=>?_,Goes.put F o.dst (.aptr id (j:Int)) E⟩;simp[execOp,A,q.ptr_inv,H.val_inv,Instr.indexAt,asIntOf,run_underlying G,run_sizeOf' w' O,Instr.sureAddr,hj,Zbp]
   next z O _=>
    cases C:(jmode st&&Nat.beq z 1&&Nat.beq off 0)with
    |true=>simp only[C,cond_true]at g;simp only[Bool.and_eq_true]at C;have a1:off=0:=Nat.eq_of_beq_eq_true C.2;have bh:z=1:=Nat.eq_of_beq_eq_true C.1.2;subst a1 bh;obtain⟨⟨N,L⟩,E⟩:=g;obtain⟨j,rfl⟩:=Wf N;have hj:j<m:=(by simpa using L);refine⟨.pointer (some ⟨(ρ id).blk,j,none⟩),λw' _=>?_,Goes.put F o.dst (.aptr id (j:Int)) E⟩;simp[execOp,A,q.ptr_inv,H.val_inv,Instr.indexAt,asIntOf,run_underlying G,run_sizeOf' w' O,Instr.sureAddr,hj,Zbp]
    |false=>simp only[C,cond_false]at g;obtain⟨j,hj,aa,E⟩:=Zhy g (Zhz F his);subst aa;refine⟨.pointer (some ⟨(ρ id).blk,off+j*z,none⟩),λw' _=>?_,Goes.put F o.dst (.ptr id _) E⟩;simp[execOp,A,q.ptr_inv,H.val_inv,Instr.indexAt,asIntOf,run_underlying G,run_sizeOf' w' O,Instr.sureAddr,hj,Zbp]
   ·exact g.elim
  ·rename_i m e id e' i' off M n G D his;have q:=hsv x;rw[D]at q;have H:=hsv i;rw[his]at H
   split at g
   next z O=>obtain⟨j,hj,aa,E⟩:=Zhy g (Zhz F his);subst aa;obtain⟨hn,J⟩:=q.eptr_inv;refine⟨_,λw' _=>?_,Goes.put F o.dst (Rep.eptr (h:=h) (ρ:=ρ) id e' i' (off+j*z) hn) E⟩;simp[execOp,A,J,H.val_inv,Instr.indexAt,asIntOf,run_underlying G,run_sizeOf' w' O,Instr.sureAddr,hj,Zbp,Ys]
   ·exact g.elim
  ·rename_i m e off cs M n G D his;have q:=hsv x;rw[D]at q;have H:=hsv i;rw[his]at H
   split at g
   ·rename_i z O;obtain⟨j,hj,aa,E⟩:=Zhy g (Zhz F his);subst aa;generalize J:a.eval x=v at q
    cases q with
    |pure _ _ R=>
     cases R with
     |ref b ar _ _ vs hh hr=>refine⟨.pointer (some ⟨b,ar+(off+j*z),none⟩),λw' _=>?_,Goes.put F o.dst (.pure _ _ (.ref b ar _ cs vs hh hr)) E⟩;simp[execOp,A,J,H.val_inv,Instr.indexAt,asIntOf,run_underlying G,run_sizeOf' w' O,Instr.sureAddr,hj,Zbp,Ys]
   ·exact g.elim
  ·exact g.elim
 next t x A=>
  split at g
  ·rename_i id e i off D;have q:=hsv x;rw[D]at q
   split at g
   next T rows z ho O=>
    cases C:Nat.beq z T with
    |false=>simp[C]at g
    |true=>
     simp only[C,cond_true]at g;have af:z=T:=Nat.eq_of_beq_eq_true C;subst af;obtain⟨⟨N,L⟩,an⟩:=g;obtain⟨cs,_,a9,E⟩:=Zew _ _ _ an;obtain⟨aj,a2⟩:=Zlh N L a9
     split at E
     ·rename_i s hs;obtain⟨hn,J⟩:=q.eptr_inv
      rcases F.obj id _ ho with⟨ad,_⟩|⟨_,ok⟩
      ·rw[hn]at ad;cases ad
      ·obtain⟨vs,g1,g2,g3⟩:=own_row (ρ:=ρ) ok a2;obtain⟨u,G,r⟩:=Zdd (P:=P) g1 g2 g3 hs;refine⟨u,λw' hw=>?_,Goes.put F o.dst r E⟩;have G:=G w' (hw _ (by simp[fblk,Zbu,A,J]));simp[execOp,A,J,Instr.loadAt,Instr.sureAddr,ok.hsz,G]
     ·exact E.elim
   ·exact g.elim
  ·rename_i id off D;have q:=hsv x;rw[D]at q
   split at g
   next M m ns a3 m' ho ai=>
    cases C:(Nat.beq m m'&&Nat.beq off 0&&decide (M=a3))with
    |false=>simp only[C,cond_false]at g
    |true=>simp only[C,cond_true]at g;simp only[Bool.and_eq_true,decide_eq_true_eq]at C;obtain⟨⟨b1,b2⟩,rfl⟩:=C;have bi:m=m':=Nat.eq_of_beq_eq_true b1;have a1:off=0:=Nat.eq_of_beq_eq_true b2;subst bi a1;obtain⟨W,Y⟩:=Zh1 F ho;obtain⟨vs,ak,hl⟩:=Zuz (P:=P) (w:=w) ai W Y;refine⟨.agg vs,λw' hw=>?_,Goes.put F o.dst (.pure _ _ (.arr _ M m ns W ak)) g⟩;have hl:=hl w' (hw _ (by simp[fblk,Zbu,A,q.ptr_inv]));simp[execOp,A,q.ptr_inv,Instr.loadAt,Instr.sureAddr,hl]
   ·exact g.elim
  ·rename_i id n D;have q:=hsv x;rw[D]at q
   split at g
   ·rename_i M m ns a3 ho G O;by_cases E:M=a3
    ·subst E;simp only[decide_true,cond_true]at g;obtain⟨⟨N,L⟩,E⟩:=g;obtain⟨W,Y⟩:=Zh1 F ho;have L:n<ns.length:=by rw[W];simpa using L
     have ag:Zas P t=false:=(by simp[Zas,G]);have R:partN P t n.toNat (ns.map λx=>SV.val (.int M x))=some (.val (.int M (aget ns n))):=by have H:=Zlj N L;have h3:n.toNat+1≤ns.length:=(by omega);have h4:Nat.ble (n.toNat+1) ns.length=true:=Nat.ble_eq_true_of_le h3;simp[partN,G,O,ag,Za0,Zcf,H,h4]
     obtain⟨u,Q,r⟩:=Zdd (P:=P) (h:=h) (ρ:=ρ) (cs:=ns.map λx=>SV.val (.int M x)) Y (by simp) (λj v c J U=>by
      simp at J U;obtain⟨x1,e1,rfl⟩:=J;obtain⟨x2,e2,rfl⟩:=U;rw[e1]at e2;cases e2
      exact .pure _ _ (.val _)) R
     refine⟨u,λw' hw=>?_,Goes.put F o.dst r E⟩;have Q:=Q w' (hw _ (by simp[fblk,Zbu,A,q.aptr_inv]));rw[Yc]at Q;simp[execOp,A,q.aptr_inv,Instr.loadAt,Instr.sureAddr,Q]
    ·simp[E]at g
   next cs M ho G O=>
    split at g
    ·rename_i ns b9;obtain⟨⟨N,L⟩,E⟩:=g;have a9:=Zli b9;subst a9;have L:n<ns.length:=by rw[Za0]at L;simpa using L
     have ag:Zas P t=false:=(by simp[Zas,G]);have R:partN P t n.toNat (ns.map λx=>SV.val (.int M x))=some (.val (.int M (aget ns n))):=(by have H:=Zlj N L;have h3:n.toNat+1≤ns.length:=(by omega);have h4:Nat.ble (n.toNat+1) ns.length=true:=Nat.ble_eq_true_of_le h3;simp[partN,G,O,ag,Za0,Zcf,H,h4]);obtain⟨bn,⟨bd,ty,az,b0,be⟩,_⟩:=F.obj id _ ho
     have bj:Zir w (ρ id).blk 0 bd.toList:=λj v hj=>by
      simp[World.cell?,az]
      simpa using hj
     obtain⟨u,Q,r⟩:=Zdd (P:=P) (h:=h) (ρ:=ρ) (cs:=ns.map λx=>SV.val (.int M x)) bj (by simpa using b0) (λj v c J U=>(be j v c (by simpa using J) U).1) R;refine⟨u,λw' hw=>?_,Goes.put F o.dst r E⟩;have Q:=Q w' (hw _ (by simp[fblk,Zbu,A,q.aptr_inv]));rw[Yc]at Q;simp[execOp,A,q.aptr_inv,Instr.loadAt,Instr.sureAddr,Q]
    ·exact g.elim
   ·exact g.elim
  ·exact g.elim
 next t x i A=>
  split at g
  ·rename_i s M n G D his;have q:=hsv x;rw[D]at q;have H:=hsv i;rw[his]at H;obtain⟨⟨N,L⟩,E⟩:=g;simp only[slen]at L;have aj:n.toNat<s.size:=by simp at L;omega
   refine⟨.int .u8 (sbyte s n),λw' _=>?_,Goes.put F o.dst (.pure _ _ (.val _)) E⟩;simp[execOp,A,q.val_inv,H.val_inv,Instr.index,asIntOf,run_underlying G,N,aj,sbyte];rfl
  ·rename_i m0 e0 M m' ns a3 n G D his;have q:=hsv x;rw[D]at q;have H:=hsv i;rw[his]at H
   split at g
   next ba m ai=>
    cases C:(Nat.beq m m'&&decide (M=ba))with
    |false=>simp only[C,cond_false]at g
    |true=>
     simp only[C,cond_true]at g;simp only[Bool.and_eq_true,decide_eq_true_eq]at C;obtain⟨b1,rfl⟩:=C;have ao:m=m':=Nat.eq_of_beq_eq_true b1;subst ao;obtain⟨e,q1,q2,q3,q4⟩:=Zuy ai;obtain⟨⟨N,L⟩,E⟩:=g;obtain⟨vs,J,W,ak⟩:=q.arr_inv;obtain⟨j,rfl⟩:=Wf N;have hj:j<m:=(by simpa using L);have b6:=Zlj (ns:=ns) (n:=(j:Int)) N (by rw[W];exact L);have bk:vs.size=ns.length:=by have:=congrArg List.length ak;simpa using this
     have ag:Zas P e=false:=(by simp[Zas,q2]);have R:partN P e (j*1) (ns.map λx=>SV.val (.int M x))=some (.val (.int M (aget ns (j:Int)))):=by have h4:Nat.ble (j+1) ns.length=true:=Nat.ble_eq_true_of_le (by omega);have h5:ns[j]?=some (aget ns (j:Int)):=(by simpa using b6);simp[partN,q2,q3,ag,Za0,Zcf,h4,h5]
     obtain⟨u,Q,r⟩:=Zcn (P:=P) (h:=h) (ρ:=ρ) (vs:=vs) (cs:=ns.map λx=>SV.val (.int M x)) (by simpa using bk) (λj v c J U=>by
      rw[←Yo,ak]at J;simp at J U;obtain⟨x1,e1,rfl⟩:=J;obtain⟨x2,e2,rfl⟩:=U;rw[e1]at e2;cases e2
      exact .pure _ _ (.val _)) R
     refine⟨u,λw' _=>?_,Goes.put F o.dst r E⟩;have Q:=Q w';rw[Nat.mul_one]at Q;simp[execOp,A,J,H.val_inv,Instr.index,asIntOf,run_underlying q1,run_sizeOf' w' q3,hj,Q]
   ·exact g.elim
  ·rename_i m e cs M n G D his;have q:=hsv x;rw[D]at q;have H:=hsv i;rw[his]at H
   split at g
   ·rename_i z O;obtain⟨j,hj,aa,E⟩:=Zhy g (Zhz F his);subst aa
    split at E
    next s hs=>obtain⟨vs,J,hl,U⟩:=q.agg_inv';obtain⟨u,Q,r⟩:=Zcn (P:=P) hl U hs;refine⟨u,λw' _=>?_,Goes.put F o.dst r E⟩;simp[execOp,A,J,H.val_inv,Instr.index,asIntOf,run_underlying G,run_sizeOf' w' O,hj,Q w']
    ·exact E.elim
   ·exact g.elim
  ·exact g.elim
 next op t x y t' A=>
  split at g
  ·rename_i M m a3 n D a6;have q:=hsv x;rw[D]at q;have H:=hsv y;rw[a6]at H
   split at g
   ·by_cases E:M=a3
    ·subst E;simp at g;exact⟨.int M (wquo M m n),λw' _=>by simp[execOp,A,q.val_inv,H.val_inv,Zdp,binOp,Op.intDiv,g.1,wquo],Goes.put F o.dst (.pure _ _ (.val _)) g.2⟩
    ·simp[E]at g
   ·by_cases E:M=a3
    ·subst E;simp at g;exact⟨.int M (wrem m n),λw' _=>by simp[execOp,A,q.val_inv,H.val_inv,Zdp,binOp,Op.intDiv,g.1,wrem],Goes.put F o.dst (.pure _ _ (.val _)) g.2⟩
    ·simp[E]at g
   ·have hn:¬n<0:=(by omega);exact⟨.int M (wshl M m n),λw' _=>by simp[execOp,A,q.val_inv,H.val_inv,Zdp,binOp,Op.shift,hn,wshl],Goes.put F o.dst (.pure _ _ (.val _)) g.2⟩
   ·have hn:¬n<0:=(by omega);exact⟨.int M (wshr M m n),λw' _=>by simp[execOp,A,q.val_inv,H.val_inv,Zdp,binOp,Op.shift,hn,wshr],Goes.put F o.dst (.pure _ _ (.val _)) g.2⟩
   ·exact g.elim
  ·rename_i m n D a6;have q:=hsv x;rw[D]at q;have H:=hsv y;rw[a6]at H
   split at g
   ·refine⟨.string (scat m n),λw' _=>?_,Goes.put F o.dst (.pure _ _ (.val _)) g.2⟩
    have ae:(m.size:Int)+(n.size:Int)≤9223372036854775807:=by
     have:=g.1
     simpa only[slen,lsum,Ya]using this
    simp[execOp,A,q.val_inv,H.val_inv,Zlb,binOp,Op.stringOp,scat];exact ae
   ·exact g.elim
  next k m k' n D a6=>have q:=hsv x;rw[D]at q;have H:=hsv y;rw[a6]at H;obtain⟨v,hr,E⟩:=Zh0 g;refine⟨v,λw' _=>?_,Goes.put F o.dst (.pure _ _ (.val _)) E⟩;have:=hr w';simp[execOp,A,q.val_inv,H.val_inv,Zrr,this]
  next k m m2 k' n n2 D a6=>have q:=hsv x;rw[D]at q;have H:=hsv y;rw[a6]at H;obtain⟨v,hr,E⟩:=Zh0 g;refine⟨v,λw' _=>?_,Goes.put F o.dst (.pure _ _ (.val _)) E⟩;have:=hr w';simp[execOp,A,q.val_inv,H.val_inv,Zrs,this]
  ·cases hnil:isNilC y with
   |false=>
    simp only[hnil,cond_false]at g
    cases hnI:isNilI y with
    |false=>simp[hnI]at g
    |true=>
     simp only[hnI,cond_true]at g
     have hy:y= .const .nilIface:=by
      unfold isNilI at hnI
      split at hnI
      ·rfl
      ·cases hnI
     subst hy;have ah:a.eval (.const .nilIface)= .nilIface:=rfl
     have ab:∀(u:Value) (b:Bool) (ms),P.underlying t=some (.interface ms)→(u= .nilIface∧b=true∨∃tx vx,u= .iface tx vx∧b=false)→∀w':World,(Op.equal t u .nilIface).run P w'= .ok b w':=by
      intro u b ms G C w'
      have he:∀d,(Op.equalIn (d+1) t u .nilIface).run P w'= .ok b w':=by
       intro d
       rcases C with⟨rfl,rfl⟩|⟨tx,vx,rfl,rfl⟩<;>simp[Op.equalIn,run_underlying G]
      exact he 9999
     split at g
     ·rename_i ms G;have U:=(hsv x).ifc_inv g.1;refine⟨.bool (Zhl (st.val x)),λw' _=>?_,Goes.put F o.dst (.pure _ _ (.val _)) g.2⟩;have:=ab _ _ ms G U w'
      rcases U with⟨e1,e2⟩|⟨tx,vx,e1,e2⟩<;>rw[e1]at this<;>simp[execOp,A,e1,ah,eqGuard,binOp,this]
     ·rename_i ms G;have U:=(hsv x).ifc_inv g.1;refine⟨.bool !(Zhl (st.val x)),λw' _=>?_,Goes.put F o.dst (.pure _ _ (.val _)) g.2⟩;have:=ab _ _ ms G U w'
      rcases U with⟨e1,e2⟩|⟨tx,vx,e1,e2⟩<;>rw[e1]at this<;>simp[execOp,A,e1,ah,eqGuard,binOp,this]
     ·exact g.elim
   |true=>
    simp only[hnil,cond_true]at g
    have hy:y= .const (.slice none 0 0):=by
     unfold isNilC at hnil
     split at hnil
     ·rfl
     ·cases hnil
    subst hy
    have am:∀{T:Nat} {rows:LL},Zjn st.objs (st.val x)=some (T,rows)→∃p cap,a.eval x= .slice p rows.length cap∧(p.isNone=true→rlen rows=0):=by
     intro T rows a7;obtain⟨p,cap,J,R⟩:=Zd8 F (hsv x) a7;refine⟨p,cap,J,λb7=>?_⟩;by_cases h0:0<rows.length
     ·obtain⟨b,off,rfl,_⟩:=R h0;simp at b7
     ·simp[rlen];simpa using h0
    have ab:∀(p:Option Addr) (n c:Nat) (e:TypeId),P.underlying t=some (.slice e)→∀w':World,(Op.equal t (.slice p n c) (.slice none 0 0)).run P w'= .ok p.isNone w':=by
     intro p n c e G w'
     have he:∀d,(Op.equalIn (d+1) t (.slice p n c) (.slice none 0 0)).run P w'= .ok p.isNone w':=by
      intro d
      cases p<;>simp[Op.equalIn,run_underlying G]
     exact he 9999
    have ah:a.eval (.const (.slice none 0 0))= .slice none 0 0:=rfl
    split at g
    next e z rows G a7=>obtain⟨p,cap,J,R⟩:=am a7;refine⟨.bool p.isNone,λw' _=>?_,Goes.put F o.dst (.pure _ _ (.val _)) (g p.isNone R)⟩;have:=ab p rows.length cap e G w';simp[execOp,A,J,ah,eqGuard,binOp,this]
    next e z rows G a7=>obtain⟨p,cap,J,R⟩:=am a7;refine⟨.bool !p.isNone,λw' _=>?_,Goes.put F o.dst (.pure _ _ (.val _)) (g (!p.isNone) (λe=>R (by simpa using e)))⟩;have:=ab p rows.length cap e G w';simp[execOp,A,J,ah,eqGuard,binOp,this]
    ·exact g.elim
 ·rename_i t x lo hi mx A;obtain⟨h',ae,F'⟩:=F.pureOps [x];have Z:=F'.val
  split at g
  ·rename_i s G D;have q:=Z x;rw[D]at q
   split at g
   next l hh hl a0=>obtain⟨⟨a4,a5,V⟩,E⟩:=g;simp only[slen]at V a0;refine⟨.string (ssub s l hh),λw' _=>?_,Goes.put F' o.dst (.pure _ _ (.val _)) E⟩;have C:=Zix (P:=P) (w':=w') (hsv:=Z) (gv:=λ_=>(pureOps [x] st).val) false s.size s.size (lo:=lo) (hi:=hi) (l:=l) (h':=hh) hl a0 a4 a5 (by simpa using V) (by simpa using V);simp[execOp,A,q.val_inv,Instr.sliceAt,Instr.slice,run_underlying G,C,ssub]
   ·exact g.elim
  ·rename_i e T rows b8 G D;have q:=Z x;rw[D]at q;have R:=q.slice_pure;obtain⟨p,cap,J⟩:=q.slice_inv;rw[J]at R
   have bq:rows.length≤cap:=by
    generalize hvv:Value.slice p rows.length cap=v at R
    cases R with
    |empty=>simp
    |slice _ _ _ _ _ _ _ _ _ _ _ _ _ _ ae=>cases hvv;exact ae
   split at g
   next z l hh O hl a0=>
    cases C:(Nat.beq z T||Nat.beq T 0)with
    |false=>simp[C]at g
    |true=>
     simp only[C,cond_true]at g;simp only[Bool.or_eq_true]at C;have ap:z=T∨T=0:=C.elim (λe=>.inl (Nat.eq_of_beq_eq_true e)) (λe=>.inr (Nat.eq_of_beq_eq_true e));obtain⟨⟨a4,a5,V⟩,E⟩:=g;simp only[rlen]at V a0;have aq:hh.toNat≤rows.length:=by simp at V;omega
     refine⟨_,λw' _=>?_,Goes.put F' o.dst (.pure _ _ (PRep.sub (z:=z) R (l:=l.toNat) (hh:=hh.toNat) (m:=cap) (by omega) aq (by omega) (Nat.le_refl _) ap 0 (by omega) (by omega))) (by simpa[rsub]using E)⟩;have C:=Zix (P:=P) (w':=w') (hsv:=Z) (gv:=λ_=>(pureOps [x] st).val) true rows.length cap (lo:=lo) (hi:=hi) (l:=l) (h':=hh) hl a0 a4 a5 (by simpa using V) (by simp at V⊢;omega);simp[execOp,A,J,Instr.sliceAt,Instr.slice,run_underlying G,C,run_sizeOf' w' O]
   next z l hh m O hl a0=>
    split at g
    next bb M mm bc=>
     cases C:(Nat.beq z T||Nat.beq T 0)with
     |false=>simp[C]at g
     |true=>
      simp only[C,cond_true]at g;simp only[Bool.or_eq_true]at C;have ap:z=T∨T=0:=C.elim (λe=>.inl (Nat.eq_of_beq_eq_true e)) (λe=>.inr (Nat.eq_of_beq_eq_true e));obtain⟨⟨a4,a5,ao,V⟩,E⟩:=g;subst ao;simp only[rlen]at V a0;have aq:hh.toNat≤rows.length:=by simp at V;omega
      refine⟨_,λw' _=>?_,Goes.put F' o.dst (.pure _ _ (PRep.sub (z:=z) R (l:=l.toNat) (hh:=hh.toNat) (m:=hh.toNat) (by omega) aq (by omega) (by omega) ap 1 (by omega) (λ_=>rfl))) (by simpa[rsub]using E)⟩;have hm:=Z m;rw[bc]at hm;have C:=Zsa (P:=P) (w':=w') (hsv:=Z) (gv:=λ_=>(pureOps [x] st).val) rows.length cap (lo:=lo) (hi:=bb) (m:=m) (l:=l) (h':=hh) hl a0 hm.val_inv a4 a5 (by simp at V⊢;omega);simp[execOp,A,J,Instr.sliceAt,Instr.slice,run_underlying G,C,run_sizeOf' w' O]
    ·exact g.elim
   ·exact g.elim
  ·rename_i m e id off G D;have q:=Z x;rw[D]at q
   split at g
   next M m' ns ho=>
    split at g
    next l hh O hl a0=>
     cases C:(Nat.beq m m'&&Nat.beq off 0)with
     |false=>simp only[C,cond_false]at g
     |true=>
      simp only[C,cond_true]at g;simp only[Bool.and_eq_true]at C;have a1:off=0:=Nat.eq_of_beq_eq_true C.2;subst a1;obtain⟨⟨a4,a5,al,bf⟩,E⟩:=g;refine⟨.slice (some ⟨(ρ id).blk,l.toNat,none⟩) (hh-l).toNat (m-l.toNat),λw' _=>?_,Goes.put F' o.dst (.asl id l hh _) E⟩;have C:=Zix (P:=P) (w':=w') (hsv:=Z) (gv:=λ_=>(pureOps [x] st).val) false m m (lo:=lo) (hi:=hi) (l:=l) (h':=hh) hl a0 a4 a5 (by simpa using al) (by simpa using al);simp[execOp,A,q.ptr_inv,Instr.sliceAt,run_underlying G,Instr.sureAddr,C,run_sizeOf' w' O,Zbp];have aw:¬m=l.toNat:=by simp at bf;omega
      simp[aw];omega
    ·exact g.elim
   split at g
   ·rename_i O;refine⟨.slice (some ⟨(ρ id).blk,off,none⟩) m m,λw' _=>?_,Goes.put F o.dst (.bsl id off m) g⟩;have br:(⟨(ρ id).blk,off,none⟩:Addr).add (0*1)=⟨(ρ id).blk,off,none⟩:=by rw[Zbp];rfl
    simp[execOp,A,q.ptr_inv,Instr.sliceAt,run_underlying G,Instr.sureAddr,Instr.sliceBounds,run_sizeOf' w' O,Zbp]
   ·exact g.elim
  ·exact g.elim
 next f first a8 A=>
  cases hfst:Nat.beq first.size 0 with
  |false=>simp[hfst]at g
  |true=>
   simp only[hfst,cond_true]at g;have bl:first= #[]:=Array.eq_empty_of_size_eq_zero (Nat.eq_of_beq_eq_true hfst)
   subst bl
   split at g
   ·exact g.elim
   next bs ay=>
    split at g
    next cs a9=>obtain⟨q,bo,F1⟩:=F.frzBoxes _ ay;obtain⟨H,bp,F2⟩:=F1.pureOps a8.toList;obtain⟨hl,hg⟩:=Zdu _ _ a9;refine⟨.func (.func f) #[] (a8.map a.eval),λw' _=>by simp[execOp,A,Instr.makeFunc],Goes.put F2 o.dst (.pure _ _ (.clo f _ cs (by simpa using hl.symm) λi v c J U=>?_)) g⟩;obtain⟨c0,g1,g2⟩:=hg i c U;simp at g1 J;obtain⟨x,bg,rfl⟩:=g1;obtain⟨x',ax,rfl⟩:=J;rw[bg]at ax;cases ax;exact Zbs (F2.val x) g2
    ·exact g.elim
 next au av x A=>
  split at g
  ·rename_i e id l hh hs hd D;have q:=hsv x;rw[D]at q
   split at g
   ·rename_i M m ns he ho;obtain⟨⟨a4,a5,al⟩,C,E⟩:=g;obtain⟨W,Y⟩:=Zh1 F ho;obtain⟨cap,J⟩:=q.asl_inv;have bm:(arows M (asub ns l hh)).length=(hh-l).toNat:=by simp[arows,asub,W];simp at al;omega
    refine⟨.string (bstr (arows M (asub ns l hh))),λw' hw=>?_,Goes.put F o.dst (.pure _ _ (.val _)) E⟩
    have:=Zqc (P:=P) (w:=w) (h:=h) (p:=some ⟨(ρ id).blk,l.toNat,none⟩) (len:=(hh-l).toNat) (cap:=cap) bm.symm C (λh0=>by
     refine⟨_,_,rfl,λi r c q1 q2=>?_⟩;simp only[arows,asub,Yt,Y8]at q1;rw[Y4]at q1
     split at q1
     ·cases g:ns[l.toNat+i]? with
      |none=>simp[g]at q1
      |some y=>simp[g]at q1;subst q1;simp at q2;subst q2;have:=Y (l.toNat+i) (.int M y) (by simp[g]);exact⟨.int M y,by simpa using this,.val _⟩
     ·simp at q1) w' (λb off h0 e=>hw b (by
      obtain⟨k,E⟩:∃k,(hh-l).toNat=k+1:=⟨(hh-l).toNat-1,by omega⟩
      rw[E,e]at J
      simp[fblk,Zbu,A,J,hs]))
    simp[execOp,A,J,run_convert_bytes_string w' au av e _ _ cap hs he hd,this]
   ·exact g.elim
  next e hs hd aw=>
   split at g
   ·rename_i T rows he a7;obtain⟨C,E⟩:=g;obtain⟨p,cap,J,R⟩:=Zd8 F (hsv x) a7;refine⟨.string (bstr rows),λw' hw=>?_,Goes.put F o.dst (.pure _ _ (.val _)) E⟩
    have:=Zqc (P:=P) (w:=w) (h:=h) (p:=p) (len:=rows.length) (cap:=cap) rfl C (λh0=>by
     obtain⟨b,off,rfl,b4,a2,U⟩:=R h0;have q:T=1:=(by obtain⟨n,e1,_⟩:=C (rows[0]) (List.getElem_mem h0);have:=a2 0 _ (List.getElem?_eq_getElem h0);rw[e1]at this;simpa using this.symm);subst q;refine⟨b,off,rfl,λi r c q1 q2=>?_⟩;obtain⟨v,t1,t2,_⟩:=U i r 0 c q1 q2
     exact⟨v,by simpa using t1,t2⟩) w' (λb off h0 e=>hw b (by
      obtain⟨k,E⟩:∃k,rows.length=k+1:=⟨rows.length-1,by omega⟩
      rw[E,e]at J
      simp[fblk,Zbu,A,J,hs]))
    simp[execOp,A,J,run_convert_bytes_string w' au av e p _ cap hs he hd,this]
   ·exact g.elim
  next k0 k1 k n hs hd D=>have q:=hsv x;rw[D]at q;obtain⟨v,hr,E⟩:=Zh0 g;refine⟨v,λw' _=>?_,Goes.put F o.dst (.pure _ _ (.val _)) E⟩;have:=hr w';simp[execOp,A,q.val_inv,this]
  next k0 k1 k n hs hd D=>have q:=hsv x;rw[D]at q;obtain⟨v,hr,E⟩:=Zh0 g;refine⟨v,λw' _=>?_,Goes.put F o.dst (.pure _ _ (.val _)) E⟩;have:=hr w';simp[execOp,A,q.val_inv,this]
  ·exact g.elim
 ·exact g.elim
end
end Go.Px
namespace Go.Px
open Go.RowKit
def Zmj(off:Nat):∀(l:List Value) (k:Nat) (b:Array Value) (j:Nat),((l.zipIdx k).foldl (λcs (c:Value×Nat)=>cs.setIfInBounds (off+c.2) c.1) b)[j]?=
  if off+k≤j∧j<off+k+l.length∧j<b.size then l[j-(off+k)]? else b[j]?:=by
 intro l
 induction l with
 |nil=>intro k b j;simp;omega
 |cons x d e=>
  intro k b j;simp only[List.zipIdx_cons,List.foldl_cons];rw[e];simp only[WD,List.length_cons];by_cases hj:j=off+k
  ·subst hj;have:¬(off+(k+1)≤off+k∧off+k<off+(k+1)+d.length∧off+k<b.size):=(by omega);rw[if_neg this];by_cases hs:off+k<b.size
   ·rw[if_pos (by omega)];simp[hs]
   ·rw[if_neg (by omega)];simp[hs]
  ·rw[Yb (by omega)];by_cases hc:off+(k+1)≤j∧j<off+(k+1)+d.length∧j<b.size
   ·rw[if_pos hc,if_pos (by omega)];have:j-(off+k)=(j-(off+(k+1)))+1:=(by omega);rw[this];simp
   ·rw[if_neg hc,if_neg (by omega)]
def Zy7(off:Nat):∀(l:List (Value×Nat)) (b:Array Value),(l.foldl (λcs (c:Value×Nat)=>cs.setIfInBounds (off+c.2) c.1) b).size=b.size:=by
 intro l;induction l with
 |nil=>intro b;rfl
 |cons x e d=>intro b;simp[d]
def Zy8{i i' j j' b:Nat}(d:j<b)(c:j'<b)(e:i*b+j=i'*b+j'):i=i'∧j=j':=by
 have f:(i*b+j)/b=i:=(by rw[W7,Nat.mul_add_div (by omega),Nat.div_eq_of_lt d];rfl);have g:(i'*b+j')/b=i':=(by rw[W7,Nat.mul_add_div (by omega),Nat.div_eq_of_lt c];rfl);have:i=i':=(by rw[←f,←g,e]);subst this;exact⟨rfl,by omega⟩
def Zpi(len b:Nat)(m:0<b):∀(parts:List (Nat×Value)) (cells:Array Value),(∀p∈parts,p.1<len∧p.2.cells.size=b)→(parts.map (·.1)).Nodup→cells.size=len*b→
  ∃d,Instr.fill (λi=>some (i*b,b)) cells parts=some d∧d.size=len*b∧∀i j,i<len→j<b→d[i*b+j]?=match parts.find? (λp=>Nat.beq p.1 i)with
   |some p=>p.2.cells[j]?
   |none=>cells[i*b+j]?
 | [],cells,_,_,hs=>⟨cells,rfl,hs,λi j _ _=>rfl⟩
 |(k,v)::parts,cells,hp,hn,hs=>by
  simp only[List.map_cons,Ym]at hn;obtain⟨r,l⟩:=hp (k,v) (by simp);simp only at r l;have t:k*b+b≤len*b:=by have:(k+1)*b≤len*b:=Y9 b (by omega);rw[Yg]at this;omega
  obtain⟨d,e1,e2,s⟩:=Zpi len b m parts (v.cells.zipIdx.foldl (λcs (c:Value×Nat)=>cs.setIfInBounds (k*b+c.2) c.1) cells) (λp e=>hp p (by simp[e])) hn.2 (by
   rw[←YM,Zy7];exact hs)
  refine⟨d,?_,e2,λi j o n=>?_⟩
  ·unfold Instr.fill;have g:¬((v.cells.size≠b||k*b+v.cells.size>cells.size)=true):=by simp;omega
   simp only[];rw[if_neg g];exact e1
  ·rw[s i j o n,YN];by_cases hki:k=i
   ·subst hki;have hnone:parts.find? (λp=>Nat.beq p.1 k)=none:=(by rw[List.find?_eq_none];intro p e q;exact hn.1 (by rw[←Nat.eq_of_beq_eq_true q];exact Yd (f:=(·.1)) e));simp only[Y5,hnone];rw[←YM,Wv,Zmj];simp only[Nat.add_zero,Array.length_toList,l];rw[if_pos (by omega)];have:k*b+j-k*b=j:=(by omega);rw[this];simp
   ·simp only[Zaj hki]
    cases hf:parts.find? (λp=>Nat.beq p.1 i)with
    |some p=>rfl
    |none=>simp only[];rw[←YM,Wv,Zmj];simp only[Nat.add_zero,Array.length_toList,l];rw[if_neg];rintro⟨u,x,_⟩;have:=Zy8 (i:=i) (i':=k) (j:=j) (j':=i*b+j-k*b) n (by omega) (by omega);exact hki this.1.symm
section
variable{X:Cx}{h:Hp}{ρ:Nat→Loc}{st:St}{a:Act}{w:World}{P:Program}
def Zpj{cs:Array Value}{e:TypeId}{fz:Nat×Nat}{b cap sz:Nat}{rows:LL}(hpos:0<sz)(hcap:rows.length≤cap)(hcm:cap≤9223372036854775807)(hrow:∀(i:Nat) r,rows[i]?=some r→r.length=sz)
  (hb:w.heap[b]?=some (.cells cs e fz)) (hs:cap*sz≤cs.size) (hf:∀o,o<cap*sz→¬(fz.1≤o∧o<fz.2)) (hh:∀o,h b o=none) (hz0:fz=(0,0)∨(sz=1∧cs.size≤fz.1))
  (hv:∀(i:Nat) r (j:Nat) c,rows[i]?=some r→r[j]?=some c→∃v,cs[i*sz+j]?=some v∧PRep h v c∧v.oneCell'=true):OwnOK h w ⟨b,0,rows.length,cap,sz,false⟩ sz rows where
 pos:=hpos
 hsz:=rfl
 hlen:=rfl
 hcap:=hcap
 hrow:=hrow
 hblk:=⟨cs,e,fz,hb,by simpa using hs,λo _ ho=>hf o (by simpa using ho),λi r j c h1 h2=>by simpa using hv i r j c h1 h2⟩
 hh:=hh
 hfz:=λcs' t' fz' e=>by rw[hb]at e;cases e;exact hz0
 hcm:=hcm
def Zc6{e:TypeId}{z:List SV}(b:Zgb P e=some z):∃v,(∀w,(zeroValue e).run P w= .ok v w)∧v.cells.size=z.length∧(∀i,P.info? e=some i→i.zero=some v)∧
  ∀(j:Nat) u c,v.cells[j]?=some u→z[j]?=some c→PRep h u c∧u.oneCell'=true:=by
 unfold Zgb at b
 split at b
 ·rename_i s n;obtain⟨v,f,r,o⟩:=Zcx (h:=h) (ρ:=λ_=>noLoc) n;obtain⟨y,p⟩:=Zer r o;obtain⟨l,g⟩:=Zdu _ _ b;refine⟨v,f,by omega,λi d=>?_,λj u c k m=>?_⟩
  ·have:=f default
   cases hzz:i.zero with
   |none=>simp[zeroValue,run_typeInfo' default d,hzz,unsupported]at this
   |some A=>simp[zeroValue,run_typeInfo' default d,hzz]at this;rw[this]
  ·obtain⟨q,e1,e2⟩:=g j c m;obtain⟨t,x⟩:=p j u q k e1;exact⟨Zbs t e2,x⟩
 ·cases b
def mod_row{i j b:Nat}(c:j<b):(i*b+j)%b=j:=by
 rw[W7,Nat.mul_add_mod,Nat.mod_eq_of_lt c]
def Zge{z:Array Value}{n b i j:Nat}(f:z.size=b)(g:i<n)(d:j<b):((Array.range (n*b)).map (z[·%z.size]!))[i*b+j]?=z[j]?:=by
 have e:=Zlp g d;have c:j<z.size:=(by omega);simp only[Array.getElem?_map,Array.getElem?_range,e,if_true,YA,f,mod_row d];rw[getElem!_pos z j c,Y1 c]
def Zb9{e:TypeId}(b:Zb3 P e=true):∃i z,P.info? e=some i∧i.bytes≤8192∧0<i.size∧i.zero=some z∧z.cells.size=i.size∧szT P e=some i.size:=by
 unfold Zb3 at b
 cases hi:P.info? e with
 |none=>simp[hi]at b
 |some i=>
  simp only[hi,Bool.and_eq_true]at b;obtain⟨⟨d,f⟩,c⟩:=b
  cases hz:i.zero with
  |none=>simp[hz]at c
  |some z=>simp only[hz]at c;exact⟨i,z,rfl,Nat.le_of_ble_eq_true d,Nat.le_of_ble_eq_true f,hz,Nat.eq_of_beq_eq_true c,by simp[szT,hi]⟩
def Zeg(zero:List SV)(parts:List (Nat×SV)):∀(n i:Nat) (rows:LL),Zd0 zero parts n i=some rows→rows.length=n∧∀(k:Nat) r,rows[k]?=some r→r.length=zero.length∧
  match parts.find? (λp=>Nat.beq p.1 (i+k))with
  |some p=>∃s,Zdz p.2=some s∧r=cellsOf s
  |none=>r=zero
 |0,i,rows,e=>by simp[Zd0]at e;subst e;simp
 |n+1,i,rows,e=>by
  simp only[Zd0]at e
  split at e
  next r j b m=>
   cases hb:Nat.beq (lenN r) (lenN zero)with
   |false=>simp[hb]at e
   |true=>
    simp[hb]at e;subst e;obtain⟨l,g⟩:=Zeg zero parts n (i+1) j m;have q:r.length=zero.length:=by rw[←Za0,←Za0];exact Nat.eq_of_beq_eq_true hb
    refine⟨by simp[l],λk f c=>?_⟩
    cases k with
    |zero=>
     simp at c;subst c;refine⟨q,?_⟩;rw[Nat.add_zero]
     split at b
     ·rename_i p d;rw[d]
      split at b
      next s o=>cases b;exact⟨s,o,rfl⟩
      ·cases b
     next d=>rw[d];cases b;rfl
    |succ k=>have:=g k f (by simpa using c);rwa[show i+(k+1)=i+1+k by omega]
  ·cases e
def Ze5{v:Value}{s k:SV}(r:Rep h ρ v s)(n:Zdz s=some k):v.cells.size=(cellsOf k).length∧∀(i:Nat) u c,v.cells[i]?=some u→(cellsOf k)[i]?=some c→PRep h u c∧u.oneCell'=true:=by
 have D:=Zh3 r n
 have C:boxL (cellsOf k)=true:=by
  have m:∀c E,Zap c=some E→Zbj E=true:=by
   intro c E e
   cases c<;>simp[Zap]at e
   next v=>cases v<;>simp at e<;>subst e<;>rfl
   all_goals (subst e;rfl)
  have Y:∀l j,pureL l=some j→boxL j=true:=by
   intro l
   induction l with
   |nil=>intro j e;simp[pureL]at e;subst e;rfl
   |cons c l Z=>
    intro j e;simp only[pureL]at e
    split at e
    next V N o F=>
     cases e
     simp[boxL,m c V o,Z N F]
    ·cases e
  unfold Zdz at n
  split at n
  ·simp at n;obtain⟨j,O,rfl⟩:=n;exact Y _ _ O
  ·rename_i a0;have o:=m _ _ n
   have:cellsOf k=[k]:=by cases k<;>first|rfl|(simp[Zbj]at o)
   rw[this];simp[boxL,o]
 obtain⟨o,F⟩:=Zer (ρ:=λ_=>noLoc) (.pure _ _ D) C;refine⟨o,λi u c g d=>?_⟩;obtain⟨r1,W⟩:=F i u c g d;refine⟨?_,W⟩
 cases D with
 |agg q l T x=>exact x i u c g d
 |val v=>
  cases i with
  |zero=>
   have Q:=Zj0 C 0 (.val v) (by simp[cellsOf]);simp[cellsOf]at d;subst d
   have R:v.cells= #[v]:=by cases v<;>first|rfl|(simp[Zbj]at Q)
   rw[R]at g;simp at g;subst g;exact .val _
  |succ i=>simp[cellsOf]at d
 |empty p y G z H A hn=>
  cases i with
  |zero=>simp[cellsOf,Value.cells]at g d;subst g;subst d;exact .empty p y G z H A hn
  |succ i=>simp[cellsOf]at d
 |slice b off y G rows z q J hz K L ho H A U=>
  cases i with
  |zero=>simp[cellsOf,Value.cells]at g d;subst g;subst d;exact .slice b off y G rows z q J hz K L ho H A U
  |succ i=>simp[cellsOf]at d
 |ref b M off cells q K L=>
  cases i with
  |zero=>simp[cellsOf,Value.cells]at g d;subst g;subst d;exact .ref b M off cells q K L
  |succ i=>simp[cellsOf]at d
 |clo f q l T x=>
  cases i with
  |zero=>simp[cellsOf,Value.cells]at g d;subst g;subst d;exact .clo f q l T x
  |succ i=>simp[cellsOf]at d
 |ifc t v s hv=>
  cases i with
  |zero=>simp[cellsOf,Value.cells]at g d;subst g;subst d;exact .ifc t v s hv
  |succ i=>simp[cellsOf]at d
 |arr=>simp[cellsOf,boxL,Zbj]at C
 |unk v=>simp[cellsOf,boxL,Zbj]at C
def Zl7(Q:HSub h w){t e:TypeId}{len:Nat}{z:List SV}{parts:List (Nat×SV)}{vparts:Array (Nat×Value)}{rows:LL}(hu:P.underlying t=some (.slice e))(hz:Zgb P e=some z)(hb:Zb3 P e=true)
  (aa:len*z.length≤16777216) (Z:z.length=(szT P e).getD 0) (J:∀p∈parts,p.1<len) (a0:(parts.map (·.1)).Nodup) (E:Zd0 z parts len 0=some rows)
  (hl:vparts.size=parts.length) (hp:∀(i:Nat) p q,parts[i]?=some p→vparts[i]?=some q→q.1=p.1∧Rep h ρ q.2 p.2) (R:∀p∈parts,∃s,Zdz p.2=some s∧(cellsOf s).length=z.length):
  ∃cs,(Instr.buildSlice t len vparts).run P w= .ok (.slice (some ⟨w.heap.size,0,none⟩) len len) (w.alloc (.cells cs e))∧rows.length=len∧OwnOK h (w.alloc (.cells cs e)) ⟨w.heap.size,0,rows.length,len,z.length,false⟩ z.length rows:=by
 obtain⟨i,C,hi,ab,x,a1,a2,D⟩:=Zb9 hb;have d:z.length=i.size:=by rw[Z,D];rfl
 obtain⟨v,hv,ac,a3,a4⟩:=Zc6 (h:=h) hz;have Y:C=v:=by have:=a3 i hi;rw[a1]at this;cases this;rfl
 subst Y;obtain⟨K,L⟩:=Zeg z parts len 0 rows E;have y:∀(k:Nat) q,vparts[k]?=some q→∃p,parts[k]?=some p∧q.1=p.1∧Rep h ρ q.2 p.2:=λk q n=>by have g:k<parts.length:=(by have:=(Array.getElem?_eq_some_iff.1 n).1;omega);exact⟨parts[k],List.getElem?_eq_getElem g,hp k _ q (List.getElem?_eq_getElem g) n⟩
 have hmap:vparts.toList.map (·.1)=parts.map (·.1):=by
  apply List.ext_getElem?;intro k;simp only[Yt,Yo]
  cases n:vparts[k]? with
  |none=>have:parts[k]?=none:=(by rw[List.getElem?_eq_none_iff];rw[Array.getElem?_eq_none_iff]at n;omega);simp[this]
  |some q=>obtain⟨p,e1,e2,_⟩:=y k q n;simp[e1,e2]
 obtain⟨cs,e1,e2,U⟩:=Zpi len i.size x vparts.toList ((Array.range (len*i.size)).map (C.cells[·%C.cells.size]!)) (λq n=>by
   obtain⟨k,g,e⟩:=List.mem_iff_getElem.1 n;have a5:k<vparts.size:=(by simpa using g);obtain⟨p,e1,e2,U⟩:=y k q (by rw[Y1 a5];simp at e;rw[e]);have M:=Yj e1;obtain⟨s,A,q2⟩:=R p M
   exact⟨by rw[e2];exact J p M,by rw[(Ze5 U A).1,q2,d]⟩) (by rw[hmap];exact a0) (by simp)
 refine⟨cs,?_,K,?_⟩
 ·unfold Instr.buildSlice;have G:¬(len*i.size>2^24):=by rw[←d];omega
  simp only[Sem.run_bind,run_underlying hu,Result.andThen_ok,run_sizeOf' w D,G,if_false];by_cases h0:len*i.size=0
  ·have a6:len=0:=(WI.1 h0).resolve_right (by omega)
   have a7:parts=[]:=by
    cases parts with
    |nil=>rfl
    |cons p _=>have:=J p (by simp);omega
   have a8:vparts= #[]:=Array.eq_empty_of_size_eq_zero (by rw[hl,a7];rfl);have a9:cs= #[]:=Array.eq_empty_of_size_eq_zero (by rw[e2,h0]);subst a9;subst a8;subst a6;simp[Instr.fill,newRow];congr 2;apply Array.eq_empty_of_size_eq_zero;simp
  ·simp only[h0,if_false,Sem.run_bind,hv w,Result.andThen_ok,Sem.run_pure];simp[e1,newRow]
 ·refine Zpj (cs:=cs) (e:=e) (fz:=(0,0)) (by rw[d];exact x) (by rw[K];exact Nat.le_refl _) (by have:=WG len (show 0<z.length by rw[d];exact x);omega) (λk r g=>(L k r g).1) (by show(w.heap.push _)[_]?=_;simp) (by rw[d,e2];exact Nat.le_refl _) (λo _=>by simp) (λo=>Zcs Q o _ (Nat.le_refl _)) (.inl rfl) (λk r j c g F=>?_);have N:k<len:=by have:=(Y0.1 g).1;omega
  obtain⟨ad,b⟩:=L k r g;have O:j<i.size:=by have:=(Y0.1 F).1;omega
  rw[d,U k j N O];rw[Yc]at b
  have H:∀(l:List (Nat×Value)) (f:List (Nat×SV)),l.map (·.1)=f.map (·.1)→(∀(m:Nat) q,l[m]?=some q→∃p,f[m]?=some p∧q.1=p.1∧Rep h ρ q.2 p.2)→
    (∃q p,l.find? (λp=>Nat.beq p.1 k)=some q∧f.find? (λp=>Nat.beq p.1 k)=some p∧Rep h ρ q.2 p.2)∨(l.find? (λp=>Nat.beq p.1 k)=none∧f.find? (λp=>Nat.beq p.1 k)=none):=by
   intro l
   induction l with
   |nil=>intro f u _;simp at u;subst u;exact .inr ⟨rfl,rfl⟩
   |cons q l ih=>
    intro f u hg
    cases f with
    |nil=>simp at u
    |cons p f=>
     simp only[List.map_cons,List.cons.injEq]at u;rw[YN,YN,u.1]
     cases hbk:Nat.beq p.1 k with
     |true=>obtain⟨p',A,q2,q3⟩:=hg 0 q rfl;simp at A;subst A;exact .inl ⟨q,p,rfl,rfl,q3⟩
     |false=>exact ih f u.2 (λm q' T=>by simpa using hg (m+1) q' (by simpa using T))
  rcases H vparts.toList parts hmap (λm q T=>y m q (by simpa using T))with⟨q,p,V,W,g3⟩|⟨V,W⟩
  ·rw[V];rw[W]at b;simp only[]at b⊢;obtain⟨s,A,rfl⟩:=b;obtain⟨c1,c2⟩:=Ze5 g3 A;have:j<q.2.cells.size:=by rw[c1];exact(Y0.1 F).1
   exact⟨q.2.cells[j],Y1 this,c2 j _ c (Y1 this) F⟩
  ·rw[V];rw[W]at b;simp only[]at b⊢;subst b;rw[Zge a2 N O];have:j<C.cells.size:=(by omega);exact⟨C.cells[j],Y1 this,a4 j _ c (Y1 this) F⟩
end

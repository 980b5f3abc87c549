import Derived.Test.YtaenkbbfockfgaaGreatDoorK01
import Derived.Laws.BytesString
import Derived.Tactics
set_option linter.all false
set_option maxRecDepth 100000
variable{i:Int}{m n:Nat}{x:List Int}{v:Go.Value}{U u:Go.Px.SV}{T:Go.TypeId}{C:List Go.Px.SV}
namespace Go.Px
open Go.RowKit
section
variable{X:Cx}{h h':Hp}{ρ:Nat->Loc}{st:St}{a:Act}{w w':World}{P:Program}
def FitsAt.weaken(F:FitsAt X h ρ st a w)(b:St)(d:b.tmps.length=st.tmps.length)(f:∀(t:Nat) s,b.tmps[t]?=some s->TRep h ρ a.tmps (a.tmps.getD t undef) s)
  (c:∀id o,oget b.objs id=some o->oget st.objs id=some o):FitsAt X h ρ b a w:=
 {F with
  size:=by rw[F.size,d]
  tm:=f
  obj:=λid o e=>F.obj id o (c id o e)
  inj:=λi j ⟨⟨o,e⟩,hi⟩ ⟨⟨o',e'⟩,hj⟩ hij=>F.inj i j ⟨⟨o,c i o e⟩,hi⟩ ⟨⟨o',c j o' e'⟩,hj⟩ hij
  own:=λi ⟨⟨o,e⟩,hi⟩=>F.own i ⟨⟨o,c i o e⟩,hi⟩}
theorem FitsAt.odel(F:FitsAt X h ρ st a w)(id:Nat):FitsAt X h ρ {st with objs:=odel st.objs id} a w:=
 F.weaken _ rfl F.tm (λi o e=>(Zae e).2)
def Zdu(f:List Md):∀(l:List (Option Nat×Nat)) {st:St},FitsAt X h ρ st a w->FitsAt X h ρ (Za7 f l st) a w/\
  ∀i o,oget (Za7 f l st).objs i=some o->(∃b,oget st.objs i=some b)/\∀c,(some i,c)∉l
 | [],st,F=>⟨F,λi o e=>⟨⟨o,e⟩,Vs⟩⟩
 |(none,c)::l,st,F=>by obtain⟨n,g⟩:=Zdu f l F;exact⟨n,λi o e=>⟨(g i o e).1,λq k=>(g i o e).2 q (by simpa using k)⟩⟩
 |(some id,cid)::l,st,F=>by
  simp only[Za7]
  have step:∀d:St,FitsAt X h ρ d a w->(∀i o,oget d.objs i=some o->i≠id/\∃b,oget st.objs i=some b)->
    FitsAt X h ρ (Za7 f l d) a w/\∀i o,oget (Za7 f l d).objs i=some o->(∃b,oget st.objs i=some b)/\∀c,(some i,c)∉(some id,cid)::l:=by
   intro d n r;obtain⟨s,g⟩:=Zdu f l n;refine⟨s,λi o e=>?_⟩;obtain⟨⟨b,j⟩,hno⟩:=g i o e;obtain⟨m,t⟩:=r i b j;refine⟨t,λc k=>?_⟩
   rcases List.mem_cons.1 k with e2|k
   .grind
   .grind
  split
  .cases(Nat.beq (cid%128) 0||Nat.ble 64 (cid%128))with
   |true=>exact step _ (F.odel id) (λi o e=>⟨(Zae e).1,_,(Zae e).2⟩)
   |false=>
    refine step _ (F.drop id (λ_ _=>rfl) (.inr rfl)) (λi o e=>?_);obtain⟨b,j,rfl⟩:=Zaf e;obtain⟨m,p⟩:=Zae j
    grind
  .refine step _ (F.drop id (λ_ _=>rfl) (.inr rfl)) (λi o e=>?_);obtain⟨b,j,rfl⟩:=Zaf e;obtain⟨m,p⟩:=Zae j
   grind
def FitsAt.called(F:FitsAt X h ρ st a w)(G:Nat->Prop)(k:∀i,live st.objs ρ i->¬G (ρ i).blk)(l:∀b,G b->X.w.heap.size<=b\/X.G b)(m:Keeps G w w')(f:HLe h h')(j:HSub h' w')
  (g:∀b,b<w.heap.size->¬G b->∀o,h b o=none->h' b o=none):FitsAt X h' ρ st a w':=by
 have lt:=λid o c d=>ObOK.blk_lt (F.obj id o c) d;refine{F with tm:=λt s p=>(F.tm t s p).mono f,sub:=j,obj:=λid o c=>?_,mono:=F.mono.trans f,ext:=λb n q o e=>?_,kp:=F.kp.step m l}
 .exact(F.obj id o c).carry f (λd=>m.block _ (lt id o c d) (k id ⟨⟨o,c⟩,d⟩)) (λd x=>g _ (lt id o c d) (k id ⟨⟨o,c⟩,d⟩) x)
 .refine g b (Nat.lt_of_lt_of_le n F.kp.size) (λr=>?_) o (F.ext b n q o e)
  grind
def ObOK.move{b d:Nat->Loc}{o:Ob}(f:∀x,o≠ .box x)(e:d n=b m)(r:ObOK h b w m o):ObOK h d w n o:=by
 cases o with
 |box x=>exact absurd rfl (f x)
 |own g rows=>simp only[ObOK,e]at r|-;exact r
 |mp j=>simp only[ObOK,e]at r|-;exact r
 |arr k c l=>simp only[ObOK,e]at r|-;exact r
def Zjm(b:Nat->Loc):∀(g:List (Nat×Nat×Ob)) {st:St} {ρ:Nat->Loc},FitsAt X h ρ st a w->(g.map (·.1)).Nodup->
  (∀i c o,(i,c,o)∈g->idOK i=true/\ObOK h b w c o/\(∀x,o≠ .box x)/\((b c).none=false->(X.w.heap.size<=(b c).blk\/X.G (b c).blk)/\∀k,live st.objs ρ k->(ρ k).blk≠(b c).blk))->
  (∀i c o l m j,(i,c,o)∈g->(l,m,j)∈g->i≠l->(b c).none=false->(b m).none=false->(b c).blk≠(b m).blk)->
  ∃r,FitsAt X h r (Zi3 g st) a w/\(∀i c o,(i,c,o)∈g->r i=b c)/\(∀k,(∀p∈g,p.1≠k)->r k=ρ k)/\
   (∀k o,oget (Zi3 g st).objs k=some o->k∈g.map (·.1)\/((∀p∈g,p.1≠k)/\∃j,oget st.objs k=some j))
 | [],st,ρ,F,_,_,_=>⟨ρ,F,Vs,λ_ _=>rfl,λk o e=>.inr ⟨Vs,o,e⟩⟩
 |(i,c,o)::g,st,ρ,F,hn,ho,hd=>by
  simp only[List.map_cons,Yo]at hn;obtain⟨A,R,C,D⟩:=ho i c o Vs;have Z:Zdy (killG i) o=o:=by cases o<;>first|rfl|exact absurd rfl (C _)
  have F1:=F.bind i A o (b c) (by rw[Z];exact R.move C (Zab _ _ _)) (λn=>(D n).1) (λn k _ q=>(D n).2 k q)
  have u:∀k,live (st.bind i o).objs (upd ρ i (b c)) k->k=i\/(k≠i/\live st.objs ρ k):=by
   intro k q;by_cases hki:k=i
   .exact .inl hki
   .refine .inr ⟨hki,?_⟩;obtain⟨⟨x,hx⟩,v⟩:=q;simp only[St.bind,Zbu,if_neg (YN hki)]at hx;rw[Zi7 ρ _ hki]at v;obtain⟨z,t,rfl⟩:=Zaf hx;exact⟨⟨z,(Zae t).2⟩,v⟩
  have y:∀l m j,(l,m,j)∈g->l≠i:=λl m j d e=>hn.1 (by subst e;exact Yb (f:=(·.1)) d)
  obtain⟨r,T,U,E,V⟩:=Zjm b g F1 hn.2 (λl m j d=>by
   obtain⟨q0,W,Y,H⟩:=ho l m j (by simp[d]);refine⟨q0,W,Y,λn=>⟨(H n).1,λk q=>?_⟩⟩
   rcases u k q with rfl|⟨hki,hk'⟩
   .rw[Zab];exact hd k c o l m j Vs (by simp[d]) (λe=>y l m j d e.symm) (by have:=q.2;rwa[Zab]at this) n
   .rw[Zi7 ρ _ hki];exact(H n).2 k hk') (λJ K L i2 M N O Q=>hd J K L i2 M N (by simp[O]) (by simp[Q]))
  refine⟨r,T,λl m j d=>?_,λk q=>?_,λk x hx=>?_⟩
  .rcases List.mem_cons.1 d with e|d
   .cases e
    rw[E i (λp s=>y p.1 p.2.1 p.2.2 s),Zab]
   .exact U l m j d
  .rw[E k (λp s=>q p (by simp[s])),Zi7];exact λe=>q (i,c,o) Vs e.symm
  .rcases V k x hx with q|⟨hk1,j,ho'⟩
   .exact .inl (by simp[q])
   .by_cases hki:k=i
    .exact .inl (by simp[hki])
    .refine .inr ⟨λp s=>?_,?_⟩
     .rcases List.mem_cons.1 s with rfl|s
      .exact λe=>hki e.symm
      .exact hk1 p s
     .simp only[St.bind,Zbu,if_neg (YN hki)]at ho';obtain⟨z,t,rfl⟩:=Zaf ho';exact⟨z,(Zae t).2⟩
def Zlz:∀(b:List (Nat×Ob)) {st:St},FitsAt X h ρ st a w->(b.map (·.1)).Nodup->
  (∀i o,(i,o)∈b->oget st.objs i=none/\ObOK h ρ w i o/\((ρ i).none=false->(X.w.heap.size<=(ρ i).blk\/X.G (ρ i).blk)/\∀k,live st.objs ρ k->(ρ k).blk≠(ρ i).blk))->
  (∀i o d j,(i,o)∈b->(d,j)∈b->i≠d->(ρ i).none=false->(ρ d).none=false->(ρ i).blk≠(ρ d).blk)->
  FitsAt X h ρ {tmps:=st.tmps,objs:=b++st.objs} a w
 | [],st,F,_,_,_=>F
 |(i,o)::b,st,F,hn,ho,hd=>by
  simp only[List.map_cons,Yo]at hn;have A:=Zlz b F hn.2 (λd j m=>ho d j (by simp[m])) (λn p i2 q r s=>hd n p i2 q (by simp[r]) (by simp[s]));obtain⟨v,z,l⟩:=ho i o Vs
  have hno:oget (b++st.objs) i=none:=by
   rw[Zk8,v]
   cases e:oget b i with
   |none=>rfl
   |some x=>exact absurd (Yb (f:=(·.1)) (Zb6 e)) hn.1
  refine A.add i o hno z (λc=>(l c).1) (λc k t=>?_);obtain⟨⟨x,hx⟩,g⟩:=t;simp only[Zk8]at hx
  cases e:oget b k with
  |some y=>exact hd k y i o (by simp[Zb6 e]) Vs (λu=>hn.1 (by subst u;exact Yb (f:=(·.1)) (Zb6 e))) g c
  |none=>simp[e]at hx;exact(l c).2 k ⟨⟨x,hx⟩,g⟩
theorem Zdv:∀(d b:List SV),Zam d=true->Zam b=true->Zam (d++b)=true
 | [],b,_,h=>h
 |c::cs,b,h1,h2=>by
  simp_all[Zam,Bool.and_eq_true,Y2,Zdv]
def Zeu:∀(n:Nat) (t:TypeId) (K:List SV->Prop),Zaz P n t K->∃j,Zam j=true/\K j:=by
 intro n
 induction n with
 |zero=>intro t o h;exact h.elim
 |succ n C=>
  intro t o h;simp only[Zaz]at h
  have p:∀(l:List TypeId) (o:List SV->Prop) (g:List SV),Zam g=true->(l.foldr (λf k g=>Zaz P n f λj=>k (g++j)) o) g->∃j,Zam j=true/\o j:=by
   intro l
   induction l with
   |nil=>intro o g u h;exact⟨g,u,h⟩
   |cons t D z=>
    grind [Zdv]
  split at h
  .obtain⟨b,d⟩:=h;exact⟨_,rfl,d⟩
  .obtain⟨b,d⟩:=h;exact⟨_,rfl,d⟩
  .obtain⟨b,d⟩:=h;exact⟨_,rfl,d⟩
  .split at h
   .obtain⟨b,d⟩:=h;exact⟨_,rfl,d⟩
   grind
  .obtain⟨b,d⟩:=h;exact⟨_,rfl,d⟩
  .obtain⟨b,j,d⟩:=h;exact⟨_,rfl,d⟩
  next v _=>
   cases hm:isErr v.toList with
   |true=>
    simp only[hm,cond_true]at h;obtain⟨b,d⟩:=h
    cases b with
    |true=>exact⟨_,rfl,d⟩
    |false=>obtain⟨i,d⟩:=d;exact⟨_,rfl,d⟩
   |false=>
    simp only[hm,cond_false]at h;obtain⟨b,d⟩:=h
    cases b with
    |true=>exact⟨_,rfl,d⟩
    |false=>obtain⟨i,s,d⟩:=d;exact⟨_,rfl,d⟩
  .obtain⟨b,d⟩:=h;exact⟨_,rfl,d⟩
  .obtain⟨b,c,d⟩:=h;exact⟨_,rfl,d⟩
  next A _=>
   have e:∀(l:List Field),l.foldr (λf k g=>Zaz P n f.type λj=>k (g++j)) o=(l.map (·.type)).foldr (λf k g=>Zaz P n f λj=>k (g++j)) o:=by
    intro l;induction l with
    |nil=>rfl
    |cons x y q=>simp only[W0,List.map_cons,q]
   rw[e]at h;exact p _ _ _ rfl h
  next m r _=>
   have e:∀(l:List Nat),l.foldr (λ_ k g=>Zaz P n r λj=>k (g++j)) o=(l.map (λ_=>r)).foldr (λf k g=>Zaz P n f λj=>k (g++j)) o:=by
    intro l;induction l with
    |nil=>rfl
    |cons x y q=>simp only[W0,List.map_cons,q]
   rw[e]at h;exact p _ _ _ rfl h
  grind [Zam]
def Zl0:∀(b:List TypeId) (K:List SV->Prop),Zmb P b K->∃c,c.length=b.length/\Zam c=true/\K c
 | [],K,h=>⟨[],rfl,rfl,h⟩
 |t::b,K,h=>by
  simp only[Zmb,shapeV]at h
  have e:∃s,Zas s=true/\Zmb P b λf=>K (s::f):=by
   split at h
   next g m _=>obtain⟨i,h⟩:=h;exact⟨.arr g m i,by simp[Zas],h⟩
   .obtain⟨j,k,d⟩:=Zeu _ _ _ h
    cases hb:Za2 P t with
    |true=>simp only[hb,cond_true]at d;exact⟨.agg j,by simp[Zas,k],d⟩
    |false=>
     grind [Zam]
  obtain⟨s,l,n⟩:=e;obtain⟨c,e1,e2,o⟩:=Zl0 b _ n;exact⟨s::c,by simp[e1],by simp[Zam,l,e2],o⟩
theorem Zl1:∀(c:List TypeId) (K:List SV->Prop),Zpp P c K->∃b,b.length=c.length/\Zam b=true/\K b
 | [],K,h=>⟨[],rfl,rfl,h⟩
 |t::c,K,h=>by simp only[Zpp]at h;obtain⟨d,e,f⟩:=Zeu _ _ _ h;obtain⟨b,e1,e2,g⟩:=Zl1 c _ f;exact⟨.agg d::b,by simp[e1],by simp[Zam,Zas,e,e2],g⟩
def Zte(b d:List TypeId)(K:List SV->Prop)(h:shapeRL P b d K):∃c,c.length=(b++d).length/\Zam c=true/\K c:=by
 obtain⟨a,e,f,h⟩:=Zl0 b _ h
 grind [Zl1,Zdv]
def Zjn:∀{l:List SV},Zam l=true->∀(i:Nat) c,l[i]?=some c->Zas c=true
 | [],_,i,c,h=>by simp at h
 |x::xs,hb,0,c,h=>by simp[Zam]at hb;simp at h;subst h;exact hb.1
 |x::xs,hb,i+1,c,h=>by simp[Zam]at hb;exact Zjn hb.2 i c (by simpa using h)
def Rep.toPure{v:Value}{s:SV}(r:Rep h ρ v s):Zas s=true->PRep h v s:=by
 induction r with
 |pure v s b=>intro _;exact b
 |agg f g j _ k=>intro b;exact .agg f g j (λi v c e d=>k i v c e d (Zjn (by simpa[Zas]using b) i c d))
 |tup=>intro b;simp[Zas]at b
 |ptr=>intro b;simp[Zas]at b
 |bsl=>intro b;simp[Zas]at b
 |osl0=>intro b;simp[Zas]at b
 |osl=>intro b;simp[Zas]at b
 |eptr=>intro b;simp[Zas]at b
 |osv=>intro b;simp[Zas]at b
 |omp=>intro b;simp[Zas]at b
 |aptr=>intro b;simp[Zas]at b
 |asl=>intro b;simp[Zas]at b
def Zev{s hd c:SV}{o e:Ob}(e1:ownH n s=some (hd,o))(e2:ownH m s=some (c,e)){ρ1 ρ2:Nat->Loc}(d:ρ1 n=ρ2 m):
  o=e/\(∀x,o≠ .box x)/\∀v,Rep h ρ2 v c->Rep h ρ1 v hd:=by
 unfold ownH at e1 e2
 split at e1
 .cases e1;cases e2
  refine⟨rfl,Vs,λv r=>?_⟩
  rcases r.osl_inv with⟨b,p,rfl⟩|⟨b,rfl⟩
  .exact .osl0 n p (by rw[d];exact b)
  .rw[<-d]at b|-;exact .osl n b
 .cases e1;cases e2
  refine⟨rfl,Vs,λv r=>?_⟩;rw[r.omp_inv,<-d];exact .omp n
 .cases e1
def Zcz{b id:Nat}:∀{l:List (Option Nat×Nat)},Zd4 b l=some id->(some id,b)∈l
 | [],e=>by simp[Zd4]at e
 |(none,_)::l,e=>by simp[Zd4]at e;simp[Zcz e]
 |(some x,c)::l,e=>by
  simp only[Zd4]at e
  cases hb:Nat.beq c b with
  |true=>simp[hb]at e;subst e;have:=Nat.eq_of_beq_eq_true hb;subst this;simp
  |false=>simp[hb]at e;simp[Zcz e]
def stay_mem{b:List Bool}(c:m<64)(d:(b.drop m).headD false=true)(f:stayH (b.drop m)=true):n+64+m∈Zjp n b:=by
 unfold Zjp
 have g:Nat.ble b.length 64=false:=by
  cases hb:Nat.ble b.length 64 with
  |false=>rfl
  |true=>
   have:=Nat.le_of_ble_eq_true hb;have e:(b.drop m).drop 64=[]:=Yt Vm
   grind [stayH]
 grind
def Zgs(H:List (Option Nat×Nat))(g id:Nat)(p:List Bool):∀(s:List SV) (j:Nat) (u z:List SV) (A:List (Nat×Nat×Ob)) (C D:List (Nat×Ob)),Zam s=true->Zf6 H g id j (p.drop j) s=some (u,A,C)->Zaw g j (p.drop j) s=some (z,D)->
  u.length=s.length/\z.length=s.length/\(∀x c o,(x,c,o)∈A->(c,o)∈D/\∀y,o≠ .box y)/\
  (∀k o,(k,o)∈C->∃c,(some k,c)∈H/\(c,o)∈D/\c∈Zjp g p/\∀y,o≠ .box y)/\
  ∀d f:Nat->Loc,(∀x c o,(x,c,o)∈A->d x=f c)->(∀k o,(k,o)∈C->∀c,(some k,c)∈H->c∈Zjp g p->d k=f c)->
   ∀(i:Nat) v x y,u[i]?=some x->z[i]?=some y->Rep h f v y->Rep h d v x
 | [],j,u,z,A,C,D,_,e1,e2=>by
  simp_all[Zaw,Zf6,e2,e1]
 |c::s,j,u,z,A,C,D,hp,e1,e2=>by
  simp only[Zam,Bool.and_eq_true]at hp;simp only[Zaw,List.tail_drop]at e2;simp only[Zf6,List.tail_drop]at e1
  split at e1
  .cases e1
  next M N O h1=>
   split at e2
   .cases e2
   .rename_i Q R h2;obtain⟨J,K,g1,g2,L⟩:=Zgs H g id p s (j+1) M Q N O R hp.2 h1 h2
    cases hm:(p.drop j).headD false with
    |true=>
     simp only[hm,cond_true]at e1 e2
     cases hs:stayH (p.drop j)with
     |true=>
      simp only[hs,cond_true,Zih]at e1 e2
      split at e1
      .rename_i k F T;have hj:j<64:=Nat.le_of_ble_eq_true T
       split at e1
       next hd o G=>
        split at e2
        next U V q=>
         cases e1;cases e2
         have hst:g+64+j∈Zjp g p:=stay_mem hj hm hs;refine⟨by simp[J],by simp[K],λx E n b=>?_,λx n b=>?_,λd f t m i v x y hx l r=>?_⟩
         .grind
         .rcases List.mem_cons.1 b with e|b
          .cases e
           obtain⟨W,Y,_⟩:=Zev (h:=h) G q (ρ1:=λ_=>noLoc) (ρ2:=λ_=>noLoc) rfl;subst W;exact⟨g+64+j,Zcz F,Vs,hst,Y⟩
          grind
         .cases i with
          |zero=>simp at hx l;subst hx;subst l;exact(Zev G q (m k o Vs _ (Zcz F) hst)).2.2 v r
          |succ i=>exact L d f (λx E n b=>t x E n (by simp[b])) (λZ n b=>m Z n (by simp[b])) i v x y (by simpa using hx) (by simpa using l) r
        .cases e2
       .cases e1
      .cases e1
     |false=>
      simp only[hs,cond_false,Zih]at e1 e2
      split at e1
      next hd o G=>
       split at e2
       next U V q=>
        cases e1;cases e2
        refine⟨by simp[J],by simp[K],λx E n b=>?_,λx n b=>?_,λd f t m i v x y hx l r=>?_⟩
        .rcases List.mem_cons.1 b with e|b
         .cases e
          obtain⟨W,Y,_⟩:=Zev (h:=h) G q (ρ1:=λ_=>noLoc) (ρ2:=λ_=>noLoc) rfl
          grind
         grind
        .grind
        .cases i with
         |zero=>simp at hx l;subst hx;subst l;exact(Zev G q (t (id+1+j) (g+1+j) o Vs)).2.2 v r
         |succ i=>exact L d f (λx E n b=>t x E n (by simp[b])) m i v x y (by simpa using hx) (by simpa using l) r
       .cases e2
      .cases e1
    |false=>
     simp only[hm,cond_false]at e1 e2
     cases e1;cases e2
     refine⟨by simp[J],by simp[K],g1,g2,λd f t m i v x y hx l r=>?_⟩
     cases i with
     |zero=>simp at hx l;subst hx;subst l;exact .pure _ _ (r.toPure hp.1)
     |succ i=>exact L d f t m i v x y (by simpa using hx) (by simpa using l) r
end
end Go.Px
namespace Go.Px
open Go.RowKit
def Zuc{k r:Nat}(b:r=0\/(64<=r/\r<128)):idOK (pId k+r)=false:=by
 have c:Nat.blt (1048576+128*k+r) 1048576=false:=by
  cases hb:Nat.blt (1048576+128*k+r) 1048576
  .rfl
  .have:=Nat.le_of_ble_eq_true hb;omega
 have d:(1048576+128*k+r)%128=r:=Vo
 have e:(Nat.beq r 0||Nat.ble 64 r)=true:=by
  rcases b with rfl|⟨b,_⟩
  .rfl
  simp_all
 grind [idOK,pId]
theorem Zny(k:Nat):idOK (pId k)=false:=Zuc (r:=0) (.inl rfl)
def Zmo{l:List (Option Nat×Nat)}{b:List Nat}(h:Zrh l b=true){id:Nat}(hid:id∈b):(some id,id)∈l:=by
 unfold Zrh at h;have e:=List.all_eq_true.1 h id hid;obtain⟨⟨o,c⟩,f,d⟩:=List.any_eq_true.1 e;simp only[Bool.and_eq_true]at d;have e2:c=id:=Nat.eq_of_beq_eq_true d.2;subst e2
 cases o with
 |none=>cases d.1
 |some k=>
  simp_all
def Zxl{b:List Bool}(h:m∈Zjp n b):∃j,j<64/\m=n+64+j:=by
 unfold Zjp at h
 cases hb:Nat.ble b.length 64 with
 |true=>rw[hb]at h;cases h
 |false=>
  rw[hb,cond_false]at h;obtain⟨j,d,e⟩:=YE.1 h;refine⟨j,by simpa using d,?_⟩
  grind
def Ze1:∀(b:List Md) (i:Nat) {c:Nat},c∈Zb1 i b->∃k j,j<64/\c=pId k+(64+j)
 | [],i,c,h=>by cases h
 | .lend mm::r,i,c,h=>by
  rcases List.mem_append.1 h with h|h
  .obtain⟨j,d,e⟩:=Zxl h;exact⟨i,j,d,Vo⟩
  .exact Ze1 r (i+1) h
 | .pure::r,i,c,h=>Ze1 r (i+1) h
 | .own::r,i,c,h=>Ze1 r (i+1) h
theorem Zkg{b:List Md}(h:m∈Zb1 n b):idOK m=false:=by
 obtain⟨k,j,d,rfl⟩:=Ze1 b n h;exact Zuc (.inr ⟨Vo,Vo⟩)
def lendN:List Md->Nat
 | []=>0
 | .lend _::r=>lendN r+1
 |_::r=>lendN r
def Zhh:∀(d:List Md) (i:Nat) (c:List SV) (b:List (Nat×Ob)),lentH i d c=some b->c.length=lendN d
 | [],i,[],b,_=>rfl
 | [],i,_::_,b,e=>by simp[lentH]at e
 | .lend d::r,i,[],b,e=>by simp[lentH]at e
 | .lend d::r,i,s::c,b,e=>by
  simp only[lentH]at e
  split at e
  .rename_i j f g;have:=Zhh r (i+1) c f g
   grind [lendN]
  .cases e
 | .pure::r,i,c,b,e=>by simp only[lentH]at e;simpa[lendN]using Zhh r (i+1) c b e
 | .own::r,i,c,b,e=>by simp only[lentH]at e;simpa[lendN]using Zhh r (i+1) c b e
def Zkh:∀(b:List Md) (i:Nat),(∃m r,b.drop i=m::r/\mdAt b i=m/\b.drop (i+1)=r)\/(b.drop i=[]/\mdAt b i= .pure/\b.drop (i+1)=[])
 | [],i=>.inr ⟨Vs,by cases i<;>rfl,Vs⟩
 |m::b,0=>.inl ⟨m,b,rfl,rfl,rfl⟩
 |m::b,i+1=>by simpa[mdAt]using Zkh b i
def Zhi(P:Program)(b:List Md):∀(c:List TypeId) (i:Nat),b.length<=i+c.length->(Zex P b i c).length=lendN (b.drop i)
 | [],i,h=>by
  have:b.drop i=[]:=Yt (by simpa using h)
  grind [Zex,lendN]
 |t::c,i,h=>by
  have e:=Zhi P b c (i+1) (by simp at h;omega);simp only[Zex]
  rcases Zkh b i with⟨m,r,e1,e2,d⟩|⟨e1,e2,d⟩
  .rw[e1,e2]
   grind [lendN]
  grind
def Zhj(d:Nat->Nat)(g:List Md):∀(b:List SV) (i:Nat) (c:List SV) (f:List (Nat×Ob)),argsH d g i b=some (c,f)->c.length=b.length
 | [],i,c,f,e=>by simp[argsH]at e;obtain⟨rfl,rfl⟩:=e;rfl
 |s::b,i,c,f,e=>by
  simp only[argsH]at e
  split at e
  next hd o j k m l=>
   cases e
   simp[Zhj d g b (i+1) j k l]
  .cases e
def Zi9(P:Program)(c:List (Nat×Ob))(k:Nat->Nat)(m:List Md):∀(g:List TypeId) (j:List SV) (i:Nat) (f:List SV) (b:List (Option Nat×Nat)),Za3 P c k m i g j=some (f,b)->g.length=j.length
 | [],[],i,f,b,e=>rfl
 | [],_::_,i,f,b,e=>by simp[Za3]at e
 |_::_,[],i,f,b,e=>by simp[Za3]at e
 |t::g,s::j,i,f,b,e=>by
  simp only[Za3]at e
  split at e
  next d l n o q p=>simp[Zi9 P c k m g j (i+1) n o p]
  .cases e
def mem_oget{l:List (Nat×Ob)}{o:Ob}(h:(n,o)∈l):∃b,oget l n=some b:=by
 induction l with
 |nil=>simp at h
 |cons x d f=>
  obtain⟨k,p⟩:=x;rw[Zbu];by_cases e:k=n
  .simp_all
  grind
theorem Zhk{f:List (Nat×Ob)}{b:List (Option Nat×Nat)}(e:Zf4 f n u=some (U,b)):∀id c,(some id,c)∈b->u= .osl id\/u= .omp id:=by
 intro id c i;unfold Zf4 at e
 grind
theorem Zfj{m:List (Nat×Ob)}(k:Nat):∀(f:List SV) (j:Nat) (g:List Bool) (n:List SV) (b:List (Option Nat×Nat)),Za1 m k j g f=some (n,b)->∀id c,(some id,c)∈b->.osl id∈f\/.omp id∈f
 | [],j,g,n,b,e,id,c,hm=>by simp[Za1]at e;obtain⟨rfl,rfl⟩:=e;simp at hm
 |x::f,j,g,n,b,e,id,c,hm=>by
  simp only[Za1]at e
  split at e
  next d l o p i q=>
   cases e
   rcases List.mem_append.1 hm with hm|hm
   .cases hmm:g.headD false with
    |true=>
     grind [Zhk]
    |false=>
     simp only[hmm,cond_false]at i
     cases hp:Zao x with
     |none=>simp[hp]at i
     |some y=>simp[hp]at i;rw[i.2]at hm;simp at hm
   .rcases Zfj k f (j+1) g.tail o p q id c hm with e|e
    .grind
    grind
  .cases e
theorem Zki:∀(b:List SV) (id:Nat),.osl id∈b->id∈Zfc b
 | [],id,h=>by simp at h
 |c::b,id,h=>by
  simp only[Zfc,List.mem_append]
  rcases List.mem_cons.1 h with e|h
  .grind [Zw6]
  simp_all[Zki]
theorem Znz{b:List (Nat×Ob)}{g:Nat}{m:Md}{s d:SV}{f:List (Option Nat×Nat)}(e:Zf5 b g m s=some (d,f)):∀id c,(some id,c)∈f->id∈Zij b m s:=by
 intro id c i;unfold Zf5 at e
 cases m with
 |pure=>simp at e;obtain⟨x,_,_,rfl⟩:=e;simp at i
 |own=>
  simp only[]at e
  rcases Zhk e id c i with rfl|rfl
  .simp[Zij]
  .simp[Zij]
 |lend n=>
  simp only[]at e
  split at e
  next j=>
   split at e
   .rename_i k l;simp at e
    grind [Zij,Zfj,Zki]
   .cases e
  .cases e
theorem Zgo(P:Program)(f:List (Nat×Ob))(k:Nat->Nat)(m:List Md):∀(n:List TypeId) (j:List SV) (i:Nat) (g:List SV) (b:List (Option Nat×Nat)),Za3 P f k m i n j=some (g,b)->
  ∀id c,(some id,c)∈b->id∈Zb4 f m i j
 | [],[],i,g,b,e,id,c,hm=>by simp[Za3]at e;obtain⟨rfl,rfl⟩:=e;simp at hm
 | [],_::_,i,g,b,e,_,_,_=>by simp[Za3]at e
 |_::_,[],i,g,b,e,_,_,_=>by simp[Za3]at e
 |t::n,s::j,i,g,b,e,id,c,hm=>by
  simp only[Za3]at e
  split at e
  next d l o p r q=>
   cases e
   simp only[Zb4,List.mem_append]
   rcases List.mem_append.1 hm with hm|hm
   .grind [Znz]
   .exact .inr (Zgo P f k m n j (i+1) o p q id c hm)
  .cases e
section
variable{X:Cx}{h h':Hp}{ρ:Nat->Loc}{st:St}{a:Act}{w w':World}{P:Program}
def Zmp(p u:Nat->Nat)(b:List Md)(E:b.all Md.noLend=true):∀(q:List SV) (i:Nat) (z A:List SV) (t C:List (Nat×Ob)),Zam q=true->argsH p b i q=some (z,t)->argsH u b i q=some (A,C)->
  (∀c o,(c,o)∈t->∃k,c=p k/\(u k,o)∈C/\∀x,o≠ .box x)/\
  ∀d e:Nat->Loc,(∀k o,(p k,o)∈t->d (p k)=e (u k))->∀(k:Nat) v x y,z[k]?=some x->A[k]?=some y->Rep h e v y->Rep h d v x
 | [],i,z,A,t,C,_,e1,e2=>by
  simp_all[argsH,e1,e2]
 |s::q,i,z,A,t,C,hp,e1,e2=>by
  simp only[Zam,Bool.and_eq_true]at hp;simp only[argsH]at e1 e2
  split at e1
  next hd o H J n R=>
   split at e2
   next V Z K L g M=>
    cases e1;cases e2
    obtain⟨T,O⟩:=Zmp p u b E q (i+1) H K J L hp.2 R M
    have Q:mdAt b i= .pure\/mdAt b i= .own:=by
     have:∀(b:List Md) (i:Nat),b.all Md.noLend=true->(mdAt b i).noLend=true:=by
      intro b
      induction b with
      |nil=>intro i _;rfl
      |cons m b U=>
       intro i f;simp only[List.all_cons,Bool.and_eq_true]at f
       cases i with
       |zero=>exact f.1
       |succ i=>exact U i f.2
     have:=this b i E
     cases f:mdAt b i<;>simp[f,Md.noLend]at this<;>simp
    rcases Q with f|f
    .simp only[f,argH]at n g
     cases n;cases g
     refine⟨by simpa using T,λd e D k v x y hx l r=>?_⟩
     cases k with
     |zero=>simp at hx l;subst hx;subst l;exact .pure _ _ (r.toPure hp.1)
     |succ k=>exact O d e (by simpa using D) k v x y (by simpa using hx) (by simpa using l) r
    .simp only[f,argH]at n g
     split at n
     next hd1 N F=>
      split at g
      next W Y G=>
       cases n;cases g
       refine⟨λc o j=>?_,λd e D k v x y hx l r=>?_⟩
       .rcases List.mem_append.1 j with j|j
        .simp at j;obtain⟨rfl,rfl⟩:=j;obtain⟨e',hb,_⟩:=Zev (h:=h) F G (ρ1:=λ_=>noLoc) (ρ2:=λ_=>noLoc) rfl
         grind
        grind
       .cases k with
        |zero=>simp at hx l;subst hx;subst l;exact(Zev F G (D i N Vs)).2.2 v r
        |succ k=>exact O d e (λk o f=>D k o (by simp[f])) k v x y (by simpa using hx) (by simpa using l) r
      .cases g
     .cases n
   .cases e2
  .cases e1
def Zc4(C:List (Option Nat×Nat)):∀(E:List Md) (i:Nat) (A:List SV) (m:List (Nat×Ob)) (n:List (Nat×Nat×Ob)) (p:List (Nat×Ob)),Zam A=true->lentH i E A=some m->Zc9 C i E A=some (n,p)->
  (∀x c o,(x,c,o)∈n->(c,o)∈m/\∀y,o≠ .box y)/\
  (∀id o,(id,o)∈p->(∃k G u z,(some id,pId (i+k))∈C/\E[k]?=some (.lend G)/\o= .box u/\(pId (i+k),.box z)∈m/\u.length=z.length/\
   ∀q t:Nat->Loc,(∀x c o,(x,c,o)∈n->q x=t c)->(∀k o,(k,o)∈p->∀c,(some k,c)∈C->c∈Zb1 i E->q k=t c)->∀(j:Nat) v x y,u[j]?=some x->z[j]?=some y->Rep h t v y->Rep h q v x)\/
   (∃c,(some id,c)∈C/\(c,o)∈m/\c∈Zb1 i E/\∀y,o≠ .box y))
 | [],i,[],m,n,p,_,e1,e2=>by simp[Zc9]at e2;obtain⟨rfl,rfl⟩:=e2;exact⟨Vs,Vs⟩
 | [],i,_::_,m,n,p,_,e1,e2=>by simp[lentH]at e1
 | .lend G::r,i,[],m,n,p,_,e1,e2=>by simp[lentH]at e1
 | .lend G::r,i,s::A,m,n,p,hp,e1,e2=>by
  simp only[Zam,Bool.and_eq_true]at hp;simp only[lentH]at e1;simp only[Zc9]at e2
  split at e1
  next V W h1=>
   split at e1
   next z o2 Y=>
    cases e1
    split at e2
    next a6 id Z a0 a1 U a2=>
     cases a1
     split at e2
     next u a3 sx a4=>
      cases e2
      have a5:Zam V=true:=(by grind [Zas]);obtain⟨l1,l2,g1,g2,g3⟩:=Zgs (h:=h) C (pId i) id G V 0 u z a3 sx o2 a5 a4 Y;obtain⟨N,H⟩:=Zc4 C r (i+1) A W Z a0 hp.2 h1 a2;refine⟨λx c o b=>?_,λO o b=>?_⟩
      .grind
      .simp only[Y2,List.mem_cons,List.mem_append]at b
       rcases b with e|b|b
       .cases e
        refine .inl ⟨0,G,u,z,Zcz U,rfl,rfl,Vs,Vo,λq t Q F j v x y hx hy rr=>?_⟩;exact g3 q t (λx c o b=>Q x c o (by simp[b])) (λk o b c R T=>F k o (by simp[b]) c R (YW _ T)) j v x y hx hy rr
       .obtain⟨c,d,f,g,l⟩:=g2 O o b;exact .inr ⟨c,d,by simp[f],YW _ g,l⟩
       .rcases H O o b with⟨k,D,J,K,d,f,g,l,L,M⟩|⟨c,d,f,g,l⟩
        .exact .inl ⟨k+1,D,J,K,by rw[show i+(k+1)=i+1+k by omega];exact d,by simpa using f,g,by rw[show i+(k+1)=i+1+k by omega];simp[l],L,λq t Q F=>M q t (λx c o b=>Q x c o (by simp[b])) (λk o b c R T=>F k o (by simp[b]) c R (YF _ T))⟩
        .exact .inr ⟨c,d,by simp[f],YF _ g,l⟩
     .cases e2
    .cases e2
   .cases e1
  .cases e1
 | .pure::r,i,A,m,n,p,hp,e1,e2=>by
  obtain⟨N,H⟩:=Zc4 C r (i+1) A m n p hp (by simpa[lentH]using e1) (by simpa[Zc9]using e2);refine⟨N,λid o b=>?_⟩
  rcases H id o b with⟨k,D,J,K,d,f,g,l,L,M⟩|⟨c,d,f,g,l⟩
  .exact .inl ⟨k+1,D,J,K,by rw[show i+(k+1)=i+1+k by omega];exact d,by simpa using f,g,by rw[show i+(k+1)=i+1+k by omega];exact l,L,M⟩
  .exact .inr ⟨c,d,f,g,l⟩
 | .own::r,i,A,m,n,p,hp,e1,e2=>by
  obtain⟨N,H⟩:=Zc4 C r (i+1) A m n p hp (by simpa[lentH]using e1) (by simpa[Zc9]using e2);refine⟨N,λid o b=>?_⟩
  rcases H id o b with⟨k,D,J,K,d,f,g,l,L,M⟩|⟨c,d,f,g,l⟩
  .exact .inl ⟨k+1,D,J,K,by rw[show i+(k+1)=i+1+k by omega];exact d,by simpa using f,g,by rw[show i+(k+1)=i+1+k by omega];exact l,L,M⟩
  .exact .inr ⟨c,d,f,g,l⟩
def one_rep{b:Nat->Loc}:∀(d:List Value) (e:List SV),d.length=e.length->(∀(k:Nat) v s,d[k]?=some v->e[k]?=some s->Rep h b v s)->Rep h b (rets d) (one e)
 | [],[],_,_=>.tup #[] [] rfl Vs
 | [v],[s],_,hr=>hr 0 v s rfl rfl
 | [],_::_,hl,_=>by simp at hl
 |_::_,[],hl,_=>by simp at hl
 | [_],_::_::_,hl,_=>by simp at hl
 |_::_::_,[_],hl,_=>by simp at hl
 |v::v'::vs,s::s'::ss,hl,hr=>.tup _ _ (by simpa using hl) (λi u c f g=>hr i u c (by simpa using f) g)
def Zhl:∀(n:Nat) (l:List SV),Zam l=true->Zam (l.take n)=true/\Zam (l.drop n)=true
 |0,l,h=>⟨by simp[Zam],by simpa using h⟩
 |n+1,[],h=>⟨by simp[Zam],by simp[Zam]⟩
 |n+1,c::cs,h=>by
  simp only[Zam,Bool.and_eq_true]at h
  simp_all[Zam,h.1,Zhl]
def Zmq:∀{l:List SV},Zcm l=true->∀(i:Nat) s,l[i]?=some s->∃v,s= .val v
 | [],_,i,s,e=>by simp at e
 | .val v::l,h,0,s,e=>by simp at e;exact⟨v,e.symm⟩
 | .val v::l,h,i+1,s,e=>Zmq (by simpa[Zcm]using h) i s (by simpa using e)
 | .agg _::l,h,i,s,e=>by simp[Zcm]at h
 | .tup _::l,h,i,s,e=>by simp[Zcm]at h
 | .slice .. ::l,h,i,s,e=>by simp[Zcm]at h
 | .mapv _::l,h,i,s,e=>by simp[Zcm]at h
 | .ref .. ::l,h,i,s,e=>by simp[Zcm]at h
 | .clo .. ::l,h,i,s,e=>by simp[Zcm]at h
 | .ifc .. ::l,h,i,s,e=>by simp[Zcm]at h
 | .ptr .. ::l,h,i,s,e=>by simp[Zcm]at h
 | .bsl .. ::l,h,i,s,e=>by simp[Zcm]at h
 | .osl _::l,h,i,s,e=>by simp[Zcm]at h
 | .eptr .. ::l,h,i,s,e=>by simp[Zcm]at h
 | .omp _::l,h,i,s,e=>by simp[Zcm]at h
 | .gd .. ::l,h,i,s,e=>by simp[Zcm]at h
 | .unk::l,h,i,s,e=>by simp[Zcm]at h
def Goes(X:Cx)(K:St->Prop)(a:Act)(w:World):Prop:=∃st,Fits X st a w/\K st
def Za5(c:Nat->Nat):∀(b:List SV) (i:Nat),argsH c [] i b=some (b,[])
 | [],i=>rfl
 |s::b,i=>by simp[argsH,mdAt,argH,Za5 c b (i+1)]
def Zip{h0:Hp}{st0:St}(F0:FitsAt X h0 ρ st0 a w)(F:FitsAt X h ρ st a w)(bc:HLe h0 h)(f:FuncId)(j:Sig)(a9 aa:List TypeId)(A Z:List SV)(vs cv:Array Value)(ab:Option Nat)(K:St->Prop)
  (hl:vs.size=A.length) (hr:∀(i:Nat) v s,vs[i]?=some v->A[i]?=some s->Rep h ρ v s) (co:cv.size=Z.length) (bl:∀(i:Nat) v s,cv[i]?=some v->Z[i]?=some s->PRep h v s)
  (hc:callC P f j a9 aa A Z ab st0 st K):
  (callFunc f (vs++cv)).run P w= .ok (.enter f (vs++cv)) w/\
  Calls P f (vs++cv) w λe M=>∃v,e= .returned v/\Goes X K (a.put ab v) M/\w.heap.size<=M.heap.size/\
   ∀b,b<w.heap.size->(∀id∈Zb4 st.objs j.ps 0 A,live st.objs ρ id->(ρ id).blk≠b)->M.heap[b]?=w.heap[b]?:=by
 unfold callC at hc
 split at hc
 .exact hc.elim
 next as C Y=>
  cases hb:(Zbq (C.filterMap (·.1))&&Zbq (C.map (·.2))&&Nat.ble j.ps.length a9.length&&j.rs.all Md.noLend)with
  |false=>simp only[hb,cond_false]at hc
  |true=>
   simp only[hb,cond_true]at hc;simp only[Bool.and_eq_true]at hb;obtain⟨⟨⟨ap,aq⟩,ar⟩,br⟩:=hb;have ap:=Zay ap;have aq:=Zay aq;have ar:=Nat.le_of_ble_eq_true ar;obtain⟨Q,⟨⟨fn,hf,ck,b0⟩,bs⟩,hq⟩:=hc;refine⟨?_,?_⟩
   .simp[callFunc,hf,b0]
    grind
   .let u:=pull C ρ (λ_=>noLoc)
    have a8:Pulls C ρ u:=Zet ρ _ aq;obtain⟨hs,os,e1,e2,e3,e4,e5⟩:=Zcw (P:=P) (ρ':=u) F.obj pId j.ps a9 A 0 as C Y a8;have cn:=Zi9 _ _ _ _ _ _ _ _ _ Y;have e6:=Zjl pId j.ps as Z 0 hs os e1 Vo;have hH:Holds h u os w:=pass_holds e5 a8 ap F.sub F.inj
    have bb:∀b,Gv os u b->∃id,id∈Zb4 st.objs j.ps 0 A/\(∃c,(some id,c)∈C)/\live st.objs ρ id/\(ρ id).blk=b:=λb hg=>by
     grind [Zpa,Zgo,pId]
    have ay:∀b,Gv os u b->X.w.heap.size<=b\/X.G b:=λb hg=>by obtain⟨id,_,_,au,rfl⟩:=bb b hg;exact F.own id au
    refine(bs (hs++Z) os e6 h u w (vs++cv) hH F.glob ⟨Vm,λi v s R D=>?_⟩).mono ?_
    .simp only[Array.toList_append]at R;rw[List.getElem?_append]at R D;simp only[Array.length_toList]at R;have:hs.length=vs.size:=Vo;rw[this]at D
     split at R
     .grind
     next am=>rw[if_neg am]at D;exact .pure _ _ (bl _ v s (by simpa using R) D)
    .rintro e M ⟨vr,h',ρ2,rs,hr',objs',rfl,hQ,hend,hrep,hhold,hown,hlent,a5,hext,hkp⟩
     have bh:∀b,b<w.heap.size->(∀id∈Zb4 st.objs j.ps 0 A,live st.objs ρ id->(ρ id).blk≠b)->M.heap[b]?=w.heap[b]?:=λb am hno=>hkp.block b am λhg=>by
      grind
     refine⟨_,rfl,?_,hkp.size,bh⟩;obtain⟨xs,bt,bu,rfl,q⟩:=Zte _ _ _ (hq rs hQ);unfold endH at hend
     split at hend
     next cp a3 a4 ha ao=>
      cases hend
      have l1:=Zhj _ _ _ _ _ _ ha;have l2:=Zhh _ _ _ _ ao;have l3:=Zhi P j.ps a9 0 Vo;simp only[List.drop_zero]at l3;simp only[List.length_append,l3]at bt;simp at l1 l2;have l4:=hrep.1;have hn:vr.length=aa.length:=Vo;rw[hn]at ha ao;obtain⟨bv,bw⟩:=Zhl aa.length rs bu
      cases hbor:(C.isEmpty&&j.rs.isEmpty&&Zcm rs)with
      |true=>
       simp only[hbor,cond_true]at q;simp only[Bool.and_eq_true,List.isEmpty_iff]at hbor;obtain⟨⟨b6,bz⟩,c1⟩:=hbor
       have ch:os=[]:=by
        cases os with
        |nil=>rfl
        |cons x xs=>obtain⟨p,U,_⟩:=e5.at_ x.1 x.2 Vs;rw[b6]at U;simp at U
       subst ch;have bi:∀b,¬Gv [] u b:=λb ⟨i,⟨⟨o,e⟩,_⟩,_⟩=>by simp[oget]at e
       have F1:FitsAt X h0 ρ st0 a M:=F0.called (Gv [] u) (λi _=>bi _) ay hkp (HLe.refl h0) (λb o v e=>hhold.sub b o v (a5 b o v (bc b o v e))) (λ_ _ _ _ e=>e);refine⟨_,⟨h0,ρ,F1.put ab (TRep.of_rep' ?_)⟩,q⟩
       have cs:lendN j.ps=0:=by
        have:∀(ts:List TypeId) (A:List SV) (i:Nat) (ds:List SV),Za3 P st.objs pId j.ps i ts A=some (ds,[])->j.ps.length<=i+ts.length->lendN (j.ps.drop i)=0:=by
         intro ts
         induction ts with
         |nil=>intro A i ds e a5;rw[Yt (by simpa using a5)];rfl
         |cons t ts ih=>
          intro A i ds e a5
          cases A with
          |nil=>simp[Za3]at e
          |cons s A=>
           simp only[Za3]at e
           split at e
           .rename_i d l bo ls V g2;simp at e;obtain⟨_,rfl,rfl⟩:=e;have:=ih A (i+1) bo g2 (by simp at a5;omega)
            rcases Zkh j.ps i with⟨m,r,q1,q2,q3⟩|⟨q1,q2,q3⟩
            .rw[q1];rw[q3]at this
             cases m with
             |lend ms=>
              rw[q2]at V;unfold Zf5 at V;simp only[]at V
              split at V
              .split at V
               .simp at V
               .cases V
              .cases V
             |pure=>simpa[lendN]using this
             |own=>simpa[lendN]using this
            .rw[q1];rfl
           .cases e
        have:=this a9 A 0 as (by rw[b6]at Y;exact Y) Vo
        simpa using this
       have b1:rs.take aa.length=rs:=List.take_of_length_le Vo;rw[b1,bz,Za5]at ha
       cases ha
       refine one_rep vr rs hrep.1 (λk v s R D=>?_);obtain⟨x,rfl⟩:=Zmq c1 k s D;rw[(hrep.2 k v _ R D).val_inv];exact .pure _ _ (.val _)
      |false=>
       simp only[hbor,cond_false]at q
       split at q
       next im bx rr E bp a6=>
        cases hck:(Zbq ((im++E).map (·.1)++bx.map (·.1))&&Zbq ((im++E).map (·.2.1))&&(im++E).all (λp=>idOK p.1&&idOK p.2.1))with
        |false=>simp only[hck,cond_false]at q
        |true=>
         simp only[hck,cond_true]at q;simp only[Bool.and_eq_true,List.all_eq_true]at hck;obtain⟨⟨af,ag⟩,aj⟩:=hck;have af:=Zay af;have ag:=Zay ag;obtain⟨bd,be,av⟩:=We.1 af
         obtain⟨Fd,b7⟩:=Zdu j.ps C F
         have ae:∀i,live (Za7 j.ps C st).objs ρ i->live st.objs ρ i/\¬Gv os u (ρ i).blk:=by
          rintro i ⟨⟨o,W⟩,hni⟩;obtain⟨O,c2⟩:=b7 i o W;refine⟨⟨O,hni⟩,λhg=>?_⟩;obtain⟨id,_,⟨c,g⟩,au,e⟩:=bb _ hg;by_cases hid:id=i
          .subst hid;exact c2 c g
          .exact F.inj id i au ⟨O,hni⟩ hid e
         have Fc:FitsAt X h' ρ (Za7 j.ps C st) a M:=Fd.called (Gv os u) (λi hi=>(ae i hi).2) ay hkp a5 hhold.sub hext
         obtain⟨q1,q2⟩:=Zc4 (h:=h') C j.ps 0 (rs.drop aa.length) a4 im bx bw ao bp
         have bj:(∀x c o,(x,c,o)∈E->(c,o)∈a3/\∀y,o≠ .box y)/\∀ac:Nat->Loc,(∀x c o,(x,c,o)∈E->ac x=ρ2 c)->(ab=none/\rr= .unk)\/Rep h' ac (rets vr) rr:=by
          unfold resBack at a6
          split at a6
          .cases a6;exact⟨Vs,λac _=>.inl ⟨rfl,rfl⟩⟩
          next d=>
           split at a6
           next b2 bq b4=>
            cases a6
            obtain⟨H,t2⟩:=Zmp (h:=h') (cId d) rId j.rs br _ 0 b2 hr' bq a3 bv b4 ha;refine⟨λx c o g=>?_,λac bm=>.inr ?_⟩
            .simp only[Ya]at g;obtain⟨p,c4,e⟩:=g
             cases e
             obtain⟨k,e,c5,hb⟩:=H p.1 p.2 c4;have:p.1-cId d 0=k:=by rw[e];simp[cId]
             rw[this];exact⟨c5,hb⟩
            .refine one_rep vr b2 ?_ (λk v s R D=>?_)
             .rw[hrep.1,Zhj _ _ _ _ _ _ ha,Zhj _ _ _ _ _ _ b4]
             .have hk:k<hr'.length:=(by have:=(Y0.1 R).1;rw[<-hrep.1];exact this);refine t2 ac ρ2 (λk o g=>?_) k v s _ D (List.getElem?_eq_getElem hk) (hrep.2 k v _ R (List.getElem?_eq_getElem hk));have:=bm (cId d k) (rId (cId d k-cId d 0)) o (Ya.2 ⟨_,g,rfl⟩);rw[this];congr 2;simp[cId]
           .cases a6
         obtain⟨q3,q4⟩:=bj
         have J:∀x c o,(x,c,o)∈im++E->(c,o)∈a3++a4/\∀y,o≠ .box y:=λx c o g=>by
          rcases List.mem_append.1 g with g|g
          .exact⟨by simp[(q1 x c o g).1],(q1 x c o g).2⟩
          .exact⟨by simp[(q3 x c o g).1],(q3 x c o g).2⟩
         have n:∀c o,(c,o)∈a3++a4->(ρ2 c).none=false->live (a3++a4) ρ2 c:=λc o g N=>⟨mem_oget g,N⟩
         have L:∀c o,(c,o)∈a3++a4->(ρ2 c).none=false->(X.w.heap.size<=(ρ2 c).blk\/X.G (ρ2 c).blk)/\∀k,live (Za7 j.ps C st).objs ρ k->(ρ k).blk≠(ρ2 c).blk:=λc o g N=>by
          have W:=hown c (n c o g N);refine⟨?_,λk hk e=>?_⟩
          .rcases W with W|W
           .exact .inl (Nat.le_trans F.kp.size W)
           .exact ay _ W
          .obtain⟨c6,c7⟩:=ae k hk
           rcases W with W|W
           .obtain⟨⟨T,O⟩,a7⟩:=c6;have:=ObOK.blk_lt (F.obj k T O) a7;omega
           .rw[<-e]at W;exact c7 W
         obtain⟨a0,Ff,V,g2,g3⟩:=Zjm ρ2 (im++E) Fc bd (λi c o g=>⟨(by have:=aj (i,c,o) g;simp only at this;exact this.1),hhold.obj c o (J i c o g).1,(J i c o g).2,L c o (J i c o g).1⟩) (λi c o i' c' T m1 m2 an n1 n2=>by
          have ah:c≠c':=λe=>by
           subst e
           have:∀(l:List (Nat×Nat×Ob)),(l.map (·.2.1)).Nodup->(i,c,o)∈l->(i',c,T)∈l->i=i':=by
            intro l
            induction l with
            |nil=>intro _ h1;simp at h1
            |cons p l ih=>
             intro ai h1 h2;simp only[List.map_cons,Yo]at ai
             rcases List.mem_cons.1 h1 with e1|h1'
             .rcases List.mem_cons.1 h2 with e2|h2'
              .rw[<-e1]at e2;cases e2;rfl
              .exfalso;apply ai.1;rw[<-e1];exact Ya.2 ⟨_,h2',rfl⟩
             .rcases List.mem_cons.1 h2 with e2|h2'
              .exfalso;apply ai.1;rw[<-e2];exact Ya.2 ⟨_,h1',rfl⟩
              .exact ih ai.2 h1' h2'
           exact an (this _ ag m1 m2)
          exact hhold.inj c c' (n c o (J i c o m1).1 n1) (n c' T (J i' c' T m2).1 n2) ah)
         have bk:∀x c o,(x,c,o)∈im->a0 x=ρ2 c:=λx c o g=>V x c o (by simp[g])
         have a1:∀id o,(id,o)∈bx->a0 id=ρ id:=λid o g=>g2 id (λp U e=>av p.1 (Yb (f:=(·.1)) U) id (Yb (f:=(·.1)) g) e);have al:∀k c,(some k,c)∈C->c∈Zb1 0 j.ps->ρ2 c=ρ k:=λk c hk hc=>(hlent.2 c hc).trans (a8 (some k,c) hk)
         have az:∀id o,(id,o)∈bx->∃c o2,(some id,c)∈C/\(c,o2)∈a4/\idOK c=false/\((ρ id).none=false->(ρ2 c).blk=(ρ id).blk/\(ρ2 c).none=false)/\ObOK h' a0 M id o:=λid o g=>by
          have hf:=a1 id o g
          rcases q2 id o g with⟨k,mm,cq,aw,H,t2,rfl,t4,t5,t6⟩|⟨c,H,t2,t3,t4⟩
          .rw[Yj]at H t4;have a2:u (pId k)=ρ id:=a8 (some id,pId k) H;obtain⟨b8,z⟩:=hlent.1 k mm t2;rw[a2]at b8 z;obtain⟨c9,⟨ca,ty,cb,cr,cc⟩,cd⟩:=hhold.obj (pId k) (.box aw) (by simp[t4]);refine⟨pId k,.box aw,H,t4,Zny k,λ_=>⟨z,c9⟩,⟨by rw[hf];exact b8,⟨ca,ty,by rw[hf,<-z];exact cb,Vo,λi v c R ah=>?_⟩,by rw[hf,<-z];exact cd⟩⟩;have hi:i<aw.length:=by have:=(Y0.1 ah).1;omega
           obtain⟨r1,r2⟩:=cc i v _ R (List.getElem?_eq_getElem hi);exact⟨t6 a0 ρ2 bk (λk o g c hc hs=>(a1 k o g).trans (al k c hc hs).symm) i v c _ ah (List.getElem?_eq_getElem hi) r1,r2⟩
          .have a2:ρ2 c=ρ id:=al id c H t3;refine⟨c,o,H,t2,Zkg t3,λN=>⟨by rw[a2],by rw[a2];exact N⟩,(hhold.obj c o (by simp[t2])).move t4 (by rw[hf,a2])⟩
         have Fb:=Zlz (ρ:=a0) bx Ff be (λi o g=>by
          obtain⟨c0,o2,H,t4,ax,hl,b9⟩:=az i o g;have hf:=a1 i o g;have hi1:∀p∈im++E,p.1≠i:=λp U e=>av p.1 (Yb (f:=(·.1)) U) i (Yb (f:=(·.1)) g) e;refine⟨?_,b9,λN=>?_⟩
          .cases e:oget (Zi3 (im++E) (Za7 j.ps C st)).objs i with
           |none=>rfl
           |some x=>
            rcases g3 i x e with hm'|⟨_,T,O⟩
            .obtain⟨p,U,e'⟩:=Ya.1 hm';exact absurd e' (hi1 p U)
            .exact absurd H ((b7 i T O).2 _)
          .rw[hf]at N;obtain⟨z,ad⟩:=hl N;refine⟨by rw[hf,<-z];exact(L c0 o2 (by simp[t4]) ad).1,λk' bn e=>?_⟩;obtain⟨⟨x,hx⟩,a7⟩:=bn;rw[hf]at e
           rcases g3 k' x hx with hm'|⟨hno,T,O⟩
           .obtain⟨⟨x',c,ak⟩,U,rfl⟩:=Ya.1 hm';rw[V x' c ak U]at e a7;have ci:=(J x' c ak U).1;refine hhold.inj c c0 (n c ak ci a7) (n c0 o2 (by simp[t4]) ad) (λe'=>?_) (by rw[e,z]);subst e';have:=aj (x',_,ak) U;simp only[ax]at this;exact absurd this.2 Vs
           .rw[g2 k' hno]at e a7
            exact(L c0 o2 (by simp[t4]) ad).2 k' ⟨⟨T,O⟩,a7⟩ (by rw[e,z])) (λi o i' T m1 m2 an n1 n2=>by
          obtain⟨c,o2,H,t4,ax,hl,b9⟩:=az i o m1;obtain⟨c',ce,ba,cf,cl,cg,cm⟩:=az i' T m2;rw[a1 i o m1]at n1|-;rw[a1 i' T m2]at n2|-;obtain⟨z,ad⟩:=hl n1;obtain⟨bf,bg⟩:=cg n2;rw[<-z,<-bf];refine hhold.inj c c' (n c o2 (by simp[t4]) ad) (n c' ce (by simp[cf]) bg) (λe=>?_);have e1:u c=ρ i:=a8 (some i,c) H;have e2:u c'=ρ i':=a8 (some i',c') ba;rw[e]at e1;rw[e1]at e2
          have li:live st.objs ρ i:=⟨e5.here i _ H,n1⟩
          have cj:live st.objs ρ i':=⟨e5.here i' _ ba,n2⟩
          exact F.inj i i' li cj an (by rw[e2]))
         refine⟨_,⟨h',a0,?_⟩,q⟩
         rcases q4 a0 (λx c o g=>V x c o (by simp[g]))with⟨hd,rfl⟩|hrr
         .subst hd;exact Fb.put none (TRep.rep_unk _ (rets vr))
         .exact Fb.put ab (TRep.of_rep' hrr)
       .exact q.elim
     .cases hend
end
end Go.Px
namespace Go.Px
open Go.RowKit
section
variable{X:Cx}{h:Hp}{ρ:Nat->Loc}{st:St}{a:Act}{w:World}{P:Program}
def Zq0{n:Int}{K:Nat->Prop}:∀(m j:Nat),caseN n K m j->∀i,j<=i->i<j+m->n=Int.ofNat i->K i
 |0,j,_,i,h1,h2,_=>Vo
 |m+1,j,h,i,h1,h2,e=>by
  by_cases hij:i=j
  .subst hij;exact h.1 e
  .exact Zq0 m (j+1) h.2 i Vo Vo e
def Zh2{n:Operand}{K:Nat->Prop}(hx:arrIx m n i K)(d:∀b j,n= .const (.int b (.ofNat j))->i=Int.ofNat j):∃j,j<m/\i=Int.ofNat j/\K j:=by
 unfold arrIx at hx
 split at hx
 next b j=>
  cases hb:Nat.blt j m with
  |false=>simp[hb]at hx
  |true=>simp only[hb,cond_true]at hx;exact⟨j,Nat.le_of_ble_eq_true hb,d b j rfl,hx⟩
 .cases hb:Nat.ble m 16 with
  |false=>simp[hb]at hx
  |true=>simp only[hb,cond_true]at hx;obtain⟨⟨f,c⟩,e⟩:=hx;refine⟨i.toNat,by simp at c;omega,Vm,Zq0 m 0 e i.toNat Vo (by simp at c;omega) Vm⟩
def Rep.slice_pure{rows:LL}{tok:Nat}(r:Rep h ρ v (.slice n rows tok)):PRep h v (.slice n rows 0):=by
 cases r with
 |pure _ _ c=>exact c.tok0
def PRep.sub{p:Option Addr}{len f g:Nat}{rows:LL}(r:PRep h (.slice p len f) (.slice g rows 0)){l hh m z:Nat}(G:l<=hh)(D:hh<=rows.length)(H:hh<=m)(J:m<=f)(K:z=g\/g=0)(tok:Nat)(q:tok<=1)(s:tok=1->m=hh):
  PRep h (.slice (if m=l then p else p.map (·.add (l*z))) (hh-l) (m-l)) (.slice g ((rows.take hh).drop l) tok):=by
 by_cases he:hh=l
 .subst he;have:(rows.take hh).drop hh=[]:=Vs;rw[this,Nat.sub_self];refine .empty _ _ _ tok q (λe=>by have:=s e;omega) (λe=>?_);generalize hv:Value.slice p len f=v at r
  cases r with
  |empty L k _ _ _ _ M=>
   cases hv
   split at e
   .omega
   simp_all
  |slice b off k _ _ _ x _ _ _ _ _ _ _ _=>
   grind
 .generalize hv:Value.slice p len f=v at r
  cases r with
  |empty=>cases hv;simp at D;omega
  |slice b off k _ _ _ x o y E A C _ _ F=>
   cases hv
   have t:¬m=l:=Vo;simp only[t,if_false,W4,Zbn];have u:z=g:=Vo;subst u;have n:((rows.take hh).drop l).length=hh-l:=Vm;rw[<-n]
   have d:∀i r,((rows.take hh).drop l)[i]?=some r->rows[l+i]?=some r:=by
    grind
   refine .slice b (off+l*z) (m-l) z _ tok (λi j=>x (l+i) j) o (λi r e=>y _ r (d i r e)) (λi r j c e1 e2=>?_) (λi r j c e1 e2=>A _ r j c (d i r e1) e2) (λi r j c e1 e2=>C _ r j c (d i r e1) e2) q (λe=>by have:=s e;omega) Vo
   grind
def Zix{gv:List (Nat×Bool)->Operand->SV}{w':World}(hsv:∀x,Rep h ρ (a.eval x) (gv [] x))(j:Bool)(len c:Nat){lo hi:Option Operand}{l h':Int}
  (g:bndOf gv 0 lo=some l) (d:bndOf gv (Int.ofNat len) hi=some h') (k:0<=l) (p:l<=h') (v:h'<=(len:Int)) (m:h'<=(c:Int)):
  (Instr.sliceBounds j len c (lo.map a.eval) (hi.map a.eval) none).run P w'= .ok (l.toNat,h'.toNat,c) w':=by
 have o:∀x n,bndOf gv n (some x)=some l->∃b,a.eval x= .int b l:=by
  intro x n e;simp only[bndOf]at e
  split at e
  next b q hx=>
   cases e
   have:=hsv x;rw[hx]at this;exact⟨b,this.val_inv⟩
  .cases e
 have f:∀x n,bndOf gv n (some x)=some h'->∃b,a.eval x= .int b h':=by
  intro x n e;simp only[bndOf]at e
  split at e
  next b q hx=>
   cases e
   have:=hsv x;rw[hx]at this;exact⟨b,this.val_inv⟩
  .cases e
 have u:l<=(h'.toNat:Int):=Vo
 cases lo with
 |none=>
  simp[bndOf]at g;subst g
  cases hi with
  |none=>simp[bndOf]at d;subst d;simp[Instr.sliceBounds]
  |some y=>
   obtain⟨b,i⟩:=f y _ d
   have:(0:Int)<=h'/\h'<=(c:Int):=⟨Vo,m⟩
   simp[Instr.sliceBounds,Instr.sliceBound,i,asIntOf,this]
 |some x=>
  obtain⟨b,hx⟩:=o x _ g
  cases hi with
  |none=>
   simp[bndOf]at d;subst d
   have:(0:Int)<=l/\l<=(len:Int):=⟨k,p⟩
   simp[Instr.sliceBounds,Instr.sliceBound,hx,asIntOf,this]
  |some y=>
   obtain⟨t,i⟩:=f y _ d
   have r:(0:Int)<=h'/\h'<=(c:Int):=⟨Vo,m⟩
   have s:(0:Int)<=l/\l<=max h' 0:=⟨k,Vo⟩
   simp[Instr.sliceBounds,Instr.sliceBound,hx,i,asIntOf,r,s]
def Zs4{gv:List (Nat×Bool)->Operand->SV}{w':World}(hsv:∀x,Rep h ρ (a.eval x) (gv [] x))(len e:Nat){lo:Option Operand}{hi m:Operand}{b:IntKind}{l h':Int}
  (d:bndOf gv 0 lo=some l) (f:bndOf gv (Int.ofNat len) (some hi)=some h') (g:a.eval m= .int b h') (k:0<=l) (s:l<=h') (n:h'<=(e:Int)):
  (Instr.sliceBounds true len e (lo.map a.eval) (some (a.eval hi)) (some (a.eval m))).run P w'= .ok (l.toNat,h'.toNat,h'.toNat) w':=by
 have c:∃b,a.eval hi= .int b h':=by
  simp only[bndOf]at f
  split at f
  next b o hx=>
   cases f
   have:=hsv hi;rw[hx]at this;exact⟨b,this.val_inv⟩
  .cases f
 obtain⟨q,c⟩:=c
 have i:(0:Int)<=h'/\h'<=(e:Int):=⟨Vo,n⟩
 have j:(0:Int)<=h'/\h'<=max h' 0:=⟨Vo,Vo⟩
 cases lo with
 |none=>simp[bndOf]at d;subst d;simp[Instr.sliceBounds,Instr.sliceBound,c,g,asIntOf,i,j]
 |some x=>
  have hx:∃b,a.eval x= .int b l:=by
   simp only[bndOf]at d
   split at d
   next b o hx=>
    cases d
    have:=hsv x;rw[hx]at this;exact⟨b,this.val_inv⟩
   .cases d
  obtain⟨r,hx⟩:=hx
  have p:(0:Int)<=l/\l<=max h' 0:=⟨k,Vo⟩
  simp[Instr.sliceBounds,Instr.sliceBound,c,g,hx,asIntOf,i,p,j]
def FitsAt.val(F:FitsAt X h ρ st a w)(x:Operand):Rep h ρ (a.eval x) (st.val x):=F.operand [] Vs x
def FitsAt.pureOps(F:FitsAt X h ρ st a w)(b:List Operand):∃h',HLe h h'/\FitsAt X h' ρ (pureOps b st) a w:=F.frzAll _
def Zh3(F:FitsAt X h ρ st a w){n:Operand}{c:IntKind}(d:st.val n= .val (.int c i)):∀b j,n= .const (.int b (.ofNat j))->i=Int.ofNat j:=by
 intro b j e;subst e;have:=F.val (.const (.int b (.ofNat j)));rw[d]at this;have:=this.val_inv
 grind [Act.eval]
def Goes.put{K:St->Prop}(F:FitsAt X h ρ st a w)(d:Option Nat){v:Value}{s:SV}(r:Rep h ρ v s)(b:K (st.put d s)):Goes X K (a.put d v) w:=
 ⟨_,⟨h,ρ,F.put d (TRep.of_rep' r)⟩,b⟩
def Zll{rows:LL}{n:Int}{b:List SV}(c:0<=n)(d:n<rlen rows)(e:rget rows n=b):n.toNat<rows.length/\rows[n.toNat]?=some b:=by
 grind [rlen,rget]
def own_row{rows:LL}{l:Loc}(o:OwnOK h w l n rows)(q:rows[m]?=some C):
  ∃k:List Value,Ziu w l.blk (l.off+m*n) k/\k.length=C.length/\∀(j:Nat) v c,k[j]?=some v->C[j]?=some c->Rep h ρ v c:=by
 obtain⟨g,t,r,s,u,x,y⟩:=o.hblk
 have e:∀(j:Nat) c,C[j]?=some c->∃v,g[l.off+m*n+j]?=some v/\PRep h v c:=λj c d=>by
  grind
 refine⟨(List.range C.length).map λj=>(g[l.off+m*n+j]?).getD undef,λj v i=>?_,Vs,λj v c i d=>?_⟩
 .have f:j<C.length:=Vg;obtain⟨p,e1,_⟩:=e j _ (List.getElem?_eq_getElem f)
  simp_all[e1,World.cell?]
 .have f:j<C.length:=(Y0.1 d).1;obtain⟨p,e1,e2⟩:=e j c d;simp[f,e1]at i;subst i;exact .pure _ _ e2
def Zq1{p:Option Addr}{len cap:Nat}{rows:LL}(g:len=rows.length)(k:Zbt rows)(A:0<len->∃b off,p=some ⟨b,off,none⟩/\∀(i:Nat) r c,rows[i]?=some r->r[0]?=some c->∃v,w.cell? ⟨b,off+i,none⟩=some v/\PRep h v c)
  (f:World) (C:∀b off,0<len->p=some ⟨b,off,none⟩->f.heap[b]?=w.heap[b]?):(Conv.bytesToString (.slice p len cap)).run P f= .ok (.string (bstr rows)) f:=by
 have x:∀(rows:LL),Zbt rows->∃d:List Int,rows=d.map (λn=>[.val (.int .u8 n)]):=by
  intro rows
  induction rows with
  |nil=>intro _;exact⟨[],rfl⟩
  |cons r rows q=>intro k;obtain⟨d,e⟩:=q (λr m=>k r (by simp[m]));obtain⟨n,e1,_⟩:=k r Vs;exact⟨n::d,by simp[e1,e]⟩
 obtain⟨d,rfl⟩:=x rows k
 have l:∀(d:List Int) (s:BA),d.foldl (λr n=>r.push (UInt8.ofNat n.toNat)) s=⟨s.data++(d.map λn=>UInt8.ofNat n.toNat).toArray⟩:=by
  intro d
  induction d with
  |nil=>intro s;simp
  |cons n d q=>intro s;rw[List.foldl_cons,q];simp[ByteArray.push]
 have o:bstr (d.map (λn=>[.val (.int .u8 n)]))=d.foldl (λr n=>r.push (UInt8.ofNat n.toNat)) ByteArray.empty:=(by rw[l];simp[bstr,Zcx,Function.comp_def,ByteArray.empty,ByteArray.emptyWithCapacity];rfl);simp at g;subst g;by_cases h0:0<d.length
 .obtain⟨b,off,rfl,D⟩:=A h0;rw[o];refine run_bytesToString f _ _ cap d ?_
  have:=run_loadCells_list (P:=P) f ⟨b,off,none⟩ (d.map (Value.int .u8)) (λj v t=>by
   rw[Zbn];simp at t;obtain⟨n,E,rfl⟩:=t;obtain⟨u,F,m⟩:=D j [.val (.int .u8 n)] (.val (.int .u8 n)) (by simp[E]) rfl
   cases m
   exact Zfs (C b off h0 rfl) F)
  grind
 .have y:d=[]:=by cases d with
   |nil=>rfl
   |cons=>simp at h0
  subst y
  cases p with
  |none=>simp[Conv.bytesToString,bstr];rfl
  |some z=>
   have:(loadCells z 0).run P f= .ok (([]:List Int).map (Value.int .u8)).toArray f:=(by simp[loadCells,loadCellsFrom]);have:=run_bytesToString f z 0 cap [] this
   grind
theorem PRep.cells{v:Value}{e:Nat}{rows:LL}{tok:Nat}(g:HSub h w)(r:PRep h v (.slice e rows tok)):∃p d,v= .slice p rows.length d/\(0<rows.length->∃b off,p=some ⟨b,off,none⟩/\0<e/\(∀(i:Nat) r,rows[i]?=some r->r.length=e)/\
  ∀(i:Nat) r (j:Nat) c,rows[i]?=some r->r[j]?=some c->∃v,w.cell? ⟨b,off+i*e+j,none⟩=some v/\PRep h v c/\v.oneCell'=true):=by
 cases r with
 |empty p d _ _ k l u=>exact⟨p,d,rfl,λh=>by simp at h⟩
 |slice b off d _ _ _ m f n o q s k l t=>exact⟨_,d,rfl,λ_=>⟨b,off,rfl,f,n,λi r j c e1 e2=>⟨m i j,g _ _ _ (o i r j c e1 e2),q i r j c e1 e2,s i r j c e1 e2⟩⟩⟩
def Zd2(F:FitsAt X h ρ st a w){rows:LL}(r:Rep h ρ v u)(e:Zjq st.objs u=some (n,rows)):∃p cap,v= .slice p rows.length cap/\(0<rows.length->∃b off,p=some ⟨b,off,none⟩/\0<n/\
  (∀(i:Nat) r,rows[i]?=some r->r.length=n)/\∀(i:Nat) r (j:Nat) c,rows[i]?=some r->r[j]?=some c->∃v,w.cell? ⟨b,off+i*n+j,none⟩=some v/\PRep h v c/\v.oneCell'=true):=by
 unfold Zjq at e
 split at e
 .cases e
  exact r.slice_pure.cells F.sub
 next id=>
  split at e
  next m g k=>
   cases e
   rcases F.obj id _ k with⟨l,rfl⟩|⟨l,o⟩
   .rcases r.osl_inv with⟨_,p,rfl⟩|⟨f,_⟩
    .grind
    grind
   .rcases r.osl_inv with⟨f,_⟩|⟨_,rfl⟩
    .grind
    .refine⟨_,_,by rw[o.hlen],λ_=>⟨_,_,rfl,o.pos,o.hrow,λi r j c e1 e2=>?_⟩⟩;obtain⟨d,t,q,s,x,y,z⟩:=o.hblk
     simp_all[World.cell?,e1,e2]
  .cases e
 .cases e
def Zh4{P:Program}{R:Value->Prop}{K:SV->Prop}(h:fres P T R K):∃v,R v/\K (.val v):=by
 grind [fres]
def Zvv{c:IntKind}(b:bigT P T=some (c,m)):∃e,P.underlying T=some (.array m e)/\P.underlying e=some (.int c)/\szT P e=some 1/\szT P T=some m:=by
 unfold bigT at b
 split at b
 next d e g=>
  cases h16:Nat.blt 16 d with
  |false=>simp only[h16,cond_false]at b;cases b
  |true=>
   simp only[h16,cond_true]at b
   split at b
   next f n i j k=>
    cases hn:Nat.beq n d with
    |false=>simp only[hn,cond_false]at b;cases b
    |true=>
     simp_all
   .cases b
 .cases b
def Zq2{kd:IntKind}{ns:List Int}{vs:Array Value}(f:vs.size=ns.length)(b:∀(i:Nat) v c,vs[i]?=some v->(ns.map λx=>SV.val (.int kd x))[i]?=some c->Rep h ρ v c):vs.toList=ns.map (Value.int kd):=by
 apply List.ext_getElem?;intro i;by_cases hi:i<ns.length
 .have d:vs[i]?=some vs[i]:=Y1 Vo;have e:=b i vs[i] (.val (.int kd ns[i])) d (by simp[hi]);have g:=e.val_inv
  grind
 grind
def Zvw{d:IntKind}(r:bigT P T=some (d,m))(A:x.length=m)(g:Ziu w n 0 (x.map (Value.int d))):
  ∃i:Array Value,i.toList=x.map (Value.int d)/\∀k:World,k.heap[n]?=w.heap[n]?->(loadVar T ⟨n,0,none⟩).run P k= .ok (.agg i) k:=by
 obtain⟨e,o,C,D,s⟩:=Zvv r;have q:Za2 P T=true:=by simp[Za2,o]
 have z:partN P T 0 (x.map λf=>SV.val (.int d f))=some (.agg (x.map λf=>SV.val (.int d f))):=by
  unfold partN;simp only[o,s,q,cond_true,Zax,Ze5,Ze6];have:Nat.ble (0+m) (x.map λf=>SV.val (.int d f)).length=true:=Nat.ble_eq_true_of_le Vm
  grind
 obtain⟨v,l,u⟩:=Zdd (P:=P) (h:=λ_ _=>none) (ρ:=λ_=>noLoc) (cs:=x.map λf=>SV.val (.int d f)) g Vs (λj v c b g=>by
  simp at b g;obtain⟨E,e1,rfl⟩:=b;obtain⟨F,e2,rfl⟩:=g;rw[e1]at e2;cases e2
  exact .pure _ _ (.val _)) z
 obtain⟨i,rfl,y,p⟩:=u.agg_inv';exact⟨i,Zq2 (by simpa using y) p,l⟩
def Zh5(F:FitsAt X h ρ st a w){c:IntKind}(d:oget st.objs n=some (.arr c m x)):
  x.length=m/\Ziu w (ρ n).blk 0 (x.map (Value.int c)):=by
 obtain⟨g,⟨i,t,k,e,l⟩,hno⟩:=F.obj n _ d;refine⟨e,λj v f=>?_⟩
 grind [World.cell?]
def Zlm{d:IntKind}:∀{f:List SV} {b:List Int},Zrg d f=some b->f=b.map λx=>SV.val (.int d x)
 | [],b,e=>by cases e;rfl
 |c::f,b,e=>by
  unfold Zrg at e
  split at e
  .grind
  next g x k i=>
   cases i
   by_cases hk:g=d
   .subst hk;simp only[decide_true,cond_true]at e
    split at e
    next l j=>
     cases e
     rw[Zlm j];rfl
    .cases e
   grind
  .cases e
def Zvx(b:IntKind)(i v:Int)(d:0<=i):∀(c:List Int) (j:Nat),putsN b i v j c=(c.mapIdx λk x=>SV.val (.int b (if i=((j+k:Nat):Int)then v else x)))
 | [],j=>by simp[putsN]
 |x::xs,j=>by
  rw[List.mapIdx_cons];unfold putsN;rw[Zvx b i v d xs (j+1)];simp only[apick,Nat.add_zero,List.cons.injEq]
  grind
def Zs5(b:IntKind)(i v:Int)(c:List Int)(f:0<=i)(g:i<c.length):Zbb i.toNat [SV.val (.int b v)] (c.map λx=>SV.val (.int b x))=some (putsN b i v 0 c):=by
 have e:∀(n:Nat) (l:List SV),n<l.length->Zbb n [SV.val (.int b v)] l=some (l.set n (.val (.int b v))):=by
  intro n
  induction n with
  |zero=>intro l d;cases l with
   |nil=>simp at d
   |cons a l=>cases l<;>rfl
  |succ n j=>intro l d;cases l with
   |nil=>simp at d
   |cons a l=>
    grind [Zbb]
 rw[e _ _ Vm,Zvx b i v f];congr 1;apply List.ext_getElem?
 grind
def Zln{ns:List Int}{n:Int}(b:0<=n)(c:n<ns.length):ns[n.toNat]?=some (aget ns n):=by
 grind [aget]
theorem Zs6(F:FitsAt X h ρ st a w)(o:Oper)(K:St->Prop)(hx:stillC P o st K):
  ∃v,(∀w',SameB (fblk P a o) w w'->(execOp a.eval o).run P w'= .ok (.value v) w')/\Goes X K (a.put o.dst v) w:=by
 have hsv:=F.val;unfold stillC at hx
 split at hx
 next t x i A=>
  split at hx
  .rename_i e U rows bd M n E D his;have g:=hsv x;rw[D]at g;have J:=hsv i;rw[his]at J
   split at hx
   next z Q=>
    cases C:(Nat.beq z U&&Nat.blt 0 z)with
    |false=>simp[C]at hx
    |true=>
     simp only[C,cond_true]at hx;simp only[Bool.and_eq_true]at C;have af:z=U:=Nat.eq_of_beq_eq_true C.1;subst af;obtain⟨⟨R,L⟩,ao⟩:=hx;obtain⟨cs,_,a9,G⟩:=Zeu _ _ _ ao;obtain⟨ak,a3⟩:=Zll R L a9;simp only[rlen]at L;have N:=g.slice_pure;generalize H:a.eval x=v at N
     cases N with
     |empty=>simp at ak
     |slice b off cap _ _ _ vs ba bx hh hr _ _ _ ae=>
      refine⟨.pointer (some ⟨b,off+n.toNat*z,none⟩),λw' _=>?_,Goes.put F o.dst ?_ G⟩
      .have ac:0<=n/\n<(rows.length:Int):=⟨R,by simpa using L⟩
       simp[execOp,A,H,J.val_inv,Instr.indexAt,asIntOf,run_underlying E,run_sizeOf' w' Q,ac,Zbn]
      .have:=PRep.ref (h:=h) b (off+n.toNat*z) 0 cs (λj=>vs n.toNat j) (λj c e=>hh _ cs j c a3 e) (λj c e=>hr _ cs j c a3 e);exact .pure _ _ this
   .exact hx.elim
  .rename_i e id M n E D his;have g:=hsv x;rw[D]at g;have J:=hsv i;rw[his]at J
   split at hx
   next z U rows Q ho=>
    cases C:(Nat.beq z U&&Nat.blt 0 z)with
    |false=>simp[C]at hx
    |true=>
     simp only[C,cond_true]at hx;simp only[Bool.and_eq_true]at C;have af:z=U:=Nat.eq_of_beq_eq_true C.1;subst af;obtain⟨⟨R,L⟩,G⟩:=hx;simp only[rlen]at L
     rcases F.obj id _ ho with⟨hn,rfl⟩|⟨hn,ok⟩
     .simp at L;omega
     .rcases g.osl_inv with⟨ad,_⟩|⟨_,H⟩
      .rw[hn]at ad;cases ad
      .have hr:=Rep.eptr (h:=h) (ρ:=ρ) id e n 0 hn;refine⟨_,λw' _=>?_,Goes.put F o.dst hr G⟩
       have ac:0<=n/\n<((ρ id).len:Int):=⟨R,by rw[ok.hlen];simpa using L⟩
       simp[execOp,A,H,J.val_inv,Instr.indexAt,asIntOf,run_underlying E,run_sizeOf' w' Q,ac,Zbn,ok.hsz]
   .exact hx.elim
  .rename_i m e id off M n E D his;have g:=hsv x;rw[D]at g;have J:=hsv i;rw[his]at J
   split at hx
   next a4 m' ns Q ho=>
    cases C:(Nat.beq m m'&&Nat.beq off 0)with
    |false=>simp only[C,cond_false]at hx
    |true=>simp only[C,cond_true]at hx;simp only[Bool.and_eq_true]at C;have a2:off=0:=Nat.eq_of_beq_eq_true C.2;subst a2;obtain⟨⟨R,L⟩,G⟩:=hx;obtain⟨j,rfl⟩:=Wd R;have hj:j<m:=(by simpa using L);refine⟨.pointer (some ⟨(ρ id).blk,j,none⟩),λw' _=>?_,Goes.put F o.dst (.aptr id (j:Int)) G⟩;simp[execOp,A,g.ptr_inv,J.val_inv,Instr.indexAt,asIntOf,run_underlying E,run_sizeOf' w' Q,Instr.sureAddr,hj,Zbn]
   next z Q _=>
    cases C:(jmode st&&Nat.beq z 1&&Nat.beq off 0)with
    |true=>simp only[C,cond_true]at hx;simp only[Bool.and_eq_true]at C;have a2:off=0:=Nat.eq_of_beq_eq_true C.2;have aq:z=1:=Nat.eq_of_beq_eq_true C.1.2;subst a2 aq;obtain⟨⟨R,L⟩,G⟩:=hx;obtain⟨j,rfl⟩:=Wd R;have hj:j<m:=(by simpa using L);refine⟨.pointer (some ⟨(ρ id).blk,j,none⟩),λw' _=>?_,Goes.put F o.dst (.aptr id (j:Int)) G⟩;simp[execOp,A,g.ptr_inv,J.val_inv,Instr.indexAt,asIntOf,run_underlying E,run_sizeOf' w' Q,Instr.sureAddr,hj,Zbn]
    |false=>simp only[C,cond_false]at hx;obtain⟨j,hj,aa,G⟩:=Zh2 hx (Zh3 F his);subst aa;refine⟨.pointer (some ⟨(ρ id).blk,off+j*z,none⟩),λw' _=>?_,Goes.put F o.dst (.ptr id _) G⟩;simp[execOp,A,g.ptr_inv,J.val_inv,Instr.indexAt,asIntOf,run_underlying E,run_sizeOf' w' Q,Instr.sureAddr,hj,Zbn]
   .exact hx.elim
  .rename_i m e id e' i' off M n E D his;have g:=hsv x;rw[D]at g;have J:=hsv i;rw[his]at J
   split at hx
   next z Q=>obtain⟨j,hj,aa,G⟩:=Zh2 hx (Zh3 F his);subst aa;obtain⟨hn,H⟩:=g.eptr_inv;refine⟨_,λw' _=>?_,Goes.put F o.dst (Rep.eptr (h:=h) (ρ:=ρ) id e' i' (off+j*z) hn) G⟩;simp[execOp,A,H,J.val_inv,Instr.indexAt,asIntOf,run_underlying E,run_sizeOf' w' Q,Instr.sureAddr,hj,Zbn,YH]
   .exact hx.elim
  .rename_i m e off cs M n E D his;have g:=hsv x;rw[D]at g;have J:=hsv i;rw[his]at J
   split at hx
   .rename_i z Q;obtain⟨j,hj,aa,G⟩:=Zh2 hx (Zh3 F his);subst aa;generalize H:a.eval x=v at g
    cases g with
    |pure _ _ N=>
     cases N with
     |ref b aw _ _ vs hh hr=>refine⟨.pointer (some ⟨b,aw+(off+j*z),none⟩),λw' _=>?_,Goes.put F o.dst (.pure _ _ (.ref b aw _ cs vs hh hr)) G⟩;simp[execOp,A,H,J.val_inv,Instr.indexAt,asIntOf,run_underlying E,run_sizeOf' w' Q,Instr.sureAddr,hj,Zbn,YH]
   .exact hx.elim
  .exact hx.elim
 next t x A=>
  split at hx
  .rename_i id e i off D;have g:=hsv x;rw[D]at g
   split at hx
   next U rows z ho Q=>
    cases C:Nat.beq z U with
    |false=>simp[C]at hx
    |true=>
     simp only[C,cond_true]at hx;have af:z=U:=Nat.eq_of_beq_eq_true C;subst af;obtain⟨⟨R,L⟩,ao⟩:=hx;obtain⟨cs,_,a9,G⟩:=Zeu _ _ _ ao;obtain⟨ak,a3⟩:=Zll R L a9
     split at G
     .rename_i s hs;obtain⟨hn,H⟩:=g.eptr_inv
      rcases F.obj id _ ho with⟨ad,_⟩|⟨_,ok⟩
      .rw[hn]at ad;cases ad
      .obtain⟨vs,g1,g2,g3⟩:=own_row (ρ:=ρ) ok a3;obtain⟨u,E,r⟩:=Zdd (P:=P) g1 g2 g3 hs;refine⟨u,λw' hw=>?_,Goes.put F o.dst r G⟩;have E:=E w' (hw _ (by simp[fblk,Zbr,A,H]));simp[execOp,A,H,Instr.loadAt,Instr.sureAddr,ok.hsz,E]
     .exact G.elim
   .exact hx.elim
  .rename_i id off D;have g:=hsv x;rw[D]at g
   split at hx
   next M m ns a4 m' ho ai=>
    cases C:(Nat.beq m m'&&Nat.beq off 0&&decide (M=a4))with
    |false=>simp only[C,cond_false]at hx
    |true=>simp only[C,cond_true]at hx;simp only[Bool.and_eq_true,decide_eq_true_eq]at C;obtain⟨⟨b1,b2⟩,rfl⟩:=C;have bn:m=m':=Nat.eq_of_beq_eq_true b1;have a2:off=0:=Nat.eq_of_beq_eq_true b2;subst bn a2;obtain⟨Y,Z⟩:=Zh5 F ho;obtain⟨vs,al,hl⟩:=Zvw (P:=P) (w:=w) ai Y Z;refine⟨.agg vs,λw' hw=>?_,Goes.put F o.dst (.pure _ _ (.arr _ M m ns Y al)) hx⟩;have hl:=hl w' (hw _ (by simp[fblk,Zbr,A,g.ptr_inv]));simp[execOp,A,g.ptr_inv,Instr.loadAt,Instr.sureAddr,hl]
   .exact hx.elim
  .rename_i id n D;have g:=hsv x;rw[D]at g
   split at hx
   .rename_i M m ns a4 ho E Q;by_cases G:M=a4
    .subst G;simp only[decide_true,cond_true]at hx;obtain⟨⟨R,L⟩,G⟩:=hx;obtain⟨Y,Z⟩:=Zh5 F ho;have L:n<ns.length:=by rw[Y];simpa using L
     have ag:Za2 P t=false:=(by simp[Za2,E]);have N:partN P t n.toNat (ns.map λx=>SV.val (.int M x))=some (.val (.int M (aget ns n))):=by have J:=Zln R L;have h3:n.toNat+1<=ns.length:=Vo;have h4:Nat.ble (n.toNat+1) ns.length=true:=Nat.ble_eq_true_of_le h3;simp[partN,E,Q,ag,Zax,Zca,J,h4]
     obtain⟨u,T,r⟩:=Zdd (P:=P) (h:=h) (ρ:=ρ) (cs:=ns.map λx=>SV.val (.int M x)) Z Vs (λj v c H O=>by
      simp at H O;obtain⟨x1,e1,rfl⟩:=H;obtain⟨x2,e2,rfl⟩:=O;rw[e1]at e2;cases e2
      exact .pure _ _ (.val _)) N
     refine⟨u,λw' hw=>?_,Goes.put F o.dst r G⟩;have T:=T w' (hw _ (by simp[fblk,Zbr,A,g.aptr_inv]));rw[Yj]at T;simp[execOp,A,g.aptr_inv,Instr.loadAt,Instr.sureAddr,T]
    .simp[G]at hx
   next cs M ho E Q=>
    split at hx
    .rename_i ns be;obtain⟨⟨R,L⟩,G⟩:=hx;have a9:=Zlm be;subst a9;have L:n<ns.length:=by rw[Zax]at L;simpa using L
     have ag:Za2 P t=false:=(by simp[Za2,E]);have N:partN P t n.toNat (ns.map λx=>SV.val (.int M x))=some (.val (.int M (aget ns n))):=(by have J:=Zln R L;have h3:n.toNat+1<=ns.length:=Vo;have h4:Nat.ble (n.toNat+1) ns.length=true:=Nat.ble_eq_true_of_le h3;simp[partN,E,Q,ag,Zax,Zca,J,h4]);obtain⟨bs,⟨bi,ty,b7,b8,bj⟩,_⟩:=F.obj id _ ho
     have bo:Ziu w (ρ id).blk 0 bi.toList:=λj v hj=>by
      simp[World.cell?,b7]
      simpa using hj
     obtain⟨u,T,r⟩:=Zdd (P:=P) (h:=h) (ρ:=ρ) (cs:=ns.map λx=>SV.val (.int M x)) bo (by simpa using b8) (λj v c H O=>(bj j v c (by simpa using H) O).1) N;refine⟨u,λw' hw=>?_,Goes.put F o.dst r G⟩;have T:=T w' (hw _ (by simp[fblk,Zbr,A,g.aptr_inv]));rw[Yj]at T;simp[execOp,A,g.aptr_inv,Instr.loadAt,Instr.sureAddr,T]
    .exact hx.elim
   .exact hx.elim
  .exact hx.elim
 next t x i A=>
  split at hx
  .rename_i s M n E D his;have g:=hsv x;rw[D]at g;have J:=hsv i;rw[his]at J;obtain⟨⟨R,L⟩,G⟩:=hx;simp only[slen]at L;have ak:n.toNat<s.size:=by simp at L;omega
   refine⟨.int .u8 (sbyte s n),λw' _=>?_,Goes.put F o.dst (.pure _ _ (.val _)) G⟩;simp[execOp,A,g.val_inv,J.val_inv,Instr.index,asIntOf,run_underlying E,R,ak,sbyte];rfl
  .rename_i m0 e0 M m' ns a4 n E D his;have g:=hsv x;rw[D]at g;have J:=hsv i;rw[his]at J
   split at hx
   next bf m ai=>
    cases C:(Nat.beq m m'&&decide (M=bf))with
    |false=>simp only[C,cond_false]at hx
    |true=>
     simp only[C,cond_true]at hx;simp only[Bool.and_eq_true,decide_eq_true_eq]at C;obtain⟨b1,rfl⟩:=C;have ap:m=m':=Nat.eq_of_beq_eq_true b1;subst ap;obtain⟨e,q1,q2,q3,q4⟩:=Zvv ai;obtain⟨⟨R,L⟩,G⟩:=hx;obtain⟨vs,H,Y,al⟩:=g.arr_inv;obtain⟨j,rfl⟩:=Wd R;have hj:j<m:=(by simpa using L);have bb:=Zln (ns:=ns) (n:=(j:Int)) R (by rw[Y];exact L);have bp:vs.size=ns.length:=by have:=congrArg List.length al;simpa using this
     have ag:Za2 P e=false:=(by simp[Za2,q2]);have N:partN P e (j*1) (ns.map λx=>SV.val (.int M x))=some (.val (.int M (aget ns (j:Int)))):=by have h4:Nat.ble (j+1) ns.length=true:=Nat.ble_eq_true_of_le Vo;have h5:ns[j]?=some (aget ns (j:Int)):=(by simpa using bb);simp[partN,q2,q3,ag,Zax,Zca,h4,h5]
     obtain⟨u,T,r⟩:=Zcp (P:=P) (h:=h) (ρ:=ρ) (vs:=vs) (cs:=ns.map λx=>SV.val (.int M x)) (by simpa using bp) (λj v c H O=>by
      rw[<-Yr,al]at H;simp at H O;obtain⟨x1,e1,rfl⟩:=H;obtain⟨x2,e2,rfl⟩:=O;rw[e1]at e2;cases e2
      exact .pure _ _ (.val _)) N
     refine⟨u,λw' _=>?_,Goes.put F o.dst r G⟩;have T:=T w';rw[Nat.mul_one]at T;simp[execOp,A,H,J.val_inv,Instr.index,asIntOf,run_underlying q1,run_sizeOf' w' q3,hj,T]
   .exact hx.elim
  .rename_i m e cs M n E D his;have g:=hsv x;rw[D]at g;have J:=hsv i;rw[his]at J
   split at hx
   .rename_i z Q;obtain⟨j,hj,aa,G⟩:=Zh2 hx (Zh3 F his);subst aa
    split at G
    next s hs=>obtain⟨vs,H,hl,O⟩:=g.agg_inv';obtain⟨u,T,r⟩:=Zcp (P:=P) hl O hs;refine⟨u,λw' _=>?_,Goes.put F o.dst r G⟩;simp[execOp,A,H,J.val_inv,Instr.index,asIntOf,run_underlying E,run_sizeOf' w' Q,hj,T w']
    .exact G.elim
   .exact hx.elim
  .exact hx.elim
 next op t x y t' A=>
  split at hx
  .rename_i M m a4 n D a7;have g:=hsv x;rw[D]at g;have J:=hsv y;rw[a7]at J
   split at hx
   .by_cases G:M=a4
    .subst G;simp at hx;exact⟨.int M (wquo M m n),λw' _=>by simp[execOp,A,g.val_inv,J.val_inv,Zdn,binOp,Op.intDiv,hx.1,wquo],Goes.put F o.dst (.pure _ _ (.val _)) hx.2⟩
    .simp[G]at hx
   .by_cases G:M=a4
    .subst G;simp at hx;exact⟨.int M (wrem m n),λw' _=>by simp[execOp,A,g.val_inv,J.val_inv,Zdn,binOp,Op.intDiv,hx.1,wrem],Goes.put F o.dst (.pure _ _ (.val _)) hx.2⟩
    .simp[G]at hx
   .have hn:¬n<0:=Vo;exact⟨.int M (wshl M m n),λw' _=>by simp[execOp,A,g.val_inv,J.val_inv,Zdn,binOp,Op.shift,hn,wshl],Goes.put F o.dst (.pure _ _ (.val _)) hx.2⟩
   .have hn:¬n<0:=Vo;exact⟨.int M (wshr M m n),λw' _=>by simp[execOp,A,g.val_inv,J.val_inv,Zdn,binOp,Op.shift,hn,wshr],Goes.put F o.dst (.pure _ _ (.val _)) hx.2⟩
   .exact hx.elim
  .rename_i m n D a7;have g:=hsv x;rw[D]at g;have J:=hsv y;rw[a7]at J
   split at hx
   .refine⟨.string (scat m n),λw' _=>?_,Goes.put F o.dst (.pure _ _ (.val _)) hx.2⟩
    have ae:(m.size:Int)+(n.size:Int)<=9223372036854775807:=by
     have:=hx.1
     simpa only[slen,lsum,Yc]using this
    simp[execOp,A,g.val_inv,J.val_inv,Zlf,binOp,Op.stringOp,scat];exact ae
   .exact hx.elim
  next k m k' n D a7=>have g:=hsv x;rw[D]at g;have J:=hsv y;rw[a7]at J;obtain⟨v,hr,G⟩:=Zh4 hx;refine⟨v,λw' _=>?_,Goes.put F o.dst (.pure _ _ (.val _)) G⟩;have:=hr w';simp[execOp,A,g.val_inv,J.val_inv,Zsk,this]
  next k m m2 k' n n2 D a7=>have g:=hsv x;rw[D]at g;have J:=hsv y;rw[a7]at J;obtain⟨v,hr,G⟩:=Zh4 hx;refine⟨v,λw' _=>?_,Goes.put F o.dst (.pure _ _ (.val _)) G⟩;have:=hr w';simp[execOp,A,g.val_inv,J.val_inv,Zsl,this]
  .cases hnil:isNilC y with
   |false=>
    simp only[hnil,cond_false]at hx
    cases hnI:isNilI y with
    |false=>simp[hnI]at hx
    |true=>
     simp only[hnI,cond_true]at hx
     have hy:y= .const .nilIface:=by
      unfold isNilI at hnI
      split at hnI
      .rfl
      .cases hnI
     subst hy;have ah:a.eval (.const .nilIface)= .nilIface:=rfl
     have ab:∀(u:Value) (b:Bool) (ms),P.underlying t=some (.interface ms)->(u= .nilIface/\b=true\/∃tx vx,u= .iface tx vx/\b=false)->∀w':World,(Op.equal t u .nilIface).run P w'= .ok b w':=by
      intro u b ms E C w'
      have he:∀d,(Op.equalIn (d+1) t u .nilIface).run P w'= .ok b w':=by
       intro d
       rcases C with⟨rfl,rfl⟩|⟨tx,vx,rfl,rfl⟩<;>simp[Op.equalIn,run_underlying E]
      exact he 9999
     split at hx
     .rename_i ms E;have O:=(hsv x).ifc_inv hx.1;refine⟨.bool (Zhp (st.val x)),λw' _=>?_,Goes.put F o.dst (.pure _ _ (.val _)) hx.2⟩;have:=ab _ _ ms E O w'
      rcases O with⟨e1,e2⟩|⟨tx,vx,e1,e2⟩<;>rw[e1]at this<;>simp[execOp,A,e1,ah,eqGuard,binOp,this]
     .rename_i ms E;have O:=(hsv x).ifc_inv hx.1;refine⟨.bool !(Zhp (st.val x)),λw' _=>?_,Goes.put F o.dst (.pure _ _ (.val _)) hx.2⟩;have:=ab _ _ ms E O w'
      rcases O with⟨e1,e2⟩|⟨tx,vx,e1,e2⟩<;>rw[e1]at this<;>simp[execOp,A,e1,ah,eqGuard,binOp,this]
     .exact hx.elim
   |true=>
    simp only[hnil,cond_true]at hx
    have hy:y= .const (.slice none 0 0):=by
     unfold isNilC at hnil
     split at hnil
     .rfl
     .cases hnil
    subst hy
    have an:∀{U:Nat} {rows:LL},Zjq st.objs (st.val x)=some (U,rows)->∃p cap,a.eval x= .slice p rows.length cap/\(p.isNone=true->rlen rows=0):=by
     intro U rows a8;obtain⟨p,cap,H,N⟩:=Zd2 F (hsv x) a8;refine⟨p,cap,H,λbc=>?_⟩;by_cases h0:0<rows.length
     .obtain⟨b,off,rfl,_⟩:=N h0;simp at bc
     .simp[rlen];simpa using h0
    have ab:∀(p:Option Addr) (n c:Nat) (e:TypeId),P.underlying t=some (.slice e)->∀w':World,(Op.equal t (.slice p n c) (.slice none 0 0)).run P w'= .ok p.isNone w':=by
     intro p n c e E w'
     have he:∀d,(Op.equalIn (d+1) t (.slice p n c) (.slice none 0 0)).run P w'= .ok p.isNone w':=by
      intro d
      cases p<;>simp[Op.equalIn,run_underlying E]
     exact he 9999
    have ah:a.eval (.const (.slice none 0 0))= .slice none 0 0:=rfl
    split at hx
    next e z rows E a8=>obtain⟨p,cap,H,N⟩:=an a8;refine⟨.bool p.isNone,λw' _=>?_,Goes.put F o.dst (.pure _ _ (.val _)) (hx p.isNone N)⟩;have:=ab p rows.length cap e E w';simp[execOp,A,H,ah,eqGuard,binOp,this]
    next e z rows E a8=>obtain⟨p,cap,H,N⟩:=an a8;refine⟨.bool !p.isNone,λw' _=>?_,Goes.put F o.dst (.pure _ _ (.val _)) (hx (!p.isNone) (λe=>N (by simpa using e)))⟩;have:=ab p rows.length cap e E w';simp[execOp,A,H,ah,eqGuard,binOp,this]
    .exact hx.elim
 .rename_i t x lo hi mx A;obtain⟨h',ae,F'⟩:=F.pureOps [x];have a0:=F'.val
  split at hx
  .rename_i s E D;have g:=a0 x;rw[D]at g
   split at hx
   next l hh hl a1=>obtain⟨⟨a5,a6,W⟩,G⟩:=hx;simp only[slen]at W a1;refine⟨.string (ssub s l hh),λw' _=>?_,Goes.put F' o.dst (.pure _ _ (.val _)) G⟩;have C:=Zix (P:=P) (w':=w') (hsv:=a0) (gv:=λ_=>(pureOps [x] st).val) false s.size s.size (lo:=lo) (hi:=hi) (l:=l) (h':=hh) hl a1 a5 a6 (by simpa using W) (by simpa using W);simp[execOp,A,g.val_inv,Instr.sliceAt,Instr.slice,run_underlying E,C,ssub]
   .exact hx.elim
  .rename_i e U rows bd E D;have g:=a0 x;rw[D]at g;have N:=g.slice_pure;obtain⟨p,cap,H⟩:=g.slice_inv;rw[H]at N
   have bu:rows.length<=cap:=by
    generalize hvv:Value.slice p rows.length cap=v at N
    cases N with
    |empty=>simp
    |slice _ _ _ _ _ _ _ _ _ _ _ _ _ _ ae=>cases hvv;exact ae
   split at hx
   next z l hh Q hl a1=>
    cases C:(Nat.beq z U||Nat.beq U 0)with
    |false=>simp[C]at hx
    |true=>
     simp only[C,cond_true]at hx;simp only[Bool.or_eq_true]at C;have ar:z=U\/U=0:=C.elim (λe=>.inl (Nat.eq_of_beq_eq_true e)) (λe=>.inr (Nat.eq_of_beq_eq_true e));obtain⟨⟨a5,a6,W⟩,G⟩:=hx;simp only[rlen]at W a1;have au:hh.toNat<=rows.length:=by simp at W;omega
     refine⟨_,λw' _=>?_,Goes.put F' o.dst (.pure _ _ (PRep.sub (z:=z) N (l:=l.toNat) (hh:=hh.toNat) (m:=cap) Vo au Vo (Nat.le_refl _) ar 0 Vo Vo)) (by simpa[rsub]using G)⟩;have C:=Zix (P:=P) (w':=w') (hsv:=a0) (gv:=λ_=>(pureOps [x] st).val) true rows.length cap (lo:=lo) (hi:=hi) (l:=l) (h':=hh) hl a1 a5 a6 (by simpa using W) (by simp at W|-;omega);simp[execOp,A,H,Instr.sliceAt,Instr.slice,run_underlying E,C,run_sizeOf' w' Q]
   next z l hh m Q hl a1=>
    split at hx
    next bg M mm bh=>
     cases C:(Nat.beq z U||Nat.beq U 0)with
     |false=>simp[C]at hx
     |true=>
      simp only[C,cond_true]at hx;simp only[Bool.or_eq_true]at C;have ar:z=U\/U=0:=C.elim (λe=>.inl (Nat.eq_of_beq_eq_true e)) (λe=>.inr (Nat.eq_of_beq_eq_true e));obtain⟨⟨a5,a6,ap,W⟩,G⟩:=hx;subst ap;simp only[rlen]at W a1;have au:hh.toNat<=rows.length:=by simp at W;omega
      refine⟨_,λw' _=>?_,Goes.put F' o.dst (.pure _ _ (PRep.sub (z:=z) N (l:=l.toNat) (hh:=hh.toNat) (m:=hh.toNat) Vo au Vo Vo ar 1 Vo (λ_=>rfl))) (by simpa[rsub]using G)⟩;have hm:=a0 m;rw[bh]at hm;have C:=Zs4 (P:=P) (w':=w') (hsv:=a0) (gv:=λ_=>(pureOps [x] st).val) rows.length cap (lo:=lo) (hi:=bg) (m:=m) (l:=l) (h':=hh) hl a1 hm.val_inv a5 a6 (by simp at W|-;omega);simp[execOp,A,H,Instr.sliceAt,Instr.slice,run_underlying E,C,run_sizeOf' w' Q]
    .exact hx.elim
   .exact hx.elim
  .rename_i m e id off E D;have g:=a0 x;rw[D]at g
   split at hx
   next M m' ns ho=>
    split at hx
    next l hh Q hl a1=>
     cases C:(Nat.beq m m'&&Nat.beq off 0)with
     |false=>simp only[C,cond_false]at hx
     |true=>
      simp only[C,cond_true]at hx;simp only[Bool.and_eq_true]at C;have a2:off=0:=Nat.eq_of_beq_eq_true C.2;subst a2;obtain⟨⟨a5,a6,am,bk⟩,G⟩:=hx;refine⟨.slice (some ⟨(ρ id).blk,l.toNat,none⟩) (hh-l).toNat (m-l.toNat),λw' _=>?_,Goes.put F' o.dst (.asl id l hh _) G⟩;have C:=Zix (P:=P) (w':=w') (hsv:=a0) (gv:=λ_=>(pureOps [x] st).val) false m m (lo:=lo) (hi:=hi) (l:=l) (h':=hh) hl a1 a5 a6 (by simpa using am) (by simpa using am);simp[execOp,A,g.ptr_inv,Instr.sliceAt,run_underlying E,Instr.sureAddr,C,run_sizeOf' w' Q,Zbn];have az:¬m=l.toNat:=by simp at bk;omega
      simp[az];omega
    .exact hx.elim
   split at hx
   .rename_i Q;refine⟨.slice (some ⟨(ρ id).blk,off,none⟩) m m,λw' _=>?_,Goes.put F o.dst (.bsl id off m) hx⟩;have bv:(⟨(ρ id).blk,off,none⟩:Addr).add (0*1)=⟨(ρ id).blk,off,none⟩:=by rw[Zbn];rfl
    simp[execOp,A,g.ptr_inv,Instr.sliceAt,run_underlying E,Instr.sureAddr,Instr.sliceBounds,run_sizeOf' w' Q,Zbn]
   .exact hx.elim
  .exact hx.elim
 next f first V A=>
  cases hfst:Nat.beq first.size 0 with
  |false=>simp[hfst]at hx
  |true=>
   simp only[hfst,cond_true]at hx;have bq:first= #[]:=Yx (Nat.eq_of_beq_eq_true hfst)
   subst bq
   split at hx
   .exact hx.elim
   next bw b6=>
    split at hx
    next cs a9=>obtain⟨g,bt,F1⟩:=F.frzBoxes _ b6;obtain⟨J,b9,F2⟩:=F1.pureOps V.toList;obtain⟨hl,hg⟩:=Zds _ _ a9;refine⟨.func (.func f) #[] (V.map a.eval),λw' _=>by simp[execOp,A,Instr.makeFunc],Goes.put F2 o.dst (.pure _ _ (.clo f _ cs (by simpa using hl.symm) λi v c H O=>?_)) hx⟩;obtain⟨c0,g1,g2⟩:=hg i c O;simp at g1 H;obtain⟨x,bl,rfl⟩:=g1;obtain⟨x',b4,rfl⟩:=H;rw[bl]at b4;cases b4;exact Zbp (F2.val x) g2
    .exact hx.elim
 next name x V A=>
  split at hx
  .rename_i t s D;have g:=hsv x;rw[D]at g
   have av:∃v,a.eval x= .iface t v:=by
    generalize a.eval x=u at g
    cases g with
    |pure _ _ N=>cases N with
     |ifc _ v _ H=>exact⟨v,rfl⟩
   obtain⟨v,H⟩:=av;exact⟨.func (.method name) #[.iface t v] (V.map a.eval),λw' _=>by simp[execOp,A,Instr.makeFunc,H],Goes.put F o.dst (.pure _ _ (.fnv t name v _)) hx⟩
  .exact hx.elim
 next ax ay x A=>
  split at hx
  .rename_i e id l hh hs hd D;have g:=hsv x;rw[D]at g
   split at hx
   .rename_i M m ns he ho;obtain⟨⟨a5,a6,am⟩,C,G⟩:=hx;obtain⟨Y,Z⟩:=Zh5 F ho;obtain⟨cap,H⟩:=g.asl_inv;have br:(arows M (asub ns l hh)).length=(hh-l).toNat:=by simp[arows,asub,Y];simp at am;omega
    refine⟨.string (bstr (arows M (asub ns l hh))),λw' hw=>?_,Goes.put F o.dst (.pure _ _ (.val _)) G⟩
    have:=Zq1 (P:=P) (w:=w) (h:=h) (p:=some ⟨(ρ id).blk,l.toNat,none⟩) (len:=(hh-l).toNat) (cap:=cap) br.symm C (λh0=>by
     refine⟨_,_,rfl,λi r c q1 q2=>?_⟩;simp only[arows,asub,Yv,Yh]at q1;rw[Ye]at q1
     split at q1
     .cases hx:ns[l.toNat+i]? with
      |none=>simp[hx]at q1
      |some y=>simp[hx]at q1;subst q1;simp at q2;subst q2;have:=Z (l.toNat+i) (.int M y) (by simp[hx]);exact⟨.int M y,by simpa using this,.val _⟩
     .simp at q1) w' (λb off h0 e=>hw b (by
      obtain⟨k,G⟩:∃k,(hh-l).toNat=k+1:=⟨(hh-l).toNat-1,Vo⟩
      rw[G,e]at H
      simp[fblk,Zbr,A,H,hs]))
    simp[execOp,A,H,run_convert_bytes_string w' ax ay e _ _ cap hs he hd,this]
   .exact hx.elim
  next e hs hd az=>
   split at hx
   .rename_i U rows he a8;obtain⟨C,G⟩:=hx;obtain⟨p,cap,H,N⟩:=Zd2 F (hsv x) a8;refine⟨.string (bstr rows),λw' hw=>?_,Goes.put F o.dst (.pure _ _ (.val _)) G⟩
    have:=Zq1 (P:=P) (w:=w) (h:=h) (p:=p) (len:=rows.length) (cap:=cap) rfl C (λh0=>by
     obtain⟨b,off,rfl,ba,a3,O⟩:=N h0;have g:U=1:=(by obtain⟨n,e1,_⟩:=C (rows[0]) (List.getElem_mem h0);have:=a3 0 _ (List.getElem?_eq_getElem h0);rw[e1]at this;simpa using this.symm);subst g;refine⟨b,off,rfl,λi r c q1 q2=>?_⟩;obtain⟨v,t1,t2,_⟩:=O i r 0 c q1 q2
     exact⟨v,by simpa using t1,t2⟩) w' (λb off h0 e=>hw b (by
      obtain⟨k,G⟩:∃k,rows.length=k+1:=⟨rows.length-1,Vo⟩
      rw[G,e]at H
      simp[fblk,Zbr,A,H,hs]))
    simp[execOp,A,H,run_convert_bytes_string w' ax ay e p _ cap hs he hd,this]
   .exact hx.elim
  next k0 k1 k n hs hd D=>have g:=hsv x;rw[D]at g;obtain⟨v,hr,G⟩:=Zh4 hx;refine⟨v,λw' _=>?_,Goes.put F o.dst (.pure _ _ (.val _)) G⟩;have:=hr w';simp[execOp,A,g.val_inv,this]
  next k0 k1 k n hs hd D=>have g:=hsv x;rw[D]at g;obtain⟨v,hr,G⟩:=Zh4 hx;refine⟨v,λw' _=>?_,Goes.put F o.dst (.pure _ _ (.val _)) G⟩;have:=hr w';simp[execOp,A,g.val_inv,this]
  .exact hx.elim
 next t x A=>
  split at hx
  .exact hx.elim
  .exact hx.elim
  next b0 hn E=>
   split at hx
   .rename_i s hs;obtain⟨J,b9,F2⟩:=F.pureOps [x];refine⟨.iface t (a.eval x),λw' _=>?_,Goes.put F2 o.dst (.pure _ _ (.ifc t _ s (Ze9 (F2.val x) hs))) hx⟩
    have:(Instr.makeInterface t (a.eval x)).run P w'= .ok (.iface t (a.eval x)) w':=by
     simp only[Instr.makeInterface,Sem.run_bind,run_underlying E,Result.andThen_ok]
     cases b0<;>first|rfl|exact absurd rfl (hn _)
    simp[execOp,A,this]
   .exact hx.elim
 next x xt t' ok A=>
  split at hx
  .exact hx.elim
  .exact hx.elim
  next b0 hn E=>
   split at hx
   .rename_i t s D;have g:=hsv x;rw[D]at g
    have av:∃v,a.eval x= .iface t v/\PRep h v s:=by
     generalize a.eval x=u at g
     cases g with
     |pure _ _ N=>cases N with
      |ifc _ v _ H=>exact⟨v,rfl,H⟩
    obtain⟨v,H,N⟩:=av
    have aj:∀w',(Instr.typeAssert (.iface t v) xt t' ok).run P w'=(if t=t' then(pure (if ok then .tuple #[v,.bool true]else v):Sem Value)else(if ok then(do pure (.tuple #[<-zeroValue t',.bool false]))else runtimePanic (.typeAssertion (some xt) (some t) t' ""))).run P w':=λw'=>by simp only[Instr.typeAssert,Sem.run_bind,run_underlying E,Result.andThen_ok]
    cases C:Nat.beq t t' with
    |true=>
     simp only[C,cond_true]at hx;have e:t=t':=Nat.eq_of_beq_eq_true C
     cases ok with
     |true=>
      simp only[cond_true]at hx;refine⟨.tuple #[v,.bool true],λw' _=>by have:=aj w';rw[if_pos e]at this;simp[execOp,A,H,this],Goes.put F o.dst (.tup _ _ rfl λi u c E O=>?_) hx⟩
      match i with
      |0=>simp at E O;subst E;subst O;exact .pure _ _ N
      |1=>simp at E O;subst E;subst O;exact .pure _ _ (.val _)
      |n+2=>simp at E
     |false=>simp only[cond_false]at hx;exact⟨v,λw' _=>by have:=aj w';rw[if_pos e]at this;simp[execOp,A,H,this],Goes.put F o.dst (.pure _ _ N) hx⟩
    |false=>
     simp only[C,cond_false]at hx;have e:¬t=t':=λq=>by subst q;simp at C
     cases ok with
     |true=>
      simp only[cond_true]at hx
      split at hx
      .rename_i z Q;obtain⟨zv,aq,bm,_⟩:=Zcd (h:=h) (ρ:=ρ) Q;refine⟨.tuple #[zv,.bool false],λw' _=>by have:=aj w';rw[if_neg e]at this;simp[execOp,A,H,this,aq],Goes.put F o.dst (.tup _ _ rfl λi u c E O=>?_) hx⟩
       match i with
       |0=>simp at E O;subst E;subst O;exact bm
       |1=>simp at E O;subst E;subst O;exact .pure _ _ (.val _)
       |n+2=>simp at E
      .exact hx.elim
     |false=>exact hx.elim
   .exact hx.elim
 .exact hx.elim
end
end Go.Px
namespace Go.Px
open Go.RowKit
def Zmt(off:Nat):∀(l:List Value) (k:Nat) (b:Array Value) (j:Nat),((l.zipIdx k).foldl (λcs (c:Value×Nat)=>cs.setIfInBounds (off+c.2) c.1) b)[j]?=
  if off+k<=j/\j<off+k+l.length/\j<b.size then l[j-(off+k)]? else b[j]?:=by
 intro l
 induction l with
 |nil=>intro k b j;simp;omega
 |cons x d e=>
  intro k b j;simp only[List.zipIdx_cons,List.foldl_cons];rw[e];simp only[WM,List.length_cons];by_cases hj:j=off+k
  .subst hj;have:¬(off+(k+1)<=off+k/\off+k<off+(k+1)+d.length/\off+k<b.size):=Vo;rw[if_neg this];by_cases hs:off+k<b.size
   .rw[if_pos Vo];simp[hs]
   .rw[if_neg Vo];simp[hs]
  .rw[Yi Vo];by_cases hc:off+(k+1)<=j/\j<off+(k+1)+d.length/\j<b.size
   .rw[if_pos hc,if_pos Vo];have:j-(off+k)=(j-(off+(k+1)))+1:=Vo;rw[this];simp
   .rw[if_neg hc,if_neg Vo]
def fold_size(off:Nat):∀(l:List (Value×Nat)) (b:Array Value),(l.foldl (λcs (c:Value×Nat)=>cs.setIfInBounds (off+c.2) c.1) b).size=b.size:=by
 intro l;induction l with
 |nil=>intro b;rfl
 |cons x e d=>intro b;simp[d]
def row_inj{i i' j j' b:Nat}(d:j<b)(c:j'<b)(e:i*b+j=i'*b+j'):i=i'/\j=j':=by
 have f:(i*b+j)/b=i:=(by rw[WN,Nat.mul_add_div Vo,Nat.div_eq_of_lt d];rfl);have g:(i'*b+j')/b=i':=(by rw[WN,Nat.mul_add_div Vo,Nat.div_eq_of_lt c];rfl);have:i=i':=(by rw[<-f,<-g,e]);subst this;exact⟨rfl,Vo⟩
def Zp1(len b:Nat)(m:0<b):∀(parts:List (Nat×Value)) (cells:Array Value),(∀p∈parts,p.1<len/\p.2.cells.size=b)->(parts.map (·.1)).Nodup->cells.size=len*b->
  ∃d,Instr.fill (λi=>some (i*b,b)) cells parts=some d/\d.size=len*b/\∀i j,i<len->j<b->d[i*b+j]?=match parts.find? (λp=>Nat.beq p.1 i)with
   |some p=>p.2.cells[j]?
   |none=>cells[i*b+j]?
 | [],cells,_,_,hs=>⟨cells,rfl,hs,λi j _ _=>rfl⟩
 |(k,v)::parts,cells,hp,hn,hs=>by
  simp only[List.map_cons,Yo]at hn;obtain⟨r,l⟩:=hp (k,v) Vs;simp only at r l;have t:k*b+b<=len*b:=by have:(k+1)*b<=len*b:=Yf b Vo;rw[Ym]at this;omega
  obtain⟨d,e1,e2,s⟩:=Zp1 len b m parts (v.cells.zipIdx.foldl (λcs (c:Value×Nat)=>cs.setIfInBounds (k*b+c.2) c.1) cells) (λp e=>hp p (by simp[e])) hn.2 (by
   rw[<-YO,fold_size];exact hs)
  refine⟨d,?_,e2,λi j o n=>?_⟩
  .unfold Instr.fill;have g:¬((v.cells.size≠b||k*b+v.cells.size>cells.size)=true):=Vm
   simp only[];rw[if_neg g];exact e1
  .rw[s i j o n,YP];by_cases hki:k=i
   .subst hki;have hnone:parts.find? (λp=>Nat.beq p.1 k)=none:=(by rw[List.find?_eq_none];intro p e q;exact hn.1 (by rw[<-Nat.eq_of_beq_eq_true q];exact Yb (f:=(·.1)) e));simp only[Y8,hnone];rw[<-YO,Ww,Zmt];simp only[Nat.add_zero,Array.length_toList,l];rw[if_pos Vo];have:k*b+j-k*b=j:=Vo;rw[this];simp
   .simp only[Zaj hki]
    cases hf:parts.find? (λp=>Nat.beq p.1 i)with
    |some p=>rfl
    |none=>simp only[];rw[<-YO,Ww,Zmt];simp only[Nat.add_zero,Array.length_toList,l];rw[if_neg];rintro⟨u,x,_⟩;have:=row_inj (i:=i) (i':=k) (j:=j) (j':=i*b+j-k*b) n Vo Vo;exact hki this.1.symm
section
variable{X:Cx}{h:Hp}{ρ:Nat->Loc}{st:St}{a:Act}{w:World}{P:Program}
def Zp2{cs:Array Value}{e:TypeId}{fz:Nat×Nat}{b cap sz:Nat}{rows:LL}(hpos:0<sz)(hcap:rows.length<=cap)(hcm:cap<=9223372036854775807)(hrow:∀(i:Nat) r,rows[i]?=some r->r.length=sz)
  (hb:w.heap[b]?=some (.cells cs e fz)) (hs:cap*sz<=cs.size) (hf:∀o,o<cap*sz->¬(fz.1<=o/\o<fz.2)) (hh:∀o,h b o=none) (hz0:fz=(0,0)\/(sz=1/\cs.size<=fz.1))
  (hv:∀(i:Nat) r (j:Nat) c,rows[i]?=some r->r[j]?=some c->∃v,cs[i*sz+j]?=some v/\PRep h v c/\v.oneCell'=true):OwnOK h w ⟨b,0,rows.length,cap,sz,false⟩ sz rows where
 pos:=hpos
 hsz:=rfl
 hlen:=rfl
 hcap:=hcap
 hrow:=hrow
 hblk:=⟨cs,e,fz,hb,by simpa using hs,λo _ ho=>hf o (by simpa using ho),λi r j c h1 h2=>by simpa using hv i r j c h1 h2⟩
 hh:=hh
 hfz:=λcs' t' fz' e=>by rw[hb]at e;cases e;exact hz0
 hcm:=hcm
def Zc5(b:Zf7 P T=some C):∃v,(∀w,(zeroValue T).run P w= .ok v w)/\v.cells.size=C.length/\(∀i,P.info? T=some i->i.zero=some v)/\
  ∀(j:Nat) u c,v.cells[j]?=some u->C[j]?=some c->PRep h u c/\u.oneCell'=true:=by
 unfold Zf7 at b
 split at b
 .rename_i s n;obtain⟨v,f,r,o⟩:=Zcd (h:=h) (ρ:=λ_=>noLoc) n;obtain⟨y,p⟩:=Zem r o;obtain⟨l,g⟩:=Zds _ _ b;refine⟨v,f,Vo,λi d=>?_,λj u c k m=>?_⟩
  .have:=f default
   cases hzz:i.zero with
   |none=>simp[zeroValue,run_typeInfo' default d,hzz,unsupported]at this
   |some A=>simp[zeroValue,run_typeInfo' default d,hzz]at this;rw[this]
  .obtain⟨q,e1,e2⟩:=g j c m;obtain⟨t,x⟩:=p j u q k e1;exact⟨Zbp t e2,x⟩
 .cases b
def mod_row{i j b:Nat}(c:j<b):(i*b+j)%b=j:=by
 rw[WN,Nat.mul_add_mod,Nat.mod_eq_of_lt c]
def Zga{z:Array Value}{n b i j:Nat}(f:z.size=b)(g:i<n)(d:j<b):((Array.range (n*b)).map (z[·%z.size]!))[i*b+j]?=z[j]?:=by
 have e:=Zlu g d;have c:j<z.size:=Vo;simp only[Array.getElem?_map,Array.getElem?_range,e,if_true,W4,f,mod_row d];rw[getElem!_pos z j c,Y1 c]
def Zcc(b:Zb2 P T=true):∃i z,P.info? T=some i/\i.bytes<=8192/\0<i.size/\i.zero=some z/\z.cells.size=i.size/\szT P T=some i.size:=by
 unfold Zb2 at b
 cases hi:P.info? T with
 |none=>simp[hi]at b
 |some i=>
  simp only[hi,Bool.and_eq_true]at b;obtain⟨⟨d,f⟩,c⟩:=b
  cases hz:i.zero with
  |none=>simp[hz]at c
  |some z=>simp only[hz]at c;exact⟨i,z,rfl,Nat.le_of_ble_eq_true d,Nat.le_of_ble_eq_true f,hz,Nat.eq_of_beq_eq_true c,by simp[szT,hi]⟩
def Zea(zero:List SV)(parts:List (Nat×SV)):∀(n i:Nat) (rows:LL),Zdw zero parts n i=some rows->rows.length=n/\∀(k:Nat) r,rows[k]?=some r->r.length=zero.length/\
  match parts.find? (λp=>Nat.beq p.1 (i+k))with
  |some p=>∃s,Zc2 p.2=some s/\r=cellsOf s
  |none=>r=zero
 |0,i,rows,e=>by simp[Zdw]at e;subst e;simp
 |n+1,i,rows,e=>by
  simp only[Zdw]at e
  split at e
  next r j b m=>
   cases hb:Nat.beq (lenN r) (lenN zero)with
   |false=>simp[hb]at e
   |true=>
    simp[hb]at e;subst e;obtain⟨l,g⟩:=Zea zero parts n (i+1) j m;have q:r.length=zero.length:=by rw[<-Zax,<-Zax];exact Nat.eq_of_beq_eq_true hb
    refine⟨by simp[l],λk f c=>?_⟩
    cases k with
    |zero=>
     simp at c;subst c;refine⟨q,?_⟩;rw[Nat.add_zero]
     split at b
     .rename_i p d;rw[d]
      split at b
      next s o=>cases b;exact⟨s,o,rfl⟩
      .cases b
     next d=>rw[d];cases b;rfl
    |succ k=>have:=g k f (by simpa using c);rwa[show i+(k+1)=i+1+k by omega]
  .cases e
def Ze3(r:Rep h ρ v u)(n:Zc2 u=some U):v.cells.size=(cellsOf U).length/\∀(i:Nat) s c,v.cells[i]?=some s->(cellsOf U)[i]?=some c->PRep h s c/\s.oneCell'=true:=by
 have D:=Ze9 r n
 have x:boxL (cellsOf U)=true:=by
  have m:∀c E,Zao c=some E->Zbc E=true:=by
   intro c E e
   cases c<;>simp[Zao]at e
   next v=>cases v<;>simp at e<;>subst e<;>rfl
   all_goals (subst e;rfl)
  have Y:∀l j,pureL l=some j->boxL j=true:=by
   intro l
   induction l with
   |nil=>intro j e;simp[pureL]at e;subst e;rfl
   |cons c l Z=>
    intro j e;simp only[pureL]at e
    split at e
    next V N o F=>
     cases e
     simp[boxL,m c V o,Z N F]
    .cases e
  unfold Zc2 at n
  split at n
  .simp at n;obtain⟨j,O,rfl⟩:=n;exact Y _ _ O
  .rename_i a0;have o:=m _ _ n
   have:cellsOf U=[U]:=by cases U<;>first|rfl|(simp[Zbc]at o)
   rw[this];simp[boxL,o]
 obtain⟨o,F⟩:=Zem (ρ:=λ_=>noLoc) (.pure _ _ D) x;refine⟨o,λi s c g d=>?_⟩;obtain⟨r1,W⟩:=F i s c g d;refine⟨?_,W⟩
 cases D with
 |agg q l T y=>exact y i s c g d
 |val v=>
  cases i with
  |zero=>
   have Q:=Zj2 x 0 (.val v) (by simp[cellsOf]);simp[cellsOf]at d;subst d
   have R:v.cells= #[v]:=by cases v<;>first|rfl|(simp[Zbc]at Q)
   rw[R]at g;simp at g;subst g;exact .val _
  |succ i=>simp[cellsOf]at d
 |empty p z G A H C hn=>
  cases i with
  |zero=>simp[cellsOf,Value.cells]at g d;subst g;subst d;exact .empty p z G A H C hn
  |succ i=>simp[cellsOf]at d
 |slice b off z G rows A q J hz K L ho H C k=>
  cases i with
  |zero=>simp[cellsOf,Value.cells]at g d;subst g;subst d;exact .slice b off z G rows A q J hz K L ho H C k
  |succ i=>simp[cellsOf]at d
 |ref b M off cells q K L=>
  cases i with
  |zero=>simp[cellsOf,Value.cells]at g d;subst g;subst d;exact .ref b M off cells q K L
  |succ i=>simp[cellsOf]at d
 |clo f q l T y=>
  cases i with
  |zero=>simp[cellsOf,Value.cells]at g d;subst g;subst d;exact .clo f q l T y
  |succ i=>simp[cellsOf]at d
 |ifc t v u hv=>
  cases i with
  |zero=>simp[cellsOf,Value.cells]at g d;subst g;subst d;exact .ifc t v u hv
  |succ i=>simp[cellsOf]at d
 |arr=>simp[cellsOf,boxL,Zbc]at x
 |fnv=>simp[cellsOf,boxL,Zbc]at x
 |unk v=>simp[cellsOf,boxL,Zbc]at x
def Zmj(Q:HSub h w){t e:TypeId}{len:Nat}{parts:List (Nat×SV)}{vparts:Array (Nat×Value)}{rows:LL}(hu:P.underlying t=some (.slice e))(hz:Zf7 P e=some C)(hb:Zb2 P e=true)
  (aa:len*C.length<=16777216) (Z:C.length=(szT P e).getD 0) (J:∀p∈parts,p.1<len) (a0:(parts.map (·.1)).Nodup) (E:Zdw C parts len 0=some rows)
  (hl:vparts.size=parts.length) (hp:∀(i:Nat) p q,parts[i]?=some p->vparts[i]?=some q->q.1=p.1/\Rep h ρ q.2 p.2) (R:∀p∈parts,∃s,Zc2 p.2=some s/\(cellsOf s).length=C.length):
  ∃cs,(Instr.buildSlice t len vparts).run P w= .ok (.slice (some ⟨w.heap.size,0,none⟩) len len) (w.alloc (.cells cs e))/\rows.length=len/\OwnOK h (w.alloc (.cells cs e)) ⟨w.heap.size,0,rows.length,len,C.length,false⟩ C.length rows:=by
 obtain⟨i,z,hi,ab,x,a1,a2,D⟩:=Zcc hb;have d:C.length=i.size:=by rw[Z,D];rfl
 obtain⟨v,hv,ac,a3,a4⟩:=Zc5 (h:=h) hz;have Y:z=v:=by have:=a3 i hi;rw[a1]at this;cases this;rfl
 subst Y;obtain⟨K,L⟩:=Zea C parts len 0 rows E;have y:∀(k:Nat) q,vparts[k]?=some q->∃p,parts[k]?=some p/\q.1=p.1/\Rep h ρ q.2 p.2:=λk q n=>by have g:k<parts.length:=(by have:=(Y3.1 n).1;omega);exact⟨parts[k],List.getElem?_eq_getElem g,hp k _ q (List.getElem?_eq_getElem g) n⟩
 have hmap:vparts.toList.map (·.1)=parts.map (·.1):=by
  apply List.ext_getElem?;intro k;simp only[Yv,Yr]
  cases n:vparts[k]? with
  |none=>have:parts[k]?=none:=(by rw[List.getElem?_eq_none_iff];rw[Array.getElem?_eq_none_iff]at n;omega);simp[this]
  |some q=>obtain⟨p,e1,e2,_⟩:=y k q n;simp[e1,e2]
 obtain⟨cs,e1,e2,U⟩:=Zp1 len i.size x vparts.toList ((Array.range (len*i.size)).map (z.cells[·%z.cells.size]!)) (λq n=>by
   obtain⟨k,g,e⟩:=List.mem_iff_getElem.1 n;have a5:k<vparts.size:=(by simpa using g);obtain⟨p,e1,e2,U⟩:=y k q (by rw[Y1 a5];simp at e;rw[e]);have M:=Yn e1;obtain⟨s,A,q2⟩:=R p M
   exact⟨by rw[e2];exact J p M,by rw[(Ze3 U A).1,q2,d]⟩) (by rw[hmap];exact a0) Vs
 refine⟨cs,?_,K,?_⟩
 .unfold Instr.buildSlice;have G:¬(len*i.size>2^24):=by rw[<-d];omega
  simp only[Sem.run_bind,run_underlying hu,Result.andThen_ok,run_sizeOf' w D,G,if_false];by_cases h0:len*i.size=0
  .have a6:len=0:=(WV.1 h0).resolve_right Vo
   have a7:parts=[]:=by
    cases parts with
    |nil=>rfl
    |cons p _=>have:=J p Vs;omega
   have a8:vparts= #[]:=Yx (by rw[hl,a7];rfl);have a9:cs= #[]:=Yx (by rw[e2,h0]);subst a9;subst a8;subst a6;simp[Instr.fill,newRow];congr 2;apply Yx;simp
  .simp only[h0,if_false,Sem.run_bind,hv w,Result.andThen_ok,Sem.run_pure];simp[e1,newRow]
 .refine Zp2 (cs:=cs) (e:=e) (fz:=(0,0)) (by rw[d];exact x) (by rw[K];exact Nat.le_refl _) (by have:=WS len (show 0<C.length by rw[d];exact x);omega) (λk r g=>(L k r g).1) (by show(w.heap.push _)[_]?=_;simp) (by rw[d,e2];exact Nat.le_refl _) (λo _=>Vs) (λo=>Zcv Q o _ (Nat.le_refl _)) (.inl rfl) (λk r j c g F=>?_);have N:k<len:=by have:=(Y0.1 g).1;omega
  obtain⟨ad,b⟩:=L k r g;have O:j<i.size:=by have:=(Y0.1 F).1;omega
  rw[d,U k j N O];rw[Yj]at b
  have H:∀(l:List (Nat×Value)) (f:List (Nat×SV)),l.map (·.1)=f.map (·.1)->(∀(m:Nat) q,l[m]?=some q->∃p,f[m]?=some p/\q.1=p.1/\Rep h ρ q.2 p.2)->
    (∃q p,l.find? (λp=>Nat.beq p.1 k)=some q/\f.find? (λp=>Nat.beq p.1 k)=some p/\Rep h ρ q.2 p.2)\/(l.find? (λp=>Nat.beq p.1 k)=none/\f.find? (λp=>Nat.beq p.1 k)=none):=by
   intro l
   induction l with
   |nil=>intro f u _;simp at u;subst u;exact .inr ⟨rfl,rfl⟩
   |cons q l ih=>
    intro f u hg
    cases f with
    |nil=>simp at u
    |cons p f=>
     simp only[List.map_cons,List.cons.injEq]at u;rw[YP,YP,u.1]
     cases hbk:Nat.beq p.1 k with
     |true=>obtain⟨p',A,q2,q3⟩:=hg 0 q rfl;simp at A;subst A;exact .inl ⟨q,p,rfl,rfl,q3⟩
     |false=>exact ih f u.2 (λm q' T=>by simpa using hg (m+1) q' (by simpa using T))
  rcases H vparts.toList parts hmap (λm q T=>y m q (by simpa using T))with⟨q,p,V,W,g3⟩|⟨V,W⟩
  .rw[V];rw[W]at b;simp only[]at b|-;obtain⟨s,A,rfl⟩:=b;obtain⟨c1,c2⟩:=Ze3 g3 A;have:j<q.2.cells.size:=by rw[c1];exact(Y0.1 F).1
   exact⟨q.2.cells[j],Y1 this,c2 j _ c (Y1 this) F⟩
  .rw[V];rw[W]at b;simp only[]at b|-;subst b;rw[Zga a2 N O];have:j<z.cells.size:=Vo;exact⟨z.cells[j],Y1 this,a4 j _ c (Y1 this) F⟩
end

import Derived.Test.YtaenkbbfockfgaaGreatDoorK04
import Derived.ProofKit
import Derived.JoinedCond
import Derived.Handed
import Derived.RangeFuncLeaves
import Derived.RangeFuncWrites
import Derived.OrdersIn
import Derived.TacticsIn
import Derived.OwnWalkIn
import Derived.RangeFuncCalls
set_option linter.all false
set_option maxRecDepth 100000
variable{i:Int}{n:Nat}{v:Go.Value}{u:Go.Px.SV}{T:Go.TypeId}{C:List Go.Px.SV}
namespace Go.Px
open Go.RowKit
def Zng{p:Nat->Prop}:∀n,p n->∃k,p k/\∀j,j<k->¬p j:=by
 intro n
 induction n using Nat.strongRecOn with
 |_ n e=>
  intro d;by_cases h:∃j,j<n/\p j
  .obtain⟨j,b,c⟩:=h;exact e j b c
  .exact⟨n,d,λj b c=>h ⟨j,b,c⟩⟩
def Ztf{P:Program}{c:Code}{Q:Exit->Act->World->Prop}{a:Act}{w:World}(J:Nat->Act->World->Prop)(d:Nat)(n:J d a w)
  (g:∀k a w,J k a w->c.wp P (Exit.then (λi l=>∃b,b<k/\J b i l) Q) a w):(Code.loop c).wp P Q a w:=by
 classical
 let f:Act->World->Nat:=λa w=>if h:∃k,J k a w then Classical.choose (Zng (p:=λk=>J k a w) _ h.choose_spec)else 0
 have m:∀a w,(∃k,J k a w)->J (f a w) a w/\∀j,j<f a w->¬J j a w:=(by intro a w h;simp only[f,dif_pos h];exact Classical.choose_spec (Zng (p:=λk=>J k a w) _ h.choose_spec));refine wp_loop (λa w=>∃k,J k a w) f ⟨d,n⟩ λa w h=>?_;obtain⟨r,_⟩:=m a w h;refine wp_mono (g _ a w r) λe i l q=>?_
 cases e with
 |normal=>
  obtain⟨b,t,o⟩:=q;refine⟨⟨b,o⟩,?_⟩;obtain⟨_,s⟩:=m i l ⟨b,o⟩
  rcases WO b (f i l)with h4|h4
  .exact absurd o (s b h4)
  .omega
 |_=>exact q
def Zj6{l:List Nat}:hasN l n=true↔n∈l:=by
 unfold hasN;rw[List.any_eq_true];constructor
 .rintro⟨x,hx,e⟩;rw[Nat.eq_of_beq_eq_true e];exact hx
 .intro h;exact⟨n,h,Y8 n⟩
def Nrm(d e:SV):Prop:=e=d\/∃c rows f b,d= .slice c rows f/\e= .slice b rows 0/\(c=b\/c=0)
def Nrms(c b:List SV):Prop:=b.length=c.length/\∀(i:Nat) v v',c[i]?=some v->b[i]?=some v'->Nrm v v'
def Nrms.split{a1 a2 b:List SV}(n:Nrms (a1++a2) b):Nrms a1 (b.take a1.length)/\Nrms a2 (b.drop a1.length):=by
 obtain⟨j,f⟩:=n;simp at j;refine⟨⟨Vm,λi v e d c=>?_⟩,⟨Vm,λi v e d c=>?_⟩⟩
 .have g:=(Y0.1 d).1;refine f i v e (by rw[List.getElem?_append,if_pos g];exact d) ?_;rw[Ye,if_pos g]at c;exact c
 .refine f (a1.length+i) v e (by rw[YI Vo];simpa using d) ?_;rw[Yh]at c;exact c
def Sh.get_nrm{s:Sh}{x:s.ty}(c:s.get u=some x):Nrm u (s.sv x):=by
 cases s with
 |int k=>
  cases u with
  |val u=>cases u with
   |int i n=>
    simp only[Sh.get]at c;by_cases hk:k=i
    .subst hk;simp at c;subst c;exact .inl rfl
    .simp[hk]at c
   |_=>simp[Sh.get]at c
  |_=>simp[Sh.get]at c
 |bool=>
  cases u with
  |val u=>cases u with
   |bool b=>simp[Sh.get]at c;subst c;exact .inl rfl
   |_=>simp[Sh.get]at c
  |_=>simp[Sh.get]at c
 |str=>
  cases u with
  |val u=>cases u with
   |string b=>simp[Sh.get]at c;subst c;exact .inl rfl
   |_=>simp[Sh.get]at c
  |_=>simp[Sh.get]at c
 |sl f=>
  cases u with
  |slice d rows g=>
   simp only[Sh.get]at c
   cases hb:(Nat.beq d f||Nat.beq d 0)with
   |false=>simp[hb]at c
   |true=>simp[hb]at c;subst c;simp only[Bool.or_eq_true]at hb;exact .inr ⟨d,rows,g,f,rfl,rfl,hb.elim (λe=>.inl (Nat.eq_of_beq_eq_true e)) (λe=>.inr (Nat.eq_of_beq_eq_true e))⟩
  |_=>simp[Sh.get]at c
 |own f=>
  cases u with
  |slice d rows g=>
   simp only[Sh.get]at c
   cases hb:(Nat.beq d f||Nat.beq d 0)with
   |false=>simp[hb]at c
   |true=>simp[hb]at c;subst c;simp only[Bool.or_eq_true]at hb;exact .inr ⟨d,rows,g,f,rfl,rfl,hb.elim (λe=>.inl (Nat.eq_of_beq_eq_true e)) (λe=>.inr (Nat.eq_of_beq_eq_true e))⟩
  |_=>simp[Sh.get]at c
 |mp=>
  cases u with
  |mapv q=>simp[Sh.get]at c;subst c;exact .inl rfl
  |_=>simp[Sh.get]at c
 |cpx k=>
  cases u with
  |val u=>cases u with
   |complex i a b=>
    simp only[Sh.get]at c;by_cases hk:k=i
    .subst hk;simp at c;subst c;exact .inl rfl
    .simp[hk]at c
   |_=>simp[Sh.get]at c
  |_=>simp[Sh.get]at c
 |arr o m=>
  cases u with
  |arr j p r=>
   simp only[Sh.get]at c
   cases hb:(decide (o=j)&&Nat.beq m p)with
   |false=>simp[hb]at c
   |true=>simp[hb]at c;subst c;simp only[Bool.and_eq_true,decide_eq_true_eq]at hb;obtain⟨rfl,l⟩:=hb;have:=Nat.eq_of_beq_eq_true l;subst this;exact .inl rfl
  |_=>simp[Sh.get]at c
def ownHA_eq{p:SV×Ob}(h:ownH n u=some p):ownHA n u=some p:=by
 cases u<;>first|exact h|(simp[ownH]at h)
def Zl2{R:Type}:∀(b:List Sh) (f:ITy b R) (d:List SV) (K c:R->Prop),Zbs b f d K->Zbs b f d c->∃x,K x/\c x
 | [],f,[],K,c,h,h'=>⟨f,h,h'⟩
 |s::b,f,v::d,K,c,h,h'=>by
  simp only[Zbs]at h h'
  split at h
  next x hx=>simp only[hx]at h';exact Zl2 b _ d K c h h'
  .exact h.elim
 | [],_,_::_,_,_,h,_=>h.elim
 |_::_,_,[],_,_,h,_=>h.elim
def Zj7:∀(c:List Sh) (I:ITy c Prop) (m:ITy c Nat) (K:List SV->Nat->Prop) (b:List SV),allI c I m K->Zbs c I b (λp=>p)->
  ∃d k,Nrms b d/\K d k/\Zbs c m b (λg=>g=k)
 | [],I,m,K,[],ha,hi=>⟨[],m,⟨rfl,Vs⟩,ha hi,rfl⟩
 | [],I,m,K,_::_,ha,hi=>hi.elim
 |s::c,I,m,K,[],ha,hi=>hi.elim
 |s::c,I,m,K,v::b,ha,hi=>by
  simp only[Zbs]at hi
  split at hi
  .rename_i x hx;obtain⟨d,k,⟨n,o⟩,q,r⟩:=Zj7 c (I x) (m x) _ b (ha x) hi;refine⟨s.sv x::d,k,⟨by simp[n],λi j l e f=>?_⟩,q,?_⟩
   .cases i with
    |zero=>simp at e f;subst e;subst f;exact Sh.get_nrm hx
    |succ i=>exact o i j l (by simpa using e) (by simpa using f)
   .simp only[Zbs,hx];exact r
  .exact hi.elim
section
variable{X:Cx}{h:Hp}{ρ ρ':Nat->Loc}{st:St}{a:Act}{w:World}{objs:List (Nat×Ob)}
def Nrm.rep{d b:SV}(n:Nrm d b){v:Value}(r:Rep h ρ v d):Rep h ρ v b:=by
 rcases n with rfl|⟨sz,rows,tok,sz',rfl,rfl,hz⟩
 .exact r
 .cases r with
  |pure _ _ c=>
   refine .pure _ _ (c.tok0.fix ?_)
   rcases hz with e|e
   .exact .inl e
   .exact .inr e
def Nrm.own{d f:SV}(n:Nrm d f){id:Nat}{hd:SV}{o:Ob}(e:ownH id d=some (hd,o)):∃b,ownH id f=some (hd,b)/\(∀x,b≠ .box x)/\∀(h:Hp) (ρ:Nat->Loc) (w:World),ObOK h ρ w id o->ObOK h ρ w id b:=by
 rcases n with rfl|⟨sz,rows,tok,sz',rfl,rfl,hz⟩
 .refine⟨o,e,?_,λ_ _ _ r=>r⟩;unfold ownH at e
  split at e
  .cases e;simp
  .cases e;simp
  .cases e
 .simp only[ownH]at e
  cases e
  refine⟨.own sz' rows,rfl,Vs,λh ρ w r=>?_⟩
  rcases r with⟨c,g⟩|⟨c,o⟩
  .exact .inl ⟨c,g⟩
  .have:sz=sz':=hz.resolve_right (by have:=o.pos;omega);subst this;exact .inr ⟨c,o⟩
def Zra(id:Nat):∀(t k:List SV) (j:Nat) (g:List Bool) (m:List SV) (q:List (Nat×Ob)),Nrms t k->Zaw id j g t=some (m,q)->
  ∃f l,Zaw id j g k=some (f,l)/\f.length=m.length/\(∀(h:Hp) (ρ:Nat->Loc) (i:Nat) v c s,m[i]?=some c->f[i]?=some s->Rep h ρ v c->Rep h ρ v s)/\
   (∀c u,(c,u)∈l->(∀x,u≠ .box x)/\∃o,(c,o)∈q/\∀(h:Hp) (ρ:Nat->Loc) (w:World),ObOK h ρ w c o->ObOK h ρ w c u)
 | [],[],j,g,m,q,_,e=>by simp[Zaw]at e;obtain⟨rfl,rfl⟩:=e;exact⟨[],[],rfl,rfl,Vs,Vs⟩
 | [],_::_,j,g,m,q,n,e=>by have:=n.1;simp at this
 |_::_,[],j,g,m,q,n,e=>by have:=n.1;simp at this
 |d::t,d'::k,j,g,m,q,n,e=>by
  have F:Nrm d d':=n.2 0 d d' rfl rfl
  have T:Nrms t k:=⟨by have:=n.1;simpa using this,λi v G z H=>n.2 (i+1) v G (by simpa using z) (by simpa using H)⟩
  simp only[Zaw]at e
  split at e
  .cases e
  .rename_i A C z;obtain⟨f,l,e1,e2,D,E⟩:=Zra id t k (j+1) g.tail A C T z
   cases hm:g.headD false with
   |true=>
    simp only[hm,cond_true]at e
    split at e
    next hd o J=>
     cases e
     obtain⟨K,L,M,N⟩:=F.own J;refine⟨hd::f,(Zih id g j,K)::l,by simp only[Zaw,e1,hm,cond_true,L],by simp[e2],λh ρ i v c s p b r=>?_,λc u y=>?_⟩
     .cases i with
      |zero=>simp at p b;subst p;subst b;exact r
      |succ i=>exact D h ρ i v c s (by simpa using p) (by simpa using b) r
     .rcases List.mem_cons.1 y with e'|y
      .cases e';exact⟨M,o,Vs,N⟩
      .obtain⟨O,P,Q,R⟩:=E c u y;exact⟨O,P,by simp[Q],R⟩
    .cases e
   |false=>
    simp only[hm,cond_false]at e
    cases e
    refine⟨d'::f,l,by simp only[Zaw,e1,hm,cond_false],by simp[e2],λh ρ i v c s p b r=>?_,E⟩
    cases i with
    |zero=>simp at p b;subst p;subst b;exact F.rep r
    |succ i=>exact D h ρ i v c s (by simpa using p) (by simpa using b) r
def fixL'_nil(P:Program)(b:List SV):fixL' P [] b=b:=by cases b<;>rfl
def Zc8:∀(b j:Nat) (g:List Bool) (i k:List SV) (f:List (Option Nat×Nat)),Za1 objs b j g i=some (k,f)->k.length=i.length
 |b,j,g,[],k,f,e=>by simp[Za1]at e;simp[e.1]
 |b,j,g,c::i,k,f,e=>by
  simp only[Za1]at e
  split at e
  next d l m n p o=>
   cases e
   simp[Zc8 b (j+1) g.tail i m n o]
  .cases e
def Zfy(y:∀id o,oget objs id=some o->ObOK h ρ w id o)(b:Nat){j k f:List SV}{l:List Bool}{d:List (Option Nat×Nat)}(e:Za1 objs b 0 l j=some (k,d))(G:Pulls d ρ ρ')(n:Nrms k f):
  ∃g z,Zaw b 0 l f=some (g,z)/\g.length=j.length/\(∀(i:Nat) v c m,j[i]?=some c->g[i]?=some m->Rep h ρ v c->Rep h ρ' v m)/\PassOK objs h ρ' w d z:=by
 obtain⟨q,A,e1,e2,J,t,N,_⟩:=Zdt (P:=(default:Program)) y b j 0 l [] k d e G;rw[fixL'_nil]at e1;obtain⟨C,D,K,O,L,E⟩:=Zra b k f 0 l q A n e1;refine⟨C,D,K,Vo,λi v c m H p r=>?_,⟨λc o s=>?_,λc o s=>?_,t.here⟩⟩
 .have F:i<q.length:=(by have:=(Y0.1 p).1;omega);exact L h ρ' i v _ m (List.getElem?_eq_getElem F) p (J i v c _ H (List.getElem?_eq_getElem F) r)
 .obtain⟨_,u,x,M⟩:=E c o s;exact M h ρ' w (t.ob c u x)
 .obtain⟨_,u,x,_⟩:=E c o s;exact t.at_ c u x
def Zwg(F:FitsAt X h ρ st a w):∀(l:List (Nat×Bool×List Sh)) (A C D o g:List SV) (p:List (Option Nat×Nat)) (H:List (Nat×Ob)),Zf8 st l=some (A,p)->Pulls p ρ ρ'->Nrms A (C.take A.length)->
  Zi4 l C D=some (o,H,g)->g=C.drop A.length/\PassOK st.objs h ρ' w p H/\o.length=D.length/\∀(t:Nat) s,o[t]?=some s->D[t]?=some s\/Rep h ρ' (a.tmps.getD t undef) s
 | [],A,C,D,o,g,p,H,e,hp,n,hm=>by simp[Zf8]at e;obtain⟨rfl,rfl⟩:=e;simp[Zi4]at hm;obtain⟨rfl,rfl,rfl⟩:=hm;exact⟨Vs,PassOK.nil,rfl,λt s f=>.inl f⟩
 |(t,ag,ss)::r,A,C,D,o,g,p,H,e,hp,n,hm=>by
  simp only[Zf8]at e
  split at e
  next d l u ls j h2=>
   cases e
   have G:=Nrms.split (a1:=d) (a2:=u) n;obtain⟨M,T⟩:=G;have N:=n.1;simp at N;rw[List.take_take]at M;rw[show min d.length (d++u).length=d.length by simp]at M
   have Y:Nrms u ((C.drop d.length).take u.length):=by
    rw[List.drop_take]at T
    simpa using T
   have Z:∃q,Za1 st.objs (128*t+95) 0 (ownMs ss) q=some (d,l)/\d.length=ss.length/\((ag=true/\lget st.tmps t= .agg q)\/(ag=false/\q=[lget st.tmps t])):=by
    split at j
    next q E=>
     cases m:Nat.beq (lenN q) ss.length with
     |false=>simp[m]at j
     |true=>simp only[m,cond_true]at j;have:=Zc8 _ _ _ _ _ _ j;have m:=Nat.eq_of_beq_eq_true m;rw[Zax]at m;exact⟨q,j,Vo,.inl ⟨rfl,E⟩⟩
    .cases m:Nat.beq ss.length 1 with
     |false=>simp[m]at j
     |true=>simp only[m,cond_true]at j;have:=Zc8 _ _ _ _ _ _ j;have m:=Nat.eq_of_beq_eq_true m;simp at this;exact⟨_,j,Vo,.inr ⟨rfl,rfl⟩⟩
    .cases j
   obtain⟨q,z,U,J⟩:=Z;simp only[Zi4,Ze5,Ze6]at hm;rw[<-U]at hm;obtain⟨K,a5,g1,g2,V,g4⟩:=Zfy F.obj (128*t+95) z hp.left M;simp only[g1]at hm
   split at hm
   next a3 Q a4 R=>
    cases hm
    obtain⟨q1,q2,q3,q4⟩:=Zwg F r u _ _ o g ls Q h2 hp.right Y R;refine⟨by rw[q1,Wb];simp,g4.append q2,by rw[q3];simp[Zec],λk s f=>?_⟩
    rcases q4 k s f with f|f
    .rw[Zec,List.getElem?_set]at f;by_cases hk:t=k
     .subst hk;simp only[if_true]at f
      split at f
      .cases f
       right
       have y:=F.slot [] Vs t
       rcases J with⟨rfl,E⟩|⟨rfl,rfl⟩
       .rw[E]at y;simp only[ungd]at y;obtain⟨va,L,a6,W⟩:=y.agg_inv';rw[L];refine .agg va K Vo λi v c L O=>?_;have hi:i<q.length:=by have:=(Y0.1 O).1;omega
        exact V i v _ c (List.getElem?_eq_getElem hi) O (W i v _ L (List.getElem?_eq_getElem hi))
       .match K,g2 with
        | [c],_=>
         simp only
         have a0:∀P b x,lget st.tmps t≠ .gd P b x:=by
          intro P b x e;rw[e]at z;simp only[Za1]at z
          cases hmm:(ownMs ss).headD false<;>simp[Zf4,Zao]at z
         rw[Zok a0]at y;exact V 0 _ _ c rfl rfl y
      .cases f
     .simp only[hk,if_false]at f;exact .inl f
    .exact .inr f
   .cases hm
  .cases e
def Zwh(u:∀id o,oget objs id=some o->ObOK h ρ w id o):∀(l:List (Nat×List Sh)) (m q f:List SV) (g:List (Option Nat×Nat)) (y:List (Nat×Ob)),Zdx objs l=some (m,g)->Pulls g ρ ρ'->Nrms m (q.take m.length)->
  Zmc l q=some (y,f)->f=q.drop m.length/\PassOK objs h ρ' w g y
 | [],m,q,f,g,y,e,hp,n,hm=>by simp[Zdx]at e;obtain⟨rfl,rfl⟩:=e;simp[Zmc]at hm;obtain⟨rfl,rfl⟩:=hm;exact⟨Vs,PassOK.nil⟩
 |(id,ss)::r,m,q,f,g,y,e,hp,n,hm=>by
  simp only[Zdx]at e
  split at e
  next d l j E s W=>
   cases e
   obtain⟨A,L⟩:=Nrms.split (a1:=d) (a2:=j) n;rw[List.take_take]at A;rw[show min d.length (d++j).length=d.length by simp]at A
   have P:Nrms j ((q.drop d.length).take j.length):=by
    rw[List.drop_take]at L
    simpa using L
   split at s
   next F G=>
    cases x:Nat.beq (lenN F) ss.length with
    |false=>simp[x]at s
    |true=>
     simp only[x,cond_true]at s;have x:=Nat.eq_of_beq_eq_true x;rw[Zax]at x;have Q:d.length=ss.length:=by have:=Zc8 _ _ _ _ _ _ s;omega
     have k:ρ' id=ρ id:=hp (some id,id) Vs;have R:Pulls l ρ ρ':=λp b=>hp p (by simp[b]);have T:Pulls E ρ ρ':=λp b=>hp p (by simp[b]);obtain⟨M,a4,Z,g2,g3,g4⟩:=Zfy u id s R A;simp only[Zmc,Ze5,Ze6]at hm;rw[<-Q,Z]at hm
     split at hm
     next a0 Y H a3 J K=>
      cases J
      cases hm
      obtain⟨q1,q2⟩:=Zwh u r j _ f E H W T P K;obtain⟨N,⟨cv,t,O,a5,z⟩,hno⟩:=u id _ G;refine⟨by rw[q1,Wb];simp,?_⟩
      have C:PassOK objs h ρ' w [(some id,id)] [(id,.box M)]:=by
       refine⟨λc o b=>?_,λc o b=>?_,λi c b=>?_⟩
       .simp at b;obtain⟨rfl,rfl⟩:=b;refine⟨by rw[k];exact N,⟨cv,t,by rw[k];exact O,Vo,λi v c V D=>?_⟩,by rw[k];exact hno⟩;have U:i<F.length:=by have:=(Y0.1 D).1;omega
        obtain⟨r1,r2⟩:=z i v _ V (List.getElem?_eq_getElem U);exact⟨g3 i v _ c (List.getElem?_eq_getElem U) D r1,r2⟩
       .simp at b;exact⟨(some id,id),Vs,b.1.symm⟩
       .simp at b;rw[b.1];exact⟨_,G⟩
      have:=(C.append g4).append q2
      simpa using this
     .cases hm
   .cases s
  .cases e
def owns_ok(t:∀id o,oget objs id=some o->ObOK h ρ w id o):∀(l:List (Nat×Sh)) (A g:List SV) (j:List (Option Nat×Nat)) (C:List (Nat×Ob)),Zfe objs l=some (A,j)->Pulls j ρ ρ'->Nrms A g->
  Znp l g=some C->PassOK objs h ρ' w j C
 | [],A,g,j,C,e,hp,n,hm=>by simp[Zfe]at e;obtain⟨rfl,rfl⟩:=e;simp[Znp]at hm;subst hm;exact PassOK.nil
 |(id,s)::r,A,g,j,C,e,hp,n,hm=>by
  simp only[Zfe]at e
  split at e
  next d G K k H=>
   cases e
   cases g with
   |nil=>simp[Znp]at hm
   |cons v g=>
    simp only[Znp]at hm
    split at hm
    next hd o L E M=>
     cases hm
     have N:Nrm d v:=n.2 0 d v rfl rfl
     have V:Nrms G g:=⟨by have:=n.1;simpa using this,λi x P k H=>n.2 (i+1) x P (by simpa using k) (by simpa using H)⟩
     have y:ρ' id=ρ id:=hp (some id,id) Vs;have O:Pulls K ρ ρ':=λp b=>hp p (by simp[b]);have q:=owns_ok t r G g K L H O V M
     have z:∀(u:Ob),oget objs id=some u->(∃F,ownH id d=some (F,u))->(∀x,u≠ .box x)->PassOK objs h ρ' w [(some id,id)] [(id,o)]:=by
      rintro u f ⟨F,hown⟩ hnb;obtain⟨D,T,g2,U⟩:=N.own hown;rw[ownHA_eq T]at E
      cases E
      refine⟨λc D b=>?_,λc D b=>?_,λi c b=>?_⟩
      .simp at b;obtain⟨rfl,rfl⟩:=b;exact U h ρ' w ((t c u f).move hnb y)
      .simp at b;exact⟨(some id,id),Vs,b.1.symm⟩
      .simp at b;rw[b.1];exact⟨_,f⟩
     have J:PassOK objs h ρ' w [(some id,id)] [(id,o)]:=by
      split at k
      next Y rows f=>cases k;exact z _ f ⟨_,rfl⟩ Vs
      next Z f=>cases k;exact z _ f ⟨_,rfl⟩ Vs
      next Q m R f=>
       cases k
       have W:v= .arr Q m R:=by
        rcases N with e|⟨_,_,_,_,e,_⟩
        .exact e
        .cases e
       subst W;simp[ownHA]at E;obtain⟨rfl,rfl⟩:=E;refine⟨λc D b=>?_,λc D b=>?_,λi c b=>?_⟩
       .simp at b;obtain⟨rfl,rfl⟩:=b;exact(t c _ f).move Vs y
       .simp at b;exact⟨(some id,id),Vs,b.1.symm⟩
       .simp at b;rw[b.1];exact⟨_,f⟩
      .cases k
     exact J.append q
    .cases hm
  .cases e
def Zbd(b:List Nat)(s:SV):keepV b s= .unk\/(keepV b s=s/\(Zas s=true\/(∃id off,s= .ptr id off/\id∈b)\/(∃id,s= .osl id/\id∈b)\/(∃id,s= .omp id/\id∈b))):=by
 unfold keepV
 cases hp:Zas s with
 |true=>exact .inr ⟨rfl,.inl rfl⟩
 |false=>
  simp only[cond_false]
  split
  next id off=>
   cases hh:hasN b id with
   |true=>exact .inr ⟨rfl,.inr (.inl ⟨id,off,rfl,Zj6.1 hh⟩)⟩
   |false=>exact .inl rfl
  next id=>
   cases hh:hasN b id with
   |true=>exact .inr ⟨rfl,.inr (.inr (.inl ⟨id,rfl,Zj6.1 hh⟩))⟩
   |false=>exact .inl rfl
  next id=>
   cases hh:hasN b id with
   |true=>exact .inr ⟨rfl,.inr (.inr (.inr ⟨id,rfl,Zj6.1 hh⟩))⟩
   |false=>exact .inl rfl
  .exact .inl rfl
def keepV_rep{b:List Nat}(r:Rep h ρ v u):Rep h ρ v (keepV b u):=by
 rcases Zbd b u with e|⟨e,_⟩
 .rw[e];exact .pure _ _ (.unk _)
 .rw[e];exact r
def Znh{b:List Nat}(c:∀id∈b,ρ' id=ρ id)(r:Rep h ρ v (keepV b u)):Rep h ρ' v (keepV b u):=by
 rcases Zbd b u with e|⟨e,hc⟩
 .rw[e];exact .pure _ _ (.unk _)
 .rw[e]at r|-
  rcases hc with hp|⟨id,off,rfl,hm⟩|⟨id,rfl,hm⟩|⟨id,rfl,hm⟩
  .exact .pure _ _ (r.toPure hp)
  .rw[r.ptr_inv,<-c id hm];exact .ptr id off
  .rcases r.osl_inv with⟨d,p,rfl⟩|⟨d,rfl⟩
   .exact .osl0 id p (by rw[c id hm];exact d)
   .rw[<-c id hm]at d|-;exact .osl id d
  .rw[r.omp_inv,<-c id hm];exact .omp id
def Zia(b:List Nat):∀(d:List SV),(keepL b d).length=d.length/\∀i:Nat,(keepL b d)[i]?=(d[i]?).map (keepV b)
 | []=>by simp[keepL]
 |c::d=>by
  obtain⟨e,f⟩:=Zia b d;refine⟨by simp[keepL,e],λi=>?_⟩
  cases i with
  |zero=>simp[keepL]
  |succ i=>simpa[keepL]using f i
def Zbx(wr d:List Nat):∀(e:List SV) (b:Nat),(Zan wr d b e).length=e.length/\∀(i:Nat) s,(Zan wr d b e)[i]?=some s->∃c,e[i]?=some c/\((s= .unk)\/(b+i∉wr/\s=keepV d c))
 | [],b=>by simp[Zan]
 |c::e,b=>by
  obtain⟨k,l⟩:=Zbx wr d e (b+1);refine⟨by simp[Zan,k],λi s f=>?_⟩
  cases i with
  |zero=>
   simp[Zan]at f;refine⟨c,Vs,?_⟩
   cases hh:hasN wr b with
   |true=>simp[hh]at f;exact .inl f.symm
   |false=>simp[hh]at f;refine .inr ⟨λj=>?_,f.symm⟩;have:=Zj6.2 j;simp at this;rw[hh]at this;cases this
  |succ i=>obtain⟨m,g,n⟩:=l i s (by simpa[Zan]using f);refine⟨m,by simpa using g,?_⟩;rw[show b+(i+1)=b+1+i by omega];exact n
def Zd3:∀(l c:List SV),Zar l c=true->c.length=l.length/\∀(i:Nat) s s',l[i]?=some s->c[i]?=some s'->keptV s s'=true
 | [],[],_=>Vs
 | [],_::_,h=>by simp[Zar]at h
 |_::_,[],h=>by simp[Zar]at h
 |s::ss,s'::ss',h=>by
  simp only[Zar,Bool.and_eq_true]at h;obtain⟨e,f⟩:=Zd3 ss ss' h.2;refine⟨by simp[e],λi x d hx b=>?_⟩
  cases i with
  |zero=>simp at hx b;subst hx;subst b;exact h.1
  |succ i=>exact f i x d (by simpa using hx) (by simpa using b)
def Zpf{s b:SV}(h:keptV s b=true)(c:(∃id off,s= .ptr id off)\/(∃id,s= .osl id)\/(∃id,s= .omp id)):b=s:=by
 rcases c with⟨id,off,rfl⟩|⟨id,rfl⟩|⟨id,rfl⟩
 .cases b<;>simp[keptV]at h
  rw[h.1,h.2]
 .cases b<;>simp[keptV]at h
  rw[h]
 .cases b<;>simp[keptV]at h
  rw[h]
def Zwi{objs0:List (Nat×Ob)}(b:List Nat)(E:∀id o,oget objs id=some o->ObOK h ρ w id o)(u:∀id∈b,ρ' id=ρ id):∀(l:List Nat),(∀id∈l,id∈b)->(Zal b objs0 l).isSome=true->Zal b objs l=Zal b objs0 l->
  PassOK objs h ρ' w (l.map λid=>(some id,id)) (Zmd b objs0 l)
 | [],_,_,_=>PassOK.nil
 |id::r,hk,hs,he=>by
  simp only[Zal]at hs he;have g:ρ' id=ρ id:=u id (hk id Vs)
  cases ho0:oget objs0 id with
  |none=>simp[ho0]at hs
  |some p=>
   cases hr0:Zal b objs0 r with
   |none=>cases p<;>simp[ho0,hr0]at hs
   |some D=>
    cases hr:Zal b objs r with
    |none=>
     exfalso;rw[hr,hr0,ho0]at he
     cases ho:oget objs id with
     |none=>rw[ho]at he;cases p<;>simp at he
     |some o=>rw[ho]at he;cases o<;>cases p<;>simp at he
    |some G=>
     cases ho:oget objs id with
     |none=>exfalso;rw[hr,hr0,ho0,ho]at he;cases p<;>simp at he
     |some o=>
      rw[hr,hr0,ho0,ho]at he;have C:G=D:=by cases o<;>cases p<;>simp at he<;>exact he.2
      have q:=Zwi b E u r (λi P=>hk i (by simp[P])) (by rw[hr0];rfl) (by rw[hr,hr0,C]);have k:=E id o ho
      have F:ObOK h ρ' w id (Znq b p):=by
       have d:∀f x,keepL b f=[.gd 0 true x]->False:=by
        intro f x e2;have:=(Zia b f).2 0;rw[e2]at this
        cases z:f[0]? with
        |none=>simp[z]at this
        |some c=>
         simp[z]at this
         rcases Zbd b c with e|⟨e,n⟩
         .rw[e]at this;cases this
         .rw[e]at this;subst this
          rcases n with n|⟨_,_,n,_⟩|⟨_,n,_⟩|⟨_,n,_⟩
          .simp[Zas]at n
          all_goals cases n
       cases p with
       |box y=>
        cases o with
        |box f=>
         simp at he;obtain⟨M,⟨T,t,N,Z,A⟩,hno⟩:=k;have W:=(Zia b f).1;rw[he.1]at W;refine⟨by rw[g];exact M,⟨T,t,by rw[g];exact N,Vo,λi v c Q z=>?_⟩,by rw[g];exact hno⟩;have s:=(Zia b f).2 i;rw[he.1,z]at s
         cases hci:f[i]? with
         |none=>simp[hci]at s
         |some Y=>simp[hci]at s;obtain⟨U,V⟩:=A i v Y Q hci;rw[s];exact⟨Znh u (keepV_rep U),V⟩
        |own H rows=>simp at he;exact(d y _ he.1.symm).elim
        |mp J=>simp at he;exact(d y _ he.1.symm).elim
        |arr K m L=>simp at he;exact(d y _ he.1.symm).elim
       |own a0 O=>
        cases o with
        |box f=>simp at he;exact(d f _ he.1).elim
        |own H rows=>simp at he;obtain⟨⟨rfl,rfl⟩,_⟩:=he;exact k.move (by simp[Znq]) g
        |mp J=>simp at he
        |arr K m L=>simp at he
       |mp a1=>
        cases o with
        |box f=>simp at he;exact(d f _ he.1).elim
        |own H rows=>simp at he
        |arr K m L=>simp at he
        |mp J=>simp at he;obtain⟨rfl,_⟩:=he;exact k.move (by simp[Znq]) g
       |arr a2 m0 a3=>
        cases o with
        |box f=>simp at he;exact(d f _ he.1).elim
        |own H rows=>simp at he
        |mp J=>simp at he
        |arr K m L=>simp at he;obtain⟨⟨rfl,rfl,rfl⟩,_⟩:=he;exact k.move (by simp[Znq]) g
      have n:PassOK objs h ρ' w [(some id,id)] [(id,Znq b p)]:=by
       refine⟨λc R j=>?_,λc R j=>?_,λi c j=>?_⟩
       .simp at j;obtain⟨rfl,rfl⟩:=j;exact F
       .simp at j;exact⟨(some id,id),Vs,j.1.symm⟩
       .simp at j;rw[j.1];exact⟨_,ho⟩
      simp only[Zmd,ho0];exact n.append q
def Zl3(F:FitsAt X h ρ st a w){g:LoopSpec}{wr:List Nat}{st0 hd:St}{A r:List SV}{b:List (Option Nat×Nat)}(E:Zd6 g st=some (A,b))(N:headOK g wr b=true)(hn:Nrms A r)
  (hk:∀(t:Nat) s,(Zan wr (Zad g) 0 st0.tmps)[t]?=some s->Rep h ρ (a.tmps.getD t undef) s) (Q:st0.tmps.length=st.tmps.length) (Y:(Zal (Zad g) st0.objs g.fixed).isSome=true)
  (Z:Zal (Zad g) st.objs g.fixed=Zal (Zad g) st0.objs g.fixed) (f:Zgu g wr st0 r=some hd):∃ρ',FitsAt X h ρ' hd a w:=by
 unfold Zd6 at E
 split at E
 next d1 G d2 H d3 J h1 h2 h3=>
  cases E
  simp only[headOK,Bool.and_eq_true,List.all_eq_true]at N;obtain⟨⟨⟨⟨⟨⟨_,_⟩,C⟩,D⟩,a8⟩,_⟩,_⟩:=N;have C:=Zay C;have D:=Zay D
  let b:=G++H++J++g.fixed.map λid=>((some id,id):Option Nat×Nat)
  have e1:b.filterMap (·.1)=(G++H++J).filterMap (·.1)++g.fixed:=by
   have:∀l:List Nat,(l.map λid=>((some id,id):Option Nat×Nat)).filterMap (·.1)=l:=by
    intro l;induction l with
    |nil=>rfl
    |cons x W q=>simp only[List.map_cons,Wy,q]
   simp only[b,List.filterMap_append,this]
  have e2:b.map (·.2)=(G++H++J).map (·.2)++g.fixed:=by
   have:∀l:List Nat,(l.map λid=>((some id,id):Option Nat×Nat)).map (·.2)=l:=by
    intro l;induction l with
    |nil=>rfl
    |cons x W q=>simp only[List.map_cons,q]
   simp only[b,List.map_append,this]
  let ρ':=pull b ρ ρ
  have j:Pulls b ρ ρ':=Zet ρ ρ (by rw[e2];exact D)
  have K:∀(l:List (Nat×List Sh)) n m,Zdx st.objs l=some (n,m)->∀p∈l,(some p.1,p.1)∈m:=by
   intro l
   induction l with
   |nil=>intro n m _ p j;simp at j
   |cons x W q=>
    obtain⟨i,ss⟩:=x;intro n m e p j;simp only[Zdx]at e
    split at e
    next d l a0 a1 y z=>
     cases e
     rcases List.mem_cons.1 j with rfl|j
     .simp
     .simp[q _ _ z p j]
    .cases e
  have L:∀(l:List (Nat×Sh)) n m,Zfe st.objs l=some (n,m)->∀p∈l,(some p.1,p.1)∈m:=by
   intro l
   induction l with
   |nil=>intro n m _ p j;simp at j
   |cons x W q=>
    obtain⟨i,ss⟩:=x;intro n m e p j;simp only[Zfe]at e
    split at e
    next d a0 a1 y z=>
     cases e
     rcases List.mem_cons.1 j with rfl|j
     .simp
     .simp[q _ _ z p j]
    .cases e
  have u:∀id∈Zad g,ρ' id=ρ id:=by
   intro id f;simp only[Zad,List.mem_append,Ya]at f
   rcases f with(⟨p,k,rfl⟩|⟨p,k,rfl⟩)|f
   .exact j (some p.1,p.1) (by simp[b,K _ _ _ h2 p k])
   .exact j (some p.1,p.1) (by simp[b,L _ _ _ h3 p k])
   .exact j (some id,id) (by simp[b,f])
  unfold Zgu at f
  split at f
  next tm a2 O a3=>
   split at f
   next a4 P a5=>
    split at f
    next a6 a7=>
     cases f
     have n0:Nrms (d1++(d2++d3)) r:=(by rw[<-List.append_assoc];exact hn);obtain⟨n1,a9⟩:=n0.split;obtain⟨n2,T⟩:=a9.split;obtain⟨q1,P1,q3,q4⟩:=Zwg (ρ':=ρ') F g.slots d1 r _ tm O G a2 h1 (λp f=>j p (by simp[b,f])) n1 a3;rw[<-q1]at n2 T;obtain⟨q5,P2⟩:=Zwh (ρ':=ρ') F.obj g.boxes d2 O P H a4 h2 (λp f=>j p (by simp[b,f])) n2 a5;rw[<-q5]at T;have P3:=owns_ok (ρ':=ρ') F.obj g.owns d3 P J a6 h3 (λp f=>j p (by simp[b,f])) T a7;have P4:=Zwi (ρ':=ρ') (objs0:=st0.objs) (Zad g) F.obj u g.fixed (λid f=>by simp[Zad,f]) Y Z;have V:=((P1.append P2).append P3).append P4;refine⟨ρ',{F with size:=?_,tm:=λt s hs=>?_,obj:=λid o e=>V.ob id o (Zb6 e),inj:=?_,own:=?_,pin:=?_}⟩
     .rw[F.size,<-Q,<-(Zbx wr (Zad g) st0.tmps 0).1];exact q3.symm
     .rcases q4 t s hs with hs'|M
      .have M:=hk t s hs';obtain⟨c,_,U|⟨_,U⟩⟩:=(Zbx wr (Zad g) st0.tmps 0).2 t s hs'
       .rw[U];exact TRep.rep_unk _ _
       .rw[U]at M|-;exact TRep.of_rep' (Znh u M)
      .exact TRep.of_rep' M
     .exact Zv6 V j (by rw[e1];exact C) F.inj
     .rintro i ⟨⟨o,e⟩,hni⟩;obtain⟨id,c,f,aa,eb⟩:=Zpa V j ⟨i,⟨⟨o,e⟩,hni⟩,rfl⟩;rw[<-eb];exact F.own id aa
     .intro id l R;obtain⟨y,z⟩:=F.pin id l R;refine⟨?_,z⟩;by_cases hx:∃p∈b,p.2=id
      .obtain⟨p,k,rfl⟩:=hx;have v:=j p k;simp only[b]at k
       rcases List.mem_append.1 k with hpm'|hpm'
       .have:=a8 p hpm';simp only[z,Bool.false_or]at this;obtain⟨p1,p2⟩:=p
        cases p1 with
        |none=>simp at this
        |some id=>simp at this;subst this;simp only at v;rw[v];exact y
       .obtain⟨x,_,rfl⟩:=Ya.1 hpm';simp only at v y|-;rw[v];exact y
      .have:ρ' id=ρ id:=Znd ρ ρ (λp k e=>hx ⟨p,k,e⟩);rw[this];exact y
    .cases f
   .cases f
  .cases f
 .cases E
end
end Go.Px
namespace Go.Px
open Go.RowKit
def Ex.to:Ex->Exit
 | .normal=>.normal
 | .exit id=>.exit id
 | .ret=>.ret
def FitsAt.rebase{X:Cx}{h:Hp}{b:Nat->Loc}{c:St}{a:Act}{w:World}(F:FitsAt X h b c a w):FitsAt {X with h:=h} h b c a w:=
 {F with mono:=HLe.refl h,ext:=λ_ _ _ _ e=>e,gl:=⟨F.gl.1.le F.mono,F.gl.2⟩}
def FitsAt.unbase{X:Cx}{d h:Hp}{f g:Nat->Loc}{st0 i:St}{l a:Act}{w0 w:World}(c:FitsAt X d f st0 l w0)(F:FitsAt {X with h:=d} h g i a w):FitsAt X h g i a w:=
 {F with mono:=c.mono.trans F.mono,ext:=λb j k o e=>F.ext b j k o (c.ext b j k o e),gl:=c.gl}
def Zze:∀(b:List (Nat×Nat)) (wr:List Nat) (a:List SV) {t:Nat} {c:SV},t∉unP b wr->(setP b a)[t]?=some c->Zas c=true->t∉wr/\a[t]?=some c:=by
 intro b wr a t c q g r
 have f:∀(b:List (Nat×Nat)) (a:List SV),(setP b a)[t]?=some c->t∉b.map (·.1)/\a[t]?=some c:=by
  intro b
  induction b with
  |nil=>intro a h;exact⟨Vs,h⟩
  |cons p b m=>
   intro a h;obtain⟨j,d⟩:=m (lset a p.1 (.ptr p.2 0)) h
   have k:∀(l:List SV) (n i:Nat) (v:SV),(lset l n v)[i]?=some c->(i=n/\c=v)\/(i≠n/\l[i]?=some c):=by
    intro l
    induction l with
    |nil=>intro n i v h;simp[lset]at h
    |cons x s o=>
     intro n i v h
     cases n with
     |zero=>
      grind [lset]
     |succ n=>
      cases i with
      |zero=>simp[lset]at h;exact .inr ⟨Vo,by simpa using h⟩
      |succ i=>
       simp[lset]at h
       grind
   rcases k a p.1 t _ d with⟨_,e⟩|⟨e1,e2⟩
   .grind [Zas]
   grind
 obtain⟨j,d⟩:=f b a g
 simp_all[List.mem_filter,unP,hasN]
def Zda{X:Cx}{n h:Hp}{j P:Nat->Loc}{f g:St}{A a:Act}{w0 w:World}(Q:FitsAt X n j f A w0){d:LoopSpec}{wr:List Nat}(H:(Zal (Zad d) f.objs d.fixed).isSome=true)
   {v:List (Option Nat×Nat)} (l:FitsAt {X with h:=n} h P g a w) (J:Fr wr A a) (R:Zd6 d g=some (C,v)) (D:headOK d (unP d.ptrs wr) v=true)
  (o:Zar (Zan (unP d.ptrs wr) (Zad d) 0 (setP d.ptrs f.tmps)) g.tmps=true) (L:Zal (Zad d) g.objs d.fixed=Zal (Zad d) f.objs d.fixed) {I:ITy (Za0 d) Prop} {m:ITy (Za0 d) Nat} {K:St->Prop}
  (T:allI (Za0 d) I m λV _=>match Zgu d (unP d.ptrs wr) {f with tmps:=setP d.ptrs f.tmps} V with|none=>False|some hd=>K hd) (U:Zbs (Za0 d) I C (λp=>p)):
  ∃hd,Fits {X with h:=n} hd a w/\K hd:=by
 obtain⟨a1,k,Y,F,hm⟩:=Zj7 _ I m _ _ T U
 split at F
 .exact F.elim
 .rename_i hd M;obtain⟨N,Z⟩:=Zd3 _ _ o;obtain⟨k1,k2⟩:=Zbx (unP d.ptrs wr) (Zad d) (setP d.ptrs f.tmps) 0
  obtain⟨O,F'⟩:=Zl3 (st0:={f with tmps:=setP d.ptrs f.tmps}) l R D Y (λt s E=>by
   obtain⟨c,G,r⟩:=k2 t s E
   rcases r with rfl|⟨i,rfl⟩
   .exact .pure _ _ (.unk _)
   .rw[Yj]at i
    rcases Zbd (Zad d) c with e|⟨e,hcs⟩
    .rw[e];exact .pure _ _ (.unk _)
    .have y:t<g.tmps.length:=(by rw[N];exact(Y0.1 E).1);have z:=Z t _ _ E (List.getElem?_eq_getElem y);rw[e]at z|-
     rcases hcs with hp|hcs
     .obtain⟨i,G⟩:=Zze d.ptrs wr f.tmps i G hp;rw[J t i];have u:=Q.tm t c G;have hr:Rep n j (A.tmps.getD t undef) c:=u.out (λW b x q=>by subst q;simp[Zas]at hp);exact .pure _ _ ((hr.toPure hp).mono l.mono)
     .have he:=Zpf z (by
       rcases hcs with⟨id,off,e,_⟩|⟨id,e,_⟩|⟨id,e,_⟩
       .exact .inl ⟨id,off,e⟩
       .exact .inr (.inl ⟨id,e⟩)
       .exact .inr (.inr ⟨id,e⟩))
      have u:=l.tm t _ (List.getElem?_eq_getElem y);rw[he]at u
      exact u.out (λW b x q=>by rcases hcs with⟨id,off,e,_⟩|⟨id,e,_⟩|⟨id,e,_⟩<;>rw[e]at q<;>cases q)) (by rw[N,k1]) H L M
  exact⟨hd,⟨h,O,F'⟩,F⟩
def Zhg{P:Program}(Sg:FuncId->Sig)(Sv:TypeId->Sig)(L:Nat->Option LoopSpec):∀(c:Code) (X:Cx) (j:St) (a:Act) (w:World) (J:Ex->St->Prop) (Q:Exit->Act->World->Prop),
  (∀e j M w,Fits X j M w->Fr (Zag c) a M->J e j->Q e.to M w)->Fits X j a w->vc P Sg Sv L c j J->c.wp P Q a w:=by
 intro c
 induction c with
 |skip=>intro X j a w J Q A F n;exact wp_skip (A .normal j a w F (Fr.refl _ _) n)
 |region id O an=>
  intro X j a w J Q A F n
  cases an with
  |true=>
   simp only[vc]at n
   cases hok:(P.follows .mixedOrders&&Zfd O)with
   |false=>simp[hok]at n
   |true=>
    simp only[hok,cond_true]at n;simp only[Bool.and_eq_true]at hok
    split at n
    .exact Zrj Sg Sv id O hok.1 hok.2 j a w F _ n Q (λj a w F C E=>A .normal j a w F C E)
    .rename_i d _;obtain⟨h0,aj,U⟩:=F;have Fb:=U.rebase;unfold cutC at n
     cases hs0:(Zal (Zad d) j.objs d.fixed).isSome with
     |false=>simp only[hs0,cond_false]at n
     |true=>
      simp only[hs0,cond_true]at n;obtain⟨I,m,h1,h2⟩:=n;refine Zrj Sg Sv id O hok.1 hok.2 j a w ⟨_,_,Fb⟩ _ h1 Q (λg G w1 T C E=>?_)
      split at E
      .exact E.elim
      next v z Y=>
       cases D:(headOK d (unP d.ptrs (O.toList.filterMap (·.dst))) z&&Zar (Zan (unP d.ptrs (O.toList.filterMap (·.dst))) (Zad d) 0 (setP d.ptrs j.tmps)) (St.frzAll (Zak g d) g).tmps)with
       |false=>simp only[D,cond_false]at E
       |true=>simp only[D,cond_true]at E;simp only[Bool.and_eq_true]at D;obtain⟨hx,V,R⟩:=T;obtain⟨hy,_,Fy⟩:=R.frzAll (Zak g d);obtain⟨hd,⟨hz,a3,Fz⟩,a4⟩:=Zda U hs0 Fy C Y D.1 D.2 E.1 h2 E.2;exact A .normal hd G w1 ⟨hz,a3,U.unbase Fz⟩ C a4
  |false=>
   simp only[vc]at n
   split at n
   .exact wp_region_list (Zdg Sg Sv O Q _ (Zag (.region id O false)) a (λj a w F C E=>A .normal j a w F C E) O.toList j a w (λo ho t K=>YE.2 ⟨o,ho,K⟩) (Fr.refl _ _) F n)
   .rename_i d _;obtain⟨h0,aj,U⟩:=F;have Fb:=U.rebase;unfold cutC at n
    cases hs0:(Zal (Zad d) j.objs d.fixed).isSome with
    |false=>simp only[hs0,cond_false]at n
    |true=>
     simp only[hs0,cond_true]at n;obtain⟨I,m,h1,h2⟩:=n;refine wp_region_list (Zdg Sg Sv O Q _ (Zag (.region id O false)) a (λg G w1 T C E=>?_) O.toList j a w (λo ho t K=>YE.2 ⟨o,ho,K⟩) (Fr.refl _ _) ⟨_,_,Fb⟩ h1)
     split at E
     .exact E.elim
     next v z Y=>
      cases D:(headOK d (unP d.ptrs (O.toList.filterMap (·.dst))) z&&Zar (Zan (unP d.ptrs (O.toList.filterMap (·.dst))) (Zad d) 0 (setP d.ptrs j.tmps)) (St.frzAll (Zak g d) g).tmps)with
      |false=>simp only[D,cond_false]at E
      |true=>simp only[D,cond_true]at E;simp only[Bool.and_eq_true]at D;obtain⟨hx,V,R⟩:=T;obtain⟨hy,_,Fy⟩:=R.frzAll (Zak g d);obtain⟨hd,⟨hz,a3,Fz⟩,a4⟩:=Zda U hs0 Fy C Y D.1 D.2 E.1 h2 E.2;exact A .normal hd G w1 ⟨hz,a3,U.unbase Fz⟩ C a4
 |seq x y a9 aa=>
  intro X j a w J Q A F n;refine wp_seq (a9 X j a w _ _ ?_ F n);intro e H M w' N C u;have ae:Fr (Zag (.seq x y)) a M:=C.mono (λt K=>by simp[Zag,K])
  cases e with
  |normal=>exact aa X H M w' J Q (λe ao a2 w2 F2 ap h2=>A e ao a2 w2 F2 (ae.trans (ap.mono (λt K=>by simp[Zag,K]))) h2) N u
  |exit id=>exact A (.exit id) H M w' N ae u
  |ret=>exact A .ret H M w' N ae u
 |cond c x y a9 aa=>
  intro X j a w J Q A F n;simp only[vc]at n
  split at n
  .rename_i b D;obtain⟨h,ρ,N⟩:=F;have r:=N.operand [] Vs c;rw[D]at r
   split at n
   .refine wp_cond_split r.val_inv (λe=>a9 X j a w J Q (λe j M w F C=>A e j M w F (C.mono (λt K=>by simp[Zag,K]))) ⟨h,ρ,N⟩ (by subst e;exact n)) (λe=>aa X j a w J Q (λe j M w F C=>A e j M w F (C.mono (λt K=>by simp[Zag,K]))) ⟨h,ρ,N⟩ (by subst e;exact n))
   .rename_i d _;have Fb:=N.rebase;unfold cutC at n
    cases hs0:(Zal (Zad d) j.objs d.fixed).isSome with
    |false=>simp only[hs0,cond_false]at n
    |true=>
     simp only[hs0,cond_true]at n;obtain⟨I,m,h1,h2⟩:=n
     have go:∀(e:Ex) (g:St) (G:Act) (w1:World),Fits {X with h:=h} g G w1->Fr (Zag x++Zag y) a G->
       (match e with
       | .normal=>(match Zd6 d (St.frzAll (Zak g d) g)with
        |none=>False
        |some (v,z)=>bif headOK d (unP d.ptrs (Zag x++Zag y)) z&&Zar (Zan (unP d.ptrs (Zag x++Zag y)) (Zad d) 0 (setP d.ptrs j.tmps)) (St.frzAll (Zak g d) g).tmps then
          Zal (Zad d) (St.frzAll (Zak g d) g).objs d.fixed=Zal (Zad d) j.objs d.fixed/\Zbs (Za0 d) I v (λp=>p)else False)
       | .exit i=>J (.exit i) g
       | .ret=>J .ret g)->Q e.to G w1:=by
      intro e g G w1 T C u;have af:Fr (Zag (.cond c x y)) a G:=C.mono (λt K=>by simpa[Zag]using K);have W:Fits X g G w1:=by obtain⟨hx,V,R⟩:=T;exact⟨hx,V,N.unbase R⟩
      cases e with
      |normal=>
       simp only[]at u
       split at u
       .exact u.elim
       next v z Y=>
        cases D:(headOK d (unP d.ptrs (Zag x++Zag y)) z&&Zar (Zan (unP d.ptrs (Zag x++Zag y)) (Zad d) 0 (setP d.ptrs j.tmps)) (St.frzAll (Zak g d) g).tmps)with
        |false=>simp only[D,cond_false]at u
        |true=>simp only[D,cond_true]at u;simp only[Bool.and_eq_true]at D;obtain⟨hx,V,R⟩:=T;obtain⟨hy,_,Fy⟩:=R.frzAll (Zak g d);obtain⟨hd,⟨hz,a3,Fz⟩,a4⟩:=Zda N hs0 Fy C Y D.1 D.2 u.1 h2 u.2;exact A .normal hd G w1 ⟨hz,a3,N.unbase Fz⟩ af a4
      |exit i=>exact A (.exit i) g G w1 W af u
      |ret=>exact A .ret g G w1 W af u
     refine wp_cond_split r.val_inv (λe=>a9 {X with h:=h} j a w _ Q (λe g G w1 T C u=>go e g G w1 T (C.mono (λt K=>by simp[K])) u) ⟨_,_,Fb⟩ (by subst e;exact h1))
      (λe=>aa {X with h:=h} j a w _ Q (λe g G w1 T C u=>go e g G w1 T (C.mono (λt K=>by simp[K])) u) ⟨_,_,Fb⟩ (by subst e;exact h1))
  .exact n.elim
 |block id q ih=>
  intro X j a w J Q A F n;simp only[vc]at n
  split at n
  .refine wp_block (ih X j a w _ _ ?_ F n);intro e H M w' N C u
   cases e with
   |normal=>exact A .normal H M w' N C u
   |exit i=>
    simp only[Ex.to,Exit.inBlock];by_cases hi:i=id
    .subst hi;simp only[Y8,cond_true]at u;rw[if_pos rfl];exact A .normal H M w' N C u
    .simp only[Zaj hi,cond_false]at u;rw[if_neg hi];exact A (.exit i) H M w' N C u
   |ret=>exact A .ret H M w' N C u
  .rename_i d _;obtain⟨h0,aj,U⟩:=F;have Fb:=U.rebase;unfold cutC at n
   cases hs0:(Zal (Zad d) j.objs d.fixed).isSome with
   |false=>simp only[hs0,cond_false]at n
   |true=>
    simp only[hs0,cond_true]at n;obtain⟨I,m,h1,h2⟩:=n;refine wp_block (ih {X with h:=h0} j a w _ _ ?_ ⟨_,_,Fb⟩ h1);intro e g G w1 T C u;have W:Fits X g G w1:=by obtain⟨hx,V,R⟩:=T;exact⟨hx,V,U.unbase R⟩
    have out:(match Zd6 d (St.frzAll (Zak g d) g)with
      |none=>False
      |some (v,z)=>bif headOK d (unP d.ptrs (Zag q)) z&&Zar (Zan (unP d.ptrs (Zag q)) (Zad d) 0 (setP d.ptrs j.tmps)) (St.frzAll (Zak g d) g).tmps then
        Zal (Zad d) (St.frzAll (Zak g d) g).objs d.fixed=Zal (Zad d) j.objs d.fixed/\Zbs (Za0 d) I v (λp=>p)else False)->Q .normal G w1:=by
     intro E
     split at E
     .exact E.elim
     next v z Y=>
      cases D:(headOK d (unP d.ptrs (Zag q)) z&&Zar (Zan (unP d.ptrs (Zag q)) (Zad d) 0 (setP d.ptrs j.tmps)) (St.frzAll (Zak g d) g).tmps)with
      |false=>simp only[D,cond_false]at E
      |true=>simp only[D,cond_true]at E;simp only[Bool.and_eq_true]at D;obtain⟨hx,V,R⟩:=T;obtain⟨hy,_,Fy⟩:=R.frzAll (Zak g d);obtain⟨hd,⟨hz,a3,Fz⟩,a4⟩:=Zda U hs0 Fy C Y D.1 D.2 E.1 h2 E.2;exact A .normal hd G w1 ⟨hz,a3,U.unbase Fz⟩ C a4
    cases e with
    |normal=>exact out u
    |exit i=>
     simp only[Ex.to,Exit.inBlock];by_cases hi:i=id
     .subst hi;simp only[Y8,cond_true]at u;rw[if_pos rfl];exact out u
     .simp only[Zaj hi,cond_false]at u;rw[if_neg hi];exact A (.exit i) g G w1 W C u
    |ret=>exact A .ret g G w1 W C u
 |exit id=>intro X j a w J Q A F n;exact wp_exit (A (.exit id) j a w F (Fr.refl _ _) n)
 |ret=>intro X j a w J Q A F n;exact wp_ret (A .ret j a w F (Fr.refl _ _) n)
 |loop q ih=>
  intro X a6 a0 w0 J Q A ab n;simp only[vc]at n;generalize(L (loopKey q)).getD (Zxc Sg Sv q a6)=d at n;obtain⟨b0,ad,ab⟩:=ab;obtain⟨h0,_,U⟩:=ab.frzAll (Zak a6 d);generalize St.frzAll (Zak a6 d) a6=j at n U;have Fb:=U.rebase
  split at n
  .exact n.elim
  next Z a5 aq=>
   cases hok:(headOK d (Zag q) a5&&(Zal (Zad d) j.objs d.fixed).isSome)with
   |false=>simp only[hok,cond_false]at n
   |true=>
    simp only[hok,cond_true]at n;simp only[Bool.and_eq_true]at hok;obtain⟨I,m,h1,h2⟩:=n
    have a8:∀(g:St) (a:Act) (w:World) (h:Hp) (ρ:Nat->Loc) (Z:List SV) (a5:List (Option Nat×Nat)),FitsAt {X with h:=h0} h ρ g a w->Fr (Zag q) a0 a->Zd6 d g=some (Z,a5)->headOK d (Zag q) a5=true->
      Zar (Zan (Zag q) (Zad d) 0 j.tmps) g.tmps=true->Zal (Zad d) g.objs d.fixed=Zal (Zad d) j.objs d.fixed->Zbs (Za0 d) I Z (λp=>p)->
      ∃k hd,Zbs (Za0 d) m Z (λk'=>k'=k)/\Fits {X with h:=h0} hd a w/\vc P Sg Sv L q hd λe g=>match e with
       | .normal=>match Zd6 d (St.frzAll (Zak g d) g)with
        |none=>False
        |some (v,z)=>bif headOK d (Zag q) z&&Zar (Zan (Zag q) (Zad d) 0 j.tmps) (St.frzAll (Zak g d) g).tmps then
          Zal (Zad d) (St.frzAll (Zak g d) g).objs d.fixed=Zal (Zad d) j.objs d.fixed/\Zbs (Za0 d) I v (λp=>p)/\Zbs (Za0 d) m v (λk'=>k'<k)else False
       |e=>J e g:=by
     intro g a w h ρ Z a5 T ac hh am ag ar hi;obtain⟨b1,k,hn,E,hm⟩:=Zj7 _ I m _ _ h2 hi
     split at E
     .exact E.elim
     .rename_i hd au;obtain⟨g1,g2⟩:=Zd3 _ _ ag;obtain⟨k1,k2⟩:=Zbx (Zag q) (Zad d) j.tmps 0
      obtain⟨av,N⟩:=Zl3 T hh am hn (λt s hs=>by
       obtain⟨c,hc,ah⟩:=k2 t s hs
       rcases ah with rfl|⟨hnw,rfl⟩
       .exact .pure _ _ (.unk _)
       .rw[Yj]at hnw
        rcases Zbd (Zad d) c with e|⟨e,hcs⟩
        .rw[e];exact .pure _ _ (.unk _)
        .have ak:t<g.tmps.length:=(by rw[g1];exact(Y0.1 hs).1);have al:=g2 t _ _ hs (List.getElem?_eq_getElem ak);rw[e]at al|-
         rcases hcs with hp|hcs
         .rw[ac t hnw];have K:=U.tm t c hc;have hr:Rep h0 ad (a0.tmps.getD t undef) c:=K.out (λt' b x e'=>by subst e';simp[Zas]at hp);exact .pure _ _ ((hr.toPure hp).mono T.mono)
         .have u:=Zpf al (by
           rcases hcs with⟨id,off,e,_⟩|⟨id,e,_⟩|⟨id,e,_⟩
           .exact .inl ⟨id,off,e⟩
           .exact .inr (.inl ⟨id,e⟩)
           .exact .inr (.inr ⟨id,e⟩))
          have K:=T.tm t _ (List.getElem?_eq_getElem ak);rw[u]at K
          exact K.out (λt' b x e'=>by rcases hcs with⟨id,off,e,_⟩|⟨id,e,_⟩|⟨id,e,_⟩<;>rw[e]at e'<;>cases e')) (by rw[g1,k1]) hok.2 ar au
      exact⟨k,hd,hm,⟨h,av,N⟩,E⟩
    have ai:Zar (Zan (Zag q) (Zad d) 0 j.tmps) j.tmps=true:=by
     have:∀(l:List SV) (t:Nat),Zar (Zan (Zag q) (Zad d) t l) l=true:=by
      intro l
      induction l with
      |nil=>intro t;rfl
      |cons c cs az=>
       intro t;simp only[Zan,Zar,az,Bool.and_true]
       cases hh:hasN (Zag q) t with
       |true=>rfl
       |false=>
        simp only[cond_false]
        rcases Zbd (Zad d) c with e|⟨e,_⟩
        .rw[e];cases c<;>rfl
        .rw[e];cases c<;>simp[keptV]
     exact this _ _
    obtain⟨k0,aw,_,ax,ay⟩:=a8 j a0 w0 h0 ad Z a5 Fb (Fr.refl _ _) aq hok.1 ai rfl h1
    refine Ztf (λk a w=>Fr (Zag q) a0 a/\∃hd,Fits {X with h:=h0} hd a w/\vc P Sg Sv L q hd λe g=>match e with
       | .normal=>match Zd6 d (St.frzAll (Zak g d) g)with
        |none=>False
        |some (v,z)=>bif headOK d (Zag q) z&&Zar (Zan (Zag q) (Zad d) 0 j.tmps) (St.frzAll (Zak g d) g).tmps then
          Zal (Zad d) (St.frzAll (Zak g d) g).objs d.fixed=Zal (Zad d) j.objs d.fixed/\Zbs (Za0 d) I v (λp=>p)/\Zbs (Za0 d) m v (λk'=>k'<k)else False
       |e=>J e g) k0 ⟨Fr.refl _ _,aw,ax,ay⟩ ?_
    rintro k a w ⟨ac,hd,N,hb'⟩;refine ih {X with h:=h0} hd a w _ _ ?_ N hb';intro e H M w' R C u;have a7:=ac.trans C;have W:Fits X H M w':=by obtain⟨hx,V,R⟩:=R;exact⟨hx,V,U.unbase R⟩
    cases e with
    |normal=>
     simp only[]at u
     split at u
     .exact u.elim
     next v z Y=>
      cases D:(headOK d (Zag q) z&&Zar (Zan (Zag q) (Zad d) 0 j.tmps) (St.frzAll (Zak H d) H).tmps)with
      |false=>simp[D]at u
      |true=>simp only[D,cond_true]at u;simp only[Bool.and_eq_true]at D;obtain⟨e1,e2,e3⟩:=u;obtain⟨hx,V,R⟩:=R;obtain⟨hy,_,Fy⟩:=R.frzAll (Zak H d);obtain⟨k',hd1,g1,g2,g3⟩:=a8 _ M w' hy V v z Fy a7 Y D.1 D.2 e1 e2;refine⟨k',?_,a7,hd1,g2,g3⟩;obtain⟨x,b2,b4⟩:=Zl2 _ m _ _ _ e3 g1;omega
    |exit id=>exact A (.exit id) H M w' W a7 u
    |ret=>exact A .ret H M w' W a7 u
 |rangeFunc f ps x y _ _=>intro X j a w J Q A F n;exact n.elim
 |scope c _=>intro X j a w J Q A F n;exact n.elim
 |label l=>intro X j a w J Q A F n;exact n.elim
 |goto l=>intro X j a w J Q A F n;exact n.elim
 |refuse s=>intro X j a w J Q A F n;exact n.elim
end Go.Px
namespace Go.Px
open Go.RowKit
section
variable{X:Cx}{h:Hp}{ρ ρ':Nat->Loc}{st:St}{a:Act}{w:World}{P:Program}{objs:List (Nat×Ob)}
def Zkr(b:Array Value):ResultVar->Sem Value
 | .tmp t=>pure (b.getD t undef)
 | .cell a t=>do loadVar t (<-asAddr (b.getD a undef))
def Zrt(F:FitsAt X h ρ st a w)(r:ResultVar){s:SV}(c:resOf P st r=some s):∃v,(Zkr a.tmps r).run P w= .ok v w/\Rep h ρ v s:=by
 cases r with
 |tmp t=>
  simp only[resOf]at c
  split at c
  .cases c
  .cases c
   exact⟨_,by simp[Zkr],F.slot [] Vs t⟩
 |cell t ty=>
  simp only[resOf]at c
  split at c
  next H b=>
   cases c
   unfold arrRes at b
   split at b
   next id i=>
    split at b
    next j m q k l y g=>
     cases hb:(decide (j=k)&&Nat.beq m l)with
     |false=>simp only[hb,cond_false]at b;cases b
     |true=>
      simp only[hb,cond_true]at b
      cases b
      simp only[Bool.and_eq_true,decide_eq_true_eq]at hb;obtain⟨rfl,z⟩:=hb;have E:m=l:=Nat.eq_of_beq_eq_true z;subst E;obtain⟨e,f⟩:=Zh5 F y;obtain⟨A,n,C⟩:=Zvw (P:=P) (w:=w) g e f;have o:=F.slot [] Vs t;rw[i]at o;have G:=o.ptr_inv;refine⟨.agg A,?_,.pure _ _ (.arr _ j m q e n)⟩;simp[Zkr,G,asAddr,C w rfl]
    .cases b
   .cases b
  obtain⟨u,D,_,d,r⟩:=Zjg F (F.slot [] Vs t) c;refine⟨u,?_,r⟩;have d:=d w rfl;simp only[Zkr,Sem.run_bind];simp only[Instr.loadAt,Sem.run_bind]at d;generalize a.tmps.getD t undef=x at*
  cases x with
  |pointer p=>cases p with
   |none=>simp[Instr.sureAddr]at d
   |some D=>simp[Instr.sureAddr]at d;simp[asAddr,d]
  |_=>simp[Instr.sureAddr]at d
def Zfk(F:FitsAt X h ρ st a w):∀(l:List ResultVar) (b:List SV),Znr P st l=some b->
  ∃d:List Value,(l.mapM (Zkr a.tmps)).run P w= .ok d w/\d.length=b.length/\∀(i:Nat) v s,d[i]?=some v->b[i]?=some s->Rep h ρ v s
 | [],b,e=>by simp[Znr]at e;subst e;exact⟨[],Vs,rfl,Vs⟩
 |r::rs,b,e=>by
  simp only[Znr]at e
  split at e
  next s f j k=>
   cases e
   obtain⟨v,m,q⟩:=Zrt F r j;obtain⟨d,g,n,t⟩:=Zfk F rs f k;refine⟨v::d,by simp[W9,m,g],by simp[n],λi u c o p=>?_⟩
   grind
  .cases e
def Zks{d:Func}{c:List Value}{b:Array Value}(h:(d.results.toList.mapM (Zkr b)).run P w= .ok c w):(results d b).run P w= .ok (rets c) w:=by
 have e:results d b=(do let c<-d.results.mapM (Zkr b);pure (if h:c.size=1 then c[0]else .tuple c)):=(by unfold results;rfl);rw[e,Array.mapM_eq_mapM_toList];simp only[Sem.run_bind,Sem.run_map,h,Result.andThen_ok,Sem.run_pure];congr 1
 match c with
 | []=>rfl
 | [v]=>rfl
 |v::v'::c=>simp[rets]
def Zb3(j:∀id o,oget objs id=some o->ObOK h ρ w id o)(c:List TypeId):∀(q:List Md) (i:Nat) (f:List SV) (b:List (Option Nat×Nat)),Zd7 P objs c i q=some (f,b)->Pulls b ρ ρ'->
  ∃g,lentH i q f=some g/\PassOK objs h ρ' w b g/\∀(k:Nat) m,q[k]?=some (.lend m)->(some (pId (i+k)),pId (i+k))∈b/\∃s,oget objs (pId (i+k))=some (.box s)
 | [],i,f,b,e,hp=>by simp[Zd7]at e;obtain⟨rfl,rfl⟩:=e;exact⟨[],rfl,PassOK.nil,Vs⟩
 | .pure::r,i,f,b,e,hp=>by
  obtain⟨g,e1,e2,A⟩:=Zb3 j c r (i+1) f b (by simpa[Zd7]using e) hp;refine⟨g,by simpa[lentH]using e1,e2,λk m u=>?_⟩
  grind
 | .own::r,i,f,b,e,hp=>by
  obtain⟨g,e1,e2,A⟩:=Zb3 j c r (i+1) f b (by simpa[Zd7]using e) hp;refine⟨g,by simpa[lentH]using e1,e2,λk m u=>?_⟩
  grind
 | .lend q::r,i,f,b,e,hp=>by
  simp only[Zd7]at e
  split at e
  next d l x C n D=>
   cases e
   obtain⟨hd,H,t,_,F⟩:=Zh7 (P:=P) j (c.getD i 0) n hp.left;obtain⟨g,e1,e2,A⟩:=Zb3 j c r (i+1) x C D hp.right
   have hd1:∃s p v,d= .agg s/\oget objs (pId i)=some (.box p)/\l=(some (pId i),pId i)::v:=by
    unfold Zf5 at n;simp only[]at n
    split at n
    .rename_i p J;simp at n
     grind
    .cases n
   obtain⟨s,p,v,rfl,G,rfl⟩:=hd1;simp only[normM,argH]at t
   split at t
   next y z E=>
    cases t
    refine⟨(pId i,.box y)::z++g,by simp only[normM,lentH,e1,E],F.append e2,λk m u=>?_⟩
    grind
   .cases t
  .cases e
end
def Zb8{X:Cx}{a:Act}{w:World}{K:St->Prop}:∀(d:List ResultVar) {st:St},Fits X st a w->Zjr d st K->∃j,Fits X j a w/\K j
 | [],st,F,hx=>⟨st,F,hx⟩
 | .cell _ _::d,st,F,hx=>Zb8 d F hx
 | .tmp t::d,st,F,hx=>by
  unfold Zjr at hx
  split at hx
  next id b c G=>
   split at hx
   next q rows k=>
    cases hid:idOK id with
    |false=>simp only[hid,cond_false]at hx
    |true=>
     simp only[hid,cond_true]at hx;obtain⟨s,hx⟩:=hx;refine Zb8 d ?_ hx;obtain⟨h,ρ,F⟩:=F
     have x:st.tmps[t]?=some (.osv id (.ofNat 0) b c):=by
      grind [Zca]
     have m:Rep h ρ (a.tmps.getD t undef) (.osv id 0 b c):=F.tm t _ x;obtain⟨p,u,H,J,L,D,E⟩:=m.osv_inv;simp only[rlen,Yc]at s
     have fin:∀(l:Loc),FitsAt X h (upd ρ id l) (st.bind id (.own q (rsub rows 0 b))) a w->Rep h (upd ρ id l) (a.tmps.getD t undef) (.osl id)->Fits X (st.close t id q (rsub rows 0 b)) a w:=λl o r=>by
      refine⟨h,_,o.weaken _ (by simp[St.close,Zec]) (λy z f=>?_) (λ_ _ e=>e)⟩;simp only[St.close,Zec,List.getElem?_set]at f
      split at f
      .grind [TRep.of_rep']
      .exact o.tm y z f
     by_cases hc0:c=0
     .have e1:b=0:=Vo;have e2:rsub rows 0 b=[]:=(by subst e1;simp[rsub]);refine fin noLoc (F.bind id hid _ noLoc (.inl ⟨by rw[Zab];rfl,e2⟩) (by simp[noLoc]) (by simp[noLoc])) ?_;rw[u,e1,hc0];exact .osl0 id p (by rw[Zab];rfl)
     .obtain⟨g,own,v⟩:=Zji F k D Vo;have e2:rsub rows 0 b=rows.take b.toNat:=(by simp[rsub]);have n:=own.first b.toNat Vo
      refine fin {ρ id with len:=b.toNat} (F.bind id hid _ {ρ id with len:=b.toNat} (.inr ⟨by rw[Zab];exact g,by rw[Zab,e2];exact n⟩) (λ_=>F.own id ⟨⟨_,k⟩,g⟩) (λ_ i A C=>F.inj i id C ⟨⟨_,k⟩,g⟩ A)) ?_;rw[u,E Vo,v];have:=Rep.osl (h:=h) (ρ:=upd ρ id {ρ id with len:=b.toNat}) id (by rw[Zab];exact g)
      grind [Zab]
   grind
  .exact Zb8 d F hx
open Classical in
theorem fn_sound{P:Program}(Sg:FuncId->Sig)(Sv:TypeId->Sig)(L:Nat->Option LoopSpec){f:FuncId}{b:Func}{c:Code}{g:Sig}{n:List SV}{Q:List SV->Prop}(hf:P.funcs[f]?=some b)(hb:b.body=some c)(E:b.name≠ "runtime.NumGoroutine")
  (hv:vc P Sg Sv L c (Zxd L b g n) (fin P b g Q)):Ct P f g n Q:=by
 refine⟨⟨b,hf,by rw[hb];rfl,E⟩,λu objs ac h ρ w p H K A=>?_⟩;refine calls_of_wp hf hb ?_
 have hst:start b g n={tmps:=u++List.replicate (b.ntmps-u.length) .unk,objs:=objs}:=by
  grind [start]
 have W:p.size=u.length:=by have:=A.1;simpa using this
 let X:Cx:={w:=w,h:=h,G:=Gv objs ρ,pin:=λid=>if(∃i J,g.ps[i]?=some (.lend J)/\id=pId i)\/id∈Zb1 0 g.ps then some (ρ id)else none}
 have F:FitsAt X h ρ {tmps:=u++List.replicate (b.ntmps-u.length) .unk,objs:=objs} {tmps:=p++Array.replicate (b.ntmps-p.size) undef,defers:=[]} w:=by
  refine⟨by simp[W],λt s q=>?_,rfl,H.sub,λid o ho=>H.obj id o (Zb6 ho),H.inj,λi x=>.inr ⟨i,x,rfl⟩,HLe.refl _,λ_ _ _ _ e=>e,Keeps.refl _ _,λid l hp=>?_,K,K.off (λi ⟨⟨o,e⟩,hn⟩=>ObOK.hnone (H.obj i o (Zb6 e)) hn)⟩
  .simp only[]at q;rw[List.getElem?_append]at q;by_cases ht:t<u.length
   .rw[if_pos ht]at q
    have a9:(p++Array.replicate (b.ntmps-p.size) undef).getD t undef=p[t]'Vo:=by
     simp_all[YU]
    simp only[a9];exact TRep.of_rep' (A.2 t _ s Vs q)
   grind [TRep.rep_unk]
  grind [Zny,Zkg]
 have FM:Fits X (Zxd L b g n) {tmps:=p++Array.replicate (b.ntmps-p.size) undef,defers:=[]} w:=by
  unfold Zxd;rw[hst]
  cases(L 3000003).isSome with
  |true=>exact⟨h,_,F.bind 6 Vd (.own 0 []) noLoc (.inl ⟨by rw[Zab];rfl,rfl⟩) (by simp[noLoc]) (by simp[noLoc])⟩
  |false=>cases(L 3000002).isSome with
  |true=>exact⟨h,_,F.bind 5 Vd (.own 0 []) noLoc (.inl ⟨by rw[Zab];rfl,rfl⟩) (by simp[noLoc]) (by simp[noLoc])⟩
  |false=>cases(L 3000001).isSome with
  |true=>exact⟨h,_,F.bind 4 Vd (.own 0 []) noLoc (.inl ⟨by rw[Zab];rfl,rfl⟩) (by simp[noLoc]) (by simp[noLoc])⟩
  |false=>cases(L 3000000).isSome with
  |false=>exact⟨h,ρ,F⟩
  |true=>exact⟨h,_,F.bind 3 Vd (.own 0 []) noLoc (.inl ⟨by rw[Zab];rfl,rfl⟩) (by simp[noLoc]) (by simp[noLoc])⟩
 refine Zhg Sg Sv L c X _ _ _ _ _ ?_ FM hv;intro e O a y a0 _ R
 have D:Zjr b.results.toList O (finC P b g Q)->a.defers=[]/\∃v,(results b a.tmps).run P y= .ok v y/\Back g objs h ρ w Q (.returned v) y:=by
  intro a1;obtain⟨st0,hF,ad⟩:=Zb8 _ a0 a1
  have af:finC P b g Q st0->a.defers=[]/\∃v,(results b a.tmps).run P y= .ok v y/\Back g objs h ρ w Q (.returned v) y:=by
   intro d;obtain⟨h1,r,F1⟩:=hF;unfold finC at d
   split at d
   .grind
   .rename_i N ae;obtain⟨h2,_,j⟩:=F1.frzAll (Zcl st0.objs g.rs 0 N++Zhd st0.objs 0 g.ps);simp only[]at d;generalize St.frzAll (Zcl st0.objs g.rs 0 N++Zhd st0.objs 0 g.ps) st0=st at d j
    split at d
    .grind
    next ss a2=>
     split at d
     next T C ls z a3 a4=>
      cases k:(Zbq ((C++z).filterMap (·.1))&&Zbq ((C++z).map (·.2))&&Zrh z (Zb1 0 g.ps))with
      |false=>simp only[k,cond_false]at d
      |true=>
       simp only[k,cond_true]at d;simp only[Bool.and_eq_true]at k;have hst:=k.2;have k:=k.1;have aa:=Zay k.1;have ab:=Zay k.2
       let ρ':=pull (C++z) r (λ_=>noLoc)
       have m:Pulls (C++z) r ρ':=Zet r _ ab;obtain⟨U,V,hl,hr⟩:=Zfk j _ _ a2;obtain⟨a5,a6,e1,e2,e3,e4,e5⟩:=Zcw (P:=P) (ρ':=ρ') j.obj rId g.rs b.resultTypes.toList ss 0 T C a3 m.left;obtain⟨a7,g1,g2,g3⟩:=Zb3 (P:=P) (ρ':=ρ') j.obj b.params.toList g.ps 0 ls z a4 m.right;have ag:U.length=T.length:=Vo;have PA:=e5.append g2;refine⟨j.df,rets U,Zks V,U,h2,ρ',T++ls,a5,a6++a7,rfl,d,?_,⟨Vo,λi v s hv q=>?_⟩,pass_holds PA m aa j.sub j.inj,λi x=>?_,⟨λi J x=>?_,λid M=>?_⟩,j.mono,j.ext,j.kp⟩
       .simp_all[endH,e1]
       .grind
       .obtain⟨id,c,hm,a8,eb⟩:=Zpa PA m ⟨i,x,rfl⟩;rw[<-eb];exact j.own id a8
       .obtain⟨q1,cs,q2⟩:=g3 i J x;rw[Yj]at q1 q2;have Y:=j.pin (pId i) (ρ (pId i)) (by simp only[X];rw[if_pos (.inl ⟨i,J,x,rfl⟩)]);have Z:ρ' (pId i)=r (pId i):=m (some (pId i),pId i) (by simp[q1]);have hn:=(j.obj _ _ q2).1
        grind
       .have Y:=j.pin id (ρ id) (by simp only[X];rw[if_pos (.inr M)]);have Z:ρ' id=r id:=m (some id,id) (YF _ (Zmo hst M))
        grind
     grind
  grind
 cases e with
 |normal=>exact D R
 |ret=>exact D R
 |exit id=>exact R.elim
def fn_of{P:Program}(i:FuncId->Sig)(j:TypeId->Sig)(L:Nat->Option LoopSpec){f:FuncId}{d:Sig}{b:List SV}{Q:List SV->Prop}{X:Prop}(c:Func)(k:P.funcs[f]?=some c)(g:(c.name== "runtime.NumGoroutine")=false)
  (e:X=vcF P i j L c d b Q) (h:X):Ct P f d b Q:=by
 grind [vcF,fn_sound]
def fO{P:Program}{f:FuncId}{sg:Sig}{rs:List SV}{Q:List SV->Prop}{X:Prop}{fn:Func}(Sg:FuncId->Sig)(Sv:TypeId->Sig)(L:Nat->Option LoopSpec)(hf:P.funcs[f]?=some fn)(h:X)(hn:(fn.name== "runtime.NumGoroutine")=false:=by kernel_rfl)(e:X=vcF P Sg Sv L fn sg rs Q:=by kernel_rfl):Ct P f sg rs Q:=fn_of Sg Sv L fn hf hn e h
def fN{P:Program}{f:FuncId}{sg:Sig}{rs:List SV}{Q:List SV->Prop}{X:Prop}{fn:Func}(Sg:FuncId->Sig)(Sv:TypeId->Sig)(hf:P.funcs[f]?=some fn)(h:X)(hn:(fn.name== "runtime.NumGoroutine")=false:=by kernel_rfl)(e:X=vcF P Sg Sv (λ_=>none) fn sg rs Q:=by kernel_rfl):Ct P f sg rs Q:=fn_of Sg Sv _ fn hf hn e h
end Go.Px
namespace Go.Px
open Go.RowKit Go.ChangeShapes Go.WideShapes Go.ChangeAt
def hof(w:World):Hp:=λb o=>w.cell? ⟨b,o,none⟩
def hof_sub(w:World):HSub (hof w) w:=λ_ _ _ e=>e
def Za6{c:Type}(Q:c->List SV->Prop):List c->List SV->Prop
 | [],ss=>ss=[]
 |x::xs,ss=>∃a b,ss=a++b/\Q x a/\Za6 Q xs b
def Zpz(P:Program):Nat->List Field->Bool
 |_,[]=>true
 |off,f::fs=>Nat.beq f.offset off&&Zpz P (off+P.cellsOf f.type) fs
def lay(P:Program):Nat->TypeId->Bool
 |0,_=>false
 |n+1,t=>match P.underlying t with
  |some (.slice e)=>Nat.ble 1 (P.cellsOf e)&&lay P n e
  |some (.struct fs)=>Zpz P 0 fs.toList&&Nat.beq (P.cellsOf t) ((fs.toList.map λf=>P.cellsOf f.type).foldr (·+·) 0)&&fs.toList.all λf=>lay P n f.type
  |some (.array m e)=>Nat.beq (P.cellsOf t) (m*P.cellsOf e)&&lay P n e
  |_=>true
section
variable{H:Type}{enc:TypeId×Value->H}{P:Program}{w:World}{spare:Nat->Bool}{held:Bool}
def Reads(w:World)(a:List Value)(b:List SV):Prop:=b.length=a.length/\∀(i:Nat) v s,a[i]?=some v->b[i]?=some s->PRep (hof w) v s/\v.oneCell'=true
def Reads.val(v:Value)(h:v.oneCell'=true):Reads w [v] [.val v]:=
 ⟨rfl,λi u s a b=>by cases i with
  |zero=>simp at a b;subst a;subst b;exact⟨.val v,h⟩
  |succ i=>simp at a⟩
def Reads.append{e f:List Value}{g h:List SV}(d:Reads w e g)(j:Reads w f h):Reads w (e++f) (g++h):=by
 refine⟨by simp[d.1,j.1],λi v s c a=>?_⟩;rw[List.getElem?_append]at c a;rw[d.1]at a
 split at c
 next b=>rw[if_pos b]at a;exact d.2 i v s c a
 next b=>rw[if_neg b]at a;exact j.2 _ v s c a
def Reads.one(h:PRep (hof w) v u)(d:v.oneCell'=true):Reads w [v] [u]:=
 ⟨rfl,λi s c a b=>by cases i with
  |zero=>simp at a b;subst a;subst b;exact⟨h,d⟩
  |succ i=>simp at a⟩
def Zue{b c:Type}{f:b->Option c}:∀{l:List b} {r:List c},l.mapM f=some r->r.length=l.length/\∀(i:Nat) y,r[i]?=some y->∃x,l[i]?=some x/\f x=some y
 | [],r,h=>by simp at h;subst h;simp
 |a::l,r,h=>by
  rw[W9]at h;simp only[bind,YD,pure,YC]at h;obtain⟨y,e,g,d,rfl⟩:=h;obtain⟨j,k⟩:=Zue d
  grind
def Zko{b:Type}(Q:Nat->b->Prop):∀(n:Nat),(∀i,i<n->∃x,Q i x)->∃l:List b,l.length=n/\∀(i:Nat) x,l[i]?=some x->Q i x
 |0,_=>⟨[],rfl,Vs⟩
 |n+1,h=>by
  obtain⟨l,c,e⟩:=Zko Q n (λi g=>h i Vo);obtain⟨x,hx⟩:=h n Vo;refine⟨l++[x],by simp[c],λi y a=>?_⟩;rw[List.getElem?_append]at a
  split at a
  .exact e i y a
  next f=>have d:i=n:=(by have:=(Y0.1 a).1;simp at this;omega);subst d;simp[c]at a;subst a;exact hx
def Zrs(h:Value.okWide P w .any n T v):(Za2 P T=true->∃b,v= .agg b)/\(Za2 P T=false->v.cells= #[v]):=by
 have c:Za2 P T=false->Cell.okWide P w .any n T v->v.cells= #[v]:=by
  intro _ h
  cases v with
  |agg d=>
   simp_all[Cell.okWide,Cell.ok]
  |_=>rfl
 grind [Za2,Value.okWide]
def Zho{W i:World}(g:laidOutB P=true)(j:Below W.heap.size W i):∀(a:List TypeId) (e:List Value) (f:List (DataW H)) (c:List MemPlace),
  (∀t∈a,P.readableRec t=true/\t<P.types.size)->(∀x∈c,x.block<W.heap.size)->DataW.TrodAll enc P W 0 (λ_=>true) true a e f c->
  DataW.TrodAll enc P i 0 (λb=>decide (b<W.heap.size)) true a e f c
 | [],[],[],c,_,_,h=>h
 |t::a,v::e,d::f,c,hr,hlt,h=>by
  obtain⟨p,q,l,m,rfl⟩:=h
  exact⟨p,q,Below.trod g (hr t Vs).1 (hr t Vs).2 l j (λx hx=>hlt x (by simp[hx])),
   Zho g j a e f q (λt k=>hr t (by simp[k])) (λx hx=>hlt x (by simp[hx])) m,rfl⟩
 | [],_::_,_,_,_,_,h=>by simp[DataW.TrodAll]at h
 | [],[],_::_,_,_,_,h=>by simp[DataW.TrodAll]at h
 |_::_,[],_,_,_,_,h=>by simp[DataW.TrodAll]at h
 |_::_,_::_,[],_,_,_,h=>by simp[DataW.TrodAll]at h
def Zgp{spare:Nat->Bool}{held:Bool}{w:World}:∀(a:List TypeId) (c:List Value) (b:List (DataW H)) (e:List MemPlace),DataW.TrodAll enc P w 0 spare held a c b e->b.length=a.length
 | [],[],[],_,_=>rfl
 |t::a,v::c,d::b,e,h=>by obtain⟨p,q,_,f,_⟩:=h;simp[Zgp a c b q f]
 | [],_::_,_,_,h=>by simp[DataW.TrodAll]at h
 | [],[],_::_,_,h=>by simp[DataW.TrodAll]at h
 |_::_,[],_,_,h=>by simp[DataW.TrodAll]at h
 |_::_,_::_,[],_,h=>by simp[DataW.TrodAll]at h
end
end Go.Px
namespace Go.Px
open Go.RowKit
abbrev I(n:Int):SV:=.val (.int .i64 n)
abbrev B(b:Bool):SV:=.val (.bool b)
abbrev S(s:BA):SV:=.val (.string s)
theorem Zaa{b:Bool}{x y:Prop}(a:b=true->x)(c:b=false->y):ifB b x y:=by
 cases b
 .exact c rfl
 .exact a rfl
abbrev U8(n:Int):SV:=.val (.int .u8 n)
abbrev U64(n:Int):SV:=.val (.int .u64 n)
abbrev SL(z:Nat)(rows:LL):SV:=.slice z rows 0
abbrev sP:Sig:={}
abbrev sO:Sig:=⟨[],[.own]⟩
def Cl.of{P:Program}{f:FuncId}{a:Sig}{b R:List SV}{K:List SV->Prop}(h:Ct P f a b (λr=>r=R))(k:K R):Cl P f a b K:=
 ⟨_,h,λ_ e=>e▸k⟩
theorem Cl.ofQ{P:Program}{f:FuncId}{a:Sig}{Q K:List SV->Prop}(h:Ct P f a C Q)(k:∀r,Q r->K r):Cl P f a C K:=
 ⟨_,h,k⟩
def Ct.mono{P:Program}{f:FuncId}{b:Sig}{c:List SV}{Q d:List SV->Prop}(h:Ct P f b c Q)(k:∀r,Q r->d r):Ct P f b c d:=by
 refine⟨h.1,λg a i j l w m n o p=>(h.2 g a i j l w m n o p).mono ?_⟩;rintro e q ⟨vr,h',ρ',rs,hr,objs',e1,hq,rest⟩;exact⟨vr,h',ρ',rs,hr,objs',e1,k rs hq,rest⟩
@[simp] theorem ieq_eq(a b:Int):ieq a b=decide (a=b):=by unfold ieq;by_cases h:a=b<;>simp[h]
@[simp] theorem ine_eq(a b:Int):ine a b=!decide (a=b):=by unfold ine;by_cases h:a=b<;>simp[h]
@[simp] theorem ilt_eq(a b:Int):ilt a b=decide (a<b):=rfl
@[simp] theorem ile_eq(a b:Int):ile a b=decide (a<=b):=rfl
@[simp] theorem igt_eq(a b:Int):igt a b=decide (b<a):=rfl
@[simp] theorem ige_eq(a b:Int):ige a b=decide (b<=a):=rfl
@[simp] theorem imin_eq(a b:Int):imin a b=min a b:=by unfold imin;rw[Int.min_def];split<;>split<;>omega
@[simp] theorem imax_eq(a b:Int):imax a b=max a b:=by unfold imax;rw[Int.max_def];split<;>split<;>omega
@[simp] theorem bnot_eq(b:Bool):bnot b=!b:=rfl
@[simp] theorem band_eq(a b:Bool):band a b=(a&&b):=rfl
@[simp] theorem beqB_eq(a b:Bool):beqB a b=(a==b):=rfl
@[simp] theorem bpick_eq(p a b:Bool):bpick p a b=(if p then a else b):=by cases p<;>rfl
@[simp] theorem seq_eq(a b:BA):seq a b=(a.toList==b.toList):=rfl
@[simp] theorem sne_eq(a b:BA):sne a b=!(a.toList==b.toList):=rfl
@[simp] theorem rlen_eq(l:LL):rlen l=(l.length:Int):=rfl
@[simp] theorem lsum_eq(a b:Int):lsum a b=a+b:=rfl
@[simp] theorem slen_eq(s:BA):slen s=(s.size:Int):=rfl
theorem Zac{a b:Int}(c: -9223372036854775808<=a+b:=by omega)(d:a+b<=9223372036854775807:=by omega):wadd .i64 a b=a+b:=Zbj c d
theorem Zap{a b:Int}(c: -9223372036854775808<=a-b:=by omega)(d:a-b<=9223372036854775807:=by omega):wsub .i64 a b=a-b:=Zbj c d
def wf_u8(h:(Lit.int .u8 i).wf=true):0<=i/\i<=255:=by
 simp[Lit.wf,IntKind.min,IntKind.max,IntKind.signed,IntKind.bits]at h;omega
def wf_i64(h:(Lit.int .i64 i).wf=true): -9223372036854775808<=i/\i<=9223372036854775807:=by
 simp[Lit.wf,IntKind.min,IntKind.max,IntKind.signed,IntKind.bits]at h;omega
abbrev QQ:=List SV->Prop
abbrev zT:List SV:=[I 0,I 0,I 0,I 0,I 0,I 0,I 0,I 0,I 0,I 0]
abbrev zE:List SV:=[I 0,I 0,I 0,S (bA []),I 0,I 0,I 0]
abbrev zC:List SV:=[S (bA []),I 0,I 0,I 0,I 0,SL 2 [],I 0,I 0,I 0,I 0,I 0,I 0,I 0,I 0,I 0,I 0,I 0,I 0,I 0,I 0,I 0]
abbrev Sm{a:Type}(x:a):Prop:=x=x
end Go.Px
namespace Go.Px
open Go.RowKit Go.ChangeShapes Go.WideShapes Go.ChangeAt
def bndL(P:Program)(e:TypeId):Nat:=bif Nat.beq (P.bytesOf e) 0 then maxLen else reachBytes
def TypW(P:Program):Nat->TypeId->List SV->Prop
 |0,_,_=>True
 |n+1,t,ss=>match P.underlying t with
  |some .bool=>∃b,ss=[.val (.bool b)]
  |some (.int k)=>∃x:Int,ss=[.val (.int k x)]/\(Lit.int k x).wf=true
  |some .string=>∃s:BA,ss=[.val (.string s)]/\s.size<=reachBytes
  |some (.slice e)=>∃rows,ss=[.slice (P.cellsOf e) rows 0]/\rows.length<=bndL P e/\∀r∈rows,TypW P n e r
  |some (.struct fs)=>Za6 (λf s=>TypW P n f s) (fs.toList.map (·.type)) ss
  |some (.array m e)=>Za6 (λf s=>TypW P n f s) (List.replicate m e) ss
  |_=>True
section
variable{H:Type}{enc:TypeId×Value->H}{P:Program}{w:World}{spare:Nat->Bool}{held:Bool}
def Zgq{e:TypeId}{d:DataW H}{x:Nat}:∀{l:List (DataW H)},d∈l->x∈d.weights P e->x∈DataW.weightsAll P e l
 |a::l,h,hx=>by
  simp only[DataW.weightsAll,List.mem_append]
  rcases List.mem_cons.1 h with rfl|h
  .exact .inl hx
  .exact .inr (Zgq h hx)
def Zfp{x:Nat}:∀(a:List TypeId) (b:List (DataW H)) (c:List TypeId) (e:List (DataW H)),x∈DataW.weightsEach P a b->x∈DataW.weightsEach P (a++c) (b++e)
 |t::a,d::b,c,e,h=>by
  simp only[DataW.weightsEach,List.mem_append]at h;simp only[Y2,DataW.weightsEach,List.mem_append]
  rcases h with h|h
  .exact .inl h
  .exact .inr (Zfp a b c e h)
 | [],_,_,_,h=>by simp[DataW.weightsEach]at h
 |_::_,[],_,_,h=>by simp[DataW.weightsEach]at h
def TypVW(P:Program)(n:Nat)(t:TypeId)(s:SV):Prop:=∃a,TypW P n t a/\(Za2 P t=true->s= .agg a)/\(Za2 P t=false->a=[s])
end
end Go.Px
namespace Go.Px
open Go.RowKit Go.ChangeShapes Go.WideShapes Go.ChangeAt
def Zit{d:Type}{Q R:d->List SV->Prop}(h:∀a s,Q a s->R a s):∀(l:List d) (c:List SV),Za6 Q l c->Za6 R l c
 | [],_,k=>k
 |x::xs,c,⟨a,b,e,h1,h2⟩=>⟨a,b,e,h x a h1,Zit h xs b h2⟩
end Go.Px
namespace Go.Px
open Go.RowKit Go.ChangeShapes Go.WideShapes Go.ChangeAt
def inL(S:List TypeId)(t:TypeId):Bool:=S.any λx=>Nat.beq x t
def layT(P:Program)(S:List TypeId)(t:TypeId):Bool:=
 match P.underlying t with
 |some (.slice e)=>Nat.ble 1 (P.cellsOf e)&&inL S e
 |some (.struct fs)=>Zpz P 0 fs.toList&&Nat.beq (P.cellsOf t) ((fs.toList.map λf=>P.cellsOf f.type).foldr (·+·) 0)&&fs.toList.all λf=>inL S f.type
 |some (.array m e)=>Nat.beq (P.cellsOf t) (m*P.cellsOf e)&&inL S e
 |_=>true
def TypI(P:Program)(t:TypeId)(a:List SV):Prop:=∀n,TypW P n t a
def typI_mk{P:Program}{t:TypeId}{a:List SV}(h:∀n,TypW P (n+1) t a):TypI P t a:=λn=>by
 cases n with
 |zero=>trivial
 |succ n=>exact h n
def inL_lay{P:Program}{S:List TypeId}(a:S.all (layT P S)=true)(h:inL S T=true):layT P S T=true:=by
 rw[List.all_eq_true]at a;unfold inL at h;rw[List.any_eq_true]at h;obtain⟨x,hx,e⟩:=h;have:=Nat.eq_of_beq_eq_true e;subst this;exact a x hx
def TypU(P:Program)(t:TypeId)(a:List SV):Prop:=
 match P.underlying t with
 |some .bool=>∃b,a=[.val (.bool b)]
 |some (.int k)=>∃x:Int,a=[.val (.int k x)]/\(Lit.int k x).wf=true
 |some .string=>∃s:BA,a=[.val (.string s)]/\s.size<=reachBytes
 |some (.slice e)=>∃rows,a=[.slice (P.cellsOf e) rows 0]/\rows.length<=bndL P e/\∀r∈rows,TypI P e r
 |some (.struct fs)=>Za6 (λf s=>TypI P f s) (fs.toList.map (·.type)) a
 |some (.array m e)=>Za6 (λf s=>TypI P f s) (List.replicate m e) a
 |_=>True
def typI_of_U{P:Program}{t:TypeId}{b:List SV}(h:TypU P t b):TypI P t b:=typI_mk λn=>by
 unfold TypU at h;unfold TypW
 cases hu:P.underlying t with
 |none=>exact trivial
 |some u=>
  rw[hu]at h
  cases u with
  |bool=>exact h
  |int k=>exact h
  |string=>exact h
  |slice e=>obtain⟨rows,er,d,f⟩:=h;exact⟨rows,er,d,λr c=>f r c n⟩
  |struct g=>exact Zit (λa s h=>h n) _ _ h
  |array m e=>exact Zit (λa s h=>h n) _ _ h
  |_=>trivial
def typI_fin{P:Program}{w:World}{b:List Value}:(∃a,Reads w b a/\TypU P T a)->∃a,Reads w b a/\TypI P T a:=λ⟨a,c,d⟩=>⟨a,c,typI_of_U d⟩
section
variable{H:Type}{enc:TypeId×Value->H}{P:Program}{w:World}{spare:Nat->Bool}{held:Bool}{S:List TypeId}
def Zgr(c:Nat)(a:List Value)(k:∀t a d j,inL S t=true->(∀x∈d.weights P t,x<=reachBytes)->DataW.trod enc P w 0 spare held c t a=some (d,j)->∃h,Reads w a h/\TypI P t h):
  ∀(b:List Field) (off:Nat) (i:List (DataW H×List MemPlace)),(∀x∈DataW.weightsEach P (b.map (·.type)) (i.map (·.1)),x<=reachBytes)->Zpz P off b=true->(∀f∈b,inL S f.type=true)->
   off+(b.map λf=>P.cellsOf f.type).foldr (·+·) 0=a.length->
   b.mapM (λf=>DataW.trod enc P w 0 spare held c f.type ((a.drop f.offset).take (P.cellsOf f.type)))=some i->
   ∃h,Reads w (a.drop off) h/\Za6 (λf s=>TypI P f s) (b.map (·.type)) h
 | [],off,i,_,_,_,hl,_=>⟨[],by simp at hl;rw[Yt Vo];exact⟨rfl,Vs⟩,rfl⟩
 |f::b,off,i,hwt,hc,hlay,hl,hm=>by simp only[Zpz,Bool.and_eq_true]at hc;have y:f.offset=off:=Nat.eq_of_beq_eq_true hc.1;rw[W9]at hm;simp only[bind,YD,pure,YC]at hm;obtain⟨x,hx,l,m,rfl⟩:=hm;obtain⟨d,j⟩:=x;obtain⟨n,o,r⟩:=k f.type _ d j (hlay f Vs) (λx hx=>hwt x (by simp[DataW.weightsEach,hx])) hx;simp only[List.map_cons,W0]at hl;obtain⟨p,u,v⟩:=Zgr c a k b (off+P.cellsOf f.type) l (λx hx=>hwt x (by simp only[List.map_cons,DataW.weightsEach,List.mem_append];exact .inr hx)) hc.2 (λg q=>hlay g (by simp[q])) Vo m;refine⟨n++p,?_,n,p,rfl,r,v⟩;rw[y]at o;have e:a.drop off=(a.drop off).take (P.cellsOf f.type)++a.drop (off+P.cellsOf f.type):=(by rw[<-Wb,List.take_append_drop]);rw[e];exact o.append u
def Zhw(b:Nat)(e:TypeId)(a:List Value)(j:inL S e=true)(l:∀t a d h,inL S t=true->(∀x∈d.weights P t,x<=reachBytes)->DataW.trod enc P w 0 spare held b t a=some (d,h)->∃c,Reads w a c/\TypI P t c):
  ∀(m k:Nat) (g:List (DataW H×List MemPlace)),(∀x∈DataW.weightsAll P e (g.map (·.1)),x<=reachBytes)->(k+m)*P.cellsOf e=a.length->
   (List.range' k m).mapM (λi=>DataW.trod enc P w 0 spare held b e ((a.drop (i*P.cellsOf e)).take (P.cellsOf e)))=some g->
   ∃c,Reads w (a.drop (k*P.cellsOf e)) c/\Za6 (λf s=>TypI P f s) (List.replicate m e) c
 |0,k,g,_,hl,_=>⟨[],by rw[Yt (by rw[<-hl];simp)];exact⟨rfl,Vs⟩,rfl⟩
 |m+1,k,g,hwt,hl,hm=>by rw[List.range'_succ,W9]at hm;simp only[bind,YD,pure,YC]at hm;obtain⟨x,hx,n,o,rfl⟩:=hm;obtain⟨d,h⟩:=x;obtain⟨p,r,u⟩:=l e _ d h j (λx hx=>hwt x (by simp[DataW.weightsAll,hx])) hx;obtain⟨q,v,y⟩:=Zhw b e a j l m (k+1) n (λx hx=>hwt x (by simp only[List.map_cons,DataW.weightsAll,List.mem_append];exact .inr hx)) (by rw[<-hl];congr 1;omega) o;refine⟨p++q,?_,p,q,rfl,u,y⟩;have z:a.drop (k*P.cellsOf e)=(a.drop (k*P.cellsOf e)).take (P.cellsOf e)++a.drop ((k+1)*P.cellsOf e):=(by rw[Nat.succ_mul,<-Wb,List.take_append_drop]);rw[z];exact r.append v
def trod_typI(hS:S.all (layT P S)=true):∀(n:Nat) (t:TypeId) (F:List Value) (d:DataW H) (J:List MemPlace),inL S t=true->(∀x∈d.weights P t,x<=reachBytes)->DataW.trod enc P w 0 spare held n t F=some (d,J)->
  ∃z,Reads w F z/\TypI P t z:=by
 intro n
 induction n with
 |zero=>intro t F d J _ _ h;simp[DataW.trod]at h
 |succ n ih=>
   intro t F d J a2 o h;have f:=inL_lay hS a2;unfold DataW.trod at h;unfold layT at f;refine typI_fin ?_;unfold TypU
   split at h
   next b g=>rw[g];exact⟨_,Reads.val _ rfl,b,rfl⟩
   .rename_i k k' x g;rw[g]
    split at h
    next hk=>obtain⟨rfl,a3⟩:=hk;exact⟨_,Reads.val _ rfl,x,rfl,a3⟩
    .cases h
   next k k' x g=>rw[g];exact⟨_,Reads.val _ rfl,trivial⟩
   .rename_i s g;rw[g]
    split at h
    .cases h
     have:=o s.data.toList.length (by simp[DataW.weights]);exact⟨_,Reads.val _ rfl,s,rfl,by rw[Array.length_toList]at this;exact this⟩
    .cases h
   next e g=>rw[g];exact⟨_,Reads.val _ rfl,trivial⟩
   next e a g=>rw[g];exact⟨_,Reads.val _ rfl,trivial⟩
   next e g=>rw[g];exact⟨[.slice (P.cellsOf e) [] 0],Reads.one (.empty none 0 _ 0 Vo Vo Vs) rfl,[],rfl,Vs,Vs⟩
   .rename_i e a len X g;rw[g]at f|-;simp only[Bool.and_eq_true]at f;have Q:0<P.cellsOf e:=Nat.le_of_ble_eq_true f.1
    split at h
    .rename_i T;obtain⟨_,ab,aa⟩:=T;simp only[YD,Yp]at h;obtain⟨p,a4,Z,ac,hd⟩:=h
     cases hd
     simp only[DataW.weights,g,List.mem_cons,List.mem_append]at o;obtain⟨a0,a1⟩:=Zue a4;simp at a0;by_cases h0:len=0
     .subst h0;exact⟨[.slice (P.cellsOf e) [] 0],Reads.one (.empty (some a) X _ 0 Vo Vo Vs) rfl,[],rfl,Vs,Vs⟩
     .have R:∀i,i<len->∃l,w.cells? 0 (a.add (i*P.cellsOf e)) (P.cellsOf e)=some l/\∃z,Reads w l z/\TypI P e z:=by intro i M;have Y:i<p.length:=Vo;obtain⟨x,hx,hf⟩:=a1 i _ (List.getElem?_eq_getElem Y);simp[M]at hx;subst hx;simp only[YD]at hf;obtain⟨l,K,a5⟩:=hf;exact⟨l,K,ih e l p[i].1 p[i].2 f.2 (λx hx=>o x (.inr (.inl (Zgq (Yb (List.getElem_mem Y)) hx)))) a5⟩
      have L:a.spot=none:=by
       obtain⟨l,K,_⟩:=R 0 Vo;obtain⟨_,_,A⟩:=World.cells?_some K;have:=A 0 Q;simp only[Nat.zero_mul,Addr.add,if_true]at this;have a9:l.length=P.cellsOf e:=(World.cells?_some K).2.1;rw[List.getElem?_eq_getElem Vo]at this;unfold World.cell? at this
       cases hsp:a.spot with
       |none=>rfl
       |some x=>simp[hsp]at this;split at this<;>simp_all
      obtain⟨b,off,sp⟩:=a;simp only at L;subst L
      obtain⟨rows,a6,E⟩:=Zko (λi z=>∃l,w.cells? 0 ((⟨b,off,none⟩:Addr).add (i*P.cellsOf e)) (P.cellsOf e)=some l/\Reads w l z/\TypI P e z) len (λi M=>by
       obtain⟨l,D,z,C,G⟩:=R i M
       exact⟨z,l,D,C,G⟩)
      have y:∀(i:Nat) r (j:Nat) c,rows[i]?=some r->r[j]?=some c->∃v,w.cell? ⟨b,off+i*P.cellsOf e+j,none⟩=some v/\PRep (hof w) v c/\v.oneCell'=true:=by
       intro i r j c u A;obtain⟨l,D,C,G⟩:=E i r u;obtain⟨_,U,V⟩:=World.cells?_some D;have hj:j<l.length:=by have:=(Y0.1 A).1;rw[C.1]at this;exact this
       have:=V j Vo;rw[Zbn,Zbn,List.getElem?_eq_getElem hj]at this;exact⟨_,this,C.2 j _ c (List.getElem?_eq_getElem hj) A⟩
      have W:rows.length<=bndL P e:=by
       have a7:=o _ (.inl rfl);simp only[List.length_map]at a7;unfold bndL
       cases hz:Nat.beq (P.bytesOf e) 0 with
       |true=>simp only[cond_true];omega
       |false=>
        simp only[cond_false]
        have a8:1<=P.bytesOf e:=by
         rcases WF (P.bytesOf e)with q|q
         .rw[q]at hz;cases hz
         .exact q
        have:=WS (p.length+Z.length) a8;omega
      refine⟨[.slice (P.cellsOf e) rows 0],Reads.one ?_ rfl,rows,rfl,W,λr u=>?_⟩
      .rw[<-a6];refine .slice b off X _ rows 0 (λi j=>(w.cell? ⟨b,off+i*P.cellsOf e+j,none⟩).getD undef) Q (λi r u=>?_) (λi r j c u A=>?_) (λi r j c u A=>?_) (λi r j c u A=>?_) Vo Vo Vo
       .obtain⟨l,D,C,_⟩:=E i r u;rw[C.1];exact(World.cells?_some D).2.1
       .obtain⟨v,N,_⟩:=y i r j c u A;simp[hof,N]
       .obtain⟨v,N,hp⟩:=y i r j c u A;simp only[N,Yl];exact hp.1
       .obtain⟨v,N,hp⟩:=y i r j c u A;simp only[N,Yl];exact hp.2
      .obtain⟨i,M,e1⟩:=List.mem_iff_getElem.1 u;obtain⟨_,_,_,G⟩:=E i r (by rw[List.getElem?_eq_getElem M,e1]);exact G
    .cases h
   .rename_i _ fs g;rw[g]at f|-;simp only[Bool.and_eq_true,List.all_eq_true]at f
    split at h
    .rename_i U;simp only[Yp]at h;obtain⟨xs,O,hd⟩:=h
     cases hd
     simp only[DataW.weights,g]at o;have:=Zgr n _ (λt F d J D C G=>ih t F d J D C G) fs.toList 0 xs o f.1.1 f.2 (by rw[U,Yj];exact(Nat.eq_of_beq_eq_true f.1.2).symm) O
     simpa using this
    .cases h
   .rename_i _ m e g;rw[g]at f|-;simp only[Bool.and_eq_true]at f
    split at h
    .rename_i U;simp only[Yp]at h;obtain⟨xs,O,hd⟩:=h
     cases hd
     simp only[DataW.weights,g]at o;have:=Zhw n e _ f.2 (λt F d J D C G=>ih t F d J D C G) m 0 xs o (by rw[U,Yj];exact(Nat.eq_of_beq_eq_true f.1).symm) (by rw[<-List.range_eq_range'];exact O)
     simpa using this
    .cases h
   all_goals (rename_i g;first|(rw[g];exact⟨_,Reads.val _ rfl,trivial⟩)|skip)
   all_goals cases h
def TypVI(P:Program)(t:TypeId)(s:SV):Prop:=∃a,TypI P t a/\(Za2 P t=true->s= .agg a)/\(Za2 P t=false->a=[s])
def Zof(P:Program):List TypeId->List SV->Prop
 | [],ss=>ss=[]
 |t::ts,ss=>∃s a,ss=s::a/\TypVI P t s/\Zof P ts a
def Zx9(o:S.all (layT P S)=true){d:DataW H}{k:List MemPlace}(p:inL S T=true)(l:Value.okWide P w .any n T v)
  (m:∀x∈d.weights P T,x<=reachBytes) (h:DataW.Trod enc P w 0 spare held T v d k):∃s,TypVI P T s/\PRep (hof w) v s:=by
 obtain⟨g,u⟩:=h;obtain⟨a,b,f⟩:=trod_typI o g T _ d k p m u;obtain⟨y,z⟩:=Zrs l
 cases hagg:Za2 P T with
 |true=>obtain⟨A,rfl⟩:=y hagg;refine⟨.agg a,⟨a,f,λ_=>rfl,λe=>by(rw[hagg]at e;cases e)⟩,.agg A a (by have:=b.1;simpa[Value.cells]using this.symm) λi v c q r=>(b.2 i v c (by simpa[Value.cells]using q) r).1⟩
 |false=>
  have e:=z hagg;rw[e]at b;have j:a.length=1:=b.1
  match a,j with
  | [s],_=>exact⟨s,⟨[s],f,λe=>by(rw[hagg]at e;cases e),λ_=>rfl⟩,(b.2 0 v s Vs Vs).1⟩
def Zje(n:S.all (layT P S)=true){base:Nat}:∀(a:List TypeId) (b:List Value) (f:List (DataW H)) (g:List MemPlace),(∀t∈a,inL S t=true)->
  (∀(j:Nat) t v,a[j]?=some t->b[j]?=some v->Value.okWide P w .any base t v)->(∀x∈DataW.weightsEach P a f,x<=reachBytes)->DataW.TrodAll enc P w 0 spare held a b f g->
  ∃e,Zof P a e/\b.length=e.length/\∀(i:Nat) v s,b[i]?=some v->e[i]?=some s->PRep (hof w) v s
 | [],[],[],g,_,_,_,_=>⟨[],rfl,rfl,Vs⟩
 |t::a,v::b,d::f,g,hl,hok,hwt,h=>by
  obtain⟨p,q,r,y,_⟩:=h;obtain⟨s,z,A⟩:=Zx9 n (hl t Vs) (hok 0 t v rfl rfl) (λx hx=>hwt x (by simp only[DataW.weightsEach,List.mem_append];exact .inl hx)) r;obtain⟨e,C,D,E⟩:=Zje n a b f q (λt k=>hl t (by simp[k])) (λj t v k o=>hok (j+1) t v (by simpa using k) (by simpa using o)) (λx hx=>hwt x (by simp only[DataW.weightsEach,List.mem_append];exact .inr hx)) y;refine⟨s::e,⟨s,e,rfl,z,C⟩,by simp[D],λi u c l m=>?_⟩
  cases i with
  |zero=>simp at l m;subst l;subst m;exact A
  |succ i=>exact E i u c (by simpa using l) (by simpa using m)
 | [],_::_,_,_,_,_,_,h=>by simp[DataW.TrodAll]at h
 | [],[],_::_,_,_,_,_,h=>by simp[DataW.TrodAll]at h
 |_::_,[],_,_,_,_,_,h=>by simp[DataW.TrodAll]at h
 |_::_,_::_,[],_,_,_,_,h=>by simp[DataW.TrodAll]at h
def Zog{f:FuncId}{b:Func}(S:List TypeId)(Y:S.all (layT P S)=true)(s:ChangeSpec)(N:TypeId)(m:s.vars=[])(O:laidOutB P=true)
  (d:b.params.toList.all (λt=>inL S t&&P.readableRec t&&Nat.blt t P.types.size)=true) (F:b.resultTypes= #[N]) (Q:P.underlying N=some .bool)
  (W:World) (base:Nat) (a:Array Value) (n y:List (DataW H)) (z:List MemPlace)
  (c:∀l:List (DataW H),l.length=b.params.size->(s.fn H l).results=[.lit (.bool true)]/\(s.fn H l).args=l/\(s.fn H l).vars=[])
  (G:∀(j:Nat) t v,b.params[j]?=some t->a[j]?=some v->Value.okWide P W .any base t v)
  (R:DataW.Whole enc P b.params.toList s.vars false W a.toList n y z)
  (D:(DataW.weightsEach P (b.params.toList++s.plain.varTypes P) (n++y)).all (·<=reachBytes)=true)
  (T:Gl (hof W) W)
  (J:∀u,Zof P b.params.toList u->Ct P f {} u (λr=>r=[.val (.bool true)])):
  Calls P f a W λe K=>∃v,e= .returned v/\s.post enc P b false true false false W a v K:=by
 have E:=R;obtain⟨p,q,L,M,rfl,a1,a2⟩:=R;rw[List.all_eq_true]at d
 obtain⟨u,h1,h2,h3⟩:=Zje Y (base:=base) b.params.toList a.toList n p (λt A=>by have:=d t A;simp at this;exact this.1.1)
  (λj t v A C=>G j t v (by simpa using A) (by simpa using C)) (λx hx=>by
   rw[List.all_eq_true]at D;have:=D x (Zfp b.params.toList n _ y hx)
   simpa using this) L
 refine((J u h1).2 u [] (Za5 pId u 0) (hof W) (λ_=>noLoc) W a ⟨hof_sub W,Vs,λi j ⟨⟨o,e⟩,_⟩=>by simp[oget]at e⟩ T ⟨by simpa using h2,λi v s C U=>.pure _ _ (h3 i v s (by simpa using C) U)⟩).mono ?_;rintro e K ⟨vr,h',ρ,rs,hr,objs',rfl,rfl,hend,hrep,_,_,_,_,_,hkp⟩;have V:Below W.heap.size W K:=hkp.below (λk ⟨i,⟨⟨o,e⟩,_⟩,_⟩=>by simp[oget]at e);refine⟨_,rfl,?_⟩
 have C:rets vr= .bool true:=by
  unfold endH at hend;simp only[Za5]at hend
  split at hend
  next U os a0 Z hl=>
   cases Z
   cases hend
   have g:=hrep.1
   match vr,g with
   | [],_=>simp[lentH]at hl
   | [v],_=>have:=hrep.2 0 v (.val (.bool true)) rfl Vs;exact this.val_inv
   |_::_::_,g=>simp at g
  .cases hend
 rw[C]
 have X:q=[]/\y=[]:=by
  rw[m]at M
  cases y with
  |nil=>exact⟨by simpa[DataW.TrodVars]using M,rfl⟩
  |cons x xs=>simp[DataW.TrodVars]at M
 obtain⟨rfl,rfl⟩:=X;have c:=c (n++[]) (by rw[List.append_nil,Zgp _ _ _ _ L];simp);rw[List.append_nil]at c;refine⟨n,[],p++[],[],p,[],E,?_,?_,?_,V.frame _,λh=>by cases h⟩
 .rw[List.append_nil,c.1,F];exact trodAll_mk1 (shut_bool Q true)
 .rw[List.append_nil,c.2.1];exact Zho O V _ _ _ _ (λt A=>by have:=d t A;simp at this;exact⟨this.1.2,this.2⟩) (λx hx=>E.lt x (by simpa using hx)) L
 .rw[m,List.append_nil,c.2.2];rfl
end
end Go.Px
namespace Go.Px
open Go.RowKit
def Zh9(P:Program):Code->(Exit->Act->World->Prop)->Act->World->Prop
 | .seq x y,Q=>bif hasRF x then Zh9 P x (Exit.then (y.wp P Q) Q)else Zh9 P y Q
 |c,Q=>c.wp P Q
def Ztc{P:Program}(q:FuncId->Sig)(r:TypeId->Sig)(L:Nat->Option LoopSpec):∀(c:Code),hasRF c=true->∀(X:Cx) (d:St) (a:Act) (w:World) (i:Ex->St->Prop) (Q:Exit->Act->World->Prop),
  (∀e d f w,e≠ .normal->Fits X d f w->i e d->Q e.to f w)->(∀d f w,Fits X d f w->i .normal d->Zh9 P c Q f w)->Fits X d a w->vc P q r L (front c) d i->c.wp P Q a w:=by
 intro c
 induction c with
 |seq x y s t=>
  intro o X d a w i Q l j F h
  cases hx:hasRF x with
  |true=>
   simp only[front,hx,cond_true]at h;simp only[Zh9,hx,cond_true]at j;refine wp_seq (s hx X d a w i _ (λe d f w k m u=>?_) j F h);have:=l e d f w k m u
   cases e with
   |normal=>exact absurd rfl k
   |exit id=>exact this
   |ret=>exact this
  |false=>
   simp only[front,hx,cond_false]at h;simp only[Zh9,hx,cond_false]at j;have v:hasRF y=true:=(by grind [hasRF]);simp only[vc]at h;refine wp_seq (Zhg q r L x X d a w _ _ ?_ F h);intro e n f p m _ k
   cases e with
   |normal=>exact t v X n f p i Q l j m k
   |exit id=>exact l (.exit id) n f p Vs m k
   |ret=>exact l .ret n f p Vs m k
 |block id b z=>intro o X d a w i Q l j F h;simp only[front,vc]at h;exact j d a w F h
 |rangeFunc g A C b=>intro o X d a w i Q l j F h;simp only[front,vc]at h;exact j d a w F h
 |_=>intro o;simp[hasRF]at o
def Zj4:Code->Bool
 | .seq x y=>!hasRF x&&Zj4 y
 |_=>true
def Zge:Code->Bool
 | .seq x y=>bif hasRF x then Zj4 x else Zge y
 |_=>false
theorem Zy7{P:Program}:∀(c:Code) (Q:Exit->Act->World->Prop),Zj4 c=true->Zh9 P c Q=(rfOf c).wp P Q:=by
 intro c
 induction c with
 |seq x y a b=>
  intro Q h;simp only[Zj4,Bool.and_eq_true,Yk]at h
  grind [Zh9,rfOf,h.1]
 |_=>intro Q h;rfl
def Zy8{P:Program}:∀(c:Code) (Q:Exit->Act->World->Prop),Zge c=true->Zh9 P c Q=(rfOf c).wp P (Exit.then ((tlOf c).wp P Q) Q):=by
 intro c
 induction c with
 |seq x y a b=>
  grind [Zge,Zh9,rfOf,tlOf,hasRF,Zy7]
 |_=>intro Q h;simp[Zge]at h
open Classical in
def Ztd{P:Program}{o:Func}{f:Sig}{Q:List SV->Prop}{l:List (Nat×Ob)}{h:Hp}{m:Nat->Loc}{w p:World}{ds:List Deferred}{st0:St}{a:Act}
  (V:Fits {w:=w,h:=h,G:=Gv l m,pin:=λid=>if(∃i r,f.ps[i]?=some (.lend r)/\id=pId i)\/id∈Zb1 0 f.ps then some (m id)else none,df:=ds} st0 a p) (b:finC P o f Q st0):
  a.defers=ds/\∃v,(results o a.tmps).run P p= .ok v p/\Back f l h m w Q (.returned v) p:=by
 obtain⟨h1,j,Y⟩:=V;unfold finC at b
 split at b
 .grind
 .rename_i u W;obtain⟨Z,_,d⟩:=Y.frzAll (Zcl st0.objs f.rs 0 u++Zhd st0.objs 0 f.ps);simp only[]at b;generalize St.frzAll (Zcl st0.objs f.rs 0 u++Zhd st0.objs 0 f.ps) st0=st at b d
  split at b
  .grind
  next X D=>
   split at b
   next x n E k F H=>
    cases e:(Zbq ((n++k).filterMap (·.1))&&Zbq ((n++k).map (·.2))&&Zrh k (Zb1 0 f.ps))with
    |false=>simp only[e,cond_false]at b
    |true=>
     simp only[e,cond_true]at b;simp only[Bool.and_eq_true]at e;have hst:=e.2;have e:=e.1;have R:=Zay e.1;have T:=Zay e.2
     let ρ':=pull (n++k) j (λ_=>noLoc)
     have g:Pulls (n++k) j ρ':=Zet j _ T;obtain⟨y,z,hl,hr⟩:=Zfk d _ _ D;obtain⟨J,K,e1,e2,e3,e4,e5⟩:=Zcw (P:=P) (ρ':=ρ') d.obj rId f.rs o.resultTypes.toList X 0 x n F g.left;obtain⟨L,g1,g2,g3⟩:=Zb3 (P:=P) (ρ':=ρ') d.obj o.params.toList f.ps 0 E k H g.right;have a1:y.length=x.length:=Vo;have U:=e5.append g2;refine⟨d.df,rets y,Zks z,y,Z,ρ',x++E,J,K++L,rfl,b,?_,⟨Vo,λi v s hv a0=>?_⟩,pass_holds U g R d.sub d.inj,λi q=>?_,⟨λi r q=>?_,λid t=>?_⟩,d.mono,d.ext,d.kp⟩
     .simp_all[endH,e1]
     .grind
     .obtain⟨id,c,hm,M,eb⟩:=Zpa U g ⟨i,q,rfl⟩;rw[<-eb];exact d.own id M
     .obtain⟨N,cs,O⟩:=g3 i r q;rw[Yj]at N O;have A:=d.pin (pId i) (m (pId i)) (by simp only[];rw[if_pos (.inl ⟨i,r,q,rfl⟩)]);have C:ρ' (pId i)=j (pId i):=g (some (pId i),pId i) (by simp[N]);have hn:=(d.obj _ _ O).1
      grind
     .have A:=d.pin id (m id) (by simp only[];rw[if_pos (.inr t)]);have C:ρ' id=j id:=g (some id,id) (YF _ (Zmo hst t))
      grind
   grind
def FitsAt.restand{X:Cx}{h:Hp}{b:Nat->Loc}{c:St}{a:Act}{w:World}(F:FitsAt X h b c a w)(d:List Deferred):FitsAt {w:=w,h:=h,G:=Gv c.objs b,pin:=X.pin,df:=d} h b c {a with defers:=d} w:=
 {F with df:=rfl,own:=λi hi=>.inr ⟨i,hi,rfl⟩,mono:=HLe.refl _,ext:=λ_ _ _ _ e=>e,kp:=Keeps.refl _ _,gl:=⟨F.glob,F.glob.off (λi ⟨⟨o,e⟩,hn⟩=>ObOK.hnone (F.obj i o e) hn)⟩}
def FitsAt.based{X:Cx}{h p:Hp}{j f:Nat->Loc}{l g:St}{a q:Act}{w w':World}{r:List Deferred}(c:FitsAt X h j l a w)(F:FitsAt {w:=w,h:=h,G:=Gv l.objs j,pin:=X.pin,df:=r} p f g q w'):
  FitsAt {X with df:=r} p f g q w':=by
 have v:∀b,Gv l.objs j b->X.w.heap.size<=b\/X.G b:=(by rintro b ⟨i,m,rfl⟩;exact c.own i m);have d:=c.kp.size;refine{F with df:=F.df,own:=λi m=>?_,mono:=c.mono.trans F.mono,ext:=λb s n o e=>?_,kp:=?_,gl:=c.gl}
 .rcases F.own i m with h1|h1
  .grind
  grind
 .refine F.ext b (Nat.lt_of_lt_of_le s d) (λt=>?_) o (c.ext b s n o e)
  grind
 .refine⟨F.kp.os.trans c.kp.os,F.kp.tape.trans c.kp.tape,F.kp.output.trans c.kp.output,Nat.le_trans d F.kp.size,λk u n=>?_⟩;rw[F.kp.block k (Nat.lt_of_lt_of_le u d) (λt=>?_),c.kp.block k u n]
  grind
end Go.Px
namespace Go.Px
open Go Go.RowKit
def Zuf{o:Oper}(h:(match o.op with| .defer _=>false|_=>true)=true):∀c,o.op≠ .defer c:=by
 grind
def op_inRd{P:Program}{o:Oper}{a:Act}{w:World}{next:Act->World->Prop}{Q:Exit->Act->World->Prop}(l n:Nat)(hd:∀c,o.op≠ .defer c)(h:o.wp P a w next Q):
  o.wpIn (Fence.wide.inRound l) n P a w next Q:=by
 refine⟨λ_ _=>trivial,?_⟩;rw[Oper.semAt_eq _ _ _ hd];unfold Oper.wp at h;generalize(execOp a.eval o).run P w=r at h|-
 cases r with
 |ok v m=>
  cases v with
  |value v=>exact h
  |skip=>exact h
  |defer d=>exact h
  |enter f b=>exact⟨(λh=>by cases h),(callsIn_wide (n:=n-1)).2 h⟩
  |row row b=>refine⟨(λh=>by cases h),λc i _=>?_⟩;obtain⟨v,g,j,k⟩:=h c i;exact⟨v,g,j,stepsIn_wide.2 k⟩
  |_=>exact h.elim
 |halt e m=>
  cases e with
  |panic v=>exact h
  |_=>exact h.elim
def Zjz{P:Program}{k:Region.Mode}{f:Array Oper}{Q:Exit->Act->World->Prop}(l n:Nat)(hd:noDef f=true)(g:¬LetsOut Q):∀(b:Nat) (d:Array Bool) (a:Act) (w:World),
  wpAny P k f Q b d a w->wpAnyIn (Fence.wide.inRound l) n P k f Q b d a w
 |0,_,_,_,h=>h
 |b+1,d,a,w,h=>by
  refine⟨h.1,λi m=>?_⟩;have c:=h.2 i m;unfold wpOp at c;unfold wpOpIn
  split
  next e=>simp only[e]at c;exact Zjz l n hd g b _ a w c
  .rename_i o e;simp only[e]at c;have p:=List.all_eq_true.1 hd o (Yn (by rw[Yr];exact e))
   split
   .rename_i j;simp only[j,if_true]at c
    rcases c with c|c
    .exact Oper.wpIn_mono (λa w h=>Zjz l n hd g b _ a w h) (op_inRd l n (Zuf p) c)
    .exact absurd c.2 g
   next j=>simp only[j]at c;exact⟨λ_ _=>trivial,Zjz l n hd g b _ _ w c⟩
def Zkp{P:Program}{d:Array Oper}{Q:Exit->Act->World->Prop}(l n:Nat)(e:¬LetsOut Q):∀(b:List Oper) (hd:∀o∈b,∀c,o.op≠ .defer c) (a:Act) (w:World),
  wpList P d Q b a w->wpListIn (Fence.wide.inRound l) n P d Q b a w
 | [],_,_,_,h=>h
 |o::b,hd,a,w,h=>by
  unfold wpList at h;unfold wpListIn
  split
  .rename_i g;simp only[g,if_true]at h
   rcases h with h|h
   .exact Oper.wpIn_mono (λa w h=>Zkp l n e b (λo f=>hd o (Wn _ f)) a w h) (op_inRd l n (hd o Vs) h)
   .exact absurd h.2 e
  next g=>simp only[g]at h;exact⟨λ_ _=>trivial,Zkp l n e b (λo f=>hd o (Wn _ f)) _ w h⟩
section
variable{P:Program}{X:Cx}
def Zkq(l n:Nat)(i:FuncId->Sig)(j:TypeId->Sig)(id:Nat)(b:Array Oper)(p:P.follows .mixedOrders=true)(m:Zfd b=true)(hd:noDef b=true)(c:St)(a:Act)(w:World)
  (F:Fits X c a w) (K:St->Prop) (q:vcAny P i j b (b.size+1) (Array.replicate b.size false) c K) (Q:Exit->Act->World->Prop)
  (r:∀c f w,Fits X c f w->Fr (b.toList.filterMap (·.dst)) a f->K c->Q .normal f w):(Code.region id b true).wpIn (Fence.wide.inRound l) n P Q a w:=by
 have R:=Zik m;have hnone:∀k,¬In (Array.replicate b.size false) k:=λk h=>by unfold In at h;by_cases d:k<b.size<;>simp[d]at h
 have g:actOf b a (λ_=>undef) (Array.replicate b.size false)=a:=by
  unfold actOf
  have:((List.range a.tmps.size).map (slotV b a (λ_=>undef) (Array.replicate b.size false))).toArray=a.tmps:=by
   apply Array.ext';apply List.ext_getElem?;intro t;have u:wr b (Array.replicate b.size false) t=none:=Zi5 (λk d=>absurd d (hnone k));by_cases ht:t<a.tmps.size
   .simp[ht,slotV,u]
   .simp[ht]
  rw[this]
 refine wpIn_mono (wpIn_region_any (Q:=Zeg X K b a) p (Zjz l n hd (by rintro⟨_,_,h⟩;exact h) _ _ _ _ ?_)) (λe f w h=>?_)
 .have v:Fits X c a {w with drawn:=w.drawn+1}:=by obtain⟨h,s,F⟩:=F;exact⟨h,s,F.world (λ_ _=>rfl) ⟨F.kp.os,F.kp.tape,F.kp.output,F.kp.size,F.kp.block⟩⟩
  have S:Sim P i j b X a K (λ_=>undef) (Array.replicate b.size false) (Array.replicate b.size false) (b.size+1) c {w with drawn:=w.drawn+1}:=
   ⟨⟨Vs,λk _ _ h=>absurd h (hnone k)⟩,⟨Vs,λk _ _ h=>absurd h (hnone k)⟩,λ_ h=>h,by rw[g];exact v,λk _ _ h=>absurd h (hnone k),q⟩
  have x:left b (Array.replicate b.size false)=b.size:=(by unfold left;rw[List.filter_eq_self.2 (λk _=>by simpa[In]using hnone k)];simp);have:=sim_any R b.size _ _ _ _ _ _ S x
  grind
 .cases e with
  |normal=>obtain⟨⟨c,F,d⟩,o⟩:=h;exact r c f w F o d
  |_=>exact False.elim h
def onlyN(Q:Exit->Act->World->Prop):Exit->Act->World->Prop
 | .normal,a,w=>Q .normal a w
 |_,_,_=>False
def Zms(l n:Nat)(O:FuncId->Sig)(R:TypeId->Sig)(L:Nat->Option LoopSpec)(a6:∀c,L (condKey c)=none)(a7:∀id,L (2000000+id)=none):∀(c:Code),rndOK c=true->∀(X:Cx) (d:St) (a:Act) (w:World) (C:Ex->St->Prop) (Q:Exit->Act->World->Prop),
  (∀e d s w,Fits X d s w->Fr (Zag c) a s->C e d->Q e.to s w)->Fits X d a w->vc P O R L c d C->c.wpIn (Fence.wide.inRound l) n P Q a w:=by
 intro c
 induction c with
 |skip=>intro _ X d a w C Q k F f;exact wpIn_skip (k .normal d a w F (Fr.refl _ _) f)
 |region id g a5=>
  intro v X d a w C Q k F f
  cases a5 with
  |true=>
   simp only[vc]at f
   cases hok:(P.follows .mixedOrders&&Zfd g)with
   |false=>simp[hok]at f
   |true=>
    simp only[hok,cond_true]at f;simp only[Bool.and_eq_true]at hok
    split at f
    .exact Zkq l n O R id g hok.1 hok.2 v d a w F _ f Q (λd a w F j p=>k .normal d a w F j p)
    .rename_i q _;obtain⟨h0,aa,N⟩:=F;have Fb:=N.rebase;unfold cutC at f
     cases hs0:(Zal (Zad q) d.objs q.fixed).isSome with
     |false=>simp only[hs0,cond_false]at f
     |true=>
      simp only[hs0,cond_true]at f;obtain⟨I,m,h1,T⟩:=f;refine Zkq l n O R id g hok.1 hok.2 v d a w ⟨_,_,Fb⟩ _ h1 Q (λu J w1 F1 j p=>?_)
      split at p
      .exact p.elim
      next a4 M U=>
       cases z:(headOK q (unP q.ptrs (g.toList.filterMap (·.dst))) M&&Zar (Zan (unP q.ptrs (g.toList.filterMap (·.dst))) (Zad q) 0 (setP q.ptrs d.tmps)) (St.frzAll (Zak u q) u).tmps)with
       |false=>simp only[z,cond_false]at p
       |true=>simp only[z,cond_true]at p;simp only[Bool.and_eq_true]at z;obtain⟨hx,ab,Fx⟩:=F1;obtain⟨hy,_,Fy⟩:=Fx.frzAll (Zak u q);obtain⟨hd,⟨hz,V,Fz⟩,W⟩:=Zda N hs0 Fy j U z.1 z.2 p.1 T p.2;exact k .normal hd J w1 ⟨hz,V,N.unbase Fz⟩ j W
  |false=>
   simp only[vc]at f
   have go:∀(K:St->Prop),vcOps P O R g g.toList d K->∀(Y:Cx),Fits Y d a w->(∀u J w1,Fits Y u J w1->Fr (Zag (.region id g false)) a J->K u->Q .normal J w1)->(Code.region id g false).wpIn (Fence.wide.inRound l) n P Q a w:=by
    intro K f Y F hK
    refine wpIn_mono (Q:=onlyN Q) (wpIn_region_list (Zkp l n (by rintro⟨_,_,h⟩;exact h) g.toList (λo ho=>Zuf (List.all_eq_true.1 v o ho)) a w
     (Zdg O R g (onlyN Q) _ (Zag (.region id g false)) a (λd a w F j p=>hK d a w F j p) g.toList d a w (λo ho t G=>YE.2 ⟨o,ho,G⟩) (Fr.refl _ _) F f))) (λe a w h=>?_)
    cases e with
    |normal=>exact h
    |_=>exact h.elim
   split at f
   .exact go _ f X F (λd a w F j p=>k .normal d a w F j p)
   .rename_i q _;obtain⟨h0,aa,N⟩:=F;have Fb:=N.rebase;unfold cutC at f
    cases hs0:(Zal (Zad q) d.objs q.fixed).isSome with
    |false=>simp only[hs0,cond_false]at f
    |true=>
     simp only[hs0,cond_true]at f;obtain⟨I,m,h1,T⟩:=f;refine go _ h1 _ ⟨_,_,Fb⟩ (λu J w1 F1 j p=>?_)
     split at p
     .exact p.elim
     next a4 M U=>
      cases z:(headOK q (unP q.ptrs (g.toList.filterMap (·.dst))) M&&Zar (Zan (unP q.ptrs (g.toList.filterMap (·.dst))) (Zad q) 0 (setP q.ptrs d.tmps)) (St.frzAll (Zak u q) u).tmps)with
      |false=>simp only[z,cond_false]at p
      |true=>simp only[z,cond_true]at p;simp only[Bool.and_eq_true]at z;obtain⟨hx,ab,Fx⟩:=F1;obtain⟨hy,_,Fy⟩:=Fx.frzAll (Zak u q);obtain⟨hd,⟨hz,V,Fz⟩,W⟩:=Zda N hs0 Fy j U z.1 z.2 p.1 T p.2;exact k .normal hd J w1 ⟨hz,V,N.unbase Fz⟩ j W
 |seq x y a0 a3=>
  intro v X d a w C Q k F f;simp only[rndOK,Bool.and_eq_true]at v;refine wpIn_seq (a0 v.1 X d a w _ _ ?_ F f);intro e A s H D j E;have Z:Fr (Zag (.seq x y)) a s:=j.mono (λt G=>by simp[Zag,G])
  cases e with
  |normal=>exact a3 v.2 X A s H C Q (λe a8 a2 w2 F2 a9 T=>k e a8 a2 w2 F2 (Z.trans (a9.mono (λt G=>by simp[Zag,G]))) T) D E
  |exit id=>exact k (.exit id) A s H D Z E
  |ret=>exact k .ret A s H D Z E
 |cond c x y a0 a3=>
  intro v X d a w C Q k F f;simp only[rndOK,Bool.and_eq_true]at v;simp only[vc]at f
  split at f
  .rename_i b z;obtain⟨h,ρ,D⟩:=F;have r:=D.operand [] Vs c;rw[z]at r;rw[a6]at f
   exact wpIn_cond_split r.val_inv (λe=>a0 v.1 X d a w C Q (λe d s w F j=>k e d s w F (j.mono (λt G=>by simp[Zag,G]))) ⟨h,ρ,D⟩ (by subst e;exact f))
    (λe=>a3 v.2 X d a w C Q (λe d s w F j=>k e d s w F (j.mono (λt G=>by simp[Zag,G]))) ⟨h,ρ,D⟩ (by subst e;exact f))
  grind
 |block id ac ih=>
  intro v X d a w C Q k F f;simp only[vc,a7]at f;refine wpIn_block (ih v X d a w _ _ ?_ F f);intro e A s H D j E
  cases e with
  |normal=>exact k .normal A s H D j E
  |exit i=>
   simp only[Ex.to,Exit.inBlock];by_cases hi:i=id
   .subst hi;simp only[Y8,cond_true]at E;rw[if_pos rfl];exact k .normal A s H D j E
   .simp only[Zaj hi,cond_false]at E;rw[if_neg hi];exact k (.exit i) A s H D j E
  |ret=>exact k .ret A s H D j E
 |exit id=>intro _ X d a w C Q k F f;exact wpIn_exit (k (.exit id) d a w F (Fr.refl _ _) f)
 |ret=>intro _ X d a w C Q k F f;exact wpIn_ret (k .ret d a w F (Fr.refl _ _) f)
 |_=>intro v;simp[rndOK]at v
end
end Go.Px
namespace Go.Px
open Go Go.RowKit
def Zl7(P:Program)(f:FuncId)(o:(Nat->Value)->Value)(d:Nat):Prop:=
 (∀c w,(callFunc f c).run P w= .ok (.enter f c) w)/\
 ∀(l g h:Nat) (p:Option Addr) (b off len m:Nat) (n:Nat->Nat->Value) (_:0<len->p=some ⟨b,off,none⟩) (_:len<=4611686018427387904)
  (J:Nat->World->Prop) (Kp:World->World->Prop) (_:∀W,Kp W W) (_:∀{A B C:World},Kp A B->Kp B C->Kp A C)
  (_:∀k W,J k W->k<len->YieldAt Fence.wide 1 P l #[.int .i64 ((len:Int)-1-k),o (n (len-1-k))] W λe a=>e= .returned (.bool true)/\J (k+1) a/\Kp W a)
  (W:World) (_:∀a,Kp W a->a.cell? ⟨g,h,none⟩=some (.slice p len m)) (_:∀j,j<len->∀i,i<d->∀a,Kp W a->a.cell? ⟨b,off+j*d+i,none⟩=some (n j i)) (_:J 0 W),
  CallsIn Fence.wide 2 P f #[.func (.yield l) #[] #[],.pointer (some ⟨g,h,none⟩)] W λe a=>(∃v,e= .returned v)/\J len a
section
variable{P:Program}
def isRec:Obj->Bool
 | .loop _| .deferred _=>true
 |_=>false
def Ztj(B:Nat)(W a:World):Prop:=W.heap.size<=a.heap.size/\∀(k:Nat) (o:Obj),B<=k->W.heap[k]?=some o->isRec o=true->a.heap[k]?=some o
def rndPost(B:Nat)(Kp:World->World->Prop)(I:World->Prop)(W:World):Exit->Act->World->Prop
 | .normal,_,W'=>Ztj B W W'/\Kp W W'/\I W'
 |_,_,_=>False
def rf_law{g:Operand}{y:Array Tmp}{assign body:Code}{Q:Exit->Act->World->Prop}{a:Act}{w:World}{f:FuncId}{el:(Nat->Value)->Value}{sz Bs bo:Nat}(L:Zl7 P f el sz)
  (hg:a.eval g= .func (.func f) #[] #[.pointer (some ⟨Bs,bo,none⟩)]) (M:y.size=2) {p:Option Addr} {b off len cap:Nat} {ce:Nat->Nat->Value} (hp:0<len->p=some ⟨b,off,none⟩) (K:len<=4611686018427387904)
  (Kp:World->World->Prop) (N:∀W,Kp W W) (n:∀{A B C:World},Kp A B->Kp B C->Kp A C) (F:∀(W:World) (l:Nat) (o s:Obj),W.heap[l]?=some o->isRec o=true->Kp W (W.putObj l s)) (a6:∀(W:World) (o:Obj),Kp W (W.alloc o))
  (O:∀d,Kp w d->d.cell? ⟨Bs,bo,none⟩=some (.slice p len cap)) (hc:∀j,j<len->∀i,i<sz->∀d,Kp w d->d.cell? ⟨b,off+j*sz+i,none⟩=some (ce j i))
  (I:Nat->World->Prop) (a7:∀k W o,I k W->I k (W.alloc o)) (G:∀k W l o s,w.heap.size<=l->I k W->W.heap[l]?=some o->isRec o=true->I k (W.putObj l s)) (h0:I 0 w)
  (u:∀(l k:Nat) (W:World),w.heap.size<=l->I k W->k<len->
   assign.wpIn (Fence.wide.inRound l) 1 P (Exit.then (λa' d=>Ztj w.heap.size W d/\Kp W d/\∀o s,d.heap[l]?=some o->isRec o=true->
     body.wpIn (Fence.wide.inRound l) 1 P (rndPost w.heap.size Kp (I (k+1)) (d.putObj l s)) a' (d.putObj l s)) (λ_ _ _=>False))
    {tmps:=(y.zip #[.int .i64 ((len:Int)-1-k),el (ce (len-1-k))]).foldl (λt (p,v)=>t.setIfInBounds p v) a.tmps,defers:=[]} W)
  (z:∀(D:Nat) (W:World),w.heap.size<=D->I len W->W.heap[D]?=some (.deferred (some []))->Q .normal {a with defers:={target:=.collected D,args:=#[]}::a.defers} W):
  (Code.rangeFunc g y assign body).wpIn Fence.wide 3 P Q a w:=by
 refine wpIn_rangeFunc λfn _=>?_
 obtain⟨c,hrec⟩:∃c:LoopState->Loop,c=λst=>{state:=st,pending:=none,fn,tmps:=a.tmps,params:=y,assign,body,defers:=w.heap.size}:=⟨_,rfl⟩
 obtain⟨m,hW1⟩:∃m,(w.alloc (.deferred (some []))).alloc (.loop (c .ready))=m:=⟨_,rfl⟩
 have hL:m.heap[w.heap.size+1]?=some (.loop (c .ready)):=(by rw[<-hW1];have:=World.alloc_heap_new (w.alloc (.deferred (some []))) (.loop (c .ready));rwa[World.size_alloc]at this);have hD:m.heap[w.heap.size]?=some (.deferred (some [])):=(by rw[<-hW1];exact(Below.heap_alloc _ _ _ Vs).trans (World.alloc_heap_new w _));have X:I 0 m:=Vg;have J:Kp w m:=Vg
 refine⟨w.heap.size+1,[{target:=.collected w.heap.size,args:=#[]}],m,{target:=.fn (.func f) #[.pointer (some ⟨Bs,bo,none⟩)],args:=#[.func (.yield (w.heap.size+1)) #[] #[]]},m,f,
  #[.func (.yield (w.heap.size+1)) #[] #[]]++ #[.pointer (some ⟨Bs,bo,none⟩)],m,?_,?_,λf' a8=>trivial,?_,λh=>(by cases h),?_⟩
 .rw[<-hW1,hrec];exact run_enterLoop_outer _ _ _ _ _
 .simp only[resolve,hg];simp[go_sem]
 .simp[invoke,go_sem,L.1]
 .refine(L.2 (w.heap.size+1) Bs bo p b off len cap ce hp K (λk W=>I k W/\W.heap[w.heap.size+1]?=some (.loop (c .ready))/\W.heap[w.heap.size]?=some (.deferred (some []))) Kp N n ?_ m
   (λd h=>O d (n J h)) (λj hj i x d h=>hc j hj i x d (n J h)) ⟨X,hL,hD⟩).mono ?_
  .rintro k W ⟨x,hl,hd⟩ hk;have Y:=run_yield (P:=P) (args:=#[.int .i64 ((len:Int)-1-k),el (ce (len-1-k))]) hl (by rw[hrec];simp[M]);rw[hrec]at Y;refine⟨fn,_,assign,body,Y,roundIn_of_wpIn trivial (wpIn_mono (u (w.heap.size+1) k W Vo x hk) ?_)⟩;rintro e a1 E R
   cases e with
   |normal=>
    obtain⟨U,kp,hb⟩:=R;have q:=U.2 _ _ Vo hl rfl;have Z:=U.2 _ _ (Nat.le_refl _) hd rfl;refine⟨_,run_beginRound q (by rw[hrec]),wpIn_mono (hb _ (.loop {c .ready with state:=.busy}) q rfl) ?_⟩;have a0:w.heap.size+1<E.heap.size:=(Y3.1 q).1;have a2:(E.putObj (w.heap.size+1) (.loop {c .ready with state:=.busy})).heap[w.heap.size+1]?=some (.loop {c .ready with state:=.busy}):=World.putObj_heap_same a0;have a4:(E.putObj (w.heap.size+1) (.loop {c .ready with state:=.busy})).heap[w.heap.size]?=some (.deferred (some [])):=(World.putObj_heap_other Vo).trans Z;rintro e a3 W3 T
    cases e with
    |normal=>obtain⟨H,V,hi3⟩:=T;have r:=H.2 _ _ Vo a2 rfl;have a5:=H.2 _ _ (Nat.le_refl _) a4 rfl;refine⟨_,_,run_endRound none r,rfl,⟨G _ _ _ _ _ Vo hi3 r rfl,?_,(World.putObj_heap_other Vo).trans a5⟩,n (n (n kp (F _ _ _ _ q rfl)) V) (F _ _ _ _ r rfl)⟩;rw[World.putObj_heap_same (Y3.1 r).1,hrec];rfl
    |_=>exact T.elim
   |_=>exact R.elim
  .rintro e E ⟨⟨v,rfl⟩,x,hl,hd⟩;have:=run_endLoop (P:=P) hl (by rw[hrec];simp);rw[hrec]at this;exact⟨none,_,this,z _ _ (Nat.le_refl _) (G _ _ _ _ _ Vo x hl rfl) ((World.putObj_heap_other Vo).trans hd)⟩
end
end Go.Px
namespace Go.Px
open Go Go.RowKit

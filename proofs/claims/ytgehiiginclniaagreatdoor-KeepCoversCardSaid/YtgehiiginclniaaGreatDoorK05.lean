import Derived.Test.YtgehiiginclniaaGreatDoorK04
import Derived.ProofKit
import Derived.JoinedCond
import Derived.Handed
import Derived.RangeFuncLeaves
import Derived.RangeFuncWrites
import Derived.OrdersIn
import Derived.TacticsIn
import Derived.OwnWalkIn
import Derived.RangeFuncCalls
set_option linter.all false
set_option maxRecDepth 100000
variable{i:Int}{m n:Nat}{v:Go.Value}{u:Go.Px.SV}{T:Go.TypeId}{C:List Go.Px.SV}
namespace Go.Px
open Go.RowKit
def Zn3{p:Nat->Prop}:∀n,p n->∃k,p k/\∀j,j<k->¬p j:=by
 intro n
 induction n using Nat.strongRecOn with
 |_ n e=>
  intro d;by_cases h:∃j,j<n/\p j
  .obtain⟨j,b,c⟩:=h;exact e j b c
  .exact⟨n,d,λj b c=>h ⟨j,b,c⟩⟩
def Zt9{P:Program}{c:Code}{Q:Exit->Act->World->Prop}{a:Act}{w:World}(J:Nat->Act->World->Prop)(d:Nat)(n:J d a w)
  (g:∀k a w,J k a w->c.wp P (Exit.then (λi l=>∃b,b<k/\J b i l) Q) a w):(Code.loop c).wp P Q a w:=by
 classical
 let f:Act->World->Nat:=λa w=>if h:∃k,J k a w then Classical.choose (Zn3 (p:=λk=>J k a w) _ h.choose_spec)else 0
 have m:∀a w,(∃k,J k a w)->J (f a w) a w/\∀j,j<f a w->¬J j a w:=(by intro a w h;simp only[f,dif_pos h];exact Classical.choose_spec (Zn3 (p:=λk=>J k a w) _ h.choose_spec));refine wp_loop (λa w=>∃k,J k a w) f ⟨d,n⟩ λa w h=>?_;obtain⟨r,_⟩:=m a w h;refine wp_mono (g _ a w r) λe i l q=>?_
 cases e with
 |normal=>
  obtain⟨b,t,o⟩:=q;refine⟨⟨b,o⟩,?_⟩;obtain⟨_,s⟩:=m i l ⟨b,o⟩
  rcases WN b (f i l)with h4|h4
  .exact absurd o (s b h4)
  .omega
 |_=>exact q
def Zky{l:List Nat}:hasN l n=true↔n∈l:=by
 unfold hasN;rw[List.any_eq_true];constructor
 .rintro⟨x,b,e⟩;rw[Nat.eq_of_beq_eq_true e];exact b
 .intro h;exact⟨n,h,Y6 n⟩
def Nrm(d e:SV):Prop:=e=d\/∃c rows f b,d= .slice c rows f/\e= .slice b rows 0/\(c=b\/c=0)
def Nrms(c b:List SV):Prop:=b.length=c.length/\∀(i:Nat) v v',c[i]?=some v->b[i]?=some v'->Nrm v v'
def Nrms.split{a1 a2 b:List SV}(n:Nrms (a1++a2) b):Nrms a1 (b.take a1.length)/\Nrms a2 (b.drop a1.length):=by
 obtain⟨j,f⟩:=n;simp at j;refine⟨⟨Vm,λi v e d c=>?_⟩,⟨Vm,λi v e d c=>?_⟩⟩
 .have g:=(Y0.1 d).1;refine f i v e (by rw[List.getElem?_append,if_pos g];exact d) ?_;rw[Yb,if_pos g]at c;exact c
 .refine f (a1.length+i) v e (by rw[YK Vo];simpa using d) ?_;rw[Yf]at c;exact c
def Sh.get_nrm{s:Sh}{x:s.ty}(c:s.get u=some x):Nrm u (s.sv x):=by
 cases s with
 |int k=>
  cases u with
  |val u=>cases u with
   |int i n=>
    simp only[Sh.get]at c;by_cases hk:k=i
    .subst hk;simp at c;subst c;exact .inl rfl
    .simp[hk]at c
   |_=>simp[Sh.get]at c
  |_=>simp[Sh.get]at c
 |bool=>
  cases u with
  |val u=>cases u with
   |bool b=>simp[Sh.get]at c;subst c;exact .inl rfl
   |_=>simp[Sh.get]at c
  |_=>simp[Sh.get]at c
 |str=>
  cases u with
  |val u=>cases u with
   |string b=>simp[Sh.get]at c;subst c;exact .inl rfl
   |_=>simp[Sh.get]at c
  |_=>simp[Sh.get]at c
 |sl f=>
  cases u with
  |slice d rows g=>
   simp only[Sh.get]at c
   cases hb:(Nat.beq d f||Nat.beq d 0)with
   |false=>simp[hb]at c
   |true=>simp[hb]at c;subst c;simp only[Bool.or_eq_true]at hb;exact .inr ⟨d,rows,g,f,rfl,rfl,hb.elim (λe=>.inl (Nat.eq_of_beq_eq_true e)) (λe=>.inr (Nat.eq_of_beq_eq_true e))⟩
  |_=>simp[Sh.get]at c
 |own f=>
  cases u with
  |slice d rows g=>
   simp only[Sh.get]at c
   cases hb:(Nat.beq d f||Nat.beq d 0)with
   |false=>simp[hb]at c
   |true=>simp[hb]at c;subst c;simp only[Bool.or_eq_true]at hb;exact .inr ⟨d,rows,g,f,rfl,rfl,hb.elim (λe=>.inl (Nat.eq_of_beq_eq_true e)) (λe=>.inr (Nat.eq_of_beq_eq_true e))⟩
  |_=>simp[Sh.get]at c
 |mp=>
  cases u with
  |mapv q=>simp[Sh.get]at c;subst c;exact .inl rfl
  |_=>simp[Sh.get]at c
 |cpx k=>
  cases u with
  |val u=>cases u with
   |complex i a b=>
    simp only[Sh.get]at c;by_cases hk:k=i
    .subst hk;simp at c;subst c;exact .inl rfl
    .simp[hk]at c
   |_=>simp[Sh.get]at c
  |_=>simp[Sh.get]at c
 |arr o m=>
  cases u with
  |arr j p r=>
   simp only[Sh.get]at c
   cases hb:(decide (o=j)&&Nat.beq m p)with
   |false=>simp[hb]at c
   |true=>simp[hb]at c;subst c;simp only[Bool.and_eq_true,decide_eq_true_eq]at hb;obtain⟨rfl,l⟩:=hb;have:=Nat.eq_of_beq_eq_true l;subst this;exact .inl rfl
  |_=>simp[Sh.get]at c
def ownHA_eq{p:SV×Ob}(h:ownH n u=some p):ownHA n u=some p:=by
 cases u<;>first|exact h|(simp[ownH]at h)
def Zmr{R:Type}:∀(b:List Sh) (f:ITy b R) (d:List SV) (K c:R->Prop),Zby b f d K->Zby b f d c->∃x,K x/\c x
 | [],f,[],K,c,h,h'=>⟨f,h,h'⟩
 |s::b,f,v::d,K,c,h,h'=>by
  simp only[Zby]at h h'
  split at h
  next x e=>simp only[e]at h';exact Zmr b _ d K c h h'
  .exact h.elim
 | [],_,_::_,_,_,h,_=>h.elim
 |_::_,_,[],_,_,h,_=>h.elim
def Zkz:∀(c:List Sh) (I:ITy c Prop) (m:ITy c Nat) (K:List SV->Nat->Prop) (b:List SV),allI c I m K->Zby c I b (λp=>p)->
  ∃d k,Nrms b d/\K d k/\Zby c m b (λj=>j=k)
 | [],I,m,K,[],ha,hi=>⟨[],m,⟨rfl,Vs⟩,ha hi,rfl⟩
 | [],I,m,K,_::_,ha,hi=>hi.elim
 |s::c,I,m,K,[],ha,hi=>hi.elim
 |s::c,I,m,K,v::b,ha,hi=>by
  simp only[Zby]at hi
  split at hi
  .rename_i x g;obtain⟨d,k,⟨o,q⟩,r,t⟩:=Zkz c (I x) (m x) _ b (ha x) hi;refine⟨s.sv x::d,k,⟨by simp[o],λi l n e f=>?_⟩,r,?_⟩
   .cases i with
    |zero=>simp at e f;subst e;subst f;exact Sh.get_nrm g
    |succ i=>exact q i l n (by simpa using e) (by simpa using f)
   .simp only[Zby,g];exact t
  .exact hi.elim
section
variable{X:Cx}{h:Hp}{ρ ρ':Nat->Loc}{st:St}{a:Act}{w:World}{objs:List (Nat×Ob)}
def Nrm.rep{d b:SV}(n:Nrm d b){v:Value}(r:Rep h ρ v d):Rep h ρ v b:=by
 rcases n with rfl|⟨sz,rows,tok,sz',rfl,rfl,hz⟩
 .exact r
 .cases r with
  |pure _ _ c=>
   refine .pure _ _ (c.tok0.fix ?_)
   rcases hz with e|e
   .exact .inl e
   .exact .inr e
def Nrm.own{d f:SV}(n:Nrm d f){id:Nat}{g:SV}{o:Ob}(e:ownH id d=some (g,o)):∃b,ownH id f=some (g,b)/\(∀x,b≠ .box x)/\∀(h:Hp) (ρ:Nat->Loc) (w:World),ObOK h ρ w id o->ObOK h ρ w id b:=by
 rcases n with rfl|⟨sz,rows,tok,sz',rfl,rfl,hz⟩
 .refine⟨o,e,?_,λ_ _ _ r=>r⟩;unfold ownH at e
  split at e
  .cases e;simp
  .cases e;simp
  .cases e
 .simp only[ownH]at e
  cases e
  refine⟨.own sz' rows,rfl,Vs,λh ρ w r=>?_⟩
  rcases r with⟨c,i⟩|⟨c,o⟩
  .exact .inl ⟨c,i⟩
  .have:sz=sz':=hz.resolve_right (by have:=o.pos;omega);subst this;exact .inr ⟨c,o⟩
def Zr5(id:Nat):∀(t k:List SV) (j:Nat) (g:List Bool) (m:List SV) (q:List (Nat×Ob)),Nrms t k->Zay id j g t=some (m,q)->
  ∃f l,Zay id j g k=some (f,l)/\f.length=m.length/\(∀(h:Hp) (ρ:Nat->Loc) (i:Nat) v c s,m[i]?=some c->f[i]?=some s->Rep h ρ v c->Rep h ρ v s)/\
   (∀c u,(c,u)∈l->(∀x,u≠ .box x)/\∃o,(c,o)∈q/\∀(h:Hp) (ρ:Nat->Loc) (w:World),ObOK h ρ w c o->ObOK h ρ w c u)
 | [],[],j,g,m,q,_,e=>by simp[Zay]at e;obtain⟨rfl,rfl⟩:=e;exact⟨[],[],rfl,rfl,Vs,Vs⟩
 | [],_::_,j,g,m,q,n,e=>by have:=n.1;simp at this
 |_::_,[],j,g,m,q,n,e=>by have:=n.1;simp at this
 |d::t,d'::k,j,g,m,q,n,e=>by
  have F:Nrm d d':=n.2 0 d d' rfl rfl
  have U:Nrms t k:=⟨by have:=n.1;simpa using this,λi v G z H=>n.2 (i+1) v G (by simpa using z) (by simpa using H)⟩
  simp only[Zay]at e
  split at e
  .cases e
  .rename_i A C z;obtain⟨f,l,e1,e2,D,E⟩:=Zr5 id t k (j+1) g.tail A C U z
   cases hm:g.headD false with
   |true=>
    simp only[hm,cond_true]at e
    split at e
    next J o K=>
     cases e
     obtain⟨L,M,N,O⟩:=F.own K;refine⟨J::f,(Zi8 id g j,L)::l,by simp only[Zay,e1,hm,cond_true,M],by simp[e2],λh ρ i v c s p b r=>?_,λc u y=>?_⟩
     .cases i with
      |zero=>simp at p b;subst p;subst b;exact r
      |succ i=>exact D h ρ i v c s (by simpa using p) (by simpa using b) r
     .rcases List.mem_cons.1 y with e'|y
      .cases e';exact⟨N,o,Vs,O⟩
      .obtain⟨P,Q,R,T⟩:=E c u y;exact⟨P,Q,by simp[R],T⟩
    .cases e
   |false=>
    simp only[hm,cond_false]at e
    cases e
    refine⟨d'::f,l,by simp only[Zay,e1,hm,cond_false],by simp[e2],λh ρ i v c s p b r=>?_,E⟩
    cases i with
    |zero=>simp at p b;subst p;subst b;exact F.rep r
    |succ i=>exact D h ρ i v c s (by simpa using p) (by simpa using b) r
def fixL'_nil(P:Program)(b:List SV):fixL' P [] b=b:=by cases b<;>rfl
def Zdj:∀(b j:Nat) (g:List Bool) (i k:List SV) (f:List (Option Nat×Nat)),Za4 objs b j g i=some (k,f)->k.length=i.length
 |b,j,g,[],k,f,e=>by simp[Za4]at e;simp[e.1]
 |b,j,g,c::i,k,f,e=>by
  simp only[Za4]at e
  split at e
  next d l m n p o=>
   cases e
   simp[Zdj b (j+1) g.tail i m n o]
  .cases e
def Zgc(y:∀id o,oget objs id=some o->ObOK h ρ w id o)(b:Nat){j k f:List SV}{l:List Bool}{d:List (Option Nat×Nat)}(e:Za4 objs b 0 l j=some (k,d))(G:Pulls d ρ ρ')(n:Nrms k f):
  ∃g z,Zay b 0 l f=some (g,z)/\g.length=j.length/\(∀(i:Nat) v c m,j[i]?=some c->g[i]?=some m->Rep h ρ v c->Rep h ρ' v m)/\PassOK objs h ρ' w d z:=by
 obtain⟨q,A,e1,e2,J,t,N,_⟩:=Zd9 (P:=(default:Program)) y b j 0 l [] k d e G;rw[fixL'_nil]at e1;obtain⟨C,D,K,O,L,E⟩:=Zr5 b k f 0 l q A n e1;refine⟨C,D,K,Vo,λi v c m H p r=>?_,⟨λc o s=>?_,λc o s=>?_,t.here⟩⟩
 .have F:i<q.length:=(by have:=(Y0.1 p).1;omega);exact L h ρ' i v _ m (List.getElem?_eq_getElem F) p (J i v c _ H (List.getElem?_eq_getElem F) r)
 .obtain⟨_,u,x,M⟩:=E c o s;exact M h ρ' w (t.ob c u x)
 .obtain⟨_,u,x,_⟩:=E c o s;exact t.at_ c u x
def Zwt(F:FitsAt X h ρ st a w):∀(l:List (Nat×Bool×List Sh)) (A C D o g:List SV) (p:List (Option Nat×Nat)) (H:List (Nat×Ob)),Zgl st l=some (A,p)->Pulls p ρ ρ'->Nrms A (C.take A.length)->
  Zjv l C D=some (o,H,g)->g=C.drop A.length/\PassOK st.objs h ρ' w p H/\o.length=D.length/\∀(t:Nat) s,o[t]?=some s->D[t]?=some s\/Rep h ρ' (a.tmps.getD t undef) s
 | [],A,C,D,o,g,p,H,e,hp,n,hm=>by simp[Zgl]at e;obtain⟨rfl,rfl⟩:=e;simp[Zjv]at hm;obtain⟨rfl,rfl,rfl⟩:=hm;exact⟨Vs,PassOK.nil,rfl,λt s f=>.inl f⟩
 |(t,ag,ss)::r,A,C,D,o,g,p,H,e,hp,n,hm=>by
  simp only[Zgl]at e
  split at e
  next d l u ls j h2=>
   cases e
   have G:=Nrms.split (a1:=d) (a2:=u) n;obtain⟨M,T⟩:=G;have N:=n.1;simp at N;rw[List.take_take]at M;rw[show min d.length (d++u).length=d.length by simp]at M
   have Y:Nrms u ((C.drop d.length).take u.length):=by
    rw[List.drop_take]at T
    simpa using T
   have Z:∃q,Za4 st.objs (128*t+95) 0 (ownMs ss) q=some (d,l)/\d.length=ss.length/\((ag=true/\lget st.tmps t= .agg q)\/(ag=false/\q=[lget st.tmps t])):=by
    split at j
    next q E=>
     cases m:Nat.beq (lenN q) ss.length with
     |false=>simp[m]at j
     |true=>simp only[m,cond_true]at j;have:=Zdj _ _ _ _ _ _ j;have m:=Nat.eq_of_beq_eq_true m;rw[Zaz]at m;exact⟨q,j,Vo,.inl ⟨rfl,E⟩⟩
    .cases m:Nat.beq ss.length 1 with
     |false=>simp[m]at j
     |true=>simp only[m,cond_true]at j;have:=Zdj _ _ _ _ _ _ j;have m:=Nat.eq_of_beq_eq_true m;simp at this;exact⟨_,j,Vo,.inr ⟨rfl,rfl⟩⟩
    .cases j
   obtain⟨q,z,U,J⟩:=Z;simp only[Zjv,Zfk,Zfl]at hm;rw[<-U]at hm;obtain⟨K,a5,g1,g2,V,g4⟩:=Zgc F.obj (128*t+95) z hp.left M;simp only[g1]at hm
   split at hm
   next a3 Q a4 R=>
    cases hm
    obtain⟨q1,q2,q3,q4⟩:=Zwt F r u _ _ o g ls Q h2 hp.right Y R;refine⟨by rw[q1,YN];simp,g4.append q2,by rw[q3];simp[Zer],λk s f=>?_⟩
    rcases q4 k s f with f|f
    .rw[Zer,List.getElem?_set]at f;by_cases hk:t=k
     .subst hk;simp only[if_true]at f
      split at f
      .cases f
       right
       have y:=F.slot [] Vs t
       rcases J with⟨rfl,E⟩|⟨rfl,rfl⟩
       .rw[E]at y;simp only[ungd]at y;obtain⟨va,L,a6,W⟩:=y.agg_inv';rw[L];refine .agg va K Vo λi v c L O=>?_;have hi:i<q.length:=by have:=(Y0.1 O).1;omega
        exact V i v _ c (List.getElem?_eq_getElem hi) O (W i v _ L (List.getElem?_eq_getElem hi))
       .match K,g2 with
        | [c],_=>
         simp only
         have a0:∀P b x,lget st.tmps t≠ .gd P b x:=by
          intro P b x e;rw[e]at z;simp only[Za4]at z
          cases hmm:(ownMs ss).headD false<;>simp[Zgh,Zaq]at z
         rw[Zpg a0]at y;exact V 0 _ _ c rfl rfl y
      .cases f
     .simp only[hk,if_false]at f;exact .inl f
    .exact .inr f
   .cases hm
  .cases e
def Zwu(u:∀id o,oget objs id=some o->ObOK h ρ w id o):∀(l:List (Nat×List Sh)) (m q f:List SV) (g:List (Option Nat×Nat)) (y:List (Nat×Ob)),Zee objs l=some (m,g)->Pulls g ρ ρ'->Nrms m (q.take m.length)->
  Zm0 l q=some (y,f)->f=q.drop m.length/\PassOK objs h ρ' w g y
 | [],m,q,f,g,y,e,hp,n,hm=>by simp[Zee]at e;obtain⟨rfl,rfl⟩:=e;simp[Zm0]at hm;obtain⟨rfl,rfl⟩:=hm;exact⟨Vs,PassOK.nil⟩
 |(id,ss)::r,m,q,f,g,y,e,hp,n,hm=>by
  simp only[Zee]at e
  split at e
  next d l j E s W=>
   cases e
   obtain⟨A,L⟩:=Nrms.split (a1:=d) (a2:=j) n;rw[List.take_take]at A;rw[show min d.length (d++j).length=d.length by simp]at A
   have P:Nrms j ((q.drop d.length).take j.length):=by
    rw[List.drop_take]at L
    simpa using L
   split at s
   next F G=>
    cases x:Nat.beq (lenN F) ss.length with
    |false=>simp[x]at s
    |true=>
     simp only[x,cond_true]at s;have x:=Nat.eq_of_beq_eq_true x;rw[Zaz]at x;have Q:d.length=ss.length:=by have:=Zdj _ _ _ _ _ _ s;omega
     have k:ρ' id=ρ id:=hp (some id,id) Vs;have R:Pulls l ρ ρ':=λp b=>hp p (by simp[b]);have T:Pulls E ρ ρ':=λp b=>hp p (by simp[b]);obtain⟨M,a4,Z,g2,g3,g4⟩:=Zgc u id s R A;simp only[Zm0,Zfk,Zfl]at hm;rw[<-Q,Z]at hm
     split at hm
     next a0 Y H a3 J K=>
      cases J
      cases hm
      obtain⟨q1,q2⟩:=Zwu u r j _ f E H W T P K;obtain⟨N,⟨cv,t,O,a5,z⟩,hno⟩:=u id _ G;refine⟨by rw[q1,YN];simp,?_⟩
      have C:PassOK objs h ρ' w [(some id,id)] [(id,.box M)]:=by
       refine⟨λc o b=>?_,λc o b=>?_,λi c b=>?_⟩
       .simp at b;obtain⟨rfl,rfl⟩:=b;refine⟨by rw[k];exact N,⟨cv,t,by rw[k];exact O,Vo,λi v c V D=>?_⟩,by rw[k];exact hno⟩;have U:i<F.length:=by have:=(Y0.1 D).1;omega
        obtain⟨r1,r2⟩:=z i v _ V (List.getElem?_eq_getElem U);exact⟨g3 i v _ c (List.getElem?_eq_getElem U) D r1,r2⟩
       .simp at b;exact⟨(some id,id),Vs,b.1.symm⟩
       .simp at b;rw[b.1];exact⟨_,G⟩
      have:=(C.append g4).append q2
      simpa using this
     .cases hm
   .cases s
  .cases e
def owns_ok(t:∀id o,oget objs id=some o->ObOK h ρ w id o):∀(l:List (Nat×Sh)) (A g:List SV) (j:List (Option Nat×Nat)) (C:List (Nat×Ob)),Zfs objs l=some (A,j)->Pulls j ρ ρ'->Nrms A g->
  Zob l g=some C->PassOK objs h ρ' w j C
 | [],A,g,j,C,e,hp,n,hm=>by simp[Zfs]at e;obtain⟨rfl,rfl⟩:=e;simp[Zob]at hm;subst hm;exact PassOK.nil
 |(id,s)::r,A,g,j,C,e,hp,n,hm=>by
  simp only[Zfs]at e
  split at e
  next d G K k H=>
   cases e
   cases g with
   |nil=>simp[Zob]at hm
   |cons v g=>
    simp only[Zob]at hm
    split at hm
    next Y o L E M=>
     cases hm
     have N:Nrm d v:=n.2 0 d v rfl rfl
     have V:Nrms G g:=⟨by have:=n.1;simpa using this,λi x P k H=>n.2 (i+1) x P (by simpa using k) (by simpa using H)⟩
     have y:ρ' id=ρ id:=hp (some id,id) Vs;have O:Pulls K ρ ρ':=λp b=>hp p (by simp[b]);have q:=owns_ok t r G g K L H O V M
     have z:∀(u:Ob),oget objs id=some u->(∃F,ownH id d=some (F,u))->(∀x,u≠ .box x)->PassOK objs h ρ' w [(some id,id)] [(id,o)]:=by
      rintro u f ⟨F,hown⟩ hnb;obtain⟨D,T,g2,U⟩:=N.own hown;rw[ownHA_eq T]at E
      cases E
      refine⟨λc D b=>?_,λc D b=>?_,λi c b=>?_⟩
      .simp at b;obtain⟨rfl,rfl⟩:=b;exact U h ρ' w ((t c u f).move hnb y)
      .simp at b;exact⟨(some id,id),Vs,b.1.symm⟩
      .simp at b;rw[b.1];exact⟨_,f⟩
     have J:PassOK objs h ρ' w [(some id,id)] [(id,o)]:=by
      split at k
      next Z rows f=>cases k;exact z _ f ⟨_,rfl⟩ Vs
      next es f=>cases k;exact z _ f ⟨_,rfl⟩ Vs
      next Q m R f=>
       cases k
       have W:v= .arr Q m R:=by
        rcases N with e|⟨_,_,_,_,e,_⟩
        .exact e
        .cases e
       subst W;simp[ownHA]at E;obtain⟨rfl,rfl⟩:=E;refine⟨λc D b=>?_,λc D b=>?_,λi c b=>?_⟩
       .simp at b;obtain⟨rfl,rfl⟩:=b;exact(t c _ f).move Vs y
       .simp at b;exact⟨(some id,id),Vs,b.1.symm⟩
       .simp at b;rw[b.1];exact⟨_,f⟩
      .cases k
     exact J.append q
    .cases hm
  .cases e
def Zbk(b:List Nat)(s:SV):keepV b s= .unk\/(keepV b s=s/\(Zav s=true\/(∃id off,s= .ptr id off/\id∈b)\/(∃id,s= .osl id/\id∈b)\/(∃id,s= .omp id/\id∈b))):=by
 unfold keepV
 cases hp:Zav s with
 |true=>exact .inr ⟨rfl,.inl rfl⟩
 |false=>
  simp only[cond_false]
  split
  next id off=>
   cases hh:hasN b id with
   |true=>exact .inr ⟨rfl,.inr (.inl ⟨id,off,rfl,Zky.1 hh⟩)⟩
   |false=>exact .inl rfl
  next id=>
   cases hh:hasN b id with
   |true=>exact .inr ⟨rfl,.inr (.inr (.inl ⟨id,rfl,Zky.1 hh⟩))⟩
   |false=>exact .inl rfl
  next id=>
   cases hh:hasN b id with
   |true=>exact .inr ⟨rfl,.inr (.inr (.inr ⟨id,rfl,Zky.1 hh⟩))⟩
   |false=>exact .inl rfl
  .exact .inl rfl
def keepV_rep{b:List Nat}(r:Rep h ρ v u):Rep h ρ v (keepV b u):=by
 rcases Zbk b u with e|⟨e,_⟩
 .rw[e];exact .pure _ _ (.unk _)
 .rw[e];exact r
def Zn4{b:List Nat}(c:∀id∈b,ρ' id=ρ id)(r:Rep h ρ v (keepV b u)):Rep h ρ' v (keepV b u):=by
 rcases Zbk b u with e|⟨e,hc⟩
 .rw[e];exact .pure _ _ (.unk _)
 .rw[e]at r|-
  rcases hc with hp|⟨id,off,rfl,hm⟩|⟨id,rfl,hm⟩|⟨id,rfl,hm⟩
  .exact .pure _ _ (r.toPure hp)
  .rw[r.ptr_inv,<-c id hm];exact .ptr id off
  .rcases r.osl_inv with⟨d,p,rfl⟩|⟨d,rfl⟩
   .exact .osl0 id p (by rw[c id hm];exact d)
   .rw[<-c id hm]at d|-;exact .osl id d
  .rw[r.omp_inv,<-c id hm];exact .omp id
def Ziz(b:List Nat):∀(d:List SV),(keepL b d).length=d.length/\∀i:Nat,(keepL b d)[i]?=(d[i]?).map (keepV b)
 | []=>by simp[keepL]
 |c::d=>by
  obtain⟨e,f⟩:=Ziz b d;refine⟨by simp[keepL,e],λi=>?_⟩
  cases i with
  |zero=>simp[keepL]
  |succ i=>simpa[keepL]using f i
def Zb3(wr d:List Nat):∀(e:List SV) (b:Nat),(Zao wr d b e).length=e.length/\∀(i:Nat) s,(Zao wr d b e)[i]?=some s->∃c,e[i]?=some c/\((s= .unk)\/(b+i∉wr/\s=keepV d c))
 | [],b=>by simp[Zao]
 |c::e,b=>by
  obtain⟨k,l⟩:=Zb3 wr d e (b+1);refine⟨by simp[Zao,k],λi s f=>?_⟩
  cases i with
  |zero=>
   simp[Zao]at f;refine⟨c,Vs,?_⟩
   cases hh:hasN wr b with
   |true=>simp[hh]at f;exact .inl f.symm
   |false=>simp[hh]at f;refine .inr ⟨λj=>?_,f.symm⟩;have:=Zky.2 j;simp at this;rw[hh]at this;cases this
  |succ i=>obtain⟨m,g,n⟩:=l i s (by simpa[Zao]using f);refine⟨m,by simpa using g,?_⟩;rw[show b+(i+1)=b+1+i by omega];exact n
def Zej:∀(l c:List SV),Zas l c=true->c.length=l.length/\∀(i:Nat) s s',l[i]?=some s->c[i]?=some s'->keptV s s'=true
 | [],[],_=>Vs
 | [],_::_,h=>by simp[Zas]at h
 |_::_,[],h=>by simp[Zas]at h
 |s::ss,s'::ss',h=>by
  simp only[Zas,Bool.and_eq_true]at h;obtain⟨f,g⟩:=Zej ss ss' h.2;refine⟨by simp[f],λi x e d b=>?_⟩
  cases i with
  |zero=>simp at d b;subst d;subst b;exact h.1
  |succ i=>exact g i x e (by simpa using d) (by simpa using b)
def Zp3{s b:SV}(h:keptV s b=true)(c:(∃id off,s= .ptr id off)\/(∃id,s= .osl id)\/(∃id,s= .omp id)):b=s:=by
 rcases c with⟨id,off,rfl⟩|⟨id,rfl⟩|⟨id,rfl⟩
 .cases b<;>simp[keptV]at h
  rw[h.1,h.2]
 .cases b<;>simp[keptV]at h
  rw[h]
 .cases b<;>simp[keptV]at h
  rw[h]
def Zwv{objs0:List (Nat×Ob)}(b:List Nat)(E:∀id o,oget objs id=some o->ObOK h ρ w id o)(u:∀id∈b,ρ' id=ρ id):∀(l:List Nat),(∀id∈l,id∈b)->(Zam b objs0 l).isSome=true->Zam b objs l=Zam b objs0 l->
  PassOK objs h ρ' w (l.map λid=>(some id,id)) (Zm1 b objs0 l)
 | [],_,_,_=>PassOK.nil
 |id::r,hk,hs,he=>by
  simp only[Zam]at hs he;have g:ρ' id=ρ id:=u id (hk id Vs)
  cases ho0:oget objs0 id with
  |none=>simp[ho0]at hs
  |some p=>
   cases hr0:Zam b objs0 r with
   |none=>cases p<;>simp[ho0,hr0]at hs
   |some D=>
    cases hr:Zam b objs r with
    |none=>
     exfalso;rw[hr,hr0,ho0]at he
     cases ho:oget objs id with
     |none=>rw[ho]at he;cases p<;>simp at he
     |some o=>rw[ho]at he;cases o<;>cases p<;>simp at he
    |some G=>
     cases ho:oget objs id with
     |none=>exfalso;rw[hr,hr0,ho0,ho]at he;cases p<;>simp at he
     |some o=>
      rw[hr,hr0,ho0,ho]at he;have C:G=D:=by cases o<;>cases p<;>simp at he<;>exact he.2
      have q:=Zwv b E u r (λi P=>hk i (by simp[P])) (by rw[hr0];rfl) (by rw[hr,hr0,C]);have k:=E id o ho
      have F:ObOK h ρ' w id (Zoc b p):=by
       have d:∀f x,keepL b f=[.gd 0 true x]->False:=by
        intro f x e2;have:=(Ziz b f).2 0;rw[e2]at this
        cases z:f[0]? with
        |none=>simp[z]at this
        |some c=>
         simp[z]at this
         rcases Zbk b c with e|⟨e,n⟩
         .rw[e]at this;cases this
         .rw[e]at this;subst this
          rcases n with n|⟨_,_,n,_⟩|⟨_,n,_⟩|⟨_,n,_⟩
          .simp[Zav]at n
          all_goals cases n
       cases p with
       |box y=>
        cases o with
        |box f=>
         simp at he;obtain⟨M,⟨T,t,N,Z,A⟩,hno⟩:=k;have W:=(Ziz b f).1;rw[he.1]at W;refine⟨by rw[g];exact M,⟨T,t,by rw[g];exact N,Vo,λi v c Q z=>?_⟩,by rw[g];exact hno⟩;have s:=(Ziz b f).2 i;rw[he.1,z]at s
         cases hci:f[i]? with
         |none=>simp[hci]at s
         |some Y=>simp[hci]at s;obtain⟨U,V⟩:=A i v Y Q hci;rw[s];exact⟨Zn4 u (keepV_rep U),V⟩
        |own H rows=>simp at he;exact(d y _ he.1.symm).elim
        |mp J=>simp at he;exact(d y _ he.1.symm).elim
        |arr K m L=>simp at he;exact(d y _ he.1.symm).elim
       |own a0 O=>
        cases o with
        |box f=>simp at he;exact(d f _ he.1).elim
        |own H rows=>simp at he;obtain⟨⟨rfl,rfl⟩,_⟩:=he;exact k.move (by simp[Zoc]) g
        |mp J=>simp at he
        |arr K m L=>simp at he
       |mp a1=>
        cases o with
        |box f=>simp at he;exact(d f _ he.1).elim
        |own H rows=>simp at he
        |arr K m L=>simp at he
        |mp J=>simp at he;obtain⟨rfl,_⟩:=he;exact k.move (by simp[Zoc]) g
       |arr a2 m0 a3=>
        cases o with
        |box f=>simp at he;exact(d f _ he.1).elim
        |own H rows=>simp at he
        |mp J=>simp at he
        |arr K m L=>simp at he;obtain⟨⟨rfl,rfl,rfl⟩,_⟩:=he;exact k.move (by simp[Zoc]) g
      have n:PassOK objs h ρ' w [(some id,id)] [(id,Zoc b p)]:=by
       refine⟨λc R j=>?_,λc R j=>?_,λi c j=>?_⟩
       .simp at j;obtain⟨rfl,rfl⟩:=j;exact F
       .simp at j;exact⟨(some id,id),Vs,j.1.symm⟩
       .simp at j;rw[j.1];exact⟨_,ho⟩
      simp only[Zm1,ho0];exact n.append q
def Zms(F:FitsAt X h ρ st a w){g:LoopSpec}{wr:List Nat}{st0 Y:St}{A r:List SV}{b:List (Option Nat×Nat)}(E:Zen g st=some (A,b))(N:headOK g wr b=true)(hn:Nrms A r)
  (hk:∀(t:Nat) s,(Zao wr (Zad g) 0 st0.tmps)[t]?=some s->Rep h ρ (a.tmps.getD t undef) s) (Q:st0.tmps.length=st.tmps.length) (Z:(Zam (Zad g) st0.objs g.fixed).isSome=true)
  (a0:Zam (Zad g) st.objs g.fixed=Zam (Zad g) st0.objs g.fixed) (f:Zhc g wr st0 r=some Y):∃ρ',FitsAt X h ρ' Y a w:=by
 unfold Zen at E
 split at E
 next d1 G d2 H d3 J h1 h2 h3=>
  cases E
  simp only[headOK,Bool.and_eq_true,List.all_eq_true]at N;obtain⟨⟨⟨⟨⟨⟨_,_⟩,C⟩,D⟩,a9⟩,_⟩,_⟩:=N;have C:=Za0 C;have D:=Za0 D
  let b:=G++H++J++g.fixed.map λid=>((some id,id):Option Nat×Nat)
  have e1:b.filterMap (·.1)=(G++H++J).filterMap (·.1)++g.fixed:=by
   have:∀l:List Nat,(l.map λid=>((some id,id):Option Nat×Nat)).filterMap (·.1)=l:=by
    intro l;induction l with
    |nil=>rfl
    |cons x W q=>simp only[List.map_cons,WA,q]
   simp only[b,List.filterMap_append,this]
  have e2:b.map (·.2)=(G++H++J).map (·.2)++g.fixed:=by
   have:∀l:List Nat,(l.map λid=>((some id,id):Option Nat×Nat)).map (·.2)=l:=by
    intro l;induction l with
    |nil=>rfl
    |cons x W q=>simp only[List.map_cons,q]
   simp only[b,List.map_append,this]
  let ρ':=pull b ρ ρ
  have j:Pulls b ρ ρ':=Zfa ρ ρ (by rw[e2];exact D)
  have K:∀(l:List (Nat×List Sh)) n m,Zee st.objs l=some (n,m)->∀p∈l,(some p.1,p.1)∈m:=by
   intro l
   induction l with
   |nil=>intro n m _ p j;simp at j
   |cons x W q=>
    obtain⟨i,ss⟩:=x;intro n m e p j;simp only[Zee]at e
    split at e
    next d l a1 a2 y z=>
     cases e
     rcases List.mem_cons.1 j with rfl|j
     .simp
     .simp[q _ _ z p j]
    .cases e
  have L:∀(l:List (Nat×Sh)) n m,Zfs st.objs l=some (n,m)->∀p∈l,(some p.1,p.1)∈m:=by
   intro l
   induction l with
   |nil=>intro n m _ p j;simp at j
   |cons x W q=>
    obtain⟨i,ss⟩:=x;intro n m e p j;simp only[Zfs]at e
    split at e
    next d a1 a2 y z=>
     cases e
     rcases List.mem_cons.1 j with rfl|j
     .simp
     .simp[q _ _ z p j]
    .cases e
  have u:∀id∈Zad g,ρ' id=ρ id:=by
   intro id f;simp only[Zad,List.mem_append,Y5]at f
   rcases f with(⟨p,k,rfl⟩|⟨p,k,rfl⟩)|f
   .exact j (some p.1,p.1) (by simp[b,K _ _ _ h2 p k])
   .exact j (some p.1,p.1) (by simp[b,L _ _ _ h3 p k])
   .exact j (some id,id) (by simp[b,f])
  unfold Zhc at f
  split at f
  next tm a3 O a4=>
   split at f
   next a5 P a6=>
    split at f
    next a7 a8=>
     cases f
     have n0:Nrms (d1++(d2++d3)) r:=(by rw[<-List.append_assoc];exact hn);obtain⟨n1,aa⟩:=n0.split;obtain⟨n2,T⟩:=aa.split;obtain⟨q1,P1,q3,q4⟩:=Zwt (ρ':=ρ') F g.slots d1 r _ tm O G a3 h1 (λp f=>j p (by simp[b,f])) n1 a4;rw[<-q1]at n2 T;obtain⟨q5,P2⟩:=Zwu (ρ':=ρ') F.obj g.boxes d2 O P H a5 h2 (λp f=>j p (by simp[b,f])) n2 a6;rw[<-q5]at T;have P3:=owns_ok (ρ':=ρ') F.obj g.owns d3 P J a7 h3 (λp f=>j p (by simp[b,f])) T a8;have P4:=Zwv (ρ':=ρ') (objs0:=st0.objs) (Zad g) F.obj u g.fixed (λid f=>by simp[Zad,f]) Z a0;have V:=((P1.append P2).append P3).append P4;refine⟨ρ',{F with size:=?_,tm:=λt s hs=>?_,obj:=λid o e=>V.ob id o (Zcc e),inj:=?_,own:=?_,pin:=?_}⟩
     .rw[F.size,<-Q,<-(Zb3 wr (Zad g) st0.tmps 0).1];exact q3.symm
     .rcases q4 t s hs with hs'|M
      .have M:=hk t s hs';obtain⟨c,_,U|⟨_,U⟩⟩:=(Zb3 wr (Zad g) st0.tmps 0).2 t s hs'
       .rw[U];exact TRep.rep_unk _ _
       .rw[U]at M|-;exact TRep.of_rep' (Zn4 u M)
      .exact TRep.of_rep' M
     .exact Zwr V j (by rw[e1];exact C) F.inj
     .rintro i ⟨⟨o,e⟩,hni⟩;obtain⟨id,c,f,ab,eb⟩:=Zp0 V j ⟨i,⟨⟨o,e⟩,hni⟩,rfl⟩;rw[<-eb];exact F.own id ab
     .intro id l R;obtain⟨y,z⟩:=F.pin id l R;refine⟨?_,z⟩;by_cases hx:∃p∈b,p.2=id
      .obtain⟨p,k,rfl⟩:=hx;have v:=j p k;simp only[b]at k
       rcases List.mem_append.1 k with hpm'|hpm'
       .have:=a9 p hpm';simp only[z,Bool.false_or]at this;obtain⟨p1,p2⟩:=p
        cases p1 with
        |none=>simp at this
        |some id=>simp at this;subst this;simp only at v;rw[v];exact y
       .obtain⟨x,_,rfl⟩:=Y5.1 hpm';simp only at v y|-;rw[v];exact y
      .have:ρ' id=ρ id:=Zn0 ρ ρ (λp k e=>hx ⟨p,k,e⟩);rw[this];exact y
    .cases f
   .cases f
  .cases f
 .cases E
end
end Go.Px
namespace Go.Px
open Go.RowKit
def Ex.to:Ex->Exit
 | .normal=>.normal
 | .exit id=>.exit id
 | .ret=>.ret
def FitsAt.rebase{X:Cx}{h:Hp}{b:Nat->Loc}{c:St}{a:Act}{w:World}(F:FitsAt X h b c a w):FitsAt {X with h:=h} h b c a w:=
 {F with mono:=HLe.refl h,ext:=λ_ _ _ _ e=>e,gl:=⟨F.gl.1.le F.mono,F.gl.2⟩}
def FitsAt.unbase{X:Cx}{d h:Hp}{f g:Nat->Loc}{st0 i:St}{l a:Act}{w0 w:World}(c:FitsAt X d f st0 l w0)(F:FitsAt {X with h:=d} h g i a w):FitsAt X h g i a w:=
 {F with mono:=c.mono.trans F.mono,ext:=λb j k o e=>F.ext b j k o (c.ext b j k o e),gl:=c.gl}
def Zzt:∀(b:List (Nat×Nat)) (wr:List Nat) (a:List SV) {t:Nat} {c:SV},t∉unP b wr->(setP b a)[t]?=some c->Zav c=true->t∉wr/\a[t]?=some c:=by
 intro b wr a t c q g r
 have f:∀(b:List (Nat×Nat)) (a:List SV),(setP b a)[t]?=some c->t∉b.map (·.1)/\a[t]?=some c:=by
  intro b
  induction b with
  |nil=>intro a h;exact⟨Vs,h⟩
  |cons p b m=>
   intro a h;obtain⟨j,d⟩:=m (lset a p.1 (.ptr p.2 0)) h
   have k:∀(l:List SV) (n i:Nat) (v:SV),(lset l n v)[i]?=some c->(i=n/\c=v)\/(i≠n/\l[i]?=some c):=by
    intro l
    induction l with
    |nil=>intro n i v h;simp[lset]at h
    |cons x s o=>
     intro n i v h
     cases n with
     |zero=>
      grind [lset]
     |succ n=>
      cases i with
      |zero=>simp[lset]at h;exact .inr ⟨Vo,by simpa using h⟩
      |succ i=>
       simp[lset]at h
       grind
   rcases k a p.1 t _ d with⟨_,e⟩|⟨e1,e2⟩
   .grind [Zav]
   grind
 obtain⟨j,d⟩:=f b a g
 simp_all[List.mem_filter,unP,hasN]
def Zdl{X:Cx}{o h:Hp}{l Q:Nat->Loc}{f g:St}{n a:Act}{w0 w:World}(R:FitsAt X o l f n w0){d:LoopSpec}{wr:List Nat}(J:(Zam (Zad d) f.objs d.fixed).isSome=true)
   {y:List (Option Nat×Nat)} (D:FitsAt {X with h:=o} h Q g a w) (L:Fr wr n a) (T:Zen d g=some (C,y)) (E:headOK d (unP d.ptrs wr) y=true)
  (q:Zas (Zao (unP d.ptrs wr) (Zad d) 0 (setP d.ptrs f.tmps)) g.tmps=true) (M:Zam (Zad d) g.objs d.fixed=Zam (Zad d) f.objs d.fixed) {I:ITy (Za2 d) Prop} {m:ITy (Za2 d) Nat} {K:St->Prop}
  (U:allI (Za2 d) I m λW _=>match Zhc d (unP d.ptrs wr) {f with tmps:=setP d.ptrs f.tmps} W with|none=>False|some j=>K j) (V:Zby (Za2 d) I C (λp=>p)):
  ∃j,Fits {X with h:=o} j a w/\K j:=by
 obtain⟨a1,k,Z,G,hm⟩:=Zkz _ I m _ _ U V
 split at G
 .exact G.elim
 .rename_i j N;obtain⟨O,g2⟩:=Zej _ _ q;obtain⟨k1,k2⟩:=Zb3 (unP d.ptrs wr) (Zad d) (setP d.ptrs f.tmps) 0
  obtain⟨P,F'⟩:=Zms (st0:={f with tmps:=setP d.ptrs f.tmps}) D T E Z (λt s F=>by
   obtain⟨c,H,u⟩:=k2 t s F
   rcases u with rfl|⟨i,rfl⟩
   .exact .pure _ _ (.unk _)
   .rw[Ye]at i
    rcases Zbk (Zad d) c with e|⟨e,hcs⟩
    .rw[e];exact .pure _ _ (.unk _)
    .have z:t<g.tmps.length:=(by rw[O];exact(Y0.1 F).1);have A:=g2 t _ _ F (List.getElem?_eq_getElem z);rw[e]at A|-
     rcases hcs with hp|hcs
     .obtain⟨i,H⟩:=Zzt d.ptrs wr f.tmps i H hp;rw[L t i];have v:=R.tm t c H;have hr:Rep o l (n.tmps.getD t undef) c:=v.out (λY b x r=>by subst r;simp[Zav]at hp);exact .pure _ _ ((hr.toPure hp).mono D.mono)
     .have he:=Zp3 A (by
       rcases hcs with⟨id,off,e,_⟩|⟨id,e,_⟩|⟨id,e,_⟩
       .exact .inl ⟨id,off,e⟩
       .exact .inr (.inl ⟨id,e⟩)
       .exact .inr (.inr ⟨id,e⟩))
      have v:=D.tm t _ (List.getElem?_eq_getElem z);rw[he]at v
      exact v.out (λY b x r=>by rcases hcs with⟨id,off,e,_⟩|⟨id,e,_⟩|⟨id,e,_⟩<;>rw[e]at r<;>cases r)) (by rw[O,k1]) J M N
  exact⟨j,⟨h,P,F'⟩,G⟩
def Zkm{P:Program}(Sg:FuncId->Sig)(Sv:TypeId->Sig)(L:Nat->Option LoopSpec):∀(c:Code) (X:Cx) (j:St) (a:Act) (w:World) (J:Ex->St->Prop) (Q:Exit->Act->World->Prop),
  (∀e j M w,Fits X j M w->Fr (Zah c) a M->J e j->Q e.to M w)->Fits X j a w->vc P Sg Sv L c j J->c.wp P Q a w:=by
 intro c
 induction c with
 |skip=>intro X j a w J Q A F n;exact wp_skip (A .normal j a w F (Fr.refl _ _) n)
 |region id O ao=>
  intro X j a w J Q A F n
  cases ao with
  |true=>
   simp only[vc]at n
   cases hok:(P.follows .mixedOrders&&Zfr O)with
   |false=>simp[hok]at n
   |true=>
    simp only[hok,cond_true]at n;simp only[Bool.and_eq_true]at hok
    split at n
    .exact Zsd Sg Sv id O hok.1 hok.2 j a w F _ n Q (λj a w F C E=>A .normal j a w F C E)
    .rename_i d _;obtain⟨h0,ak,V⟩:=F;have Fb:=V.rebase;unfold cutC at n
     cases hs0:(Zam (Zad d) j.objs d.fixed).isSome with
     |false=>simp only[hs0,cond_false]at n
     |true=>
      simp only[hs0,cond_true]at n;obtain⟨I,m,h1,h2⟩:=n;refine Zsd Sg Sv id O hok.1 hok.2 j a w ⟨_,_,Fb⟩ _ h1 Q (λg G w1 T C E=>?_)
      split at E
      .exact E.elim
      next v z Z=>
       cases D:(headOK d (unP d.ptrs (O.toList.filterMap (·.dst))) z&&Zas (Zao (unP d.ptrs (O.toList.filterMap (·.dst))) (Zad d) 0 (setP d.ptrs j.tmps)) (St.frzAll (Zal g d) g).tmps)with
       |false=>simp only[D,cond_false]at E
       |true=>simp only[D,cond_true]at E;simp only[Bool.and_eq_true]at D;obtain⟨hx,W,R⟩:=T;obtain⟨hy,_,Fy⟩:=R.frzAll (Zal g d);obtain⟨U,⟨hz,a4,Fz⟩,a5⟩:=Zdl V hs0 Fy C Z D.1 D.2 E.1 h2 E.2;exact A .normal U G w1 ⟨hz,a4,V.unbase Fz⟩ C a5
  |false=>
   simp only[vc]at n
   split at n
   .exact wp_region_list (Zdt Sg Sv O Q _ (Zah (.region id O false)) a (λj a w F C E=>A .normal j a w F C E) O.toList j a w (λo ho t K=>YF.2 ⟨o,ho,K⟩) (Fr.refl _ _) F n)
   .rename_i d _;obtain⟨h0,ak,V⟩:=F;have Fb:=V.rebase;unfold cutC at n
    cases hs0:(Zam (Zad d) j.objs d.fixed).isSome with
    |false=>simp only[hs0,cond_false]at n
    |true=>
     simp only[hs0,cond_true]at n;obtain⟨I,m,h1,h2⟩:=n;refine wp_region_list (Zdt Sg Sv O Q _ (Zah (.region id O false)) a (λg G w1 T C E=>?_) O.toList j a w (λo ho t K=>YF.2 ⟨o,ho,K⟩) (Fr.refl _ _) ⟨_,_,Fb⟩ h1)
     split at E
     .exact E.elim
     next v z Z=>
      cases D:(headOK d (unP d.ptrs (O.toList.filterMap (·.dst))) z&&Zas (Zao (unP d.ptrs (O.toList.filterMap (·.dst))) (Zad d) 0 (setP d.ptrs j.tmps)) (St.frzAll (Zal g d) g).tmps)with
      |false=>simp only[D,cond_false]at E
      |true=>simp only[D,cond_true]at E;simp only[Bool.and_eq_true]at D;obtain⟨hx,W,R⟩:=T;obtain⟨hy,_,Fy⟩:=R.frzAll (Zal g d);obtain⟨U,⟨hz,a4,Fz⟩,a5⟩:=Zdl V hs0 Fy C Z D.1 D.2 E.1 h2 E.2;exact A .normal U G w1 ⟨hz,a4,V.unbase Fz⟩ C a5
 |seq x y aa ab=>
  intro X j a w J Q A F n;refine wp_seq (aa X j a w _ _ ?_ F n);intro e H M w' N C u;have af:Fr (Zah (.seq x y)) a M:=C.mono (λt K=>by simp[Zah,K])
  cases e with
  |normal=>exact ab X H M w' J Q (λe ap a2 w2 F2 aq h2=>A e ap a2 w2 F2 (af.trans (aq.mono (λt K=>by simp[Zah,K]))) h2) N u
  |exit id=>exact A (.exit id) H M w' N af u
  |ret=>exact A .ret H M w' N af u
 |cond c x y aa ab=>
  intro X j a w J Q A F n;simp only[vc]at n
  split at n
  .rename_i b D;obtain⟨h,ρ,N⟩:=F;have r:=N.operand [] Vs c;rw[D]at r
   split at n
   .refine wp_cond_split r.val_inv (λe=>aa X j a w J Q (λe j M w F C=>A e j M w F (C.mono (λt K=>by simp[Zah,K]))) ⟨h,ρ,N⟩ (by subst e;exact n)) (λe=>ab X j a w J Q (λe j M w F C=>A e j M w F (C.mono (λt K=>by simp[Zah,K]))) ⟨h,ρ,N⟩ (by subst e;exact n))
   .rename_i d _;have Fb:=N.rebase;unfold cutC at n
    cases hs0:(Zam (Zad d) j.objs d.fixed).isSome with
    |false=>simp only[hs0,cond_false]at n
    |true=>
     simp only[hs0,cond_true]at n;obtain⟨I,m,h1,h2⟩:=n
     have go:∀(e:Ex) (g:St) (G:Act) (w1:World),Fits {X with h:=h} g G w1->Fr (Zah x++Zah y) a G->
       (match e with
       | .normal=>(match Zen d (St.frzAll (Zal g d) g)with
        |none=>False
        |some (v,z)=>bif headOK d (unP d.ptrs (Zah x++Zah y)) z&&Zas (Zao (unP d.ptrs (Zah x++Zah y)) (Zad d) 0 (setP d.ptrs j.tmps)) (St.frzAll (Zal g d) g).tmps then
          Zam (Zad d) (St.frzAll (Zal g d) g).objs d.fixed=Zam (Zad d) j.objs d.fixed/\Zby (Za2 d) I v (λp=>p)else False)
       | .exit i=>J (.exit i) g
       | .ret=>J .ret g)->Q e.to G w1:=by
      intro e g G w1 T C u;have ag:Fr (Zah (.cond c x y)) a G:=C.mono (λt K=>by simpa[Zah]using K);have Y:Fits X g G w1:=by obtain⟨hx,W,R⟩:=T;exact⟨hx,W,N.unbase R⟩
      cases e with
      |normal=>
       simp only[]at u
       split at u
       .exact u.elim
       next v z Z=>
        cases D:(headOK d (unP d.ptrs (Zah x++Zah y)) z&&Zas (Zao (unP d.ptrs (Zah x++Zah y)) (Zad d) 0 (setP d.ptrs j.tmps)) (St.frzAll (Zal g d) g).tmps)with
        |false=>simp only[D,cond_false]at u
        |true=>simp only[D,cond_true]at u;simp only[Bool.and_eq_true]at D;obtain⟨hx,W,R⟩:=T;obtain⟨hy,_,Fy⟩:=R.frzAll (Zal g d);obtain⟨U,⟨hz,a4,Fz⟩,a5⟩:=Zdl N hs0 Fy C Z D.1 D.2 u.1 h2 u.2;exact A .normal U G w1 ⟨hz,a4,N.unbase Fz⟩ ag a5
      |exit i=>exact A (.exit i) g G w1 Y ag u
      |ret=>exact A .ret g G w1 Y ag u
     refine wp_cond_split r.val_inv (λe=>aa {X with h:=h} j a w _ Q (λe g G w1 T C u=>go e g G w1 T (C.mono (λt K=>by simp[K])) u) ⟨_,_,Fb⟩ (by subst e;exact h1))
      (λe=>ab {X with h:=h} j a w _ Q (λe g G w1 T C u=>go e g G w1 T (C.mono (λt K=>by simp[K])) u) ⟨_,_,Fb⟩ (by subst e;exact h1))
  .exact n.elim
 |block id q ih=>
  intro X j a w J Q A F n;simp only[vc]at n
  split at n
  .refine wp_block (ih X j a w _ _ ?_ F n);intro e H M w' N C u
   cases e with
   |normal=>exact A .normal H M w' N C u
   |exit i=>
    simp only[Ex.to,Exit.inBlock];by_cases hi:i=id
    .subst hi;simp only[Y6,cond_true]at u;rw[if_pos rfl];exact A .normal H M w' N C u
    .simp only[Zak hi,cond_false]at u;rw[if_neg hi];exact A (.exit i) H M w' N C u
   |ret=>exact A .ret H M w' N C u
  .rename_i d _;obtain⟨h0,ak,V⟩:=F;have Fb:=V.rebase;unfold cutC at n
   cases hs0:(Zam (Zad d) j.objs d.fixed).isSome with
   |false=>simp only[hs0,cond_false]at n
   |true=>
    simp only[hs0,cond_true]at n;obtain⟨I,m,h1,h2⟩:=n;refine wp_block (ih {X with h:=h0} j a w _ _ ?_ ⟨_,_,Fb⟩ h1);intro e g G w1 T C u;have Y:Fits X g G w1:=by obtain⟨hx,W,R⟩:=T;exact⟨hx,W,V.unbase R⟩
    have out:(match Zen d (St.frzAll (Zal g d) g)with
      |none=>False
      |some (v,z)=>bif headOK d (unP d.ptrs (Zah q)) z&&Zas (Zao (unP d.ptrs (Zah q)) (Zad d) 0 (setP d.ptrs j.tmps)) (St.frzAll (Zal g d) g).tmps then
        Zam (Zad d) (St.frzAll (Zal g d) g).objs d.fixed=Zam (Zad d) j.objs d.fixed/\Zby (Za2 d) I v (λp=>p)else False)->Q .normal G w1:=by
     intro E
     split at E
     .exact E.elim
     next v z Z=>
      cases D:(headOK d (unP d.ptrs (Zah q)) z&&Zas (Zao (unP d.ptrs (Zah q)) (Zad d) 0 (setP d.ptrs j.tmps)) (St.frzAll (Zal g d) g).tmps)with
      |false=>simp only[D,cond_false]at E
      |true=>simp only[D,cond_true]at E;simp only[Bool.and_eq_true]at D;obtain⟨hx,W,R⟩:=T;obtain⟨hy,_,Fy⟩:=R.frzAll (Zal g d);obtain⟨U,⟨hz,a4,Fz⟩,a5⟩:=Zdl V hs0 Fy C Z D.1 D.2 E.1 h2 E.2;exact A .normal U G w1 ⟨hz,a4,V.unbase Fz⟩ C a5
    cases e with
    |normal=>exact out u
    |exit i=>
     simp only[Ex.to,Exit.inBlock];by_cases hi:i=id
     .subst hi;simp only[Y6,cond_true]at u;rw[if_pos rfl];exact out u
     .simp only[Zak hi,cond_false]at u;rw[if_neg hi];exact A (.exit i) g G w1 Y C u
    |ret=>exact A .ret g G w1 Y C u
 |exit id=>intro X j a w J Q A F n;exact wp_exit (A (.exit id) j a w F (Fr.refl _ _) n)
 |ret=>intro X j a w J Q A F n;exact wp_ret (A .ret j a w F (Fr.refl _ _) n)
 |loop q ih=>
  intro X a7 a0 w0 J Q A ac n;simp only[vc]at n;generalize(L (loopKey q)).getD (Zxo Sg Sv q a7)=d at n;obtain⟨b2,ae,ac⟩:=ac;obtain⟨h0,_,V⟩:=ac.frzAll (Zal a7 d);generalize St.frzAll (Zal a7 d) a7=j at n V;have Fb:=V.rebase
  split at n
  .exact n.elim
  next a3 a6 ar=>
   cases hok:(headOK d (Zah q) a6&&(Zam (Zad d) j.objs d.fixed).isSome)with
   |false=>simp only[hok,cond_false]at n
   |true=>
    simp only[hok,cond_true]at n;simp only[Bool.and_eq_true]at hok;obtain⟨I,m,h1,h2⟩:=n
    have a9:∀(g:St) (a:Act) (w:World) (h:Hp) (ρ:Nat->Loc) (a3:List SV) (a6:List (Option Nat×Nat)),FitsAt {X with h:=h0} h ρ g a w->Fr (Zah q) a0 a->Zen d g=some (a3,a6)->headOK d (Zah q) a6=true->
      Zas (Zao (Zah q) (Zad d) 0 j.tmps) g.tmps=true->Zam (Zad d) g.objs d.fixed=Zam (Zad d) j.objs d.fixed->Zby (Za2 d) I a3 (λp=>p)->
      ∃k U,Zby (Za2 d) m a3 (λk'=>k'=k)/\Fits {X with h:=h0} U a w/\vc P Sg Sv L q U λe g=>match e with
       | .normal=>match Zen d (St.frzAll (Zal g d) g)with
        |none=>False
        |some (v,z)=>bif headOK d (Zah q) z&&Zas (Zao (Zah q) (Zad d) 0 j.tmps) (St.frzAll (Zal g d) g).tmps then
          Zam (Zad d) (St.frzAll (Zal g d) g).objs d.fixed=Zam (Zad d) j.objs d.fixed/\Zby (Za2 d) I v (λp=>p)/\Zby (Za2 d) m v (λk'=>k'<k)else False
       |e=>J e g:=by
     intro g a w h ρ a3 a6 T ad hh an ah au hi;obtain⟨b4,k,hn,E,hm⟩:=Zkz _ I m _ _ h2 hi
     split at E
     .exact E.elim
     .rename_i U av;obtain⟨g1,g2⟩:=Zej _ _ ah;obtain⟨k1,k2⟩:=Zb3 (Zah q) (Zad d) j.tmps 0
      obtain⟨aw,N⟩:=Zms T hh an hn (λt s hs=>by
       obtain⟨c,hc,ai⟩:=k2 t s hs
       rcases ai with rfl|⟨hnw,rfl⟩
       .exact .pure _ _ (.unk _)
       .rw[Ye]at hnw
        rcases Zbk (Zad d) c with e|⟨e,hcs⟩
        .rw[e];exact .pure _ _ (.unk _)
        .have al:t<g.tmps.length:=(by rw[g1];exact(Y0.1 hs).1);have am:=g2 t _ _ hs (List.getElem?_eq_getElem al);rw[e]at am|-
         rcases hcs with hp|hcs
         .rw[ad t hnw];have K:=V.tm t c hc;have hr:Rep h0 ae (a0.tmps.getD t undef) c:=K.out (λt' b x e'=>by subst e';simp[Zav]at hp);exact .pure _ _ ((hr.toPure hp).mono T.mono)
         .have u:=Zp3 am (by
           rcases hcs with⟨id,off,e,_⟩|⟨id,e,_⟩|⟨id,e,_⟩
           .exact .inl ⟨id,off,e⟩
           .exact .inr (.inl ⟨id,e⟩)
           .exact .inr (.inr ⟨id,e⟩))
          have K:=T.tm t _ (List.getElem?_eq_getElem al);rw[u]at K
          exact K.out (λt' b x e'=>by rcases hcs with⟨id,off,e,_⟩|⟨id,e,_⟩|⟨id,e,_⟩<;>rw[e]at e'<;>cases e')) (by rw[g1,k1]) hok.2 au av
      exact⟨k,U,hm,⟨h,aw,N⟩,E⟩
    have aj:Zas (Zao (Zah q) (Zad d) 0 j.tmps) j.tmps=true:=by
     have:∀(l:List SV) (t:Nat),Zas (Zao (Zah q) (Zad d) t l) l=true:=by
      intro l
      induction l with
      |nil=>intro t;rfl
      |cons c cs b1=>
       intro t;simp only[Zao,Zas,b1,Bool.and_true]
       cases hh:hasN (Zah q) t with
       |true=>rfl
       |false=>
        simp only[cond_false]
        rcases Zbk (Zad d) c with e|⟨e,_⟩
        .rw[e];cases c<;>rfl
        .rw[e];cases c<;>simp[keptV]
     exact this _ _
    obtain⟨k0,ax,_,ay,az⟩:=a9 j a0 w0 h0 ae a3 a6 Fb (Fr.refl _ _) ar hok.1 aj rfl h1
    refine Zt9 (λk a w=>Fr (Zah q) a0 a/\∃U,Fits {X with h:=h0} U a w/\vc P Sg Sv L q U λe g=>match e with
       | .normal=>match Zen d (St.frzAll (Zal g d) g)with
        |none=>False
        |some (v,z)=>bif headOK d (Zah q) z&&Zas (Zao (Zah q) (Zad d) 0 j.tmps) (St.frzAll (Zal g d) g).tmps then
          Zam (Zad d) (St.frzAll (Zal g d) g).objs d.fixed=Zam (Zad d) j.objs d.fixed/\Zby (Za2 d) I v (λp=>p)/\Zby (Za2 d) m v (λk'=>k'<k)else False
       |e=>J e g) k0 ⟨Fr.refl _ _,ax,ay,az⟩ ?_
    rintro k a w ⟨ad,U,N,hb'⟩;refine ih {X with h:=h0} U a w _ _ ?_ N hb';intro e H M w' R C u;have a8:=ad.trans C;have Y:Fits X H M w':=by obtain⟨hx,W,R⟩:=R;exact⟨hx,W,V.unbase R⟩
    cases e with
    |normal=>
     simp only[]at u
     split at u
     .exact u.elim
     next v z Z=>
      cases D:(headOK d (Zah q) z&&Zas (Zao (Zah q) (Zad d) 0 j.tmps) (St.frzAll (Zal H d) H).tmps)with
      |false=>simp[D]at u
      |true=>simp only[D,cond_true]at u;simp only[Bool.and_eq_true]at D;obtain⟨e1,e2,e3⟩:=u;obtain⟨hx,W,R⟩:=R;obtain⟨hy,_,Fy⟩:=R.frzAll (Zal H d);obtain⟨k',b0,g1,g2,g3⟩:=a9 _ M w' hy W v z Fy a8 Z D.1 D.2 e1 e2;refine⟨k',?_,a8,b0,g2,g3⟩;obtain⟨x,b6,b7⟩:=Zmr _ m _ _ _ e3 g1;omega
    |exit id=>exact A (.exit id) H M w' Y a8 u
    |ret=>exact A .ret H M w' Y a8 u
 |rangeFunc f ps x y _ _=>intro X j a w J Q A F n;exact n.elim
 |scope c _=>intro X j a w J Q A F n;exact n.elim
 |label l=>intro X j a w J Q A F n;exact n.elim
 |goto l=>intro X j a w J Q A F n;exact n.elim
 |refuse s=>intro X j a w J Q A F n;exact n.elim
end Go.Px
namespace Go.Px
open Go.RowKit
section
variable{X:Cx}{h:Hp}{ρ ρ':Nat->Loc}{st:St}{a:Act}{w:World}{P:Program}{objs:List (Nat×Ob)}
def Zlm(b:Array Value):ResultVar->Sem Value
 | .tmp t=>pure (b.getD t undef)
 | .cell a t=>do loadVar t (<-asAddr (b.getD a undef))
def Zsn(F:FitsAt X h ρ st a w)(r:ResultVar){s:SV}(c:resOf P st r=some s):∃v,(Zlm a.tmps r).run P w= .ok v w/\Rep h ρ v s:=by
 cases r with
 |tmp t=>
  simp only[resOf]at c
  split at c
  .cases c
  .cases c
   exact⟨_,by simp[Zlm],F.slot [] Vs t⟩
 |cell t ty=>
  simp only[resOf]at c
  split at c
  next H b=>
   cases c
   unfold arrRes at b
   split at b
   next id i=>
    split at b
    next j m q k l y g=>
     cases hb:(decide (j=k)&&Nat.beq m l)with
     |false=>simp only[hb,cond_false]at b;cases b
     |true=>
      simp only[hb,cond_true]at b
      cases b
      simp only[Bool.and_eq_true,decide_eq_true_eq]at hb;obtain⟨rfl,z⟩:=hb;have E:m=l:=Nat.eq_of_beq_eq_true z;subst E;obtain⟨e,f⟩:=Zir F y;obtain⟨A,n,C⟩:=Zwk (P:=P) (w:=w) g e f;have o:=F.slot [] Vs t;rw[i]at o;have G:=o.ptr_inv;refine⟨.agg A,?_,.pure _ _ (.arr _ j m q e n)⟩;simp[Zlm,G,asAddr,C w rfl]
    .cases b
   .cases b
  obtain⟨u,D,_,d,r⟩:=Zj6 F (F.slot [] Vs t) c;refine⟨u,?_,r⟩;have d:=d w rfl;simp only[Zlm,Sem.run_bind];simp only[Instr.loadAt,Sem.run_bind]at d;generalize a.tmps.getD t undef=x at*
  cases x with
  |pointer p=>cases p with
   |none=>simp[Instr.sureAddr]at d
   |some D=>simp[Instr.sureAddr]at d;simp[asAddr,d]
  |_=>simp[Instr.sureAddr]at d
def Zfy(F:FitsAt X h ρ st a w):∀(l:List ResultVar) (b:List SV),Zod P st l=some b->
  ∃d:List Value,(l.mapM (Zlm a.tmps)).run P w= .ok d w/\d.length=b.length/\∀(i:Nat) v s,d[i]?=some v->b[i]?=some s->Rep h ρ v s
 | [],b,e=>by simp[Zod]at e;subst e;exact⟨[],Vs,rfl,Vs⟩
 |r::rs,b,e=>by
  simp only[Zod]at e
  split at e
  next s f j k=>
   cases e
   obtain⟨v,m,q⟩:=Zsn F r j;obtain⟨d,g,n,t⟩:=Zfy F rs f k;refine⟨v::d,by simp[Wd,m,g],by simp[n],λi u c o p=>?_⟩
   grind
  .cases e
def Zln{d:Func}{c:List Value}{b:Array Value}(h:(d.results.toList.mapM (Zlm b)).run P w= .ok c w):(results d b).run P w= .ok (rets c) w:=by
 have e:results d b=(do let c<-d.results.mapM (Zlm b);pure (if h:c.size=1 then c[0]else .tuple c)):=(by unfold results;rfl);rw[e,Array.mapM_eq_mapM_toList];simp only[Sem.run_bind,Sem.run_map,h,Result.andThen_ok,Sem.run_pure];congr 1
 match c with
 | []=>rfl
 | [v]=>rfl
 |v::v'::c=>simp[rets]
def Zca(j:∀id o,oget objs id=some o->ObOK h ρ w id o)(c:List TypeId):∀(q:List Md) (i:Nat) (f:List SV) (b:List (Option Nat×Nat)),Zeo P objs c i q=some (f,b)->Pulls b ρ ρ'->
  ∃g,lentH i q f=some g/\PassOK objs h ρ' w b g/\∀(k:Nat) m,q[k]?=some (.lend m)->(some (pId (i+k)),pId (i+k))∈b/\∃s,oget objs (pId (i+k))=some (.box s)
 | [],i,f,b,e,hp=>by simp[Zeo]at e;obtain⟨rfl,rfl⟩:=e;exact⟨[],rfl,PassOK.nil,Vs⟩
 | .pure::r,i,f,b,e,hp=>by
  obtain⟨g,e1,e2,A⟩:=Zca j c r (i+1) f b (by simpa[Zeo]using e) hp;refine⟨g,by simpa[lentH]using e1,e2,λk m u=>?_⟩
  grind
 | .own::r,i,f,b,e,hp=>by
  obtain⟨g,e1,e2,A⟩:=Zca j c r (i+1) f b (by simpa[Zeo]using e) hp;refine⟨g,by simpa[lentH]using e1,e2,λk m u=>?_⟩
  grind
 | .lend q::r,i,f,b,e,hp=>by
  simp only[Zeo]at e
  split at e
  next d l x D n E=>
   cases e
   obtain⟨L,J,t,_,G⟩:=Ziw (P:=P) j (c.getD i 0) n hp.left;obtain⟨g,e1,e2,A⟩:=Zca j c r (i+1) x D E hp.right
   have C:∃s p v,d= .agg s/\oget objs (pId i)=some (.box p)/\l=(some (pId i),pId i)::v:=by
    unfold Zgi at n;simp only[]at n
    split at n
    .rename_i p K;simp at n
     grind
    .cases n
   obtain⟨s,p,v,rfl,H,rfl⟩:=C;simp only[normM,argH]at t
   split at t
   next y z F=>
    cases t
    refine⟨(pId i,.box y)::z++g,by simp only[normM,lentH,e1,F],G.append e2,λk m u=>?_⟩
    grind
   .cases t
  .cases e
end
def Zcd{X:Cx}{a:Act}{w:World}{K:St->Prop}:∀(f:List ResultVar) {st:St},Fits X st a w->Zkj f st K->∃k,Fits X k a w/\K k
 | [],st,F,b=>⟨st,F,b⟩
 | .cell _ _::f,st,F,b=>Zcd f F b
 | .tmp t::f,st,F,b=>by
  unfold Zkj at b
  split at b
  next id d c H=>
   split at b
   next s rows m=>
    cases hid:idOK id with
    |false=>simp only[hid,cond_false]at b
    |true=>
     simp only[hid,cond_true]at b;obtain⟨u,b⟩:=b;refine Zcd f ?_ b;obtain⟨h,ρ,F⟩:=F
     have y:st.tmps[t]?=some (.osv id (.ofNat 0) d c):=by
      grind [Zcn]
     have n:Rep h ρ (a.tmps.getD t undef) (.osv id 0 d c):=F.tm t _ y;obtain⟨p,v,J,L,M,E,G⟩:=n.osv_inv;simp only[rlen,Y7]at u
     have fin:∀(l:Loc),FitsAt X h (upd ρ id l) (st.bind id (.own s (rsub rows 0 d))) a w->Rep h (upd ρ id l) (a.tmps.getD t undef) (.osl id)->Fits X (st.close t id s (rsub rows 0 d)) a w:=λl q r=>by
      refine⟨h,_,q.weaken _ (by simp[St.close,Zer]) (λz A g=>?_) (λ_ _ e=>e)⟩;simp only[St.close,Zer,List.getElem?_set]at g
      split at g
      .grind [TRep.of_rep']
      .exact q.tm z A g
     by_cases hc0:c=0
     .have e1:d=0:=Vo;have e2:rsub rows 0 d=[]:=(by subst e1;simp[rsub]);refine fin noLoc (F.bind id hid _ noLoc (.inl ⟨by rw[Zac];rfl,e2⟩) (by simp[noLoc]) (by simp[noLoc])) ?_;rw[v,e1,hc0];exact .osl0 id p (by rw[Zac];rfl)
     .obtain⟨j,own,x⟩:=Zj8 F m E Vo;have e2:rsub rows 0 d=rows.take d.toNat:=(by simp[rsub]);have o:=own.first d.toNat Vo
      refine fin {ρ id with len:=d.toNat} (F.bind id hid _ {ρ id with len:=d.toNat} (.inr ⟨by rw[Zac];exact j,by rw[Zac,e2];exact o⟩) (λ_=>F.own id ⟨⟨_,m⟩,j⟩) (λ_ i C D=>F.inj i id D ⟨⟨_,m⟩,j⟩ C)) ?_;rw[v,G Vo,x];have:=Rep.osl (h:=h) (ρ:=upd ρ id {ρ id with len:=d.toNat}) id (by rw[Zac];exact j)
      grind [Zac]
   grind
  .exact Zcd f F b
open Classical in
theorem fn_sound{P:Program}(Sg:FuncId->Sig)(Sv:TypeId->Sig)(L:Nat->Option LoopSpec){f:FuncId}{b:Func}{c:Code}{g:Sig}{n:List SV}{Q:List SV->Prop}(hf:P.funcs[f]?=some b)(hb:b.body=some c)(E:b.name≠ "runtime.NumGoroutine")
  (hv:vc P Sg Sv L c (Zxp L b g n) (fin P b g Q)):Ct P f g n Q:=by
 refine⟨⟨b,hf,by rw[hb];rfl,E⟩,λu objs ac h ρ w p H K A=>?_⟩;refine calls_of_wp hf hb ?_
 have hst:start b g n={tmps:=u++List.replicate (b.ntmps-u.length) .unk,objs:=objs}:=by
  grind [start]
 have W:p.size=u.length:=by have:=A.1;simpa using this
 let X:Cx:={w:=w,h:=h,G:=Gv objs ρ,pin:=λid=>if(∃i J,g.ps[i]?=some (.lend J)/\id=pId i)\/id∈Zb8 0 g.ps then some (ρ id)else none}
 have F:FitsAt X h ρ {tmps:=u++List.replicate (b.ntmps-u.length) .unk,objs:=objs} {tmps:=p++Array.replicate (b.ntmps-p.size) undef,defers:=[]} w:=by
  refine⟨by simp[W],λt s q=>?_,rfl,H.sub,λid o ho=>H.obj id o (Zcc ho),H.inj,λi x=>.inr ⟨i,x,rfl⟩,HLe.refl _,λ_ _ _ _ e=>e,Keeps.refl _ _,λid l hp=>?_,K,K.off (λi ⟨⟨o,e⟩,hn⟩=>ObOK.hnone (H.obj i o (Zcc e)) hn)⟩
  .simp only[]at q;rw[List.getElem?_append]at q;by_cases ht:t<u.length
   .rw[if_pos ht]at q
    have a9:(p++Array.replicate (b.ntmps-p.size) undef).getD t undef=p[t]'Vo:=by
     simp_all[Wm]
    simp only[a9];exact TRep.of_rep' (A.2 t _ s Vs q)
   grind [TRep.rep_unk]
  grind [Zoq,Zlc]
 have FM:Fits X (Zxp L b g n) {tmps:=p++Array.replicate (b.ntmps-p.size) undef,defers:=[]} w:=by
  unfold Zxp;rw[hst]
  cases(L 3000003).isSome with
  |true=>exact⟨h,_,F.bind 6 Vd (.own 0 []) noLoc (.inl ⟨by rw[Zac];rfl,rfl⟩) (by simp[noLoc]) (by simp[noLoc])⟩
  |false=>cases(L 3000002).isSome with
  |true=>exact⟨h,_,F.bind 5 Vd (.own 0 []) noLoc (.inl ⟨by rw[Zac];rfl,rfl⟩) (by simp[noLoc]) (by simp[noLoc])⟩
  |false=>cases(L 3000001).isSome with
  |true=>exact⟨h,_,F.bind 4 Vd (.own 0 []) noLoc (.inl ⟨by rw[Zac];rfl,rfl⟩) (by simp[noLoc]) (by simp[noLoc])⟩
  |false=>cases(L 3000000).isSome with
  |false=>exact⟨h,ρ,F⟩
  |true=>exact⟨h,_,F.bind 3 Vd (.own 0 []) noLoc (.inl ⟨by rw[Zac];rfl,rfl⟩) (by simp[noLoc]) (by simp[noLoc])⟩
 refine Zkm Sg Sv L c X _ _ _ _ _ ?_ FM hv;intro e O a y a0 _ R
 have D:Zkj b.results.toList O (finC P b g Q)->a.defers=[]/\∃v,(results b a.tmps).run P y= .ok v y/\Back g objs h ρ w Q (.returned v) y:=by
  intro a1;obtain⟨st0,hF,ad⟩:=Zcd _ a0 a1
  have af:finC P b g Q st0->a.defers=[]/\∃v,(results b a.tmps).run P y= .ok v y/\Back g objs h ρ w Q (.returned v) y:=by
   intro d;obtain⟨h1,r,F1⟩:=hF;unfold finC at d
   split at d
   .grind
   .rename_i N ae;obtain⟨h2,_,j⟩:=F1.frzAll (Zde st0.objs g.rs 0 N++Zhu st0.objs 0 g.ps);simp only[]at d;generalize St.frzAll (Zde st0.objs g.rs 0 N++Zhu st0.objs 0 g.ps) st0=st at d j
    split at d
    .grind
    next ss a2=>
     split at d
     next T C ls z a3 a4=>
      cases k:(Zbw ((C++z).filterMap (·.1))&&Zbw ((C++z).map (·.2))&&Zsb z (Zb8 0 g.ps))with
      |false=>simp only[k,cond_false]at d
      |true=>
       simp only[k,cond_true]at d;simp only[Bool.and_eq_true]at k;have hst:=k.2;have k:=k.1;have aa:=Za0 k.1;have ab:=Za0 k.2
       let ρ':=pull (C++z) r (λ_=>noLoc)
       have m:Pulls (C++z) r ρ':=Zfa r _ ab;obtain⟨U,V,hl,hr⟩:=Zfy j _ _ a2;obtain⟨a5,a6,e1,e2,e3,e4,e5⟩:=Zc5 (P:=P) (ρ':=ρ') j.obj rId g.rs b.resultTypes.toList ss 0 T C a3 m.left;obtain⟨a7,g1,g2,g3⟩:=Zca (P:=P) (ρ':=ρ') j.obj b.params.toList g.ps 0 ls z a4 m.right;have ag:U.length=T.length:=Vo;have PA:=e5.append g2;refine⟨j.df,rets U,Zln V,U,h2,ρ',T++ls,a5,a6++a7,rfl,d,?_,⟨Vo,λi v s hv q=>?_⟩,pass_holds PA m aa j.sub j.inj,λi x=>?_,⟨λi J x=>?_,λid M=>?_⟩,j.mono,j.ext,j.kp⟩
       .simp_all[endH,e1]
       .grind
       .obtain⟨id,c,hm,a8,eb⟩:=Zp0 PA m ⟨i,x,rfl⟩;rw[<-eb];exact j.own id a8
       .obtain⟨q1,cs,q2⟩:=g3 i J x;rw[Ye]at q1 q2;have Y:=j.pin (pId i) (ρ (pId i)) (by simp only[X];rw[if_pos (.inl ⟨i,J,x,rfl⟩)]);have Z:ρ' (pId i)=r (pId i):=m (some (pId i),pId i) (by simp[q1]);have hn:=(j.obj _ _ q2).1
        grind
       .have Y:=j.pin id (ρ id) (by simp only[X];rw[if_pos (.inr M)]);have Z:ρ' id=r id:=m (some id,id) (YH _ (Znc hst M))
        grind
     grind
  grind
 cases e with
 |normal=>exact D R
 |ret=>exact D R
 |exit id=>exact R.elim
def fn_of{P:Program}(i:FuncId->Sig)(j:TypeId->Sig)(L:Nat->Option LoopSpec){f:FuncId}{d:Sig}{b:List SV}{Q:List SV->Prop}{X:Prop}(c:Func)(k:P.funcs[f]?=some c)(g:(c.name== "runtime.NumGoroutine")=false)
  (e:X=vcF P i j L c d b Q) (h:X):Ct P f d b Q:=by
 grind [vcF,fn_sound]
def fO{P:Program}{f:FuncId}{sg:Sig}{rs:List SV}{Q:List SV->Prop}{X:Prop}{fn:Func}(Sg:FuncId->Sig)(Sv:TypeId->Sig)(L:Nat->Option LoopSpec)(hf:P.funcs[f]?=some fn)(h:X)(hn:(fn.name== "runtime.NumGoroutine")=false:=by kernel_rfl)(e:X=vcF P Sg Sv L fn sg rs Q:=by kernel_rfl):Ct P f sg rs Q:=fn_of Sg Sv L fn hf hn e h
def fN{P:Program}{f:FuncId}{sg:Sig}{rs:List SV}{Q:List SV->Prop}{X:Prop}{fn:Func}(Sg:FuncId->Sig)(Sv:TypeId->Sig)(hf:P.funcs[f]?=some fn)(h:X)(hn:(fn.name== "runtime.NumGoroutine")=false:=by kernel_rfl)(e:X=vcF P Sg Sv (λ_=>none) fn sg rs Q:=by kernel_rfl):Ct P f sg rs Q:=fn_of Sg Sv _ fn hf hn e h
end Go.Px
namespace Go.Px
open Go.RowKit Go.ChangeShapes Go.WideShapes Go.ChangeAt
def hof(w:World):Hp:=λb o=>w.cell? ⟨b,o,none⟩
def hof_sub(w:World):HSub (hof w) w:=λ_ _ _ e=>e
def Zbo{c:Type}(Q:c->List SV->Prop):List c->List SV->Prop
 | [],ss=>ss=[]
 |x::xs,ss=>∃a b,ss=a++b/\Q x a/\Zbo Q xs b
def Zu2(P:Program):Nat->List Field->Bool
 |_,[]=>true
 |off,f::fs=>Nat.beq f.offset off&&Zu2 P (off+P.cellsOf f.type) fs
def lay(P:Program):Nat->TypeId->Bool
 |0,_=>false
 |n+1,t=>match P.underlying t with
  |some (.slice e)=>Nat.ble 1 (P.cellsOf e)&&lay P n e
  |some (.struct fs)=>Zu2 P 0 fs.toList&&Nat.beq (P.cellsOf t) ((fs.toList.map λf=>P.cellsOf f.type).foldr (·+·) 0)&&fs.toList.all λf=>lay P n f.type
  |some (.array m e)=>Nat.beq (P.cellsOf t) (m*P.cellsOf e)&&lay P n e
  |_=>true
section
variable{H:Type}{enc:TypeId×Value->H}{P:Program}{w:World}{spare:Nat->Bool}{held:Bool}
def Reads(w:World)(a:List Value)(b:List SV):Prop:=b.length=a.length/\∀(i:Nat) v s,a[i]?=some v->b[i]?=some s->PRep (hof w) v s/\v.oneCell'=true
def Reads.val(v:Value)(h:v.oneCell'=true):Reads w [v] [.val v]:=
 ⟨rfl,λi u s a b=>by cases i with
  |zero=>simp at a b;subst a;subst b;exact⟨.val v,h⟩
  |succ i=>simp at a⟩
def Reads.append{e f:List Value}{g h:List SV}(d:Reads w e g)(j:Reads w f h):Reads w (e++f) (g++h):=by
 refine⟨by simp[d.1,j.1],λi v s c a=>?_⟩;rw[List.getElem?_append]at c a;rw[d.1]at a
 split at c
 next b=>rw[if_pos b]at a;exact d.2 i v s c a
 next b=>rw[if_neg b]at a;exact j.2 _ v s c a
def Reads.one(h:PRep (hof w) v u)(d:v.oneCell'=true):Reads w [v] [u]:=
 ⟨rfl,λi s c a b=>by cases i with
  |zero=>simp at a b;subst a;subst b;exact⟨h,d⟩
  |succ i=>simp at a⟩
def Zu3{b c:Type}{f:b->Option c}:∀{l:List b} {r:List c},l.mapM f=some r->r.length=l.length/\∀(i:Nat) y,r[i]?=some y->∃x,l[i]?=some x/\f x=some y
 | [],r,h=>by simp at h;subst h;simp
 |a::l,r,h=>by
  rw[Wd]at h;simp only[bind,YD,pure,YA]at h;obtain⟨y,e,g,d,rfl⟩:=h;obtain⟨j,k⟩:=Zu3 d
  grind
def Zlj{b:Type}(Q:Nat->b->Prop):∀(n:Nat),(∀i,i<n->∃x,Q i x)->∃l:List b,l.length=n/\∀(i:Nat) x,l[i]?=some x->Q i x
 |0,_=>⟨[],rfl,Vs⟩
 |n+1,h=>by
  obtain⟨l,c,e⟩:=Zlj Q n (λi j=>h i Vo);obtain⟨x,f⟩:=h n Vo;refine⟨l++[x],by simp[c],λi y a=>?_⟩;rw[List.getElem?_append]at a
  split at a
  .exact e i y a
  next g=>have d:i=n:=(by have:=(Y0.1 a).1;simp at this;omega);subst d;simp[c]at a;subst a;exact f
def Zsm(h:Value.okWide P w .any n T v):(Za7 P T=true->∃b,v= .agg b)/\(Za7 P T=false->v.cells= #[v]):=by
 have c:Za7 P T=false->Cell.okWide P w .any n T v->v.cells= #[v]:=by
  intro _ h
  cases v with
  |agg d=>
   simp_all[Cell.okWide,Cell.ok]
  |_=>rfl
 grind [Za7,Value.okWide]
def Zh5{W j:World}(g:laidOutB P=true)(k:Below W.heap.size W j):∀(a:List TypeId) (e:List Value) (f:List (DataW H)) (c:List MemPlace),
  (∀t∈a,P.readableRec t=true/\t<P.types.size)->(∀x∈c,x.block<W.heap.size)->DataW.TrodAll enc P W 0 (λ_=>true) true a e f c->
  DataW.TrodAll enc P j 0 (λb=>decide (b<W.heap.size)) true a e f c
 | [],[],[],c,_,_,h=>h
 |t::a,v::e,d::f,c,hr,hlt,h=>by
  obtain⟨p,q,m,n,rfl⟩:=h
  exact⟨p,q,Below.trod g (hr t Vs).1 (hr t Vs).2 m k (λx i=>hlt x (by simp[i])),
   Zh5 g k a e f q (λt l=>hr t (by simp[l])) (λx i=>hlt x (by simp[i])) n,rfl⟩
 | [],_::_,_,_,_,_,h=>by simp[DataW.TrodAll]at h
 | [],[],_::_,_,_,_,h=>by simp[DataW.TrodAll]at h
 |_::_,[],_,_,_,_,h=>by simp[DataW.TrodAll]at h
 |_::_,_::_,[],_,_,_,h=>by simp[DataW.TrodAll]at h
def Zg7{spare:Nat->Bool}{held:Bool}{w:World}:∀(a:List TypeId) (c:List Value) (b:List (DataW H)) (e:List MemPlace),DataW.TrodAll enc P w 0 spare held a c b e->b.length=a.length
 | [],[],[],_,_=>rfl
 |t::a,v::c,d::b,e,h=>by obtain⟨p,q,_,f,_⟩:=h;simp[Zg7 a c b q f]
 | [],_::_,_,_,h=>by simp[DataW.TrodAll]at h
 | [],[],_::_,_,h=>by simp[DataW.TrodAll]at h
 |_::_,[],_,_,h=>by simp[DataW.TrodAll]at h
 |_::_,_::_,[],_,h=>by simp[DataW.TrodAll]at h
end
end Go.Px
namespace Go.Px
open Go.RowKit
abbrev I(n:Int):SV:=.val (.int .i64 n)
abbrev B(b:Bool):SV:=.val (.bool b)
abbrev S(s:BA):SV:=.val (.string s)
def Zaa{b:Bool}{x y:Prop}(a:b=true->x)(c:b=false->y):ifB b x y:=by
 cases b
 .exact c rfl
 .exact a rfl
abbrev U8(n:Int):SV:=.val (.int .u8 n)
abbrev U64(n:Int):SV:=.val (.int .u64 n)
abbrev SL(z:Nat)(rows:LL):SV:=.slice z rows 0
abbrev sP:Sig:={}
abbrev sO:Sig:=⟨[],[.own]⟩
def Cl.of{P:Program}{f:FuncId}{a:Sig}{b R:List SV}{K:List SV->Prop}(h:Ct P f a b (λr=>r=R))(k:K R):Cl P f a b K:=
 ⟨_,h,λ_ e=>e▸k⟩
def Cl.ofQ{P:Program}{f:FuncId}{a:Sig}{Q K:List SV->Prop}(h:Ct P f a C Q)(k:∀r,Q r->K r):Cl P f a C K:=
 ⟨_,h,k⟩
def Ct.mono{P:Program}{f:FuncId}{b:Sig}{c:List SV}{Q d:List SV->Prop}(h:Ct P f b c Q)(k:∀r,Q r->d r):Ct P f b c d:=by
 refine⟨h.1,λg a i j l w m n o p=>(h.2 g a i j l w m n o p).mono ?_⟩;rintro e q ⟨vr,h',ρ',rs,hr,objs',e1,hq,rest⟩;exact⟨vr,h',ρ',rs,hr,objs',e1,k rs hq,rest⟩
@[simp] theorem ieq_eq(a b:Int):ieq a b=decide (a=b):=by unfold ieq;by_cases h:a=b<;>simp[h]
@[simp] theorem ine_eq(a b:Int):ine a b=!decide (a=b):=by unfold ine;by_cases h:a=b<;>simp[h]
@[simp] theorem ilt_eq(a b:Int):ilt a b=decide (a<b):=rfl
@[simp] theorem ile_eq(a b:Int):ile a b=decide (a<=b):=rfl
@[simp] theorem igt_eq(a b:Int):igt a b=decide (b<a):=rfl
@[simp] theorem ige_eq(a b:Int):ige a b=decide (b<=a):=rfl
@[simp] theorem imin_eq(a b:Int):imin a b=min a b:=by unfold imin;rw[Int.min_def];split<;>split<;>omega
@[simp] theorem imax_eq(a b:Int):imax a b=max a b:=by unfold imax;rw[Int.max_def];split<;>split<;>omega
@[simp] theorem bnot_eq(b:Bool):bnot b=!b:=rfl
@[simp] theorem band_eq(a b:Bool):band a b=(a&&b):=rfl
@[simp] theorem beqB_eq(a b:Bool):beqB a b=(a==b):=rfl
@[simp] theorem bpick_eq(p a b:Bool):bpick p a b=(if p then a else b):=by cases p<;>rfl
@[simp] theorem seq_eq(a b:BA):seq a b=(a.toList==b.toList):=rfl
@[simp] theorem sne_eq(a b:BA):sne a b=!(a.toList==b.toList):=rfl
@[simp] theorem rlen_eq(l:LL):rlen l=(l.length:Int):=rfl
@[simp] theorem lsum_eq(a b:Int):lsum a b=a+b:=rfl
@[simp] theorem slen_eq(s:BA):slen s=(s.size:Int):=rfl
theorem Zab{a b:Int}(c: -9223372036854775808<=a+b:=by omega)(d:a+b<=9223372036854775807:=by omega):wadd .i64 a b=a+b:=Zbg c d
theorem Zar{a b:Int}(c: -9223372036854775808<=a-b:=by omega)(d:a-b<=9223372036854775807:=by omega):wsub .i64 a b=a-b:=Zbg c d
def wf_u8(h:(Lit.int .u8 i).wf=true):0<=i/\i<=255:=by
 simp[Lit.wf,IntKind.min,IntKind.max,IntKind.signed,IntKind.bits]at h;omega
def wf_i64(h:(Lit.int .i64 i).wf=true): -9223372036854775808<=i/\i<=9223372036854775807:=by
 simp[Lit.wf,IntKind.min,IntKind.max,IntKind.signed,IntKind.bits]at h;omega
abbrev QQ:=List SV->Prop
abbrev zT:List SV:=[I 0,I 0,I 0,I 0,I 0,I 0,I 0,I 0,I 0,I 0]
abbrev zE:List SV:=[I 0,I 0,I 0,S (bA []),I 0,I 0,I 0]
abbrev zC:List SV:=[S (bA []),I 0,I 0,I 0,I 0,SL 2 [],I 0,I 0,I 0,I 0,I 0,I 0,I 0,I 0,I 0,I 0,I 0,I 0,I 0,I 0,I 0]
abbrev Sm{a:Type}(x:a):Prop:=x=x
end Go.Px
namespace Go.Px
open Go.RowKit Go.ChangeShapes Go.WideShapes Go.ChangeAt
def bndL(P:Program)(e:TypeId):Nat:=bif Nat.beq (P.bytesOf e) 0 then maxLen else reachBytes
def TypW(P:Program):Nat->TypeId->List SV->Prop
 |0,_,_=>True
 |n+1,t,ss=>match P.underlying t with
  |some .bool=>∃b,ss=[.val (.bool b)]
  |some (.int k)=>∃x:Int,ss=[.val (.int k x)]/\(Lit.int k x).wf=true
  |some .string=>∃s:BA,ss=[.val (.string s)]/\s.size<=reachBytes
  |some (.slice e)=>∃rows,ss=[.slice (P.cellsOf e) rows 0]/\rows.length<=bndL P e/\∀r∈rows,TypW P n e r
  |some (.struct fs)=>Zbo (λf s=>TypW P n f s) (fs.toList.map (·.type)) ss
  |some (.array m e)=>Zbo (λf s=>TypW P n f s) (List.replicate m e) ss
  |_=>True
section
variable{H:Type}{enc:TypeId×Value->H}{P:Program}{w:World}{spare:Nat->Bool}{held:Bool}
def Zg8{e:TypeId}{d:DataW H}{x:Nat}:∀{l:List (DataW H)},d∈l->x∈d.weights P e->x∈DataW.weightsAll P e l
 |a::l,h,hx=>by
  simp only[DataW.weightsAll,List.mem_append]
  rcases List.mem_cons.1 h with rfl|h
  .exact .inl hx
  .exact .inr (Zg8 h hx)
def Zg9(c n:Nat)(a:List Value)(l:∀t a d k,lay P n t=true->(∀x∈d.weights P t,x<=reachBytes)->DataW.trod enc P w 0 spare held c t a=some (d,k)->∃i,Reads w a i/\TypW P n t i):
  ∀(b:List Field) (off:Nat) (j:List (DataW H×List MemPlace)),(∀x∈DataW.weightsEach P (b.map (·.type)) (j.map (·.1)),x<=reachBytes)->Zu2 P off b=true->(∀f∈b,lay P n f.type=true)->
   off+(b.map λf=>P.cellsOf f.type).foldr (·+·) 0=a.length->
   b.mapM (λf=>DataW.trod enc P w 0 spare held c f.type ((a.drop f.offset).take (P.cellsOf f.type)))=some j->
   ∃i,Reads w (a.drop off) i/\Zbo (λf s=>TypW P n f s) (b.map (·.type)) i
 | [],off,j,_,_,_,hl,_=>⟨[],by simp at hl;rw[Yi Vo];exact⟨rfl,Vs⟩,rfl⟩
 |f::b,off,j,hwt,hc,hlay,hl,hm=>by simp only[Zu2,Bool.and_eq_true]at hc;have A:f.offset=off:=Nat.eq_of_beq_eq_true hc.1;rw[Wd]at hm;simp only[bind,YD,pure,YA]at hm;obtain⟨x,h,m,o,rfl⟩:=hm;obtain⟨d,k⟩:=x;obtain⟨p,q,v⟩:=l f.type _ d k (hlay f Vs) (λx h=>hwt x (by simp[DataW.weightsEach,h])) h;simp only[List.map_cons,W6]at hl;obtain⟨r,y,z⟩:=Zg9 c n a l b (off+P.cellsOf f.type) m (λx h=>hwt x (by simp only[List.map_cons,DataW.weightsEach,List.mem_append];exact .inr h)) hc.2 (λg u=>hlay g (by simp[u])) Vo o;refine⟨p++r,?_,p,r,rfl,v,z⟩;rw[A]at q;have e:a.drop off=(a.drop off).take (P.cellsOf f.type)++a.drop (off+P.cellsOf f.type):=(by rw[<-YN,List.take_append_drop]);rw[e];exact q.append y
def Zia(b n:Nat)(e:TypeId)(a:List Value)(l:lay P n e=true)(o:∀t a d j,lay P n t=true->(∀x∈d.weights P t,x<=reachBytes)->DataW.trod enc P w 0 spare held b t a=some (d,j)->∃g,Reads w a g/\TypW P n t g):
  ∀(m k:Nat) (h:List (DataW H×List MemPlace)),(∀x∈DataW.weightsAll P e (h.map (·.1)),x<=reachBytes)->(k+m)*P.cellsOf e=a.length->
   (List.range' k m).mapM (λi=>DataW.trod enc P w 0 spare held b e ((a.drop (i*P.cellsOf e)).take (P.cellsOf e)))=some h->
   ∃g,Reads w (a.drop (k*P.cellsOf e)) g/\Zbo (λf s=>TypW P n f s) (List.replicate m e) g
 |0,k,h,_,hl,_=>⟨[],by rw[Yi (by rw[<-hl];simp)];exact⟨rfl,Vs⟩,rfl⟩
 |m+1,k,h,hwt,hl,hm=>by rw[List.range'_succ,Wd]at hm;simp only[bind,YD,pure,YA]at hm;obtain⟨x,c,p,q,rfl⟩:=hm;obtain⟨d,j⟩:=x;obtain⟨r,v,y⟩:=o e _ d j l (λx c=>hwt x (by simp[DataW.weightsAll,c])) c;obtain⟨u,z,A⟩:=Zia b n e a l o m (k+1) p (λx c=>hwt x (by simp only[List.map_cons,DataW.weightsAll,List.mem_append];exact .inr c)) (by rw[<-hl];congr 1;omega) q;refine⟨r++u,?_,r,u,rfl,y,A⟩;have C:a.drop (k*P.cellsOf e)=(a.drop (k*P.cellsOf e)).take (P.cellsOf e)++a.drop ((k+1)*P.cellsOf e):=(by rw[Nat.succ_mul,<-YN,List.take_append_drop]);rw[C];exact v.append z
def trod_typW:∀(o n:Nat) (t:TypeId) (E:List Value) (d:DataW H) (J:List MemPlace),lay P n t=true->(∀x∈d.weights P t,x<=reachBytes)->DataW.trod enc P w 0 spare held o t E=some (d,J)->
  ∃A,Reads w E A/\TypW P n t A:=by
 intro o
 induction o with
 |zero=>intro n t E d J _ _ h;simp[DataW.trod]at h
 |succ o ih=>
  intro n
  cases n with
  |zero=>intro t E d J N _ _;simp[lay]at N
  |succ n=>
   intro t E d J f p h;unfold DataW.trod at h;simp only[TypW];simp only[lay]at f
   split at h
   next b g=>rw[g];exact⟨_,Reads.val _ rfl,b,rfl⟩
   .rename_i k k' x g;rw[g]
    split at h
    next hk=>obtain⟨rfl,a5⟩:=hk;exact⟨_,Reads.val _ rfl,x,rfl,a5⟩
    .cases h
   next k k' x g=>rw[g];exact⟨_,Reads.val _ rfl,trivial⟩
   .rename_i s g;rw[g]
    split at h
    .cases h
     have:=p s.data.toList.length (by simp[DataW.weights]);exact⟨_,Reads.val _ rfl,s,rfl,by rw[Array.length_toList]at this;exact this⟩
    .cases h
   next e g=>rw[g];exact⟨_,Reads.val _ rfl,trivial⟩
   next e a g=>rw[g];exact⟨_,Reads.val _ rfl,trivial⟩
   next e g=>rw[g];exact⟨[.slice (P.cellsOf e) [] 0],Reads.one (.empty none 0 _ 0 Vo Vo Vs) rfl,[],rfl,Vs,Vs⟩
   .rename_i e a len a0 g;rw[g]at f|-;simp only[Bool.and_eq_true]at f;have U:0<P.cellsOf e:=Nat.le_of_ble_eq_true f.1
    split at h
    .rename_i X;obtain⟨_,ad,ac⟩:=X;simp only[YD,Yo]at h;obtain⟨u,a6,a2,ae,Q⟩:=h
     cases Q
     simp only[DataW.weights,g,List.mem_cons,List.mem_append]at p;obtain⟨a3,a4⟩:=Zu3 a6;simp at a3;by_cases h0:len=0
     .subst h0;exact⟨[.slice (P.cellsOf e) [] 0],Reads.one (.empty (some a) a0 _ 0 Vo Vo Vs) rfl,[],rfl,Vs,Vs⟩
     .have V:∀i,i<len->∃l,w.cells? 0 (a.add (i*P.cellsOf e)) (P.cellsOf e)=some l/\∃A,Reads w l A/\TypW P n e A:=by intro i O;have a1:i<u.length:=Vo;obtain⟨x,W,hf⟩:=a4 i _ (List.getElem?_eq_getElem a1);simp[O]at W;subst W;simp only[YD]at hf;obtain⟨l,L,a7⟩:=hf;exact⟨l,L,ih n e l u[i].1 u[i].2 f.2 (λx W=>p x (.inr (.inl (Zg8 (Yd (List.getElem_mem a1)) W)))) a7⟩
      have M:a.spot=none:=by
       obtain⟨l,L,_⟩:=V 0 Vo;obtain⟨_,_,C⟩:=World.cells?_some L;have:=C 0 U;simp only[Nat.zero_mul,Addr.add,if_true]at this;have ab:l.length=P.cellsOf e:=(World.cells?_some L).2.1;rw[List.getElem?_eq_getElem Vo]at this;unfold World.cell? at this
       cases hsp:a.spot with
       |none=>rfl
       |some x=>simp[hsp]at this;split at this<;>simp_all
      obtain⟨b,off,sp⟩:=a;simp only at M;subst M
      obtain⟨rows,a8,G⟩:=Zlj (λi A=>∃l,w.cells? 0 ((⟨b,off,none⟩:Addr).add (i*P.cellsOf e)) (P.cellsOf e)=some l/\Reads w l A/\TypW P n e A) len (λi O=>by
       obtain⟨l,F,A,D,K⟩:=V i O
       exact⟨A,l,F,D,K⟩)
      have z:∀(i:Nat) r (j:Nat) c,rows[i]?=some r->r[j]?=some c->∃v,w.cell? ⟨b,off+i*P.cellsOf e+j,none⟩=some v/\PRep (hof w) v c/\v.oneCell'=true:=by
       intro i r j c y C;obtain⟨l,F,D,K⟩:=G i r y;obtain⟨_,N,Y⟩:=World.cells?_some F;have hj:j<l.length:=by have:=(Y0.1 C).1;rw[D.1]at this;exact this
       have:=Y j Vo;rw[Zbt,Zbt,List.getElem?_eq_getElem hj]at this;exact⟨_,this,D.2 j _ c (List.getElem?_eq_getElem hj) C⟩
      have Z:rows.length<=bndL P e:=by
       have a9:=p _ (.inl rfl);simp only[List.length_map]at a9;unfold bndL
       cases hz:Nat.beq (P.bytesOf e) 0 with
       |true=>simp only[cond_true];omega
       |false=>
        simp only[cond_false]
        have aa:1<=P.bytesOf e:=by
         rcases WE (P.bytesOf e)with q|q
         .rw[q]at hz;cases hz
         .exact q
        have:=WQ (u.length+a2.length) aa;omega
      refine⟨[.slice (P.cellsOf e) rows 0],Reads.one ?_ rfl,rows,rfl,Z,λr y=>?_⟩
      .rw[<-a8];refine .slice b off a0 _ rows 0 (λi j=>(w.cell? ⟨b,off+i*P.cellsOf e+j,none⟩).getD undef) U (λi r y=>?_) (λi r j c y C=>?_) (λi r j c y C=>?_) (λi r j c y C=>?_) Vo Vo Vo
       .obtain⟨l,F,D,_⟩:=G i r y;rw[D.1];exact(World.cells?_some F).2.1
       .obtain⟨v,R,_⟩:=z i r j c y C;simp[hof,R]
       .obtain⟨v,R,hp⟩:=z i r j c y C;simp only[R,Yk];exact hp.1
       .obtain⟨v,R,hp⟩:=z i r j c y C;simp only[R,Yk];exact hp.2
      .obtain⟨i,O,e1⟩:=List.mem_iff_getElem.1 y;obtain⟨_,_,_,K⟩:=G i r (by rw[List.getElem?_eq_getElem O,e1]);exact K
    .cases h
   .rename_i _ fs g;rw[g]at f|-;simp only[Bool.and_eq_true,List.all_eq_true]at f
    split at h
    .rename_i N;simp only[Yo]at h;obtain⟨xs,T,Q⟩:=h
     cases Q
     simp only[DataW.weights,g]at p;have:=Zg9 o n _ (λt E d J F D K=>ih n t E d J F D K) fs.toList 0 xs p f.1.1 f.2 (by rw[N,Ye];exact(Nat.eq_of_beq_eq_true f.1.2).symm) T
     simpa using this
    .cases h
   .rename_i _ m e g;rw[g]at f|-;simp only[Bool.and_eq_true]at f
    split at h
    .rename_i N;simp only[Yo]at h;obtain⟨xs,T,Q⟩:=h
     cases Q
     simp only[DataW.weights,g]at p;have:=Zia o n e _ f.2 (λt E d J F D K=>ih n t E d J F D K) m 0 xs p (by rw[N,Ye];exact(Nat.eq_of_beq_eq_true f.1).symm) (by rw[<-List.range_eq_range'];exact T)
     simpa using this
    .cases h
   all_goals (rename_i g;first|(rw[g];exact⟨_,Reads.val _ rfl,trivial⟩)|skip)
   all_goals cases h
def Zf3{x:Nat}:∀(a:List TypeId) (b:List (DataW H)) (c:List TypeId) (e:List (DataW H)),x∈DataW.weightsEach P a b->x∈DataW.weightsEach P (a++c) (b++e)
 |t::a,d::b,c,e,h=>by
  simp only[DataW.weightsEach,List.mem_append]at h;simp only[Y4,DataW.weightsEach,List.mem_append]
  rcases h with h|h
  .exact .inl h
  .exact .inr (Zf3 a b c e h)
 | [],_,_,_,h=>by simp[DataW.weightsEach]at h
 |_::_,[],_,_,h=>by simp[DataW.weightsEach]at h
def TypVW(P:Program)(n:Nat)(t:TypeId)(s:SV):Prop:=∃a,TypW P n t a/\(Za7 P t=true->s= .agg a)/\(Za7 P t=false->a=[s])
def Zo3(P:Program)(n:Nat):List TypeId->List SV->Prop
 | [],ss=>ss=[]
 |t::ts,ss=>∃s a,ss=s::a/\TypVW P n t s/\Zo3 P n ts a
def Zyb{d:DataW H}{k:List MemPlace}(p:lay P n T=true)(l:Value.okWide P w .any m T v)
  (f:∀x∈d.weights P T,x<=reachBytes) (h:DataW.Trod enc P w 0 spare held T v d k):∃s,TypVW P n T s/\PRep (hof w) v s:=by
 obtain⟨g,u⟩:=h;obtain⟨a,b,o⟩:=trod_typW g n T _ d k p f u;obtain⟨y,z⟩:=Zsm l
 cases hagg:Za7 P T with
 |true=>obtain⟨A,rfl⟩:=y hagg;refine⟨.agg a,⟨a,o,λ_=>rfl,λe=>by(rw[hagg]at e;cases e)⟩,.agg A a (by have:=b.1;simpa[Value.cells]using this.symm) λi v c q r=>(b.2 i v c (by simpa[Value.cells]using q) r).1⟩
 |false=>
  have e:=z hagg;rw[e]at b;have j:a.length=1:=b.1
  match a,j with
  | [s],_=>exact⟨s,⟨[s],o,λe=>by(rw[hagg]at e;cases e),λ_=>rfl⟩,(b.2 0 v s Vs Vs).1⟩
def Zj5{base n:Nat}:∀(a:List TypeId) (b:List Value) (f:List (DataW H)) (g:List MemPlace),(∀t∈a,lay P n t=true)->
  (∀(j:Nat) t v,a[j]?=some t->b[j]?=some v->Value.okWide P w .any base t v)->(∀x∈DataW.weightsEach P a f,x<=reachBytes)->DataW.TrodAll enc P w 0 spare held a b f g->
  ∃e,Zo3 P n a e/\b.length=e.length/\∀(i:Nat) v s,b[i]?=some v->e[i]?=some s->PRep (hof w) v s
 | [],[],[],g,_,_,_,_=>⟨[],rfl,rfl,Vs⟩
 |t::a,v::b,d::f,g,hl,hok,hwt,h=>by
  obtain⟨p,q,y,z,_⟩:=h;obtain⟨s,A,C⟩:=Zyb (hl t Vs) (hok 0 t v rfl rfl) (λx k=>hwt x (by simp only[DataW.weightsEach,List.mem_append];exact .inl k)) y;obtain⟨e,D,E,F⟩:=Zj5 a b f q (λt l=>hl t (by simp[l])) (λj t v l r=>hok (j+1) t v (by simpa using l) (by simpa using r)) (λx k=>hwt x (by simp only[DataW.weightsEach,List.mem_append];exact .inr k)) z;refine⟨s::e,⟨s,e,rfl,A,D⟩,by simp[E],λi u c m o=>?_⟩
  cases i with
  |zero=>simp at m o;subst m;subst o;exact C
  |succ i=>exact F i u c (by simpa using m) (by simpa using o)
 | [],_::_,_,_,_,_,_,h=>by simp[DataW.TrodAll]at h
 | [],[],_::_,_,_,_,_,h=>by simp[DataW.TrodAll]at h
 |_::_,[],_,_,_,_,_,h=>by simp[DataW.TrodAll]at h
 |_::_,_::_,[],_,_,_,_,h=>by simp[DataW.TrodAll]at h
def Zo4{f:FuncId}{b:Func}(n:Nat)(s:ChangeSpec)(Q:TypeId)(m:s.vars=[])(R:laidOutB P=true)
  (d:b.params.toList.all (λt=>lay P n t&&P.readableRec t&&Nat.blt t P.types.size)=true) (G:b.resultTypes= #[Q]) (T:P.underlying Q=some .bool)
  (W:World) (base:Nat) (a:Array Value) (u z:List (DataW H)) (A:List MemPlace)
  (c:∀l:List (DataW H),l.length=b.params.size->(s.fn H l).results=[.lit (.bool true)]/\(s.fn H l).args=l/\(s.fn H l).vars=[])
  (J:∀(j:Nat) t v,b.params[j]?=some t->a[j]?=some v->Value.okWide P W .any base t v)
  (U:DataW.Whole enc P b.params.toList s.vars false W a.toList u z A)
  (E:(DataW.weightsEach P (b.params.toList++s.plain.varTypes P) (u++z)).all (·<=reachBytes)=true)
  (V:Gl (hof W) W)
  (K:∀y,Zo3 P n b.params.toList y->Ct P f {} y (λr=>r=[.val (.bool true)])):
  Calls P f a W λe L=>∃v,e= .returned v/\s.post enc P b false true false false W a v L:=by
 have F:=U;obtain⟨p,q,N,O,rfl,a1,a2⟩:=U;rw[List.all_eq_true]at d
 obtain⟨y,h1,h2,h3⟩:=Zj5 (n:=n) (base:=base) b.params.toList a.toList u p (λt C=>by have:=d t C;simp at this;exact this.1.1)
  (λj t v C D=>J j t v (by simpa using C) (by simpa using D)) (λx M=>by
   rw[List.all_eq_true]at E;have:=E x (Zf3 b.params.toList u _ z M)
   simpa using this) N
 refine((K y h1).2 y [] (Zbe pId y 0) (hof W) (λ_=>noLoc) W a ⟨hof_sub W,Vs,λi j ⟨⟨o,e⟩,_⟩=>by simp[oget]at e⟩ V ⟨by simpa using h2,λi v s D X=>.pure _ _ (h3 i v s (by simpa using D) X)⟩).mono ?_;rintro e L ⟨vr,h',ρ,rs,hr,objs',rfl,rfl,hend,hrep,_,_,_,_,_,hkp⟩;have Y:Below W.heap.size W L:=hkp.below (λk ⟨i,⟨⟨o,e⟩,_⟩,_⟩=>by simp[oget]at e);refine⟨_,rfl,?_⟩
 have D:rets vr= .bool true:=by
  unfold endH at hend;simp only[Zbe]at hend
  split at hend
  next X os a0 ha hl=>
   cases ha
   cases hend
   have g:=hrep.1
   match vr,g with
   | [],_=>simp[lentH]at hl
   | [v],_=>have:=hrep.2 0 v (.val (.bool true)) rfl Vs;exact this.val_inv
   |_::_::_,g=>simp at g
  .cases hend
 rw[D]
 have Z:q=[]/\z=[]:=by
  rw[m]at O
  cases z with
  |nil=>exact⟨by simpa[DataW.TrodVars]using O,rfl⟩
  |cons x xs=>simp[DataW.TrodVars]at O
 obtain⟨rfl,rfl⟩:=Z;have c:=c (u++[]) (by rw[List.append_nil,Zg7 _ _ _ _ N];simp);rw[List.append_nil]at c;refine⟨u,[],p++[],[],p,[],F,?_,?_,?_,Y.frame _,λh=>by cases h⟩
 .rw[List.append_nil,c.1,G];exact trodAll_mk1 (shut_bool T true)
 .rw[List.append_nil,c.2.1];exact Zh5 R Y _ _ _ _ (λt C=>by have:=d t C;simp at this;exact⟨this.1.2,this.2⟩) (λx M=>F.lt x (by simpa using M)) N
 .rw[m,List.append_nil,c.2.2];rfl
end
end Go.Px
namespace Go.Px
open Go.RowKit Go.ChangeShapes Go.WideShapes Go.ChangeAt
end Go.Px
namespace Go.Px
open Go.RowKit
def Ziy(P:Program):Code->(Exit->Act->World->Prop)->Act->World->Prop
 | .seq x y,Q=>bif hasRF x then Ziy P x (Exit.then (y.wp P Q) Q)else Ziy P y Q
 |c,Q=>c.wp P Q
def Zt6{P:Program}(q:FuncId->Sig)(r:TypeId->Sig)(L:Nat->Option LoopSpec):∀(c:Code),hasRF c=true->∀(X:Cx) (d:St) (a:Act) (w:World) (i:Ex->St->Prop) (Q:Exit->Act->World->Prop),
  (∀e d f w,e≠ .normal->Fits X d f w->i e d->Q e.to f w)->(∀d f w,Fits X d f w->i .normal d->Ziy P c Q f w)->Fits X d a w->vc P q r L (front c) d i->c.wp P Q a w:=by
 intro c
 induction c with
 |seq x y s t=>
  intro o X d a w i Q l j F h
  cases hx:hasRF x with
  |true=>
   simp only[front,hx,cond_true]at h;simp only[Ziy,hx,cond_true]at j;refine wp_seq (s hx X d a w i _ (λe d f w k m u=>?_) j F h);have:=l e d f w k m u
   cases e with
   |normal=>exact absurd rfl k
   |exit id=>exact this
   |ret=>exact this
  |false=>
   simp only[front,hx,cond_false]at h;simp only[Ziy,hx,cond_false]at j;have v:hasRF y=true:=(by grind [hasRF]);simp only[vc]at h;refine wp_seq (Zkm q r L x X d a w _ _ ?_ F h);intro e n f p m _ k
   cases e with
   |normal=>exact t v X n f p i Q l j m k
   |exit id=>exact l (.exit id) n f p Vs m k
   |ret=>exact l .ret n f p Vs m k
 |block id b z=>intro o X d a w i Q l j F h;simp only[front,vc]at h;exact j d a w F h
 |rangeFunc g A C b=>intro o X d a w i Q l j F h;simp only[front,vc]at h;exact j d a w F h
 |_=>intro o;simp[hasRF]at o
def Zkx:Code->Bool
 | .seq x y=>!hasRF x&&Zkx y
 |_=>true
def Zg0:Code->Bool
 | .seq x y=>bif hasRF x then Zkx x else Zg0 y
 |_=>false
theorem Zzl{P:Program}:∀(c:Code) (Q:Exit->Act->World->Prop),Zkx c=true->Ziy P c Q=(rfOf c).wp P Q:=by
 intro c
 induction c with
 |seq x y a b=>
  intro Q h;simp only[Zkx,Bool.and_eq_true,Ym]at h
  grind [Ziy,rfOf,h.1]
 |_=>intro Q h;rfl
def Zzm{P:Program}:∀(c:Code) (Q:Exit->Act->World->Prop),Zg0 c=true->Ziy P c Q=(rfOf c).wp P (Exit.then ((tlOf c).wp P Q) Q):=by
 intro c
 induction c with
 |seq x y a b=>
  grind [Zg0,Ziy,rfOf,tlOf,hasRF,Zzl]
 |_=>intro Q h;simp[Zg0]at h
open Classical in
def Zt7{P:Program}{o:Func}{f:Sig}{Q:List SV->Prop}{l:List (Nat×Ob)}{h:Hp}{m:Nat->Loc}{w p:World}{ds:List Deferred}{st0:St}{a:Act}
  (V:Fits {w:=w,h:=h,G:=Gv l m,pin:=λid=>if(∃i r,f.ps[i]?=some (.lend r)/\id=pId i)\/id∈Zb8 0 f.ps then some (m id)else none,df:=ds} st0 a p) (b:finC P o f Q st0):
  a.defers=ds/\∃v,(results o a.tmps).run P p= .ok v p/\Back f l h m w Q (.returned v) p:=by
 obtain⟨h1,j,Y⟩:=V;unfold finC at b
 split at b
 .grind
 .rename_i u W;obtain⟨Z,_,d⟩:=Y.frzAll (Zde st0.objs f.rs 0 u++Zhu st0.objs 0 f.ps);simp only[]at b;generalize St.frzAll (Zde st0.objs f.rs 0 u++Zhu st0.objs 0 f.ps) st0=st at b d
  split at b
  .grind
  next X D=>
   split at b
   next x n E k F H=>
    cases e:(Zbw ((n++k).filterMap (·.1))&&Zbw ((n++k).map (·.2))&&Zsb k (Zb8 0 f.ps))with
    |false=>simp only[e,cond_false]at b
    |true=>
     simp only[e,cond_true]at b;simp only[Bool.and_eq_true]at e;have hst:=e.2;have e:=e.1;have R:=Za0 e.1;have T:=Za0 e.2
     let ρ':=pull (n++k) j (λ_=>noLoc)
     have g:Pulls (n++k) j ρ':=Zfa j _ T;obtain⟨y,z,hl,hr⟩:=Zfy d _ _ D;obtain⟨J,K,e1,e2,e3,e4,e5⟩:=Zc5 (P:=P) (ρ':=ρ') d.obj rId f.rs o.resultTypes.toList X 0 x n F g.left;obtain⟨L,g1,g2,g3⟩:=Zca (P:=P) (ρ':=ρ') d.obj o.params.toList f.ps 0 E k H g.right;have a1:y.length=x.length:=Vo;have U:=e5.append g2;refine⟨d.df,rets y,Zln z,y,Z,ρ',x++E,J,K++L,rfl,b,?_,⟨Vo,λi v s hv a0=>?_⟩,pass_holds U g R d.sub d.inj,λi q=>?_,⟨λi r q=>?_,λid t=>?_⟩,d.mono,d.ext,d.kp⟩
     .simp_all[endH,e1]
     .grind
     .obtain⟨id,c,hm,M,eb⟩:=Zp0 U g ⟨i,q,rfl⟩;rw[<-eb];exact d.own id M
     .obtain⟨N,cs,O⟩:=g3 i r q;rw[Ye]at N O;have A:=d.pin (pId i) (m (pId i)) (by simp only[];rw[if_pos (.inl ⟨i,r,q,rfl⟩)]);have C:ρ' (pId i)=j (pId i):=g (some (pId i),pId i) (by simp[N]);have hn:=(d.obj _ _ O).1
      grind
     .have A:=d.pin id (m id) (by simp only[];rw[if_pos (.inr t)]);have C:ρ' id=j id:=g (some id,id) (YH _ (Znc hst t))
      grind
   grind
def FitsAt.restand{X:Cx}{h:Hp}{b:Nat->Loc}{c:St}{a:Act}{w:World}(F:FitsAt X h b c a w)(d:List Deferred):FitsAt {w:=w,h:=h,G:=Gv c.objs b,pin:=X.pin,df:=d} h b c {a with defers:=d} w:=
 {F with df:=rfl,own:=λi hi=>.inr ⟨i,hi,rfl⟩,mono:=HLe.refl _,ext:=λ_ _ _ _ e=>e,kp:=Keeps.refl _ _,gl:=⟨F.glob,F.glob.off (λi ⟨⟨o,e⟩,hn⟩=>ObOK.hnone (F.obj i o e) hn)⟩}
def FitsAt.based{X:Cx}{h p:Hp}{j f:Nat->Loc}{l g:St}{a q:Act}{w w':World}{r:List Deferred}(c:FitsAt X h j l a w)(F:FitsAt {w:=w,h:=h,G:=Gv l.objs j,pin:=X.pin,df:=r} p f g q w'):
  FitsAt {X with df:=r} p f g q w':=by
 have v:∀b,Gv l.objs j b->X.w.heap.size<=b\/X.G b:=(by rintro b ⟨i,m,rfl⟩;exact c.own i m);have d:=c.kp.size;refine{F with df:=F.df,own:=λi m=>?_,mono:=c.mono.trans F.mono,ext:=λb s n o e=>?_,kp:=?_,gl:=c.gl}
 .rcases F.own i m with h1|h1
  .grind
  grind
 .refine F.ext b (Nat.lt_of_lt_of_le s d) (λt=>?_) o (c.ext b s n o e)
  grind
 .refine⟨F.kp.os.trans c.kp.os,F.kp.tape.trans c.kp.tape,F.kp.output.trans c.kp.output,Nat.le_trans d F.kp.size,λk u n=>?_⟩;rw[F.kp.block k (Nat.lt_of_lt_of_le u d) (λt=>?_),c.kp.block k u n]
  grind
end Go.Px
namespace Go.Px
open Go Go.RowKit
def Zu5{o:Oper}(h:(match o.op with| .defer _=>false|_=>true)=true):∀c,o.op≠ .defer c:=by
 grind
def op_inRd{P:Program}{o:Oper}{a:Act}{w:World}{next:Act->World->Prop}{Q:Exit->Act->World->Prop}(l n:Nat)(i:∀c,o.op≠ .defer c)(h:o.wp P a w next Q):
  o.wpIn (Fence.wide.inRound l) n P a w next Q:=by
 refine⟨λ_ _=>trivial,?_⟩;rw[Oper.semAt_eq _ _ _ i];unfold Oper.wp at h;generalize(execOp a.eval o).run P w=r at h|-
 cases r with
 |ok v p=>
  cases v with
  |value v=>exact h
  |skip=>exact h
  |defer d=>exact h
  |enter f b=>exact⟨(λh=>by cases h),(callsIn_wide (n:=n-1)).2 h⟩
  |row row b=>refine⟨(λh=>by cases h),λc j _=>?_⟩;obtain⟨v,g,k,m⟩:=h c j;exact⟨v,g,k,stepsIn_wide.2 m⟩
  |_=>exact h.elim
 |halt e p=>
  cases e with
  |panic v=>exact h
  |_=>exact h.elim
def Zkr{P:Program}{m:Region.Mode}{f:Array Oper}{Q:Exit->Act->World->Prop}(l n:Nat)(g:noDef f=true)(j:¬LetsOut Q):∀(b:Nat) (d:Array Bool) (a:Act) (w:World),
  wpAny P m f Q b d a w->wpAnyIn (Fence.wide.inRound l) n P m f Q b d a w
 |0,_,_,_,h=>h
 |b+1,d,a,w,h=>by
  refine⟨h.1,λi p=>?_⟩;have c:=h.2 i p;unfold wpOp at c;unfold wpOpIn
  split
  next e=>simp only[e]at c;exact Zkr l n g j b _ a w c
  .rename_i o e;simp only[e]at c;have q:=List.all_eq_true.1 g o (Yn (by rw[Yp];exact e))
   split
   .rename_i k;simp only[k,if_true]at c
    rcases c with c|c
    .exact Oper.wpIn_mono (λa w h=>Zkr l n g j b _ a w h) (op_inRd l n (Zu5 q) c)
    .exact absurd c.2 j
   next k=>simp only[k]at c;exact⟨λ_ _=>trivial,Zkr l n g j b _ _ w c⟩
def Zlk{P:Program}{e:Array Oper}{Q:Exit->Act->World->Prop}(l n:Nat)(f:¬LetsOut Q):∀(b:List Oper) (d:∀o∈b,∀c,o.op≠ .defer c) (a:Act) (w:World),
  wpList P e Q b a w->wpListIn (Fence.wide.inRound l) n P e Q b a w
 | [],_,_,_,h=>h
 |o::b,d,a,w,h=>by
  unfold wpList at h;unfold wpListIn
  split
  .rename_i i;simp only[i,if_true]at h
   rcases h with h|h
   .exact Oper.wpIn_mono (λa w h=>Zlk l n f b (λo g=>d o (Yy _ g)) a w h) (op_inRd l n (d o Vs) h)
   .exact absurd h.2 f
  next i=>simp only[i]at h;exact⟨λ_ _=>trivial,Zlk l n f b (λo g=>d o (Yy _ g)) _ w h⟩
section
variable{P:Program}{X:Cx}
def Zll(l n:Nat)(i:FuncId->Sig)(j:TypeId->Sig)(id:Nat)(b:Array Oper)(p:P.follows .mixedOrders=true)(m:Zfr b=true)(q:noDef b=true)(c:St)(a:Act)(w:World)
  (F:Fits X c a w) (K:St->Prop) (r:vcAny P i j b (b.size+1) (Array.replicate b.size false) c K) (Q:Exit->Act->World->Prop)
  (s:∀c f w,Fits X c f w->Fr (b.toList.filterMap (·.dst)) a f->K c->Q .normal f w):(Code.region id b true).wpIn (Fence.wide.inRound l) n P Q a w:=by
 have R:=Zjb m;have hnone:∀k,¬In (Array.replicate b.size false) k:=λk h=>by unfold In at h;by_cases d:k<b.size<;>simp[d]at h
 have g:actOf b a (λ_=>undef) (Array.replicate b.size false)=a:=by
  unfold actOf
  have:((List.range a.tmps.size).map (slotV b a (λ_=>undef) (Array.replicate b.size false))).toArray=a.tmps:=by
   apply Array.ext';apply List.ext_getElem?;intro t;have v:wr b (Array.replicate b.size false) t=none:=Zjw (λk d=>absurd d (hnone k));by_cases ht:t<a.tmps.size
   .simp[ht,slotV,v]
   .simp[ht]
  rw[this]
 refine wpIn_mono (wpIn_region_any (Q:=Zeu X K b a) p (Zkr l n q (by rintro⟨_,_,h⟩;exact h) _ _ _ _ ?_)) (λe f w h=>?_)
 .have x:Fits X c a {w with drawn:=w.drawn+1}:=by obtain⟨h,u,F⟩:=F;exact⟨h,u,F.world (λ_ _=>rfl) ⟨F.kp.os,F.kp.tape,F.kp.output,F.kp.size,F.kp.block⟩⟩
  have S:Sim P i j b X a K (λ_=>undef) (Array.replicate b.size false) (Array.replicate b.size false) (b.size+1) c {w with drawn:=w.drawn+1}:=
   ⟨⟨Vs,λk _ _ h=>absurd h (hnone k)⟩,⟨Vs,λk _ _ h=>absurd h (hnone k)⟩,λ_ h=>h,by rw[g];exact x,λk _ _ h=>absurd h (hnone k),r⟩
  have y:left b (Array.replicate b.size false)=b.size:=(by unfold left;rw[List.filter_eq_self.2 (λk _=>by simpa[In]using hnone k)];simp);have:=sim_any R b.size _ _ _ _ _ _ S y
  grind
 .cases e with
  |normal=>obtain⟨⟨c,F,d⟩,o⟩:=h;exact s c f w F o d
  |_=>exact False.elim h
def onlyN(Q:Exit->Act->World->Prop):Exit->Act->World->Prop
 | .normal,a,w=>Q .normal a w
 |_,_,_=>False
def Znj(l n:Nat)(O:FuncId->Sig)(R:TypeId->Sig)(L:Nat->Option LoopSpec)(a6:∀c,L (condKey c)=none)(a7:∀id,L (2000000+id)=none):∀(c:Code),rndOK c=true->∀(X:Cx) (d:St) (a:Act) (w:World) (C:Ex->St->Prop) (Q:Exit->Act->World->Prop),
  (∀e d s w,Fits X d s w->Fr (Zah c) a s->C e d->Q e.to s w)->Fits X d a w->vc P O R L c d C->c.wpIn (Fence.wide.inRound l) n P Q a w:=by
 intro c
 induction c with
 |skip=>intro _ X d a w C Q k F f;exact wpIn_skip (k .normal d a w F (Fr.refl _ _) f)
 |region id g a5=>
  intro v X d a w C Q k F f
  cases a5 with
  |true=>
   simp only[vc]at f
   cases hok:(P.follows .mixedOrders&&Zfr g)with
   |false=>simp[hok]at f
   |true=>
    simp only[hok,cond_true]at f;simp only[Bool.and_eq_true]at hok
    split at f
    .exact Zll l n O R id g hok.1 hok.2 v d a w F _ f Q (λd a w F j p=>k .normal d a w F j p)
    .rename_i q _;obtain⟨h0,aa,N⟩:=F;have Fb:=N.rebase;unfold cutC at f
     cases hs0:(Zam (Zad q) d.objs q.fixed).isSome with
     |false=>simp only[hs0,cond_false]at f
     |true=>
      simp only[hs0,cond_true]at f;obtain⟨I,m,h1,T⟩:=f;refine Zll l n O R id g hok.1 hok.2 v d a w ⟨_,_,Fb⟩ _ h1 Q (λu J w1 F1 j p=>?_)
      split at p
      .exact p.elim
      next a4 M U=>
       cases z:(headOK q (unP q.ptrs (g.toList.filterMap (·.dst))) M&&Zas (Zao (unP q.ptrs (g.toList.filterMap (·.dst))) (Zad q) 0 (setP q.ptrs d.tmps)) (St.frzAll (Zal u q) u).tmps)with
       |false=>simp only[z,cond_false]at p
       |true=>simp only[z,cond_true]at p;simp only[Bool.and_eq_true]at z;obtain⟨hx,ab,Fx⟩:=F1;obtain⟨hy,_,Fy⟩:=Fx.frzAll (Zal u q);obtain⟨hd,⟨hz,V,Fz⟩,W⟩:=Zdl N hs0 Fy j U z.1 z.2 p.1 T p.2;exact k .normal hd J w1 ⟨hz,V,N.unbase Fz⟩ j W
  |false=>
   simp only[vc]at f
   have go:∀(K:St->Prop),vcOps P O R g g.toList d K->∀(Y:Cx),Fits Y d a w->(∀u J w1,Fits Y u J w1->Fr (Zah (.region id g false)) a J->K u->Q .normal J w1)->(Code.region id g false).wpIn (Fence.wide.inRound l) n P Q a w:=by
    intro K f Y F hK
    refine wpIn_mono (Q:=onlyN Q) (wpIn_region_list (Zlk l n (by rintro⟨_,_,h⟩;exact h) g.toList (λo ho=>Zu5 (List.all_eq_true.1 v o ho)) a w
     (Zdt O R g (onlyN Q) _ (Zah (.region id g false)) a (λd a w F j p=>hK d a w F j p) g.toList d a w (λo ho t G=>YF.2 ⟨o,ho,G⟩) (Fr.refl _ _) F f))) (λe a w h=>?_)
    cases e with
    |normal=>exact h
    |_=>exact h.elim
   split at f
   .exact go _ f X F (λd a w F j p=>k .normal d a w F j p)
   .rename_i q _;obtain⟨h0,aa,N⟩:=F;have Fb:=N.rebase;unfold cutC at f
    cases hs0:(Zam (Zad q) d.objs q.fixed).isSome with
    |false=>simp only[hs0,cond_false]at f
    |true=>
     simp only[hs0,cond_true]at f;obtain⟨I,m,h1,T⟩:=f;refine go _ h1 _ ⟨_,_,Fb⟩ (λu J w1 F1 j p=>?_)
     split at p
     .exact p.elim
     next a4 M U=>
      cases z:(headOK q (unP q.ptrs (g.toList.filterMap (·.dst))) M&&Zas (Zao (unP q.ptrs (g.toList.filterMap (·.dst))) (Zad q) 0 (setP q.ptrs d.tmps)) (St.frzAll (Zal u q) u).tmps)with
      |false=>simp only[z,cond_false]at p
      |true=>simp only[z,cond_true]at p;simp only[Bool.and_eq_true]at z;obtain⟨hx,ab,Fx⟩:=F1;obtain⟨hy,_,Fy⟩:=Fx.frzAll (Zal u q);obtain⟨hd,⟨hz,V,Fz⟩,W⟩:=Zdl N hs0 Fy j U z.1 z.2 p.1 T p.2;exact k .normal hd J w1 ⟨hz,V,N.unbase Fz⟩ j W
 |seq x y a0 a3=>
  intro v X d a w C Q k F f;simp only[rndOK,Bool.and_eq_true]at v;refine wpIn_seq (a0 v.1 X d a w _ _ ?_ F f);intro e A s H D j E;have Z:Fr (Zah (.seq x y)) a s:=j.mono (λt G=>by simp[Zah,G])
  cases e with
  |normal=>exact a3 v.2 X A s H C Q (λe a8 a2 w2 F2 a9 T=>k e a8 a2 w2 F2 (Z.trans (a9.mono (λt G=>by simp[Zah,G]))) T) D E
  |exit id=>exact k (.exit id) A s H D Z E
  |ret=>exact k .ret A s H D Z E
 |cond c x y a0 a3=>
  intro v X d a w C Q k F f;simp only[rndOK,Bool.and_eq_true]at v;simp only[vc]at f
  split at f
  .rename_i b z;obtain⟨h,ρ,D⟩:=F;have r:=D.operand [] Vs c;rw[z]at r;rw[a6]at f
   exact wpIn_cond_split r.val_inv (λe=>a0 v.1 X d a w C Q (λe d s w F j=>k e d s w F (j.mono (λt G=>by simp[Zah,G]))) ⟨h,ρ,D⟩ (by subst e;exact f))
    (λe=>a3 v.2 X d a w C Q (λe d s w F j=>k e d s w F (j.mono (λt G=>by simp[Zah,G]))) ⟨h,ρ,D⟩ (by subst e;exact f))
  grind
 |block id ac ih=>
  intro v X d a w C Q k F f;simp only[vc,a7]at f;refine wpIn_block (ih v X d a w _ _ ?_ F f);intro e A s H D j E
  cases e with
  |normal=>exact k .normal A s H D j E
  |exit i=>
   simp only[Ex.to,Exit.inBlock];by_cases hi:i=id
   .subst hi;simp only[Y6,cond_true]at E;rw[if_pos rfl];exact k .normal A s H D j E
   .simp only[Zak hi,cond_false]at E;rw[if_neg hi];exact k (.exit i) A s H D j E
  |ret=>exact k .ret A s H D j E
 |exit id=>intro _ X d a w C Q k F f;exact wpIn_exit (k (.exit id) d a w F (Fr.refl _ _) f)
 |ret=>intro _ X d a w C Q k F f;exact wpIn_ret (k .ret d a w F (Fr.refl _ _) f)
 |_=>intro v;simp[rndOK]at v
end
end Go.Px
namespace Go.Px
open Go Go.RowKit
def Zmt(P:Program)(f:FuncId)(o:(Nat->Value)->Value)(d:Nat):Prop:=
 (∀c w,(callFunc f c).run P w= .ok (.enter f c) w)/\
 ∀(l g h:Nat) (p:Option Addr) (b off len m:Nat) (n:Nat->Nat->Value) (_:0<len->p=some ⟨b,off,none⟩) (_:len<=4611686018427387904)
  (J:Nat->World->Prop) (Kp:World->World->Prop) (_:∀W,Kp W W) (_:∀{A B C:World},Kp A B->Kp B C->Kp A C)
  (_:∀k W,J k W->k<len->YieldAt Fence.wide 1 P l #[.int .i64 ((len:Int)-1-k),o (n (len-1-k))] W λe a=>e= .returned (.bool true)/\J (k+1) a/\Kp W a)
  (W:World) (_:∀a,Kp W a->a.cell? ⟨g,h,none⟩=some (.slice p len m)) (_:∀j,j<len->∀i,i<d->∀a,Kp W a->a.cell? ⟨b,off+j*d+i,none⟩=some (n j i)) (_:J 0 W),
  CallsIn Fence.wide 2 P f #[.func (.yield l) #[] #[],.pointer (some ⟨g,h,none⟩)] W λe a=>(∃v,e= .returned v)/\J len a
section
variable{P:Program}
def isRec:Obj->Bool
 | .loop _| .deferred _=>true
 |_=>false
def Zud(B:Nat)(W a:World):Prop:=W.heap.size<=a.heap.size/\∀(k:Nat) (o:Obj),B<=k->W.heap[k]?=some o->isRec o=true->a.heap[k]?=some o
def rndPost(B:Nat)(Kp:World->World->Prop)(I:World->Prop)(W:World):Exit->Act->World->Prop
 | .normal,_,W'=>Zud B W W'/\Kp W W'/\I W'
 |_,_,_=>False
def rf_law{g:Operand}{y:Array Tmp}{assign body:Code}{Q:Exit->Act->World->Prop}{a:Act}{w:World}{f:FuncId}{el:(Nat->Value)->Value}{sz Bs bo:Nat}(L:Zmt P f el sz)
  (hg:a.eval g= .func (.func f) #[] #[.pointer (some ⟨Bs,bo,none⟩)]) (M:y.size=2) {p:Option Addr} {b off len cap:Nat} {ce:Nat->Nat->Value} (hp:0<len->p=some ⟨b,off,none⟩) (K:len<=4611686018427387904)
  (Kp:World->World->Prop) (N:∀W,Kp W W) (n:∀{A B C:World},Kp A B->Kp B C->Kp A C) (F:∀(W:World) (l:Nat) (o s:Obj),W.heap[l]?=some o->isRec o=true->Kp W (W.putObj l s)) (a5:∀(W:World) (o:Obj),Kp W (W.alloc o))
  (O:∀d,Kp w d->d.cell? ⟨Bs,bo,none⟩=some (.slice p len cap)) (hc:∀j,j<len->∀i,i<sz->∀d,Kp w d->d.cell? ⟨b,off+j*sz+i,none⟩=some (ce j i))
  (I:Nat->World->Prop) (a6:∀k W o,I k W->I k (W.alloc o)) (G:∀k W l o s,w.heap.size<=l->I k W->W.heap[l]?=some o->isRec o=true->I k (W.putObj l s)) (h0:I 0 w)
  (u:∀(l k:Nat) (W:World),w.heap.size<=l->I k W->k<len->
   assign.wpIn (Fence.wide.inRound l) 1 P (Exit.then (λa' d=>Zud w.heap.size W d/\Kp W d/\∀o s,d.heap[l]?=some o->isRec o=true->
     body.wpIn (Fence.wide.inRound l) 1 P (rndPost w.heap.size Kp (I (k+1)) (d.putObj l s)) a' (d.putObj l s)) (λ_ _ _=>False))
    {tmps:=(y.zip #[.int .i64 ((len:Int)-1-k),el (ce (len-1-k))]).foldl (λt (p,v)=>t.setIfInBounds p v) a.tmps,defers:=[]} W)
  (z:∀(D:Nat) (W:World),w.heap.size<=D->I len W->W.heap[D]?=some (.deferred (some []))->Q .normal {a with defers:={target:=.collected D,args:=#[]}::a.defers} W):
  (Code.rangeFunc g y assign body).wpIn Fence.wide 3 P Q a w:=by
 refine wpIn_rangeFunc λfn _=>?_
 obtain⟨c,hrec⟩:∃c:LoopState->Loop,c=λst=>{state:=st,pending:=none,fn,tmps:=a.tmps,params:=y,assign,body,defers:=w.heap.size}:=⟨_,rfl⟩
 obtain⟨m,hW1⟩:∃m,(w.alloc (.deferred (some []))).alloc (.loop (c .ready))=m:=⟨_,rfl⟩
 have hL:m.heap[w.heap.size+1]?=some (.loop (c .ready)):=(by rw[<-hW1];have:=World.alloc_heap_new (w.alloc (.deferred (some []))) (.loop (c .ready));rwa[World.size_alloc]at this);have hD:m.heap[w.heap.size]?=some (.deferred (some [])):=(by rw[<-hW1];exact(Below.heap_alloc _ _ _ Vs).trans (World.alloc_heap_new w _));have V:I 0 m:=Vg;have J:Kp w m:=Vg
 refine⟨w.heap.size+1,[{target:=.collected w.heap.size,args:=#[]}],m,{target:=.fn (.func f) #[.pointer (some ⟨Bs,bo,none⟩)],args:=#[.func (.yield (w.heap.size+1)) #[] #[]]},m,f,
  #[.func (.yield (w.heap.size+1)) #[] #[]]++ #[.pointer (some ⟨Bs,bo,none⟩)],m,?_,?_,λf' a7=>trivial,?_,λh=>(by cases h),?_⟩
 .rw[<-hW1,hrec];exact run_enterLoop_outer _ _ _ _ _
 .simp only[resolve,hg];simp[go_sem]
 .simp[invoke,go_sem,L.1]
 .refine(L.2 (w.heap.size+1) Bs bo p b off len cap ce hp K (λk W=>I k W/\W.heap[w.heap.size+1]?=some (.loop (c .ready))/\W.heap[w.heap.size]?=some (.deferred (some []))) Kp N n ?_ m
   (λd h=>O d (n J h)) (λj hj i x d h=>hc j hj i x d (n J h)) ⟨V,hL,hD⟩).mono ?_
  .rintro k W ⟨x,hl,hd⟩ hk;have X:=run_yield (P:=P) (args:=#[.int .i64 ((len:Int)-1-k),el (ce (len-1-k))]) hl (by rw[hrec];simp[M]);rw[hrec]at X;refine⟨fn,_,assign,body,X,roundIn_of_wpIn trivial (wpIn_mono (u (w.heap.size+1) k W Vo x hk) ?_)⟩;rintro e a1 E R
   cases e with
   |normal=>
    obtain⟨U,kp,hb⟩:=R;have q:=U.2 _ _ Vo hl rfl;have Y:=U.2 _ _ (Nat.le_refl _) hd rfl;refine⟨_,run_beginRound q (by rw[hrec]),wpIn_mono (hb _ (.loop {c .ready with state:=.busy}) q rfl) ?_⟩;have Z:w.heap.size+1<E.heap.size:=(Y3.1 q).1;have a0:(E.putObj (w.heap.size+1) (.loop {c .ready with state:=.busy})).heap[w.heap.size+1]?=some (.loop {c .ready with state:=.busy}):=World.putObj_heap_same Z;have a2:(E.putObj (w.heap.size+1) (.loop {c .ready with state:=.busy})).heap[w.heap.size]?=some (.deferred (some [])):=(World.putObj_heap_other Vo).trans Y;rintro e a3 W3 T
    cases e with
    |normal=>obtain⟨H,kp3,hi3⟩:=T;have r:=H.2 _ _ Vo a0 rfl;have a4:=H.2 _ _ (Nat.le_refl _) a2 rfl;refine⟨_,_,run_endRound none r,rfl,⟨G _ _ _ _ _ Vo hi3 r rfl,?_,(World.putObj_heap_other Vo).trans a4⟩,n (n (n kp (F _ _ _ _ q rfl)) kp3) (F _ _ _ _ r rfl)⟩;rw[World.putObj_heap_same (Y3.1 r).1,hrec];rfl
    |_=>exact T.elim
   |_=>exact R.elim
  .rintro e E ⟨⟨v,rfl⟩,x,hl,hd⟩;have:=run_endLoop (P:=P) hl (by rw[hrec];simp);rw[hrec]at this;exact⟨none,_,this,z _ _ (Nat.le_refl _) (G _ _ _ _ _ Vo x hl rfl) ((World.putObj_heap_other Vo).trans hd)⟩
end
end Go.Px
namespace Go.Px
open Go Go.RowKit

import Derived.Test.YtgehiiginclniaaGreatDoorK05
import Derived.RangeFuncLeaves
import Derived.Test.YtgehiiginclniaaGreatDoorProg
set_option linter.all false
set_option maxRecDepth 100000
namespace Go.Px
open Go Go.RowKit
def Zl8(P:Program)(f:FuncId)(o:(Nat→Value)→Value)(d:Nat):Prop:=
 (∀c w,(callFunc f c).run P w= .ok (.enter f c) w)∧
 ∀(l g h:Nat) (p:Option Addr) (b off len m:Nat) (n:Nat→Nat→Value) (_:0<len→p=some ⟨b,off,none⟩) (_:len≤4611686018427387904)
  (J:Nat→World→Prop) (Kp:World→World→Prop) (_:∀W,Kp W W) (_:∀{A B C:World},Kp A B→Kp B C→Kp A C)
  (_:∀k W,J k W→k<len→YieldAt Fence.wide 1 P l #[.int .i64 ((len:Int)-1-k),o (n (len-1-k))] W λe a=>e= .returned (.bool true)∧J (k+1) a∧Kp W a)
  (W:World) (_:∀a,Kp W a→a.cell? ⟨g,h,none⟩=some (.slice p len m)) (_:∀j,j<len→∀i,i<d→∀a,Kp W a→a.cell? ⟨b,off+j*d+i,none⟩=some (n j i)) (_:J 0 W),
  CallsIn Fence.wide 2 P f #[.func (.yield l) #[] #[],.pointer (some ⟨g,h,none⟩)] W λe a=>(∃v,e= .returned v)∧J len a
section
variable{P:Program}
def isRec:Obj→Bool
 | .loop _| .deferred _=>true
 |_=>false
def Ztc(B:Nat)(W a:World):Prop:=W.heap.size≤a.heap.size∧∀(k:Nat) (o:Obj),B≤k→W.heap[k]?=some o→isRec o=true→a.heap[k]?=some o
def rndPost(B:Nat)(Kp:World→World→Prop)(I:World→Prop)(W:World):Exit→Act→World→Prop
 | .normal,_,W'=>Ztc B W W'∧Kp W W'∧I W'
 |_,_,_=>False
theorem rf_law{g:Operand}{y:Array Tmp}{assign body:Code}{Q:Exit→Act→World→Prop}{a:Act}{w:World}{f:FuncId}{el:(Nat→Value)→Value}{sz Bs bo:Nat}(N:Zl8 P f el sz)
  (hg:a.eval g= .func (.func f) #[] #[.pointer (some ⟨Bs,bo,none⟩)]) (O:y.size=2) {p:Option Addr} {b off len cap:Nat} {ce:Nat→Nat→Value} (hp:0<len→p=some ⟨b,off,none⟩) (M:len≤4611686018427387904)
  (Kp:World→World→Prop) (R:∀W,Kp W W) (m:∀{A B C:World},Kp A B→Kp B C→Kp A C) (F:∀(W:World) (l:Nat) (o s:Obj),W.heap[l]?=some o→isRec o=true→Kp W (W.putObj l s)) (G:∀(W:World) (o:Obj),Kp W (W.alloc o))
  (T:∀d,Kp w d→d.cell? ⟨Bs,bo,none⟩=some (.slice p len cap)) (hc:∀j,j<len→∀i,i<sz→∀d,Kp w d→d.cell? ⟨b,off+j*sz+i,none⟩=some (ce j i))
  (I:Nat→World→Prop) (H:∀k W o,I k W→I k (W.alloc o)) (J:∀k W l o s,w.heap.size≤l→I k W→W.heap[l]?=some o→isRec o=true→I k (W.putObj l s)) (h0:I 0 w)
  (u:∀(l k:Nat) (W:World),w.heap.size≤l→I k W→k<len→
   assign.wpIn (Fence.wide.inRound l) 1 P (Exit.then (λa' d=>Ztc w.heap.size W d∧Kp W d∧∀o s,d.heap[l]?=some o→isRec o=true→
     body.wpIn (Fence.wide.inRound l) 1 P (rndPost w.heap.size Kp (I (k+1)) (d.putObj l s)) a' (d.putObj l s)) (λ_ _ _=>False))
    {tmps:=(y.zip #[.int .i64 ((len:Int)-1-k),el (ce (len-1-k))]).foldl (λt (p,v)=>t.setIfInBounds p v) a.tmps,defers:=[]} W)
  (z:∀(D:Nat) (W:World),w.heap.size≤D→I len W→W.heap[D]?=some (.deferred (some []))→Q .normal {a with defers:={target:=.collected D,args:=#[]}::a.defers} W):
  (Code.rangeFunc g y assign body).wpIn Fence.wide 3 P Q a w:=by
 refine wpIn_rangeFunc λfn _=>?_
 obtain⟨c,hrec⟩:∃c:LoopState→Loop,c=λst=>{state:=st,pending:=none,fn,tmps:=a.tmps,params:=y,assign,body,defers:=w.heap.size}:=⟨_,rfl⟩
 obtain⟨n,hW1⟩:∃n,(w.alloc (.deferred (some []))).alloc (.loop (c .ready))=n:=⟨_,rfl⟩
 have hL:n.heap[w.heap.size+1]?=some (.loop (c .ready)):=(by rw[←hW1];have:=World.alloc_heap_new (w.alloc (.deferred (some []))) (.loop (c .ready));rwa[World.size_alloc]at this);have hD:n.heap[w.heap.size]?=some (.deferred (some [])):=(by rw[←hW1];exact(Below.heap_alloc _ _ _ (by simp)).trans (World.alloc_heap_new w _));have Z:I 0 n:=(by rw[←hW1];exact H _ _ _ (H _ _ _ h0));have L:Kp w n:=by rw[←hW1];exact m (G _ _) (G _ _)
 refine⟨w.heap.size+1,[{target:=.collected w.heap.size,args:=#[]}],n,{target:=.fn (.func f) #[.pointer (some ⟨Bs,bo,none⟩)],args:=#[.func (.yield (w.heap.size+1)) #[] #[]]},n,f,
  #[.func (.yield (w.heap.size+1)) #[] #[]]++ #[.pointer (some ⟨Bs,bo,none⟩)],n,?_,?_,λf' a7=>trivial,?_,λh=>(by cases h),?_⟩
 ·rw[←hW1,hrec];exact run_enterLoop_outer _ _ _ _ _
 ·simp only[resolve,hg];simp[go_sem]
 ·simp[invoke,go_sem,N.1]
 ·refine(N.2 (w.heap.size+1) Bs bo p b off len cap ce hp M (λk W=>I k W∧W.heap[w.heap.size+1]?=some (.loop (c .ready))∧W.heap[w.heap.size]?=some (.deferred (some []))) Kp R m ?_ n
   (λd h=>T d (m L h)) (λj hj i x d h=>hc j hj i x d (m L h)) ⟨Z,hL,hD⟩).mono ?_
  ·rintro k W ⟨x,hl,hd⟩ hk;have hy:=run_yield (P:=P) (args:=#[.int .i64 ((len:Int)-1-k),el (ce (len-1-k))]) hl (by rw[hrec];simp[O]);rw[hrec]at hy;refine⟨fn,_,assign,body,hy,roundIn_of_wpIn trivial (wpIn_mono (u (w.heap.size+1) k W (by omega) x hk) ?_)⟩;rintro e a1 E U
   cases e with
   |normal=>
    obtain⟨X,kp,hb⟩:=U;have q:=X.2 _ _ (by omega) hl rfl;have a0:=X.2 _ _ (Nat.le_refl _) hd rfl;refine⟨_,run_beginRound q (by rw[hrec]),wpIn_mono (hb _ (.loop {c .ready with state:=.busy}) q rfl) ?_⟩;have a2:w.heap.size+1<E.heap.size:=(Array.getElem?_eq_some_iff.1 q).1;have a4:(E.putObj (w.heap.size+1) (.loop {c .ready with state:=.busy})).heap[w.heap.size+1]?=some (.loop {c .ready with state:=.busy}):=World.putObj_heap_same a2;have a5:(E.putObj (w.heap.size+1) (.loop {c .ready with state:=.busy})).heap[w.heap.size]?=some (.deferred (some [])):=(World.putObj_heap_other (by omega)).trans a0;rintro e a3 W3 V
    cases e with
    |normal=>obtain⟨K,Y,hi3⟩:=V;have r:=K.2 _ _ (by omega) a4 rfl;have a6:=K.2 _ _ (Nat.le_refl _) a5 rfl;refine⟨_,_,run_endRound none r,rfl,⟨J _ _ _ _ _ (by omega) hi3 r rfl,?_,(World.putObj_heap_other (by omega)).trans a6⟩,m (m (m kp (F _ _ _ _ q rfl)) Y) (F _ _ _ _ r rfl)⟩;rw[World.putObj_heap_same (Array.getElem?_eq_some_iff.1 r).1,hrec];rfl
    |_=>exact V.elim
   |_=>exact U.elim
  ·rintro e E ⟨⟨v,rfl⟩,x,hl,hd⟩;have:=run_endLoop (P:=P) hl (by rw[hrec];simp);rw[hrec]at this;exact⟨none,_,this,z _ _ (Nat.le_refl _) (J _ _ _ _ _ (by omega) x hl rfl) ((World.putObj_heap_other (by omega)).trans hd)⟩
end
end Go.Px
namespace Go.Px
open Go Go.RowKit
end Go.Px
namespace Go.Px
open Go Go.RowKit
section
variable{P:Program}{X:Cx}
theorem Zs4{b:LoopSpec}{wr:List Nat}{c d:St}{e:List SV}(f:b.slots=[])(a:Ze2 b wr c e=some d):d.tmps=Zan wr (Zad b) 0 c.tmps:=by
 unfold Ze2 at a;rw[f]at a;simp only[Zjb]at a
 split at a
 ·split at a
  ·cases a;rfl
  ·cases a
 ·cases a
def Znf(X:Cx)(b:LoopSpec)(wr:List Nat)(f:St)(a:Act)(I:ITy (Zau b) Prop)(W:World):Prop:=
 ∃c g h i d e,FitsAt X h i c g W∧Fr wr a g∧Zd3 b c=some (d,e)∧headOK b wr e=true∧Zaq (Zan wr (Zad b) 0 f.tmps) c.tmps=true∧
  Zal (Zad b) c.objs b.fixed=Zal (Zad b) f.objs b.fixed∧Zbu (Zau b) I d (λp=>p)
theorem Znf.made{b:LoopSpec}{wr:List Nat}{d:St}{a:Act}{I:ITy (Zau b) Prop}{W e:World}(A:Znf X b wr d a I W)(i:Keeps (λ_=>False) W e):Znf X b wr d a I e:=by
 obtain⟨f,j,h,k,c,g,F,r⟩:=A;exact⟨f,j,h,k,c,g,F.made i,r⟩
theorem rec_none{h:Hp}{W:World}{l:Nat}{o:Obj}(a:HSub h W)(b:W.heap[l]?=some o)(c:isRec o=true):∀x,h l x=none:=by
 intro x
 cases e:h l x with
 |none=>rfl
 |some v=>
  have:=a _ _ _ e
  cases o<;>simp[isRec]at c<;>simp[World.cell?,b]at this
theorem Zpb{h:Hp}{d:Nat→Loc}{f:St}{a:Act}{W:World}{l:Nat}{o:Obj}(F:FitsAt X h d f a W)(b:W.heap[l]?=some o)(c:isRec o=true):∀i,live f.objs d i→(d i).blk≠l:=by
 rintro i ⟨⟨ob,e⟩,hn⟩ rfl;have k:=F.obj i ob e
 cases ob with
 |box cells=>obtain⟨_,⟨g,t,e,_⟩,_⟩:=k;rw[b]at e;cases e;simp[isRec]at c
 |own r rows=>
  rcases k with⟨j,_⟩|⟨_,k⟩
  ·rw[j]at hn;cases hn
  ·obtain⟨g,t,p,e,_⟩:=k.hblk;rw[b]at e;cases e;simp[isRec]at c
 |mp s=>obtain⟨_,⟨n,q,e,_⟩,_⟩:=k;rw[b]at e;cases e;simp[isRec]at c
 |arr u m v=>obtain⟨_,⟨g,t,e,_⟩,_⟩:=k;rw[b]at e;cases e;simp[isRec]at c
theorem FitsAt.putRec{h:Hp}{c:Nat→Loc}{d:St}{a:Act}{W:World}{l:Nat}{o:Obj}(g:Obj)(F:FitsAt X h c d a W)(i:X.w.heap.size≤l)(e:W.heap[l]?=some o)(f:isRec o=true):FitsAt X h c d a (W.putObj l g):=
 F.touch l (Zpb F e f) (rec_none F.sub e f) (.inl i) (λk b=>World.putObj_heap_other b) ⟨rfl,rfl,rfl,by simp,λk _ b=>World.putObj_heap_other b⟩
theorem FitsAt.restand0{h:Hp}{b:Nat→Loc}{c:St}{a:Act}{w:World}(F:FitsAt X h b c a w)(d:X.df=[]):FitsAt {w:=w,h:=h,G:=Gv c.objs b,pin:=X.pin,df:=[]} h b c a w:=by
 have e:{a with defers:=[]}=a:=by
  have:=F.df.trans d
  cases a;cases this;rfl
 have:=F.restand [];rw[e]at this;exact this
theorem Zng{h:Hp}{c:Nat→Loc}{d:St}{a:Act}{W f:World}(B:Nat)(F:FitsAt X h c d a W)(g:Keeps (Gv d.objs c) W f):Ztc B W f:=by
 refine⟨g.size,λk o _ b j=>?_⟩;rw[g.block k (Array.getElem?_eq_some_iff.1 b).1 (λl=>?_)]
 ·exact b
 ·obtain⟨i,m,e⟩:=l;exact Zpb F b j i m e
theorem Zij(wr a:List Nat):∀(l:List SV) (t:Nat),Zaq (Zan wr a t l) l=true
 | [],t=>rfl
 |c::cs,t=>by
  simp only[Zan,Zaq,Zij wr a cs,Bool.and_true]
  cases hh:hasN wr t with
  |true=>rfl
  |false=>
   simp only[cond_false]
   rcases Zbi a c with e|⟨e,_⟩
   ·rw[e];cases c<;>rfl
   ·rw[e];cases c<;>simp[keptV]
theorem Zv0{z:Hp}{l:Nat→Loc}{j:St}{o:Act}{w0 W:World}(C:FitsAt X z l j o w0)(Y:X.h=z){a:LoopSpec}{wr:List Nat}(G:a.slots=[])(H:(Zal (Zad a) j.objs a.fixed).isSome=true)
  {I:ITy (Zau a) Prop} {m:ITy (Zau a) Nat} {K:St→Prop} (A:Znf X a wr j o I W)
  (Z:allI (Zau a) I m λvs _=>match Ze2 a wr j vs with|none=>False|some i=>K i):
  ∃i h L,FitsAt X h L i o W∧K i∧i.tmps=Zan wr (Zad a) 0 j.tmps:=by
 obtain⟨M,a1,h,L,a2,a3,D,v,hh,E,p,N,hi⟩:=A;obtain⟨a4,k,hn,F,hm⟩:=Zka _ I m _ _ Z hi
 split at F
 ·exact F.elim
 ·rename_i i u;obtain⟨O,g2⟩:=Zd8 _ _ p;obtain⟨Q,R⟩:=Zb0 wr (Zad a) j.tmps 0
  obtain⟨T,U⟩:=Zl7 D hh E hn (λt s g=>by
   obtain⟨c,V,f⟩:=R t s g
   rcases f with rfl|⟨hnw,rfl⟩
   ·exact .pure _ _ (.unk _)
   ·rw[Yd]at hnw
    rcases Zbi (Zad a) c with e|⟨e,hcs⟩
    ·rw[e];exact .pure _ _ (.unk _)
    ·have w:t<M.tmps.length:=(by rw[O];exact(Y0.1 g).1);have y:=g2 t _ _ g (List.getElem?_eq_getElem w);rw[e]at y⊢
     rcases hcs with hp|hcs
     ·rw[v t hnw];have q:=C.tm t c V;have hr:Rep z l (o.tmps.getD t undef) c:=q.out (λJ b x d=>by subst d;simp[Zav]at hp);exact .pure _ _ ((hr.toPure hp).mono (Y▸D.mono))
     ·have he:=Zpd y (by
       rcases hcs with⟨id,off,e,_⟩|⟨id,e,_⟩|⟨id,e,_⟩
       ·exact .inl ⟨id,off,e⟩
       ·exact .inr (.inl ⟨id,e⟩)
       ·exact .inr (.inr ⟨id,e⟩))
      have q:=D.tm t _ (List.getElem?_eq_getElem w);rw[he]at q
      exact q.out (λJ b x d=>by rcases hcs with⟨id,off,e,_⟩|⟨id,e,_⟩|⟨id,e,_⟩<;>rw[e]at d<;>cases d)) (by rw[O,Q]) H N u
  have n:=Zs4 G u;refine⟨i,h,T,{U with size:=?_,tm:=λt s g=>?_,df:=C.df},F,n⟩
  ·rw[n,Q];exact C.size
  ·have r:=U.tm t s g;rw[n]at g;obtain⟨c,V,f⟩:=R t s g
   rcases f with rfl|⟨hnw,rfl⟩
   ·exact TRep.rep_unk _ _
   ·rw[Yd]at hnw;rw[v t hnw]at r;refine TRep.of_rep' (r.out (λJ b x d=>?_))
    rcases Zbi (Zad a) c with e|⟨e,hcs⟩
    ·rw[e]at d;cases d
    ·rw[e]at d;subst d
     rcases hcs with hp|⟨_,_,e,_⟩|⟨_,e,_⟩|⟨_,e,_⟩
     ·simp[Zav]at hp
     all_goals cases e
def elOf(P:Program)(e:TypeId)(z:Nat):(Nat→Value)→Value:=bif Zat P e then λc=>.agg ((List.range z).map c).toArray else λc=>c 0
theorem elOf_rep{h:Hp}{e:TypeId}{z:Nat}{c:Nat→Value}{r:List SV}(a:r.length=z)(b:Zat P e=true∨z=1)(d:∀(j:Nat) s,r[j]?=some s→PRep h (c j) s):PRep h (elOf P e z c) (rowD (Zat P e) r):=by
 unfold elOf rowD
 cases hag:Zat P e with
 |true=>simp only[cond_true];refine .agg _ _ (by simp[a]) (λi v s f k=>?_);simp only[Ym,Yr,Option.map_eq_some_iff]at f;obtain⟨j,l,rfl⟩:=f;obtain⟨_,e⟩:=Y0.1 l;rw[W6]at e;subst e;exact d _ s k
 |false=>
  simp only[cond_false];rw[hag]at b;have g:z=1:=b.resolve_left (by simp);subst g
  match r,a with
  | [s],_=>exact d 0 s rfl
theorem Zs5{b:LoopSpec}{wr:List Nat}{e a:St}{i f:Act}{W:World}{h:Hp}{j:Nat→Loc}{I:ITy (Zau b) Prop}(F:FitsAt X h j a f W)(k:Fr wr i f)(c:Zrb b wr e I a):Znf X b wr e i I W:=by
 unfold Zrb at c;obtain⟨m,_,n⟩:=F.frzAll (Zak a b)
 split at c
 ·exact c.elim
 ·rename_i g d l
  cases hc:(headOK b wr d&&Zaq (Zan wr (Zad b) 0 e.tmps) (St.frzAll (Zak a b) a).tmps)with
  |false=>simp only[hc,cond_false]at c
  |true=>simp only[hc,cond_true]at c;simp only[Bool.and_eq_true]at hc;exact⟨_,f,m,j,g,d,n,k,l,hc.1,hc.2,c.1,c.2⟩
theorem Fr.df{c:List Nat}{a b:Act}{ds:List Deferred}(x:Fr c {a with defers:=ds} b):Fr c a b:=x
theorem clo_slice{h:Hp}{v:Value}{f:FuncId}{g:Nat}{rows:List (List SV)}{tok:Nat}(r:PRep h v (.clo f [.ref 0 [.slice g rows tok]])):
  ∃(m n:Nat) (p:Option Addr) (b off a:Nat) (d:Nat→Nat→Value),v= .func (.func f) #[] #[.pointer (some ⟨m,n,none⟩)]∧h m n=some (.slice p rows.length a)∧(0<rows.length→p=some ⟨b,off,none⟩)∧
   (∀(i:Nat) r,rows[i]?=some r→r.length=g)∧
   ∀(i:Nat) r (j:Nat) c,rows[i]?=some r→r[j]?=some c→h b (off+i*g+j)=some (d i j)∧PRep h (d i j) c:=by
 cases r with
 |clo _ d _ t D=>
  simp at t
  obtain⟨u,rfl⟩:∃u,d= #[u]:=by
   rcases d with⟨l⟩
   match l,t with
   | [u],_=>exact⟨u,rfl⟩
  have C:=D 0 u _ (by simp) (by simp;rfl)
  cases C with
  |ref w e _ _ d E F=>
   have k:=E 0 _ (by simp;rfl);have s:=F 0 _ (by simp;rfl);generalize d 0=u at k s
   cases s with
   |empty p a=>exact⟨w,e+0,p,0,0,a,λ_ _=>undef,rfl,by simpa using k,λh=>absurd h (by simp),λi r h=>(by simp at h),λi r j c h=>(by simp at h)⟩
   |slice b off a _ _ _ x A G y z=>exact⟨w,e+0,_,b,off,a,x,rfl,by simpa using k,λ_=>rfl,G,λi r j c o q=>⟨y i r j c o q,z i r j c o q⟩⟩
set_option maxHeartbeats 1000000 in
theorem vcI_sound(Sg:FuncId→Sig)(Sv:TypeId→Sig){ad:FuncId}{e:TypeId}(ao:∀z,szT P e=some z→Zl8 P ad (elOf P e z) z){H:LoopSpec}{g:Operand}{ps:Array Tmp}{d m:Code}
  {ap:Hp} {M:Nat→Loc} {E:St} {a:Act} {w:World} (aq:FitsAt X ap M E a w) {K:St→Prop} (n:vcI P Sg Sv ad e H g ps d m E K) {Q:Exit→Act→World→Prop}
  (hQ:∀(D:Nat) (ae:St) (W:World),w.heap.size≤D→Fits X ae a W→K ae→W.heap[D]?=some (.deferred (some []))→Q .normal {a with defers:={target:=.collected D,args:=#[]}::a.defers} W):
  (Code.rangeFunc g ps d m).wpIn Fence.wide 3 P Q a w:=by
 unfold vcI vcI1 at n;obtain⟨h0,_,J⟩:=aq.frzAll (Zak E H);generalize St.frzAll (Zak E H) E=st at n J;generalize hwr:ps.toList++(Zaf d++Zaf m)=wr at n;simp only[]at n
 split at n
 ·rename_i f cl p q hg af ag
  split at n
  ·rename_i O T hh
   split at n
   ·rename_i z hz
    cases G:((Zat P e||Nat.beq z 1)&&rndOK d&&rndOK m&&!(Nat.beq p q)&&Nat.blt p (lenN st.tmps)&&Nat.blt q (lenN st.tmps)&&headOK H wr T&&(Zal (Zad H) st.objs H.fixed).isSome)with
    |false=>simp only[G,cond_false]at n
    |true=>
     simp only[G,cond_true]at n;simp only[Bool.and_eq_true,Bool.or_eq_true,Yh]at G;obtain⟨⟨⟨⟨⟨⟨⟨c2,c3⟩,c4⟩,c5⟩,c6⟩,c7⟩,c8⟩,c9⟩:=G;have c2:Zat P e=true∨z=1:=c2.imp id Nat.eq_of_beq_eq_true;have c5:p≠q:=λe=>by subst e;simp at c5
     have c6:p<st.tmps.length:=(by have:=c6;rw[Za0]at this;simpa[Nat.blt_eq]using this);have c7:q<st.tmps.length:=(by have:=c7;rw[Za0]at this;simpa[Nat.blt_eq]using this);obtain⟨rows,rfl,rfl,am,I,aw,a5,aa⟩:=n;obtain⟨bg⟩:=ps;simp only at af;subst af;have b0:p∈wr:=(by rw[←hwr];simp);have b1:q∈wr:=(by rw[←hwr];simp);have b2:∀t,t∈Zaf d→t∈wr:=λt ht=>by rw[←hwr];simp[ht]
     have b4:∀t,t∈Zaf m→t∈wr:=λt ht=>by rw[←hwr];simp[ht]
     have rg:=J.operand [] (by simp) g;rw[hg]at rg;obtain⟨Bs,bo,pp,b,off,cap,ce,eg,ah,ax,a6,ai⟩:=clo_slice (rg.toPure (by rfl))
     let a0:Act:={a with defers:=[]}
     let Y:Cx:={X with h:=h0,df:=[]}
     have FY:FitsAt Y h0 M st a0 w:={J.rebase with df:=rfl}
     have bh:Y.w.heap.size≤w.heap.size:=FY.kp.size;have bf:(rlen rows).toNat=rows.length:=(by simp[rlen]);have a7:rlen rows=(rows.length:Int):=rfl
     refine rf_law (f:=f) (el:=elOf P e z) (sz:=z) (Bs:=Bs) (bo:=bo) (ao z hz) eg rfl (p:=pp) (b:=b) (off:=off) (len:=rows.length) (cap:=cap) (ce:=ce) ax (by rw[a7]at am;omega)
      (λW W'=>∀b o v,h0 b o=some v→W.cell? ⟨b,o,none⟩=some v→W'.cell? ⟨b,o,none⟩=some v) (λ_ _ _ _ _ h=>h) (λx y b o v e h=>y b o v e (x b o v e h)) ?_ ?_
      (λW' k=>k _ _ _ ah (J.sub _ _ _ ah)) ?_ (λk W=>Znf Y H wr st a0 (I (k:Int)) W) ?_ ?_ ?_ ?_ ?_
     ·intro W l o o' hl ho b o2 v _ G
      have b6:b≠l:=by
       rintro rfl
       cases o<;>simp[isRec]at ho<;>simp[World.cell?,hl]at G
      rw[World.cell?_of_block (w:=W) (World.putObj_heap_other b6)];exact G
     ·intro W o b o2 v _ G;have L:b<W.heap.size:=(by refine Classical.byContradiction λhn=>?_;have:W.heap[b]?=none:=Yj (by omega);simp[World.cell?,this]at G);rw[World.cell?_of_block (w:=W) (Below.heap_alloc _ _ _ L)];exact G
     ·intro j hj i hi W' k;obtain⟨N,_⟩:=ai j rows[j] i (rows[j][i]'(by rw[a6 j _ (List.getElem?_eq_getElem hj)];exact hi)) (List.getElem?_eq_getElem hj) (List.getElem?_eq_getElem _);exact k _ _ _ N (J.sub _ _ _ N)
     ·intro k W o A;exact A.made ⟨rfl,rfl,rfl,by simp,λk hk _=>Below.heap_alloc _ _ _ hk⟩
     ·rintro k W l o o' hl ⟨U,a1,h,ρ,O,T,F,r⟩ ho a4;exact⟨U,a1,h,ρ,O,T,F.putRec o' (by omega) ho a4,r⟩
     ·exact⟨st,a0,h0,M,O,T,FY,Fr.refl _ _,hh,c8,Zij _ _ _ _,rfl,aw⟩
     ·intro l k W hl A hk;obtain⟨R,h,ρ,F,ay,aj⟩:=Zv0 FY rfl ag c9 A (a5 k (by omega) (by rw[a7];omega));obtain⟨cs,_,an,az⟩:=Zey _ _ _ ay;have ak:kdn (rlen rows) k=(rows.length:Int)-1-k:=by rw[a7];rfl
      have hj:rows.length-1-k<rows.length:=(by omega);have V:rows[rows.length-1-k]?=some cs:=(by have e:(kdn (rlen rows) k).toNat=rows.length-1-k:=(by rw[ak];omega);rw[←an];unfold rget;rw[e,List.getElem?_eq_getElem hj];simp[hj]);have b7:PRep h0 (elOf P e z (ce (rows.length-1-k))) (rowD (Zat P e) cs):=elOf_rep (a6 _ _ V) c2 (λj s u=>(ai _ _ j s V u).2);have al:=Zb0 wr (Zad H) st.tmps 0;have L:R.tmps.length=st.tmps.length:=(by rw[aj,al.1]);have a8:a.tmps.size=st.tmps.length:=J.size;have b8:p<a.tmps.size:=(by rw[a8];exact c6);have b9:q<a.tmps.size:=(by rw[a8];exact c7);have ba:p<R.tmps.length:=(by rw[L];exact c6);have bb:q<R.tmps.length:=by rw[L];exact c7
      let C:Act:={tmps:=(a.tmps.setIfInBounds p (.int .i64 ((rows.length:Int)-1-k))).setIfInBounds q (elOf P e z (ce (rows.length-1-k))),defers:=[]}
      let Z:St:={R with tmps:=lset (lset R.tmps p (.val (.int .i64 (kdn (rlen rows) k)))) q (rowD (Zat P e) cs)}
      have a9:∀t,t≠p→t≠q→C.tmps.getD t undef=a.tmps.getD t undef:=λt N h2=>by simp only[C,Array.getD_eq_getD_getElem?];rw[Yc (YI h2),Yc (YI N)]
      have bc:C.tmps.getD p undef= .int .i64 (kdn (rlen rows) k):=(by simp only[C,Array.getD_eq_getD_getElem?];rw[Yc (YI c5),YU b8,ak];rfl);have bd:C.tmps.getD q undef=elOf P e z (ce (rows.length-1-k)):=by simp only[C,Array.getD_eq_getD_getElem?];rw[YU (by simpa using b9)];rfl
      have a3:FitsAt Y h ρ Z C W:={F with
       size:=by simp[C,Z,Zef,L,a8]
       df:=rfl
       tm:=λt s u=>by
        simp only[Z,Zef]at u;by_cases hq:t=q
        ·subst hq;rw[WK (by simpa using bb)]at u
         cases u
         rw[bd];exact TRep.of_rep' (.pure _ _ (b7.mono F.mono))
        ·rw[WS (YI hq)]at u;by_cases hp:t=p
         ·subst hp;rw[WK ba]at u
          cases u
          rw[bc];exact TRep.of_rep' (.pure _ _ (.val _))
         ·rw[WS (YI hp)]at u;rw[a9 t hp hq];have r:=F.tm t s u;rw[aj]at u;obtain⟨c,G,ab⟩:=al.2 t s u;refine TRep.of_rep' (r.out (λt' b x e'=>?_))
          rcases ab with e2|⟨_,e2⟩
          ·rw[e2]at e';cases e'
          ·rcases Zbi (Zad H) c with e|⟨e,V⟩
           ·rw[e2,e]at e';cases e'
           ·rw[e2,e]at e';subst e'
            rcases V with hp|⟨_,_,e,_⟩|⟨_,e,_⟩|⟨_,e,_⟩
            ·simp[Zav]at hp
            all_goals cases e}
      have be:Fr wr a0 C:=λt ht=>a9 t (λe=>ht (e▸b0)) (λe=>ht (e▸b1));have ac:((⟨[p,q]⟩:Array Tmp).zip #[Value.int .i64 ((rows.length:Int)-1-k),elOf P e z (ce (rows.length-1-k))]).foldl (λt (p,v)=>t.setIfInBounds p v) a.tmps=C.tmps:=(by simp[C]);show d.wpIn _ _ _ _ {tmps:=_,defers:=[]} W;rw[ac];refine Zmu l 1 Sg Sv (λ_=>none) (λ_=>rfl) (λ_=>rfl) d c3 _ Z C W _ _ ?_ ⟨h,ρ,a3.restand0 rfl⟩ az;rintro ex U a1 W1 ⟨N,ρ1,F1⟩ hf1 he
      cases ex with
      |exit id=>exact he.elim
      |ret=>exact he.elim
      |normal=>
       have G1:FitsAt Y N ρ1 U a1 W1:=a3.based F1;refine⟨Zng _ a3 F1.kp,λb o v e _=>F1.sub _ _ _ (F1.mono _ _ _ (a3.mono _ _ _ e)),λo o' ho a4=>?_⟩;have G2:=G1.putRec o' (by omega) ho a4;refine Zmu l 1 Sg Sv (λ_=>none) (λ_=>rfl) (λ_=>rfl) m c4 _ U a1 _ _ _ ?_ ⟨N,ρ1,G2.restand0 rfl⟩ he;rintro ex au a2 W2 ⟨h2,ρ2,F2⟩ hf2 he2
       cases ex with
       |exit id=>exact he2.elim
       |ret=>exact he2.elim
       |normal=>have G3:FitsAt Y h2 ρ2 au a2 W2:=G2.based F2;exact⟨Zng _ G2 F2.kp,λb o v e _=>F2.sub _ _ _ (F2.mono _ _ _ (G2.mono _ _ _ e)),Zs5 G3 (be.trans ((hf1.mono b2).trans (hf2.mono b4))) he2⟩
     ·intro D W hD A av;obtain⟨R,h,ρ,F,hk,_⟩:=Zv0 FY rfl ag c9 A aa;refine hQ D R W hD ⟨h,ρ,J.unbase (a:=a) {F with df:=J.df}⟩ hk av
   ·exact n.elim
  ·exact n.elim
 ·exact n.elim
end
end Go.Px
namespace Go.Px
open Go Go.RowKit
def mkD(D:Nat):Deferred:={target:=.collected D,args:=#[]}
def MFits(X:Cx)(c:St)(a:Act)(w:World):Prop:=
 ∃b:List Nat,b.Nodup∧(∀D∈b,w.heap[D]?=some (.deferred (some []))∧X.w.heap.size≤D)∧Fits {X with df:=b.map mkD++X.df} c a w
section
variable{P:Program}
theorem FitsAt.restand'{X:Cx}{h:Hp}{b:Nat→Loc}{c:St}{a:Act}{w:World}(F:FitsAt X h b c a w):FitsAt {w:=w,h:=h,G:=Gv c.objs b,pin:=X.pin,df:=X.df} h b c a w:=by
 have e:{a with defers:=X.df}=a:=by
  have:=F.df
  cases a;cases this;rfl
 have:=F.restand X.df;rw[e]at this;exact this
theorem Zmy{X:Cx}{h:Hp}{c:Nat→Loc}{d:St}{a:Act}{w f:World}(F:FitsAt X h c d a w)(g:Keeps (Gv d.objs c) w f){D:Nat}(b:w.heap[D]?=some (.deferred (some []))):f.heap[D]?=some (.deferred (some [])):=by
 rw[g.block D (Array.getElem?_eq_some_iff.1 b).1 (λ⟨i,j,e⟩=>Zpb F b rfl i j e)];exact b
theorem vcR_vc(f:FuncId→Sig)(g:TypeId→Sig)(L:Nat→Option LoopSpec)(c:Code)(X:Cx)(b:St)(a:Act)(w:World)(d:Ex→St→Prop)(Q:Exit→Act→World→Prop)
  (m:∀e b j w,MFits X b j w→d e b→Q e.to j w) (F:MFits X b a w) (n:vc P f g L c b d):c.wp P Q a w:=by
 obtain⟨p,q,l,h,r,F⟩:=F;refine Zjz f g L c _ b a w d Q ?_ ⟨h,r,F.restand'⟩ n;rintro e k o w1 ⟨h1,ρ1,F1⟩ _ he;have G:=F.based F1;exact m e k o w1 ⟨p,q,λD i=>⟨Zmy F F1.kp (l D i).1,(l D i).2⟩,h1,ρ1,G⟩ he
theorem vcR_sound(t:FuncId→Sig)(u:TypeId→Sig)(L:Nat→Option LoopSpec){H:Nat→Option (FuncId×TypeId)}(J:∀p f e z,H p=some (f,e)→szT P e=some z→Zl8 P f (elOf P e z) z):
  ∀(c:Code) (X:Cx) (k:St) (a:Act) (w:World) (o:Ex→St→Prop) (Q:Exit→Act→World→Prop),
  (∀e k K w,MFits X k K w→o e k→Q e.to K w)→MFits X k a w→vcR P t u L H c k o→c.wp P Q a w:=by
 intro c
 induction c with
 |seq x y R T=>
  intro X k a w o Q l F d;unfold vcR at d
  cases hb:(hasRF x||hasRF y)with
  |false=>simp only[hb,cond_false]at d;exact vcR_vc t u L _ X k a w o Q l F d
  |true=>
   simp only[hb,cond_true]at d;refine wp_seq (R X k a w _ _ ?_ F d);intro e j r w1 m q
   cases e with
   |normal=>exact T X j r w1 o Q l m q
   |exit id=>exact l (.exit id) j r w1 m q
   |ret=>exact l .ret j r w1 m q
 |block id b Z=>
  intro X k a w o Q l F d;unfold vcR at d
  cases hb:hasRF b with
  |false=>simp only[hb,cond_false]at d;exact vcR_vc t u L _ X k a w o Q l F d
  |true=>
   simp only[hb,cond_true]at d;refine wp_block (Z X k a w _ _ ?_ F d);intro e j r w1 m q
   cases e with
   |normal=>exact l .normal j r w1 m q
   |exit i=>
    simp only[Ex.to,Exit.inBlock];by_cases hi:i=id
    ·subst hi;simp only[Y5,cond_true]at q;rw[if_pos rfl];exact l .normal j r w1 m q
    ·simp only[Zaj hi,cond_false]at q;rw[if_neg hi];exact l (.exit i) j r w1 m q
   |ret=>exact l .ret j r w1 m q
 |rangeFunc g ps U a0=>
  intro X k a w o Q l F d;unfold vcR at d
  split at d
  ·rename_i sp M e _ A;obtain⟨N,Y,C,h,ρ,F⟩:=F;refine(wpIn_wide (n:=3)).1 (vcI_sound t u (λz V=>J _ M e z A V) F.restand' d ?_);rintro D j w1 v ⟨h1,ρ1,m⟩ hk hDd;have G:=F.based m;have O:∀E∈N,E<w.heap.size:=λE s=>(Array.getElem?_eq_some_iff.1 (C E s).1).1;refine l .normal j _ w1 ⟨D::N,Yl.2 ⟨λW=>Nat.lt_irrefl _ (Nat.lt_of_lt_of_le (O D W) v),Y⟩,λE s=>?_,h1,ρ1,{G with df:=?_}⟩ hk
   ·rcases List.mem_cons.1 s with rfl|s
    ·exact⟨hDd,Nat.le_trans F.kp.size v⟩
    ·exact⟨Zmy F m.kp (C E s).1,(C E s).2⟩
   ·have:=G.df;simp only[List.map_cons,List.cons_append];exact congrArg (mkD D::·) this
  ·exact d.elim
 |_=>intro X k a w o Q l F d;exact vcR_vc t u L _ X k a w o Q l F (by simpa only[vcR]using d)
theorem Zjh{X:Cx}{h:Hp}{e:Nat→Loc}{f:St}{a:Act}{g:Func}{R:Ending→World→Prop}(c:∀w,FitsAt X h e f a w→∃v,(results g a.tmps).run P w= .ok v w∧R (.returned v) w):
  ∀(b:List Nat) (w:World),b.Nodup→(∀D∈b,w.heap[D]?=some (.deferred (some []))∧X.w.heap.size≤D)→FitsAt X h e f a w→LeavesInM Fence.wide 3 P g a.tmps R (b.map mkD) .returning w
 | [],w,_,_,F=>c w F
 |D::b,w,hn,hD,F=>by obtain⟨i,l⟩:=hD D (by simp);obtain⟨j,k⟩:=Yl.1 hn;exact⟨by simp,.inl ⟨D,_,rfl,run_takeDeferred i,Zjh c b _ k (λE d=>⟨(World.putObj_heap_other (by rintro rfl;exact j d)).trans (hD E (by simp[d])).1,(hD E (by simp[d])).2⟩) (F.putRec _ l i rfl)⟩⟩
open Classical in
theorem fnR_of{P:Program}(R:FuncId→Sig)(T:TypeId→Sig)(L:Nat→Option LoopSpec){U:Nat→Option (FuncId×TypeId)}(V:∀p f e z,U p=some (f,e)→szT P e=some z→Zl8 P f (elOf P e z) z)
  {f:FuncId} {k:Sig} {m:List SV} {Q:List SV→Prop} {Y:Prop} (d:Func) (W:P.funcs[f]?=some d) (j:(d.name== "runtime.NumGoroutine")=false)
  (e:Y=vcFR P R T L U d k m Q) (hY:Y):Ct P f k m Q:=by
 have A:=e.mp hY;unfold vcFR at A
 split at A
 ·rename_i c hb
  have j:d.name≠ "runtime.NumGoroutine" :=by intro e;rw[e]at j;simp at j
  refine⟨⟨d,W,by rw[hb];rfl,j⟩,λq g D h u w r E J x=>?_⟩;refine(callsIn_wide (n:=3)).1 (callsIn_of_wp_marks W hb trivial ((wpIn_wide).2 ?_) rfl);have hst:start d k m={tmps:=q++List.replicate (d.ntmps-q.length) .unk,objs:=g}:=(by simp only[start,D]);rw[hst]at A;have C:r.size=q.length:=by have:=x.1;simpa using this
  let X:Cx:={w:=w,h:=h,G:=Gv g u,pin:=λid=>if(∃i Z,k.ps[i]?=some (.lend Z)∧id=pId i)∨id∈Zb8 0 k.ps then some (u id)else none}
  have F:FitsAt X h u {tmps:=q++List.replicate (d.ntmps-q.length) .unk,objs:=g} {tmps:=r++Array.replicate (d.ntmps-r.size) undef,defers:=[]} w:=by
   refine⟨by simp[C],λt s b=>?_,rfl,E.sub,λid o ho=>E.obj id o (Zb6 ho),E.inj,λi hi=>.inr ⟨i,hi,rfl⟩,HLe.refl _,λ_ _ _ _ e=>e,Keeps.refl _ _,λid l y=>?_,J,J.off (λi ⟨⟨o,e⟩,O⟩=>ObOK.hnone (E.obj i o (Zb6 e)) O)⟩
   ·simp only[]at b;rw[List.getElem?_append]at b;by_cases ht:t<q.length
    ·rw[if_pos ht]at b;have a4:(r++Array.replicate (d.ntmps-r.size) undef).getD t undef=r[t]'(by omega):=(by simp[Wj,C,ht]);simp only[a4];exact TRep.of_rep' (x.2 t _ s (by simp) b)
    ·rw[if_neg ht]at b;rw[YH]at b
     split at b
     ·cases b;exact TRep.rep_unk _ _
     ·cases b
   ·simp only[X]at y
    split at y
    ·rename_i M
     rcases M with⟨i,Z,_,rfl⟩|M
     ·cases y
      exact⟨rfl,Zn2 i⟩
     ·cases y
      exact⟨rfl,Zkk M⟩
    ·cases y
  refine vcR_sound R T L V c X _ _ _ _ _ ?_ ⟨[],WN,λ_ h=>(by simp at h),h,u,F⟩ A;intro e st a w' hM N
  have K:Zjw d.results.toList st (finC P d k Q)→LeavesInM Fence.wide 3 P d a.tmps (Back k g h u w Q) a.defers .returning w':=by
   intro a0;obtain⟨H,O,hD,h1,a1,F1⟩:=hM;have a5:a.defers=H.map mkD:=by have:=F1.df;simpa[X]using this
   rw[a5];refine Zjh (X:={X with df:=H.map mkD++X.df}) (λw2 F2=>?_) H w' O hD F1;obtain⟨st4,a2,a3⟩:=Zb7 _ ⟨h1,a1,F2⟩ a0;obtain⟨_,v,q2,q3⟩:=Zs7 (ds:=H.map mkD) (by simpa[X]using a2) a3;exact⟨v,q2,q3⟩
  cases e with
  |normal=>exact K N
  |ret=>exact K N
  |exit id=>exact N.elim
 ·exact A.elim
end
end Go.Px
namespace Go.Px
open Go Go.RowKit
theorem Zny{h:Hp}{d:Nat→Loc}:∀(c b:List Value),Zwo h d c (b.map SV.val)→c=b
 | [],[],_=>rfl
 | [],_::_,r=>by have:=r.1;simp at this
 |_::_,[],r=>by have:=r.1;simp at this
 |v::c,x::b,r=>by have g:v=x:=(r.2 0 v (.val x) rfl rfl).val_inv;rw[g,Zny c b ⟨by have:=r.1;simpa using this,λi a s e f=>r.2 (i+1) a s (by simpa using e) (by simpa using f)⟩]
theorem Zkg{P:Program}{f:FuncId}{m:Func}(E:P.funcs[f]?=some m)(p:m.body.isSome=true)(F:m.name≠ "runtime.NumGoroutine")(c:List Value)(a:Value)
  (G:∀(h:Hp) (w:World),HSub h w→Gl h w→Calls P f c.toArray w λe n=>e= .returned a∧Below w.heap.size w n):Ct P f {} (c.map SV.val) (λr=>r=[.val a]):=by
 refine⟨⟨m,E,p,F⟩,λg H d h A w J C D q=>?_⟩;rw[Zbc]at d
 cases d
 have e:J=c.toArray:=(by have:=Zny _ _ q;rw[←this]);subst e;refine(G h w C.sub D).mono ?_;rintro e n ⟨rfl,hbl⟩;have x:HSub h n:=Ziv C.sub (λb p=>hbl.block b p)
 have y:Holds h A [] n:=⟨x,λid o t=>(by simp at t),λi j u=>by obtain⟨⟨o,e⟩,_⟩:=u;simp[oget]at e⟩
 have z:endH {} [a].length [.val a]=some ([.val a],[]):=by unfold endH;simp[Zbc,lentH]
 refine⟨[a],h,A,[.val a],[.val a],[],rfl,rfl,z,⟨rfl,λi v s l g=>?_⟩,y,λi u=>(by obtain⟨⟨o,e⟩,_⟩:=u;simp[oget]at e),⟨λi L t=>(by simp at t),λ_ _=>rfl⟩,HLe.refl h,λb _ _ o e=>e,
  ⟨hbl.os,hbl.tape,hbl.output,hbl.size,λk K _=>hbl.block k K⟩⟩
 match i,l,g with
 |0,l,g=>
  cases l;cases g
  exact .pure _ _ (PRep.val _)
 |i+1,l,g=>simp at l
end Go.Px
namespace Go.Px
def leb(n:Nat):List Int:=if n<128 then[(n:Int)]else((n%128+128:Nat):Int)::leb (n/128)
termination_by n
decreasing_by omega
theorem Zfn{n:Nat}(h:n<128):leb n=[(n:Int)]:=by rw[leb,if_pos h]
theorem Zf6{n:Nat}(h:128≤n):leb n=((n%128+128:Nat):Int)::leb (n/128):=by rw[leb,if_neg (by omega)]
theorem Zi6(n:Nat):1≤(leb n).length:=by
 by_cases h:n<128
 ·simp[Zfn h]
 ·simp[Zf6 (Ys h)]
theorem Zcl:∀(n m:Nat) (r r':List Int),leb n++r=leb m++r'→n=m∧r=r':=by
 intro n
 induction n using Nat.strongRecOn with
 |_ n b=>
  intro m r r' e;by_cases hn:n<128<;>by_cases hm:m<128
  ·simp only[Zfn hn,Zfn hm,List.cons_append,List.nil_append,List.cons.injEq]at e;exact⟨by omega,e.2⟩
  ·simp only[Zfn hn,Zf6 (Ys hm),List.cons_append,List.nil_append,List.cons.injEq]at e;omega
  ·simp only[Zfn hm,Zf6 (Ys hn),List.cons_append,List.nil_append,List.cons.injEq]at e;omega
  ·simp only[Zf6 (Ys hm),Zf6 (Ys hn),List.cons_append,List.cons.injEq]at e;obtain⟨c,a⟩:=b (n/128) (by omega) _ _ _ e.2;exact⟨by omega,a⟩
theorem Zv6:∀(n:Nat) (x:Int),x∈leb n→0≤x∧x≤255:=by
 intro n
 induction n using Nat.strongRecOn with
 |_ n b=>
  intro x a;by_cases hn:n<128
  ·simp[Zfn hn]at a;omega
  ·rw[Zf6 (Ys hn)]at a
   rcases List.mem_cons.1 a with rfl|a
   ·omega
   ·exact b _ (by omega) _ a
theorem Zhe:∀(k n:Nat),n<128^(k+1)→(leb n).length≤k+1
 |0,n,h=>by rw[Zfn (by simpa using h)];simp
 |k+1,n,h=>by
  by_cases hn:n<128
  ·simp[Zfn hn]
  ·rw[Zf6 (Ys hn)];have h:n<128*128^(k+1):=by rw[Nat.pow_succ]at h;omega
   have:=Zhe k (n/128) (WQ h);simp;omega
def ofB:List Int→Nat
 | []=>0
 |x::l=>ofB l*128+(x%128).toNat
theorem Zpf:∀n:Nat,ofB (leb n)=n:=by
 intro n
 induction n using Nat.strongRecOn with
 |_ n a=>
  by_cases hn:n<128
  ·simp[Zfn hn,ofB];omega
  ·rw[Zf6 (Ys hn),ofB,a _ (by omega)];omega
theorem leb_shape:∀n:Nat,∃l x,leb n=l++[x]∧0≤x∧x<128∧(∀y∈l,128≤y∧y≤255)∧(l≠[]→x≠0):=by
 intro n
 induction n using Nat.strongRecOn with
 |_ n h=>
  by_cases hn:n<128
  ·exact⟨[],n,by simp[Zfn hn],by omega,by omega,by simp,by simp⟩
  ·obtain⟨l,x,e,c,d,f,g⟩:=h (n/128) (by omega);refine⟨((n%128+128:Nat):Int)::l,x,by rw[Zf6 (Ys hn),e];rfl,c,d,?_,λ_ b=>?_⟩
   ·intro y a
    rcases List.mem_cons.1 a with rfl|a
    ·omega
    ·exact f y a
   ·cases l with
    |nil=>have:=Zpf (n/128);rw[e]at this;simp[ofB,b]at this;omega
    |cons y l=>exact g (by simp) b
end Go.Px
namespace Go.Px
theorem Zer(a b:ByteArray):a.toList=b.toList↔a=b:=by
 rw[ByteArray.toList_eq,ByteArray.toList_eq];constructor
 ·intro h
  cases a;cases b
  simp only[Array.toList_inj]at h;rw[h]
 ·rintro rfl;rfl
theorem seq_d(a b:ByteArray):seq a b=decide (a=b):=by
 rw[seq_eq,Bool.eq_iff_iff];simp[Zer]
theorem sne_d(a b:ByteArray):sne a b=!decide (a=b):=by
 rw[sne_eq,←seq_eq,seq_d]
abbrev nR(l:List ByteArray):List (List SV):=l.map λs=>[S s]
abbrev bR(l:List Int):List (List SV):=l.map λn=>[U8 n]
def nmAt(l:List ByteArray)(i:Int):ByteArray:=l.getD i.toNat ByteArray.empty
theorem Zlj{l:List ByteArray}{i:Int}(a:0≤i)(b:i<l.length):rget (nR l) i=[S (nmAt l i)]:=by
 have:i.toNat<l.length:=(by omega);simp[rget,nmAt,this]
theorem Zqf{l:List ByteArray}{i:Nat}(a:i<l.length):l[i]?=some (nmAt l i):=by
 simp[nmAt,a]
theorem nmAt_mem{l:List ByteArray}{i:Int}(a:0≤i)(b:i<l.length):nmAt l i∈l:=by
 have:i.toNat<l.length:=(by omega);simp[nmAt,this]
theorem Zsi(l:List Int):rlen (bR l)=(l.length:Int):=by simp
def plc:List ByteArray→ByteArray→Nat
 | [],_=>0
 |a::l,s=>if a=s then 1 else if plc l s=0 then 0 else plc l s+1
theorem Zj7{l:List ByteArray}{s:ByteArray}:plc l s=0↔s∉l:=by
 induction l with
 |nil=>simp[plc]
 |cons a l b=>
  simp only[plc,List.mem_cons,not_or];by_cases h:a=s
  ·simp[h]
  ·have:¬s=a:=λe=>h e.symm;simp only[h,if_false,this,not_false_eq_true,true_and];rw[←b]
   split<;>simp_all
theorem Zu1{l:List ByteArray}{s:ByteArray}:plc l s≤l.length:=by
 induction l with
 |nil=>simp[plc]
 |cons a l b=>simp only[plc];split<;>(try split)<;>simp<;>omega
theorem plc_at:∀{l:List ByteArray} {s:ByteArray} {i:Nat},plc l s=i+1→l[i]?=some s:=by
 intro l
 induction l with
 |nil=>intro s i h;simp[plc]at h
 |cons a l c=>
  intro s i h;simp only[plc]at h
  split at h
  ·rename_i b;obtain rfl:i=0:=by omega
   simp only[List.getElem?_cons_zero,b]
  ·split at h
   ·omega
   ·obtain⟨j,rfl⟩:∃j,i=j+1:=⟨i-1,by omega⟩
    simpa using c (i:=j) (by omega)
theorem Zu2(l:List ByteArray)(a s:ByteArray):plc (l++[a]) s=if plc l s≠0 then plc l s else if a=s then l.length+1 else 0:=by
 induction l with
 |nil=>simp[plc]
 |cons b l c=>
  simp only[List.cons_append,plc,c];by_cases h:b=s
  ·simp[h]
  ·simp only[h,if_false];by_cases h2:plc l s=0
   ·by_cases h3:a=s<;>simp[h2,h3]
   ·simp[h2]
def nmB(c:ByteArray):Bool:=decide (1≤c.size∧c.size≤24)
def rgtB(l:List ByteArray):Bool:=decide (l.length≤32∧(∀s∈l,nmB s=true)∧l.Nodup)
theorem Zdc{l:List ByteArray}:rgtB l=true↔l.length≤32∧(∀s∈l,nmB s=true)∧l.Nodup:=by simp[rgtB]
structure Plcs(l:List ByteArray)(es:List (ByteArray×Int)):Prop where
 le:es.length≤l.length
 nd:es.length=l.length↔l.Nodup
 has:∀s,mhas es s=true↔s∈l
 get:∀s,mget es s=plc l s
theorem Plcs.nil:Plcs [] []:=⟨by simp,by simp,by simp[mhas],by simp[mget,plc]⟩
theorem mset_new{a:List (ByteArray×Int)}{k:ByteArray}{n:Int}(h:mhas a k=false):mset a k n=a++[(k,n)]:=by
 unfold mset
 induction a with
 |nil=>rfl
 |cons e a b=>simp only[mhas,List.any_cons,Bool.or_eq_false_iff,decide_eq_false_iff_not]at h;simp only[msetR,h.1,if_false,List.cons_append];rw[b (by simpa[mhas]using h.2)]
theorem Plcs.old{l:List ByteArray}{b:List (ByteArray×Int)}(h:Plcs l b){a:ByteArray}(f:mhas b a=true):Plcs (l++[a]) b:=by
 have c:=(h.has a).1 f;refine⟨by have:=h.le;simp;omega,?_,λs=>?_,λs=>?_⟩
 ·have:=h.le;simp only[List.length_append,List.length_cons,Y6];constructor
  ·intro e;omega
  ·intro d;rw[We]at d;exact absurd rfl (d.2.2 a c a (by simp))
 ·rw[h.has s];simp only[List.mem_append,List.mem_singleton];exact⟨.inl,λe=>e.elim id (λe=>e▸c)⟩
 ·rw[h.get s,Zu2];by_cases hp:plc l s=0
  ·have:a≠s:=λe=>(Zj7.1 hp) (e▸c)
   simp[hp,this]
  ·simp[hp]
theorem Plcs.new{l:List ByteArray}{c:List (ByteArray×Int)}(h:Plcs l c){a:ByteArray}(g:mhas c a=false){n:Int}(r:n=l.length+1):Plcs (l++[a]) (mset c a n):=by
 have p:a∉l:=λe=>by rw[(h.has a).2 e]at g;cases g
 rw[mset_new g];refine⟨by have:=h.le;simp;omega,?_,λs=>?_,λs=>?_⟩
 ·simp only[List.length_append,List.length_cons,Y6,Nat.add_right_cancel_iff];rw[h.nd,We];simp only[Yl,YT,not_false_eq_true,WN,and_self,true_and,List.mem_cons,or_false];exact⟨λe=>⟨e,λx i b m e2=>p (by rw[←m,←e2];exact i)⟩,λe=>e.1⟩
 ·have f:=h.has s;simp only[mhas,List.any_append,List.any_cons,List.any_nil,Bool.or_false,Bool.or_eq_true,decide_eq_true_eq,List.mem_append,List.mem_singleton]at f⊢;rw[f];exact or_congr Iff.rfl ⟨λe=>e.symm,λe=>e.symm⟩
 ·have q:=h.get s;rw[Zu2];by_cases hp:plc l s=0
  ·have d:mhas c s=false:=by
    cases e:mhas c s with
    |false=>rfl
    |true=>exact absurd ((h.has s).1 e) (Zj7.1 hp)
   have k:c.find? (λe=>decide (e.1=s))=none:=(by rw[List.find?_eq_none];intro e o j;simp only[mhas,YN]at d;exact d e o j);simp only[mget,WZ,k,Option.none_or,hp,ne_eq,not_true_eq_false,if_false];by_cases f:a=s
   ·subst f;simp;omega
   ·simp[f]
  ·simp only[hp,ne_eq,not_false_eq_true,if_true];rw[←q];have d:mhas c s=true:=(h.has s).2 (by rw[Zj7]at hp;exact Yo.1 hp);simp only[mhas,List.any_eq_true]at d;obtain⟨x,i,j⟩:=d;simp only[mget,WZ]
   cases k:c.find? (λe=>decide (e.1=s))with
   |none=>exact absurd j (List.find?_eq_none.1 k x i)
   |some y=>simp
theorem Zlk{l:List ByteArray}{i:Nat}(h:i<l.length):l.take (i+1)=l.take i++[nmAt l i]:=by
 rw[YP,Zqf h];rfl
end Go.Px
namespace Go.Px
def nlt(a b:ByteArray):Prop:=a.data.toList<b.data.toList
instance (a b:ByteArray):Decidable (nlt a b):=inferInstanceAs (Decidable (_<_))
theorem Zvv:∀x y:List UInt8,Op.bytesLess x y=decide (x<y)
 |_,[]=>by cases‹List UInt8›<;>simp[Op.bytesLess]
 | [],b::y=>by simp[Op.bytesLess]
 |a::x,b::y=>by simp only[Op.bytesLess,Zvv x y];rw[Bool.eq_iff_iff];simp only[Bool.or_eq_true,Bool.and_eq_true,decide_eq_true_eq,beq_iff_eq,YD]
theorem slt_d(a b:ByteArray):slt a b=decide (nlt a b):=by
 unfold slt nlt;rw[ByteArray.toList_eq,ByteArray.toList_eq,Zvv];rfl
theorem Zlt(a:ByteArray):¬nlt a a:=List.lt_irrefl _
theorem Zlu{a b c:ByteArray}(h:nlt a b)(k:nlt b c):nlt a c:=WV h k
theorem nlt_tri{a b:ByteArray}(h:¬nlt a b)(k:¬nlt b a):a=b:=by
 have:a.data.toList=b.data.toList:=List.le_antisymm (List.not_lt.1 k) (List.not_lt.1 h);exact(Zer a b).1 (by rw[ByteArray.toList_eq,ByteArray.toList_eq];exact this)
theorem Zjp{a b:ByteArray}(h:nlt a b):a≠b:=λe=>Zlt a (by rw[←e]at h;exact h)
theorem Zqx{a b:ByteArray}(h:nlt a b):¬nlt b a:=λk=>Zlt _ (Zlu h k)
theorem nle_iff{a b:ByteArray}:¬nlt b a↔nlt a b∨a=b:=
 ⟨λh=>by by_cases k:nlt a b;exact .inl k;exact .inr (nlt_tri k h),λh=>by rcases h with h|h;exact Zqx h;rw[h];exact Zlt _⟩
theorem sge_d(a b:ByteArray):sge a b=decide (¬nlt a b):=by
 unfold sge;rw[show Op.bytesLess a.toList b.toList=slt a b from rfl,slt_d];simp
theorem sle_d(a b:ByteArray):sle a b=decide (¬nlt b a):=by
 unfold sle;rw[show Op.bytesLess a.toList b.toList=slt a b from rfl,slt_d,show(a.toList==b.toList)=seq a b from rfl,seq_d,Bool.eq_iff_iff];simp only[Bool.or_eq_true,decide_eq_true_eq];exact nle_iff.symm
theorem sgt_d(a b:ByteArray):sgt a b=decide (nlt b a):=by
 unfold sgt;rw[show(Op.bytesLess a.toList b.toList||a.toList==b.toList)=sle a b from rfl,sle_d];simp
section
variable{α:Type}(nm:α→ByteArray)
def srt(l:List α):Prop:=l.Pairwise λa b=>nlt (nm a) (nm b)
instance (l:List α):Decidable (srt nm l):=inferInstanceAs (Decidable (List.Pairwise _ l))
def wout(l:List α)(s:ByteArray):List α:=l.filter λf=>decide (nm f≠s)
def ahd(l:List α)(s:ByteArray):List α:=l.takeWhile λg=>decide (nlt (nm g) s)
def bhd(l:List α)(s:ByteArray):List α:=l.dropWhile λg=>decide (nlt (nm g) s)
def insB(l:List α)(f:α):List α:=ahd nm l (nm f)++f::bhd nm l (nm f)
def withB(l:List α)(f:α):List α:=insB nm (wout nm l (nm f)) f
def fnd(l:List α)(s:ByteArray):Option Nat:=l.findIdx? λf=>decide (nm f=s)
def fAt(l:List α)(s:ByteArray):Int:=match fnd nm l s with|some i=>(i:Int)|none=>-1
variable{nm}{l:List α}{s:ByteArray}{f g:α}
theorem Zo3{i:Nat}:fnd nm l s=some i↔∃h:i<l.length,nm l[i]=s∧∀j (a:j<i),nm (l[j]'(by omega))≠s:=by
 unfold fnd;rw[List.findIdx?_eq_some_iff_getElem];simp
theorem fnd_none:fnd nm l s=none↔∀f∈l,nm f≠s:=by
 unfold fnd;rw[List.findIdx?_eq_none_iff];simp
theorem Zgj:fAt nm l s= -1↔∀f∈l,nm f≠s:=by
 unfold fAt;rw[←fnd_none]
 cases h:fnd nm l s with
 |none=>simp
 |some i=>simp
theorem Zlv:fAt nm l s= -1∨∃i:Nat,∃h:i<l.length,fAt nm l s=i∧nm l[i]=s∧∀j (d:j<i),nm (l[j]'(by omega))≠s:=by
 unfold fAt
 cases h:fnd nm l s with
 |none=>exact .inl rfl
 |some i=>obtain⟨a,b,c⟩:=Zo3.1 h;exact .inr ⟨i,a,rfl,b,c⟩
theorem Zlw(h:srt nm l){i j:Nat}(a:i<j)(b:j<l.length):nlt (nm (l[i]'(by omega))) (nm l[j]):=
 List.pairwise_iff_getElem.1 h i j (by omega) b a
theorem srt_inj(h:srt nm l){i j:Nat}(a:i<l.length)(b:j<l.length)(e:nm l[i]=nm l[j]):i=j:=by
 rcases Wx i j with k|k|k
 ·exact absurd e (Zjp (Zlw h k b))
 ·exact k
 ·exact absurd e.symm (Zjp (Zlw h k a))
theorem Zlx(h:srt nm l)(a:f∈l)(b:g∈l)(e:nm f=nm g):f=g:=by
 obtain⟨i,c,rfl⟩:=List.mem_iff_getElem.1 a;obtain⟨j,d,rfl⟩:=List.mem_iff_getElem.1 b;have:=srt_inj h c d e;subst this;rfl
theorem srt_adj(h:∀i (c:i+1<l.length),nlt (nm (l[i]'(by omega))) (nm l[i+1])):srt nm l:=by
 unfold srt;rw[List.pairwise_iff_getElem];intro i j c a b
 obtain⟨d,rfl⟩:∃d,j=i+1+d:=⟨j-i-1,by omega⟩
 clear b
 induction d with
 |zero=>exact h i a
 |succ d e=>exact Zlu (e (by omega)) (h (i+1+d) a)
theorem srt_wout(h:srt nm l):srt nm (wout nm l s):=WO List.filter_sublist h
theorem Zff:f∈wout nm l s↔f∈l∧nm f≠s:=by simp[wout]
theorem Zly(h:∀f∈l,nm f≠s):wout nm l s=l:=by
 unfold wout;rw[List.filter_eq_self];intro a b;simp[h a b]
theorem Zct(l:List α)(s:ByteArray):ahd nm l s++bhd nm l s=l:=Wl
theorem Zs0:∀{l:List α},f∈ahd nm l s→nlt (nm f) s
 | [],h=>by simp[ahd]at h
 |a::l,h=>by
  unfold ahd at h;rw[List.takeWhile_cons]at h
  split at h
  ·rename_i b
   rcases List.mem_cons.1 h with e|h
   ·rw[e];simpa using b
   ·exact Zs0 (l:=l) h
  ·simp at h
theorem Zvw:∀{l:List α} {x:α} {r:List α},bhd nm l s=x::r→¬nlt (nm x) s
 | [],_,_,h=>by simp[bhd]at h
 |a::l,x,r,h=>by
  unfold bhd at h;rw[List.dropWhile_cons]at h
  split at h
  ·exact Zvw (l:=l) h
  ·rename_i b;cases h;simpa using b
theorem mem_bhd(h:srt nm l)(a:f∈bhd nm l s):¬nlt (nm f) s:=by
 have b:srt nm (bhd nm l s):=WO (List.dropWhile_sublist _) h
 cases hb:bhd nm l s with
 |nil=>rw[hb]at a;simp at a
 |cons x r=>
  have c:=Zvw hb;rw[hb]at a b
  rcases List.mem_cons.1 a with e|hr
  ·rw[e];exact c
  ·intro k;exact c (Zlu ((List.pairwise_cons.1 b).1 f hr) k)
theorem mem_insB:g∈insB nm l f↔g=f∨g∈l:=by
 unfold insB;constructor
 ·intro h
  rcases List.mem_append.1 h with h|h
  ·exact .inr (by rw[←Zct (nm:=nm) l (nm f)];exact List.mem_append.2 (.inl h))
  ·rcases List.mem_cons.1 h with h|h
   ·exact .inl h
   ·exact .inr (by rw[←Zct (nm:=nm) l (nm f)];exact List.mem_append.2 (.inr h))
 ·rintro(rfl|h)
  ·simp
  ·rw[←Zct (nm:=nm) l (nm f)]at h
   rcases List.mem_append.1 h with h|h
   ·exact List.mem_append.2 (.inl h)
   ·exact List.mem_append.2 (.inr (Yp _ h))
theorem Zc0:g∈withB nm l f↔g=f∨(g∈l∧nm g≠nm f):=by
 unfold withB;rw[mem_insB,Zff]
theorem Zvx:(insB nm l f).length=l.length+1:=by
 have:=congrArg List.length (Zct (nm:=nm) l (nm f));simp only[List.length_append]at this;simp[insB];omega
theorem srt_insB(h:srt nm l)(i:∀g∈l,nm g≠nm f):srt nm (insB nm l f):=by
 unfold insB srt;have o:srt nm (ahd nm l (nm f)++bhd nm l (nm f)):=by rw[Zct];exact h
 obtain⟨j,m,n⟩:=List.pairwise_append.1 o;refine List.pairwise_append.2 ⟨j,List.pairwise_cons.2 ⟨λg d=>?_,m⟩,λa e b c=>?_⟩
 ·have k:=mem_bhd h d
  rcases nle_iff.1 k with k|k
  ·exact k
  ·exact absurd k.symm (i g (by rw[←Zct (nm:=nm) l (nm f)];exact List.mem_append.2 (.inr d)))
 ·rcases List.mem_cons.1 c with rfl|c
  ·exact Zs0 e
  ·exact n a e b c
theorem Zbn(h:srt nm l):srt nm (withB nm l f):=
 srt_insB (srt_wout h) (λg a=>(Zff.1 a).2)
theorem ahd_none{l:List α}(h:∀g∈l,¬nlt (nm g) s):ahd nm l s=[]:=by
 cases l with
 |nil=>rfl
 |cons a l=>unfold ahd;rw[List.takeWhile_cons_of_neg (by simpa using h a (by simp))]
theorem ahd_app{a b:List α}(c:∀g∈a,nlt (nm g) s)(d:∀g∈b,¬nlt (nm g) s):ahd nm (a++b) s=a:=by
 unfold ahd;rw[List.takeWhile_append_of_pos (λg e=>by simpa using c g e)];rw[show List.takeWhile _ b=ahd nm b s from rfl,ahd_none d,List.append_nil]
theorem bhd_app{a b:List α}(c:∀g∈a,nlt (nm g) s)(d:∀g∈b,¬nlt (nm g) s):bhd nm (a++b) s=b:=by
 have e:=Zct (nm:=nm) (a++b) s;rw[ahd_app c d]at e;exact List.append_cancel_left e
theorem insB_app{a b:List α}(c:∀g∈a,nlt (nm g) (nm f))(d:∀g∈b,¬nlt (nm g) (nm f)):insB nm (a++b) f=a++f::b:=by
 unfold insB;rw[ahd_app c d,bhd_app c d]
theorem Zo4{i:Nat}(a:i<l.length):l=l.take i++l[i]::l.drop (i+1):=by
 rw[List.getElem_cons_drop,List.take_append_drop]
theorem Zi5(h:srt nm l){i:Nat}(n:i<l.length):wout nm l (nm l[i])=l.take i++l.drop (i+1):=by
 have e:=Zo4 n;have m:=h;rw[e]at m;obtain⟨p,o,d⟩:=List.pairwise_append.1 m;have j:=(List.pairwise_cons.1 o).1;have k:∀(a b:List α) (x:α),(∀y∈a,nlt (nm y) (nm x))→(∀y∈b,nlt (nm x) (nm y))→wout nm (a++x::b) (nm x)=a++b:=(by intro a b x d j;unfold wout;rw[List.filter_append,List.filter_cons];simp only[ne_eq,not_true,decide_false,Bool.false_eq_true,if_false];rw[List.filter_eq_self.2 (λy c=>by have:=d y c;simp[Zjp this]),List.filter_eq_self.2 (λy c=>by have:=j y c;simpa using λe:nm y=nm x=>Zjp this e.symm)]);have:=k (l.take i) (l.drop (i+1)) l[i] (λy c=>d y c _ List.mem_cons_self) j;rw[←e]at this;exact this
theorem Zf4(h:srt nm l){i:Nat}(a:i<l.length)(e:nm f=nm l[i]):l.set i f=withB nm l f:=by
 unfold withB;rw[e,Zi5 h a];have c:=h;rw[Zo4 a]at c;obtain⟨m,d,j⟩:=List.pairwise_append.1 c;have k:=(List.pairwise_cons.1 d).1;rw[insB_app (λg b=>by rw[e];exact j g b l[i] List.mem_cons_self) (λg b=>by rw[e];exact Zqx (k g b))];rw[List.set_eq_take_append_cons_drop];simp[a]
theorem Zdd(h:srt nm l){i:Nat}(a:i<l.length)(e:nm f=nm l[i]):(withB nm l f).length=l.length:=by
 rw[←Zf4 h a e];simp
theorem Zev(h:∀g∈l,nm g≠nm f):withB nm l f=insB nm l f:=by
 unfold withB;rw[Zly h]
theorem Zo5(h:srt nm l){i:Nat}(a:i<l.length):i<(ahd nm l s).length↔nlt (nm l[i]) s:=by
 constructor
 ·intro k;have e:=Zct (nm:=nm) l s;have:l[i]=(ahd nm l s)[i]:=(by have e2:(ahd nm l s++bhd nm l s)[i]'(by rw[e];exact a)=l[i]:=(by simp only[e]);rw[List.getElem_append_left k]at e2;exact e2.symm);rw[this];exact Zs0 (List.getElem_mem k)
 ·intro k;refine YF λb=>?_;have e:=Zct (nm:=nm) l s;have e2:(ahd nm l s++bhd nm l s)[i]'(by rw[e];exact a)=l[i]:=(by simp only[e]);rw[YZ (by omega)]at e2;exact mem_bhd h (List.getElem_mem _) (by rw[e2];exact k)
theorem Zo6:(ahd nm l s).length≤l.length:=List.Sublist.length_le (List.takeWhile_sublist _)
theorem ahd_take:ahd nm l s=l.take (ahd nm l s).length:=by
 have e:=Zct (nm:=nm) l s;have e2:=congrArg (List.take (ahd nm l s).length) e;rw[YR]at e2;exact e2
theorem bhd_drop:bhd nm l s=l.drop (ahd nm l s).length:=by
 have e:=Zct (nm:=nm) l s;have e2:=congrArg (List.drop (ahd nm l s).length) e;rw[Wc]at e2;exact e2
theorem insB_at(l:List α)(f:α):insB nm l f=l.take (ahd nm l (nm f)).length++f::l.drop (ahd nm l (nm f)).length:=by
 unfold insB;rw[←ahd_take,←bhd_drop]
end
end Go.Px
namespace Go.Px
abbrev uR(l:List UInt8):List (List SV):=l.map λb=>[U8 (b.toNat:Int)]
structure FiD where
 nm:ByteArray
 su:List UInt8
 lo:List UInt8
deriving DecidableEq
abbrev FiD.row(f:FiD):List SV:=[S f.nm,SL 1 (uR f.su),SL 1 (uR f.lo)]
abbrev fR(l:List FiD):List (List SV):=l.map FiD.row
def FiD.len(f:FiD):Nat:=f.su.length+f.lo.length
def usedL(l:List FiD):Nat:=(l.map FiD.len).sum
structure DiD where
 fs:List FiD
 rm:Int
 st:Int
 dn:Bool
deriving DecidableEq
abbrev DiD.sv(d:DiD):SV:=.agg [SL 3 (fR d.fs),I d.rm,I d.st,B d.dn]
def fchr(b:UInt8):Bool:=decide (97≤b.toNat∧b.toNat≤122∨48≤b.toNat∧b.toNat≤57∨b.toNat=46)
def fnB(s:ByteArray):Bool:=decide (1≤s.size∧s.size≤16)&&s.data.toList.all fchr
def DiD.P(d:DiD):Prop:=(d.fs.length≤64∧0≤d.rm∧d.rm≤65536∧-1≤d.st)∧(usedL d.fs:Int)≤d.rm∧(∀f∈d.fs,fnB f.nm=true)∧srt FiD.nm d.fs
instance (d:DiD):Decidable d.P:=inferInstanceAs (Decidable (_∧_))
def DiD.er(d:DiD)(a b:ByteArray):Int:=if d.P then(if d.dn=true then 16 else if fnB a=true∧fnB b=true then 0 else 1)else 1
def DiD.get(d:DiD)(s:ByteArray):Option FiD:=d.fs.find? λf=>decide (f.nm=s)
def DiD.tick(d:DiD):DiD:={d with st:=if 0<d.st then d.st-1 else d.st}
def DiD.perf(d:DiD)(a:List FiD):DiD×Int:=if d.st=0 then({d with dn:=true},16)else({d.tick with fs:=a},0)
def Zbf(d:DiD)(s:ByteArray):DiD×Int:=
 if d.er s s≠0 then(d,d.er s s)else match d.get s with
 |some _=>(d,7)
 |none=>if d.fs.length=64 then(d,13)else d.perf (withB FiD.nm d.fs ⟨s,[],[]⟩)
def Zaw(d:DiD)(s:ByteArray)(x:List UInt8):DiD×Int:=
 if d.er s s≠0 then(d,d.er s s)else match d.get s with
 |none=>(d,14)
 |some f=>if d.rm-usedL d.fs<x.length then(d,13)else
   if d.st=0 then({d with dn:=true,fs:=withB FiD.nm d.fs ⟨s,f.su,f.lo++x⟩},16)else({d.tick with fs:=withB FiD.nm d.fs ⟨s,f.su,f.lo++x⟩},0)
def Za3(d:DiD)(s:ByteArray):DiD×Int:=
 if d.er s s≠0 then(d,d.er s s)else match d.get s with
 |none=>(d,14)
 |some f=>d.perf (withB FiD.nm d.fs ⟨s,f.su++f.lo,[]⟩)
def Zve(d:DiD)(a b:ByteArray):DiD×Int:=
 if d.er a b≠0 then(d,d.er a b)else match d.get a with
 |none=>(d,14)
 |some f=>d.perf (withB FiD.nm (wout FiD.nm d.fs a) ⟨b,f.su,f.lo⟩)
def Za4(d:DiD)(s:ByteArray):DiD×Int:=
 if d.er s s≠0 then(d,d.er s s)else match d.get s with
 |none=>(d,14)
 |some f=>d.perf (wout FiD.nm d.fs s)
def opCut(d:DiD)(s:ByteArray)(n:Int):DiD×Int:=
 if d.er s s≠0 then(d,d.er s s)else match d.get s with
 |none=>(d,14)
 |some f=>if n<0∨(f.len:Int)<n then(d,1)else d.perf (withB FiD.nm d.fs ⟨s,f.su.take n.toNat,f.lo.take (n.toNat-f.su.length)⟩)
def Zib(d:DiD)(s:ByteArray):List UInt8×Int:=
 if d.er s s≠0 then([],d.er s s)else match d.get s with
 |none=>([],14)
 |some f=>(f.su++f.lo,0)
def more(a:List Int)(i n:Nat):Nat:=if a=[]then 0 else min (a.getD (i%a.length) 0).toNat n
def wakeF(a:List Int)(i:Nat)(f:FiD):FiD:=⟨f.nm,f.su++f.lo.take (more a i f.lo.length),[]⟩
def wakeL(ks:List Int)(l:List FiD):List FiD:=l.mapIdx λi f=>wakeF ks i f
def Zcj(d:DiD)(ks:List Int)(n:Int):DiD×Int:=
 if¬d.P∨n< -1 then(d,1)else(⟨wakeL ks d.fs,d.rm,n,false⟩,0)
theorem DiD.get_cases(d:DiD)(s:ByteArray):
  (d.get s=none∧fAt FiD.nm d.fs s= -1∧∀f∈d.fs,f.nm≠s)∨∃i:Nat,∃h:i<d.fs.length,fAt FiD.nm d.fs s=i∧d.get s=some d.fs[i]∧d.fs[i].nm=s:=by
 rcases Zlv (nm:=FiD.nm) (l:=d.fs) (s:=s)with h|⟨i,hi,h1,h2,h3⟩
 ·refine .inl ⟨?_,h,Zgj.1 h⟩;unfold DiD.get;rw[List.find?_eq_none];intro f b;have:=Zgj.1 h f b;simpa using this
 ·refine .inr ⟨i,hi,h1,?_,h2⟩;unfold DiD.get;rw[List.find?_eq_some_iff_getElem];exact⟨by simpa using h2,i,hi,rfl,λj a=>by simpa using h3 j a⟩
theorem Zcs{d:DiD}{a b:ByteArray}:d.er a b=0↔d.P∧d.dn=false∧fnB a=true∧fnB b=true:=by
 unfold DiD.er;by_cases h:d.P<;>by_cases k:d.dn=true<;>by_cases m:fnB a=true∧fnB b=true<;>simp[h,k,m]
 all_goals simp_all
theorem Zcd(f:FiD)(l:List FiD):usedL (f::l)=f.len+usedL l:=by simp[usedL]
theorem Zes(a b:List FiD):usedL (a++b)=usedL a+usedL b:=by simp[usedL]
theorem Znb{l:List FiD}{f:FiD}:usedL (insB FiD.nm l f)=usedL l+f.len:=by
 have e:=congrArg usedL (Zct (nm:=FiD.nm) l f.nm);rw[Zes]at e;rw[insB,Zes,Zcd];omega
theorem Zln{l:List FiD}{i:Nat}(a:i<l.length):usedL l=usedL (l.take i)+l[i].len+usedL (l.drop (i+1)):=by
 have:=congrArg usedL (Zo4 a);rw[Zes,Zcd]at this;omega
theorem Zyf{l:List FiD}(h:srt FiD.nm l){i:Nat}(a:i<l.length):usedL (wout FiD.nm l l[i].nm)+l[i].len=usedL l:=by
 rw[Zi5 h a,Zes,Zln a];omega
theorem usedL_wle(l:List FiD)(s:ByteArray):usedL (wout FiD.nm l s)≤usedL l:=by
 induction l with
 |nil=>simp[wout]
 |cons a l b=>
  unfold wout at b⊢;rw[List.filter_cons]
  split
  ·rw[Zcd,Zcd];omega
  ·rw[Zcd];omega
theorem Zg9{l:List FiD}{f:FiD}(h:srt FiD.nm l){i:Nat}(a:i<l.length)(e:f.nm=l[i].nm):usedL (withB FiD.nm l f)+l[i].len=usedL l+f.len:=by
 unfold withB;rw[Znb,e];have:=Zyf h a;omega
theorem Zfz{l:List FiD}{f:FiD}(h:f∈l):f.len≤usedL l:=by
 obtain⟨i,a,rfl⟩:=List.mem_iff_getElem.1 h;rw[Zln a];omega
theorem Zvf{d:DiD}{a:List FiD}(h:d.P)(e:a.length≤64)(g:(usedL a:Int)≤d.rm)(i:∀f∈a,fnB f.nm=true)(j:srt FiD.nm a):(d.perf a).1.P:=by
 obtain⟨⟨k,b,c,l⟩,m,n,o⟩:=h;unfold DiD.perf
 split
 ·exact⟨⟨k,b,c,l⟩,m,n,o⟩
 ·refine⟨⟨e,b,c,?_⟩,g,i,j⟩;simp only[DiD.tick];split<;>omega
theorem tick_P{d:DiD}{a:List FiD}(h:d.P)(b:a.length≤64)(c:(usedL a:Int)≤d.rm)(e:∀f∈a,fnB f.nm=true)(g:srt FiD.nm a):({d.tick with fs:=a}:DiD).P:=by
 obtain⟨⟨k,i,j,l⟩,m,n,o⟩:=h;refine⟨⟨b,i,j,?_⟩,c,e,g⟩;simp only[DiD.tick];split<;>omega
theorem dn_P{d:DiD}{a:List FiD}(b:Bool)(h:d.P)(c:a.length≤64)(e:(usedL a:Int)≤d.rm)(g:∀f∈a,fnB f.nm=true)(i:srt FiD.nm a):({d with dn:=b,fs:=a}:DiD).P:=by
 obtain⟨⟨m,j,k,l⟩,n,o,p⟩:=h;exact⟨⟨c,j,k,l⟩,e,g,i⟩
theorem Zet{l:List FiD}{f:FiD}(h:∀g∈l,fnB g.nm=true)(b:fnB f.nm=true):∀g∈withB FiD.nm l f,fnB g.nm=true:=by
 intro g a
 rcases Zc0.1 a with rfl|⟨a,_⟩
 ·exact b
 ·exact h g a
theorem len_wout{l:List FiD}{s:ByteArray}:(wout FiD.nm l s).length≤l.length:=WP _ _
theorem Zoy{d:DiD}{a:List FiD}:(d.perf a).1.st≤d.st:=by
 unfold DiD.perf;split
 ·exact Int.le_refl _
 ·simp only[DiD.tick];split<;>omega
theorem Zsp{d:DiD}{s:ByteArray}:(Zbf d s).1.st≤d.st:=by
 unfold Zbf;split
 ·exact Int.le_refl _
 ·split
  ·exact Int.le_refl _
  ·split
   ·exact Int.le_refl _
   ·exact Zoy
theorem Zsq{d:DiD}{s:ByteArray}{x:List UInt8}:(Zaw d s x).1.st≤d.st:=by
 unfold Zaw;split
 ·exact Int.le_refl _
 ·split
  ·exact Int.le_refl _
  ·split
   ·exact Int.le_refl _
   ·split
    ·exact Int.le_refl _
    ·simp only[DiD.tick];split<;>omega
theorem Zqm{d:DiD}{s:ByteArray}:(Za3 d s).1.st≤d.st:=by
 unfold Za3;split
 ·exact Int.le_refl _
 ·split
  ·exact Int.le_refl _
  ·exact Zoy
theorem Zlo{d:DiD}{s:ByteArray}:(Za4 d s).1.st≤d.st:=by
 unfold Za4;split
 ·exact Int.le_refl _
 ·split
  ·exact Int.le_refl _
  ·exact Zoy
theorem Zvg{d:DiD}{s:ByteArray}{n:Int}:(opCut d s n).1.st≤d.st:=by
 unfold opCut;split
 ·exact Int.le_refl _
 ·split
  ·exact Int.le_refl _
  ·split
   ·exact Int.le_refl _
   ·exact Zoy
theorem Znc{d:DiD}{s:ByteArray}(h:d.P):(Zbf d s).1.P:=by
 unfold Zbf;by_cases he:d.er s s=0
 ·rw[if_neg (by simpa using he)];obtain⟨_,_,c,_⟩:=Zcs.1 he
  rcases d.get_cases s with⟨a,_,b⟩|⟨i,hi,_,a,_⟩
  ·rw[a]
   dsimp only
   split
   ·exact h
   ·have e:d.fs.length≤64:=h.1.1;refine Zvf h ?_ ?_ (Zet h.2.2.1 c) (Zbn h.2.2.2)
    ·rw[Zev b,Zvx];omega
    ·rw[Zev b,Znb];have:=h.2.1;simp only[FiD.len,Y6];omega
  ·rw[a];exact h
 ·rw[if_pos (by simpa using he)];exact h
theorem Znd{d:DiD}{s:ByteArray}{x:List UInt8}(h:d.P):(Zaw d s x).1.P:=by
 unfold Zaw;by_cases he:d.er s s=0
 ·rw[if_neg (by simpa using he)];obtain⟨_,_,b,_⟩:=Zcs.1 he
  rcases d.get_cases s with⟨a,_,_⟩|⟨i,hi,_,a,h2⟩
  ·rw[a];exact h
  ·rw[a]
   dsimp only
   split
   ·exact h
   ·rename_i g;have c:(withB FiD.nm d.fs ⟨s,d.fs[i].su,d.fs[i].lo++x⟩).length≤64:=by rw[Zdd h.2.2.2 hi h2.symm];exact h.1.1
    have e:(usedL (withB FiD.nm d.fs ⟨s,d.fs[i].su,d.fs[i].lo++x⟩):Int)≤d.rm:=by have:=Zg9 (f:=⟨s,d.fs[i].su,d.fs[i].lo++x⟩) h.2.2.2 hi h2.symm;have e1:(FiD.len ⟨s,d.fs[i].su,d.fs[i].lo++x⟩)=d.fs[i].len+x.length:=(by simp[FiD.len];omega);rw[e1]at this;omega
    split
    ·exact dn_P true h c e (Zet h.2.2.1 b) (Zbn h.2.2.2)
    ·exact tick_P h c e (Zet h.2.2.1 b) (Zbn h.2.2.2)
 ·rw[if_pos (by simpa using he)];exact h
theorem Zj8{d:DiD}{s:ByteArray}(h:d.P):(Za3 d s).1.P:=by
 unfold Za3;by_cases he:d.er s s=0
 ·rw[if_neg (by simpa using he)];obtain⟨_,_,b,_⟩:=Zcs.1 he
  rcases d.get_cases s with⟨a,_,_⟩|⟨i,hi,_,a,h2⟩
  ·rw[a];exact h
  ·rw[a];refine Zvf h ?_ ?_ (Zet h.2.2.1 b) (Zbn h.2.2.2)
   ·rw[Zdd h.2.2.2 hi h2.symm];exact h.1.1
   ·have:=Zg9 (f:=⟨s,d.fs[i].su++d.fs[i].lo,[]⟩) h.2.2.2 hi h2.symm;have e1:(FiD.len ⟨s,d.fs[i].su++d.fs[i].lo,[]⟩)=d.fs[i].len:=(by simp[FiD.len]);have:=h.2.1;omega
 ·rw[if_pos (by simpa using he)];exact h
theorem Zi2{d:DiD}{s:ByteArray}(h:d.P):(Za4 d s).1.P:=by
 unfold Za4;by_cases he:d.er s s=0
 ·rw[if_neg (by simpa using he)]
  rcases d.get_cases s with⟨a,_,_⟩|⟨i,hi,_,a,h2⟩
  ·rw[a];exact h
  ·rw[a];have:=len_wout (l:=d.fs) (s:=s);have:=usedL_wle d.fs s;have c:=h.2.1;have e:=h.1.1;exact Zvf h (by omega) (by omega) (λg b=>h.2.2.1 g (Zff.1 b).1) (srt_wout h.2.2.2)
 ·rw[if_pos (by simpa using he)];exact h
theorem Zsr{d:DiD}{s:ByteArray}{n:Int}(h:d.P):(opCut d s n).1.P:=by
 unfold opCut;by_cases he:d.er s s=0
 ·rw[if_neg (by simpa using he)];obtain⟨_,_,b,_⟩:=Zcs.1 he
  rcases d.get_cases s with⟨a,_,_⟩|⟨i,hi,_,a,h2⟩
  ·rw[a];exact h
  ·rw[a]
   dsimp only
   split
   ·exact h
   ·refine Zvf h ?_ ?_ (Zet h.2.2.1 b) (Zbn h.2.2.2)
    ·rw[Zdd h.2.2.2 hi h2.symm];exact h.1.1
    ·have:=Zg9 (f:=⟨s,d.fs[i].su.take n.toNat,d.fs[i].lo.take (n.toNat-d.fs[i].su.length)⟩) h.2.2.2 hi h2.symm;have e1:(FiD.len ⟨s,d.fs[i].su.take n.toNat,d.fs[i].lo.take (n.toNat-d.fs[i].su.length)⟩)≤d.fs[i].len:=(by simp[FiD.len];omega);have:=h.2.1;omega
 ·rw[if_pos (by simpa using he)];exact h
theorem Zby(a:List Int)(l:List FiD):(wakeL a l).length=l.length:=by simp[wakeL]
theorem Zic(a:List Int)(l:List FiD)(i:Nat)(h:i<(wakeL a l).length):(wakeL a l)[i]=wakeF a i (l[i]'(by rw[Zby]at h;exact h)):=by simp[wakeL]
theorem Zlp:∀(l:List FiD) (g:Nat→FiD→FiD),(∀i f,(g i f).len≤f.len)→usedL (l.mapIdx g)≤usedL l
 | [],_,_=>by simp
 |a::l,g,h=>by rw[List.mapIdx_cons,Zcd,Zcd];have:=Zlp l (λi=>g (i+1)) (λi f=>h (i+1) f);have:=h 0 a;omega
theorem wakeF_len(a:List Int)(i:Nat)(f:FiD):(wakeF a i f).len≤f.len:=by simp[wakeF,FiD.len];omega
theorem Zyg(a:List Int)(l:List FiD):usedL (wakeL a l)≤usedL l:=Zlp _ _ (wakeF_len a)
theorem wakeL_srt(c:List Int){l:List FiD}(h:srt FiD.nm l):srt FiD.nm (wakeL c l):=by
 unfold srt;rw[List.pairwise_iff_getElem];intro i j d a b;rw[Zic,Zic];rw[Zby]at a;exact Zlw h b a
theorem Zss(b:List Int){l:List FiD}(h:∀f∈l,fnB f.nm=true):∀f∈wakeL b l,fnB f.nm=true:=by
 intro f c;obtain⟨i,a,rfl⟩:=List.mem_iff_getElem.1 c;rw[Zic];exact h (l[i]'(by rw[Zby]at a;exact a)) (List.getElem_mem _)
theorem Zvh{d:DiD}{ks:List Int}{n:Int}(h:d.P):(Zcj d ks n).1.P:=by
 unfold Zcj
 split
 ·exact h
 ·rename_i a;have b:=h.2.1;have:=Zyg ks d.fs;exact⟨⟨by rw[Zby];exact h.1.1,h.1.2.1,h.1.2.2.1,by dsimp only;omega⟩,by dsimp only;omega,Zss ks h.2.2.1,wakeL_srt ks h.2.2.2⟩
end Go.Px
namespace Go.Px
theorem isub_d(a b:Int):isub a b=a-b:=rfl
theorem Zai{a:Type}(g:a→List SV)(l:List a)(i:Nat)(h:i<l.length):rget (l.map g) (i:Int)=g l[i]:=by simp[rget,h]
theorem Za9{a:Type}(g:a→List SV)(l:List a)(i:Int)(b:0≤i)(h:i<l.length):rget (l.map g) i=g (l[i.toNat]'(by omega)):=by
 have:i.toNat<l.length:=(by omega);simp[rget,this]
theorem waddN(i:Nat)(h:i≤9223372036854775806):wadd .i64 (i:Int) 1=((i+1:Nat):Int):=by
 rw[Zac (by omega) (by omega)];omega
theorem Zkj(i j:Nat)(h:i+j≤9223372036854775807):wadd .i64 (i:Int) (j:Int)=((i+j:Nat):Int):=by
 rw[Zac (by omega) (by omega)];omega
theorem Zt2{a:Type}(l:List a)(i:Nat)(h:i<l.length):l.take (i+1)=l.take i++[l[i]]:=by
 rw[YP,List.getElem?_eq_getElem h];rfl
theorem Zhp{c:Type}(g:c→List SV)(l:List c)(a b:Int):rsub (l.map g) a b=((l.take b.toNat).drop a.toNat).map g:=by
 simp[rsub,List.map_take,List.map_drop]
theorem Zn1{a:Type}(g:a→List SV)(l:List a)(i:Nat)(x:a):rset (l.map g) (i:Int) (g x)=(l.set i x).map g:=by
 simp[rset,List.map_set]
theorem Zj1{a:Type}(g:a→List SV)(l m:List a):rapp (l.map g) (m.map g)=(l++m).map g:=by simp[rapp]
theorem stepL{a b:Nat}(h:a<b):Nat.le (Nat.succ a) b:=h
theorem ifB_d{p:Prop}[Decidable p]{x y:Prop}(a:p→x)(b:¬p→y):ifB (decide p) x y:=by
 by_cases h:p<;>simp[ifB,h]
 ·exact a h
 ·exact b h
theorem Zc3(s:ByteArray):s.size=s.data.toList.length:=by rw[Array.length_toList];rfl
theorem byteOf_u(b:UInt8):Zcx [U8 (b.toNat:Int)]=b:=by simp[Zcx]
theorem bstr_u(l:List UInt8):bstr (uR l)=⟨l.toArray⟩:=by
 unfold bstr uR;rw[List.map_map];congr 1;rw[show(Zcx∘λb:UInt8=>[U8 (b.toNat:Int)])=id from funext λb=>byteOf_u b];simp
theorem Zhq(l:List UInt8):Zap (uR l):=by
 intro r a;obtain⟨b,_,rfl⟩:=Y3.1 a;have:=b.toNat_lt;exact⟨b.toNat,rfl,by omega,by omega⟩
theorem bstr_inj{a b:List UInt8}:bstr (uR a)=bstr (uR b)↔a=b:=by
 rw[bstr_u,bstr_u];constructor
 ·intro h;simp at h;exact h
 ·rintro rfl;rfl
theorem uR_inj{a b:List UInt8}:uR a=uR b↔a=b:=by
 constructor
 ·intro h;have:=congrArg bstr h;exact bstr_inj.1 this
 ·rintro rfl;rfl
theorem Zgr(l:List UInt8):(uR l).length=l.length:=by simp
theorem Zzk(s:ByteArray)(i:Nat)(h:i<s.size):sbyte s (i:Int)=((s.data.toList[i]'(by rw[←Zc3];exact h)).toNat:Int):=by
 have a:i<s.data.size:=h;simp[sbyte,Y1 a]
end Go.Px
namespace Go.Px
set_option linter.unusedSectionVars false
def nms4:List ByteArray:=[⟨#[97]⟩,⟨#[98]⟩,⟨#[99]⟩,⟨#[100]⟩]
def nm4(n:Int):ByteArray:=nms4.getD (n.toNat%4) ByteArray.empty
structure DoD where
 k:Int
 f:Int
 t:Int
 n:Int
 x:List UInt8
abbrev DoD.row(o:DoD):List SV:=[U8 o.k,U8 o.f,U8 o.t,U8 o.n,SL 1 (uR o.x)]
abbrev oR(l:List DoD):List (List SV):=l.map DoD.row
def DoD.wf(o:DoD):Prop:=(0≤o.k∧o.k≤255)∧(0≤o.f∧o.f≤255)∧(0≤o.t∧o.t≤255)∧(0≤o.n∧o.n≤255)
def oneD(d:DiD)(o:DoD):DiD×Int:=
 if o.k%6=0 then Zbf d (nm4 o.f)else if o.k%6=1 then Zaw d (nm4 o.f) o.x else if o.k%6=2 then Za3 d (nm4 o.f)
 else if o.k%6=3 then Zve d (nm4 o.f) (nm4 o.t)else if o.k%6=4 then Za4 d (nm4 o.f)else opCut d (nm4 o.f) o.n
def Steps(F H:DiD)(m:Int)(p q:DiD×Int):Prop:=
 (p.2≠0→p.1=F∧q=(H,p.2))∧(p.2=0→(p.1.st= -1∧p.1.dn=false)∧(m=0→q.2=16∧q.1.dn=true)∧(m≠0→q=({p.1 with st:=m-1},0)))
section
variable{F:DiD}(hs:F.st= -1)(hd:F.dn=false){m:Int}(hm:0≤m)
include hs hd hm
end
end Go.Px
namespace Go.Px
section
variable{α:Type}{nm:α→ByteArray}{l:List α}{f g:α}
theorem wout_insB(h:∀x∈l,nm x≠nm f):wout nm (insB nm l f) (nm f)=l:=by
 have e:=Zct (nm:=nm) l (nm f);have b:wout nm (ahd nm l (nm f)) (nm f)=ahd nm l (nm f):=Zly λx a=>h x (by rw[←e];exact List.mem_append.2 (.inl a));have c:wout nm (bhd nm l (nm f)) (nm f)=bhd nm l (nm f):=Zly λx a=>h x (by rw[←e];exact List.mem_append.2 (.inr a))
 conv=>rhs;rw[←e]
 unfold insB;unfold wout at b c⊢;rw[List.filter_append,List.filter_cons];simp only[ne_eq,not_true,decide_false,Bool.false_eq_true,if_false];rw[b,c]
theorem Zyl(l:List α)(f:α):wout nm (withB nm l f) (nm f)=wout nm l (nm f):=by
 unfold withB;exact wout_insB λx a=>(Zff.1 a).2
theorem Zhc(e:nm f=nm g):withB nm (withB nm l f) g=withB nm l g:=by
 show insB nm (wout nm (withB nm l f) (nm g)) g=_;rw[←e,Zyl,e];rfl
end
theorem get_withB{d:DiD}{f:FiD}{l:List FiD}(c:srt FiD.nm l)(e:d.fs=withB FiD.nm l f):d.get f.nm=some f:=by
 have a:srt FiD.nm d.fs:=(by rw[e];exact Zbn c);have b:f∈d.fs:=by rw[e];exact Zc0.2 (.inl rfl)
 rcases d.get_cases f.nm with⟨_,_,j⟩|⟨i,hi,_,h1,h2⟩
 ·exact absurd rfl (j f b)
 ·rw[h1,Zlx a (List.getElem_mem hi) b h2]
theorem er_of{d:DiD}{a b:ByteArray}(c:d.P)(e:d.dn=false)(i:fnB a=true)(j:fnB b=true):d.er a b=0:=Zcs.2 ⟨c,e,i,j⟩
section
variable{d:DiD}(h:¬d.P)
include h
end
end Go.Px
namespace Go.Px
theorem get_iff{d:DiD}(c:srt FiD.nm d.fs){s:ByteArray}{f:FiD}:d.get s=some f↔f∈d.fs∧f.nm=s:=by
 constructor
 ·intro h
  rcases d.get_cases s with⟨a,_,_⟩|⟨i,hi,_,a,h2⟩
  ·rw[a]at h;cases h
  ·rw[a]at h;cases h;exact⟨List.getElem_mem hi,h2⟩
 ·rintro⟨a,rfl⟩
  rcases d.get_cases f.nm with⟨_,_,b⟩|⟨i,hi,_,h2,b⟩
  ·exact absurd rfl (b f a)
  ·rw[h2,Zlx c (List.getElem_mem hi) a b]
theorem get_none{d:DiD}{s:ByteArray}(h:d.get s=none):∀f∈d.fs,f.nm≠s:=by
 rcases d.get_cases s with⟨_,_,a⟩|⟨i,hi,_,h1,h2⟩
 ·exact a
 ·rw[h1]at h;cases h
def Lst(nm:ByteArray)(b:List UInt8)(a:List FiD):Prop:=∃f∈a,f.nm=nm∧b<+:f.su
def tch(o:DoD)(nm:ByteArray):Prop:=(3<o.k%6∧nm4 o.f=nm)∨(o.k%6=3∧(nm4 o.f=nm∨nm4 o.t=nm))
instance (o:DoD) (nm:ByteArray):Decidable (tch o nm):=inferInstanceAs (Decidable (_∨_))
end Go.Px
namespace Go.Proofs.YtgehiiginclniaaGreatDoor
open Go Go.Px Go.Proofs Tryz
def SgT:FuncId→Sig:=λ_=>{}
def SvT:TypeId→Sig:=λ_=>{}
abbrev ev7(s a k:Int)(c:ByteArray)(x y z:Int):SV:=.agg [I s,I a,I k,S c,I x,I y,I z]
theorem many_nf{k:Int}{Q:QQ}(h:ifB (bpick (ilt k 1) true (igt k 10)) (Q [I 0]) (ifB (ieq k 2) (Q [I 3]) (ifB (ieq k 3) (Q [I 2]) (Q [I 1])))):Ct prog 164 {} [I k] Q:=
 fN SgT SvT func164 h
theorem named_nf{c:ByteArray}{Q:QQ}(h:Q [B (bpick (ige (slen c) 1) (ile (slen c) 24) false)]):Ct prog 165 {} [S c] Q:=
 fN SgT SvT func165 h
theorem bounds_nf{k:Int}{Q:QQ}(h:ifB (ieq k 1) (Q ([SV.agg [I 1,I 3,I 0,I 0,I 0,I 0]])) (ifB (ieq k 2) (Q ([SV.agg [I 0,I 2147483647,I 0,I 2147483647,I 0,I 2147483647]])) (ifB (ieq k 3) (Q ([SV.agg [I 0,I 2,I 0,I 2147483647,I 0,I 0]])) (ifB (ieq k 4) (Q ([SV.agg [I 0,I 2,I 0,I 0,I 0,I 0]])) (ifB (ieq k 8) (ifB (ieq k 8) (Q ([SV.agg [I 1,I 2147483647,I 0,I 0,I 0,I 0]])) (Q ([SV.agg [I 0,I 2147483647,I 0,I 0,I 0,I 0]]))) (ifB (ieq k 10) (Q ([SV.agg [I 1,I 2147483647,I 0,I 0,I 0,I 0]])) (Q ([SV.agg [I 0,I 2147483647,I 0,I 0,I 0,I 0]])))))))):Ct prog 240 {} [I k] Q:=
 fN SgT SvT func240 h
theorem within_nf{s a k:Int}{c:ByteArray}{x y z:Int}{Q:QQ}(h:Cl prog 240 sP [I k] (λp=>∃l g,∃n i,∃o j,(p=[SV.agg [I l,I g,I n,I i,I o,I j]])∧∃e:Bool→Int→Prop,∃m:Bool→Int→Nat,(e false 0)∧∀b d,(e b d)→ifB (ilt d 3) ((((0:Int)≤d)∧d<3)∧((d=(0:Int))→(((0:Int)≤d)∧d<3)∧((d=(0:Int))→ifB (ilt x l) (Q [B false]) ((((0:Int)≤d)∧d<3)∧((d=(0:Int))→ifB (bpick false true (igt x g)) (Q [B false]) ((Sm (some ([[I x,I y,I z],[I s,I a,I k,S c,I x,I y,I z]])))∧(e b (wadd .i64 d 1))∧Nat.le (Nat.succ (m b (wadd .i64 d 1))) (m b d)))∧((d=(1:Int))→ifB (bpick false true (igt y g)) (Q [B false]) ((Sm (some ([[I x,I y,I z],[I s,I a,I k,S c,I x,I y,I z]])))∧(e b (wadd .i64 d 1))∧Nat.le (Nat.succ (m b (wadd .i64 d 1))) (m b d)))∧((d=(2:Int))→ifB (bpick false true (igt z g)) (Q [B false]) ((Sm (some ([[I x,I y,I z],[I s,I a,I k,S c,I x,I y,I z]])))∧(e b (wadd .i64 d 1))∧Nat.le (Nat.succ (m b (wadd .i64 d 1))) (m b d)))∧True))∧((d=(1:Int))→ifB (ilt y l) (Q [B false]) ((((0:Int)≤d)∧d<3)∧((d=(0:Int))→ifB (bpick false true (igt x g)) (Q [B false]) ((Sm (some ([[I x,I y,I z],[I s,I a,I k,S c,I x,I y,I z]])))∧(e b (wadd .i64 d 1))∧Nat.le (Nat.succ (m b (wadd .i64 d 1))) (m b d)))∧((d=(1:Int))→ifB (bpick false true (igt y g)) (Q [B false]) ((Sm (some ([[I x,I y,I z],[I s,I a,I k,S c,I x,I y,I z]])))∧(e b (wadd .i64 d 1))∧Nat.le (Nat.succ (m b (wadd .i64 d 1))) (m b d)))∧((d=(2:Int))→ifB (bpick false true (igt z g)) (Q [B false]) ((Sm (some ([[I x,I y,I z],[I s,I a,I k,S c,I x,I y,I z]])))∧(e b (wadd .i64 d 1))∧Nat.le (Nat.succ (m b (wadd .i64 d 1))) (m b d)))∧True))∧((d=(2:Int))→ifB (ilt z l) (Q [B false]) ((((0:Int)≤d)∧d<3)∧((d=(0:Int))→ifB (bpick false true (igt x g)) (Q [B false]) ((Sm (some ([[I x,I y,I z],[I s,I a,I k,S c,I x,I y,I z]])))∧(e b (wadd .i64 d 1))∧Nat.le (Nat.succ (m b (wadd .i64 d 1))) (m b d)))∧((d=(1:Int))→ifB (bpick false true (igt y g)) (Q [B false]) ((Sm (some ([[I x,I y,I z],[I s,I a,I k,S c,I x,I y,I z]])))∧(e b (wadd .i64 d 1))∧Nat.le (Nat.succ (m b (wadd .i64 d 1))) (m b d)))∧((d=(2:Int))→ifB (bpick false true (igt z g)) (Q [B false]) ((Sm (some ([[I x,I y,I z],[I s,I a,I k,S c,I x,I y,I z]])))∧(e b (wadd .i64 d 1))∧Nat.le (Nat.succ (m b (wadd .i64 d 1))) (m b d)))∧True))∧True)∧((d=(1:Int))→(((0:Int)≤d)∧d<3)∧((d=(0:Int))→ifB (ilt x n) (Q [B false]) ((((0:Int)≤d)∧d<3)∧((d=(0:Int))→ifB (bpick false true (igt x i)) (Q [B false]) ((Sm (some ([[I x,I y,I z],[I s,I a,I k,S c,I x,I y,I z]])))∧(e b (wadd .i64 d 1))∧Nat.le (Nat.succ (m b (wadd .i64 d 1))) (m b d)))∧((d=(1:Int))→ifB (bpick false true (igt y i)) (Q [B false]) ((Sm (some ([[I x,I y,I z],[I s,I a,I k,S c,I x,I y,I z]])))∧(e b (wadd .i64 d 1))∧Nat.le (Nat.succ (m b (wadd .i64 d 1))) (m b d)))∧((d=(2:Int))→ifB (bpick false true (igt z i)) (Q [B false]) ((Sm (some ([[I x,I y,I z],[I s,I a,I k,S c,I x,I y,I z]])))∧(e b (wadd .i64 d 1))∧Nat.le (Nat.succ (m b (wadd .i64 d 1))) (m b d)))∧True))∧((d=(1:Int))→ifB (ilt y n) (Q [B false]) ((((0:Int)≤d)∧d<3)∧((d=(0:Int))→ifB (bpick false true (igt x i)) (Q [B false]) ((Sm (some ([[I x,I y,I z],[I s,I a,I k,S c,I x,I y,I z]])))∧(e b (wadd .i64 d 1))∧Nat.le (Nat.succ (m b (wadd .i64 d 1))) (m b d)))∧((d=(1:Int))→ifB (bpick false true (igt y i)) (Q [B false]) ((Sm (some ([[I x,I y,I z],[I s,I a,I k,S c,I x,I y,I z]])))∧(e b (wadd .i64 d 1))∧Nat.le (Nat.succ (m b (wadd .i64 d 1))) (m b d)))∧((d=(2:Int))→ifB (bpick false true (igt z i)) (Q [B false]) ((Sm (some ([[I x,I y,I z],[I s,I a,I k,S c,I x,I y,I z]])))∧(e b (wadd .i64 d 1))∧Nat.le (Nat.succ (m b (wadd .i64 d 1))) (m b d)))∧True))∧((d=(2:Int))→ifB (ilt z n) (Q [B false]) ((((0:Int)≤d)∧d<3)∧((d=(0:Int))→ifB (bpick false true (igt x i)) (Q [B false]) ((Sm (some ([[I x,I y,I z],[I s,I a,I k,S c,I x,I y,I z]])))∧(e b (wadd .i64 d 1))∧Nat.le (Nat.succ (m b (wadd .i64 d 1))) (m b d)))∧((d=(1:Int))→ifB (bpick false true (igt y i)) (Q [B false]) ((Sm (some ([[I x,I y,I z],[I s,I a,I k,S c,I x,I y,I z]])))∧(e b (wadd .i64 d 1))∧Nat.le (Nat.succ (m b (wadd .i64 d 1))) (m b d)))∧((d=(2:Int))→ifB (bpick false true (igt z i)) (Q [B false]) ((Sm (some ([[I x,I y,I z],[I s,I a,I k,S c,I x,I y,I z]])))∧(e b (wadd .i64 d 1))∧Nat.le (Nat.succ (m b (wadd .i64 d 1))) (m b d)))∧True))∧True)∧((d=(2:Int))→(((0:Int)≤d)∧d<3)∧((d=(0:Int))→ifB (ilt x o) (Q [B false]) ((((0:Int)≤d)∧d<3)∧((d=(0:Int))→ifB (bpick false true (igt x j)) (Q [B false]) ((Sm (some ([[I x,I y,I z],[I s,I a,I k,S c,I x,I y,I z]])))∧(e b (wadd .i64 d 1))∧Nat.le (Nat.succ (m b (wadd .i64 d 1))) (m b d)))∧((d=(1:Int))→ifB (bpick false true (igt y j)) (Q [B false]) ((Sm (some ([[I x,I y,I z],[I s,I a,I k,S c,I x,I y,I z]])))∧(e b (wadd .i64 d 1))∧Nat.le (Nat.succ (m b (wadd .i64 d 1))) (m b d)))∧((d=(2:Int))→ifB (bpick false true (igt z j)) (Q [B false]) ((Sm (some ([[I x,I y,I z],[I s,I a,I k,S c,I x,I y,I z]])))∧(e b (wadd .i64 d 1))∧Nat.le (Nat.succ (m b (wadd .i64 d 1))) (m b d)))∧True))∧((d=(1:Int))→ifB (ilt y o) (Q [B false]) ((((0:Int)≤d)∧d<3)∧((d=(0:Int))→ifB (bpick false true (igt x j)) (Q [B false]) ((Sm (some ([[I x,I y,I z],[I s,I a,I k,S c,I x,I y,I z]])))∧(e b (wadd .i64 d 1))∧Nat.le (Nat.succ (m b (wadd .i64 d 1))) (m b d)))∧((d=(1:Int))→ifB (bpick false true (igt y j)) (Q [B false]) ((Sm (some ([[I x,I y,I z],[I s,I a,I k,S c,I x,I y,I z]])))∧(e b (wadd .i64 d 1))∧Nat.le (Nat.succ (m b (wadd .i64 d 1))) (m b d)))∧((d=(2:Int))→ifB (bpick false true (igt z j)) (Q [B false]) ((Sm (some ([[I x,I y,I z],[I s,I a,I k,S c,I x,I y,I z]])))∧(e b (wadd .i64 d 1))∧Nat.le (Nat.succ (m b (wadd .i64 d 1))) (m b d)))∧True))∧((d=(2:Int))→ifB (ilt z o) (Q [B false]) ((((0:Int)≤d)∧d<3)∧((d=(0:Int))→ifB (bpick false true (igt x j)) (Q [B false]) ((Sm (some ([[I x,I y,I z],[I s,I a,I k,S c,I x,I y,I z]])))∧(e b (wadd .i64 d 1))∧Nat.le (Nat.succ (m b (wadd .i64 d 1))) (m b d)))∧((d=(1:Int))→ifB (bpick false true (igt y j)) (Q [B false]) ((Sm (some ([[I x,I y,I z],[I s,I a,I k,S c,I x,I y,I z]])))∧(e b (wadd .i64 d 1))∧Nat.le (Nat.succ (m b (wadd .i64 d 1))) (m b d)))∧((d=(2:Int))→ifB (bpick false true (igt z j)) (Q [B false]) ((Sm (some ([[I x,I y,I z],[I s,I a,I k,S c,I x,I y,I z]])))∧(e b (wadd .i64 d 1))∧Nat.le (Nat.succ (m b (wadd .i64 d 1))) (m b d)))∧True))∧True)∧True) (Q [B true]))):Ct prog 166 {} [ev7 s a k c x y z] Q:=
 fN SgT SvT func166 h
theorem check_nf{s a k:Int}{c:ByteArray}{x y z:Int}{Q:QQ}(h:Cl prog 164 sP [I k] (λj=>∃g,(j=[I g])∧ifB (ieq g 0) (Q [I 2]) (Cl prog 165 sP [S c] (λd=>∃b,(d=[B b])∧ifB (bnot b) (Q [I 3]) (Cl prog 166 sP ([SV.agg [I s,I a,I k,S c,I x,I y,I z]]) (λe=>∃i,(e=[B i])∧ifB (bnot i) (Q [I 4]) (ifB (bpick (ilt a 0) true (igt a 1099511627776)) (Q [I 5]) (ifB (bpick (ilt s 0) true (igt s 4294967296)) (Q [I 1]) (Q [I 0]))))))))):Ct prog 102 {} [ev7 s a k c x y z] Q:=
 fN SgT SvT func102 h
theorem Zxg{s a k:Int}{c:ByteArray}{x y z:Int}{Q:QQ}(h:Cl prog 164 sP [I k] (λd=>∃b,(d=[I b])∧(((0:Int)≤0)∧((0:Int)≤b)∧b≤(rlen ([[I x],[I y],[I z]])))∧Q ([SL 1 (rsub ([[I x],[I y],[I z]]) 0 b)]))):Ct prog 273 {} [ev7 s a k c x y z] Q:=
 fN SgT SvT func273 h
theorem fill_nf{s a k:Int}{c:ByteArray}{x y z:Int}{rows:LL}{Q:QQ}(h:((imin (rlen rows) 3=(0:Int))→Q ([SV.agg [I s,I a,I k,S c,I 0,I 0,I 0]]))∧((0<(imin (rlen rows) 3))→∃b,(rget rows 0=[I b])∧((imin (rlen rows) 3=(1:Int))→Q ([SV.agg [I s,I a,I k,S c,I b,I 0,I 0]]))∧((1<(imin (rlen rows) 3))→∃d,(rget rows 1=[I d])∧((imin (rlen rows) 3=(2:Int))→Q ([SV.agg [I s,I a,I k,S c,I b,I d,I 0]]))∧((2<(imin (rlen rows) 3))→∃e,(rget rows 2=[I e])∧Q ([SV.agg [I s,I a,I k,S c,I b,I d,I e]]))))):Ct prog 377 {} [ev7 s a k c x y z,SL 1 rows] Q:=
 fN SgT SvT func377 h
theorem role_nf{k:Int}{Q:QQ}(h:ifB (ieq k 1) (ifB (ieq k 1) (Q [I 0]) (ifB (ieq k 3) (ifB (ieq k 3) (Q [I 1]) (ifB (ieq k 5) (ifB (ieq k 5) (Q [I 2]) (ifB (ieq k 8) (ifB (ieq k 8) (Q [I 3]) (Q [I ((-1:Int))])) (ifB (ieq k 9) (ifB (ieq k 9) (Q [I 3]) (Q [I ((-1:Int))])) (ifB (ieq k 10) (Q [I 3]) (Q [I ((-1:Int))]))))) (ifB (ieq k 6) (ifB (ieq k 6) (Q [I 2]) (ifB (ieq k 8) (ifB (ieq k 8) (Q [I 3]) (Q [I ((-1:Int))])) (ifB (ieq k 9) (ifB (ieq k 9) (Q [I 3]) (Q [I ((-1:Int))])) (ifB (ieq k 10) (Q [I 3]) (Q [I ((-1:Int))]))))) (ifB (ieq k 7) (Q [I 2]) (ifB (ieq k 8) (ifB (ieq k 8) (Q [I 3]) (Q [I ((-1:Int))])) (ifB (ieq k 9) (ifB (ieq k 9) (Q [I 3]) (Q [I ((-1:Int))])) (ifB (ieq k 10) (Q [I 3]) (Q [I ((-1:Int))])))))))) (ifB (ieq k 4) (Q [I 1]) (ifB (ieq k 5) (ifB (ieq k 5) (Q [I 2]) (ifB (ieq k 8) (ifB (ieq k 8) (Q [I 3]) (Q [I ((-1:Int))])) (ifB (ieq k 9) (ifB (ieq k 9) (Q [I 3]) (Q [I ((-1:Int))])) (ifB (ieq k 10) (Q [I 3]) (Q [I ((-1:Int))]))))) (ifB (ieq k 6) (ifB (ieq k 6) (Q [I 2]) (ifB (ieq k 8) (ifB (ieq k 8) (Q [I 3]) (Q [I ((-1:Int))])) (ifB (ieq k 9) (ifB (ieq k 9) (Q [I 3]) (Q [I ((-1:Int))])) (ifB (ieq k 10) (Q [I 3]) (Q [I ((-1:Int))]))))) (ifB (ieq k 7) (Q [I 2]) (ifB (ieq k 8) (ifB (ieq k 8) (Q [I 3]) (Q [I ((-1:Int))])) (ifB (ieq k 9) (ifB (ieq k 9) (Q [I 3]) (Q [I ((-1:Int))])) (ifB (ieq k 10) (Q [I 3]) (Q [I ((-1:Int))])))))))))) (ifB (ieq k 2) (Q [I 0]) (ifB (ieq k 3) (ifB (ieq k 3) (Q [I 1]) (ifB (ieq k 5) (ifB (ieq k 5) (Q [I 2]) (ifB (ieq k 8) (ifB (ieq k 8) (Q [I 3]) (Q [I ((-1:Int))])) (ifB (ieq k 9) (ifB (ieq k 9) (Q [I 3]) (Q [I ((-1:Int))])) (ifB (ieq k 10) (Q [I 3]) (Q [I ((-1:Int))]))))) (ifB (ieq k 6) (ifB (ieq k 6) (Q [I 2]) (ifB (ieq k 8) (ifB (ieq k 8) (Q [I 3]) (Q [I ((-1:Int))])) (ifB (ieq k 9) (ifB (ieq k 9) (Q [I 3]) (Q [I ((-1:Int))])) (ifB (ieq k 10) (Q [I 3]) (Q [I ((-1:Int))]))))) (ifB (ieq k 7) (Q [I 2]) (ifB (ieq k 8) (ifB (ieq k 8) (Q [I 3]) (Q [I ((-1:Int))])) (ifB (ieq k 9) (ifB (ieq k 9) (Q [I 3]) (Q [I ((-1:Int))])) (ifB (ieq k 10) (Q [I 3]) (Q [I ((-1:Int))])))))))) (ifB (ieq k 4) (Q [I 1]) (ifB (ieq k 5) (ifB (ieq k 5) (Q [I 2]) (ifB (ieq k 8) (ifB (ieq k 8) (Q [I 3]) (Q [I ((-1:Int))])) (ifB (ieq k 9) (ifB (ieq k 9) (Q [I 3]) (Q [I ((-1:Int))])) (ifB (ieq k 10) (Q [I 3]) (Q [I ((-1:Int))]))))) (ifB (ieq k 6) (ifB (ieq k 6) (Q [I 2]) (ifB (ieq k 8) (ifB (ieq k 8) (Q [I 3]) (Q [I ((-1:Int))])) (ifB (ieq k 9) (ifB (ieq k 9) (Q [I 3]) (Q [I ((-1:Int))])) (ifB (ieq k 10) (Q [I 3]) (Q [I ((-1:Int))]))))) (ifB (ieq k 7) (Q [I 2]) (ifB (ieq k 8) (ifB (ieq k 8) (Q [I 3]) (Q [I ((-1:Int))])) (ifB (ieq k 9) (ifB (ieq k 9) (Q [I 3]) (Q [I ((-1:Int))])) (ifB (ieq k 10) (Q [I 3]) (Q [I ((-1:Int))]))))))))))):Ct prog 260 {} [I k] Q:=
 fN SgT SvT func260 h
open Go Go.Px Go.Proofs Tryz
def manyI(k:Int):Int:=if k<1∨10<k then 0 else if k=2 then 3 else if k=3 then 2 else 1
def roleI(k:Int):Int:=if k=1∨k=2 then 0 else if k=3∨k=4 then 1 else if k=5∨k=6∨k=7 then 2 else if k=8∨k=9∨k=10 then 3 else-1
def lo1(k:Int):Int:=if k=1∨k=8∨k=10 then 1 else 0
def hi1(k:Int):Int:=if k=1 then 3 else if k=3∨k=4 then 2 else 2147483647
def hi2(k:Int):Int:=if k=2∨k=3 then 2147483647 else 0
def hi3(k:Int):Int:=if k=2 then 2147483647 else 0
def valB(k x y z:Int):Bool:=decide (lo1 k≤x∧x≤hi1 k∧0≤y∧y≤hi2 k∧0≤z∧z≤hi3 k)
def someB(n:Int):Bool:=decide (0≤n∧n≤2147483647)
def namB(c:ByteArray):Bool:=decide (1≤c.size∧c.size≤24)
def chkI(s a k:Int)(c:ByteArray)(x y z:Int):Int:=
 if manyI k=0 then 2 else if namB c=false then 3 else if valB k x y z=false then 4 else if a<0∨1099511627776<a then 5 else if s<0∨4294967296<s then 1 else 0
theorem ifB_iff{b:Bool}{x y:Prop}:ifB b x y↔((b=true→x)∧(b=false→y)):=by
 cases b<;>simp[ifB]
theorem ifB_p{p:Prop}[Decidable p]{x y:Prop}:ifB (decide p) x y↔(if p then x else y):=by
 by_cases h:p<;>simp[h,ifB]
theorem mlt{a b:Nat}(h:a<b):Nat.le (Nat.succ a) b:=h
theorem bor_t{a b:Bool}:bpick a true b=true↔a=true∨b=true:=by cases a<;>simp
theorem bor_f{a b:Bool}:bpick a true b=false↔a=false∧b=false:=by cases a<;>simp
theorem Zhk(c:ByteArray):Ct prog 165 {} [S c] (λr=>r=[B (namB c)]):=by
 refine named_nf ?_;have:(bpick (ige (slen c) 1) (ile (slen c) 24) false)=namB c:=(by rw[Bool.eq_iff_iff];simp[namB];omega);rw[this]
theorem many_eq(k:Int):ifB (bpick (ilt k 1) true (igt k 10)) (([I 0]:List SV)=[I (manyI k)]) (ifB (ieq k 2) (([I 3]:List SV)=[I (manyI k)]) (ifB (ieq k 3) (([I 2]:List SV)=[I (manyI k)]) (([I 1]:List SV)=[I (manyI k)]))):=by
 refine Zaa (λh=>?_) (λh=>?_)
 ·simp at h;have:k<1∨10<k:=(by omega);simp[manyI,this]
 ·simp at h;have b:¬(k<1∨10<k):=(by omega);refine Zaa (λh=>?_) (λh=>?_)
  ·simp at h;simp[manyI,h]
  ·simp at h;refine Zaa (λa=>?_) (λa=>?_)
   ·simp at a;simp[manyI,a]
   ·simp at a;simp[manyI,h,a,b]
theorem Zrg(k:Int):Ct prog 164 {} [I k] (λr=>r=[I (manyI k)]):=many_nf (many_eq k)
theorem Zy8(k:Int):Ct prog 240 {} [I k] (λr=>r=[.agg [I (lo1 k),I (hi1 k),I 0,I (hi2 k),I 0,I (hi3 k)]]):=by
 refine bounds_nf ?_;simp only[ieq_eq,ifB_p]
 repeat' split
 all_goals (subst_vars;simp_all[lo1,hi1,hi2,hi3])
theorem Zy9(s a k:Int)(c:ByteArray)(x y z:Int):Ct prog 166 {} [ev7 s a k c x y z] (λr=>r=[B (valB k x y z)]):=by
 refine within_nf (Cl.of (Zy8 k) ⟨_,_,_,_,_,_,rfl,?_⟩);refine⟨λ_ i=>0≤i∧i≤3∧(1≤i→lo1 k≤x∧x≤hi1 k)∧(2≤i→0≤y∧y≤hi2 k)∧(3≤i→0≤z∧z≤hi3 k),λ_ i=>(3-i).toNat,by omega,λb i f=>?_⟩;obtain⟨l,m,n,o,p⟩:=f;refine Zaa (λh=>?_) (λh=>?_)
 ·simp at h;have w:wadd IntKind.i64 i 1=i+1:=Zac (by omega) (by omega);have j:i=0∨i=1∨i=2:=(by omega);have d:(lo1 k≤x∧x≤hi1 k∧0≤y∧y≤hi2 k∧0≤z∧z≤hi3 k→False)→[B false]=[B (valB k x y z)]:=λg=>by have:valB k x y z=false:=(by simpa[valB]using g);rw[this]
  rw[w];simp only[ifB_iff,ilt_eq,igt_eq,bpick_eq,decide_eq_true_eq,decide_eq_false_iff_not,Bool.false_eq_true,if_false]
  rcases j with rfl|rfl|rfl
  ·simp only[true_and,forall_const,and_true,Int.reduceLT,Int.reduceEq,false_implies,Int.reduceLE];refine⟨λh=>d (by omega),λh=>⟨λe=>d (by omega),λe=>⟨by omega,mlt (by omega)⟩⟩⟩
  ·simp only[true_and,forall_const,and_true,Int.reduceLT,Int.reduceEq,false_implies,Int.reduceLE];refine⟨λh=>d (by omega),λh=>⟨λe=>d (by omega),λe=>⟨by omega,mlt (by omega)⟩⟩⟩
  ·simp only[true_and,forall_const,and_true,Int.reduceLT,Int.reduceEq,false_implies,Int.reduceLE];refine⟨λh=>d (by omega),λh=>⟨λe=>d (by omega),λe=>⟨by omega,mlt (by omega)⟩⟩⟩
 ·simp at h;have:valB k x y z=true:=by simp[valB];omega
  simp[this]
theorem many0(k:Int):manyI k=0↔k<1∨10<k:=by
 unfold manyI;repeat' split
 all_goals simp_all
theorem Zn0(s a k:Int)(c:ByteArray)(x y z:Int):Ct prog 102 {} [ev7 s a k c x y z] (λr=>r=[I (chkI s a k c x y z)]):=by
 refine check_nf (Cl.of (Zrg k) ⟨_,rfl,Zaa (λh=>?_) (λh=>?_)⟩)
 ·simp at h;simp[chkI,h]
 ·simp at h;refine Cl.of (Zhk c) ⟨_,rfl,Zaa (λb=>?_) (λb=>?_)⟩
  ·simp at b;simp[chkI,h,b]
  ·simp at b;refine Cl.of (Zy9 s a k c x y z) ⟨_,rfl,Zaa (λd=>?_) (λd=>?_)⟩
   ·simp at d;simp[chkI,h,b,d]
   ·simp at d;refine Zaa (λe=>?_) (λe=>?_)
    ·simp at e;have:a<0∨1099511627776<a:=(by omega);simp[chkI,h,b,d,this]
    ·simp at e;have e:¬(a<0∨1099511627776<a):=(by omega);refine Zaa (λf=>?_) (λf=>?_)
     ·simp at f;have:s<0∨4294967296<s:=(by omega);simp[chkI,h,b,d,e,this]
     ·simp at f;have f:¬(s<0∨4294967296<s):=(by omega);simp[chkI,h,b,d,e,f]
def numL(k x y z:Int):List (List SV):=rsub [[I x],[I y],[I z]] 0 (manyI k)
theorem Zdh(k:Int):manyI k=0∨manyI k=1∨manyI k=2∨manyI k=3:=by
 unfold manyI;repeat' split
 all_goals simp_all
theorem Zmn(s a k:Int)(c:ByteArray)(x y z:Int):Ct prog 273 {} [ev7 s a k c x y z] (λr=>r=[SL 1 (numL k x y z)]):=by
 refine Zxg (Cl.of (Zrg k) ⟨_,rfl,?_,rfl⟩);simp only[rlen_eq,List.length_cons,Y6]
 rcases Zdh k with h|h|h|h<;>omega
def nAt(rows:List (List SV))(i:Nat):Int:=
 match rows[i]? with
 |some [.val (.int _ n)]=>n
 |_=>0
def Ints(rows:List (List SV)):Prop:=∀r∈rows,∃n:Int,r=[I n]
theorem Ints.get{rows:List (List SV)}(h:Ints rows){i:Nat}(a:i<rows.length)(j:Int)(b:j=(i:Int)):rget rows j=[I (nAt rows i)]:=by
 obtain⟨n,c⟩:=h rows[i] (List.getElem_mem a);subst b;have:rows[i]?=some [I n]:=(by rw[List.getElem?_eq_getElem a,c]);simp[rget,nAt,this]
theorem Zix{rows:List (List SV)}{i:Nat}(a:rows.length≤i):nAt rows i=0:=by
 simp[nAt,YB a]
theorem fill_fn(s a k:Int)(c:ByteArray)(x y z:Int)(rows:List (List SV))(b:Ints rows):Ct prog 377 {} [ev7 s a k c x y z,SL 1 rows] (λr=>r=[ev7 s a k c (nAt rows 0) (nAt rows 1) (nAt rows 2)]):=by
 refine fill_nf ?_;simp only[imin_eq,rlen_eq];refine⟨λh=>?_,λh=>⟨_,b.get (i:=0) (by omega) _ rfl,λd=>?_,λd=>⟨_,b.get (i:=1) (by omega) _ rfl,λe=>?_,λe=>⟨_,b.get (i:=2) (by omega) _ rfl,rfl⟩⟩⟩⟩
 ·rw[Zix (i:=0) (by omega),Zix (i:=1) (by omega),Zix (i:=2) (by omega)]
 ·rw[Zix (i:=1) (by omega),Zix (i:=2) (by omega)]
 ·rw[Zix (i:=2) (by omega)]
theorem many1{k:Int}(h:manyI k=1):hi2 k=0∧hi3 k=0:=by
 have a:k≠2:=λe=>by subst e;simp[manyI]at h
 have b:k≠3:=λe=>by subst e;simp[manyI]at h
 simp[hi2,hi3,a,b]
theorem many2{k:Int}(h:manyI k=2):hi3 k=0:=by
 have a:k≠2:=λe=>by subst e;simp[manyI]at h
 simp[hi3,a]
theorem chk0{s a k:Int}{c:ByteArray}{x y z:Int}(h:chkI s a k c x y z=0):manyI k≠0∧namB c=true∧valB k x y z=true∧¬(a<0∨1099511627776<a)∧¬(s<0∨4294967296<s):=by
 unfold chkI at h
 split at h
 ·simp at h
 split at h
 ·simp at h
 split at h
 ·simp at h
 split at h
 ·simp at h
 split at h
 ·simp at h
 simp_all
theorem role_fn(k:Int):Ct prog 260 {} [I k] (λr=>r=[I (roleI k)]):=by
 refine role_nf ?_;simp only[ieq_eq,ifB_p]
 repeat' split
 all_goals (subst_vars;simp_all[roleI])
namespace Cod
open Go Go.Px Go.Proofs Tryz
def SgT:FuncId→Sig:=(λf=>bif Nat.beq f 271 then⟨[],[.own]⟩else bif Nat.beq f 272 then⟨[],[.own]⟩else bif Nat.beq f 149 then⟨[],[.own]⟩else bif Nat.beq f 218 then⟨[],[.own]⟩else bif Nat.beq f 326 then⟨[],[.own]⟩else bif Nat.beq f 327 then⟨[],[.own]⟩else bif Nat.beq f 307 then⟨[],[.own]⟩else{})
def SvT:TypeId→Sig:=λ_=>{}
abbrev cx3(s a:Int)(b:List (List SV)):SV:=.agg [I s,I a,SL 1 b]
abbrev cu3(bs:List (List SV))(a e:Int):SV:=.agg [SL 1 bs,I a,I e]
theorem cloneB_nf{rows:LL}{Q:QQ}(h:∀b,((b=true)→rlen rows=0)→ifB b (Q ([SL 1 []])) (((lsum (rlen []) (rlen rows))≤2147483648)∧Q ([SL 1 (rapp [] rows)]))):Ct prog 307 ⟨[],[.own]⟩ [SL 1 rows] Q:=
 fN SgT SvT func307 h
theorem cloneS_nf{rows:LL}{Q:QQ}(h:∀b,((b=true)→rlen rows=0)→ifB b (Q ([SL 1 []])) (((lsum (rlen []) (rlen rows))≤2147483648)∧Q ([SL 1 (rapp [] rows)]))):Ct prog 327 ⟨[],[.own]⟩ [SL 1 rows] Q:=
 fN SgT SvT func327 h
theorem Zxy{rows:LL}{n:Int}{Q:QQ}(h:Cl prog 307 sO [SL 1 rows] (λc=>∃l,(c=[SL 1 l])∧∃b:(LL)→Int→Prop,∃m:(LL)→Int→Nat,(b l n)∧∀a x,(b a x)→ifB (ige x 128) (((lsum (rlen a) (rlen ([[U8 (wor .u8 (wcv .u8 x) 128)]])))≤2147483648)∧((0:Int)≤7)∧((Option.some []:Option (LL))=Option.some [])∧(b (rapp a ([[U8 (wor .u8 (wcv .u8 x) 128)]])) (wshr .u64 x 7))∧Nat.le (Nat.succ (m (rapp a ([[U8 (wor .u8 (wcv .u8 x) 128)]])) (wshr .u64 x 7))) (m a x)) (((lsum (rlen a) (rlen ([[U8 (wcv .u8 x)]])))≤2147483648)∧Q ([SL 1 (rapp a ([[U8 (wcv .u8 x)]]))])))):Ct prog 271 ⟨[],[.own]⟩ [SL 1 rows,U64 n] Q:=
 fN SgT SvT func271 h
theorem Zxz{rows:LL}{t:ByteArray}{Q:QQ}(h:Cl prog 271 sO [SL 1 rows,U64 (wcv .u64 (slen t))] (λa=>∃l,(a=[SL 1 l])∧((lsum (rlen l) (rlen (Zcf t)))≤2147483648)∧Q [SL 1 (rapp l (Zcf t))])):Ct prog 272 ⟨[],[.own]⟩ [SL 1 rows,S t] Q:=
 fN SgT SvT func272 h
theorem places_nf{rows:LL}{Q:QQ}(h:∃b:Int→(List (Prod ByteArray Int))→Prop,∃m:Int→(List (Prod ByteArray Int))→Nat,(b 0 [])∧∀x,∀a:List (Prod ByteArray Int),(b x a)→ifB (ilt x (rlen rows)) ((((0:Int)≤x)∧x<(rlen rows))∧∃s,(rget rows x=[S s])∧ifB (bnot (mhas a s)) (((Option.some []:Option (LL))=Option.some [])∧(b (wadd .i64 x 1) (mset a s (wadd .i64 x 1)))∧Nat.le (Nat.succ (m (wadd .i64 x 1) (mset a s (wadd .i64 x 1)))) (m x a)) (((Option.some []:Option (LL))=Option.some [])∧(b (wadd .i64 x 1) a)∧Nat.le (Nat.succ (m (wadd .i64 x 1) a)) (m x a))) (Q [SV.mapv a])):Ct prog 326 ⟨[],[.own]⟩ [SL 1 rows] Q:=
 fN SgT SvT func326 h
theorem place_nf{rows:LL}{t:ByteArray}{Q:QQ}(h:Cl prog 326 sO [SL 1 rows] (λb=>∃a:List (Prod ByteArray Int),(b=[SV.mapv a])∧Q [I (mget a t)])):Ct prog 269 {} [SL 1 rows,S t] Q:=
 fN SgT SvT func269 h
theorem Zx0{t:ByteArray}{Q:QQ}(h:Cl prog 165 sP [S t] (λa=>∃b,(a=[B b])∧Q [B (bnot b)])):Ct prog 328 {} [S t] Q:=
 fN SgT SvT func328 h
theorem indexS_nf{rows:LL}{f:FuncId}{d:List SV}{Q:QQ}(h:∃c:Int→Int→Prop,∃m:Int→Int→Nat,(c 0 0)∧∀x a,(c x a)→ifB (ilt a (rlen rows)) ((((0:Int)≤a)∧a<(rlen rows))∧∃s,(rget rows a=[S s])∧Cl prog f sP ((S s)::d) (λe=>∃b,(e=[B b])∧ifB b (Q [I a]) (((Option.some []:Option (LL))=Option.some [])∧(c x (wadd .i64 a 1))∧Nat.le (Nat.succ (m x (wadd .i64 a 1))) (m x a)))) (Q [I ((-1:Int))])):Ct prog 234 {} [SL 1 rows,.clo f d] Q:=
 fN SgT SvT func234 h
theorem contS_nf{rows:LL}{f:FuncId}{a:List SV}{Q:QQ}(h:Cl prog 234 sP [SL 1 rows,SV.clo f a] (λb=>∃x,(b=[I x])∧Q [B (ige x 0)])):Ct prog 157 {} [SL 1 rows,.clo f a] Q:=
 fN SgT SvT func157 h
theorem nright_nf{rows:LL}{Q:QQ}(h:ifB (igt (rlen rows) 32) (Q [B false]) (Cl prog 326 sO [SL 1 rows] (λd=>∃a:List (Prod ByteArray Int),(d=[SV.mapv a])∧ifB (bpick false true (ilt (mlen a) (rlen rows))) (Q [B false]) (Cl prog 157 sP ([SL 1 rows,SV.clo 328 []]) (λc=>∃b,(c=[B b])∧Q [B (bnot b)]))))):Ct prog 275 {} [SL 1 rows] Q:=
 fN SgT SvT func275 h
theorem nput_nf{rows:LL}{t:ByteArray}{Q:QQ}(h:Cl prog 275 sP [SL 1 rows] (λg=>∃b,(g=[B b])∧ifB (bnot b) (Q [SL 1 rows,I 1]) (Cl prog 165 sP [S t] (λa=>∃e,(a=[B e])∧ifB (bnot e) (Q [SL 1 rows,I 3]) (Cl prog 269 sP [SL 1 rows,S t] (λc=>∃x,(c=[I x])∧ifB (igt x 0) (Q [SL 1 rows,I 7]) (ifB (ieq (rlen rows) 32) (Q [SL 1 rows,I 9]) (Cl prog 327 sO [SL 1 rows] (λd=>∃l,(d=[SL 1 l])∧((lsum (rlen l) (rlen ([[S t]])))≤2147483648)∧Q ([SL 1 (rapp l ([[S t]])),I 0])))))))))):Ct prog 270 {} [SL 1 rows,S t] Q:=
 fN SgT SvT func270 h
theorem nat_nf{rows:LL}{p:Int}{Q:QQ}(h:ifB (bpick (ilt p 1) true (igt p (rlen rows))) (Q ([S (bA []),I 14])) ((((0:Int)≤(wsub .i64 p 1))∧(wsub .i64 p 1)<(rlen rows))∧∃s,(rget rows (wsub .i64 p 1)=[S s])∧Q [S s,I 0])):Ct prog 376 {} [SL 1 rows,I p] Q:=
 fN SgT SvT func376 h
theorem rsame_nf{rows:LL}{a:LL}{Q:QQ}(h:ifB (ine (rlen rows) (rlen a)) (Q [B false]) (∃c:Bool→Int→Prop,∃m:Bool→Int→Nat,(c false 0)∧∀b x,(c b x)→ifB (ilt x (rlen rows)) ((((0:Int)≤x)∧x<(rlen rows))∧∃s,(rget rows x=[S s])∧(((0:Int)≤x)∧x<(rlen a))∧∃d,(rget a x=[S d])∧ifB (sne s d) (Q [B false]) (((Option.some []:Option (LL))=Option.some [])∧(c b (wadd .i64 x 1))∧Nat.le (Nat.succ (m b (wadd .i64 x 1))) (m b x))) (Q [B true]))):Ct prog 119 {} [SL 1 rows,SL 1 a] Q:=
 fN SgT SvT func119 h
theorem clip_nf{rows:LL}{Q:QQ}(h:(((0:Int)≤0)∧((0:Int)≤(rlen rows))∧(rlen rows=rlen rows)∧(rlen rows)≤(rlen rows))∧Q [SL 1 (rsub rows 0 (rlen rows))]):Ct prog 268 {} [SL 1 rows] Q:=
 fN SgT SvT func268 h
theorem cright_nf{a c:Int}{d:LL}{Q:QQ}(h:ifB (bpick (bpick (bpick (ige a 0) (ile a 4294967296) false) (ige c 0) false) (ile c 1099511627776) false) (Cl prog 275 sP [SL 1 d] (λe=>∃b,(e=[B b])∧Q [B (bpick true b false)])) (Q [B false])):Ct prog 203 {} [cx3 a c d] Q:=
 fN SgT SvT func203 h
theorem csame_nf{e g:Int}{i:LL}{a c:Int}{d:LL}{Q:QQ}(h:ifB (bpick (ieq e a) (ieq g c) false) (Cl prog 119 sP [SL 1 i,SL 1 d] (λj=>∃b,(j=[B b])∧Q [B (bpick true b false)])) (Q [B false])):Ct prog 56 {} [cx3 e g i,cx3 a c d] Q:=
 fN SgT SvT func56 h

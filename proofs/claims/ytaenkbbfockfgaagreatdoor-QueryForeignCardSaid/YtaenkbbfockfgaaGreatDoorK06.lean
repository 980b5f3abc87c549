import Derived.Test.YtaenkbbfockfgaaGreatDoorK05
import Derived.Test.YtaenkbbfockfgaaGreatDoorProg
set_option linter.all false
set_option maxRecDepth 100000
variable{b c i j k z:Int}{m n:Nat}{l:Go.Px.LL}{Q:Go.Px.QQ}{s t:BA}{O o:Bool}{v:Go.Value}{T:Go.TypeId}{C:List Go.Px.SV}{N:List BA}
namespace Go.Px
open Go Go.RowKit
set_option maxHeartbeats 1000000
section
variable{P:Program}{X:Cx}
def Zta{b:LoopSpec}{wr:List Nat}{c hd:St}(e:b.slots=[])(a:Zgu b wr c C=some hd):hd.tmps=Zan wr (Zad b) 0 c.tmps:=by
 unfold Zgu at a;rw[e]at a;simp only[Zi4]at a
 split at a
 .split at a
  .cases a;rfl
  .cases a
 .cases a
def Zne(X:Cx)(b:LoopSpec)(wr:List Nat)(f:St)(a:Act)(I:ITy (Za0 b) Prop)(W:World):Prop:=
 ∃c g h i d e,FitsAt X h i c g W/\Fr wr a g/\Zd6 b c=some (d,e)/\headOK b wr e=true/\Zar (Zan wr (Zad b) 0 f.tmps) c.tmps=true/\
  Zal (Zad b) c.objs b.fixed=Zal (Zad b) f.objs b.fixed/\Zbs (Za0 b) I d (λp=>p)
def Zne.made{b:LoopSpec}{wr:List Nat}{d:St}{a:Act}{I:ITy (Za0 b) Prop}{W e:World}(A:Zne X b wr d a I W)(i:Keeps (λ_=>False) W e):Zne X b wr d a I e:=by
 obtain⟨f,j,h,k,c,g,F,r⟩:=A;exact⟨f,j,h,k,c,g,F.made i,r⟩
def rec_none{h:Hp}{W:World}{o:Obj}(a:HSub h W)(b:W.heap[n]?=some o)(c:isRec o=true):∀x,h n x=none:=by
 intro x
 cases e:h n x with
 |none=>rfl
 |some v=>
  have:=a _ _ _ e
  cases o<;>simp[isRec]at c<;>simp[World.cell?,b]at this
def Zpb{h:Hp}{d:Nat->Loc}{f:St}{a:Act}{W:World}{l:Nat}{o:Obj}(F:FitsAt X h d f a W)(b:W.heap[l]?=some o)(c:isRec o=true):∀i,live f.objs d i->(d i).blk≠l:=by
 rintro i ⟨⟨ob,e⟩,hn⟩ rfl;have k:=F.obj i ob e
 cases ob with
 |box cells=>obtain⟨_,⟨g,t,e,_⟩,_⟩:=k;rw[b]at e;cases e;simp[isRec]at c
 |own r rows=>
  rcases k with⟨j,_⟩|⟨_,k⟩
  .rw[j]at hn;cases hn
  .obtain⟨g,t,p,e,_⟩:=k.hblk;rw[b]at e;cases e;simp[isRec]at c
 |mp s=>obtain⟨_,⟨n,q,e,_⟩,_⟩:=k;rw[b]at e;cases e;simp[isRec]at c
 |arr u m v=>obtain⟨_,⟨g,t,e,_⟩,_⟩:=k;rw[b]at e;cases e;simp[isRec]at c
def FitsAt.putRec{h:Hp}{c:Nat->Loc}{d:St}{a:Act}{W:World}{o:Obj}(g:Obj)(F:FitsAt X h c d a W)(i:X.w.heap.size<=n)(e:W.heap[n]?=some o)(f:isRec o=true):FitsAt X h c d a (W.putObj n g):=
 F.touch n (Zpb F e f) (rec_none F.sub e f) (.inl i) (λk b=>World.putObj_heap_other b) ⟨rfl,rfl,rfl,Vs,λk _ b=>World.putObj_heap_other b⟩
def FitsAt.restand0{h:Hp}{b:Nat->Loc}{c:St}{a:Act}{w:World}(F:FitsAt X h b c a w)(d:X.df=[]):FitsAt {w:=w,h:=h,G:=Gv c.objs b,pin:=X.pin,df:=[]} h b c a w:=by
 have e:{a with defers:=[]}=a:=by
  have:=F.df.trans d
  cases a;cases this;rfl
 have:=F.restand [];rw[e]at this;exact this
def Znf{h:Hp}{c:Nat->Loc}{d:St}{a:Act}{W f:World}(B:Nat)(F:FitsAt X h c d a W)(g:Keeps (Gv d.objs c) W f):Ztj B W f:=by
 refine⟨g.size,λk o _ b j=>?_⟩;rw[g.block k (Y3.1 b).1 (λl=>?_)]
 .exact b
 .obtain⟨i,m,e⟩:=l;exact Zpb F b j i m e
def Zh8(wr a:List Nat):∀(l:List SV) (t:Nat),Zar (Zan wr a t l) l=true
 | [],t=>rfl
 |c::cs,t=>by
  simp only[Zan,Zar,Zh8 wr a cs,Bool.and_true]
  cases hh:hasN wr t with
  |true=>rfl
  |false=>
   simp only[cond_false]
   rcases Zbd a c with e|⟨e,_⟩
   .rw[e];cases c<;>rfl
   .rw[e];cases c<;>simp[keptV]
def Zv7{y:Hp}{j:Nat->Loc}{i:St}{n:Act}{w0 W:World}(z:FitsAt X y j i n w0)(V:X.h=y){a:LoopSpec}{wr:List Nat}(F:a.slots=[])(G:(Zal (Zad a) i.objs a.fixed).isSome=true)
  {I:ITy (Za0 a) Prop} {m:ITy (Za0 a) Nat} {K:St->Prop} (A:Zne X a wr i n I W)
  (Y:allI (Za0 a) I m λZ _=>match Zgu a wr i Z with|none=>False|some hd=>K hd):
  ∃hd h J,FitsAt X h J hd n W/\K hd/\hd.tmps=Zan wr (Zad a) 0 i.tmps:=by
 obtain⟨L,a1,h,J,a2,a3,C,u,hh,D,o,M,hi⟩:=A;obtain⟨a4,k,hn,E,hm⟩:=Zj7 _ I m _ _ Y hi
 split at E
 .exact E.elim
 .rename_i hd q;obtain⟨N,g2⟩:=Zd3 _ _ o;obtain⟨O,Q⟩:=Zbx wr (Zad a) i.tmps 0
  obtain⟨R,T⟩:=Zl3 C hh D hn (λt s g=>by
   obtain⟨c,U,f⟩:=Q t s g
   rcases f with rfl|⟨hnw,rfl⟩
   .exact .pure _ _ (.unk _)
   .rw[Yj]at hnw
    rcases Zbd (Zad a) c with e|⟨e,hcs⟩
    .rw[e];exact .pure _ _ (.unk _)
    .have v:t<L.tmps.length:=(by rw[N];exact(Y0.1 g).1);have w:=g2 t _ _ g (List.getElem?_eq_getElem v);rw[e]at w|-
     rcases hcs with hp|hcs
     .rw[u t hnw];have p:=z.tm t c U;have hr:Rep y j (n.tmps.getD t undef) c:=p.out (λH b x d=>by subst d;simp[Zas]at hp);exact .pure _ _ ((hr.toPure hp).mono (V▸C.mono))
     .have he:=Zpf w (by
       rcases hcs with⟨id,off,e,_⟩|⟨id,e,_⟩|⟨id,e,_⟩
       .exact .inl ⟨id,off,e⟩
       .exact .inr (.inl ⟨id,e⟩)
       .exact .inr (.inr ⟨id,e⟩))
      have p:=C.tm t _ (List.getElem?_eq_getElem v);rw[he]at p
      exact p.out (λH b x d=>by rcases hcs with⟨id,off,e,_⟩|⟨id,e,_⟩|⟨id,e,_⟩<;>rw[e]at d<;>cases d)) (by rw[N,O]) G M q
  have l:=Zta F q;refine⟨hd,h,R,{T with size:=?_,tm:=λt s g=>?_,df:=z.df},E,l⟩
  .rw[l,O];exact z.size
  .have r:=T.tm t s g;rw[l]at g;obtain⟨c,U,f⟩:=Q t s g
   rcases f with rfl|⟨hnw,rfl⟩
   .exact TRep.rep_unk _ _
   .rw[Yj]at hnw;rw[u t hnw]at r;refine TRep.of_rep' (r.out (λH b x d=>?_))
    rcases Zbd (Zad a) c with e|⟨e,hcs⟩
    .rw[e]at d;cases d
    .rw[e]at d;subst d
     rcases hcs with hp|⟨_,_,e,_⟩|⟨_,e,_⟩|⟨_,e,_⟩
     .simp[Zas]at hp
     all_goals cases e
def elOf(P:Program)(e:TypeId)(z:Nat):(Nat->Value)->Value:=bif Za2 P e then λc=>.agg ((List.range z).map c).toArray else λc=>c 0
def elOf_rep{h:Hp}{c:Nat->Value}(a:C.length=n)(b:Za2 P T=true\/n=1)(d:∀(j:Nat) s,C[j]?=some s->PRep h (c j) s):PRep h (elOf P T n c) (rowD (Za2 P T) C):=by
 unfold elOf rowD
 cases hag:Za2 P T with
 |true=>simp only[cond_true];refine .agg _ _ (by simp[a]) (λi v s f k=>?_);simp only[Yy,Yv,Yp]at f;obtain⟨j,l,rfl⟩:=f;obtain⟨_,T⟩:=Y0.1 l;rw[WG]at T;subst T;exact d _ s k
 |false=>
  simp only[cond_false];rw[hag]at b;have g:n=1:=b.resolve_left Vs;subst g
  match C,a with
  | [s],_=>exact d 0 s rfl
def Ztb{b:LoopSpec}{wr:List Nat}{e a:St}{i f:Act}{W:World}{h:Hp}{j:Nat->Loc}{I:ITy (Za0 b) Prop}(F:FitsAt X h j a f W)(k:Fr wr i f)(c:backAt b wr e I a):Zne X b wr e i I W:=by
 unfold backAt at c;obtain⟨m,_,n⟩:=F.frzAll (Zak a b)
 split at c
 .exact c.elim
 next g d l=>
  cases hc:(headOK b wr d&&Zar (Zan wr (Zad b) 0 e.tmps) (St.frzAll (Zak a b) a).tmps)with
  |false=>simp only[hc,cond_false]at c
  |true=>simp only[hc,cond_true]at c;simp only[Bool.and_eq_true]at hc;exact⟨_,f,m,j,g,d,n,k,l,hc.1,hc.2,c.1,c.2⟩
def clo_slice{h:Hp}{f:FuncId}{rows:LL}{tok:Nat}(r:PRep h v (.clo f [.ref 0 [.slice n rows tok]])):
  ∃(m g:Nat) (p:Option Addr) (b off a:Nat) (d:Nat->Nat->Value),v= .func (.func f) #[] #[.pointer (some ⟨m,g,none⟩)]/\h m g=some (.slice p rows.length a)/\(0<rows.length->p=some ⟨b,off,none⟩)/\
   (∀(i:Nat) r,rows[i]?=some r->r.length=n)/\
   ∀(i:Nat) r (j:Nat) c,rows[i]?=some r->r[j]?=some c->h b (off+i*n+j)=some (d i j)/\PRep h (d i j) c:=by
 cases r with
 |clo _ d _ t D=>
  simp at t
  obtain⟨u,rfl⟩:∃u,d= #[u]:=by
   rcases d with⟨l⟩
   match l,t with
   | [u],_=>exact⟨u,rfl⟩
  have C:=D 0 u _ Vs (by simp;rfl)
  cases C with
  |ref w e _ _ d E F=>
   have k:=E 0 _ (by simp;rfl);have s:=F 0 _ (by simp;rfl);generalize d 0=u at k s
   cases s with
   |empty p a=>exact⟨w,e+0,p,0,0,a,λ_ _=>undef,rfl,by simpa using k,λh=>absurd h Vs,λi r h=>(by simp at h),λi r j c h=>(by simp at h)⟩
   |slice b off a _ _ _ x A G y z=>exact⟨w,e+0,_,b,off,a,x,rfl,by simpa using k,λ_=>rfl,G,λi r j c o q=>⟨y i r j c o q,z i r j c o q⟩⟩
def vcI_sound(Sg:FuncId->Sig)(Sv:TypeId->Sig){ac:FuncId}(an:∀z,szT P T=some z->Zl7 P ac (elOf P T z) z){H:LoopSpec}{g:Operand}{ps:Array Tmp}{d m:Code}
  {ao:Hp} {M:Nat->Loc} {E:St} {a:Act} {w:World} (ap:FitsAt X ao M E a w) {K:St->Prop} (n:vcI P Sg Sv ac T H g ps d m E K) {Q:Exit->Act->World->Prop}
  (hQ:∀(D:Nat) (ad:St) (W:World),w.heap.size<=D->Fits X ad a W->K ad->W.heap[D]?=some (.deferred (some []))->Q .normal {a with defers:={target:=.collected D,args:=#[]}::a.defers} W):
  (Code.rangeFunc g ps d m).wpIn Fence.wide 3 P Q a w:=by
 unfold vcI vcI1 at n;obtain⟨h0,_,J⟩:=ap.frzAll (Zak E H);generalize St.frzAll (Zak E H) E=st at n J;generalize hwr:ps.toList++(Zag d++Zag m)=wr at n;simp only[]at n
 split at n
 next f cl p q hg ae af=>
  split at n
  next O R hh=>
   split at n
   next z hz=>
    cases G:((Za2 P T||Nat.beq z 1)&&rndOK d&&rndOK m&&!(Nat.beq p q)&&Nat.blt p (lenN st.tmps)&&Nat.blt q (lenN st.tmps)&&headOK H wr R&&(Zal (Zad H) st.objs H.fixed).isSome)with
    |false=>simp only[G,cond_false]at n
    |true=>
     simp only[G,cond_true]at n;simp only[Bool.and_eq_true,Bool.or_eq_true,Yk]at G;obtain⟨⟨⟨⟨⟨⟨⟨c2,c3⟩,c4⟩,c5⟩,c6⟩,c7⟩,c8⟩,c9⟩:=G;have c2:Za2 P T=true\/z=1:=c2.imp id Nat.eq_of_beq_eq_true;have c5:p≠q:=λT=>by subst T;simp at c5
     have c6:p<st.tmps.length:=(by have:=c6;rw[Zax]at this;simpa[Nat.blt_eq]using this);have c7:q<st.tmps.length:=(by have:=c7;rw[Zax]at this;simpa[Nat.blt_eq]using this);obtain⟨rows,rfl,rfl,al,I,av,a4,a9⟩:=n;obtain⟨bf⟩:=ps;simp only at ae;subst ae;have az:p∈wr:=(by rw[<-hwr];simp);have b0:q∈wr:=(by rw[<-hwr];simp);have b1:∀t,t∈Zag d->t∈wr:=λt ht=>by rw[<-hwr];simp[ht]
     have b2:∀t,t∈Zag m->t∈wr:=λt ht=>by rw[<-hwr];simp[ht]
     have rg:=J.operand [] Vs g;rw[hg]at rg;obtain⟨Bs,bo,pp,b,off,cap,ce,eg,ag,aw,a5,ah⟩:=clo_slice (rg.toPure (by rfl))
     let a0:Act:={a with defers:=[]}
     let Y:Cx:={X with h:=h0,df:=[]}
     have FY:FitsAt Y h0 M st a0 w:={J.rebase with df:=rfl}
     have bg:Y.w.heap.size<=w.heap.size:=FY.kp.size;have be:(rlen rows).toNat=rows.length:=(by simp[rlen]);have a6:rlen rows=(rows.length:Int):=rfl
     refine rf_law (f:=f) (el:=elOf P T z) (sz:=z) (Bs:=Bs) (bo:=bo) (an z hz) eg rfl (p:=pp) (b:=b) (off:=off) (len:=rows.length) (cap:=cap) (ce:=ce) aw (by rw[a6]at al;omega)
      (λW W'=>∀b o v,h0 b o=some v->W.cell? ⟨b,o,none⟩=some v->W'.cell? ⟨b,o,none⟩=some v) (λ_ _ _ _ _ h=>h) (λx y b o v T h=>y b o v T (x b o v T h)) ?_ ?_
      (λW' k=>k _ _ _ ag (J.sub _ _ _ ag)) ?_ (λk W=>Zne Y H wr st a0 (I (k:Int)) W) ?_ ?_ ?_ ?_ ?_
     .intro W l o o' hl ho b o2 v _ G
      have b4:b≠l:=by
       rintro rfl
       cases o<;>simp[isRec]at ho<;>simp[World.cell?,hl]at G
      rw[World.cell?_of_block (w:=W) (World.putObj_heap_other b4)];exact G
     .intro W o b o2 v _ G;have L:b<W.heap.size:=(by refine Classical.byContradiction λhn=>?_;have:W.heap[b]?=none:=YB Vo;simp[World.cell?,this]at G);rw[World.cell?_of_block (w:=W) (Below.heap_alloc _ _ _ L)];exact G
     .intro j hj i hi W' k;obtain⟨N,_⟩:=ah j rows[j] i (rows[j][i]'(by rw[a5 j _ (List.getElem?_eq_getElem hj)];exact hi)) (List.getElem?_eq_getElem hj) (List.getElem?_eq_getElem _);exact k _ _ _ N (J.sub _ _ _ N)
     .intro k W o A;exact A.made ⟨rfl,rfl,rfl,Vs,λk hk _=>Below.heap_alloc _ _ _ hk⟩
     .rintro k W l o o' hl ⟨e,a1,h,ρ,O,R,F,r⟩ ho a3;exact⟨e,a1,h,ρ,O,R,F.putRec o' Vo ho a3,r⟩
     .exact⟨st,a0,h0,M,O,R,FY,Fr.refl _ _,hh,c8,Zh8 _ _ _ _,rfl,av⟩
     .intro l k W hl A hk;obtain⟨hd,h,ρ,F,ax,ai⟩:=Zv7 FY rfl af c9 A (a4 k Vo (by rw[a6];omega));obtain⟨cs,_,am,ay⟩:=Zeu _ _ _ ax;have aj:kdn (rlen rows) k=(rows.length:Int)-1-k:=by rw[a6];rfl
      have hj:rows.length-1-k<rows.length:=Vo;have U:rows[rows.length-1-k]?=some cs:=(by have T:(kdn (rlen rows) k).toNat=rows.length-1-k:=(by rw[aj];omega);rw[<-am];unfold rget;rw[T,List.getElem?_eq_getElem hj];simp[hj]);have b6:PRep h0 (elOf P T z (ce (rows.length-1-k))) (rowD (Za2 P T) cs):=elOf_rep (a5 _ _ U) c2 (λj s u=>(ah _ _ j s U u).2);have ak:=Zbx wr (Zad H) st.tmps 0;have L:hd.tmps.length=st.tmps.length:=(by rw[ai,ak.1]);have a7:a.tmps.size=st.tmps.length:=J.size;have b7:p<a.tmps.size:=(by rw[a7];exact c6);have b8:q<a.tmps.size:=(by rw[a7];exact c7);have b9:p<hd.tmps.length:=(by rw[L];exact c6);have ba:q<hd.tmps.length:=by rw[L];exact c7
      let C:Act:={tmps:=(a.tmps.setIfInBounds p (.int .i64 ((rows.length:Int)-1-k))).setIfInBounds q (elOf P T z (ce (rows.length-1-k))),defers:=[]}
      let V:St:={hd with tmps:=lset (lset hd.tmps p (.val (.int .i64 (kdn (rlen rows) k)))) q (rowD (Za2 P T) cs)}
      have a8:∀t,t≠p->t≠q->C.tmps.getD t undef=a.tmps.getD t undef:=λt N h2=>by simp only[C,Array.getD_eq_getD_getElem?];rw[Yi (YN h2),Yi (YN N)]
      have bb:C.tmps.getD p undef= .int .i64 (kdn (rlen rows) k):=(by simp only[C,Array.getD_eq_getD_getElem?];rw[Yi (YN c5),YZ b7,aj];rfl);have bc:C.tmps.getD q undef=elOf P T z (ce (rows.length-1-k)):=by simp only[C,Array.getD_eq_getD_getElem?];rw[YZ (by simpa using b8)];rfl
      have Z:FitsAt Y h ρ V C W:={F with
       size:=by simp[C,V,Zec,L,a7]
       df:=rfl
       tm:=λt s u=>by
        simp only[V,Zec]at u;by_cases hq:t=q
        .subst hq;rw[WX (by simpa using ba)]at u
         cases u
         rw[bc];exact TRep.of_rep' (.pure _ _ (b6.mono F.mono))
        .rw[Y04 (YN hq)]at u;by_cases hp:t=p
         .subst hp;rw[WX b9]at u
          cases u
          rw[bb];exact TRep.of_rep' (.pure _ _ (.val _))
         .rw[Y04 (YN hp)]at u;rw[a8 t hp hq];have r:=F.tm t s u;rw[ai]at u;obtain⟨c,G,aa⟩:=ak.2 t s u;refine TRep.of_rep' (r.out (λt' b x e'=>?_))
          rcases aa with e2|⟨_,e2⟩
          .rw[e2]at e';cases e'
          .rcases Zbd (Zad H) c with T|⟨T,U⟩
           .rw[e2,T]at e';cases e'
           .rw[e2,T]at e';subst e'
            rcases U with hp|⟨_,_,T,_⟩|⟨_,T,_⟩|⟨_,T,_⟩
            .simp[Zas]at hp
            all_goals cases T}
      have bd:Fr wr a0 C:=λt ht=>a8 t (λT=>ht (T▸az)) (λT=>ht (T▸b0));have ab:((⟨[p,q]⟩:Array Tmp).zip #[Value.int .i64 ((rows.length:Int)-1-k),elOf P T z (ce (rows.length-1-k))]).foldl (λt (p,v)=>t.setIfInBounds p v) a.tmps=C.tmps:=(by simp[C]);show d.wpIn _ _ _ _ {tmps:=_,defers:=[]} W;rw[ab];refine Zms l 1 Sg Sv (λ_=>none) (λ_=>rfl) (λ_=>rfl) d c3 _ V C W _ _ ?_ ⟨h,ρ,Z.restand0 rfl⟩ ay;rintro ex e a1 W1 ⟨N,ρ1,F1⟩ hf1 he
      cases ex with
      |exit id=>exact he.elim
      |ret=>exact he.elim
      |normal=>
       have G1:FitsAt Y N ρ1 e a1 W1:=Z.based F1;refine⟨Znf _ Z F1.kp,λb o v T _=>F1.sub _ _ _ (F1.mono _ _ _ (Z.mono _ _ _ T)),λo o' ho a3=>?_⟩;have G2:=G1.putRec o' Vo ho a3;refine Zms l 1 Sg Sv (λ_=>none) (λ_=>rfl) (λ_=>rfl) m c4 _ e a1 _ _ _ ?_ ⟨N,ρ1,G2.restand0 rfl⟩ he;rintro ex aq a2 W2 ⟨h2,ρ2,F2⟩ hf2 he2
       cases ex with
       |exit id=>exact he2.elim
       |ret=>exact he2.elim
       |normal=>have G3:FitsAt Y h2 ρ2 aq a2 W2:=G2.based F2;exact⟨Znf _ G2 F2.kp,λb o v T _=>F2.sub _ _ _ (F2.mono _ _ _ (G2.mono _ _ _ T)),Ztb G3 (bd.trans ((hf1.mono b1).trans (hf2.mono b2))) he2⟩
     .intro D W hD A au;obtain⟨hd,h,ρ,F,hk,_⟩:=Zv7 FY rfl af c9 A a9;refine hQ D hd W hD ⟨h,ρ,J.unbase (a:=a) {F with df:=J.df}⟩ hk au
   .exact n.elim
  .exact n.elim
 .exact n.elim
end
end Go.Px
namespace Go.Px
open Go Go.RowKit
def mkD(D:Nat):Deferred:={target:=.collected D,args:=#[]}
def MFits(X:Cx)(c:St)(a:Act)(w:World):Prop:=
 ∃b:List Nat,b.Nodup/\(∀D∈b,w.heap[D]?=some (.deferred (some []))/\X.w.heap.size<=D)/\Fits {X with df:=b.map mkD++X.df} c a w
section
variable{P:Program}
def FitsAt.restand'{X:Cx}{h:Hp}{b:Nat->Loc}{c:St}{a:Act}{w:World}(F:FitsAt X h b c a w):FitsAt {w:=w,h:=h,G:=Gv c.objs b,pin:=X.pin,df:=X.df} h b c a w:=by
 have e:{a with defers:=X.df}=a:=by
  have:=F.df
  cases a;cases this;rfl
 have:=F.restand X.df;rw[e]at this;exact this
def Zmu{X:Cx}{h:Hp}{c:Nat->Loc}{d:St}{a:Act}{w f:World}(F:FitsAt X h c d a w)(g:Keeps (Gv d.objs c) w f)(b:w.heap[n]?=some (.deferred (some []))):f.heap[n]?=some (.deferred (some [])):=by
 rw[g.block n (Y3.1 b).1 (λ⟨i,j,e⟩=>Zpb F b rfl i j e)];exact b
def vcR_vc(f:FuncId->Sig)(g:TypeId->Sig)(L:Nat->Option LoopSpec)(c:Code)(X:Cx)(b:St)(a:Act)(w:World)(d:Ex->St->Prop)(Q:Exit->Act->World->Prop)
  (l:∀e b i w,MFits X b i w->d e b->Q e.to i w) (F:MFits X b a w) (m:vc P f g L c b d):c.wp P Q a w:=by
 obtain⟨o,p,k,h,q,F⟩:=F;refine Zhg f g L c _ b a w d Q ?_ ⟨h,q,F.restand'⟩ m;rintro e j n w1 ⟨h1,ρ1,F1⟩ _ he;have G:=F.based F1;exact l e j n w1 ⟨o,p,λD hd=>⟨Zmu F F1.kp (k D hd).1,(k D hd).2⟩,h1,ρ1,G⟩ he
def vcR_sound(t:FuncId->Sig)(u:TypeId->Sig)(L:Nat->Option LoopSpec){H:Nat->Option (FuncId×TypeId)}(J:∀p f e z,H p=some (f,e)->szT P e=some z->Zl7 P f (elOf P e z) z):
  ∀(c:Code) (X:Cx) (k:St) (a:Act) (w:World) (o:Ex->St->Prop) (Q:Exit->Act->World->Prop),
  (∀e k K w,MFits X k K w->o e k->Q e.to K w)->MFits X k a w->vcR P t u L H c k o->c.wp P Q a w:=by
 intro c
 induction c with
 |seq x y R T=>
  intro X k a w o Q l F d;unfold vcR at d
  cases hb:(hasRF x||hasRF y)with
  |false=>simp only[hb,cond_false]at d;exact vcR_vc t u L _ X k a w o Q l F d
  |true=>
   simp only[hb,cond_true]at d;refine wp_seq (R X k a w _ _ ?_ F d);intro e j r w1 m q
   cases e with
   |normal=>exact T X j r w1 o Q l m q
   |exit id=>exact l (.exit id) j r w1 m q
   |ret=>exact l .ret j r w1 m q
 |block id b Z=>
  intro X k a w o Q l F d;unfold vcR at d
  cases hb:hasRF b with
  |false=>simp only[hb,cond_false]at d;exact vcR_vc t u L _ X k a w o Q l F d
  |true=>
   simp only[hb,cond_true]at d;refine wp_block (Z X k a w _ _ ?_ F d);intro e j r w1 m q
   cases e with
   |normal=>exact l .normal j r w1 m q
   |exit i=>
    simp only[Ex.to,Exit.inBlock];by_cases hi:i=id
    .subst hi;simp only[Y8,cond_true]at q;rw[if_pos rfl];exact l .normal j r w1 m q
    .simp only[Zaj hi,cond_false]at q;rw[if_neg hi];exact l (.exit i) j r w1 m q
   |ret=>exact l .ret j r w1 m q
 |rangeFunc g ps U a0=>
  intro X k a w o Q l F d;unfold vcR at d
  split at d
  .rename_i sp M e _ A;obtain⟨N,Y,C,h,ρ,F⟩:=F;refine(wpIn_wide (n:=3)).1 (vcI_sound t u (λz V=>J _ M e z A V) F.restand' d ?_);rintro D j w1 v ⟨h1,ρ1,m⟩ hk hDd;have G:=F.based m;have O:∀E∈N,E<w.heap.size:=λE s=>(Y3.1 (C E s).1).1;refine l .normal j _ w1 ⟨D::N,Yo.2 ⟨λW=>Nat.lt_irrefl _ (Nat.lt_of_lt_of_le (O D W) v),Y⟩,λE s=>?_,h1,ρ1,{G with df:=?_}⟩ hk
   .rcases List.mem_cons.1 s with rfl|s
    .exact⟨hDd,Nat.le_trans F.kp.size v⟩
    .exact⟨Zmu F m.kp (C E s).1,(C E s).2⟩
   .have:=G.df;simp only[List.map_cons,Y2];exact congrArg (mkD D::·) this
  .exact d.elim
 |_=>intro X k a w o Q l F d;exact vcR_vc t u L _ X k a w o Q l F (by simpa only[vcR]using d)
def Zjd{X:Cx}{h:Hp}{e:Nat->Loc}{f:St}{a:Act}{g:Func}{R:Ending->World->Prop}(c:∀w,FitsAt X h e f a w->∃v,(results g a.tmps).run P w= .ok v w/\R (.returned v) w):
  ∀(b:List Nat) (w:World),b.Nodup->(∀D∈b,w.heap[D]?=some (.deferred (some []))/\X.w.heap.size<=D)->FitsAt X h e f a w->LeavesInM Fence.wide 3 P g a.tmps R (b.map mkD) .returning w
 | [],w,_,_,F=>c w F
 |D::b,w,hn,hD,F=>by obtain⟨i,l⟩:=hD D Vs;obtain⟨j,k⟩:=Yo.1 hn;exact⟨Vs,.inl ⟨D,_,rfl,run_takeDeferred i,Zjd c b _ k (λE d=>⟨(World.putObj_heap_other (by rintro rfl;exact j d)).trans (hD E (by simp[d])).1,(hD E (by simp[d])).2⟩) (F.putRec _ l i rfl)⟩⟩
open Classical in
def fnR_of{P:Program}(O:FuncId->Sig)(R:TypeId->Sig)(L:Nat->Option LoopSpec){T:Nat->Option (FuncId×TypeId)}(U:∀p f e z,T p=some (f,e)->szT P e=some z->Zl7 P f (elOf P e z) z)
  {f:FuncId} {k:Sig} {m:List SV} {Q:List SV->Prop} {Y:Prop} (d:Func) (V:P.funcs[f]?=some d) (j:(d.name== "runtime.NumGoroutine")=false)
  (e:Y=vcFR P O R L T d k m Q) (hY:Y):Ct P f k m Q:=by
 have A:=e.mp hY;unfold vcFR at A
 split at A
 next c Z=>
  have j:d.name≠ "runtime.NumGoroutine" :=by intro e;rw[e]at j;simp at j
  refine⟨⟨d,V,by rw[Z];rfl,j⟩,λq g D h u w r E J x=>?_⟩;refine(callsIn_wide (n:=3)).1 (callsIn_of_wp_marks V Z trivial ((wpIn_wide).2 ?_) rfl);have hst:start d k m={tmps:=q++List.replicate (d.ntmps-q.length) .unk,objs:=g}:=(by simp only[start,D]);rw[hst]at A;have C:r.size=q.length:=by have:=x.1;simpa using this
  let X:Cx:={w:=w,h:=h,G:=Gv g u,pin:=λid=>if(∃i W,k.ps[i]?=some (.lend W)/\id=pId i)\/id∈Zb1 0 k.ps then some (u id)else none}
  have F:FitsAt X h u {tmps:=q++List.replicate (d.ntmps-q.length) .unk,objs:=g} {tmps:=r++Array.replicate (d.ntmps-r.size) undef,defers:=[]} w:=by
   refine⟨by simp[C],λt s b=>?_,rfl,E.sub,λid o ho=>E.obj id o (Zb6 ho),E.inj,λi hi=>.inr ⟨i,hi,rfl⟩,HLe.refl _,λ_ _ _ _ e=>e,Keeps.refl _ _,λid l y=>?_,J,J.off (λi ⟨⟨o,e⟩,N⟩=>ObOK.hnone (E.obj i o (Zb6 e)) N)⟩
   .simp only[]at b;rw[List.getElem?_append]at b;by_cases ht:t<q.length
    .rw[if_pos ht]at b;have a4:(r++Array.replicate (d.ntmps-r.size) undef).getD t undef=r[t]'Vo:=(by simp[YU,C,ht]);simp only[a4];exact TRep.of_rep' (x.2 t _ s Vs b)
    .rw[if_neg ht]at b;rw[List.getElem?_replicate]at b
     split at b
     .cases b;exact TRep.rep_unk _ _
     .cases b
   .simp only[X]at y
    split at y
    next hx=>
     rcases hx with⟨i,W,_,rfl⟩|hx
     .cases y
      exact⟨rfl,Zny i⟩
     .cases y
      exact⟨rfl,Zkg hx⟩
    .cases y
  refine vcR_sound O R L U c X _ _ _ _ _ ?_ ⟨[],Y00,λ_ h=>(by simp at h),h,u,F⟩ A;intro e st a w' hM M
  have K:Zjr d.results.toList st (finC P d k Q)->LeavesInM Fence.wide 3 P d a.tmps (Back k g h u w Q) a.defers .returning w':=by
   intro a0;obtain⟨H,N,hD,h1,a1,F1⟩:=hM;have a5:a.defers=H.map mkD:=by have:=F1.df;simpa[X]using this
   rw[a5];refine Zjd (X:={X with df:=H.map mkD++X.df}) (λw2 F2=>?_) H w' N hD F1;obtain⟨a6,a2,a3⟩:=Zb8 _ ⟨h1,a1,F2⟩ a0;obtain⟨_,v,q2,q3⟩:=Ztd (ds:=H.map mkD) (by simpa[X]using a2) a3;exact⟨v,q2,q3⟩
  cases e with
  |normal=>exact K M
  |ret=>exact K M
  |exit id=>exact M.elim
 .exact A.elim
end
end Go.Px
namespace Go.Px
open Go Go.RowKit
theorem Znw{h:Hp}{d:Nat->Loc}:∀(c b:List Value),Zrf h d c (b.map SV.val)->c=b
 | [],[],_=>rfl
 | [],_::_,r=>by have:=r.1;simp at this
 |_::_,[],r=>by have:=r.1;simp at this
 |v::c,x::b,r=>by have g:v=x:=(r.2 0 v (.val x) rfl rfl).val_inv;rw[g,Znw c b ⟨by have:=r.1;simpa using this,λi a s e f=>r.2 (i+1) a s (by simpa using e) (by simpa using f)⟩]
def Zgw{P:Program}{f:FuncId}{m:Func}(D:P.funcs[f]?=some m)(p:m.body.isSome=true)(E:m.name≠ "runtime.NumGoroutine")(c:List Value)(a:Value)
  (F:∀(h:Hp) (w:World),HSub h w->Gl h w->Calls P f c.toArray w λe n=>e= .returned a/\Below w.heap.size w n):Ct P f {} (c.map SV.val) (λr=>r=[.val a]):=by
 refine⟨⟨m,D,p,E⟩,λg G d h z w H A C J=>?_⟩;rw[Za5]at d
 cases d
 have e:H=c.toArray:=by
  grind [Znw]
 subst e;refine(F h w A.sub C).mono ?_;rintro e n ⟨rfl,hbl⟩;have u:HSub h n:=Zim A.sub (λb p=>hbl.block b p)
 have x:Holds h z [] n:=⟨u,λid o q=>(by simp at q),λi j t=>by obtain⟨⟨o,e⟩,_⟩:=t;simp[oget]at e⟩
 have y:endH {} [a].length [.val a]=some ([.val a],[]):=by unfold endH;simp[Za5,lentH]
 refine⟨[a],h,z,[.val a],[.val a],[],rfl,rfl,y,⟨rfl,λi v s l g=>?_⟩,x,λi t=>(by obtain⟨⟨o,e⟩,_⟩:=t;simp[oget]at e),⟨λi L q=>(by simp at q),λ_ _=>rfl⟩,HLe.refl h,λb _ _ o e=>e,
  ⟨hbl.os,hbl.tape,hbl.output,hbl.size,λk K _=>hbl.block k K⟩⟩
 match i,l,g with
 |0,l,g=>
  cases l;cases g
  exact .pure _ _ (PRep.val _)
 |i+1,l,g=>simp at l
end Go.Px
namespace Go.Px
def leb(n:Nat):List Int:=if n<128 then[(n:Int)]else((n%128+128:Nat):Int)::leb (n/128)
termination_by n
decreasing_by omega
theorem Zfh{n:Nat}(h:n<128):leb n=[(n:Int)]:=by rw[leb,if_pos h]
def Zfz{n:Nat}(h:128<=n):leb n=((n%128+128:Nat):Int)::leb (n/128):=by rw[leb,if_neg Vo]
def Zf0(n:Nat):1<=(leb n).length:=by
 by_cases h:n<128
 .simp[Zfh h]
 .simp[Zfz (Yz h)]
def Zck:∀(n m:Nat) (r r':List Int),leb n++r=leb m++r'->n=m/\r=r':=by
 intro n
 induction n using Nat.strongRecOn with
 |_ n b=>
  intro m r r' e;by_cases hn:n<128<;>by_cases hm:m<128
  .simp only[Zfh hn,Zfh hm,Y2,Y5,List.cons.injEq]at e;exact⟨Vo,e.2⟩
  .simp only[Zfh hn,Zfz (Yz hm),Y2,Y5,List.cons.injEq]at e;omega
  .simp only[Zfh hm,Zfz (Yz hn),Y2,Y5,List.cons.injEq]at e;omega
  .simp only[Zfz (Yz hm),Zfz (Yz hn),Y2,List.cons.injEq]at e;obtain⟨c,a⟩:=b (n/128) Vo _ _ _ e.2;exact⟨Vo,a⟩
def Zwl:∀(n:Nat) (x:Int),x∈leb n->0<=x/\x<=255:=by
 intro n
 induction n using Nat.strongRecOn with
 |_ n a=>
  intro x hx;by_cases hn:n<128
  .simp[Zfh hn]at hx;omega
  .rw[Zfz (Yz hn)]at hx
   rcases List.mem_cons.1 hx with rfl|hx
   .omega
   .exact a _ Vo _ hx
def Zee:∀(k n:Nat),n<128^(k+1)->(leb n).length<=k+1
 |0,n,h=>by rw[Zfh (by simpa using h)];simp
 |k+1,n,h=>by
  by_cases hn:n<128
  .simp[Zfh hn]
  .rw[Zfz (Yz hn)];have h:n<128*128^(k+1):=by rw[Nat.pow_succ]at h;omega
   have:=Zee k (n/128) (Y03 h);simp;omega
def ofB:List Int->Nat
 | []=>0
 |x::l=>ofB l*128+(x%128).toNat
def Zpg:∀n:Nat,ofB (leb n)=n:=by
 intro n
 induction n using Nat.strongRecOn with
 |_ n a=>
  by_cases hn:n<128
  .simp[Zfh hn,ofB];omega
  .rw[Zfz (Yz hn),ofB,a _ Vo];omega
def leb_shape:∀n:Nat,∃l x,leb n=l++[x]/\0<=x/\x<128/\(∀y∈l,128<=y/\y<=255)/\(l≠[]->x≠0):=by
 intro n
 induction n using Nat.strongRecOn with
 |_ n g=>
  by_cases hn:n<128
  .exact⟨[],n,by simp[Zfh hn],Vo,Vo,Vs,Vs⟩
  .obtain⟨l,x,e,b,c,d,f⟩:=g (n/128) Vo;refine⟨((n%128+128:Nat):Int)::l,x,by rw[Zfz (Yz hn),e];rfl,b,c,?_,λ_ hx=>?_⟩
   .intro y a
    rcases List.mem_cons.1 a with rfl|a
    .omega
    .exact d y a
   .cases l with
    |nil=>have:=Zpg (n/128);rw[e]at this;simp[ofB,hx]at this;omega
    |cons y l=>exact f Vs hx
end Go.Px
namespace Go.Px
def toList_iff(a b:BA):a.toList=b.toList↔a=b:=by
 rw[ByteArray.toList_eq,ByteArray.toList_eq];constructor
 .intro h
  cases a;cases b
  simp only[Array.toList_inj]at h;rw[h]
 .rintro rfl;rfl
theorem seq_d(a b:BA):seq a b=decide (a=b):=by
 rw[seq_eq,Bool.eq_iff_iff];simp[toList_iff]
theorem sne_d(a b:BA):sne a b=!decide (a=b):=by
 rw[sne_eq,<-seq_eq,seq_d]
abbrev nR(l:List BA):LL:=l.map λs=>[S s]
abbrev bR(l:List Int):LL:=l.map λn=>[U8 n]
def nmAt(l:List BA)(i:Int):BA:=l.getD i.toNat ByteArray.empty
def Zsq(a:0<=i)(b:i<N.length):rget (nR N) i=[S (nmAt N i)]:=by
 have:i.toNat<N.length:=Vo;simp[rget,nmAt,this]
def Zqp(a:n<N.length):N[n]?=some (nmAt N n):=by
 simp[nmAt,a]
def nmAt_mem{l:List BA}{i:Int}(a:0<=i)(b:i<l.length):nmAt l i∈l:=by
 have:i.toNat<l.length:=Vo;simp[nmAt,this]
def Zsr(l:List Int):rlen (bR l)=(l.length:Int):=Vs
def plc:List BA->BA->Nat
 | [],_=>0
 |a::l,s=>if a=s then 1 else if plc l s=0 then 0 else plc l s+1
def Zj3{l:List BA}{s:BA}:plc l s=0↔s∉l:=by
 induction l with
 |nil=>simp[plc]
 |cons a l b=>
  simp only[plc,List.mem_cons,not_or];by_cases h:a=s
  .simp[h]
  .have:¬s=a:=λe=>h e.symm;simp only[h,if_false,this,not_false_eq_true,true_and];rw[<-b]
   split<;>simp_all
def Zu8{l:List BA}{s:BA}:plc l s<=l.length:=by
 induction l with
 |nil=>simp[plc]
 |cons a l b=>simp only[plc];split<;>(try split)<;>simp<;>omega
def plc_at:∀{l:List BA} {s:BA} {i:Nat},plc l s=i+1->l[i]?=some s:=by
 intro l
 induction l with
 |nil=>intro s i h;simp[plc]at h
 |cons a l c=>
  intro s i h;simp only[plc]at h
  split at h
  .rename_i b;obtain rfl:i=0:=Vo
   simp only[List.getElem?_cons_zero,b]
  .split at h
   .omega
   .obtain⟨j,rfl⟩:∃j,i=j+1:=⟨i-1,Vo⟩
    simpa using c (i:=j) Vo
def Zu9(l:List BA)(a s:BA):plc (l++[a]) s=if plc l s≠0 then plc l s else if a=s then l.length+1 else 0:=by
 induction l with
 |nil=>simp[plc]
 |cons b l c=>
  simp only[Y2,plc,c];by_cases h:b=s
  .simp[h]
  .simp only[h,if_false];by_cases h2:plc l s=0
   .by_cases h3:a=s<;>simp[h2,h3]
   .simp[h2]
def nmB(c:BA):Bool:=decide (1<=c.size/\c.size<=24)
def rgtB(l:List BA):Bool:=decide (l.length<=32/\(∀s∈l,nmB s=true)/\l.Nodup)
def Zc6{l:List BA}:rgtB l=true↔l.length<=32/\(∀s∈l,nmB s=true)/\l.Nodup:=by simp[rgtB]
structure Plcs(l:List BA)(es:List (BA×Int)):Prop where
 le:es.length<=l.length
 nd:es.length=l.length↔l.Nodup
 has:∀s,mhas es s=true↔s∈l
 get:∀s,mget es s=plc l s
def Plcs.nil:Plcs [] []:=⟨Vs,Vs,by simp[mhas],by simp[mget,plc]⟩
def mset_new{a:List (BA×Int)}(h:mhas a s=false):mset a s i=a++[(s,i)]:=by
 unfold mset
 induction a with
 |nil=>rfl
 |cons e a b=>simp only[mhas,List.any_cons,Y05,decide_eq_false_iff_not]at h;simp only[msetR,h.1,if_false,Y2];rw[b (by simpa[mhas]using h.2)]
def Plcs.old{l:List BA}{b:List (BA×Int)}(h:Plcs l b){a:BA}(f:mhas b a=true):Plcs (l++[a]) b:=by
 have c:=(h.has a).1 f;refine⟨by have:=h.le;simp;omega,?_,λs=>?_,λs=>?_⟩
 .have:=h.le;simp only[List.length_append,List.length_cons,Y9];constructor
  .intro e;omega
  .intro d;rw[We]at d;exact absurd rfl (d.2.2 a c a Vs)
 .rw[h.has s];simp only[List.mem_append,List.mem_singleton];exact⟨.inl,λe=>e.elim id (λe=>e▸c)⟩
 .rw[h.get s,Zu9];by_cases hp:plc l s=0
  .have:a≠s:=λe=>(Zj3.1 hp) (e▸c)
   simp[hp,this]
  .simp[hp]
def Plcs.new{l:List BA}{c:List (BA×Int)}(h:Plcs l c){a:BA}(g:mhas c a=false){n:Int}(p:n=l.length+1):Plcs (l++[a]) (mset c a n):=by
 have m:a∉l:=λe=>by rw[(h.has a).2 e]at g;cases g
 rw[mset_new g];refine⟨by have:=h.le;simp;omega,?_,λs=>?_,λs=>?_⟩
 .simp only[List.length_append,List.length_cons,Y9,Nat.add_right_cancel_iff];rw[h.nd,We];simp only[Yo,YX,not_false_eq_true,Y00,and_self,true_and,List.mem_cons,or_false];exact⟨λe=>⟨e,λx hx b j e2=>m (by rw[<-j,<-e2];exact hx)⟩,λe=>e.1⟩
 .have f:=h.has s;simp only[mhas,List.any_append,List.any_cons,List.any_nil,Bool.or_false,Bool.or_eq_true,decide_eq_true_eq,List.mem_append,List.mem_singleton]at f|-;rw[f];exact or_congr Iff.rfl ⟨λe=>e.symm,λe=>e.symm⟩
 .have o:=h.get s;rw[Zu9];by_cases hp:plc l s=0
  .have d:mhas c s=false:=by
    cases e:mhas c s with
    |false=>rfl
    |true=>exact absurd ((h.has s).1 e) (Zj3.1 hp)
   have i:c.find? (λe=>decide (e.1=s))=none:=(by rw[List.find?_eq_none];intro e k hd;simp only[mhas,YR]at d;exact d e k hd);simp only[mget,List.find?_append,i,Option.none_or,hp,ne_eq,not_true_eq_false,if_false];by_cases f:a=s
   .subst f;simp;omega
   .simp[f]
  .simp only[hp,ne_eq,not_false_eq_true,if_true];rw[<-o];have d:mhas c s=true:=(h.has s).2 (by rw[Zj3]at hp;exact Yw.1 hp);simp only[mhas,List.any_eq_true]at d;obtain⟨x,hx,hd⟩:=d;simp only[mget,List.find?_append]
   cases i:c.find? (λe=>decide (e.1=s))with
   |none=>exact absurd hd (List.find?_eq_none.1 i x hx)
   |some y=>simp
def Zqq(h:n<N.length):N.take (n+1)=N.take n++[nmAt N n]:=by
 rw[Yq,Zqp h];rfl
end Go.Px
namespace Go.Px
def nlt(a b:BA):Prop:=a.data.toList<b.data.toList
instance (a b:BA):Decidable (nlt a b):=inferInstanceAs (Decidable (_<_))
def Zv0:∀x y:List UInt8,Op.bytesLess x y=decide (x<y)
 |_,[]=>by cases‹List UInt8›<;>simp[Op.bytesLess]
 | [],b::y=>by simp[Op.bytesLess]
 |a::x,b::y=>by simp only[Op.bytesLess,Zv0 x y];rw[Bool.eq_iff_iff];simp only[Bool.or_eq_true,Bool.and_eq_true,decide_eq_true_eq,beq_iff_eq,YG]
theorem slt_d(a b:BA):slt a b=decide (nlt a b):=by
 unfold slt nlt;rw[ByteArray.toList_eq,ByteArray.toList_eq,Zv0];rfl
def Zlo(a:BA):¬nlt a a:=List.lt_irrefl _
def Zlp{a b c:BA}(h:nlt a b)(k:nlt b c):nlt a c:=Y06 h k
def nlt_tri{a b:BA}(h:¬nlt a b)(k:¬nlt b a):a=b:=by
 have:a.data.toList=b.data.toList:=List.le_antisymm (List.not_lt.1 k) (List.not_lt.1 h);exact(toList_iff a b).1 (by rw[ByteArray.toList_eq,ByteArray.toList_eq];exact this)
def Zjk{a b:BA}(h:nlt a b):a≠b:=λe=>Zlo a (by rw[<-e]at h;exact h)
def Zq6{a b:BA}(h:nlt a b):¬nlt b a:=λk=>Zlo _ (Zlp h k)
def nle_iff{a b:BA}:¬nlt b a↔nlt a b\/a=b:=
 ⟨λh=>by by_cases k:nlt a b;exact .inl k;exact .inr (nlt_tri k h),λh=>by rcases h with h|h;exact Zq6 h;rw[h];exact Zlo _⟩
def sge_d(a b:BA):sge a b=decide (¬nlt a b):=by
 unfold sge;rw[show Op.bytesLess a.toList b.toList=slt a b from rfl,slt_d];simp
def sle_d(a b:BA):sle a b=decide (¬nlt b a):=by
 unfold sle;rw[show Op.bytesLess a.toList b.toList=slt a b from rfl,slt_d,show(a.toList==b.toList)=seq a b from rfl,seq_d,Bool.eq_iff_iff];simp only[Bool.or_eq_true,decide_eq_true_eq];exact nle_iff.symm
theorem sgt_d(a b:BA):sgt a b=decide (nlt b a):=by
 unfold sgt;rw[show(Op.bytesLess a.toList b.toList||a.toList==b.toList)=sle a b from rfl,sle_d];simp
section
variable{α:Type}(nm:α->BA)
def srt(l:List α):Prop:=l.Pairwise λa b=>nlt (nm a) (nm b)
instance (l:List α):Decidable (srt nm l):=inferInstanceAs (Decidable (List.Pairwise _ l))
def wout(l:List α)(s:BA):List α:=l.filter λf=>decide (nm f≠s)
def ahd(l:List α)(s:BA):List α:=l.takeWhile λg=>decide (nlt (nm g) s)
def bhd(l:List α)(s:BA):List α:=l.dropWhile λg=>decide (nlt (nm g) s)
def insB(l:List α)(f:α):List α:=ahd nm l (nm f)++f::bhd nm l (nm f)
def withB(l:List α)(f:α):List α:=insB nm (wout nm l (nm f)) f
def fnd(l:List α)(s:BA):Option Nat:=l.findIdx? λf=>decide (nm f=s)
def fAt(l:List α)(s:BA):Int:=match fnd nm l s with|some i=>(i:Int)|none=>-1
variable{nm}{l:List α}{s:BA}{f g:α}
def Zo4:fnd nm l s=some n↔∃h:n<l.length,nm l[n]=s/\∀j (a:j<n),nm (l[j]'Vo)≠s:=by
 unfold fnd;rw[List.findIdx?_eq_some_iff_getElem];simp
def fnd_none:fnd nm l s=none↔∀f∈l,nm f≠s:=by
 unfold fnd;rw[List.findIdx?_eq_none_iff];simp
def Zgc:fAt nm l s= -1↔∀f∈l,nm f≠s:=by
 unfold fAt;rw[<-fnd_none]
 cases h:fnd nm l s with
 |none=>simp
 |some i=>simp
def Zlq:fAt nm l s= -1\/∃i:Nat,∃h:i<l.length,fAt nm l s=i/\nm l[i]=s/\∀j (d:j<i),nm (l[j]'Vo)≠s:=by
 unfold fAt
 cases h:fnd nm l s with
 |none=>exact .inl rfl
 |some i=>obtain⟨a,b,c⟩:=Zo4.1 h;exact .inr ⟨i,a,rfl,b,c⟩
def Zlr(h:srt nm l)(a:n<m)(b:m<l.length):nlt (nm (l[n]'Vo)) (nm l[m]):=
 List.pairwise_iff_getElem.1 h n m Vo b a
theorem srt_inj(h:srt nm l){i j:Nat}(a:i<l.length)(b:j<l.length)(e:nm l[i]=nm l[j]):i=j:=by
 rcases WH i j with k|k|k
 .exact absurd e (Zjk (Zlr h k b))
 .exact k
 .exact absurd e.symm (Zjk (Zlr h k a))
def Zo5(h:srt nm l)(a:f∈l)(b:g∈l)(e:nm f=nm g):f=g:=by
 obtain⟨i,c,rfl⟩:=List.mem_iff_getElem.1 a;obtain⟨j,d,rfl⟩:=List.mem_iff_getElem.1 b;have:=srt_inj h c d e;subst this;rfl
def srt_adj(h:∀i (c:i+1<l.length),nlt (nm (l[i]'Vo)) (nm l[i+1])):srt nm l:=by
 unfold srt;rw[List.pairwise_iff_getElem];intro i j c a b
 obtain⟨d,rfl⟩:∃d,j=i+1+d:=⟨j-i-1,Vo⟩
 clear b
 induction d with
 |zero=>exact h i a
 |succ d e=>exact Zlp (e Vo) (h (i+1+d) a)
def srt_wout(h:srt nm l):srt nm (wout nm l s):=Y01 List.filter_sublist h
def Zgd:f∈wout nm l s↔f∈l/\nm f≠s:=by simp[wout]
def Zls(h:∀f∈l,nm f≠s):wout nm l s=l:=by
 unfold wout;rw[List.filter_eq_self];intro a b;simp[h a b]
def Zcs(l:List α)(s:BA):ahd nm l s++bhd nm l s=l:=Wk
def Zs8:∀{l:List α},f∈ahd nm l s->nlt (nm f) s
 | [],h=>by simp[ahd]at h
 |a::l,h=>by
  unfold ahd at h;rw[List.takeWhile_cons]at h
  split at h
  next b=>
   rcases List.mem_cons.1 h with e|h
   .rw[e];simpa using b
   .exact Zs8 (l:=l) h
  .simp at h
def Zv1:∀{l:List α} {x:α} {r:List α},bhd nm l s=x::r->¬nlt (nm x) s
 | [],_,_,h=>by simp[bhd]at h
 |a::l,x,r,h=>by
  unfold bhd at h;rw[List.dropWhile_cons]at h
  split at h
  .exact Zv1 (l:=l) h
  next b=>cases h;simpa using b
def mem_bhd(h:srt nm l)(a:f∈bhd nm l s):¬nlt (nm f) s:=by
 have b:srt nm (bhd nm l s):=Y01 (List.dropWhile_sublist _) h
 cases hb:bhd nm l s with
 |nil=>rw[hb]at a;simp at a
 |cons x r=>
  have hx:=Zv1 hb;rw[hb]at a b
  rcases List.mem_cons.1 a with e|hr
  .rw[e];exact hx
  .intro k;exact hx (Zlp ((List.pairwise_cons.1 b).1 f hr) k)
def mem_insB:g∈insB nm l f↔g=f\/g∈l:=by
 unfold insB;constructor
 .intro h
  rcases List.mem_append.1 h with h|h
  .exact .inr (by rw[<-Zcs (nm:=nm) l (nm f)];exact List.mem_append.2 (.inl h))
  .rcases List.mem_cons.1 h with h|h
   .exact .inl h
   .exact .inr (by rw[<-Zcs (nm:=nm) l (nm f)];exact List.mem_append.2 (.inr h))
 .rintro(rfl|h)
  .simp
  .rw[<-Zcs (nm:=nm) l (nm f)]at h
   rcases List.mem_append.1 h with h|h
   .exact List.mem_append.2 (.inl h)
   .exact List.mem_append.2 (.inr (Wn _ h))
def Zeq:g∈withB nm l f↔g=f\/(g∈l/\nm g≠nm f):=by
 unfold withB;rw[mem_insB,Zgd]
def Zv2:(insB nm l f).length=l.length+1:=by
 have:=congrArg List.length (Zcs (nm:=nm) l (nm f));simp only[List.length_append]at this;simp[insB];omega
def srt_insB(h:srt nm l)(i:∀g∈l,nm g≠nm f):srt nm (insB nm l f):=by
 unfold insB srt;have o:srt nm (ahd nm l (nm f)++bhd nm l (nm f)):=by rw[Zcs];exact h
 obtain⟨j,m,n⟩:=List.pairwise_append.1 o;refine List.pairwise_append.2 ⟨j,List.pairwise_cons.2 ⟨λg d=>?_,m⟩,λa e b c=>?_⟩
 .have k:=mem_bhd h d
  rcases nle_iff.1 k with k|k
  .exact k
  .exact absurd k.symm (i g (by rw[<-Zcs (nm:=nm) l (nm f)];exact List.mem_append.2 (.inr d)))
 .rcases List.mem_cons.1 c with rfl|c
  .exact Zs8 e
  .exact n a e b c
def Zbo(h:srt nm l):srt nm (withB nm l f):=
 srt_insB (srt_wout h) (λg a=>(Zgd.1 a).2)
def ahd_none{l:List α}(h:∀g∈l,¬nlt (nm g) s):ahd nm l s=[]:=by
 cases l with
 |nil=>rfl
 |cons a l=>unfold ahd;rw[List.takeWhile_cons_of_neg (by simpa using h a Vs)]
def ahd_app{a b:List α}(c:∀g∈a,nlt (nm g) s)(d:∀g∈b,¬nlt (nm g) s):ahd nm (a++b) s=a:=by
 unfold ahd;rw[List.takeWhile_append_of_pos (λg e=>by simpa using c g e)];rw[show List.takeWhile _ b=ahd nm b s from rfl,ahd_none d,List.append_nil]
def bhd_app{a b:List α}(c:∀g∈a,nlt (nm g) s)(d:∀g∈b,¬nlt (nm g) s):bhd nm (a++b) s=b:=by
 have e:=Zcs (nm:=nm) (a++b) s;rw[ahd_app c d]at e;exact List.append_cancel_left e
def insB_app{a b:List α}(c:∀g∈a,nlt (nm g) (nm f))(d:∀g∈b,¬nlt (nm g) (nm f)):insB nm (a++b) f=a++f::b:=by
 unfold insB;rw[ahd_app c d,bhd_app c d]
def Zo6(a:n<l.length):l=l.take n++l[n]::l.drop (n+1):=by
 rw[List.getElem_cons_drop,List.take_append_drop]
def Ziz(h:srt nm l)(i:n<l.length):wout nm l (nm l[n])=l.take n++l.drop (n+1):=by
 have e:=Zo6 i;have m:=h;rw[e]at m;obtain⟨p,o,d⟩:=List.pairwise_append.1 m;have j:=(List.pairwise_cons.1 o).1;have k:∀(a b:List α) (x:α),(∀y∈a,nlt (nm y) (nm x))->(∀y∈b,nlt (nm x) (nm y))->wout nm (a++x::b) (nm x)=a++b:=(by intro a b x d j;unfold wout;rw[List.filter_append,List.filter_cons];simp only[ne_eq,not_true,decide_false,Bool.false_eq_true,if_false];rw[List.filter_eq_self.2 (λy c=>by have:=d y c;simp[Zjk this]),List.filter_eq_self.2 (λy c=>by have:=j y c;simpa using λe:nm y=nm x=>Zjk this e.symm)]);have:=k (l.take n) (l.drop (n+1)) l[n] (λy c=>d y c _ List.mem_cons_self) j;rw[<-e]at this;exact this
def Zh6(h:srt nm l)(a:n<l.length)(e:nm f=nm l[n]):l.set n f=withB nm l f:=by
 unfold withB;rw[e,Ziz h a];have c:=h;rw[Zo6 a]at c;obtain⟨m,d,j⟩:=List.pairwise_append.1 c;have k:=(List.pairwise_cons.1 d).1;rw[insB_app (λg b=>by rw[e];exact j g b l[n] List.mem_cons_self) (λg b=>by rw[e];exact Zq6 (k g b))];rw[List.set_eq_take_append_cons_drop];simp[a]
def Zc7(h:srt nm l)(a:n<l.length)(e:nm f=nm l[n]):(withB nm l f).length=l.length:=by
 rw[<-Zh6 h a e];simp
def Zer(h:∀g∈l,nm g≠nm f):withB nm l f=insB nm l f:=by
 unfold withB;rw[Zls h]
def Zo7(h:srt nm l)(a:n<l.length):n<(ahd nm l s).length↔nlt (nm l[n]) s:=by
 constructor
 .intro k;have e:=Zcs (nm:=nm) l s;have:l[n]=(ahd nm l s)[n]:=(by have e2:(ahd nm l s++bhd nm l s)[n]'(by rw[e];exact a)=l[n]:=(by simp only[e]);rw[List.getElem_append_left k]at e2;exact e2.symm);rw[this];exact Zs8 (List.getElem_mem k)
 .intro k;refine W5 λb=>?_;have e:=Zcs (nm:=nm) l s;have e2:(ahd nm l s++bhd nm l s)[n]'(by rw[e];exact a)=l[n]:=(by simp only[e]);rw[WL Vo]at e2;exact mem_bhd h (List.getElem_mem _) (by rw[e2];exact k)
def Zo8:(ahd nm l s).length<=l.length:=List.Sublist.length_le (List.takeWhile_sublist _)
def ahd_take:ahd nm l s=l.take (ahd nm l s).length:=by
 have e:=Zcs (nm:=nm) l s;have e2:=congrArg (List.take (ahd nm l s).length) e;rw[YV]at e2;exact e2
def bhd_drop:bhd nm l s=l.drop (ahd nm l s).length:=by
 have e:=Zcs (nm:=nm) l s;have e2:=congrArg (List.drop (ahd nm l s).length) e;rw[Wc]at e2;exact e2
def insB_at(l:List α)(f:α):insB nm l f=l.take (ahd nm l (nm f)).length++f::l.drop (ahd nm l (nm f)).length:=by
 unfold insB;rw[<-ahd_take,<-bhd_drop]
end
end Go.Px
namespace Go.Px
abbrev uR(l:List UInt8):LL:=l.map λb=>[U8 (b.toNat:Int)]
structure FiD where
 nm:BA
 su:List UInt8
 lo:List UInt8
deriving DecidableEq
abbrev FiD.row(f:FiD):List SV:=[S f.nm,SL 1 (uR f.su),SL 1 (uR f.lo)]
abbrev fR(l:List FiD):LL:=l.map FiD.row
def FiD.len(f:FiD):Nat:=f.su.length+f.lo.length
def usedL(l:List FiD):Nat:=(l.map FiD.len).sum
structure DiD where
 fs:List FiD
 rm:Int
 st:Int
 dn:Bool
deriving DecidableEq
abbrev DiD.sv(d:DiD):SV:=.agg [SL 3 (fR d.fs),I d.rm,I d.st,B d.dn]
def fchr(b:UInt8):Bool:=decide (97<=b.toNat/\b.toNat<=122\/48<=b.toNat/\b.toNat<=57\/b.toNat=46)
def fnB(s:BA):Bool:=decide (1<=s.size/\s.size<=16)&&s.data.toList.all fchr
def DiD.P(d:DiD):Prop:=(d.fs.length<=64/\0<=d.rm/\d.rm<=65536/\-1<=d.st)/\(usedL d.fs:Int)<=d.rm/\(∀f∈d.fs,fnB f.nm=true)/\srt FiD.nm d.fs
instance (d:DiD):Decidable d.P:=inferInstanceAs (Decidable (_/\_))
def DiD.er(d:DiD)(a b:BA):Int:=if d.P then(if d.dn=true then 16 else if fnB a=true/\fnB b=true then 0 else 1)else 1
def DiD.get(d:DiD)(s:BA):Option FiD:=d.fs.find? λf=>decide (f.nm=s)
def DiD.tick(d:DiD):DiD:={d with st:=if 0<d.st then d.st-1 else d.st}
def DiD.perf(d:DiD)(a:List FiD):DiD×Int:=if d.st=0 then({d with dn:=true},16)else({d.tick with fs:=a},0)
def Zbe(d:DiD)(s:BA):DiD×Int:=
 if d.er s s≠0 then(d,d.er s s)else match d.get s with
 |some _=>(d,7)
 |none=>if d.fs.length=64 then(d,13)else d.perf (withB FiD.nm d.fs ⟨s,[],[]⟩)
def Zau(d:DiD)(s:BA)(x:List UInt8):DiD×Int:=
 if d.er s s≠0 then(d,d.er s s)else match d.get s with
 |none=>(d,14)
 |some f=>if d.rm-usedL d.fs<x.length then(d,13)else
   if d.st=0 then({d with dn:=true,fs:=withB FiD.nm d.fs ⟨s,f.su,f.lo++x⟩},16)else({d.tick with fs:=withB FiD.nm d.fs ⟨s,f.su,f.lo++x⟩},0)
def Zc3(d:DiD)(s:BA):DiD×Int:=
 if d.er s s≠0 then(d,d.er s s)else match d.get s with
 |none=>(d,14)
 |some f=>d.perf (withB FiD.nm d.fs ⟨s,f.su++f.lo,[]⟩)
def opRename(d:DiD)(a b:BA):DiD×Int:=
 if d.er a b≠0 then(d,d.er a b)else match d.get a with
 |none=>(d,14)
 |some f=>d.perf (withB FiD.nm (wout FiD.nm d.fs a) ⟨b,f.su,f.lo⟩)
def Zbk(d:DiD)(s:BA):DiD×Int:=
 if d.er s s≠0 then(d,d.er s s)else match d.get s with
 |none=>(d,14)
 |some f=>d.perf (wout FiD.nm d.fs s)
def opCut(d:DiD)(s:BA)(n:Int):DiD×Int:=
 if d.er s s≠0 then(d,d.er s s)else match d.get s with
 |none=>(d,14)
 |some f=>if n<0\/(f.len:Int)<n then(d,1)else d.perf (withB FiD.nm d.fs ⟨s,f.su.take n.toNat,f.lo.take (n.toNat-f.su.length)⟩)
def Zft(d:DiD)(s:BA):List UInt8×Int:=
 if d.er s s≠0 then([],d.er s s)else match d.get s with
 |none=>([],14)
 |some f=>(f.su++f.lo,0)
def more(ks:List Int)(i n:Nat):Nat:=if ks=[]then 0 else min (ks.getD (i%ks.length) 0).toNat n
def DiD.get_cases(d:DiD)(s:BA):
  (d.get s=none/\fAt FiD.nm d.fs s= -1/\∀f∈d.fs,f.nm≠s)\/∃i:Nat,∃h:i<d.fs.length,fAt FiD.nm d.fs s=i/\d.get s=some d.fs[i]/\d.fs[i].nm=s:=by
 rcases Zlq (nm:=FiD.nm) (l:=d.fs) (s:=s)with h|⟨i,hi,h1,h2,h3⟩
 .refine .inl ⟨?_,h,Zgc.1 h⟩;unfold DiD.get;rw[List.find?_eq_none];intro f b;have:=Zgc.1 h f b;simpa using this
 .refine .inr ⟨i,hi,h1,?_,h2⟩;unfold DiD.get;rw[List.find?_eq_some_iff_getElem];exact⟨by simpa using h2,i,hi,rfl,λj a=>by simpa using h3 j a⟩
def Zcr{d:DiD}:d.er s t=0↔d.P/\d.dn=false/\fnB s=true/\fnB t=true:=by
 unfold DiD.er;by_cases h:d.P<;>by_cases k:d.dn=true<;>by_cases m:fnB s=true/\fnB t=true<;>simp[h,k,m]
 all_goals simp_all
def Zde(f:FiD)(l:List FiD):usedL (f::l)=f.len+usedL l:=by simp[usedL]
def Zen(a b:List FiD):usedL (a++b)=usedL a+usedL b:=by simp[usedL]
def Zm7{l:List FiD}{f:FiD}:usedL (insB FiD.nm l f)=usedL l+f.len:=by
 have e:=congrArg usedL (Zcs (nm:=FiD.nm) l f.nm);rw[Zen]at e;rw[insB,Zen,Zde];omega
def Zlj{l:List FiD}(a:n<l.length):usedL l=usedL (l.take n)+l[n].len+usedL (l.drop (n+1)):=by
 have:=congrArg usedL (Zo6 a);rw[Zen,Zde]at this;omega
def Zy2{l:List FiD}(h:srt FiD.nm l)(a:n<l.length):usedL (wout FiD.nm l l[n].nm)+l[n].len=usedL l:=by
 rw[Ziz h a,Zen,Zlj a];omega
def usedL_wle(l:List FiD)(s:BA):usedL (wout FiD.nm l s)<=usedL l:=by
 induction l with
 |nil=>simp[wout]
 |cons a l b=>
  unfold wout at b|-;rw[List.filter_cons]
  split
  .rw[Zde,Zde];omega
  .rw[Zde];omega
def Zg5{l:List FiD}{f:FiD}(h:srt FiD.nm l)(a:n<l.length)(e:f.nm=l[n].nm):usedL (withB FiD.nm l f)+l[n].len=usedL l+f.len:=by
 unfold withB;rw[Zm7,e];have:=Zy2 h a;omega
def Zfu{l:List FiD}{f:FiD}(h:f∈l):f.len<=usedL l:=by
 obtain⟨i,a,rfl⟩:=List.mem_iff_getElem.1 h;rw[Zlj a];omega
def Zvl{d:DiD}{a:List FiD}(h:d.P)(e:a.length<=64)(g:(usedL a:Int)<=d.rm)(i:∀f∈a,fnB f.nm=true)(j:srt FiD.nm a):(d.perf a).1.P:=by
 obtain⟨⟨k,b,c,l⟩,m,n,o⟩:=h;unfold DiD.perf
 split
 .exact⟨⟨k,b,c,l⟩,m,n,o⟩
 .refine⟨⟨e,b,c,?_⟩,g,i,j⟩;simp only[DiD.tick];split<;>omega
def tick_P{d:DiD}{a:List FiD}(h:d.P)(b:a.length<=64)(c:(usedL a:Int)<=d.rm)(e:∀f∈a,fnB f.nm=true)(g:srt FiD.nm a):({d.tick with fs:=a}:DiD).P:=by
 obtain⟨⟨k,i,j,l⟩,m,n,o⟩:=h;refine⟨⟨b,i,j,?_⟩,c,e,g⟩;simp only[DiD.tick];split<;>omega
def dn_P{d:DiD}{a:List FiD}(b:Bool)(h:d.P)(c:a.length<=64)(e:(usedL a:Int)<=d.rm)(g:∀f∈a,fnB f.nm=true)(i:srt FiD.nm a):({d with dn:=b,fs:=a}:DiD).P:=by
 obtain⟨⟨m,j,k,l⟩,n,o,p⟩:=h;exact⟨⟨c,j,k,l⟩,e,g,i⟩
def Zeo{l:List FiD}{f:FiD}(h:∀g∈l,fnB g.nm=true)(b:fnB f.nm=true):∀g∈withB FiD.nm l f,fnB g.nm=true:=by
 intro g a
 rcases Zeq.1 a with rfl|⟨a,_⟩
 .exact b
 .exact h g a
def len_wout{l:List FiD}{s:BA}:(wout FiD.nm l s).length<=l.length:=List.length_filter_le _ _
def Zoz{d:DiD}{a:List FiD}:(d.perf a).1.st<=d.st:=by
 unfold DiD.perf;split
 .exact Yd _
 .simp only[DiD.tick];split<;>omega
def Zsy{d:DiD}:(Zbe d s).1.st<=d.st:=by
 unfold Zbe;split
 .exact Yd _
 .split
  .exact Yd _
  .split
   .exact Yd _
   .exact Zoz
def Zsz{d:DiD}{x:List UInt8}:(Zau d s x).1.st<=d.st:=by
 unfold Zau;split
 .exact Yd _
 .split
  .exact Yd _
  .split
   .exact Yd _
   .split
    .exact Yd _
    .simp only[DiD.tick];split<;>omega
def opSync_st{d:DiD}:(Zc3 d s).1.st<=d.st:=by
 unfold Zc3;split
 .exact Yd _
 .split
  .exact Yd _
  .exact Zoz
def Zs0{d:DiD}:(Zbk d s).1.st<=d.st:=by
 unfold Zbk;split
 .exact Yd _
 .split
  .exact Yd _
  .exact Zoz
def opCut_st{d:DiD}:(opCut d s i).1.st<=d.st:=by
 unfold opCut;split
 .exact Yd _
 .split
  .exact Yd _
  .split
   .exact Yd _
   .exact Zoz
def Zm8{d:DiD}(h:d.P):(Zbe d s).1.P:=by
 unfold Zbe;by_cases he:d.er s s=0
 .rw[if_neg (by simpa using he)];obtain⟨_,_,c,_⟩:=Zcr.1 he
  rcases d.get_cases s with⟨a,_,b⟩|⟨i,hi,_,a,_⟩
  .rw[a]
   dsimp only
   split
   .exact h
   .have e:d.fs.length<=64:=h.1.1;refine Zvl h ?_ ?_ (Zeo h.2.2.1 c) (Zbo h.2.2.2)
    .rw[Zer b,Zv2];omega
    .rw[Zer b,Zm7];have:=h.2.1;simp only[FiD.len,Y9];omega
  .rw[a];exact h
 .rw[if_pos (by simpa using he)];exact h
def Zm9{d:DiD}{x:List UInt8}(h:d.P):(Zau d s x).1.P:=by
 unfold Zau;by_cases he:d.er s s=0
 .rw[if_neg (by simpa using he)];obtain⟨_,_,b,_⟩:=Zcr.1 he
  rcases d.get_cases s with⟨a,_,_⟩|⟨i,hi,_,a,h2⟩
  .rw[a];exact h
  .rw[a]
   dsimp only
   split
   .exact h
   .rename_i hx;have c:(withB FiD.nm d.fs ⟨s,d.fs[i].su,d.fs[i].lo++x⟩).length<=64:=by rw[Zc7 h.2.2.2 hi h2.symm];exact h.1.1
    have e:(usedL (withB FiD.nm d.fs ⟨s,d.fs[i].su,d.fs[i].lo++x⟩):Int)<=d.rm:=by have:=Zg5 (f:=⟨s,d.fs[i].su,d.fs[i].lo++x⟩) h.2.2.2 hi h2.symm;have e1:(FiD.len ⟨s,d.fs[i].su,d.fs[i].lo++x⟩)=d.fs[i].len+x.length:=(by simp[FiD.len];omega);rw[e1]at this;omega
    split
    .exact dn_P true h c e (Zeo h.2.2.1 b) (Zbo h.2.2.2)
    .exact tick_P h c e (Zeo h.2.2.1 b) (Zbo h.2.2.2)
 .rw[if_pos (by simpa using he)];exact h
def Zvm{d:DiD}(h:d.P):(Zc3 d s).1.P:=by
 unfold Zc3;by_cases he:d.er s s=0
 .rw[if_neg (by simpa using he)];obtain⟨_,_,b,_⟩:=Zcr.1 he
  rcases d.get_cases s with⟨a,_,_⟩|⟨i,hi,_,a,h2⟩
  .rw[a];exact h
  .rw[a];refine Zvl h ?_ ?_ (Zeo h.2.2.1 b) (Zbo h.2.2.2)
   .rw[Zc7 h.2.2.2 hi h2.symm];exact h.1.1
   .have:=Zg5 (f:=⟨s,d.fs[i].su++d.fs[i].lo,[]⟩) h.2.2.2 hi h2.symm;have e1:(FiD.len ⟨s,d.fs[i].su++d.fs[i].lo,[]⟩)=d.fs[i].len:=(by simp[FiD.len]);have:=h.2.1;omega
 .rw[if_pos (by simpa using he)];exact h
def Zna{d:DiD}{s:BA}(h:d.P):(Zbk d s).1.P:=by
 unfold Zbk;by_cases he:d.er s s=0
 .rw[if_neg (by simpa using he)]
  rcases d.get_cases s with⟨a,_,_⟩|⟨i,hi,_,a,h2⟩
  .rw[a];exact h
  .rw[a];have:=len_wout (l:=d.fs) (s:=s);have:=usedL_wle d.fs s;have c:=h.2.1;have e:=h.1.1;exact Zvl h Vo Vo (λg b=>h.2.2.1 g (Zgd.1 b).1) (srt_wout h.2.2.2)
 .rw[if_pos (by simpa using he)];exact h
def opCut_P{d:DiD}(h:d.P):(opCut d s i).1.P:=by
 unfold opCut;by_cases he:d.er s s=0
 .rw[if_neg (by simpa using he)];obtain⟨_,_,b,_⟩:=Zcr.1 he
  rcases d.get_cases s with⟨a,_,_⟩|⟨n,hi,_,a,h2⟩
  .rw[a];exact h
  .rw[a]
   dsimp only
   split
   .exact h
   .refine Zvl h ?_ ?_ (Zeo h.2.2.1 b) (Zbo h.2.2.2)
    .rw[Zc7 h.2.2.2 hi h2.symm];exact h.1.1
    .have:=Zg5 (f:=⟨s,d.fs[n].su.take i.toNat,d.fs[n].lo.take (i.toNat-d.fs[n].su.length)⟩) h.2.2.2 hi h2.symm;have e1:(FiD.len ⟨s,d.fs[n].su.take i.toNat,d.fs[n].lo.take (i.toNat-d.fs[n].su.length)⟩)<=d.fs[n].len:=(by simp[FiD.len];omega);have:=h.2.1;omega
 .rw[if_pos (by simpa using he)];exact h
end Go.Px
namespace Go.Px
def isub_d(a b:Int):isub a b=a-b:=rfl
theorem Zah{a:Type}(g:a->List SV)(l:List a)(i:Nat)(h:i<l.length):rget (l.map g) (i:Int)=g l[i]:=by simp[rget,h]
def Zbm{a:Type}(g:a->List SV)(l:List a)(i:Int)(b:0<=i)(h:i<l.length):rget (l.map g) i=g (l[i.toNat]'Vo):=by
 have:i.toNat<l.length:=Vo;simp[rget,this]
theorem waddN(i:Nat)(h:i<=9223372036854775806:=by omega):wadd .i64 (i:Int) 1=((i+1:Nat):Int):=by
 rw[Zac];omega
def Zkf(i j:Nat)(h:i+j<=9223372036854775807):wadd .i64 (i:Int) (j:Int)=((i+j:Nat):Int):=by
 rw[Zac];omega
def take_s{a:Type}(l:List a)(i:Nat)(h:i<l.length):l.take (i+1)=l.take i++[l[i]]:=by
 rw[Yq,List.getElem?_eq_getElem h];rfl
def Zjx{c:Type}(g:c->List SV)(l:List c)(a b:Int):rsub (l.map g) a b=((l.take b.toNat).drop a.toNat).map g:=by
 simp[rsub,List.map_take,List.map_drop]
def Zt9{a:Type}(g:a->List SV)(l:List a)(i:Nat)(x:a):rset (l.map g) (i:Int) (g x)=(l.set i x).map g:=by
 simp[rset,List.map_set]
def Zjy{a:Type}(g:a->List SV)(l m:List a):rapp (l.map g) (m.map g)=(l++m).map g:=by simp[rapp]
theorem stepL{a b:Nat}(h:a<b):Nl a b:=h
theorem ifB_d{p:Prop}[Decidable p]{x y:Prop}(a:p->x)(b:¬p->y):ifB (decide p) x y:=by
 by_cases h:p<;>simp[ifB,h]
 .exact a h
 .exact b h
def Zb0(s:BA):s.size=s.data.toList.length:=by rw[Array.length_toList];rfl
def byteOf_u(b:UInt8):Zcx [U8 (b.toNat:Int)]=b:=by simp[Zcx]
def bstr_u(l:List UInt8):bstr (uR l)=⟨l.toArray⟩:=by
 unfold bstr uR;rw[List.map_map];congr 1;rw[show(Zcx∘λb:UInt8=>[U8 (b.toNat:Int)])=id from funext λb=>byteOf_u b];simp
def bstr_inj{a b:List UInt8}:bstr (uR a)=bstr (uR b)↔a=b:=by
 rw[bstr_u,bstr_u];constructor
 .intro h;simp at h;exact h
 .rintro rfl;rfl
def uR_inj{a b:List UInt8}:uR a=uR b↔a=b:=by
 constructor
 .intro h;have:=congrArg bstr h;exact bstr_inj.1 this
 .rintro rfl;rfl
def Zi8(l:List UInt8):(uR l).length=l.length:=Vs
def Zro(s:BA)(i:Nat)(h:i<s.size):sbyte s (i:Int)=((s.data.toList[i]'(by rw[<-Zb0];exact h)).toNat:Int):=by
 have a:i<s.data.size:=h;simp[sbyte,Y1 a]
end Go.Px
namespace Go.Px
set_option linter.unusedSectionVars false
def nms4:List BA:=[⟨#[97]⟩,⟨#[98]⟩,⟨#[99]⟩,⟨#[100]⟩]
def nm4(n:Int):BA:=nms4.getD (n.toNat%4) ByteArray.empty
structure DoD where
 k:Int
 f:Int
 t:Int
 n:Int
 x:List UInt8
def Steps(F H:DiD)(m:Int)(p q:DiD×Int):Prop:=
 (p.2≠0->p.1=F/\q=(H,p.2))/\(p.2=0->(p.1.st= -1/\p.1.dn=false)/\(m=0->q.2=16/\q.1.dn=true)/\(m≠0->q=({p.1 with st:=m-1},0)))
section
variable{F:DiD}(hs:F.st= -1)(hd:F.dn=false){m:Int}(hm:0<=m)
include hs hd hm
end
end Go.Px
namespace Go.Px
section
variable{α:Type}{nm:α->BA}{l:List α}{f g:α}
def wout_insB(h:∀x∈l,nm x≠nm f):wout nm (insB nm l f) (nm f)=l:=by
 have e:=Zcs (nm:=nm) l (nm f);have a:wout nm (ahd nm l (nm f)) (nm f)=ahd nm l (nm f):=Zls λx hx=>h x (by rw[<-e];exact List.mem_append.2 (.inl hx));have b:wout nm (bhd nm l (nm f)) (nm f)=bhd nm l (nm f):=Zls λx hx=>h x (by rw[<-e];exact List.mem_append.2 (.inr hx))
 conv=>rhs;rw[<-e]
 unfold insB;unfold wout at a b|-;rw[List.filter_append,List.filter_cons];simp only[ne_eq,not_true,decide_false,Bool.false_eq_true,if_false];rw[a,b]
def Zy4(l:List α)(f:α):wout nm (withB nm l f) (nm f)=wout nm l (nm f):=by
 unfold withB;exact wout_insB λx hx=>(Zgd.1 hx).2
def Zg8(e:nm f=nm g):withB nm (withB nm l f) g=withB nm l g:=by
 show insB nm (wout nm (withB nm l f) (nm g)) g=_;rw[<-e,Zy4,e];rfl
end
def get_withB{d:DiD}{f:FiD}{l:List FiD}(c:srt FiD.nm l)(e:d.fs=withB FiD.nm l f):d.get f.nm=some f:=by
 have a:srt FiD.nm d.fs:=(by rw[e];exact Zbo c);have b:f∈d.fs:=by rw[e];exact Zeq.2 (.inl rfl)
 rcases d.get_cases f.nm with⟨_,_,j⟩|⟨i,hi,_,h1,h2⟩
 .exact absurd rfl (j f b)
 .rw[h1,Zo5 a (List.getElem_mem hi) b h2]
def er_of{d:DiD}(c:d.P)(e:d.dn=false)(i:fnB s=true)(j:fnB t=true):d.er s t=0:=Zcr.2 ⟨c,e,i,j⟩
section
variable{d:DiD}(h:¬d.P)
include h
end
end Go.Px
namespace Go.Px
def get_iff{d:DiD}(c:srt FiD.nm d.fs){f:FiD}:d.get s=some f↔f∈d.fs/\f.nm=s:=by
 constructor
 .intro h
  rcases d.get_cases s with⟨a,_,_⟩|⟨i,hi,_,a,h2⟩
  .rw[a]at h;cases h
  .rw[a]at h;cases h;exact⟨List.getElem_mem hi,h2⟩
 .rintro⟨a,rfl⟩
  rcases d.get_cases f.nm with⟨_,_,b⟩|⟨i,hi,_,h2,b⟩
  .exact absurd rfl (b f a)
  .rw[h2,Zo5 c (List.getElem_mem hi) a b]
def get_none{d:DiD}(h:d.get s=none):∀f∈d.fs,f.nm≠s:=by
 rcases d.get_cases s with⟨_,_,a⟩|⟨i,hi,_,h1,h2⟩
 .exact a
 .rw[h1]at h;cases h
def tch(o:DoD)(a:BA):Prop:=(3<o.k%6/\nm4 o.f=a)\/(o.k%6=3/\(nm4 o.f=a\/nm4 o.t=a))
instance (o:DoD) (nm:BA):Decidable (tch o nm):=inferInstanceAs (Decidable (_\/_))
end Go.Px
namespace Go.Proofs.YtaenkbbfockfgaaGreatDoor
open Go Go.Px Go.Proofs Tryz
def SgT:FuncId->Sig:=λ_=>{}
def SvT:TypeId->Sig:=λ_=>{}
abbrev ev7(s a k:Int)(c:BA)(x y z:Int):SV:=.agg [I s,I a,I k,S c,I x,I y,I z]
def some_nf(h:Q [B (bpick (ige i 0) (ile i 2147483647) false)]):Ct prog 349 {} [I i] Q:=
 fN SgT SvT func349 h
def many_nf(h:ifB (bpick (ilt k 1) true (igt k 10)) (Q [I 0]) (ifB (ieq k 2) (Q [I 3]) (ifB (ieq k 3) (Q [I 2]) (Q [I 1])))):Ct prog 255 {} [I k] Q:=
 fN SgT SvT func255 h
def named_nf(h:Q [B (bpick (ige (slen s) 1) (ile (slen s) 24) false)]):Ct prog 166 {} [S s] Q:=
 fN SgT SvT func166 h
def bounds_nf(h:ifB (ieq k 1) (Q ([SV.agg [I 1,I 3,I 0,I 0,I 0,I 0]])) (ifB (ieq k 2) (Q ([SV.agg [I 0,I 2147483647,I 0,I 2147483647,I 0,I 2147483647]])) (ifB (ieq k 3) (Q ([SV.agg [I 0,I 2,I 0,I 2147483647,I 0,I 0]])) (ifB (ieq k 4) (Q ([SV.agg [I 0,I 2,I 0,I 0,I 0,I 0]])) (ifB (ieq k 8) (ifB (ieq k 8) (Q ([SV.agg [I 1,I 2147483647,I 0,I 0,I 0,I 0]])) (Q ([SV.agg [I 0,I 2147483647,I 0,I 0,I 0,I 0]]))) (ifB (ieq k 10) (Q ([SV.agg [I 1,I 2147483647,I 0,I 0,I 0,I 0]])) (Q ([SV.agg [I 0,I 2147483647,I 0,I 0,I 0,I 0]])))))))):Ct prog 322 {} [I k] Q:=
 fN SgT SvT func322 h
def within_nf(h:Cl prog 322 sP [I k] (λp=>∃l g,∃n y,∃o a,(p=[SV.agg [I l,I g,I n,I y,I o,I a]])/\∃e:Bool->Int->Prop,∃m:Bool->Int->Nat,(e false 0)/\∀x d,(e x d)->ifB (ilt d 3) (((0<=d)/\d<3)/\((d=0)->((0<=d)/\d<3)/\((d=0)->ifB (ilt b l) (Q [B false]) (((0<=d)/\d<3)/\((d=0)->ifB (bpick false true (igt b g)) (Q [B false]) ((Sm (some ([[I b,I c,I z],[I i,I j,I k,S s,I b,I c,I z]])))/\(e x (wadd .i64 d 1))/\Nl (m x (wadd .i64 d 1)) (m x d)))/\((d=1)->ifB (bpick false true (igt c g)) (Q [B false]) ((Sm (some ([[I b,I c,I z],[I i,I j,I k,S s,I b,I c,I z]])))/\(e x (wadd .i64 d 1))/\Nl (m x (wadd .i64 d 1)) (m x d)))/\((d=2)->ifB (bpick false true (igt z g)) (Q [B false]) ((Sm (some ([[I b,I c,I z],[I i,I j,I k,S s,I b,I c,I z]])))/\(e x (wadd .i64 d 1))/\Nl (m x (wadd .i64 d 1)) (m x d)))/\True))/\((d=1)->ifB (ilt c l) (Q [B false]) (((0<=d)/\d<3)/\((d=0)->ifB (bpick false true (igt b g)) (Q [B false]) ((Sm (some ([[I b,I c,I z],[I i,I j,I k,S s,I b,I c,I z]])))/\(e x (wadd .i64 d 1))/\Nl (m x (wadd .i64 d 1)) (m x d)))/\((d=1)->ifB (bpick false true (igt c g)) (Q [B false]) ((Sm (some ([[I b,I c,I z],[I i,I j,I k,S s,I b,I c,I z]])))/\(e x (wadd .i64 d 1))/\Nl (m x (wadd .i64 d 1)) (m x d)))/\((d=2)->ifB (bpick false true (igt z g)) (Q [B false]) ((Sm (some ([[I b,I c,I z],[I i,I j,I k,S s,I b,I c,I z]])))/\(e x (wadd .i64 d 1))/\Nl (m x (wadd .i64 d 1)) (m x d)))/\True))/\((d=2)->ifB (ilt z l) (Q [B false]) (((0<=d)/\d<3)/\((d=0)->ifB (bpick false true (igt b g)) (Q [B false]) ((Sm (some ([[I b,I c,I z],[I i,I j,I k,S s,I b,I c,I z]])))/\(e x (wadd .i64 d 1))/\Nl (m x (wadd .i64 d 1)) (m x d)))/\((d=1)->ifB (bpick false true (igt c g)) (Q [B false]) ((Sm (some ([[I b,I c,I z],[I i,I j,I k,S s,I b,I c,I z]])))/\(e x (wadd .i64 d 1))/\Nl (m x (wadd .i64 d 1)) (m x d)))/\((d=2)->ifB (bpick false true (igt z g)) (Q [B false]) ((Sm (some ([[I b,I c,I z],[I i,I j,I k,S s,I b,I c,I z]])))/\(e x (wadd .i64 d 1))/\Nl (m x (wadd .i64 d 1)) (m x d)))/\True))/\True)/\((d=1)->((0<=d)/\d<3)/\((d=0)->ifB (ilt b n) (Q [B false]) (((0<=d)/\d<3)/\((d=0)->ifB (bpick false true (igt b y)) (Q [B false]) ((Sm (some ([[I b,I c,I z],[I i,I j,I k,S s,I b,I c,I z]])))/\(e x (wadd .i64 d 1))/\Nl (m x (wadd .i64 d 1)) (m x d)))/\((d=1)->ifB (bpick false true (igt c y)) (Q [B false]) ((Sm (some ([[I b,I c,I z],[I i,I j,I k,S s,I b,I c,I z]])))/\(e x (wadd .i64 d 1))/\Nl (m x (wadd .i64 d 1)) (m x d)))/\((d=2)->ifB (bpick false true (igt z y)) (Q [B false]) ((Sm (some ([[I b,I c,I z],[I i,I j,I k,S s,I b,I c,I z]])))/\(e x (wadd .i64 d 1))/\Nl (m x (wadd .i64 d 1)) (m x d)))/\True))/\((d=1)->ifB (ilt c n) (Q [B false]) (((0<=d)/\d<3)/\((d=0)->ifB (bpick false true (igt b y)) (Q [B false]) ((Sm (some ([[I b,I c,I z],[I i,I j,I k,S s,I b,I c,I z]])))/\(e x (wadd .i64 d 1))/\Nl (m x (wadd .i64 d 1)) (m x d)))/\((d=1)->ifB (bpick false true (igt c y)) (Q [B false]) ((Sm (some ([[I b,I c,I z],[I i,I j,I k,S s,I b,I c,I z]])))/\(e x (wadd .i64 d 1))/\Nl (m x (wadd .i64 d 1)) (m x d)))/\((d=2)->ifB (bpick false true (igt z y)) (Q [B false]) ((Sm (some ([[I b,I c,I z],[I i,I j,I k,S s,I b,I c,I z]])))/\(e x (wadd .i64 d 1))/\Nl (m x (wadd .i64 d 1)) (m x d)))/\True))/\((d=2)->ifB (ilt z n) (Q [B false]) (((0<=d)/\d<3)/\((d=0)->ifB (bpick false true (igt b y)) (Q [B false]) ((Sm (some ([[I b,I c,I z],[I i,I j,I k,S s,I b,I c,I z]])))/\(e x (wadd .i64 d 1))/\Nl (m x (wadd .i64 d 1)) (m x d)))/\((d=1)->ifB (bpick false true (igt c y)) (Q [B false]) ((Sm (some ([[I b,I c,I z],[I i,I j,I k,S s,I b,I c,I z]])))/\(e x (wadd .i64 d 1))/\Nl (m x (wadd .i64 d 1)) (m x d)))/\((d=2)->ifB (bpick false true (igt z y)) (Q [B false]) ((Sm (some ([[I b,I c,I z],[I i,I j,I k,S s,I b,I c,I z]])))/\(e x (wadd .i64 d 1))/\Nl (m x (wadd .i64 d 1)) (m x d)))/\True))/\True)/\((d=2)->((0<=d)/\d<3)/\((d=0)->ifB (ilt b o) (Q [B false]) (((0<=d)/\d<3)/\((d=0)->ifB (bpick false true (igt b a)) (Q [B false]) ((Sm (some ([[I b,I c,I z],[I i,I j,I k,S s,I b,I c,I z]])))/\(e x (wadd .i64 d 1))/\Nl (m x (wadd .i64 d 1)) (m x d)))/\((d=1)->ifB (bpick false true (igt c a)) (Q [B false]) ((Sm (some ([[I b,I c,I z],[I i,I j,I k,S s,I b,I c,I z]])))/\(e x (wadd .i64 d 1))/\Nl (m x (wadd .i64 d 1)) (m x d)))/\((d=2)->ifB (bpick false true (igt z a)) (Q [B false]) ((Sm (some ([[I b,I c,I z],[I i,I j,I k,S s,I b,I c,I z]])))/\(e x (wadd .i64 d 1))/\Nl (m x (wadd .i64 d 1)) (m x d)))/\True))/\((d=1)->ifB (ilt c o) (Q [B false]) (((0<=d)/\d<3)/\((d=0)->ifB (bpick false true (igt b a)) (Q [B false]) ((Sm (some ([[I b,I c,I z],[I i,I j,I k,S s,I b,I c,I z]])))/\(e x (wadd .i64 d 1))/\Nl (m x (wadd .i64 d 1)) (m x d)))/\((d=1)->ifB (bpick false true (igt c a)) (Q [B false]) ((Sm (some ([[I b,I c,I z],[I i,I j,I k,S s,I b,I c,I z]])))/\(e x (wadd .i64 d 1))/\Nl (m x (wadd .i64 d 1)) (m x d)))/\((d=2)->ifB (bpick false true (igt z a)) (Q [B false]) ((Sm (some ([[I b,I c,I z],[I i,I j,I k,S s,I b,I c,I z]])))/\(e x (wadd .i64 d 1))/\Nl (m x (wadd .i64 d 1)) (m x d)))/\True))/\((d=2)->ifB (ilt z o) (Q [B false]) (((0<=d)/\d<3)/\((d=0)->ifB (bpick false true (igt b a)) (Q [B false]) ((Sm (some ([[I b,I c,I z],[I i,I j,I k,S s,I b,I c,I z]])))/\(e x (wadd .i64 d 1))/\Nl (m x (wadd .i64 d 1)) (m x d)))/\((d=1)->ifB (bpick false true (igt c a)) (Q [B false]) ((Sm (some ([[I b,I c,I z],[I i,I j,I k,S s,I b,I c,I z]])))/\(e x (wadd .i64 d 1))/\Nl (m x (wadd .i64 d 1)) (m x d)))/\((d=2)->ifB (bpick false true (igt z a)) (Q [B false]) ((Sm (some ([[I b,I c,I z],[I i,I j,I k,S s,I b,I c,I z]])))/\(e x (wadd .i64 d 1))/\Nl (m x (wadd .i64 d 1)) (m x d)))/\True))/\True)/\True) (Q [B true]))):Ct prog 256 {} [ev7 i j k s b c z] Q:=
 fN SgT SvT func256 h
def values_nf(h:ifB (ieq k 1) (Q [B (bpick (bpick (bpick (ige b 1) (ile b 3) false) (ieq c 0) false) (ieq z 0) false)]) (ifB (ieq k 2) (Cl prog 349 sP [I b] (λd=>∃x,(d=[B x])/\ifB x (Cl prog 349 sP [I c] (λe=>∃y,(e=[B y])/\ifB (bpick true y false) (Cl prog 349 sP [I z] (λg=>∃a,(g=[B a])/\Q [B (bpick true a false)])) (Q [B false]))) (Q [B false]))) (ifB (ieq k 3) (ifB (bpick (ige b 0) (ile b 2) false) (Cl prog 349 sP [I c] (λd=>∃x,(d=[B x])/\Q [B (bpick (bpick true x false) (ieq z 0) false)])) (Q [B (bpick false (ieq z 0) false)])) (ifB (ieq k 4) (Q [B (bpick (bpick (bpick (ige b 0) (ile b 2) false) (ieq c 0) false) (ieq z 0) false)]) (ifB (ieq k 8) (ifB (ieq k 8) (ifB (ige b 1) (Cl prog 349 sP [I b] (λd=>∃x,(d=[B x])/\Q [B (bpick (bpick (bpick true x false) (ieq c 0) false) (ieq z 0) false)])) (Q [B (bpick (bpick false (ieq c 0) false) (ieq z 0) false)])) (Cl prog 349 sP [I b] (λd=>∃x,(d=[B x])/\Q [B (bpick (bpick x (ieq c 0) false) (ieq z 0) false)]))) (ifB (ieq k 10) (ifB (ige b 1) (Cl prog 349 sP [I b] (λd=>∃x,(d=[B x])/\Q [B (bpick (bpick (bpick true x false) (ieq c 0) false) (ieq z 0) false)])) (Q [B (bpick (bpick false (ieq c 0) false) (ieq z 0) false)])) (Cl prog 349 sP [I b] (λd=>∃x,(d=[B x])/\Q [B (bpick (bpick x (ieq c 0) false) (ieq z 0) false)])))))))):Ct prog 305 {} [ev7 i j k s b c z] Q:=
 fN SgT SvT func305 h
def check_nf(h:Cl prog 255 sP [I k] (λa=>∃g,(a=[I g])/\ifB (ieq g 0) (Q [I 2]) (Cl prog 166 sP [S s] (λd=>∃x,(d=[B x])/\ifB (bnot x) (Q [I 3]) (Cl prog 256 sP ([SV.agg [I i,I j,I k,S s,I b,I c,I z]]) (λe=>∃y,(e=[B y])/\ifB (bnot y) (Q [I 4]) (ifB (bpick (ilt j 0) true (igt j 1099511627776)) (Q [I 5]) (ifB (bpick (ilt i 0) true (igt i 4294967296)) (Q [I 1]) (Q [I 0]))))))))):Ct prog 176 {} [ev7 i j k s b c z] Q:=
 fN SgT SvT func176 h
def rcheck_nf(h:ifB (bpick (ilt k 1) true (igt k 10)) (Q [I 2]) (ifB (bpick (ieq (slen s) 0) true (igt (slen s) 24)) (Q [I 3]) (Cl prog 305 sP ([SV.agg [I i,I j,I k,S s,I b,I c,I z]]) (λd=>∃x,(d=[B x])/\ifB (bnot x) (Q [I 4]) (ifB (bpick (ilt j 0) true (igt j 1099511627776)) (Q [I 5]) (ifB (bpick (ilt i 0) true (igt i 4294967296)) (Q [I 1]) (Q [I 0]))))))):Ct prog 235 {} [ev7 i j k s b c z] Q:=
 fN SgT SvT func235 h
def Zxz(h:Cl prog 255 sP [I k] (λd=>∃x,(d=[I x])/\(((0:Int)<=0)/\(0<=x)/\x<=(rlen ([[I b],[I c],[I z]])))/\Q ([SL 1 (rsub ([[I b],[I c],[I z]]) 0 x)]))):Ct prog 270 {} [ev7 i j k s b c z] Q:=
 fN SgT SvT func270 h
def fill_nf{s a k:Int}{c:BA}{x y z:Int}{rows:LL}{Q:QQ}(h:((imin (rlen rows) 3=(0:Int))->Q ([SV.agg [I s,I a,I k,S c,I 0,I 0,I 0]]))/\((0<(imin (rlen rows) 3))->∃b,(rget rows 0=[I b])/\((imin (rlen rows) 3=(1:Int))->Q ([SV.agg [I s,I a,I k,S c,I b,I 0,I 0]]))/\((1<(imin (rlen rows) 3))->∃d,(rget rows 1=[I d])/\((imin (rlen rows) 3=(2:Int))->Q ([SV.agg [I s,I a,I k,S c,I b,I d,I 0]]))/\((2<(imin (rlen rows) 3))->∃e,(rget rows 2=[I e])/\Q ([SV.agg [I s,I a,I k,S c,I b,I d,I e]]))))):Ct prog 369 {} [ev7 s a k c x y z,SL 1 rows] Q:=
 fN SgT SvT func369 h
def role_nf(h:ifB (ieq k 1) (ifB (ieq k 1) (Q [I 0]) (ifB (ieq k 3) (ifB (ieq k 3) (Q [I 1]) (ifB (ieq k 5) (ifB (ieq k 5) (Q [I 2]) (ifB (ieq k 8) (ifB (ieq k 8) (Q [I 3]) (Q [I (-1)])) (ifB (ieq k 9) (ifB (ieq k 9) (Q [I 3]) (Q [I (-1)])) (ifB (ieq k 10) (Q [I 3]) (Q [I (-1)]))))) (ifB (ieq k 6) (ifB (ieq k 6) (Q [I 2]) (ifB (ieq k 8) (ifB (ieq k 8) (Q [I 3]) (Q [I (-1)])) (ifB (ieq k 9) (ifB (ieq k 9) (Q [I 3]) (Q [I (-1)])) (ifB (ieq k 10) (Q [I 3]) (Q [I (-1)]))))) (ifB (ieq k 7) (Q [I 2]) (ifB (ieq k 8) (ifB (ieq k 8) (Q [I 3]) (Q [I (-1)])) (ifB (ieq k 9) (ifB (ieq k 9) (Q [I 3]) (Q [I (-1)])) (ifB (ieq k 10) (Q [I 3]) (Q [I (-1)])))))))) (ifB (ieq k 4) (Q [I 1]) (ifB (ieq k 5) (ifB (ieq k 5) (Q [I 2]) (ifB (ieq k 8) (ifB (ieq k 8) (Q [I 3]) (Q [I (-1)])) (ifB (ieq k 9) (ifB (ieq k 9) (Q [I 3]) (Q [I (-1)])) (ifB (ieq k 10) (Q [I 3]) (Q [I (-1)]))))) (ifB (ieq k 6) (ifB (ieq k 6) (Q [I 2]) (ifB (ieq k 8) (ifB (ieq k 8) (Q [I 3]) (Q [I (-1)])) (ifB (ieq k 9) (ifB (ieq k 9) (Q [I 3]) (Q [I (-1)])) (ifB (ieq k 10) (Q [I 3]) (Q [I (-1)]))))) (ifB (ieq k 7) (Q [I 2]) (ifB (ieq k 8) (ifB (ieq k 8) (Q [I 3]) (Q [I (-1)])) (ifB (ieq k 9) (ifB (ieq k 9) (Q [I 3]) (Q [I (-1)])) (ifB (ieq k 10) (Q [I 3]) (Q [I (-1)])))))))))) (ifB (ieq k 2) (Q [I 0]) (ifB (ieq k 3) (ifB (ieq k 3) (Q [I 1]) (ifB (ieq k 5) (ifB (ieq k 5) (Q [I 2]) (ifB (ieq k 8) (ifB (ieq k 8) (Q [I 3]) (Q [I (-1)])) (ifB (ieq k 9) (ifB (ieq k 9) (Q [I 3]) (Q [I (-1)])) (ifB (ieq k 10) (Q [I 3]) (Q [I (-1)]))))) (ifB (ieq k 6) (ifB (ieq k 6) (Q [I 2]) (ifB (ieq k 8) (ifB (ieq k 8) (Q [I 3]) (Q [I (-1)])) (ifB (ieq k 9) (ifB (ieq k 9) (Q [I 3]) (Q [I (-1)])) (ifB (ieq k 10) (Q [I 3]) (Q [I (-1)]))))) (ifB (ieq k 7) (Q [I 2]) (ifB (ieq k 8) (ifB (ieq k 8) (Q [I 3]) (Q [I (-1)])) (ifB (ieq k 9) (ifB (ieq k 9) (Q [I 3]) (Q [I (-1)])) (ifB (ieq k 10) (Q [I 3]) (Q [I (-1)])))))))) (ifB (ieq k 4) (Q [I 1]) (ifB (ieq k 5) (ifB (ieq k 5) (Q [I 2]) (ifB (ieq k 8) (ifB (ieq k 8) (Q [I 3]) (Q [I (-1)])) (ifB (ieq k 9) (ifB (ieq k 9) (Q [I 3]) (Q [I (-1)])) (ifB (ieq k 10) (Q [I 3]) (Q [I (-1)]))))) (ifB (ieq k 6) (ifB (ieq k 6) (Q [I 2]) (ifB (ieq k 8) (ifB (ieq k 8) (Q [I 3]) (Q [I (-1)])) (ifB (ieq k 9) (ifB (ieq k 9) (Q [I 3]) (Q [I (-1)])) (ifB (ieq k 10) (Q [I 3]) (Q [I (-1)]))))) (ifB (ieq k 7) (Q [I 2]) (ifB (ieq k 8) (ifB (ieq k 8) (Q [I 3]) (Q [I (-1)])) (ifB (ieq k 9) (ifB (ieq k 9) (Q [I 3]) (Q [I (-1)])) (ifB (ieq k 10) (Q [I 3]) (Q [I (-1)]))))))))))):Ct prog 257 {} [I k] Q:=
 fN SgT SvT func257 h
def rrole_nf(h:ifB (ieq k 1) (ifB (ieq k 1) (Q [I 0]) (ifB (ieq k 3) (ifB (ieq k 3) (Q [I 1]) (ifB (ieq k 5) (ifB (ieq k 5) (Q [I 2]) (ifB (ieq k 8) (ifB (ieq k 8) (Q [I 3]) (Q [I (-1)])) (ifB (ieq k 9) (ifB (ieq k 9) (Q [I 3]) (Q [I (-1)])) (ifB (ieq k 10) (Q [I 3]) (Q [I (-1)]))))) (ifB (ieq k 6) (ifB (ieq k 6) (Q [I 2]) (ifB (ieq k 8) (ifB (ieq k 8) (Q [I 3]) (Q [I (-1)])) (ifB (ieq k 9) (ifB (ieq k 9) (Q [I 3]) (Q [I (-1)])) (ifB (ieq k 10) (Q [I 3]) (Q [I (-1)]))))) (ifB (ieq k 7) (Q [I 2]) (ifB (ieq k 8) (ifB (ieq k 8) (Q [I 3]) (Q [I (-1)])) (ifB (ieq k 9) (ifB (ieq k 9) (Q [I 3]) (Q [I (-1)])) (ifB (ieq k 10) (Q [I 3]) (Q [I (-1)])))))))) (ifB (ieq k 4) (Q [I 1]) (ifB (ieq k 5) (ifB (ieq k 5) (Q [I 2]) (ifB (ieq k 8) (ifB (ieq k 8) (Q [I 3]) (Q [I (-1)])) (ifB (ieq k 9) (ifB (ieq k 9) (Q [I 3]) (Q [I (-1)])) (ifB (ieq k 10) (Q [I 3]) (Q [I (-1)]))))) (ifB (ieq k 6) (ifB (ieq k 6) (Q [I 2]) (ifB (ieq k 8) (ifB (ieq k 8) (Q [I 3]) (Q [I (-1)])) (ifB (ieq k 9) (ifB (ieq k 9) (Q [I 3]) (Q [I (-1)])) (ifB (ieq k 10) (Q [I 3]) (Q [I (-1)]))))) (ifB (ieq k 7) (Q [I 2]) (ifB (ieq k 8) (ifB (ieq k 8) (Q [I 3]) (Q [I (-1)])) (ifB (ieq k 9) (ifB (ieq k 9) (Q [I 3]) (Q [I (-1)])) (ifB (ieq k 10) (Q [I 3]) (Q [I (-1)])))))))))) (ifB (ieq k 2) (Q [I 0]) (ifB (ieq k 3) (ifB (ieq k 3) (Q [I 1]) (ifB (ieq k 5) (ifB (ieq k 5) (Q [I 2]) (ifB (ieq k 8) (ifB (ieq k 8) (Q [I 3]) (Q [I (-1)])) (ifB (ieq k 9) (ifB (ieq k 9) (Q [I 3]) (Q [I (-1)])) (ifB (ieq k 10) (Q [I 3]) (Q [I (-1)]))))) (ifB (ieq k 6) (ifB (ieq k 6) (Q [I 2]) (ifB (ieq k 8) (ifB (ieq k 8) (Q [I 3]) (Q [I (-1)])) (ifB (ieq k 9) (ifB (ieq k 9) (Q [I 3]) (Q [I (-1)])) (ifB (ieq k 10) (Q [I 3]) (Q [I (-1)]))))) (ifB (ieq k 7) (Q [I 2]) (ifB (ieq k 8) (ifB (ieq k 8) (Q [I 3]) (Q [I (-1)])) (ifB (ieq k 9) (ifB (ieq k 9) (Q [I 3]) (Q [I (-1)])) (ifB (ieq k 10) (Q [I 3]) (Q [I (-1)])))))))) (ifB (ieq k 4) (Q [I 1]) (ifB (ieq k 5) (ifB (ieq k 5) (Q [I 2]) (ifB (ieq k 8) (ifB (ieq k 8) (Q [I 3]) (Q [I (-1)])) (ifB (ieq k 9) (ifB (ieq k 9) (Q [I 3]) (Q [I (-1)])) (ifB (ieq k 10) (Q [I 3]) (Q [I (-1)]))))) (ifB (ieq k 6) (ifB (ieq k 6) (Q [I 2]) (ifB (ieq k 8) (ifB (ieq k 8) (Q [I 3]) (Q [I (-1)])) (ifB (ieq k 9) (ifB (ieq k 9) (Q [I 3]) (Q [I (-1)])) (ifB (ieq k 10) (Q [I 3]) (Q [I (-1)]))))) (ifB (ieq k 7) (Q [I 2]) (ifB (ieq k 8) (ifB (ieq k 8) (Q [I 3]) (Q [I (-1)])) (ifB (ieq k 9) (ifB (ieq k 9) (Q [I 3]) (Q [I (-1)])) (ifB (ieq k 10) (Q [I 3]) (Q [I (-1)]))))))))))):Ct prog 306 {} [I k] Q:=
 fN SgT SvT func306 h
open Go Go.Px Go.Proofs Tryz
def manyI(k:Int):Int:=if k<1\/10<k then 0 else if k=2 then 3 else if k=3 then 2 else 1
def roleI(k:Int):Int:=if k=1\/k=2 then 0 else if k=3\/k=4 then 1 else if k=5\/k=6\/k=7 then 2 else if k=8\/k=9\/k=10 then 3 else-1
def lo1(k:Int):Int:=if k=1\/k=8\/k=10 then 1 else 0
def hi1(k:Int):Int:=if k=1 then 3 else if k=3\/k=4 then 2 else 2147483647
def hi2(k:Int):Int:=if k=2\/k=3 then 2147483647 else 0
def hi3(k:Int):Int:=if k=2 then 2147483647 else 0
def valB(k x y z:Int):Bool:=decide (lo1 k<=x/\x<=hi1 k/\0<=y/\y<=hi2 k/\0<=z/\z<=hi3 k)
def someB(n:Int):Bool:=decide (0<=n/\n<=2147483647)
def namB(c:BA):Bool:=decide (1<=c.size/\c.size<=24)
def chkI(s a k:Int)(c:BA)(x y z:Int):Int:=
 if manyI k=0 then 2 else if namB c=false then 3 else if valB k x y z=false then 4 else if a<0\/1099511627776<a then 5 else if s<0\/4294967296<s then 1 else 0
def ifB_iff{x y:Prop}:ifB o x y↔((o=true->x)/\(o=false->y)):=by
 cases o<;>simp[ifB]
def ifB_p{p:Prop}[Decidable p]{x y:Prop}:ifB (decide p) x y↔(if p then x else y):=by
 by_cases h:p<;>simp[h,ifB]
theorem mlt{a b:Nat}(h:a<b):Nl a b:=h
def bor_t:bpick o true O=true↔o=true\/O=true:=by cases o<;>simp
def bor_f:bpick o true O=false↔o=false/\O=false:=by cases o<;>simp
def ieq_t:ieq i b=true↔i=b:=Vs
def ieq_f:ieq i b=false↔¬i=b:=Vs
def igt_t{a b:Int}:igt a b=true↔b<a:=Vs
def igt_f{a b:Int}:igt a b=false↔¬b<a:=Vs
def Zgy(n:Int):Ct prog 349 {} [I n] (λr=>r=[B (someB n)]):=by
 refine some_nf ?_;have:(bpick (ige n 0) (ile n 2147483647) false)=someB n:=(by rw[Bool.eq_iff_iff];simp[someB]);rw[this]
def named_fn(c:BA):Ct prog 166 {} [S c] (λr=>r=[B (namB c)]):=by
 refine named_nf ?_;have:(bpick (ige (slen c) 1) (ile (slen c) 24) false)=namB c:=(by rw[Bool.eq_iff_iff];simp[namB];omega);rw[this]
def many_eq(k:Int):ifB (bpick (ilt k 1) true (igt k 10)) (([I 0]:List SV)=[I (manyI k)]) (ifB (ieq k 2) (([I 3]:List SV)=[I (manyI k)]) (ifB (ieq k 3) (([I 2]:List SV)=[I (manyI k)]) (([I 1]:List SV)=[I (manyI k)]))):=by
 refine Zaa (λh=>?_) (λh=>?_)
 .simp at h;have:k<1\/10<k:=Vo;simp[manyI,this]
 .simp at h;have b:¬(k<1\/10<k):=Vo;refine Zaa (λh=>?_) (λh=>?_)
  .simp at h;simp[manyI,h]
  .simp at h;refine Zaa (λa=>?_) (λa=>?_)
   .simp at a;simp[manyI,a]
   .simp at a;simp[manyI,h,a,b]
def Zrm(k:Int):Ct prog 255 {} [I k] (λr=>r=[I (manyI k)]):=many_nf (many_eq k)
def Zzo(k:Int):Ct prog 322 {} [I k] (λr=>r=[.agg [I (lo1 k),I (hi1 k),I 0,I (hi2 k),I 0,I (hi3 k)]]):=by
 refine bounds_nf ?_;simp only[ieq_eq,ifB_p]
 repeat' split
 all_goals (subst_vars;simp_all[lo1,hi1,hi2,hi3])
def within_fn(s a k:Int)(c:BA)(x y z:Int):Ct prog 256 {} [ev7 s a k c x y z] (λr=>r=[B (valB k x y z)]):=by
 refine within_nf (Cl.of (Zzo k) ⟨_,_,_,_,_,_,rfl,?_⟩);refine⟨λ_ i=>0<=i/\i<=3/\(1<=i->lo1 k<=x/\x<=hi1 k)/\(2<=i->0<=y/\y<=hi2 k)/\(3<=i->0<=z/\z<=hi3 k),λ_ i=>(3-i).toNat,Vo,λb i f=>?_⟩;obtain⟨l,m,n,o,p⟩:=f;refine Zaa (λh=>?_) (λh=>?_)
 .simp at h;have w:wadd IntKind.i64 i 1=i+1:=Zac;have j:i=0\/i=1\/i=2:=Vo;have d:(lo1 k<=x/\x<=hi1 k/\0<=y/\y<=hi2 k/\0<=z/\z<=hi3 k->False)->[B false]=[B (valB k x y z)]:=λg=>by have:valB k x y z=false:=(by simpa[valB]using g);rw[this]
  rw[w];simp only[ifB_iff,ilt_eq,igt_eq,bpick_eq,decide_eq_true_eq,decide_eq_false_iff_not,Bool.false_eq_true,if_false]
  rcases j with rfl|rfl|rfl
  .simp only[true_and,forall_const,and_true,Int.reduceLT,Int.reduceEq,false_implies,Int.reduceLE];refine⟨λh=>d Vo,λh=>⟨λe=>d Vo,λe=>⟨Vo,mlt Vo⟩⟩⟩
  .simp only[true_and,forall_const,and_true,Int.reduceLT,Int.reduceEq,false_implies,Int.reduceLE];refine⟨λh=>d Vo,λh=>⟨λe=>d Vo,λe=>⟨Vo,mlt Vo⟩⟩⟩
  .simp only[true_and,forall_const,and_true,Int.reduceLT,Int.reduceEq,false_implies,Int.reduceLE];refine⟨λh=>d Vo,λh=>⟨λe=>d Vo,λe=>⟨Vo,mlt Vo⟩⟩⟩
 .simp at h;have:valB k x y z=true:=by simp[valB];omega
  simp[this]
def Zzp(s a k:Int)(c:BA)(x y z:Int):Ct prog 305 {} [ev7 s a k c x y z] (λr=>r=[B (valB k x y z)]):=by
 refine values_nf ?_;have e:∀b:Bool,(b=true↔lo1 k<=x/\x<=hi1 k/\0<=y/\y<=hi2 k/\0<=z/\z<=hi3 k)->[B b]=[B (valB k x y z)]:=λb h=>by have:b=valB k x y z:=(by rw[Bool.eq_iff_iff,h];simp[valB]);rw[this]
 simp only[ieq_eq,ifB_p]
 split
 .subst_vars
  refine e _ ?_;simp[lo1,hi1,hi2,hi3];omega
 split
 .subst_vars
  refine Cl.of (Zgy _) ⟨_,rfl,Zaa (λd=>?_) (λd=>?_)⟩
  .refine Cl.of (Zgy _) ⟨_,rfl,Zaa (λf=>?_) (λf=>?_)⟩
   .refine Cl.of (Zgy _) ⟨_,rfl,e _ ?_⟩;simp[someB]at d f;simp[someB,lo1,hi1,hi2,hi3];omega
   .refine e _ ?_;simp[someB]at d f;simp[lo1,hi1,hi2,hi3];omega
  .refine e _ ?_;simp[someB]at d;simp[lo1,hi1,hi2,hi3];omega
 split
 .subst_vars
  refine Zaa (λd=>?_) (λd=>?_)
  .refine Cl.of (Zgy _) ⟨_,rfl,e _ ?_⟩;simp at d;simp[someB,lo1,hi1,hi2,hi3];omega
  .refine e _ ?_;simp at d;simp[lo1,hi1,hi2,hi3];omega
 split
 .subst_vars
  refine e _ ?_;simp[lo1,hi1,hi2,hi3];omega
 split
 .rename_i g;refine Zaa (λd=>?_) (λd=>?_)
  .refine Cl.of (Zgy _) ⟨_,rfl,e _ ?_⟩;simp at d;simp[someB,lo1,hi1,hi2,hi3,g];omega
  .refine e _ ?_;simp at d;simp[lo1,hi1,hi2,hi3,g];omega
 split
 .subst_vars
  refine Zaa (λd=>?_) (λd=>?_)
  .refine Cl.of (Zgy _) ⟨_,rfl,e _ ?_⟩;simp at d;simp[someB,lo1,hi1,hi2,hi3];omega
  .refine e _ ?_;simp at d;simp[lo1,hi1,hi2,hi3];omega
 .refine Cl.of (Zgy _) ⟨_,rfl,e _ ?_⟩
  simp_all[someB,lo1,hi1,hi2,hi3];omega
def many0(k:Int):manyI k=0↔k<1\/10<k:=by
 unfold manyI;repeat' split
 all_goals simp_all
def Znx(s a k:Int)(c:BA)(x y z:Int):Ct prog 176 {} [ev7 s a k c x y z] (λr=>r=[I (chkI s a k c x y z)]):=by
 refine check_nf (Cl.of (Zrm k) ⟨_,rfl,Zaa (λh=>?_) (λh=>?_)⟩)
 .simp at h;simp[chkI,h]
 .simp at h;refine Cl.of (named_fn c) ⟨_,rfl,Zaa (λb=>?_) (λb=>?_)⟩
  .simp at b;simp[chkI,h,b]
  .simp at b;refine Cl.of (within_fn s a k c x y z) ⟨_,rfl,Zaa (λd=>?_) (λd=>?_)⟩
   .simp at d;simp[chkI,h,b,d]
   .simp at d;refine Zaa (λe=>?_) (λe=>?_)
    .simp at e;have:a<0\/1099511627776<a:=Vo;simp[chkI,h,b,d,this]
    .simp at e;have e:¬(a<0\/1099511627776<a):=Vo;refine Zaa (λf=>?_) (λf=>?_)
     .simp at f;have:s<0\/4294967296<s:=Vo;simp[chkI,h,b,d,e,this]
     .simp at f;have f:¬(s<0\/4294967296<s):=Vo;simp[chkI,h,b,d,e,f]
def Zzq(s a k:Int)(c:BA)(x y z:Int):Ct prog 235 {} [ev7 s a k c x y z] (λr=>r=[I (chkI s a k c x y z)]):=by
 refine rcheck_nf (Zaa (λh=>?_) (λh=>?_))
 .simp at h;have:manyI k=0:=(many0 k).2 Vo;simp[chkI,this]
 .simp at h;have h:¬manyI k=0:=λe=>by have:=(many0 k).1 e;omega
  refine Zaa (λb=>?_) (λb=>?_)
  .simp only[bor_t,ieq_t,igt_t,slen_eq]at b;have:namB c=false:=by unfold namB;rw[decide_eq_false_iff_not];omega
   simp[chkI,h,this]
  .simp only[bor_f,ieq_f,igt_f,slen_eq]at b;have b:namB c=true:=by unfold namB;rw[decide_eq_true_eq];omega
   refine Cl.of (Zzp s a k c x y z) ⟨_,rfl,Zaa (λd=>?_) (λd=>?_)⟩
   .simp at d;simp[chkI,h,b,d]
   .simp at d;refine Zaa (λf=>?_) (λf=>?_)
    .simp at f;have:a<0\/1099511627776<a:=Vo;simp[chkI,h,b,d,this]
    .simp at f;have f:¬(a<0\/1099511627776<a):=Vo;refine Zaa (λg=>?_) (λg=>?_)
     .simp at g;have:s<0\/4294967296<s:=Vo;simp[chkI,h,b,d,f,this]
     .simp at g;have g:¬(s<0\/4294967296<s):=Vo;simp[chkI,h,b,d,f,g]
def numL(k x y z:Int):LL:=rsub [[I x],[I y],[I z]] 0 (manyI k)
def Zdb(k:Int):manyI k=0\/manyI k=1\/manyI k=2\/manyI k=3:=by
 unfold manyI;repeat' split
 all_goals simp_all
def Zmm(s a k:Int)(c:BA)(x y z:Int):Ct prog 270 {} [ev7 s a k c x y z] (λr=>r=[SL 1 (numL k x y z)]):=by
 refine Zxz (Cl.of (Zrm k) ⟨_,rfl,?_,rfl⟩);simp only[rlen_eq,List.length_cons,Y9]
 rcases Zdb k with h|h|h|h<;>omega
def nAt(rows:LL)(i:Nat):Int:=
 match rows[i]? with
 |some [.val (.int _ n)]=>n
 |_=>0
def Ints(rows:LL):Prop:=∀r∈rows,∃n:Int,r=[I n]
def Ints.get{rows:LL}(h:Ints rows){i:Nat}(a:i<rows.length)(j:Int)(b:j=(i:Int)):rget rows j=[I (nAt rows i)]:=by
 obtain⟨n,c⟩:=h rows[i] (List.getElem_mem a);subst b;have:rows[i]?=some [I n]:=(by rw[List.getElem?_eq_getElem a,c]);simp[rget,nAt,this]
def Zio{rows:LL}{i:Nat}(a:rows.length<=i):nAt rows i=0:=by
 simp[nAt,Wi a]
def fill_fn(s a k:Int)(c:BA)(x y z:Int)(rows:LL)(b:Ints rows):Ct prog 369 {} [ev7 s a k c x y z,SL 1 rows] (λr=>r=[ev7 s a k c (nAt rows 0) (nAt rows 1) (nAt rows 2)]):=by
 refine fill_nf ?_;simp only[imin_eq,rlen_eq];refine⟨λh=>?_,λh=>⟨_,b.get (i:=0) Vo _ rfl,λd=>?_,λd=>⟨_,b.get (i:=1) Vo _ rfl,λe=>?_,λe=>⟨_,b.get (i:=2) Vo _ rfl,rfl⟩⟩⟩⟩
 .rw[Zio (i:=0) Vo,Zio (i:=1) Vo,Zio (i:=2) Vo]
 .rw[Zio (i:=1) Vo,Zio (i:=2) Vo]
 .rw[Zio (i:=2) Vo]
def Zzr(k:Int):roleI k= -1↔manyI k=0:=by
 rw[many0];unfold roleI
 repeat' split
 all_goals simp
 all_goals omega
def Zxg(k:Int)(h:manyI k≠0):0<=roleI k/\roleI k<=3:=by
 have:roleI k≠-1:=λe=>h ((Zzr k).1 e)
 revert this
 unfold roleI
 repeat' split
 all_goals simp
def many1(h:manyI k=1):hi2 k=0/\hi3 k=0:=by
 have a:k≠2:=λe=>by subst e;simp[manyI]at h
 have b:k≠3:=λe=>by subst e;simp[manyI]at h
 simp[hi2,hi3,a,b]
def many2(h:manyI k=2):hi3 k=0:=by
 have a:k≠2:=λe=>by subst e;simp[manyI]at h
 simp[hi3,a]
def chk0(h:chkI i j k s b c z=0):manyI k≠0/\namB s=true/\valB k b c z=true/\¬(j<0\/1099511627776<j)/\¬(i<0\/4294967296<i):=by
 unfold chkI at h
 split at h
 .simp at h
 split at h
 .simp at h
 split at h
 .simp at h
 split at h
 .simp at h
 split at h
 .simp at h
 simp_all
def role_fn(k:Int):Ct prog 257 {} [I k] (λr=>r=[I (roleI k)]):=by
 refine role_nf ?_;simp only[ieq_eq,ifB_p]
 repeat' split
 all_goals (subst_vars;simp_all[roleI])
def rrole_fn(k:Int):Ct prog 306 {} [I k] (λr=>r=[I (roleI k)]):=by
 refine rrole_nf ?_;simp only[ieq_eq,ifB_p]
 repeat' split
 all_goals (subst_vars;simp_all[roleI])
namespace Cod
open Go Go.Px Go.Proofs Tryz
def SgT:FuncId->Sig:=(λf=>bif Nat.beq f 70 then⟨[],[.own]⟩else bif Nat.beq f 224 then⟨[],[.own]⟩else bif Nat.beq f 91 then⟨[],[.own]⟩else bif Nat.beq f 158 then⟨[],[.own]⟩else bif Nat.beq f 325 then⟨[],[.own]⟩else bif Nat.beq f 326 then⟨[],[.own]⟩else bif Nat.beq f 140 then⟨[],[.own]⟩else{})
def SvT:TypeId->Sig:=λ_=>{}
abbrev cx3(s a:Int)(b:LL):SV:=.agg [I s,I a,SL 1 b]
abbrev cu3(bs:LL)(a e:Int):SV:=.agg [SL 1 bs,I a,I e]
def cloneB_nf{rows:LL}(h:∀b,((b=true)->rlen rows=0)->ifB b (Q ([SL 1 []])) (((lsum (rlen []) (rlen rows))<=2147483648)/\Q ([SL 1 (rapp [] rows)]))):Ct prog 140 ⟨[],[.own]⟩ [SL 1 rows] Q:=
 fN SgT SvT func140 h
def cloneS_nf{rows:LL}(h:∀b,((b=true)->rlen rows=0)->ifB b (Q ([SL 1 []])) (((lsum (rlen []) (rlen rows))<=2147483648)/\Q ([SL 1 (rapp [] rows)]))):Ct prog 326 ⟨[],[.own]⟩ [SL 1 rows] Q:=
 fN SgT SvT func326 h
def Zyk{rows:LL}(h:Cl prog 140 sO [SL 1 rows] (λc=>∃l,(c=[SL 1 l])/\∃b:LL->Int->Prop,∃m:LL->Int->Nat,(b l i)/\∀a x,(b a x)->ifB (ige x 128) (((lsum (rlen a) (rlen ([[U8 (wor .u8 (wcv .u8 x) 128)]])))<=2147483648)/\((0:Int)<=7)/\((Option.some []:Option LL)=Option.some [])/\(b (rapp a ([[U8 (wor .u8 (wcv .u8 x) 128)]])) (wshr .u64 x 7))/\Nl (m (rapp a ([[U8 (wor .u8 (wcv .u8 x) 128)]])) (wshr .u64 x 7)) (m a x)) (((lsum (rlen a) (rlen ([[U8 (wcv .u8 x)]])))<=2147483648)/\Q ([SL 1 (rapp a ([[U8 (wcv .u8 x)]]))])))):Ct prog 70 ⟨[],[.own]⟩ [SL 1 rows,U64 i] Q:=
 fN SgT SvT func70 h
def Zyl{rows:LL}(h:Cl prog 70 sO [SL 1 rows,U64 (wcv .u64 (slen t))] (λa=>∃l,(a=[SL 1 l])/\((lsum (rlen l) (rlen (Zch t)))<=2147483648)/\Q [SL 1 (rapp l (Zch t))])):Ct prog 224 ⟨[],[.own]⟩ [SL 1 rows,S t] Q:=
 fN SgT SvT func224 h
def places_nf{rows:LL}(h:∃b:Int->(List (Prod BA Int))->Prop,∃m:Int->(List (Prod BA Int))->Nat,(b 0 [])/\∀x,∀a:List (Prod BA Int),(b x a)->ifB (ilt x (rlen rows)) (((0<=x)/\x<(rlen rows))/\∃s,(rget rows x=[S s])/\ifB (bnot (mhas a s)) (((Option.some []:Option LL)=Option.some [])/\(b (wadd .i64 x 1) (mset a s (wadd .i64 x 1)))/\Nl (m (wadd .i64 x 1) (mset a s (wadd .i64 x 1))) (m x a)) (((Option.some []:Option LL)=Option.some [])/\(b (wadd .i64 x 1) a)/\Nl (m (wadd .i64 x 1) a) (m x a))) (Q [SV.mapv a])):Ct prog 325 ⟨[],[.own]⟩ [SL 1 rows] Q:=
 fN SgT SvT func325 h
def place_nf{rows:LL}(h:Cl prog 325 sO [SL 1 rows] (λb=>∃a:List (Prod BA Int),(b=[SV.mapv a])/\Q [I (mget a t)])):Ct prog 268 {} [SL 1 rows,S t] Q:=
 fN SgT SvT func268 h
def Zym(h:Cl prog 166 sP [S t] (λa=>∃b,(a=[B b])/\Q [B (bnot b)])):Ct prog 327 {} [S t] Q:=
 fN SgT SvT func327 h
def indexS_nf{rows:LL}{f:FuncId}(h:∃c:Int->Int->Prop,∃m:Int->Int->Nat,(c 0 0)/\∀x a,(c x a)->ifB (ilt a (rlen rows)) (((0<=a)/\a<(rlen rows))/\∃s,(rget rows a=[S s])/\Cl prog f sP ((S s)::C) (λe=>∃b,(e=[B b])/\ifB b (Q [I a]) (((Option.some []:Option LL)=Option.some [])/\(c x (wadd .i64 a 1))/\Nl (m x (wadd .i64 a 1)) (m x a)))) (Q [I (-1)])):Ct prog 280 {} [SL 1 rows,.clo f C] Q:=
 fN SgT SvT func280 h
def contS_nf{rows:LL}{f:FuncId}(h:Cl prog 280 sP [SL 1 rows,SV.clo f C] (λb=>∃x,(b=[I x])/\Q [B (ige x 0)])):Ct prog 208 {} [SL 1 rows,.clo f C] Q:=
 fN SgT SvT func208 h
def nright_nf{rows:LL}(h:ifB (igt (rlen rows) 32) (Q [B false]) (Cl prog 325 sO [SL 1 rows] (λd=>∃a:List (Prod BA Int),(d=[SV.mapv a])/\ifB (bpick false true (ilt (mlen a) (rlen rows))) (Q [B false]) (Cl prog 208 sP ([SL 1 rows,SV.clo 327 []]) (λc=>∃b,(c=[B b])/\Q [B (bnot b)]))))):Ct prog 272 {} [SL 1 rows] Q:=
 fN SgT SvT func272 h
def nput_nf{rows:LL}(h:Cl prog 272 sP [SL 1 rows] (λg=>∃b,(g=[B b])/\ifB (bnot b) (Q [SL 1 rows,I 1]) (Cl prog 166 sP [S t] (λa=>∃e,(a=[B e])/\ifB (bnot e) (Q [SL 1 rows,I 3]) (Cl prog 268 sP [SL 1 rows,S t] (λc=>∃x,(c=[I x])/\ifB (igt x 0) (Q [SL 1 rows,I 7]) (ifB (ieq (rlen rows) 32) (Q [SL 1 rows,I 9]) (Cl prog 326 sO [SL 1 rows] (λd=>∃l,(d=[SL 1 l])/\((lsum (rlen l) (rlen ([[S t]])))<=2147483648)/\Q ([SL 1 (rapp l ([[S t]])),I 0])))))))))):Ct prog 269 {} [SL 1 rows,S t] Q:=
 fN SgT SvT func269 h
def nat_nf{rows:LL}(h:ifB (bpick (ilt i 1) true (igt i (rlen rows))) (Q ([S (bA []),I 14])) (((0<=(wsub .i64 i 1))/\(wsub .i64 i 1)<(rlen rows))/\∃s,(rget rows (wsub .i64 i 1)=[S s])/\Q [S s,I 0])):Ct prog 368 {} [SL 1 rows,I i] Q:=
 fN SgT SvT func368 h
def clip_nf{rows:LL}(h:(((0:Int)<=0)/\(0<=(rlen rows))/\(rlen rows=rlen rows)/\(rlen rows)<=(rlen rows))/\Q [SL 1 (rsub rows 0 (rlen rows))]):Ct prog 267 {} [SL 1 rows] Q:=
 fN SgT SvT func267 h
def cright_nf(h:ifB (bpick (bpick (bpick (ige i 0) (ile i 4294967296) false) (ige c 0) false) (ile c 1099511627776) false) (Cl prog 272 sP [SL 1 l] (λe=>∃b,(e=[B b])/\Q [B (bpick true b false)])) (Q [B false])):Ct prog 193 {} [cx3 i c l] Q:=
 fN SgT SvT func193 h
theorem Zs2{a:Int}(b:0<=a:=by omega)(c:a<=18446744073709551615:=by omega):IntKind.u64.wrap a=a:=by
 simp only[IntKind.wrap,IntKind.signed,IntKind.bits];simp;omega
def Zcf{a:Int}(b:0<=a:=by omega)(c:a<=18446744073709551615:=by omega):wcv .u64 a=a:=Zs2 b c
def Zh1{a:Int}(b: -9223372036854775808<=a:=by omega)(c:a<=9223372036854775807:=by omega):wcv .i64 a=a:=Zbj b c
def wcvU8(a:Int)(b:0<=a):wcv .u8 a=a%256:=by
 simp only[wcv,IntKind.wrap,IntKind.signed,IntKind.bits];simp
def clone_nR(rows:LL)(h:rows.length<=2147483648):Ct prog 326 ⟨[],[.own]⟩ [SL 1 rows] (λr=>r=[SL 1 rows]):=by
 refine cloneS_nf (λb a=>Zaa (λe=>?_) (λe=>⟨?_,?_⟩))
 .have:=a e;have:rows=[]:=(by simpa using this);rw[this]
 .simp;omega
 .simp[rapp]
def Zvp(rows:LL)(h:rows.length<=2147483648):Ct prog 140 ⟨[],[.own]⟩ [SL 1 rows] (λr=>r=[SL 1 rows]):=by
 refine cloneB_nf (λb a=>Zaa (λe=>?_) (λe=>⟨?_,?_⟩))
 .have:=a e;have:rows=[]:=(by simpa using this);rw[this]
 .simp;omega
 .simp[rapp]
def shr7(h:0<=i):wshr .u64 i 7=i/128:=by
 simp only[wshr,IntKind.bits];simp;exact Int.fdiv_eq_ediv_of_nonneg _ Vo
def or128(a:0<=i):wor .u8 (wcv .u8 i) 128=i%128+128:=by
 rw[wcvU8 i a];have b:0<=i%256:=Vo;have c:i%256<256:=Vo;have d:i%128=(i%256)%128:=Vo;rw[d];generalize i%256=y at b c
 obtain⟨n,rfl⟩:∃n:Nat,y=n:=⟨y.toNat,Vo⟩
 have e:n<256:=Vo;clear a d b c
 revert n
 decide
def Zaq(l:List Int)(n:Int)(b:0<=n)(d:n<=18446744073709551615)(f:l.length<=100000):Ct prog 70 ⟨[],[.own]⟩ [SL 1 (bR l),U64 n] (λr=>r=[SL 1 (bR (l++leb n.toNat))]):=by
 refine Zyk (Cl.of (Zvp _ Vm) ⟨_,rfl,?_⟩);refine⟨λrows x=>∃a:List Int,rows=bR a/\0<=x/\x<=n/\a.length+(leb x.toNat).length=l.length+(leb n.toNat).length/\a++leb x.toNat=l++leb n.toNat,λ_ x=>x.toNat,⟨l,rfl,b,Vo,rfl,rfl⟩,?_⟩;rintro rows x ⟨a,rfl,hx,hxn,hlen,he⟩
 have g:(leb n.toNat).length<=10:=Zee 9 _ (by
  have:n.toNat<18446744073709551616:=Vo
  exact Nat.lt_of_lt_of_le this Vd)
 have i:=Zf0 x.toNat;refine Zaa (λh=>?_) (λh=>?_)
 .simp at h;have e:=Zfz (n:=x.toNat) Vo;have e2:(x/128).toNat=x.toNat/128:=Vo;refine⟨Vm,Vo,rfl,?_,?_⟩
  .rw[or128 hx,shr7 hx];refine⟨a++[x%128+128],by simp[rapp],Vo,Vo,?_,?_⟩
   .rw[e]at hlen;simp at hlen|-;rw[e2];omega
   .rw[<-he,e,e2];have:((x.toNat%128+128:Nat):Int)=x%128+128:=Vo;rw[this];simp
  .rw[shr7 hx];exact mlt (by dsimp only;omega)
 .simp at h;have e:=Zfh (n:=x.toNat) Vo;have c:wcv .u8 x=x:=by rw[wcvU8 x hx];omega
  refine⟨Vm,?_⟩;rw[c,<-he,e];have:((x.toNat:Nat):Int)=x:=Vo;simp[rapp,this]
def txB(t:BA):List Int:=t.data.toList.map λb=>(b.toNat:Int)
def Zqx(t:BA):Zch t=bR (txB t):=by
 simp only[Zch,txB,bR,List.map_map];rfl
def Zcj(t:BA):(txB t).length=t.size:=by
 simp only[txB,List.length_map,Array.length_toList];rfl
def txB_byte:∀x∈txB t,0<=x/\x<=255:=by
 intro x hx;simp only[txB,Ya]at hx;obtain⟨b,_,rfl⟩:=hx;have:=b.toNat_lt;omega
def Znc(l:List Int)(t:BA)(a:l.length<=100000-10)(b:t.size<=1000):Ct prog 224 ⟨[],[.own]⟩ [SL 1 (bR l),S t] (λr=>r=[SL 1 (bR (l++leb t.size++txB t))]):=by
 refine Zyl ?_;rw[slen_eq,Zcf];have c:(leb t.size).length<=2:=Zee 1 _ Vo;refine Cl.of (Zaq l t.size Vo Vo Vo) ⟨_,rfl,?_,?_⟩
 .rw[Zqx];simp[Zcj];omega
 .rw[Zqx];simp[rapp]
def Zqy(l:List BA)(d:l.length<=1000000):Ct prog 325 ⟨[],[.own]⟩ [SL 1 (nR l)] (λr=>∃a,r=[.mapv a]/\Plcs l a):=by
 refine places_nf ⟨λx a=>0<=x/\x<=l.length/\Plcs (l.take x.toNat) a,λx _=>(l.length-x).toNat,⟨Vo,Vo,Plcs.nil⟩,?_⟩;rintro x a ⟨h0,h1,hp⟩;refine Zaa (λh=>?_) (λh=>?_)
 .simp at h;have w:wadd IntKind.i64 x 1=x+1:=Zac;have c:l.take (x+1).toNat=l.take x.toNat++[nmAt l x]:=(by rw[show(x+1).toNat=x.toNat+1 by omega,Zqq Vo];congr 3;omega);refine⟨⟨h0,by simpa using h⟩,_,Zsq h0 h,?_⟩;rw[w];refine Zaa (λb=>⟨rfl,⟨Vo,Vo,?_⟩,mlt (by dsimp only;omega)⟩) (λb=>⟨rfl,⟨Vo,Vo,?_⟩,mlt (by dsimp only;omega)⟩)
  .simp at b;rw[c];exact hp.new b (by rw[List.length_take];omega)
  .simp at b;rw[c];exact hp.old b
 .simp at h;exact⟨_,rfl,by rwa[List.take_of_length_le Vo]at hp⟩
def Zvq(l:List BA)(t:BA)(a:l.length<=1000000):Ct prog 268 {} [SL 1 (nR l),S t] (λr=>r=[I (plc l t)]):=by
 refine place_nf (Cl.ofQ (Zqy l a) ?_);rintro r ⟨es,rfl,hp⟩;exact⟨_,rfl,by rw[hp.get]⟩
def Zy3(t:BA):Ct prog 327 {} [S t] (λr=>r=[B (!namB t)]):=
 Zym (Cl.of (named_fn t) ⟨_,rfl,Vs⟩)
def contS_fn(l:List BA)(f:l.length<=1000000):Ct prog 208 {} [SL 1 (nR l),.clo 327 []] (λr=>r=[B (!decide (∀s∈l,namB s=true))]):=by
 have A:Ct prog 280 {} [SL 1 (nR l),.clo 327 []] (λr=>∃x:Int,r=[I x]/\(0<=x↔¬∀s∈l,namB s=true)):=by
  refine indexS_nf ⟨λ_ x=>0<=x/\x<=l.length/\∀s∈l.take x.toNat,namB s=true,λ_ x=>(l.length-x).toNat,⟨Vo,Vo,Vs⟩,?_⟩;rintro _ x ⟨h0,h1,hp⟩;refine Zaa (λh=>?_) (λh=>?_)
  .simp at h;have w:wadd IntKind.i64 x 1=x+1:=Zac;have e:l.take (x+1).toNat=l.take x.toNat++[nmAt l x]:=(by rw[show(x+1).toNat=x.toNat+1 by omega,Zqq Vo];congr 3;omega);refine⟨⟨h0,by simpa using h⟩,_,Zsq h0 h,Cl.of (Zy3 _) ⟨_,rfl,Zaa (λb=>?_) (λb=>⟨rfl,?_,?_⟩)⟩⟩
   .simp at b;refine⟨x,rfl,⟨λ_ c=>?_,λ_=>h0⟩⟩;rw[c _ (nmAt_mem h0 h)]at b
    cases b
   .simp at b;rw[w];refine⟨Vo,Vo,λs a=>?_⟩;rw[e]at a
    rcases List.mem_append.1 a with a|a
    .exact hp s a
    .simp at a;rw[a];exact b
   .rw[w];exact mlt (by dsimp only;omega)
  .simp at h;refine⟨-1,rfl,⟨λh=>Vo,λd=>absurd ?_ d⟩⟩;rwa[List.take_of_length_le Vo]at hp
 refine contS_nf (Cl.ofQ A ?_);rintro r ⟨x,rfl,hx⟩;refine⟨_,rfl,?_⟩;have:ige x 0=!decide (∀s∈l,namB s=true):=(by rw[Bool.eq_iff_iff];simp[hx]);rw[this]
def Zqz(l:List BA):Ct prog 272 {} [SL 1 (nR l)] (λr=>r=[B (rgtB l)]):=by
 refine nright_nf (Zaa (λh=>?_) (λh=>?_))
 .simp at h;have:rgtB l=false:=by unfold rgtB;rw[decide_eq_false_iff_not];omega
  rw[this]
 .simp at h;refine Cl.ofQ (Zqy l Vo) ?_;rintro r ⟨es,rfl,hp⟩;refine⟨_,rfl,Zaa (λa=>?_) (λa=>?_)⟩
  .simp[mlen]at a;have:rgtB l=false:=(by unfold rgtB;rw[decide_eq_false_iff_not];rintro⟨_,_,c⟩;have:=hp.nd.2 c;omega);rw[this]
  .simp[mlen]at a;have c:l.Nodup:=hp.nd.1 (by have:=hp.le;omega);refine Cl.of (contS_fn l Vo) ⟨_,rfl,?_⟩;have:bnot (!decide (∀s∈l,namB s=true))=rgtB l:=(by rw[bnot_eq,Bool.not_not];unfold rgtB;exact decide_eq_decide.2 ⟨λb=>⟨Vo,b,c⟩,λb=>b.2.1⟩);rw[this]
def putN(l:List BA)(t:BA):List BA×Int:=
 if rgtB l=false then(l,1)else if namB t=false then(l,3)else if 0<plc l t then(l,7)else if l.length=32 then(l,9)else(l++[t],0)
def nput_fn(l:List BA)(t:BA):Ct prog 269 {} [SL 1 (nR l),S t] (λr=>r=[SL 1 (nR (putN l t).1),I (putN l t).2]):=by
 refine nput_nf (Cl.of (Zqz l) ⟨_,rfl,Zaa (λh=>?_) (λh=>?_)⟩)
 .simp at h;simp[putN,h]
 .simp at h;have d:=(Zc6.1 h).1;refine Cl.of (named_fn t) ⟨_,rfl,Zaa (λa=>?_) (λa=>?_)⟩
  .simp at a;simp[putN,h,a]
  .simp at a;refine Cl.of (Zvq l t Vo) ⟨_,rfl,Zaa (λc=>?_) (λc=>?_)⟩
   .simp at c;simp[putN,h,a,c]
   .simp at c;refine Zaa (λb=>?_) (λb=>?_)
    .simp at b;have b:l.length=32:=Vo;simp[putN,h,a,c,b]
    .simp at b;have b:¬l.length=32:=Vo;refine Cl.of (clone_nR _ Vm) ⟨_,rfl,Vm,?_⟩;simp[putN,h,a,c,b,rapp]
def nat_fn(l:List BA)(p:Int)(a: -1000<=p)(b:p<=1000):Ct prog 368 {} [SL 1 (nR l),I p] (λr=>r=(if 1<=p/\p<=l.length then[S (nmAt l (p-1)),I 0]else[S (bA []),I 14])):=by
 refine nat_nf (Zaa (λh=>?_) (λh=>?_))
 .simp at h;rw[if_neg Vo]
 .simp at h;have w:wsub IntKind.i64 p 1=p-1:=Zap;rw[w,if_pos Vo];exact⟨⟨Vo,Vm⟩,_,Zsq Vo Vo,rfl⟩
def clip_fn(rows:LL):Ct prog 267 {} [SL 1 rows] (λr=>r=[SL 1 rows]):=by
 refine clip_nf ⟨Vs,?_⟩;simp[rsub]
def ctxB(a b:Int)(l:List BA):Bool:=decide (0<=a/\a<=4294967296/\0<=b/\b<=1099511627776)&&rgtB l
def cright_eq(a c:Int)(l:List BA){f:FuncId}(d:Ct prog f {} [SL 1 (nR l)] (λr=>r=[B (rgtB l)])):ifB (bpick (bpick (bpick (ige a 0) (ile a 4294967296) false) (ige c 0) false) (ile c 1099511627776) false) (Cl prog f sP [SL 1 (nR l)] (λ(e:List SV)=>∃b:Bool,(e=[B b])/\([B (bpick true b false)]=[B (ctxB a c l)]))) ([B false]=[B (ctxB a c l)]):=by
 refine Zaa (λh=>?_) (λh=>?_)
 .simp at h;refine Cl.of d ⟨_,rfl,?_⟩;have:decide (0<=a/\a<=4294967296/\0<=c/\c<=1099511627776)=true:=Vm
  simp[ctxB,this]
 .simp at h;have:decide (0<=a/\a<=4294967296/\0<=c/\c<=1099511627776)=false:=by rw[decide_eq_false_iff_not];omega
  simp[ctxB,this]
def Zfx(a b:Int)(l:List BA):Ct prog 193 {} [cx3 a b (nR l)] (λr=>r=[B (ctxB a b l)]):=cright_nf (cright_eq a b l (Zqz l))

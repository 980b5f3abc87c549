import Derived.Test.YtgehiiginclniaaGreatDoorK02
set_option linter.all false
set_option maxRecDepth 100000
variable{b c i j:Int}{m n p:Nat}{s:BA}{v:Go.Value}{U u:Go.Px.SV}{T:Go.TypeId}
namespace Go.Px
open Go.RowKit
section
variable{X:Cx}{h:Hp}{ρ:Nat->Loc}{st:St}{a:Act}{w:World}{P:Program}
def Zsy{b:World}{cs:Array Value}{e:TypeId}{fz:Nat×Nat}{rows:LL}{f:List Value}(g:Flat h p rows f)(l:0<p)(d:rows.length<=m)(q:m<=9223372036854775807)
  (u:b.heap[n]?=some (.cells cs e fz)) (x:m*p<=cs.size) (s:∀o,o<m*p->¬(fz.1<=o/\o<fz.2)) (y:∀o,h n o=none) (t:fz=(0,0)\/(p=1/\cs.size<=fz.1)) (z:∀(k:Nat) v,f[k]?=some v->cs[k]?=some v):
  OwnOK h b ⟨n,0,rows.length,m,p,false⟩ p rows:=
 Zqq l d q g.row u x s y t λi r j c A C=>by obtain⟨v,e1,e2⟩:=g.cell i r j c A C;exact⟨v,z _ _ e1,e2,g.one v (Yn e1)⟩
def Zai(w:World)(o:Obj):Keeps (λ_=>False) w (w.drew.alloc o):=
 (Zzh w).trans (Zbs w.drew o)
def OwnOK.flat{l:Loc}{b:Nat}{rows:LL}(o:OwnOK h w l b rows):∃e,Flat h b rows e/\∀d:World,d.heap[l.blk]?=w.heap[l.blk]?->(loadCells ⟨l.blk,l.off,none⟩ (rows.length*b)).run P d= .ok e.toArray d:=by
 obtain⟨p,t,q,k,s,u,m⟩:=o.hblk
 exact Zo8 o.pos o.hrow (λi r j c f g=>by
  obtain⟨v,e1,e2,n⟩:=m i r j c f g
  exact⟨v,by simp[World.cell?,k,e1],e2,n⟩)
def OwnOK.more{l:Loc}{b:Nat}{rows g:LL}{A:List Value}(o:OwnOK h w l b rows)(f:Flat h b g A)(m:rows.length+g.length<=l.cap):
  ∃w',(storeCells ((⟨l.blk,l.off,none⟩:Addr).add (rows.length*b)) A).run P w= .ok () w'/\Keeps (λk=>k=l.blk) w w'/\(∀k,k≠l.blk->w'.heap[k]?=w.heap[k]?)/\OwnOK h w' {l with len:=rows.length+g.length} b (rapp rows g):=by
 obtain⟨p,t,E,s,R,y,J⟩:=o.hblk;have K:rows.length*b+g.length*b<=l.cap*b:=by rw[<-Yj];exact Y9 b m
 have n:=Zb5 P l.blk (l.off+rows.length*b) t E A 0 p w s (by rw[f.len];omega) f.one (λx L D=>y x Vo (by rw[f.len]at D;omega));rw[Zbt];simp only[Nat.add_zero]at n;refine⟨_,n,Zb2 _ _ _,λk H=>setRow_other _ _ _ _ H,⟨o.pos,o.hsz,by simp[rapp],by simp[rapp];exact m,λi r d=>?_,⟨_,t,E,setRow_heap w _ p _ t _ s,?_,y,λi r j c d C=>?_⟩,o.hh,λM Q N e=>by rw[setRow_heap w _ p _ t _ s]at e;cases e;exact(o.hfz _ _ _ s).imp (λz=>z) λq=>⟨q.1,by simp[f.len];omega⟩,o.hcm⟩⟩
 .simp only[rapp,List.getElem?_append]at d
  split at d
  .exact o.hrow i r d
  .exact f.row _ r d
 .grind
 .simp only[rapp,List.getElem?_append]at d;simp only[Ys];have U:(List.take (l.off+rows.length*b) p.toList).length=l.off+rows.length*b:=Vm
  split at d
  .rename_i u;obtain⟨v,e1,e2,T⟩:=J i r j c d C;have F:j<b:=by have:=(Y0.1 C).1;rw[o.hrow i r d]at this;exact this
   have:=Zml u F
   grind
  .rename_i u;obtain⟨v,e1,e2⟩:=f.cell _ r j c d C;refine⟨v,?_,e2,f.one v (Yn e1)⟩;have O:rows.length*b<=i*b:=Y9 b Vo;have G:=(Y0.1 e1).1;rw[WV]at e1 G
   grind
structure Appended(X:Cx)(h:Hp)(st st':St)(a:Act)(w:World)(v:Value)(w':World)(id:Nat)(ρ:Nat->Loc):Prop where
 fits:∃ρ',FitsAt X h ρ' st' a w'/\Rep h ρ' v (.osl id)
 size:w.heap.size<=w'.heap.size
def Zx8(F:FitsAt X h ρ st a w){t1 t2 e ty:TypeId}{vx vy:Value}{y:SV}{Q:Option Nat}{c:LL}{z id d:Nat}{rows:LL}(J:P.underlying t1=some (.slice e))(hz:szT P e=some z)(K:Zb9 P e=true)
  (Y:Zi9 P st t2 y=some (Q,c)) (a1:Rep h ρ vy y) (a2:srcOK z Q=true) (ho:oget st.objs id=some (.own z rows)) (R:Rep h ρ vx (.osl id)) (ab:lsum (rlen rows) (rlen c)<=most) (s:idOK d=true):
  ∃v w',(Builtin.append_ #[t1,t2] ty #[vx,vy]).run P w= .ok v w'/\(∃ρ',FitsAt X h ρ' ((st.drop id).bind d (.own z (rapp rows c))) a w'/\Rep h ρ' v (.osl d))/\w.heap.size<=w'.heap.size/\
   ∀b,b<w.heap.size->(live st.objs ρ id->(ρ id).blk≠b)->w'.heap[b]?=w.heap[b]?:=by
 obtain⟨i,zv,L,U,E,V,a4,ac⟩:=Zcg K;have a7:z=i.size:=Vg;subst a7;obtain⟨⟨d2,x,A⟩,q,Z,M,g⟩:=Zeh (P:=P) F a1 Y a2 E;have C:rows.length+c.length<=2147483648:=(by grind [lsum,rlen,most,Int.ofNat_eq_natCast]);have Fd:=F.drop id (ρ':=ρ) (λ_ _=>rfl) (.inr rfl);have D:∀k,live (st.drop id).objs ρ k->k≠id/\live st.objs ρ k:=λk l=>live_drop (λ_ _=>rfl) l
 have H:∀(cs:Array Value) (f:Nat),rows.length+c.length<=f->OwnOK h (w.drew.alloc (.cells cs e)) ⟨w.heap.size,0,(rapp rows c).length,f,i.size,false⟩ i.size (rapp rows c)->
   ∃ρ',FitsAt X h ρ' ((st.drop id).bind d (.own i.size (rapp rows c))) a (w.drew.alloc (.cells cs e))/\Rep h ρ' (.slice (some ⟨w.heap.size,0,none⟩) (rapp rows c).length f) (.osl d):=by
  intro cs f m t;have hl:(⟨w.heap.size,0,(rapp rows c).length,f,i.size,false⟩:Loc).none=false:=rfl;refine⟨upd ρ d _,Fd.newOwn d s (.own i.size (rapp rows c)) ⟨w.heap.size,0,(rapp rows c).length,f,i.size,false⟩ (Zai w _) Vs (λ_=>Nat.le_refl _) (.inr ⟨by rw[Zac],by rw[Zac];exact t⟩),?_⟩;have:=Rep.osl (h:=h) (ρ:=upd ρ d ⟨w.heap.size,0,(rapp rows c).length,f,i.size,false⟩) d (by rw[Zac]);rw[Zac]at this;exact this
 have a8:(rapp rows c).length=rows.length+c.length:=(by simp[rapp]);have W:∀(o:Obj) b,b<w.heap.size->(w.drew.alloc o).heap[b]?=w.heap[b]?:=λo b K=>(Zai w o).block b K (λe=>e);have a0:∀(o:Obj),w.heap.size<=(w.drew.alloc o).heap.size:=λo=>(Zai w o).size
 have O:∀(old:List Value) (f:Nat),Flat h i.size rows old->rows.length+c.length<=f->f<=9223372036854775807->OwnOK h (w.drew.alloc (.cells (old.toArray++Z.toArray++Builtin.zeroCells zv.cells (f-(rows.length+c.length))) e)) ⟨w.heap.size,0,(rapp rows c).length,f,i.size,false⟩ i.size (rapp rows c):=by
  intro old f T m u;refine Zsy (fz:=(0,0)) (e:=e) (cs:=old.toArray++Z.toArray++Builtin.zeroCells zv.cells (f-(rows.length+c.length))) (T.append M) E (by rw[a8];exact m) u (by show(w.heap.push _)[_]?=_;simp) ?_ (λo _=>Vs) (λo=>Zc4 F.sub o _ (Nat.le_refl _)) (.inl rfl) (λk v l=>?_)
  .simp only[YV,YL,T.len,M.len,Builtin.zeroCells,We,Wk,a4];rw[<-Yj,<-Yj]
   grind
  grind
 rcases F.obj id _ ho with⟨N,rfl⟩|⟨N,o⟩
 .rcases R.osl_inv with⟨_,p,rfl⟩|⟨a5,_⟩
  .by_cases h0:c.length=0
   .have a9:c=[]:=Y8 h0;subst a9;have aa:Z=[]:=Y8 (by rw[M.len];simp);subst aa;have j:=Zey (P:=P) (ty:=ty) J L x A (q w) (g w (λ_ _=>rfl)) (p:=p) (n:=0) (cap:=0) Vs (w':=w) (by cases p<;>simp[storeCells]);refine⟨_,_,j,⟨upd ρ d noLoc,Fd.newOwn d s (.own i.size (rapp [] [])) noLoc (Keeps.refl _ _) Vs (by simp[noLoc]) (.inl ⟨by rw[Zac];rfl,rfl⟩),?_⟩,Nat.le_refl _,λ_ _ _=>rfl⟩;exact .osl0 d p (by rw[Zac];rfl)
   .obtain⟨f,m,u,j⟩:=Zfj (P:=P) (ty:=ty) (p:=p) (n:=0) (cap:=0) (old:=[]) J L V U x A (q w) Vo (by simpa using C) (g w.drew (λ_ _=>rfl)) (by
     cases p with
     |none=>simp[Builtin.firstCells]
     |some ad=>simp[Builtin.firstCells,loadCells,loadCellsFrom])
    simp only[Ye]at j m;obtain⟨ρ',F',r'⟩:=H _ f (by simpa using m) (O [] f (Flat.nil _) (by simpa using m) u)
    grind
  grind
 .rcases R.osl_inv with⟨a5,_⟩|⟨_,rfl⟩
  .grind
  .have r:live st.objs ρ id:=⟨⟨_,ho⟩,N⟩
   by_cases hfit:rows.length+c.length<=(ρ id).cap
   .obtain⟨w',hst,l,G,t⟩:=o.more (P:=P) M hfit;have j:=Zey (P:=P) (ty:=ty) J L x A (q w) (g w (λ_ _=>rfl)) (p:=some ⟨(ρ id).blk,(ρ id).off,none⟩) (n:=(ρ id).len) (cap:=(ρ id).cap) (by rw[o.hlen];exact hfit) (w':=w') (by rw[o.hlen];exact hst);have Ft:=Fd.touch (ρ id).blk (λk l=>F.inj k id (D k l).2 r (D k l).1) o.hh (F.own id r) G l;refine⟨_,_,j,⟨upd ρ d {ρ id with len:=rows.length+c.length},Ft.bind d s (.own i.size (rapp rows c)) {ρ id with len:=rows.length+c.length} (.inr ⟨by rw[Zac];exact N,by rw[Zac];exact t⟩) (λ_=>F.own id r) (λ_ k _ l=>F.inj k id (D k l).2 r (D k l).1),?_⟩,l.size,λb K a3=>G b (λe=>a3 r e.symm)⟩;have:=Rep.osl (h:=h) (ρ:=upd ρ d {ρ id with len:=rows.length+c.length}) d (by rw[Zac];exact N)
    grind [Zac,o.hlen]
   .obtain⟨old,ae,a6⟩:=o.flat (P:=P)
    obtain⟨f,m,u,j⟩:=Zfj (P:=P) (ty:=ty) (p:=some ⟨(ρ id).blk,(ρ id).off,none⟩) (n:=(ρ id).len) (cap:=(ρ id).cap) (old:=old) J L V U x A (q w) (by rw[o.hlen];exact hfit) (by rw[o.hlen];exact C) (g w.drew (λ_ _=>rfl)) (by
     simp only[Builtin.firstCells];rw[o.hlen]
     exact a6 w.drew rfl)
    grind [o.hlen]
def append_nil(F:FitsAt X h ρ st a w){K L e ty:TypeId}{A M:Value}{y:SV}{r:Option Nat}{d:LL}{z sz c:Nat}(N:P.underlying K=some (.slice e))(hz:szT P e=some z)(C:Zb9 P e=true)
  (D:Zi9 P st L y=some (r,d)) (O:Rep h ρ M y) (Q:srcOK z r=true) (R:Rep h ρ A (.slice sz [] 1)) (a3:rlen d<=most) (l:idOK c=true):
  ∃v w',(Builtin.append_ #[K,L] ty #[A,M]).run P w= .ok v w'/\(∃s,FitsAt X h s (st.bind c (.own z d)) a w'/\Rep h s v (.osl c))/\w.heap.size<=w'.heap.size/\∀b,b<w.heap.size->w'.heap[b]?=w.heap[b]?:=by
 obtain⟨i,zv,T,U,j,V,W,a4⟩:=Zcg C;have Z:z=i.size:=Vg;subst Z;obtain⟨⟨d2,t,u⟩,m,E,G,g⟩:=Zeh (P:=P) F O D Q j;have q:d.length<=2147483648:=by grind [rlen,most,Int.ofNat_eq_natCast]
 have a0:∃p,A= .slice p 0 0:=by
  cases R with
  |pure _ _ hp=>cases hp with
   |empty p cap _ _ ht J hn=>have:=J rfl;subst this;exact⟨p,rfl⟩
   |slice b off cap _ rows a5 E j hz hh hr ho ht J a6=>have:=J rfl;subst this;exact⟨_,rfl⟩
 obtain⟨p,rfl⟩:=a0;by_cases h0:d.length=0
 .have a1:d=[]:=Y8 h0;subst a1;have a2:E=[]:=Y8 (by rw[G.len];simp);subst a2;have f:=Zey (P:=P) (ty:=ty) N T t u (m w) (g w (λ_ _=>rfl)) (p:=p) (n:=0) (cap:=0) Vs (w':=w) (by cases p<;>simp[storeCells]);refine⟨_,_,f,⟨upd ρ c noLoc,F.newOwn c l (.own i.size []) noLoc (Keeps.refl _ _) Vs (by simp[noLoc]) (.inl ⟨by rw[Zac];rfl,rfl⟩),?_⟩,Nat.le_refl _,λ_ _=>rfl⟩;exact .osl0 c p (by rw[Zac];rfl)
 .obtain⟨H,x,Y,f⟩:=Zfj (P:=P) (ty:=ty) (p:=p) (n:=0) (cap:=0) (old:=[]) N T V U t u (m w) Vo (by simpa using q) (g w.drew (λ_ _=>rfl)) (by
   cases p with
   |none=>simp[Builtin.firstCells]
   |some ad=>simp[Builtin.firstCells,loadCells,loadCellsFrom])
  simp only[Ye]at f x;refine⟨_,_,f,⟨upd ρ c ⟨w.heap.size,0,d.length,H,i.size,false⟩,F.newOwn c l (.own i.size d) _ (Zai w _) Vs (λ_=>Nat.le_refl _) (.inr ⟨by rw[Zac],?_⟩),?_⟩,(Zai w _).size,λb C=>(Zai w _).block b C (λe=>e)⟩
  .rw[Zac];refine Zsy (fz:=(0,0)) (e:=e) (cs:=([]:List Value).toArray++E.toArray++Builtin.zeroCells zv.cells (H-d.length)) G j x Y (by show(w.heap.push _)[_]?=_;simp) ?_ (λo _=>Vs) (λo=>Zc4 F.sub o _ (Nat.le_refl _)) (.inl rfl) (λk v hk=>?_)
   .simp only[YV,YL,List.length_nil,G.len,Builtin.zeroCells,We,Wk,W,Ye];rw[<-Yj]
    grind
   grind
  .have:=Rep.osl (h:=h) (ρ:=upd ρ c ⟨w.heap.size,0,d.length,H,i.size,false⟩) c (by rw[Zac])
   grind [Zac]
end
end Go.Px
namespace Go.Px
open Go.RowKit
section
variable{X:Cx}{h:Hp}{ρ:Nat->Loc}{st:St}{a:Act}{w:World}{P:Program}
def own_store(F:FitsAt X h ρ st a w){id off n d:Nat}{rows:LL}{C D:List SV}(Z:oget st.objs id=some (.own d rows))(hz:szT P T=some n)
  (hy:Rep h ρ v u) (hs:Zec u=some U) (hn:(cellsOf U).length=n) (h0:0<=i) (h1:i<rlen rows) (m:rows[i.toNat]?=some C) (a0:Zbj off (cellsOf U) C=some D) (E:(ρ id).none=false):
  ∃J,(Instr.storeAt T (.pointer (some ⟨(ρ id).blk,(ρ id).off+i.toNat*(ρ id).sz+off,none⟩)) v).run P w= .ok () J/\FitsAt X h ρ {st with objs:=oput st.objs id (.own d (rset rows i D))} a J/\
   w.heap.size<=J.heap.size/\∀b,b≠(ρ id).blk->J.heap[b]?=w.heap[b]?:=by
 rcases F.obj id _ Z with⟨M,_⟩|⟨_,o⟩
 .rw[E]at M;cases M
 .obtain⟨p,ty,fz,K,a7,N,R⟩:=o.hblk;obtain⟨l,O⟩:=Zfi hy hs;obtain⟨a8,rfl⟩:=Zci _ _ _ _ a0;have a2:i.toNat<rows.length:=(Y0.1 m).1;have a9:C.length=d:=o.hrow _ _ m;have a4:i.toNat*d+d<=(ρ id).cap*d:=(by have:(i.toNat+1)*d<=(ρ id).cap*d:=Y9 d (by have:=o.hcap;omega);rw[Yj]at this;omega);have s:(ρ id).sz=d:=o.hsz
  have V:=Zb5 P (ρ id).blk ((ρ id).off+i.toNat*d+off) ty fz v.cells.toList 0 p w K (by simp[l];omega) (λy hu=>by
   obtain⟨k,f,e⟩:=List.mem_iff_getElem.1 hu;have G:k<v.cells.size:=(by simpa using f);have A:k<(cellsOf U).length:=Vo
   exact(O k y _ (by rw[Y1 G];simp at e;rw[e]) (List.getElem?_eq_getElem A)).2) (λx a5 a1=>N x Vo (by simp[l]at a1;omega))
  refine⟨_,?_,F.setOb id (.own d rows) _ (w.setRow (ρ id).blk (p.toList.take ((ρ id).off+i.toNat*d+off+0)++v.cells.toList++p.toList.drop ((ρ id).off+i.toNat*d+off+0+v.cells.toList.length)).toArray) Z E (.inr ⟨E,⟨o.pos,o.hsz,by simp[rset,o.hlen],by simp[rset];exact o.hcap,λk r f=>?_,⟨_,ty,fz,setRow_heap w _ p _ ty _ K,?_,N,λk r j c f g=>?_⟩,o.hh,λD t' a6 e=>by rw[setRow_heap w _ p _ ty _ K]at e;cases e;exact(o.hfz _ _ _ K).imp (λz=>z) λq=>⟨q.1,by simp[l];omega⟩,o.hcm⟩⟩)
   (λb Q=>setRow_other _ _ _ _ Q) (Zb2 _ _ _),Vs,λb Q=>setRow_other _ _ _ _ Q⟩
  .simp only[Instr.storeAt,Instr.sureAddr,storeVar,Sem.run_bind,Sem.run_pure,Result.andThen_ok,run_sizeOf' w hz,s];have:¬(v.cells.size≠n):=by rw[l,hn];simp
   simp only[this,if_false];exact V
  .simp only[rset,List.getElem?_set]at f
   split at f
   .cases f;simp;omega
   .exact o.hrow k r f
  .simp[l];omega
  .have a3:j<d:=by
    have W:=(Y0.1 g).1;simp only[rset,List.getElem?_set]at f
    split at f
    .cases f;simp at W;omega
    .rw[o.hrow k r f]at W;exact W
   have l3:(List.take ((ρ id).off+i.toNat*d+off) p.toList).length=(ρ id).off+i.toNat*d+off:=Vm
   have Y:∀q,(p.toList.take ((ρ id).off+i.toNat*d+off+0)++v.cells.toList++p.toList.drop ((ρ id).off+i.toNat*d+off+0+v.cells.toList.length)).toArray[q]?=
     if(ρ id).off+i.toNat*d+off<=q/\q<(ρ id).off+i.toNat*d+off+(cellsOf U).length then v.cells[q-((ρ id).off+i.toNat*d+off)]? else p[q]?:=by
    intro q;simp only[Nat.add_zero,Ys,Array.length_toList,l];rw[List.append_assoc,List.getElem?_append,l3];by_cases H:q<(ρ id).off+i.toNat*d+off
    .rw[if_pos H,if_neg Vo,Yb,if_pos H];simp
    .rw[if_neg H,List.getElem?_append];simp only[Array.length_toList,l];by_cases hq2:q-((ρ id).off+i.toNat*d+off)<(cellsOf U).length
     .rw[if_pos hq2,if_pos Vo];simp
     .rw[if_neg hq2,if_neg Vo,Yf];simp only[Yp];congr 1;omega
   rw[Y];by_cases hki:k=i.toNat
   .subst hki;simp only[rset,List.getElem?_set,if_true,if_pos a2]at f
    cases f
    rw[List.append_assoc,List.getElem?_append]at g;have l4:(List.take off C).length=off:=Vm
    rw[l4]at g;by_cases L:j<off
    .rw[if_pos L,Yb,if_pos L]at g;rw[if_neg Vo];exact R _ C j c m g
    .rw[if_neg L,List.getElem?_append]at g;by_cases t:j-off<(cellsOf U).length
     .rw[if_pos t]at g;rw[if_pos Vo];have A:j-off<v.cells.size:=Vo;have H:(ρ id).off+i.toNat*d+j-((ρ id).off+i.toNat*d+off)=j-off:=Vo;rw[H];exact⟨v.cells[j-off],Y1 A,O _ _ c (Y1 A) g⟩
     .rw[if_neg t,Yf]at g;rw[if_neg Vo];have:=R _ C j c m (by rw[<-g];congr 1;omega);exact this
   .have G:rows[k]?=some r:=(by simp only[rset,List.getElem?_set]at f;rw[if_neg (λe=>hki e.symm)]at f;exact f);rw[if_neg]
    .exact R k r j c G g
    .rintro⟨L,t⟩;have:=row_inj (i:=k) (i':=i.toNat) (j:=j) (j':=(ρ id).off+k*d+j-((ρ id).off+i.toNat*d)) a3 Vo Vo;exact hki this.1
def Zxw(F:FitsAt X h ρ st a w){m f e:TypeId}(R:P.underlying m=some .string)(T:P.underlying f=some (.slice e))(U:P.underlying e=some (.int .u8))(A:idOK n=true)(C:slen s<=most):
  ∃v g,(convert m f (.string s)).run P w= .ok v g/\(∃u,FitsAt X h u (st.bind n (.own 1 (Zcl s))) a g/\Rep h u v (.osl n))/\w.heap.size<=g.heap.size/\∀b,b<w.heap.size->g.heap[b]?=w.heap[b]?:=by
 have Q:s.size<=2147483648:=by simp only[slen,most,Y7]at C;omega
 let d:=s.size+w.tape w.drawn (.appendCap s.size 0 e)%(2^63-s.size)
 let cs:Array Value:=s.data.map (λb=>.int .u8 b.toNat)++Array.replicate (d-s.size) (.int .u8 0)
 have K:s.size<=d:=(by simp only[d];omega);have E:d<=9223372036854775807:=(by have:=Nat.mod_lt (w.tape w.drawn (.appendCap s.size 0 e)) (show 0<2^63-s.size by omega);simp only[d];omega);have x:cs.size=d:=by have:s.data.size=s.size:=rfl;simp only[cs,YV,We,Array.size_replicate,this];omega
 let w1:=w.drew.alloc (.cells cs e)
 let g:=w1.freeze {block:=w.heap.size,off:=d} 1
 have y:w1.heap[w.heap.size]?=some (.cells cs e (0,0)):=(by show(w.heap.push _)[_]?=_;simp);have L:g.heap[w.heap.size]?=some (.cells cs e (d,d+1)):=(by show(w1.heap.modify w.heap.size _)[w.heap.size]?=_;rw[YW,if_pos rfl,y];rfl);have q:∀b,b<w.heap.size->g.heap[b]?=w.heap[b]?:=λb t=>by show(w1.heap.modify w.heap.size _)[b]?=_;rw[YW,if_neg (by omega:¬w.heap.size=b)];exact(Zai w _).block b t (λe=>e)
 have z:Keeps (λ_=>False) w g:=⟨rfl,rfl,rfl,by show _<=(w1.heap.modify w.heap.size _).size;rw[Array.size_modify];exact(Zai w _).size,λk V _=>q k V⟩
 have G:(convert m f (.string s)).run P w= .ok (.slice (some ⟨w.heap.size,0,none⟩) s.size d) g:=(by have J:(shape w.heap.size).run P w1= .ok (some (e,d)) w1:=(by show Result.ok (w1.shape? w.heap.size) w1=_;simp[World.shape?,y,x]);have M:(newRow e cs).run P w.drew= .ok ⟨w.heap.size,0,none⟩ w1:=(by simp[newRow,w1];rfl);simp only[convert,Sem.run_bind,run_underlying R,run_underlying T,run_underlying U,Result.andThen_ok,Conv.stringToBytes];have N:(choose (.appendCap s.size 0 e)).run P w= .ok d w.drew:=(by simp[choose,Sem.run,Question.forced,Question.cut,d]);simp only[N,Result.andThen_ok];have H:(Array.map (λb=>Value.int IntKind.u8 (b.toNat:Int)) s.data++Array.replicate (d-s.size) (Value.int IntKind.u8 0))=cs:=rfl;rw[H,M];simp only[Result.andThen_ok,markStringish,Sem.run_bind,J,Sem.run_pure];rfl);have l:(Zcl s).length=s.size:=(by unfold Zcl;rw[List.length_map];exact Array.length_toList);refine⟨_,_,G,⟨upd ρ n ⟨w.heap.size,0,(Zcl s).length,d,1,false⟩,F.newOwn n A (.own 1 (Zcl s)) _ z Vs (λ_=>Nat.le_refl _) (.inr ⟨by rw[Zac],?_⟩),?_⟩,z.size,q⟩
 .rw[Zac];refine Zqq (cs:=cs) (e:=e) (fz:=(d,d+1)) Vo (by rw[l];exact K) E (λi r p=>?_) L Vo (λo W=>Vo) (λo=>Zc4 F.sub o _ (Nat.le_refl _)) (.inr ⟨rfl,by rw[x];exact Nat.le_refl _⟩) (λi r j c p D=>?_)
  .simp[Zcl]at p;obtain⟨b,_,rfl⟩:=p;rfl
  .simp[Zcl]at p;obtain⟨b,t,rfl⟩:=p
   cases j with
   |zero=>simp at D;subst D;refine⟨.int .u8 b.toNat,?_,.val _,rfl⟩;have O:=(Y3.1 t).1;simp only[cs,Nat.mul_one,Nat.add_zero];rw[Yq (by simpa using O)];simp[t]
   |succ j=>simp at D
 .have:=Rep.osl (h:=h) (ρ:=upd ρ n ⟨w.heap.size,0,(Zcl s).length,d,1,false⟩) n (by rw[Zac]);rw[Zac]at this;rw[l]at this;rw[l];exact this
def map_store(F:FitsAt X h ρ st a w){t z L:TypeId}{id:Nat}{o:List (BA×Int)}{s:BA}{n:Int}(A:P.underlying t=some (.map z L))(i:P.underlying z=some .string)(C:oget st.objs id=some (.mp o)):
  ∃f,(Instr.mapUpdate t (.map (some (ρ id).blk)) (.string s) (.int .i64 n)).run P w= .ok () f/\FitsAt X h ρ {st with objs:=oput st.objs id (.mp (mset o s n))} a f/\w.heap.size<=f.heap.size/\∀b,b≠(ρ id).blk->f.heap[b]?=w.heap[b]?:=by
 obtain⟨E,⟨d,r,p,u⟩,hno⟩:=F.obj id _ C;have H:(ρ id).blk<w.heap.size:=(Y3.1 p).1
 have m:∀(c:Array MapEntry) (l:Nat),MapOK c (mset o s n)->(Instr.mapUpdate t (.map (some (ρ id).blk)) (.string s) (.int .i64 n)).run P w= .ok () {w with heap:=w.heap.setIfInBounds (ρ id).blk (.map c l)}->
   ∃f,(Instr.mapUpdate t (.map (some (ρ id).blk)) (.string s) (.int .i64 n)).run P w= .ok () f/\FitsAt X h ρ {st with objs:=oput st.objs id (.mp (mset o s n))} a f/\w.heap.size<=f.heap.size/\∀b,b≠(ρ id).blk->f.heap[b]?=w.heap[b]?:=by
  intro c l D q;have g:∀b,b≠(ρ id).blk->(w.heap.setIfInBounds (ρ id).blk (.map c l))[b]?=w.heap[b]?:=λb p=>Yc (YP p);refine⟨_,q,F.setOb id (.mp o) _ _ C E ⟨E,⟨c,l,by simp[H],D⟩,hno⟩ g ⟨rfl,rfl,rfl,Vs,λk O M=>g k M⟩,Vs,g⟩
 rcases Zhi s d.toList o 0 u with⟨N,j,_,G,v,x⟩|⟨N,G,v,x⟩
 .have y:(d[j]?).map (·.key)=some (.string s):=(by simpa using v);have J:((d[j]?).map (·.key)).getD (.string s)= .string s:=(by rw[y];rfl);refine m (d.modify j λe=>{e with key:=.string s,val:=.int .i64 n}) r ?_ ?_
  .have:=x n;simp only[Nat.sub_zero]at this;unfold MapOK;rw[<-this,Array.toList_modify]
  .have K:(Instr.keyThatStays (.string s) (.string s)).run P w= .ok (.string s) w:=(by simp[Instr.keyThatStays,Instr.sameBits,ba_beq]);simp[Instr.mapUpdate,run_underlying A,getObj,setObj,Sem.run,p,Zco i,Instr.findKey,run_underlying i,G,J,K]
 .refine m (d.push {key:=.string s,val:=.int .i64 n,born:=r}) (r+1) ?_ ?_
  .unfold MapOK at u|-;rw[x n];simp[u]
  .simp[Instr.mapUpdate,run_underlying A,getObj,setObj,Sem.run,p,Zco i,Instr.findKey,run_underlying i,v]
def Zxx(F:FitsAt X h ρ st a w){id e:TypeId}{rows:LL}(E:P.underlying id=some (.slice e))(G:P.underlying e=some (.int .u8))(u:oget st.objs n=some (.own 1 rows))
  (H:Rep h ρ v (.osl n)) (q:0<rlen rows):
  ∃d,(convert id id v).run P w= .ok v d/\FitsAt X h ρ {st with objs:=oput st.objs n (.own 1 rows)} a d/\w.heap.size<=d.heap.size/\(ρ n).none=false/\∀b,b≠(ρ n).blk->d.heap[b]?=w.heap[b]?:=by
 have l:0<rows.length:=by simp only[rlen,Y7]at q;omega
 rcases F.obj n _ u with⟨_,M⟩|⟨hn,o⟩
 .rw[M]at l;simp at l
 rcases H.osl_inv with⟨p,_⟩|⟨_,rfl⟩
 .rw[hn]at p;cases p
 obtain⟨c,t,f,r,z,U,N⟩:=o.hblk
 let d:=w.freeze {block:=(ρ n).blk,off:=c.size} 1
 have j:∃g,d.heap[(ρ n).blk]?=some (.cells c t g)/\(g=(c.size,c.size+1)\/(c.size<=f.1/\g=(min f.1 c.size,max f.2 (c.size+1)))):=by
  refine⟨if f.1==f.2 then(c.size,c.size+1)else(min f.1 c.size,max f.2 (c.size+1)),?_,?_⟩
  .show(w.heap.modify (ρ n).blk _)[(ρ n).blk]?=_;rw[YW,if_pos rfl,r];rfl
  .rcases o.hfz c t f r with h0|⟨_,h0⟩
   .rw[h0];exact .inl rfl
   .by_cases hq:(f.1==f.2)=true
    .rw[if_pos hq];exact .inl rfl
    .rw[if_neg hq];exact .inr ⟨h0,rfl⟩
 obtain⟨g,j,s⟩:=j
 have A:c.size<=g.1:=by
  rcases s with h0|⟨h1,h0⟩
  .rw[h0];exact Nat.le_refl _
  .rw[h0];show c.size<=min f.1 c.size;omega
 have i:∀b,b≠(ρ n).blk->d.heap[b]?=w.heap[b]?:=λb J=>by show(w.heap.modify (ρ n).blk _)[b]?=_;rw[YW,if_neg (λe=>J e.symm)]
 have m:d.heap.size=w.heap.size:=by show(w.heap.modify (ρ n).blk _).size=_;rw[Array.size_modify]
 have C:Keeps (λb=>b=(ρ n).blk) w d:=⟨rfl,rfl,rfl,by rw[m];exact Nat.le_refl _,λk _ K=>i k K⟩
 refine⟨d,?_,F.setOb n (.own 1 rows) _ d u hn (.inr ⟨hn,⟨o.pos,o.hsz,o.hlen,o.hcap,o.hrow,⟨c,t,g,j,z,λx O Q R=>Vo,N⟩,o.hh,λT V L y=>by rw[j]at y;cases y;exact .inr ⟨rfl,A⟩,o.hcm⟩⟩) i C,by rw[m];exact Nat.le_refl _,hn,i⟩;have D:(shape (ρ n).blk).run P w= .ok (some (t,c.size)) w:=(by show Result.ok (w.shape? (ρ n).blk) w=_;simp[World.shape?,r]);simp only[convert,Sem.run_bind,run_underlying E,run_underlying G,Result.andThen_ok];simp only[beq_self_eq_true,markStringish,Sem.run_bind,D,Result.andThen_ok,Sem.run_pure];rfl
end
end Go.Px
namespace Go.Px
open Go.RowKit
section
variable{X:Cx}{h:Hp}{ρ:Nat->Loc}{st:St}{a:Act}{w:World}{P:Program}
def Rep.osv_inv{v:Value}{id:Nat}{l b c:Int}(r:Rep h ρ v (.osv id l b c)):∃p:Option Addr,v= .slice p (b-l).toNat (c-l).toNat/\0<=l/\l<=b/\b<=c/\(c=if(ρ id).none then 0 else((ρ id).cap:Int))/\
  (l<c->p=some ⟨(ρ id).blk,(ρ id).off+l.toNat*(ρ id).sz,none⟩):=by
 cases r with
 |pure _ _ d=>cases d
 |osv _ _ _ _ p e f g i d=>exact⟨p,rfl,e,f,g,i,d⟩
def OwnOK.write{l:Loc}{d:Nat}{rows f:LL}{G:List Value}{k:Nat}(o:OwnOK h w l d rows)(m:Flat h d f G)(K:k<=rows.length)(H:k+f.length<=l.cap):
  ∃w',(storeCells ⟨l.blk,l.off+k*d,none⟩ G).run P w= .ok () w'/\Keeps (λb=>b=l.blk) w w'/\(∀b,b≠l.blk->w'.heap[b]?=w.heap[b]?)/\
   OwnOK h w' {l with len:=(rows.take k++f++rows.drop (k+f.length)).length} d (rows.take k++f++rows.drop (k+f.length)):=by
 obtain⟨A,t,N,C,hs,E,O⟩:=o.hblk;have V:k*d+f.length*d<=l.cap*d:=by rw[<-Yj];exact Y9 d H
 have u:=Zb5 P l.blk (l.off+k*d) t N G 0 A w C (by rw[m.len];omega) m.one (λx W L=>E x Vo (by rw[m.len]at L;omega));simp only[Nat.add_zero]at u;have R:(rows.take k).length=k:=Vm;have D:(rows.take k++f++rows.drop (k+f.length)).length<=l.cap:=by have:=o.hcap;simp;omega
 have n:∀(i:Nat) r,(rows.take k++f++rows.drop (k+f.length))[i]?=some r->(i<k/\rows[i]?=some r)\/(k<=i/\i<k+f.length/\f[i-k]?=some r)\/(k+f.length<=i/\rows[i]?=some r):=by
  intro i r g;rw[List.append_assoc,List.getElem?_append,R]at g
  split at g
  next p=>rw[Yb,if_pos p]at g;exact .inl ⟨p,g⟩
  .rename_i p;rw[List.getElem?_append]at g
   split at g
   next M=>exact .inr (.inl ⟨Vo,Vo,g⟩)
   next M=>rw[Yf]at g;refine .inr (.inr ⟨Vo,?_⟩);rw[<-g];congr 1;omega
 refine⟨_,u,Zb2 _ _ _,λk K=>setRow_other _ _ _ _ K,⟨o.pos,o.hsz,rfl,D,λi r g=>?_,⟨_,t,N,setRow_heap w _ A _ t _ C,?_,E,λi r j c g y=>?_⟩,o.hh,λY t' Z e=>by rw[setRow_heap w _ A _ t _ C]at e;cases e;exact(o.hfz _ _ _ C).imp (λz=>z) λq=>⟨q.1,by simp[m.len];omega⟩,o.hcm⟩⟩
 .rcases n i r g with⟨_,e⟩|⟨_,_,e⟩|⟨_,e⟩
  .exact o.hrow _ _ e
  .exact m.row _ _ e
  .exact o.hrow _ _ e
 .simp[m.len];omega
 .simp only[Ys];have s:(List.take (l.off+k*d) A.toList).length=l.off+k*d:=Vm
  rcases n i r g with⟨Q,e⟩|⟨p,M,e⟩|⟨p,e⟩
  .obtain⟨v,e1,e2,J⟩:=O i r j c e y;have T:j<d:=by have:=(Y0.1 y).1;rw[o.hrow i r e]at this;exact this
   have:=Zml Q T;refine⟨v,?_,e2,J⟩;rw[List.append_assoc,WJ (by rw[s];omega),Yb,if_pos Vo]
   simpa using e1
  .obtain⟨v,e1,e2⟩:=m.cell _ r j c e y;refine⟨v,?_,e2,m.one v (Yn e1)⟩;have F:k*d<=i*d:=Y9 d p;have U:=(Y0.1 e1).1;rw[WV]at e1 U;rw[WJ (by rw[List.length_append,s];omega),YK (by rw[s];omega),s,<-e1];congr 1;omega
  .obtain⟨v,e1,e2,J⟩:=O i r j c e y;refine⟨v,?_,e2,J⟩;have F:(k+f.length)*d<=i*d:=Y9 d p;rw[Yj]at F;rw[YK (by rw[List.length_append,s,m.len];omega),List.length_append,s,m.len,Yf];rw[<-Yp]at e1;rw[<-e1];congr 1;omega
def OwnOK.first{l:Loc}{rows:LL}(o:OwnOK h w l n rows)(d:Nat)(s:d<=rows.length):OwnOK h w {l with len:=d} n (rows.take d):=by
 obtain⟨g,t,k,m,p,e,q⟩:=o.hblk
 have sub:∀(i:Nat) r,(rows.take d)[i]?=some r->rows[i]?=some r:=λi r b=>by
  rw[Yb]at b
  split at b
  .exact b
  .cases b
 exact⟨o.pos,o.hsz,Vm,by simp;have:=o.hcap;omega,λi r b=>o.hrow i r (sub i r b),⟨g,t,k,m,p,e,λi r j c b f=>q i r j c (sub i r b) f⟩,o.hh,o.hfz,o.hcm⟩
def Rep.kosl(n:Nat){b:Nat->Loc}(g:∀i,i≠n->b i=ρ i)(y:(b n).blk=(ρ n).blk/\(b n).off=(ρ n).off/\(b n).sz=(ρ n).sz/\(b n).cap=(ρ n).cap/\(b n).none=(ρ n).none){v:Value}{s:SV}(r:Rep h ρ v s):Rep h b v (hmap (koslG n) s):=by
 refine r.turn λv s m r=>?_
 have d:∀i,(b i).blk=(ρ i).blk/\(b i).off=(ρ i).off/\(b i).sz=(ρ i).sz/\(b i).cap=(ρ i).cap/\(b i).none=(ρ i).none:=λi=>by
  by_cases e:i=n
  .subst e;exact y
  .rw[g i e];exact⟨rfl,rfl,rfl,rfl,rfl⟩
 cases r with
 |pure _ _ j=>
  have:koslG n s=s:=by cases j<;>first|rfl|(simp[Zbq]at m)
  rw[this];exact .pure _ _ j
 |agg=>simp[Zbq]at m
 |tup=>simp[Zbq]at m
 |ptr id off=>simp only[koslG];rw[<-(d id).1];exact .ptr id off
 |bsl id off k=>simp only[koslG];rw[<-(d id).1];exact .bsl id off k
 |osl0 id p f=>
  by_cases e:id=n
  .subst e;simp only[koslG,Y6,cond_true];exact .pure _ _ (.unk _)
  .simp only[koslG,Zak e,cond_false];exact .osl0 id p (by rw[g id e];exact f)
 |osl id f=>
  by_cases e:id=n
  .subst e;simp only[koslG,Y6,cond_true];exact .pure _ _ (.unk _)
  .simp only[koslG,Zak e,cond_false];rw[<-g id e]at f|-;exact .osl id f
 |eptr id e i off f=>simp only[koslG];obtain⟨o,q,b3,u,b5⟩:=d id;rw[<-o,<-q,<-b3];exact .eptr id e i off (by rw[b5];exact f)
 |osv id l t c p z A C D j=>simp only[koslG];obtain⟨o,q,b3,u,b5⟩:=d id;exact .osv id l t c p z A C (by rw[u,b5];exact D) (by rw[o,q,b3];exact j)
 |omp id=>simp only[koslG];rw[<-(d id).1];exact .omp id
 |aptr id i=>simp only[koslG];rw[<-(d id).1];exact .aptr id i
 |asl id l t x=>simp only[koslG];rw[<-(d id).1];exact .asl id l t x
def FitsAt.rows{p:World}{id sz:Nat}{rows c:LL}(F:FitsAt X h ρ st a w)(q:oget st.objs id=some (.own sz rows))(t:(ρ id).none=false)(A:idOK id=true)
  (u:Keeps (λb=>b=(ρ id).blk) w p) (j:∀b,b≠(ρ id).blk->p.heap[b]?=w.heap[b]?) (y:OwnOK h p {ρ id with len:=c.length} sz c):
  FitsAt X h (upd ρ id {ρ id with len:=c.length}) (st.rows id sz c) a p:=by
 have l:live st.objs ρ id:=⟨⟨_,q⟩,t⟩
 have hno:=(F.obj id _ q).hno t;have g:∀i,i≠id->upd ρ id {ρ id with len:=c.length} i=ρ i:=λi hi=>Zjy ρ _ hi;have m:∀v s,Rep h ρ v s->Rep h (upd ρ id {ρ id with len:=c.length}) v (hmap (koslG id) s):=λv s r=>r.kosl id g (by rw[Zac];exact⟨rfl,rfl,rfl,rfl,rfl⟩)
 have n:∀i o,oget (oput (hmapO (koslG id) st.objs) id (.own sz c)) i=some o->(i=id/\o= .own sz c)\/(i≠id/\∃d,oget st.objs i=some d/\o=Zef (koslG id) d):=by
  intro i o e;rw[Zie]at e
  split at e
  next hi=>subst hi;rw[Zgr,q]at e;simp at e;exact .inl ⟨rfl,e.symm⟩
  next hi=>exact .inr ⟨λx=>hi x.symm,Zag e⟩
 refine F.turn (koslG id) _ m (λi o e=>?_) (λi hi=>?_) (λb x v e=>?_) (HLe.refl h) (λ_ _ _ _ e=>e) ?_ (λi hi=>?_)
 .rcases n i o e with⟨rfl,rfl⟩|⟨hne,d,e',rfl⟩
  .exact .inr ⟨by rw[Zac];exact t,by rw[Zac];exact y⟩
  .refine(F.obj i d e').turn m (HLe.refl h) (g i hne) (λf=>j _ ?_) (λ_ _ e=>e);exact F.inj i id ⟨⟨d,e'⟩,f⟩ l hne
 .obtain⟨⟨o,e⟩,f⟩:=hi
  rcases n i o e with⟨rfl,rfl⟩|⟨hne,d,e',rfl⟩
  .rw[Zac];exact⟨l,rfl⟩
  .rw[g i hne]at f|-;exact⟨⟨⟨d,e'⟩,f⟩,rfl⟩
 .have z:b≠(ρ id).blk:=λz=>by subst z;rw[hno x]at e;cases e
  have:=F.sub b x v e;unfold World.cell? at this|-;simp only[]at this|-;rw[j b z];exact this
 .refine F.kp.step u (λk u=>?_);subst u;exact F.own id l
 .refine g i (λe=>?_);subst e;rw[A]at hi;cases hi
def Zy3(n:Nat)(d:Zbq u=true):Zbq (killG n u)=true:=by
 have c:∀(b:Bool) (x:SV),Zbq x=true->Zbq (bif b then .unk else x)=true:=λb x e=>by cases b;exact e;rfl
 cases u with
 |ptr=>exact c _ _ rfl
 |bsl=>exact c _ _ rfl
 |osl=>exact c _ _ rfl
 |eptr=>exact c _ _ rfl
 |osv=>exact c _ _ rfl
 |omp=>exact c _ _ rfl
 |aptr=>exact c _ _ rfl
 |asl=>exact c _ _ rfl
 |_=>exact d
def FitsAt.opn{id b z:Nat}{rows:LL}(F:FitsAt X h ρ st a w)(M:oget st.objs id=some (.own z rows))(J:idOK b=true):
  ∃c:Int,rlen rows<=c/\c<=9223372036854775807/\FitsAt X h (upd ρ b (ρ id)) (st.opn id b z rows c) a w:=by
 have Z:∃c:Int,(rlen rows<=c/\c<=9223372036854775807)/\(c=if(ρ id).none then 0 else((ρ id).cap:Int))/\((ρ id).none=false->(ρ id).len=rows.length)/\((ρ id).none=true->rows=[]):=by
  rcases F.obj id _ M with⟨d,rfl⟩|⟨d,o⟩
  .exact⟨0,⟨by simp[rlen],Vo⟩,by simp[d],by simp[d],λ_=>rfl⟩
  .exact⟨(ρ id).cap,⟨by have:=o.hcap;simp[rlen];exact this,by have:=o.hcm;omega⟩,by simp[d],λ_=>o.hlen,by simp[d]⟩
 obtain⟨c,⟨U,V⟩,f,O,Q⟩:=Z;have q:∀i,i≠b->upd ρ b (ρ id) i=ρ i:=λi u=>Zjy ρ _ u
 have D:∀v s,Rep h ρ v s->Rep h (upd ρ b (ρ id)) v (hmap (opnG id b (rlen rows) c) s):=λv s r=>by
  refine r.turn λv s N r=>?_;have a0:∀s,Zbq s=true->Rep h ρ v s->Rep h (upd ρ b (ρ id)) v (killG b (killG id s)):=λs m r=>by have r1:=r.kill id (HLe.refl h) (ρ':=ρ) (λ_ _=>rfl);rw[Zl1 m]at r1;have H:=r1.kill b (HLe.refl h) q;rw[Zl1 (Zy3 id m)]at H;exact H
  have one:∀s,Zbq s=true->Rep h ρ v s->Rep h (upd ρ b (ρ id)) v (killG b s):=λs m r=>by have H:=r.kill b (HLe.refl h) q;rwa[Zl1 m]at H
  cases s with
  |osl i=>
   by_cases e:i=id
   .subst e;simp only[opnG,Y6,cond_true]
    rcases r.osl_inv with⟨d,p,rfl⟩|⟨d,rfl⟩
    .have e1:=Q d;subst e1;rw[d]at f;simp at f;subst f;exact .osv b 0 0 0 p Vo Vo Vo (by rw[Zac];simp[d]) Vo
    .have e1:=O d;have:=Rep.osv (h:=h) (ρ:=upd ρ b (ρ i)) b 0 (rlen rows) c (some ⟨(ρ i).blk,(ρ i).off,none⟩) Vo (by simp[rlen]) U (by rw[Zac];exact f) (λ_=>by rw[Zac];simp);rw[d]at f;simp at f;subst f
     simpa[rlen,e1]using this
   .simp only[opnG,Zak e,cond_false];exact one _ rfl r
  |agg=>simp[Zbq]at N
  |tup=>simp[Zbq]at N
  |gd=>simp[Zbq]at N
  |_=>exact a0 _ rfl r
 have E:∀i o,oget ((b,.own z rows)::hmapO (opnG id b (rlen rows) c) (Px.odel (Px.odel st.objs id) b)) i=some o->(i=b/\o= .own z rows)\/(i≠b/\i≠id/\∃n,oget st.objs i=some n/\o=Zef (opnG id b (rlen rows) c) n):=by
  intro i o e;rw[Zb1]at e
  split at e
  next u=>subst u;cases e;exact .inl ⟨rfl,rfl⟩
  .obtain⟨n,A,rfl⟩:=Zag e;obtain⟨g,e2⟩:=Zaf A;obtain⟨k,e3⟩:=Zaf e2;exact .inr ⟨g,k,n,e3,rfl⟩
 refine⟨c,U,V,?_⟩
 have G:∀i,live ((b,.own z rows)::hmapO (opnG id b (rlen rows) c) (Px.odel (Px.odel st.objs id) b)) (upd ρ b (ρ id)) i->∃j,live st.objs ρ j/\(upd ρ b (ρ id) i).blk=(ρ j).blk/\(i=b->j=id)/\(i≠b->j=i/\i≠id):=by
  rintro i ⟨⟨o,e⟩,hni⟩
  rcases E i o e with⟨rfl,rfl⟩|⟨g,k,n,A,rfl⟩
  .rw[Zac]at hni|-;exact⟨id,⟨⟨_,M⟩,hni⟩,rfl,λ_=>rfl,λy=>absurd rfl y⟩
  .rw[q i g]at hni|-;exact⟨i,⟨⟨n,A⟩,hni⟩,rfl,λy=>absurd y g,λ_=>⟨rfl,k⟩⟩
 refine{F with size:=by simp[St.opn,Zbp,F.size],tm:=λt s m=>?_,obj:=λi o e=>?_,inj:=λi j u hj K=>?_,own:=λi u=>?_,pin:=λi l e=>?_}
 .simp only[St.opn,hmapL_getElem?]at m
  cases y:st.tmps[t]? with
  |none=>simp[y]at m
  |some x=>simp[y]at m;subst m;exact(F.tm t x y).turn (λs r=>D _ s r)
 .rcases E i o e with⟨rfl,rfl⟩|⟨g,k,n,A,rfl⟩
  .have:=F.obj id _ M;simp only[ObOK,Zac];exact this
  .exact(F.obj i n A).turn D (HLe.refl h) (q i g) (λ_=>rfl) (λ_ _ e=>e)
 .obtain⟨R,C,T,W,L⟩:=G i u;obtain⟨j',Y,ej,ej1,ej2⟩:=G j hj;rw[T,ej];refine F.inj R j' C Y (λe=>?_);by_cases g:i=b
  .by_cases k:j=b
   .exact K (g.trans k.symm)
   .have:=W g;have:=ej2 k;exact this.2 (by rw[<-this.1,<-e];assumption)
  .by_cases k:j=b
   .have:=ej1 k;have:=L g;exact this.2 (by rw[<-this.1,e];assumption)
   .exact K (by rw[<-(L g).1,<-(ej2 k).1];exact e)
 .obtain⟨R,C,T,_⟩:=G i u;rw[T];exact F.own R C
 .refine⟨?_,(F.pin i l e).2⟩;rw[q i (λx=>by subst x;rw[(F.pin i l e).2]at J;cases J)];exact(F.pin i l e).1
def Zma{c:List (Nat×Bool)->Operand->SV}(d:∀x,Rep h ρ (a.eval x) (c [] x)){x:Operand}{n l:Int}(e:bndOf c n (some x)=some l):∃b,a.eval x= .int b l:=by
 simp only[bndOf]at e
 split at e
 next b g f=>
  cases e
  have:=d x;rw[f]at this;exact⟨b,this.val_inv⟩
 .cases e
def boundsV{d:List (Nat×Bool)->Operand->SV}{w':World}(hsv:∀x,Rep h ρ (a.eval x) (d [] x))(len b:Nat){lo hi:Option Operand}{l h':Int}
  (e:bndOf d 0 lo=some l) (c:bndOf d (Int.ofNat len) hi=some h') (g:0<=l) (k:l<=h') (i:h'<=(b:Int)):
  (Instr.sliceBounds true len b (lo.map a.eval) (hi.map a.eval) none).run P w'= .ok (l.toNat,h'.toNat,b) w':=by
 cases lo with
 |none=>
  simp[bndOf]at e;subst e
  cases hi with
  |none=>simp[bndOf]at c;subst c;simp[Instr.sliceBounds]
  |some y=>
   obtain⟨m,f⟩:=Zma hsv c
   have:(0:Int)<=h'/\h'<=(b:Int):=⟨Vo,i⟩
   simp[Instr.sliceBounds,Instr.sliceBound,f,asIntOf,this]
 |some x=>
  obtain⟨m,j⟩:=Zma hsv e
  cases hi with
  |none=>
   simp[bndOf]at c;subst c
   have:(0:Int)<=l/\l<=(len:Int):=⟨g,k⟩
   simp[Instr.sliceBounds,Instr.sliceBound,j,asIntOf,this]
  |some y=>
   obtain⟨p,f⟩:=Zma hsv c
   have n:(0:Int)<=h'/\h'<=(b:Int):=⟨Vo,i⟩
   have o:(0:Int)<=l/\l<=max h' 0:=⟨g,Vo⟩
   simp[Instr.sliceBounds,Instr.sliceBound,j,f,asIntOf,n,o]
def boundsV3{e:List (Nat×Bool)->Operand->SV}{w':World}(hsv:∀x,Rep h ρ (a.eval x) (e [] x))(len c:Nat){lo:Option Operand}{hi m:Operand}{k:IntKind}{l h' b:Int}
  (f:bndOf e 0 lo=some l) (n:bndOf e (Int.ofNat len) (some hi)=some h') (g:a.eval m= .int k b) (o:0<=l) (u:l<=h') (v:h'<=b) (p:b<=(c:Int)):
  (Instr.sliceBounds true len c (lo.map a.eval) (some (a.eval hi)) (some (a.eval m))).run P w'= .ok (l.toNat,h'.toNat,b.toNat) w':=by
 obtain⟨s,d⟩:=Zma hsv n
 have i:(0:Int)<=b/\b<=(c:Int):=⟨Vo,p⟩
 have j:(0:Int)<=h'/\h'<=max b 0:=⟨Vo,Vo⟩
 cases lo with
 |none=>simp[bndOf]at f;subst f;simp[Instr.sliceBounds,Instr.sliceBound,d,g,asIntOf,i,j]
 |some x=>
  obtain⟨t,q⟩:=Zma hsv f
  have r:(0:Int)<=l/\l<=max h' 0:=⟨o,Vo⟩
  simp[Instr.sliceBounds,Instr.sliceBound,d,g,q,asIntOf,i,r,j]
def Zj8(F:FitsAt X h ρ st a w){id e:Nat}{rows:LL}(f:oget st.objs id=some (.own e rows)){c:Int}(b:c=if(ρ id).none then 0 else((ρ id).cap:Int))(g:0<c):
  (ρ id).none=false/\OwnOK h w (ρ id) e rows/\c=(ρ id).cap:=by
 rcases F.obj id _ f with⟨d,rfl⟩|⟨d,o⟩
 .rw[d]at b;simp at b;omega
 .rw[d]at b;simp at b;exact⟨d,o,b⟩
def Zj9(F:FitsAt X h ρ st a w)(o:Oper){t:TypeId}{x:Operand}{lo hi E:Option Operand}{id:Nat}{l f c:Int}(n:o.op= .slice t x lo hi E)(r:Rep h ρ (a.eval x) (.osv id l f c))(K:St->Prop)
  (d:Zxl P o t lo hi E id l f c st K):∃v,(∀w',(execOp a.eval o).run P w'= .ok (.value v) w')/\Goes X K (a.put o.dst v) w:=by
 obtain⟨p,N,W,Y,Z,O,R⟩:=r.osv_inv;have hsv:∀x,Rep h ρ (a.eval x) ((λ(_:List (Nat×Bool))=>st.val) [] x):=λx=>F.val x;unfold Zxl at d
 split at d
 next e G rows H Q=>
  split at d
  next z b g q k j=>
   cases i:Nat.beq z G with
   |false=>simp[i]at d
   |true=>
    simp only[i,cond_true]at d;have:=Nat.eq_of_beq_eq_true i;subst this;obtain⟨⟨s,u,y⟩,A⟩:=d;simp only[isub]at y j;have C:∀w',(execOp a.eval o).run P w'= .ok (.value (.slice (if(c-l).toNat=b.toNat then p else p.map (·.add (b.toNat*z))) (g.toNat-b.toNat) ((c-l).toNat-b.toNat))) w':=λw'=>by have i:=boundsV (P:=P) (w':=w') (hsv:=hsv) (f-l).toNat (c-l).toNat (lo:=lo) (hi:=hi) (l:=b) (h':=g) k (by rw[show Int.ofNat (f-l).toNat=f-l by simp;omega];exact j) s u Vo;simp[execOp,n,N,Instr.sliceAt,Instr.slice,run_underlying H,i,run_sizeOf' w' q]
    refine⟨_,C,Goes.put F o.dst ?_ A⟩
    have e1:vbd l (lsum l b) lo=l+b:=by
     cases lo with
     |none=>simp[bndOf]at k;subst k;simp[vbd]
     |some _=>rfl
    have e2:vbd f (lsum l g) hi=l+g:=by
     cases hi with
     |none=>simp[bndOf]at j;subst j;show f=_;omega
     |some _=>rfl
    rw[e1,e2]
    have:=Rep.osv (h:=h) (ρ:=ρ) id (l+b) (l+g) c (if(c-l).toNat=b.toNat then p else p.map (·.add (b.toNat*z))) Vo Vo Vo O (λT=>by
     obtain⟨hn,own,U⟩:=Zj8 F Q O Vo;rw[if_neg Vo,R Vo];simp only[YR,Zbt,own.hsz]
     rw[show(l+b).toNat=l.toNat+b.toNat by omega,Yj,YJ])
    rw[show(l+g-(l+b)).toNat=g.toNat-b.toNat by omega,show(c-(l+b)).toNat=(c-l).toNat-b.toNat by omega]at this;exact this
  next z b g m q k j=>
   split at d
   next J V L M=>
    cases i:Nat.beq z G with
    |false=>simp[i]at d
    |true=>simp only[i,cond_true]at d;obtain⟨⟨s,u,y,b3⟩,A⟩:=d;simp only[isub]at b3 j;have D:=hsv m;simp only[]at D;rw[M]at D;refine⟨.slice (if L.toNat=b.toNat then p else p.map (·.add (b.toNat*z))) (g.toNat-b.toNat) (L.toNat-b.toNat),λw'=>?_,Goes.put F o.dst (.pure _ _ (.unk _)) A⟩;have i:=boundsV3 (P:=P) (w':=w') (hsv:=hsv) (f-l).toNat (c-l).toNat (lo:=lo) (hi:=J) (m:=m) (l:=b) (h':=g) k (by rw[show Int.ofNat (f-l).toNat=f-l by simp;omega];exact j) D.val_inv s u y Vo;simp[execOp,n,N,Instr.sliceAt,Instr.slice,run_underlying H,i,run_sizeOf' w' q]
   .exact d.elim
  .exact d.elim
 .exact d.elim
def Zto(F:FitsAt X h ρ st a w){vy:Value}{id d:Nat}{l s c:Int}{rows:LL}(z:Rep h ρ vy (.osv id l s c))(A:oget st.objs id=some (.own d rows)){n:Int}(L:0<=n)(O:n<=s-l)(u:l+n<=rlen rows):
  (rsub rows l (l+n)).length=n.toNat/\∃m,Flat h d (rsub rows l (l+n)) m/\∀g:World,(∀b,b<w.heap.size->g.heap[b]?=w.heap[b]?)->(Builtin.firstCells d n.toNat vy).run P g= .ok m.toArray g:=by
 obtain⟨p,rfl,Q,R,T,G,H⟩:=z.osv_inv;simp only[rlen,Y7]at u;have f:(rsub rows l (l+n)).length=n.toNat:=by simp[rsub];omega
 refine⟨f,?_⟩;by_cases hz:n=0
 .subst hz;have:rsub rows l (l+0)=[]:=Y8 (by rw[f];rfl);rw[this];refine⟨[],Flat.nil d,λg _=>?_⟩
  cases p with
  |none=>simp[Builtin.firstCells]
  |some Z=>simp[Builtin.firstCells,loadCells,loadCellsFrom]
 .obtain⟨M,o,N⟩:=Zj8 F A G Vo;obtain⟨U,t,V,k,W,Y,J⟩:=o.hblk
  have sub:∀(i:Nat) r,(rsub rows l (l+n))[i]?=some r->rows[l.toNat+i]?=some r:=λi r e=>by
   simp only[rsub,Yf,Yb]at e
   split at e
   .exact e
   .cases e
  obtain⟨m,x,y⟩:=Zo8 (P:=P) (w:=w) (b:=(ρ id).blk) (off:=(ρ id).off+l.toNat*d) (rows:=rsub rows l (l+n)) o.pos (λi r e=>o.hrow _ r (sub i r e)) (λi r j C e D=>by
   obtain⟨v,e1,e2,K⟩:=J _ r j C (sub i r e) D;refine⟨v,?_,e2,K⟩;rw[show(ρ id).off+(l.toNat+i)*d+j=(ρ id).off+l.toNat*d+i*d+j by rw[Yj];omega]at e1
   simp[World.cell?,k,e1])
  refine⟨m,x,λg E=>?_⟩;rw[H Vo];simp only[Builtin.firstCells]
  have q:(ρ id).blk<w.heap.size:=by
   rcases WN (ρ id).blk w.heap.size with h'|h'
   .exact h'
   .rw[Yx h']at k;cases k
  have:=y g (E _ q);rw[f]at this;rw[o.hsz];exact this
def Zy4(F:FitsAt X h ρ st a w){C:TypeId}{y:SV}{r:Value}{s:Option Int}{q:Option Nat}{i:LL}{z:Nat}{K:Prop}(t:Rep h ρ r y)(e:srcV P st C y=some (s,q,i))
  (u:srcOK z q=true) (v:0<z) (D:sideV s K):
  K/\(∃d,P.underlying C=some d/\∀k,d≠ .int k)/\(∀f,(Builtin.lenOf r).run P f= .ok i.length f)/\
  ∃j,Flat h z i j/\∀f:World,(∀b,b<w.heap.size->f.heap[b]?=w.heap[b]?)->(Builtin.firstCells z i.length r).run P f= .ok j.toArray f:=by
 unfold srcV at e
 split at e
 next id l m c=>
  split at e
  next U E rows O G=>
   cases e
   obtain⟨H,Q⟩:=D;simp only[isub]at H;obtain⟨p,J,V,W,Y,Z,hp⟩:=t.osv_inv;have M:z=E\/E=0:=(by simp only[srcOK,Bool.or_eq_true]at u;exact u.elim (λe=>.inl (Nat.eq_of_beq_eq_true e).symm) (λe=>.inr (Nat.eq_of_beq_eq_true e)));obtain⟨g,j,L,x⟩:=Zto (P:=P) F t G (n:=m-l) Vo Vo Vo;rw[show l+(m-l)=m by omega]at g L;refine⟨Q,⟨_,O,Vs⟩,λf=>by rw[g,J];simp[Builtin.lenOf],?_⟩
   rcases M with rfl|h00
   .exact⟨j,L,λf N=>by rw[g];exact x f N⟩
   .have A:rsub rows l m=[]:=by
     rcases F.obj id _ G with⟨_,rfl⟩|⟨_,o⟩
     .simp[rsub]
     .have:=o.pos;omega
    rw[A]at g|-;refine⟨[],Flat.nil z,λf _=>?_⟩;rw[J]
    cases p with
    |none=>simp[Builtin.firstCells]
    |some ad=>simp[Builtin.firstCells,loadCells,loadCellsFrom]
  .cases e
 .simp at e;obtain⟨R,T,e1,rfl,rfl,rfl⟩:=e;exact⟨D,Zeh F t e1 u v⟩
def Zv6{d:Nat}(h:dstOK (some d)=true):idOK (128*d+64)=true:=by
 simp only[dstOK]at h;have b:d<8191:=Nat.le_of_ble_eq_true h;have:Nat.blt (128*d+64) 1048576=true:=Nat.ble_eq_true_of_le Vo;simp[idOK,this]
def FitsAt.rowsSame{rows:LL}(F:FitsAt X h ρ st a w)(k:oget st.objs n=some (.own m rows)):FitsAt X h ρ (st.rows n m rows) a w:=by
 have c:∀v s,Rep h ρ v s->Rep h ρ v (hmap (koslG n) s):=λv s r=>r.kosl n (λ_ _=>rfl) ⟨rfl,rfl,rfl,rfl,rfl⟩
 have d:∀i o,oget (oput (hmapO (koslG n) st.objs) n (.own m rows)) i=some o->∃b,oget st.objs i=some b/\o=Zef (koslG n) b:=by
  intro i o e;rw[Zie]at e
  split at e
  next g=>subst g;rw[Zgr,k]at e;simp at e;exact⟨_,k,by rw[<-e];rfl⟩
  .exact Zag e
 refine F.turn (koslG n) _ c (λi o e=>?_) (λi g=>?_) F.sub (HLe.refl h) (λ_ _ _ _ e=>e) F.kp (λ_ _=>rfl)
 .obtain⟨b,j,rfl⟩:=d i o e;exact(F.obj i b j).turn c (HLe.refl h) rfl (λ_=>rfl) (λ_ _ e=>e)
 .obtain⟨⟨o,e⟩,l⟩:=g;obtain⟨b,j,rfl⟩:=d i o e;exact⟨⟨⟨b,j⟩,l⟩,rfl⟩
def Frm(st:St)(ρ:Nat->Loc)(id:Nat)(w c:World):Prop:=∀b,b<w.heap.size->(live st.objs ρ id->(ρ id).blk≠b)->c.heap[b]?=w.heap[b]?
def Zy5(F:FitsAt X h ρ st a w)(o:Oper){t1 t2:TypeId}{x y:Operand}{id:Nat}{l f c:Int}(a4:o.op= .call {callee:=.builtin .append,args:=⟨[x,y]⟩,argTypes:=⟨[t1,t2]⟩})
  (r:Rep h ρ (a.eval x) (.osv id l f c)) (K:St->Prop) (u:appV P o t1 t2 (st.val y) id l f c st K):
  ∃v w',(execOp a.eval o).run P w= .ok (.value v) w'/\Goes X K (a.put o.dst v) w'/\w.heap.size<=w'.heap.size/\Frm st ρ id w w':=by
 obtain⟨p,W,h0,h1,h2,hc,hp⟩:=r.osv_inv;unfold appV at u
 split at u
 next e d s a5 g sz rows hu hd a1 H=>
  split at u
  next z hz=>
   cases A:(Zb9 P e&&srcOK z a5&&Nat.beq z sz&&dstOK o.dst&&idOK id)with
   |false=>simp only[A,cond_false]at u
   |true=>
    simp only[A,cond_true]at u;simp only[Bool.and_eq_true]at A;obtain⟨⟨⟨⟨a6,a7⟩,a8⟩,a0⟩,a9⟩:=A;have:=Nat.eq_of_beq_eq_true a8;subst this;obtain⟨i,zv,hi,aa,J,ab,ac,a2⟩:=Zcg a6;have ag:z=i.size:=by rw[a2]at hz;cases hz;rfl
    subst ag;obtain⟨⟨ad,E,Y⟩,⟨d2,L,M⟩,C,vs,Z,q⟩:=Zy4 (P:=P) F (F.val y) a1 a7 J u;simp only[rlen,lsum,isub,Y7]at ad E Y;have t:∀v w',(Builtin.append_ #[t1,t2] o.type #[a.eval x,a.eval y]).run P w= .ok v w'->(execOp a.eval o).run P w= .ok (.value v) w':=λv w' e=>by simp[execOp,a4,resolve,invoke,builtin,e]
    by_cases hfit:f+g.length<=c
    .have E:=E hfit;have U:∀m:Nat->Loc,(m id).blk=(ρ id).blk->(m id).off=(ρ id).off->(m id).sz=(ρ id).sz->(m id).cap=(ρ id).cap->(m id).none=(ρ id).none->Rep h m (.slice p ((f-l).toNat+g.length) (c-l).toNat) (.osv id l (f+g.length) c):=λm b1 b2 b3 b4 b5=>by have:=Rep.osv (h:=h) (ρ:=m) id l (f+g.length) c p h0 Vo hfit (by rw[b4,b5];exact hc) (by rw[b1,b2,b3];exact hp);rw[show(f+↑g.length-l).toNat=(f-l).toNat+g.length by omega]at this;exact this
     by_cases hnull:g=[]
     .subst hnull;have ah:vs=[]:=Y8 (by rw[Z.len];simp);subst ah;have j:=Zey (P:=P) (ty:=o.type) hu hi L M (C w) (q w (λ_ _=>rfl)) (p:=p) (n:=(f-l).toNat) (cap:=(c-l).toNat) Vm (w':=w) (by cases p<;>simp[storeCells]);rw[<-W]at j;refine⟨_,_,t _ _ j,?_,Nat.le_refl _,λ_ _ _=>rfl⟩;have R:rput rows f []=rows:=(by simp[rput]);rw[R]at E;exact Goes.put (F.rowsSame H) o.dst (U ρ rfl rfl rfl rfl rfl) E
     .have al:0<g.length:=Wz.2 hnull;obtain⟨hn,own,ak⟩:=Zj8 F H hc Vo;obtain⟨w',hst,G,N,D⟩:=own.write (P:=P) Z (k:=f.toNat) Vo Vo
      have j:=Zey (P:=P) (ty:=o.type) hu hi L M (C w) (q w (λ_ _=>rfl)) (p:=p) (n:=(f-l).toNat) (cap:=(c-l).toNat) Vo (w':=w') (by
       rw[hp Vo];simp only[Zbt,own.hsz];rw[show(ρ id).off+l.toNat*i.size+(f-l).toNat*i.size=(ρ id).off+f.toNat*i.size by rw[YJ,<-Yj,show l.toNat+(f-l).toNat=f.toNat by omega]]
       exact hst)
      rw[<-W]at j;refine⟨_,_,t _ _ j,?_,G.size,λb _ A=>N b (λe=>A ⟨⟨_,H⟩,hn⟩ e.symm)⟩;exact Goes.put (F.rows H hn a9 G N D) o.dst (U _ (by rw[Zac]) (by rw[Zac]) (by rw[Zac]) (by rw[Zac]) (by rw[Zac])) E
    .obtain⟨a3,Y⟩:=Y Vo;rw[hd]at a0;have ai:=Zv6 a0;obtain⟨O,old,Q,R⟩:=Zto (P:=P) F r H (n:=f-l) Vo Vo (by simp only[rlen,Y7];omega);rw[show l+(f-l)=f by omega]at O Q
     obtain⟨T,ae,af,j⟩:=Zfj (P:=P) (ty:=o.type) (p:=p) (n:=(f-l).toNat) (cap:=(c-l).toNat) (old:=old) hu hi ab aa L M (C w) Vo (by simp only[most]at a3;omega) (q w.drew (λ_ _=>rfl)) (by
      rw[<-W];exact R w.drew (λ_ _=>rfl))
     rw[<-W]at j;refine⟨_,_,t _ _ j,?_,(Zai w _).size,λb A _=>(Zai w _).block b A (λe=>e)⟩;have V:(rapp (rsub rows l f) g).length=(f-l).toNat+g.length:=by simp[rapp,O]
     have D:OwnOK h (w.drew.alloc (.cells (old.toArray++vs.toArray++Builtin.zeroCells zv.cells (T-((f-l).toNat+g.length))) e)) ⟨w.heap.size,0,(rapp (rsub rows l f) g).length,T,i.size,false⟩ i.size (rapp (rsub rows l f) g):=by
      refine Zsy (fz:=(0,0)) (e:=e) (cs:=old.toArray++vs.toArray++Builtin.zeroCells zv.cells (T-((f-l).toNat+g.length))) (Q.append Z) J (by rw[V];exact ae) af (by show(w.heap.push _)[_]?=_;simp) ?_ (λo _=>Vs) (λo=>Zc4 F.sub o _ (Nat.le_refl _)) (.inl rfl) (λk v G=>?_)
      .simp only[YV,YL,Q.len,Z.len,O,Builtin.zeroCells,We,Wk,ac];rw[<-Yj,<-Yj];exact Y9 _ Vo
      .have aj:=(Y0.1 G).1;rw[Yq (by simpa using aj)]
       simpa using G
     have F1:=F.newOwn (128*d+64) ai (.own i.size (rapp (rsub rows l f) g)) ⟨w.heap.size,0,(rapp (rsub rows l f) g).length,T,i.size,false⟩ (Zai w _) Vs (λ_=>Nat.le_refl _) (.inr ⟨by rw[Zac],by rw[Zac];exact D⟩);have hR:=Rep.osl (h:=h) (ρ:=upd ρ (128*d+64) ⟨w.heap.size,0,(rapp (rsub rows l f) g).length,T,i.size,false⟩) (128*d+64) (by rw[Zac]);rw[Zac]at hR;simp only[V]at hR;simp only[V]at F1;exact Goes.put F1 o.dst hR Y
  .exact u.elim
 .exact u.elim
def Zv7{f t2 e ty:TypeId}{z m n dl dc:Nat}{p:Option Addr}{vy:Value}{g:List Value}{d:World}(i:P.underlying f=some (.slice e))(j:szT P e=some z)(b:(Builtin.lenOf vy).run P w= .ok m w)(l:n=Nat.min m dl)
  (c:(Builtin.firstCells z n vy).run P w= .ok g.toArray w) (hst:match p with|some k=>(storeCells k g).run P w= .ok () d|none=>d=w):
  (Builtin.copy_ #[f,t2] ty #[.slice p dl dc,vy]).run P w= .ok (goInt n) d:=by
 subst l
 cases p with
 |none=>simp at hst;rw[hst];simp[Builtin.copy_,run_underlying i,b,run_sizeOf' w j,c]
 |some k=>simp at hst;simp[Builtin.copy_,run_underlying i,b,run_sizeOf' w j,c,hst]
def putV(F:FitsAt X h ρ st a w){id j:Nat}{l o c:Int}{rows f:LL}{m:List Value}{p:Option Addr}(i:oget st.objs id=some (.own j rows))(q:idOK id=true)(H:0<=l)(J:o<=c)
  (y:c=if(ρ id).none then 0 else((ρ id).cap:Int)) (z:l<c->p=some ⟨(ρ id).blk,(ρ id).off+l.toNat*(ρ id).sz,none⟩) (r:Flat h j f m) (A:l<=rlen rows) (C:l+f.length<=o):
  ∃d s,(match p with|some ad=>(storeCells ad m).run P w= .ok () d|none=>d=w)/\FitsAt X h s (st.rows id j (rput rows l f)) a d/\w.heap.size<=d.heap.size/\Frm st ρ id w d:=by
 simp only[rlen,Y7]at A
 by_cases hnull:f=[]
 .subst hnull;have v:m=[]:=Y8 (by rw[r.len];simp);subst v;have x:rput rows l []=rows:=(by simp[rput]);rw[x];exact⟨w,ρ,by cases p<;>simp[storeCells],F.rowsSame i,Nat.le_refl _,λ_ _ _=>rfl⟩
 .have G:0<f.length:=Wz.2 hnull;obtain⟨t,own,E⟩:=Zj8 F i y Vo;obtain⟨d,hst,u,g,n⟩:=own.write (P:=P) r (k:=l.toNat) Vo Vo;refine⟨d,_,?_,F.rows i t q u g n,u.size,λb _ D=>g b (λe=>D ⟨⟨_,i⟩,t⟩ e.symm)⟩;rw[z Vo];simp only[own.hsz];exact hst
def imin_min(a b:Int):imin a b=min a b:=by unfold imin;split<;>omega
def Ztp(F:FitsAt X h ρ st a w)(o:Oper){H t2:TypeId}{x y:Operand}{id:Nat}{l f c:Int}(Q:o.op= .call {callee:=.builtin .copy,args:=⟨[x,y]⟩,argTypes:=⟨[H,t2]⟩})
  (r:Rep h ρ (a.eval x) (.osv id l f c)) (K:St->Prop) (b:copyV P o H t2 (st.val y) id l f st K):
  ∃v i,(execOp a.eval o).run P w= .ok (.value v) i/\Goes X K (a.put o.dst v) i/\w.heap.size<=i.heap.size/\Frm st ρ id w i:=by
 obtain⟨p,hv,h0,h1,h2,hc,hp⟩:=r.osv_inv;have s:∀v i,(Builtin.copy_ #[H,t2] o.type #[a.eval x,a.eval y]).run P w= .ok v i->(execOp a.eval o).run P w= .ok (.value v) i:=λv i e=>by simp[execOp,Q,resolve,invoke,builtin,e]
 have t:=F.val y;unfold copyV at b
 split at b
 next e e2 sz rows R a4 T=>
  split at b
  next z U=>
   cases hb:(Nat.beq z sz&&idOK id)with
   |false=>simp only[hb,cond_false]at b
   |true=>
    simp only[hb,cond_true]at b;simp only[Bool.and_eq_true]at hb;obtain⟨a0,G⟩:=hb;have:=Nat.eq_of_beq_eq_true a0;subst this
    split at b
    .rename_i a5 j d c2 V;rw[V]at t
     split at b
     next W a3 Y=>
      cases hb3:Nat.beq z W with
      |false=>simp only[hb3,cond_false]at b
      |true=>simp only[hb3,cond_true]at b;have:=Nat.eq_of_beq_eq_true hb3;subst this;obtain⟨⟨J,D⟩,E⟩:=b;obtain⟨p2,a1,q0,q1,q2,_,_⟩:=t.osv_inv;have O:0<=imin (isub d j) (isub f l)/\imin (isub d j) (isub f l)<=d-j/\imin (isub d j) (isub f l)<=f-l/\(imin (isub d j) (isub f l)).toNat=Nat.min (d-j).toNat (f-l).toNat:=(by rw[imin_min];simp only[isub];exact⟨Vo,Vo,Vo,by show _=min _ _;omega⟩);generalize hN:imin (isub d j) (isub f l)=N at*;obtain⟨m0,m1,m2,m3⟩:=O;simp only[lsum]at D E;obtain⟨q,vs,L,k⟩:=Zto (P:=P) F t Y (n:=N) m0 m1 D;obtain⟨i,a2,hst,M,u,A⟩:=putV (P:=P) F T G h0 h2 hc hp L J (by rw[q];omega);have g:=Zv7 (P:=P) (ty:=o.type) (t2:=t2) (vy:=a.eval y) (m:=(d-j).toNat) (n:=N.toNat) (dl:=(f-l).toNat) (dc:=(c-l).toNat) R U (by rw[a1];simp[Builtin.lenOf]) m3 (k w (λ_ _=>rfl)) hst;rw[<-hv]at g;refine⟨_,_,s _ _ g,Goes.put M o.dst (.pure _ _ ?_) E,u,A⟩;rw[show(goInt N.toNat)= .int .i64 N by simp[goInt];omega];exact .val _
     .exact b.elim
    next a6=>
     split at b
     next Z ys k=>
      cases hb3:(srcOK z Z&&Nat.blt 0 z)with
      |false=>simp only[hb3,cond_false]at b
      |true=>simp only[hb3,cond_true]at b;simp only[Bool.and_eq_true]at hb3;obtain⟨⟨J,D⟩,E⟩:=b;obtain⟨_,q,vs,L,C⟩:=Zeh (P:=P) F t k hb3.1 (Nat.le_of_ble_eq_true hb3.2);simp only[rlen,isub,Y7]at D;obtain⟨i,a2,hst,M,u,A⟩:=putV (P:=P) F T G h0 h2 hc hp L J Vo;have g:=Zv7 (P:=P) (ty:=o.type) (t2:=t2) (vy:=a.eval y) (m:=ys.length) (n:=ys.length) (dl:=(f-l).toNat) (dc:=(c-l).toNat) R U (q w) (by show _=min _ _;omega) (C w (λ_ _=>rfl)) hst;rw[<-hv]at g;exact⟨_,_,s _ _ g,Goes.put M o.dst (.pure _ _ (.val _)) E,u,A⟩
     .exact b.elim
  .exact b.elim
 .exact b.elim
def Zrg(F:FitsAt X h ρ st a w)(o:Oper){x:Operand}(Q:o.op= .call {callee:=.builtin .clear,args:=⟨[x]⟩,argTypes:=⟨[T]⟩})
  (r:Rep h ρ (a.eval x) (.osv n i b c)) (K:St->Prop) (f:clearV P o T n i b st K):
  ∃v d,(execOp a.eval o).run P w= .ok (.value v) d/\Goes X K (a.put o.dst v) d/\w.heap.size<=d.heap.size/\Frm st ρ n w d:=by
 obtain⟨p,A,h0,h1,h2,t,U⟩:=r.osv_inv;have s:∀v d,(Builtin.clear_ #[T] o.type #[a.eval x]).run P w= .ok v d->(execOp a.eval o).run P w= .ok (.value v) d:=λv d e=>by simp[execOp,Q,resolve,invoke,builtin,e]
 unfold clearV at f
 split at f
 next e sz rows R O=>
  split at f
  next z hz=>
   cases hb:(Nat.beq (lenN z) sz&&idOK n)with
   |false=>simp only[hb,cond_false]at f
   |true=>
    simp only[hb,cond_true]at f;simp only[Bool.and_eq_true]at hb;obtain⟨V,W⟩:=hb;have M:=Nat.eq_of_beq_eq_true V;rw[Zaz]at M;subst M;obtain⟨g1,y⟩:=f;obtain⟨id,Y,C,_,L⟩:=Zdh (h:=h) hz;have D:(rrep (isub b i) z).length=(b-i).toNat:=(by simp[rrep,isub]);by_cases hn0:b=i
    .have e0:rput rows i (rrep (isub b i) z)=rows:=(by subst hn0;simp[rput,rrep,isub]);rw[e0]at y;refine⟨.tuple #[],w,s _ _ ?_,Goes.put (F.rowsSame O) o.dst (.pure _ _ (.unk _)) y,Nat.le_refl _,λ_ _ _=>rfl⟩;rw[A,show(b-i).toNat=0 by omega]
     cases p<;>simp[Builtin.clear_,run_underlying R]
    .have hn:0<(b-i).toNat:=Vo;obtain⟨a4,own,a5⟩:=Zj8 F O t Vo;have a3:=own.pos;have E:(Builtin.zeroCells id.cells (b-i).toNat).size=(b-i).toNat*z.length:=by simp[Builtin.zeroCells,C]
     have u:∀l j,l<(b-i).toNat->j<z.length->(Builtin.zeroCells id.cells (b-i).toNat)[l*z.length+j]?=id.cells[j]?:=λl j g H=>by
      have:=Zgq (z:=id.cells) C g H
      simpa[Builtin.zeroCells,C]using this
     have hf:Flat h z.length (rrep (isub b i) z) (Builtin.zeroCells id.cells (b-i).toNat).toList:=by
      have G:∀(l:Nat) r,(rrep (isub b i) z)[l]?=some r->r=z/\l<(b-i).toNat:=λl r g=>by have q:=(Y0.1 g).1;rw[D]at q;have J:=Yn g;simp only[rrep]at J;exact⟨WO J,q⟩
      refine⟨by rw[D];simpa using E,λl r g=>by rw[(G l r g).1],λl r j c' g H=>?_,λv A=>?_⟩
      .obtain⟨rfl,q⟩:=G l r g;have a2:=(Y0.1 H).1;have N:j<id.cells.size:=Vo;refine⟨id.cells[j],?_,(L j _ c' (Y1 N) H).1⟩;rw[Yp,u l j q a2,Y1 N]
      .obtain⟨k,e⟩:=List.mem_iff_getElem?.1 A;have y:=(Y0.1 e).1;rw[Array.length_toList,E]at y;obtain⟨_,q1,Z,q3⟩:=Zlz y;rw[Yp,q3,u _ _ q1 Z]at e;exact(L _ v _ e (List.getElem?_eq_getElem Z)).2
     obtain⟨d,a6,hst,F1,a0,a1⟩:=putV (P:=P) F O W h0 h2 t U hf g1 (by rw[D];omega);rw[U Vo]at hst A;refine⟨.tuple #[],d,s _ _ ?_,Goes.put F1 o.dst (.pure _ _ (.unk _)) y,a0,a1⟩;rw[A]
     obtain⟨m,J⟩:∃m,(b-i).toNat=m+1:=⟨(b-i).toNat-1,Vo⟩
     rw[J]at hst|-;simp at hst;simp[Builtin.clear_,run_underlying R,Y,hst]
  .exact f.elim
 .exact f.elim
def blt_id(h:Nat.blt n 8191=true)(k:Nat)(b:k<128):idOK (128*n+k)=true:=by
 have c:n+1<=8191:=Nat.le_of_ble_eq_true h;have:Nat.blt (128*n+k) 1048576=true:=Nat.ble_eq_true_of_le Vo;simp[idOK,this]
def val_opn{x:Operand}{id:Nat}(b:st.val x= .osl id)(i j:Nat)(rows:LL)(c:Int):(st.opn id i j rows c).val x= .osv i 0 (rlen rows) c:=by
 cases x with
 |tmp t=>
  simp only[St.val,ev]at b|-;simp only[St.opn];rw[Zcn]at b|-;rw[hmapL_getElem?]
  cases hs:st.tmps[t]? with
  |none=>rw[hs]at b;simp[ungd]at b
  |some s=>
   rw[hs]at b;simp only[Yk]at b
   have:s= .osl id:=by
    cases s<;>simp[ungd]at b
    exact congrArg SV.osl b
   subst this;simp[hmap,opnG,ungd]
 |const v=>
  exfalso
  revert b
  unfold St.val ev
  split
  next e=>cases e
  all_goals (try simp[ungd])
  all_goals (rename_i e;cases e)
 |func f=>simp[St.val,ev,ungd]at b
 |global g=>
  exfalso;have d:ungd [] (Zfz g Zbn)= .osl id:=b;rw[Zsq]at d
  rcases Zcf g Zbn with e|⟨cs,_,e⟩<;>rw[e]at d<;>cases d
def Zkl{P:Program}(w:World)(d:TypeId)(u:Array TypeId)(e:TypeId)(p:P.underlying d=some (.slice e))(c:Nat)(q:∀w,(Go.sizeOf e).run P w= .ok c w)
  (a b:Addr) (g v i x:Nat) (j:a.block≠b.block) (y z:TypeId) (r s:Nat)
  (k:w.shape? a.block=some (y,r+1)) (l:w.shape? b.block=some (z,s))
  (m:w.frozen? b=false) (n:w.frozen? {block:=b.block,off:=s}=false):
  (Extern.SlicesOverlaps.overlaps #[d,d] u #[.slice (some a) g v,.slice (some b) i x]).run P w= .ok (.bool false) w:=by
 have o:(a.block !=b.block)=true:=(by simpa using j);have f:(a.block==b.block)=false:=by simpa using j
 change Sem.run P (α:=Value) (do
  let some t:=(#[d,d]:Array TypeId)[0]?|stuck "slices.overlaps: no parameter types"
  let .slice elem<-underlying t|stuck "slices.overlaps: slice type expected"
  let c<-sizeOf elem
  match(some a:Option Addr),(some b:Option Addr)with
  |some a,some b=>
   if g=0\/i=0\/c=0 then pure (Value.bool false)
   else if a.block !=b.block&&(<-frozen a)&&(<-frozen b)then unsupported .addressObserved
   else do
    if a.block !=b.block then do
     noView a;noView b
     if<-mayBeOne a b then return Value.bool ((<-choose (.extern "sameAddr.stringBytes" 2))==1)
    pure (Value.bool (a.block==b.block&&a.off<b.off+i*c&&b.off<a.off+g*c))
  |_,_=>pure (Value.bool false)) w=_
 by_cases h0:g=0\/i=0\/c=0
 .simp[run_underlying p,q,h0]
 .cases hfa:w.frozen? a with
  |false=>cases hfx:w.frozen? {block:=a.block,off:=r+1}<;>simp[run_underlying p,q,h0,o,f,frozen,noView,viewAt,mayBeOne,stringish,shape,Sem.run,k,l,hfa,m,n,hfx]
  |true=>simp[run_underlying p,q,h0,o,f,frozen,noView,viewAt,mayBeOne,stringish,shape,Sem.run,k,l,hfa,m,n]
def Zim{P:Program}(w:World)(d:TypeId)(m:Array TypeId)(e:TypeId)(k:P.underlying d=some (.slice e))(c:Nat)(l:∀w,(Go.sizeOf e).run P w= .ok c w)
  (f g:Option Addr) (i n j o:Nat) (p:i=0\/j=0\/c=0):
  (Extern.SlicesOverlaps.overlaps #[d,d] m #[.slice f i n,.slice g j o]).run P w= .ok (.bool false) w:=by
 change Sem.run P (α:=Value) (do
  let some t:=(#[d,d]:Array TypeId)[0]?|stuck "slices.overlaps: no parameter types"
  let .slice elem<-underlying t|stuck "slices.overlaps: slice type expected"
  let c<-sizeOf elem
  match f,g with
  |some a,some b=>
   if i=0\/j=0\/c=0 then pure (Value.bool false)
   else if a.block !=b.block&&(<-frozen a)&&(<-frozen b)then unsupported .addressObserved
   else do
    if a.block !=b.block then do
     noView a;noView b
     if<-mayBeOne a b then return Value.bool ((<-choose (.extern "sameAddr.stringBytes" 2))==1)
    pure (Value.bool (a.block==b.block&&a.off<b.off+j*c&&b.off<a.off+i*c))
  |_,_=>pure (Value.bool false)) w=_
 cases f with
 |none=>simp[run_underlying k,l]
 |some f=>cases g with
  |none=>simp[run_underlying k,l]
  |some g=>simp[run_underlying k,l,p]
def Zy6(F:FitsAt X h ρ st a w)(o:Oper){f:FuncId}{x y:Operand}{U:Array TypeId}(W:o.op= .call {callee:=.value (.func f),args:=⟨[x,y]⟩,argTypes:=U})
  (r:Rep h ρ (a.eval y) (.osv n i j c)) (K:St->Prop) (d:ovlV P o f (st.val x) n st K):
  ∃v,(execOp a.eval o).run P w= .ok (.value v) w/\Goes X K (a.put o.dst v) w:=by
 have A:=F.val x;unfold ovlV at d
 split at d
 .rename_i Z D ad sz rows fn a0 ho hf;rw[a0]at A
  split at d
  next t t' ae ab=>
   split at d
   next e hu=>
    split at d
    next z hz=>
     cases hb:(Nat.beq z sz&&Nat.ble 2 z)with
     |false=>simp only[hb,cond_false]at d
     |true=>
      simp only[hb,cond_true]at d;simp only[Bool.and_eq_true]at hb;obtain⟨⟨E,a1⟩,hk⟩:=d;have:=Nat.eq_of_beq_eq_true hb.1;subst this;have aj:2<=z:=Nat.le_of_ble_eq_true hb.2
      have Q:(Extern.SlicesOverlaps.overlaps #[t,t] E #[a.eval x,a.eval y]).run P w= .ok (.bool false) w:=by
       obtain⟨p,hv,Y,h1,h2,hc,hp⟩:=r.osv_inv;obtain⟨px,cx,G⟩:=A.slice_inv;have C:=A.slice_pure;rw[G]at C;rw[hv,G];have short:∀(H J:Option Addr) id L s M,id=0\/s=0->(Extern.SlicesOverlaps.overlaps #[t,t] E #[.slice H id L,.slice J s M]).run P w= .ok (.bool false) w:=λH J id L s M Y=>by have a3:id=0\/s=0\/z=0:=Y.elim .inl (λe=>.inr (.inl e));exact Zim w t E e hu z (λw=>run_sizeOf' w hz) H J id L s M a3
       by_cases e0:D.length=0\/(j-i).toNat=0
       .exact short _ _ _ _ _ _ e0
       .obtain⟨af,own,ag⟩:=Zj8 F ho hc Vo;have a4:=hp Vo;subst a4;obtain⟨cs,tc,fz,l,hs,ah,ai⟩:=own.hblk;have a5:=(own.hfz cs tc fz l).resolve_right (λq=>Vo);subst a5;have V:0<D.length:=Vo;generalize hvs:Value.slice px D.length cx=vv at C
        cases C with
        |empty=>cases hvs;simp at V
        |slice b off al _ _ _ vs T a9 aa am ac ht an ao=>
         cases hvs
         have a6:0<(D[0]'V).length:=(by rw[a9 0 _ (List.getElem?_eq_getElem V)];exact T);have g:=aa 0 _ 0 _ (List.getElem?_eq_getElem V) (List.getElem?_eq_getElem a6);have R:b≠(ρ n).blk:=λe=>by subst e;rw[own.hh]at g;cases g
         have m:=F.sub _ _ _ g
         have a7:∃u N,w.shape? b=some (u,N+1):=by
          unfold World.cell? at m;simp only[]at m
          split at m
          next O u fA hA=>
           have ak:off+0*Z+0<O.size:=by
            rcases WN (off+0*Z+0) O.size with h'|h'
            .exact h'
            .rw[Yx h']at m;cases m
           exact⟨u,O.size-1,by simp[World.shape?,hA];omega⟩
          .cases m
         obtain⟨u,N,a2⟩:=a7;exact Zkl w t E e hu z (λw=>run_sizeOf' w hz) ⟨b,off,none⟩ ⟨(ρ n).blk,_,none⟩ _ _ _ _ R u tc N cs.size a2 (by simp[World.shape?,l]) (by simp[World.frozen?,l]) (by simp[World.frozen?,l])
      have k:=a1 (a.eval x) (a.eval y) w;rw[Q]at k;refine⟨.bool false,?_,Goes.put F o.dst (.pure _ _ (.val _)) hk⟩;have a8:(execOp a.eval o).run P w=(callFunc f #[a.eval x,a.eval y]).run P w:=(by simp[execOp,W,resolve,Act.eval,Deferred.ofValue,invoke]);rw[a8,k];rfl
    .exact d.elim
   .exact d.elim
  .exact d.elim
 .exact d.elim
def Zrh:∀(b:List SV) (i:Nat),(rows1 b)[i]?=(b[i]?).map λc=>[c]
 | [],i=>by simp[rows1]
 |c::b,0=>by simp[rows1]
 |c::b,i+1=>by simp[rows1,Zrh b i]
def Zri:∀(b:List SV),(rows1 b).length=b.length
 | []=>rfl
 |c::b=>by simp[rows1,Zri b]
def Znw(F:FitsAt X h ρ st a w)(o:Oper){x:Operand}{z A C:Option Operand}(D:o.op= .slice T x z A C)(K:St->Prop)(k:arrV P o T x z A C st K):
  ∃v,(∀q,(execOp a.eval o).run P q= .ok (.value v) q)/\Goes X K (a.put o.dst v) w:=by
 unfold arrV at k
 split at k
 .rename_i m e off l H E;have u:=F.val x;rw[E]at u
  split at k
  next J=>
   cases hb:(Nat.ble (off+m) (lenN l)&&Nat.blt 0 m&&boxL (takeN m (dropN off l)))with
   |false=>simp only[hb,cond_false]at k
   |true=>
    simp only[hb,cond_true]at k;simp only[Bool.and_eq_true]at hb;obtain⟨⟨L,M⟩,b3⟩:=hb;have U:off+m<=l.length:=by have:=Nat.le_of_ble_eq_true L;rwa[Zaz]at this
    have O:0<m:=(by simpa[Nat.blt_eq]using M);generalize hv:a.eval x=v at u;have p:(rows1 (takeN m (dropN off l))).length=m:=by rw[Zri,Zfk,Zfl];simp;omega
    have g:∀(i:Nat) r,(rows1 (takeN m (dropN off l)))[i]?=some r->∃c,r=[c]/\l[off+i]?=some c/\Zbm c=true:=by
     intro i r d;rw[Zrh]at d
     cases hc:(takeN m (dropN off l))[i]? with
     |none=>simp[hc]at d
     |some c=>
      simp[hc]at d;refine⟨c,d.symm,?_,Zku b3 i c hc⟩;rw[Zfk,Zfl,Yb]at hc
      split at hc
      .rw[Yf]at hc;exact hc
      .cases hc
    cases u with
    |pure _ _ Q=>
     cases Q with
     |ref b y _ _ R t d=>
      have s:=PRep.slice (h:=h) b (y+off) m 1 (rows1 (takeN m (dropN off l))) 1 (λi j=>R (off+i+j)) Vo
       (λi r d=>by obtain⟨c,rfl,_⟩:=g i r d;rfl)
       (λi r j c d f=>by
        obtain⟨G,rfl,e2,_⟩:=g i r d
        cases j with
        |zero=>simp at f;subst f;have:=t _ _ e2;simpa[YJ]using this
        |succ j=>simp at f)
       (λi r j c n f=>by
        obtain⟨G,rfl,e2,_⟩:=g i r n
        cases j with
        |zero=>simp at f;subst f;exact d _ _ e2
        |succ j=>simp at f)
       (λi r j c n f=>by
        obtain⟨G,rfl,e2,N⟩:=g i r n
        cases j with
        |zero=>simp at f;subst f;exact Zhh (ρ:=ρ) N (.pure _ _ (d _ _ e2))
        |succ j=>simp at f)
       Vo (λ_=>p.symm) Vo
      rw[p]at s;refine⟨_,λq=>?_,Goes.put F o.dst (.pure _ _ s) k⟩;simp[execOp,D,hv,Instr.sliceAt,run_underlying H,Instr.sureAddr,Instr.sliceBounds,run_sizeOf' q J,Zbt]
  .exact k.elim
 .exact k.elim
def view_calm(F:FitsAt X h ρ st a w)(o:Oper)(K:St->Prop)(m:loud P o.op=false){C:(St->Prop)->Prop}(f:viewC P o st=some C)(k:C K):
  ∃v,(∀r,(execOp a.eval o).run P r= .ok (.value v) r)/\Goes X K (a.put o.dst v) w:=by
 unfold viewC at f
 split at f
 next t x T U V g=>
  split at f
  next id i=>
   cases hm:vmode st with
   |false=>simp only[hm,cond_false]at f;cases f
   |true=>
    simp only[hm,cond_true]at f
    split at f
    next G rows d A O=>
     cases hdl:Nat.blt d 8191 with
     |false=>simp only[hdl,cond_false]at f;cases f
     |true=>
      simp only[hdl,cond_true]at f
      cases f
      have N:idOK (128*d+65)=true:=blt_id hdl 65 Vo;obtain⟨c,u,z,q⟩:=F.opn A N;have k:=k c u z;refine Zj9 q o g ?_ K k;have:=q.val x;have e1:(st.opn id (128*d+65) G rows c).val x= .osv (128*d+65) 0 (rlen rows) c:=val_opn i _ _ _ _;rw[e1]at this;exact this
    .cases f
  next id l D c i=>
   cases f
   have:=F.val x;rw[i]at this;exact Zj9 F o g this K k
  next id off i=>
   cases hm:amode st with
   |false=>simp only[hm,cond_false]at f;cases f
   |true=>
    simp only[hm,cond_true]at f
    split at f
    next R H=>
     cases f
     obtain⟨E,Q,q⟩:=F.frzBoxes _ H;exact Znw q o g K k
    .cases f
  .cases f
   exact Znw F o g K k
  .cases f
 .rename_i b x t g;have j:=F.val x
  split at f
  .rename_i id l D c i;rw[i]at j
   split at f
   next e s=>
    cases f
    obtain⟨p,n,J,E,L,u,M⟩:=j.osv_inv;refine⟨.int .i64 (D-l),λr=>?_,Goes.put F o.dst (.pure _ _ (.val _)) k⟩;simp[execOp,g,resolve,invoke,builtin,Builtin.len_,n,run_underlying s,goInt];omega
   .cases f
  .rename_i id l D c i;rw[i]at j
   split at f
   next e s=>
    cases f
    obtain⟨p,n,J,E,L,u,M⟩:=j.osv_inv;refine⟨.int .i64 (c-l),λr=>?_,Goes.put F o.dst (.pure _ _ (.val _)) k⟩;simp[execOp,g,resolve,invoke,builtin,Builtin.cap_,n,run_underlying s,goInt];omega
   .cases f
  next id i=>
   cases hm:vmode st with
   |false=>simp only[hm,cond_false]at f;cases f
   |true=>
    simp only[hm,cond_true]at f
    split at f
    next e G rows d s A O=>
     cases hdl:Nat.blt d 8191 with
     |false=>simp only[hdl,cond_false]at f;cases f
     |true=>
      simp only[hdl,cond_true]at f
      cases f
      obtain⟨c,u,z,q⟩:=F.opn A (blt_id hdl 65 Vo);have j:=q.val x;rw[val_opn i]at j;obtain⟨p,n,J,E,L,_,M⟩:=j.osv_inv;refine⟨.int .i64 c,λr=>?_,Goes.put q o.dst (.pure _ _ (.val _)) (k c u z)⟩;simp[execOp,g,resolve,invoke,builtin,Builtin.cap_,n,run_underlying s,goInt];omega
    .cases f
  .rw[g]at m;simp[loud]at m
  .cases f
 next b x y W Y g=>
  split at f
  .rw[g]at m;simp[loud]at m
  .rw[g]at m;simp[loud]at m
  .cases f
 next g=>rw[g]at m;simp[loud]at m
 .cases f
def Zpn{j t2 e ty:TypeId}{i:TypeInfo}(u:P.underlying j=some (.slice e))(z:P.info? e=some i)(k:i.zero=some v)(E:v.cells.size=i.size)(d:i.bytes<=8192)(x:0<i.size)(l:P.underlying t2=some (.int .i64)){m:Nat}{old:Array Value}
  {p:Option Addr} {n cap:Nat} (hno:¬n+m<=cap) (y:n+m<=2147483648)
  (g:(Builtin.firstCells i.size n (.slice p n cap)).run P w.drew= .ok old w.drew):
  ∃c,n+m<=c/\c<=9223372036854775807/\(Builtin.append_ #[j,t2] ty #[.slice p n cap,.int .i64 m]).run P w= .ok (.slice (some ⟨w.heap.size,0,none⟩) (n+m) c)
   (w.drew.alloc (.cells (old++Builtin.zeroCells v.cells m++Builtin.zeroCells v.cells (c-(n+m))) e)):=by
 refine⟨(n+m)+(w.tape w.drawn (.appendCap (n+m) cap e))%(2^63-(n+m)),Vo,by have:=Nat.mod_lt (w.tape w.drawn (.appendCap (n+m) cap e)) (show 0<2^63-(n+m) by omega);omega,?_⟩;unfold Builtin.append_;have A:IntKind.i64.wrap (m:Int)=m:=Zbg Vo Vo;have F:(m:Int)*i.bytes<=17592186044416:=(by have:m*i.bytes<=17592186044416:=Nat.le_trans (Nat.mul_le_mul (show m<=2147483648 by omega) d) (Nat.le_of_ble_eq_true rfl);have C:((m*i.bytes:Nat):Int)<=17592186044416:=Vo;rwa[Int.natCast_mul]at C);have e2:Builtin.nextslicecap (n+m) cap*i.bytes<=(2*(n+m)+200)*8192:=Nat.mul_le_mul (Zf4 (need:=n+m) (cap:=cap) Vo) d;have o:¬(281474976710656<Builtin.nextslicecap (n+m) cap*i.bytes):=Vo;have q:¬(281474976710656<(m:Int)*i.bytes):=Vo;have r:¬(9223372036854775807<(n:Int)+(m:Int)):=Vo;have b:¬((m:Int)<0):=Vo;have f:∀w,(typeInfo e).run P w= .ok i w:=λw=>run_typeInfo' w z;have s:∀w,(zeroValue e).run P w= .ok v w:=λw=>by simp[zeroValue,f,k]
 have t:m*i.size=0->Builtin.zeroCells v.cells m= #[]:=λe=>by have D:m=0:=(by rcases WU.1 e with h|h;exact h;omega);subst D;apply Yr;simp[Builtin.zeroCells]
 simp only[sizeOf];simp[hno,run_underlying u,run_underlying l,f,asInt,asIntOf,A,q,r,o,Question.forced,Question.cut,g,s,newRow];by_cases hm0:m*i.size=0
 .simp only[hm0,if_true,t hm0];rw[if_neg b];simp
 .simp only[hm0,if_false];rw[if_neg b]
def viewLoad(F:FitsAt X h ρ st a w){u:Value}{id d:Nat}{l e c:Int}{rows:LL}(D:Rep h ρ u (.osv id l e c))(E:oget st.objs id=some (.own d rows)):
  ∃old:Array Value,old.size=(e-l).toNat*d/\(∀g:World,(∀b,b<w.heap.size->g.heap[b]?=w.heap[b]?)->(Builtin.firstCells d (e-l).toNat u).run P g= .ok old g)/\
   ∀(i:Nat) r (j:Nat) m,i<(e-l).toNat->rows[l.toNat+i]?=some r->r[j]?=some m->r.length=d/\∃v,old[i*d+j]?=some v/\PRep h v m/\v.oneCell'=true:=by
 obtain⟨p,rfl,R,T,U,H,J⟩:=D.osv_inv;by_cases hz:e=l
 .refine⟨#[],by simp[hz],λg _=>?_,λi r j m x=>Vo⟩;rw[show(e-l).toNat=0 by omega]
  cases p with
  |none=>simp[Builtin.firstCells]
  |some Z=>simp[Builtin.firstCells,loadCells,loadCellsFrom]
 .obtain⟨O,o,Q⟩:=Zj8 F E H Vo;obtain⟨z,t,V,f,W,Y,K⟩:=o.hblk;rw[J Vo];have M:l.toNat*d+(e-l).toNat*d<=(ρ id).cap*d:=by rw[<-Yj];exact Y9 d Vo
  have s:(ρ id).blk<w.heap.size:=by
   rcases WN (ρ id).blk w.heap.size with h'|h'
   .exact h'
   .rw[Yx h']at f;cases f
  refine⟨((List.range ((e-l).toNat*d)).map λk=>(w.cell? ⟨(ρ id).blk,(ρ id).off+l.toNat*d+k,none⟩).getD undef).toArray,Vs,λg G=>?_,λi r j m x q y=>?_⟩
  .simp only[Builtin.firstCells,o.hsz]
   have:=run_loadCells (P:=P) g ⟨(ρ id).blk,(ρ id).off+l.toNat*d,none⟩ ((e-l).toNat*d) (λk=>(w.cell? ⟨(ρ id).blk,(ρ id).off+l.toNat*d+k,none⟩).getD undef) (λk N=>by
    rw[Zbt];have n:(ρ id).off+l.toNat*d+k<z.size:=Vo;have e1:w.cell? ⟨(ρ id).blk,(ρ id).off+l.toNat*d+k,none⟩=some z[(ρ id).off+l.toNat*d+k]:=by simp[World.cell?,f,n]
    rw[Zf6 (G _ s) e1,e1];rfl)
   rw[this]
  .have A:=o.hrow _ r q;have C:j<d:=(by have:=(Y0.1 y).1;omega);obtain⟨v,e1,e2,L⟩:=K _ r j m q y;refine⟨A,v,?_,e2,L⟩;have n:=Zml x C;rw[show(ρ id).off+(l.toNat+i)*d+j=(ρ id).off+l.toNat*d+(i*d+j) by rw[Yj];omega]at e1;simp only[Ys,Yz,List.getElem?_range n,YR];simp[World.cell?,f,e1]
def Zy7(F:FitsAt X h ρ st a w)(o:Oper){t1 t2:TypeId}{x y:Operand}{n:Int}{id:Nat}{l g c:Int}(ac:o.op= .call {callee:=.builtin .append,args:=⟨[x,y]⟩,argTypes:=⟨[t1,t2]⟩})
  (ad:P.underlying t2=some (.int .i64)) (ae:a.eval y= .int .i64 n) (r:Rep h ρ (a.eval x) (.osv id l g c)) (K:St->Prop) (C:appZ P o t1 n id l g c st K):
  ∃v D,(execOp a.eval o).run P w= .ok (.value v) D/\Goes X K (a.put o.dst v) D/\w.heap.size<=D.heap.size/\Frm st ρ id w D:=by
 obtain⟨p,hv,h0,h1,h2,hc,hp⟩:=r.osv_inv;unfold appZ at C
 split at C
 next e d sz rows hu hd ho=>
  split at C
  next z zr hz af=>
   cases L:(Zb9 P e&&Nat.beq z sz&&dstOK o.dst)with
   |false=>simp only[L,cond_false]at C
   |true=>
    simp only[L,cond_true]at C;simp only[Bool.and_eq_true]at L;obtain⟨⟨ag,ah⟩,a2⟩:=L;have:=Nat.eq_of_beq_eq_true ah;subst this;obtain⟨i,zv,hi,ai,O,a3,E,a6⟩:=Zcg ag;have al:z=i.size:=by rw[a6]at hz;cases hz;rfl
    subst al;obtain⟨⟨⟨n0,n1⟩,n2,n3⟩,W,Q⟩:=C;simp only[lsum,isub,most]at n1 n2 n3 W Q
    obtain⟨m,rfl⟩:∃m:Nat,n=m:=⟨n.toNat,Vo⟩
    obtain⟨old,R,Y,J⟩:=viewLoad (P:=P) F r ho;rw[hd]at a2;have am:=Zv6 a2;obtain⟨u,au,aj,T⟩:=Zpn (P:=P) (ty:=o.type) (t2:=t2) (m:=m) (p:=p) (n:=(g-l).toNat) (cap:=(c-l).toNat) (old:=old) (w:=w) hu hi a3 E ai O ad Vo Vo (by rw[<-hv];exact Y w.drew (λ_ _=>rfl));rw[<-hv,<-ae]at T;obtain⟨s,ao,ap,a7,a8⟩:=Zdh (h:=h) af;have a9:s=zv:=by have:=a7 i hi;rw[a3]at this;cases this;rfl
    subst a9;have an:zr.length=i.size:=Vo;have a0:∀v D,(Builtin.append_ #[t1,t2] o.type #[a.eval x,a.eval y]).run P w= .ok v D->(execOp a.eval o).run P w= .ok (.value v) D:=λv D e=>by simp[execOp,ac,resolve,invoke,builtin,e]
    refine⟨_,_,a0 _ _ T,?_,(Zai w _).size,λb L _=>(Zai w _).block b L (λe=>e)⟩;have H:g-l+(m:Int)<=(u:Int):=Vo
    have fin:∀f,f.length<=(g-l).toNat+m->(∀(k:Nat) r,f[k]?=some r->r.length=i.size)->(∀(k:Nat) r (j:Nat) G,f[k]?=some r->r[j]?=some G->∃v,(old++Builtin.zeroCells s.cells m++Builtin.zeroCells s.cells (u-((g-l).toNat+m)))[k*i.size+j]?=some v/\PRep h v G/\v.oneCell'=true)->
      K ((st.bind (128*d+64) (.own i.size f)).put o.dst (.osv (128*d+64) 0 (g-l+m) u))->
      Goes X K (a.put o.dst (.slice (some ⟨w.heap.size,0,none⟩) ((g-l).toNat+m) u)) (w.drew.alloc (.cells (old++Builtin.zeroCells s.cells m++Builtin.zeroCells s.cells (u-((g-l).toNat+m))) e)):=by
     intro f ar V N q
     have aa:OwnOK h (w.drew.alloc (.cells (old++Builtin.zeroCells s.cells m++Builtin.zeroCells s.cells (u-((g-l).toNat+m))) e)) ⟨w.heap.size,0,f.length,u,i.size,false⟩ i.size f:=
      Zqq (fz:=(0,0)) (e:=e) O Vo aj V (by show(w.heap.push _)[_]?=_;simp) (by
       simp only[YV,R,Builtin.zeroCells,We,Wk,E];rw[<-Yj,<-Yj]
       exact Y9 _ Vo) (λo _=>Vs) (λo=>Zc4 F.sub o _ (Nat.le_refl _)) (.inl rfl) N
     have F1:=F.newOwn (128*d+64) am (.own i.size f) ⟨w.heap.size,0,f.length,u,i.size,false⟩ (Zai w _) Vs (λ_=>Nat.le_refl _) (.inr ⟨by rw[Zac],by rw[Zac];exact aa⟩);have hR:=Rep.osv (h:=h) (ρ:=upd ρ (128*d+64) ⟨w.heap.size,0,f.length,u,i.size,false⟩) (128*d+64) 0 (g-l+m) u (some ⟨w.heap.size,0,none⟩) Vo Vo H (by rw[Zac];simp) (λ_=>by rw[Zac];simp);rw[show(g-l+(m:Int)-0).toNat=(g-l).toNat+m by omega,show((u:Int)-0).toNat=u by omega]at hR;exact Goes.put F1 o.dst hR q
    by_cases hle:g<=rlen rows
    .have W:=W hle u H Vo;simp only[rlen,Y7]at hle;have a4:(rsub rows l g).length=(g-l).toNat:=by simp[rsub];omega
     have t:∀(k:Nat) r,(rapp (rsub rows l g) (rrep m zr))[k]?=some r->(k<(g-l).toNat/\rows[l.toNat+k]?=some r)\/((g-l).toNat<=k/\k<(g-l).toNat+m/\r=zr):=by
      intro k r q;simp only[rapp,List.getElem?_append,a4]at q
      split at q
      .rename_i A;simp only[rsub,Yf,Yb]at q
       split at q
       .exact .inl ⟨A,q⟩
       .cases q
      next a1=>have h1:=(Y0.1 q).1;have hm:=Yn q;simp only[rrep]at hm h1;rw[Wl]at h1;refine .inr ⟨Vo,?_,WO hm⟩;have:(m:Int).toNat=m:=Vo;omega
     refine fin _ (by simp[rapp,a4,rrep]) (λk r q=>?_) (λk r j G q M=>?_) W
     .rcases t k r q with⟨A,Z⟩|⟨_,_,rfl⟩
      .rcases F.obj id _ ho with⟨_,rfl⟩|⟨_,ow⟩
       .simp at Z
       .exact ow.hrow _ r Z
      .exact an
     .rcases t k r q with⟨A,Z⟩|⟨a1,A,rfl⟩
      .obtain⟨ak,v,e1,e2,e3⟩:=J k r j G A Z M;refine⟨v,?_,e2,e3⟩;rw[Array.append_assoc,Yq (Y3.1 e1).1];exact e1
      .have av:=(Y0.1 M).1;have a5:j<s.cells.size:=Vo;have U:=Zgq (z:=s.cells) (n:=m) (i:=k-(g-l).toNat) (j:=j) E Vo Vo;obtain⟨q1,q2⟩:=a8 j _ G (Y1 a5) M;refine⟨s.cells[j],?_,q1,q2⟩;have aq:(g-l).toNat*i.size<=k*i.size:=Y9 _ a1;have ab:(k-(g-l).toNat)*i.size+j<m*i.size:=Zml Vo Vo;rw[WV]at U ab;rw[Yq (by simp[R,Builtin.zeroCells,E];omega),Array.getElem?_append_right Vo,R];rw[show k*i.size+j-(g-l).toNat*i.size=k*i.size-(g-l).toNat*i.size+j by omega];rw[<-Y1 a5,<-U];simp[Builtin.zeroCells,E]
    .have Q:=Q Vo u H Vo;simp only[rlen,Y7]at hle Q
     have t:∀(k:Nat) r,(rsub rows l (rows.length:Int))[k]?=some r->k<(g-l).toNat/\rows[l.toNat+k]?=some r:=by
      intro k r q;simp only[rsub,Yf,Yb]at q
      split at q
      next A=>have:=(Y0.1 q).1;exact⟨Vo,q⟩
      .cases q
     refine fin _ (by simp[rsub];omega) (λk r q=>?_) (λk r j G q M=>?_) Q
     .rcases F.obj id _ ho with⟨_,rfl⟩|⟨_,ow⟩
      .have:=(t k r q).2;simp at this
      .exact ow.hrow _ r (t k r q).2
     .obtain⟨ak,v,e1,e2,e3⟩:=J k r j G (t k r q).1 (t k r q).2 M;refine⟨v,?_,e2,e3⟩;rw[Array.append_assoc,Yq (Y3.1 e1).1];exact e1
  .exact C.elim
 .exact C.elim
def view_loud(F:FitsAt X h ρ st a w)(o:Oper)(K:St->Prop)(k:loud P o.op=true){C:(St->Prop)->Prop}(e:viewC P o st=some C)(r:C K):
  ∃v i,(execOp a.eval o).run P w= .ok (.value v) i/\Goes X K (a.put o.dst v) i/\w.heap.size<=i.heap.size/\((∃id,(∀(s:FuncId->Sig) (u:TypeId->Sig),touch s u st o=some [id])/\Frm st ρ id w i)\/i=w):=by
 unfold viewC at e
 split at e
 next t x G H J d=>rw[d]at k;simp[loud]at k
 .rename_i b x t d;have j:=F.val x
  split at e
  .rw[d]at k;simp[loud]at k
  .rw[d]at k;simp[loud]at k
  .rw[d]at k;simp[loud]at k
  .rename_i id l A c g;rw[g]at j
   cases e
   obtain⟨v,i,e1,e2,p,q⟩:=Zrg F o d j K r;exact⟨v,i,e1,e2,p,.inl ⟨id,λs u=>by simp[touch,d,g],q⟩⟩
  .cases e
 .rename_i b x y L M d;have j:=F.val x
  split at e
  .rename_i id l A c g;rw[g]at j
   split at e
   next n D z=>
    cases e
    have m:=F.val y;rw[z]at m;obtain⟨v,i,e1,e2,p,q⟩:=Zy7 F o d D m.val_inv j K r;exact⟨v,i,e1,e2,p,.inl ⟨id,λs u=>by simp[touch,d,g],q⟩⟩
   .cases e
    obtain⟨v,i,e1,e2,p,q⟩:=Zy5 F o d j K r;exact⟨v,i,e1,e2,p,.inl ⟨id,λs u=>by simp[touch,d,g],q⟩⟩
  .rename_i id l A c g;rw[g]at j
   cases e
   obtain⟨v,i,e1,e2,p,q⟩:=Ztp F o d j K r;exact⟨v,i,e1,e2,p,.inl ⟨id,λs u=>by simp[touch,d,g],q⟩⟩
  .cases e
 .rename_i f x y E d;have m:=F.val y
  split at e
  .rename_i id l A c z;rw[z]at m
   cases e
   obtain⟨v,e1,e2⟩:=Zy6 F o d m K r;exact⟨v,w,e1,e2,Nat.le_refl _,.inr rfl⟩
  .cases e
 .cases e
end

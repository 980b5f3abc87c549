import Derived.Test.YtaenkbbfockfgaaGreatDoorK02
set_option linter.all false
set_option maxRecDepth 100000
variable{i:Int}{m n p:Nat}{s:BA}{v:Go.Value}{U u:Go.Px.SV}{T:Go.TypeId}
namespace Go.Px
open Go.RowKit
theorem Zbj{a:Int}(b: -9223372036854775808<=a)(c:a<=9223372036854775807):IntKind.i64.wrap a=a:=by
 have e1:(2:Int)^64=18446744073709551616:=Vd;have e2:(2:Int)^(64-1)=9223372036854775808:=Vd;simp only[IntKind.wrap,IntKind.signed,IntKind.bits,Bool.true_and,e1,e2,ge_iff_le,decide_eq_true_eq]
 split<;>omega
theorem Zqg(n:Nat):∀(r c:Nat),Builtin.growBy n r c<=max c (n+(n+768)/4)
 |0,c=>by simp[Builtin.growBy];omega
 |r+1,c=>by
  simp only[Builtin.growBy]
  split
  .omega
  .have:=Zqg n r (c+(c+768)/4);omega
def Zfq{need cap:Nat}(h:cap<need):Builtin.nextslicecap need cap<=2*need+200:=by
 grind [Builtin.nextslicecap,Zqg]
section
variable{X:Cx}{h:Hp}{ρ:Nat->Loc}{st:St}{a:Act}{w:World}{P:Program}
def Zk5(n:Nat)(w:World):(askRoom n).run P w= .ok () w:=by
 simp_all
def Zoc(l:HSub h w){t e:TypeId}{n m:Int}{z:List SV}(u:P.underlying t=some (.slice e))(H:Zf7 P e=some z)(J:Zb2 P e=true)(N:z.length=(szT P e).getD 0)
  (V:0<=n) (W:n<=m) (K:m<=2147483648):∃cs,(Instr.makeSlice t (.int .i64 n) (.int .i64 m)).run P w= .ok (.slice (some ⟨w.heap.size,0,none⟩) n.toNat m.toNat) (w.alloc (.cells cs e))/\
   OwnOK h (w.alloc (.cells cs e)) ⟨w.heap.size,0,(rrep n z).length,m.toNat,z.length,false⟩ z.length (rrep n z):=by
 obtain⟨i,f,x,O,q,Q,y,d⟩:=Zcc J;have g:z.length=i.size:=Vg;obtain⟨v,L,R,T,U⟩:=Zc5 (h:=h) H;have s:f=v:=Vg;subst s;have A:IntKind.i64.wrap n=n:=Zbj Vo Vo;have C:IntKind.i64.wrap m=m:=Zbj Vo Vo;have M:¬((i.bytes:Int)*m>2^48):=by have Z:(i.bytes:Int)*m<=8192*2147483648:=Int.mul_le_mul Vo K Vo Vo;omega
 have D:∃cs,(Instr.makeSlice t (.int .i64 n) (.int .i64 m)).run P w= .ok (.slice (some ⟨w.heap.size,0,none⟩) n.toNat m.toNat) (w.alloc (.cells cs e))/\cs.size=m.toNat*i.size/\
   ∀k j,k<m.toNat->j<i.size->cs[k*i.size+j]?=f.cells[j]?:=by
  have E:¬((decide (m<0)||decide ((i.bytes:Int)*m>2^48)||decide (n<0)||decide (n>m))=true):=by
   grind
  by_cases hn:m.toNat*i.size=0
  .refine⟨#[],?_,by rw[hn];rfl,λk j b p=>?_⟩
   .unfold Instr.makeSlice;simp only[Sem.run_bind,run_underlying u,Result.andThen_ok,asInt,asIntOf,Sem.run_pure,run_typeInfo' w x,A,C];rw[if_neg E];simp only[Sem.run_bind,Result.andThen_ok,Zk5,run_sizeOf' w d];simp[hn,newRow]
    grind
   .rcases WV.1 hn with e0|e0<;>omega
  .refine⟨(Array.range (m.toNat*i.size)).map (f.cells[·%f.cells.size]!),?_,Vs,λk j b p=>Zga y b p⟩;unfold Instr.makeSlice;simp only[Sem.run_bind,run_underlying u,Result.andThen_ok,asInt,asIntOf,Sem.run_pure,run_typeInfo' w x,A,C];rw[if_neg E];simp only[Sem.run_bind,Sem.run_pure,Result.andThen_ok,Zk5,run_sizeOf' w d,hn,if_false,L w];simp[newRow]
 obtain⟨cs,e1,e2,Y⟩:=D;refine⟨cs,e1,?_⟩;have F:(rrep n z).length=n.toNat:=by simp[rrep]
 have G:∀(k:Nat) r,(rrep n z)[k]?=some r->k<n.toNat/\r=z:=λk r b=>by
  grind [rrep]
 refine Zp2 (cs:=cs) (e:=e) (fz:=(0,0)) (by rw[g];exact q) (by rw[F];omega) Vo (λk r b=>by rw[(G k r b).2]) (by show(w.heap.push _)[_]?=_;simp) (by rw[g,e2];exact Nat.le_refl _) (λo _=>Vs) (λo=>Zcv l o _ (Nat.le_refl _)) (.inl rfl) (λk r j c b p=>?_)
 grind
structure Flat(h:Hp)(sz:Nat)(rows:LL)(vs:List Value):Prop where
 len:vs.length=rows.length*sz
 row:∀(i:Nat) r,rows[i]?=some r->r.length=sz
 cell:∀(i:Nat) r (j:Nat) c,rows[i]?=some r->r[j]?=some c->∃v,vs[i*sz+j]?=some v/\PRep h v c
 one:∀v∈vs,v.oneCell'=true
def Flat.nil(b:Nat):Flat h b [] []:=⟨Vs,Vs,Vs,Vs⟩
def Zk6{k n b:Nat}(d:k<n*b):0<b/\k/b<n/\k%b<b/\k=k/b*b+k%b:=by
 have c:0<b:=by
  grind
 refine⟨c,Y03 (by rw[WN];exact d),Nat.mod_lt _ c,?_⟩;have:=Nat.div_add_mod k b
 grind
def Zod{b off d:Nat}{rows:LL}(p:0<d)(e:∀(i:Nat) r,rows[i]?=some r->r.length=d)
  (q:∀(i:Nat) r (j:Nat) c,rows[i]?=some r->r[j]?=some c->∃v,w.cell? ⟨b,off+i*d+j,none⟩=some v/\PRep h v c/\v.oneCell'=true):
  ∃n,Flat h d rows n/\∀f:World,f.heap[b]?=w.heap[b]?->(loadCells ⟨b,off,none⟩ (rows.length*d)).run P f= .ok n.toArray f:=by
 have g:∀k,k<rows.length*d->∃v,w.cell? ⟨b,off+k,none⟩=some v/\v.oneCell'=true:=λk g=>by obtain⟨_,l,s,u⟩:=Zk6 g;have o:=List.getElem?_eq_getElem l;have D:=e _ _ o;obtain⟨v,e1,_,x⟩:=q _ _ (k%d) _ o (List.getElem?_eq_getElem Vo);refine⟨v,?_,x⟩;rw[YH,<-u]at e1;exact e1
 refine⟨(List.range (rows.length*d)).map λk=>(w.cell? ⟨b,off+k,none⟩).getD undef,⟨Vs,e,λi r j c l s=>?_,λv C=>?_⟩,λf t=>?_⟩
 .have y:=(Y0.1 l).1;have z:j<d:=Vg;have A:=Zlu y z
  grind
 .grind
 .have:=run_loadCells (P:=P) f ⟨b,off,none⟩ (rows.length*d) (λk=>(w.cell? ⟨b,off+k,none⟩).getD undef) (λk m=>by
   rw[Zbn];obtain⟨v,e1,_⟩:=g k m
   rw[Zfs t e1,e1];rfl)
  rw[this]
def Zd1(F:FitsAt X h ρ st a w){t2:TypeId}{y:SV}{vy:Value}{o:Option Nat}{f:LL}{z:Nat}(D:Rep h ρ vy y)(e:Zii P st t2 y=some (o,f))
  (l:srcOK z o=true) (O:0<z):
  (∃d,P.underlying t2=some d/\∀k,d≠ .int k)/\(∀g,(Builtin.lenOf vy).run P g= .ok f.length g)/\
  ∃n,Flat h z f n/\∀g:World,(∀b,b<w.heap.size->g.heap[b]?=w.heap[b]?)->(Builtin.firstCells z f.length vy).run P g= .ok n.toArray g:=by
 unfold Zii at e
 split at e
 .rename_i e0 x A;simp at e;obtain⟨Q,E,rfl⟩:=e;obtain⟨p,Y,rfl,R⟩:=Zd2 F D E;refine⟨⟨_,A,Vs⟩,λg=>by simp[Builtin.lenOf],?_⟩;by_cases h0:0<f.length
  .obtain⟨b,off,rfl,G,C,H⟩:=R h0
   have J:Q=z:=by
    simp only[srcOK,Bool.or_eq_true]at l
    rcases l with l|l
    .simp_all
    simp_all
   subst J;obtain⟨n,T,hl⟩:=Zod (P:=P) (w:=w) G C H;refine⟨n,T,λg Z=>?_⟩
   have V:b<w.heap.size:=by
    have K:f[0]?=some (f[0]'h0):=List.getElem?_eq_getElem h0;have q:0<(f[0]'h0).length:=Vg;obtain⟨v,e1,_⟩:=H 0 _ 0 ((f[0]'h0)[0]'q) K (List.getElem?_eq_getElem q);unfold World.cell? at e1
    grind
   grind [Builtin.firstCells]
  .have L:f=[]:=by cases f with
    |nil=>rfl
    |cons=>simp at h0
   subst L;refine⟨[],Flat.nil z,λg _=>?_⟩
   cases p with
   |none=>simp[Builtin.firstCells]
   |some ad=>simp[Builtin.firstCells,loadCells,loadCellsFrom]
 .rename_i s A;simp at e;obtain⟨rfl,rfl⟩:=e;have M:z=1:=Nat.eq_of_beq_eq_true l;subst M;have W:=D.val_inv;subst W
  have m:(Zch s).length=s.size:=by
   simp_all[List.length_map,Zch]
  refine⟨⟨_,A,Vs⟩,λg=>by simp[Builtin.lenOf,m],s.data.toList.map (λb=>.int .u8 b.toNat),⟨by simp[Zch],λi r t=>?_,λi r j c t u=>?_,by simp[Value.oneCell']⟩,λg _=>?_⟩
  .grind [Zch]
  .simp[Zch]at t;obtain⟨b,U,rfl⟩:=t
   cases j with
   |zero=>simp at u;subst u;exact⟨.int .u8 b.toNat,by simp[U],.val _⟩
   |succ j=>simp at u
  .simp only[Builtin.firstCells,m,Sem.run_pure];have N:s.extract 0 s.size=s:=(by simp_all);rw[N];congr 1
   grind
 .cases e
def Flat.append{sz:Nat}{r1 r2:LL}{v1 v2:List Value}(a:Flat h sz r1 v1)(b:Flat h sz r2 v2):Flat h sz (r1++r2) (v1++v2) where
 len:=by simp[a.len,b.len,Ym]
 row:=λi r hi=>by
  rw[List.getElem?_append]at hi
  split at hi
  .exact a.row i r hi
  .exact b.row _ r hi
 cell:=λi r j c hi hj=>by
  rw[List.getElem?_append]at hi
  split at hi
  .rename_i hlt;obtain⟨v,e1,e2⟩:=a.cell i r j c hi hj
   grind
  .rename_i hlt;obtain⟨v,e1,e2⟩:=b.cell _ r j c hi hj;refine⟨v,?_,e2⟩;have:r1.length*sz<=i*sz:=Yf sz Vo;rw[YI (by rw[a.len];omega),a.len];rw[<-e1]
   grind [Nat.sub_mul]
 one:=λv hv=>(List.mem_append.1 hv).elim (a.one v) (b.one v)
def Zej{j l e ty:TypeId}{i:TypeInfo}{b:TypeDesc}(s:P.underlying j=some (.slice e))(t:P.info? e=some i)(o:P.underlying l=some b)(u:∀k,b≠ .int k){q:List Value}
  (d:(Builtin.lenOf v).run P w= .ok m w) (f:(Builtin.firstCells i.size m v).run P w= .ok q.toArray w) {p:Option Addr} {n cap:Nat} (g:n+m<=cap) {w':World}
  (hst:match p with|some r=>(storeCells (r.add (n*i.size)) q).run P w= .ok () w'|none=>w'=w):
  (Builtin.append_ #[j,l] ty #[.slice p n cap,v]).run P w= .ok (.slice p (n+m) cap) w':=by
 have x:(match b with| .int _=>true|_=>false)=false:=(by simp_all);unfold Builtin.append_;simp only[sizeOf];have c:(b matches .int _)=false:=Vg;simp[d,g,f,run_underlying s,run_underlying o,run_typeInfo' w t]
 cases p with
 |none=>simp at hst;subst hst;simp
 |some r=>simp at hst;simp[hst]
def Ze4{l o e ty:TypeId}{i:TypeInfo}{c:TypeDesc}(y:P.underlying l=some (.slice e))(q:P.info? e=some i)(r:i.zero=some v)(s:i.bytes<=8192)(t:P.underlying o=some c)(C:∀k,c≠ .int k){d:Value}{u old:List Value}
  (f:(Builtin.lenOf d).run P w= .ok m w) {p:Option Addr} {n cap:Nat} (hno:¬n+m<=cap) (A:n+m<=2147483648)
  (g:(Builtin.firstCells i.size m d).run P w.drew= .ok u.toArray w.drew)
  (j:(Builtin.firstCells i.size n (.slice p n cap)).run P w.drew= .ok old.toArray w.drew):
  ∃b,n+m<=b/\b<=9223372036854775807/\(Builtin.append_ #[l,o] ty #[.slice p n cap,d]).run P w= .ok (.slice (some ⟨w.heap.size,0,none⟩) (n+m) b)
   (w.drew.alloc (.cells (old.toArray++u.toArray++Builtin.zeroCells v.cells (b-(n+m))) e)):=by
 have D:(c matches .int _)=false:=(by simp_all);refine⟨(n+m)+(w.tape w.drawn (.appendCap (n+m) cap e))%(2^63-(n+m)),Vo,by have:=Nat.mod_lt (w.tape w.drawn (.appendCap (n+m) cap e)) (show 0<2^63-(n+m) by omega);omega,?_⟩;unfold Builtin.append_;have E:¬(((n+m:Nat):Int)>IntKind.i64.max/\(false=true\/i.bytes=0)):=(by have:IntKind.i64.max=9223372036854775807:=Vd;omega);have F:¬(Builtin.nextslicecap (n+m) cap*i.bytes>2^48):=(by have e1:=Zfq (need:=n+m) (cap:=cap) Vo;have e2:Builtin.nextslicecap (n+m) cap*i.bytes<=(2*(n+m)+200)*8192:=Nat.mul_le_mul e1 s;omega);simp only[sizeOf];simp[f,hno,run_underlying y,run_underlying t,run_typeInfo' w q];have z:¬(9223372036854775807<(n:Int)+(m:Int)/\i.bytes=0):=Vo;have x:¬(281474976710656<Builtin.nextslicecap (n+m) cap*i.bytes):=Vo;rw[if_neg z,if_neg x];simp[Question.forced,Question.cut,run_typeInfo' _ q,j,g,zeroValue,r,newRow]
 grind
end
end Go.Px
namespace Go.Px
open Go.RowKit
section
variable{X:Cx}{h:Hp}{ρ:Nat->Loc}{st:St}{a:Act}{w:World}{P:Program}
def Zr4{b:World}{cs:Array Value}{e:TypeId}{fz:Nat×Nat}{rows:LL}{f:List Value}(g:Flat h p rows f)(l:0<p)(d:rows.length<=m)(q:m<=9223372036854775807)
  (u:b.heap[n]?=some (.cells cs e fz)) (x:m*p<=cs.size) (s:∀o,o<m*p->¬(fz.1<=o/\o<fz.2)) (y:∀o,h n o=none) (t:fz=(0,0)\/(p=1/\cs.size<=fz.1)) (z:∀(k:Nat) v,f[k]?=some v->cs[k]?=some v):
  OwnOK h b ⟨n,0,rows.length,m,p,false⟩ p rows:=
 Zp2 l d q g.row u x s y t λi r j c A C=>by obtain⟨v,e1,e2⟩:=g.cell i r j c A C;exact⟨v,z _ _ e1,e2,g.one v (Yn e1)⟩
def Zai(w:World)(o:Obj):Keeps (λ_=>False) w (w.drew.alloc o):=
 (Zy5 w).trans (Zbl w.drew o)
def OwnOK.flat{l:Loc}{b:Nat}{rows:LL}(o:OwnOK h w l b rows):∃e,Flat h b rows e/\∀d:World,d.heap[l.blk]?=w.heap[l.blk]?->(loadCells ⟨l.blk,l.off,none⟩ (rows.length*b)).run P d= .ok e.toArray d:=by
 obtain⟨p,t,q,k,s,u,m⟩:=o.hblk
 exact Zod o.pos o.hrow (λi r j c f g=>by
  obtain⟨v,e1,e2,n⟩:=m i r j c f g
  exact⟨v,by simp[World.cell?,k,e1],e2,n⟩)
def OwnOK.more{l:Loc}{b:Nat}{rows g:LL}{A:List Value}(o:OwnOK h w l b rows)(f:Flat h b g A)(m:rows.length+g.length<=l.cap):
  ∃w',(storeCells ((⟨l.blk,l.off,none⟩:Addr).add (rows.length*b)) A).run P w= .ok () w'/\Keeps (λk=>k=l.blk) w w'/\(∀k,k≠l.blk->w'.heap[k]?=w.heap[k]?)/\OwnOK h w' {l with len:=rows.length+g.length} b (rapp rows g):=by
 obtain⟨p,t,E,s,R,y,J⟩:=o.hblk;have K:rows.length*b+g.length*b<=l.cap*b:=by rw[<-Ym];exact Yf b m
 have n:=Zby P l.blk (l.off+rows.length*b) t E A 0 p w s (by rw[f.len];omega) f.one (λx L D=>y x Vo (by rw[f.len]at D;omega));rw[Zbn];simp only[Nat.add_zero]at n;refine⟨_,n,Zbv _ _ _,λk H=>setRow_other _ _ _ _ H,⟨o.pos,o.hsz,by simp[rapp],by simp[rapp];exact m,λi r d=>?_,⟨_,t,E,setRow_heap w _ p _ t _ s,?_,y,λi r j c d C=>?_⟩,o.hh,λM Q N e=>by rw[setRow_heap w _ p _ t _ s]at e;cases e;exact(o.hfz _ _ _ s).imp (λz=>z) λq=>⟨q.1,by simp[f.len];omega⟩,o.hcm⟩⟩
 .simp only[rapp,List.getElem?_append]at d
  split at d
  .exact o.hrow i r d
  .exact f.row _ r d
 .grind
 .simp only[rapp,List.getElem?_append]at d;simp only[Yy];have U:(List.take (l.off+rows.length*b) p.toList).length=l.off+rows.length*b:=Vm
  split at d
  .rename_i u;obtain⟨v,e1,e2,T⟩:=J i r j c d C;have F:j<b:=by have:=(Y0.1 C).1;rw[o.hrow i r d]at this;exact this
   have:=Zlu u F
   grind
  .rename_i u;obtain⟨v,e1,e2⟩:=f.cell _ r j c d C;refine⟨v,?_,e2,f.one v (Yn e1)⟩;have O:rows.length*b<=i*b:=Yf b Vo;have G:=(Y0.1 e1).1;rw[WW]at e1 G
   grind
structure Appended(X:Cx)(h:Hp)(st st':St)(a:Act)(w:World)(v:Value)(w':World)(id:Nat)(ρ:Nat->Loc):Prop where
 fits:∃ρ',FitsAt X h ρ' st' a w'/\Rep h ρ' v (.osl id)
 size:w.heap.size<=w'.heap.size
def Zxy(F:FitsAt X h ρ st a w){t1 t2 e ty:TypeId}{vx vy:Value}{y:SV}{Q:Option Nat}{c:LL}{z id d:Nat}{rows:LL}(J:P.underlying t1=some (.slice e))(hz:szT P e=some z)(K:Zb2 P e=true)
  (Y:Zii P st t2 y=some (Q,c)) (a1:Rep h ρ vy y) (a2:srcOK z Q=true) (ho:oget st.objs id=some (.own z rows)) (R:Rep h ρ vx (.osl id)) (ab:lsum (rlen rows) (rlen c)<=most) (s:idOK d=true):
  ∃v w',(Builtin.append_ #[t1,t2] ty #[vx,vy]).run P w= .ok v w'/\(∃ρ',FitsAt X h ρ' ((st.drop id).bind d (.own z (rapp rows c))) a w'/\Rep h ρ' v (.osl d))/\w.heap.size<=w'.heap.size/\
   ∀b,b<w.heap.size->(live st.objs ρ id->(ρ id).blk≠b)->w'.heap[b]?=w.heap[b]?:=by
 obtain⟨i,zv,L,U,E,V,a4,ac⟩:=Zcc K;have a7:z=i.size:=Vg;subst a7;obtain⟨⟨d2,x,A⟩,q,Z,M,g⟩:=Zd1 (P:=P) F a1 Y a2 E;have C:rows.length+c.length<=2147483648:=(by grind [lsum,rlen,most,Int.ofNat_eq_natCast]);have Fd:=F.drop id (ρ':=ρ) (λ_ _=>rfl) (.inr rfl);have D:∀k,live (st.drop id).objs ρ k->k≠id/\live st.objs ρ k:=λk l=>live_drop (λ_ _=>rfl) l
 have H:∀(cs:Array Value) (f:Nat),rows.length+c.length<=f->OwnOK h (w.drew.alloc (.cells cs e)) ⟨w.heap.size,0,(rapp rows c).length,f,i.size,false⟩ i.size (rapp rows c)->
   ∃ρ',FitsAt X h ρ' ((st.drop id).bind d (.own i.size (rapp rows c))) a (w.drew.alloc (.cells cs e))/\Rep h ρ' (.slice (some ⟨w.heap.size,0,none⟩) (rapp rows c).length f) (.osl d):=by
  intro cs f m t;have hl:(⟨w.heap.size,0,(rapp rows c).length,f,i.size,false⟩:Loc).none=false:=rfl;refine⟨upd ρ d _,Fd.newOwn d s (.own i.size (rapp rows c)) ⟨w.heap.size,0,(rapp rows c).length,f,i.size,false⟩ (Zai w _) Vs (λ_=>Nat.le_refl _) (.inr ⟨by rw[Zab],by rw[Zab];exact t⟩),?_⟩;have:=Rep.osl (h:=h) (ρ:=upd ρ d ⟨w.heap.size,0,(rapp rows c).length,f,i.size,false⟩) d (by rw[Zab]);rw[Zab]at this;exact this
 have a8:(rapp rows c).length=rows.length+c.length:=(by simp[rapp]);have W:∀(o:Obj) b,b<w.heap.size->(w.drew.alloc o).heap[b]?=w.heap[b]?:=λo b K=>(Zai w o).block b K (λe=>e);have a0:∀(o:Obj),w.heap.size<=(w.drew.alloc o).heap.size:=λo=>(Zai w o).size
 have O:∀(old:List Value) (f:Nat),Flat h i.size rows old->rows.length+c.length<=f->f<=9223372036854775807->OwnOK h (w.drew.alloc (.cells (old.toArray++Z.toArray++Builtin.zeroCells zv.cells (f-(rows.length+c.length))) e)) ⟨w.heap.size,0,(rapp rows c).length,f,i.size,false⟩ i.size (rapp rows c):=by
  intro old f T m u;refine Zr4 (fz:=(0,0)) (e:=e) (cs:=old.toArray++Z.toArray++Builtin.zeroCells zv.cells (f-(rows.length+c.length))) (T.append M) E (by rw[a8];exact m) u (by show(w.heap.push _)[_]?=_;simp) ?_ (λo _=>Vs) (λo=>Zcv F.sub o _ (Nat.le_refl _)) (.inl rfl) (λk v l=>?_)
  .simp only[YS,YJ,T.len,M.len,Builtin.zeroCells,Wa,Wf,a4];rw[<-Ym,<-Ym]
   grind
  grind
 rcases F.obj id _ ho with⟨N,rfl⟩|⟨N,o⟩
 .rcases R.osl_inv with⟨_,p,rfl⟩|⟨a5,_⟩
  .by_cases h0:c.length=0
   .have a9:c=[]:=Y6 h0;subst a9;have aa:Z=[]:=Y6 (by rw[M.len];simp);subst aa;have j:=Zej (P:=P) (ty:=ty) J L x A (q w) (g w (λ_ _=>rfl)) (p:=p) (n:=0) (cap:=0) Vs (w':=w) (by cases p<;>simp[storeCells]);refine⟨_,_,j,⟨upd ρ d noLoc,Fd.newOwn d s (.own i.size (rapp [] [])) noLoc (Keeps.refl _ _) Vs (by simp[noLoc]) (.inl ⟨by rw[Zab];rfl,rfl⟩),?_⟩,Nat.le_refl _,λ_ _ _=>rfl⟩;exact .osl0 d p (by rw[Zab];rfl)
   .obtain⟨f,m,u,j⟩:=Ze4 (P:=P) (ty:=ty) (p:=p) (n:=0) (cap:=0) (old:=[]) J L V U x A (q w) Vo (by simpa using C) (g w.drew (λ_ _=>rfl)) (by
     cases p with
     |none=>simp[Builtin.firstCells]
     |some ad=>simp[Builtin.firstCells,loadCells,loadCellsFrom])
    simp only[Yj]at j m;obtain⟨ρ',F',r'⟩:=H _ f (by simpa using m) (O [] f (Flat.nil _) (by simpa using m) u)
    grind
  grind
 .rcases R.osl_inv with⟨a5,_⟩|⟨_,rfl⟩
  .grind
  .have r:live st.objs ρ id:=⟨⟨_,ho⟩,N⟩
   by_cases hfit:rows.length+c.length<=(ρ id).cap
   .obtain⟨w',hst,l,G,t⟩:=o.more (P:=P) M hfit;have j:=Zej (P:=P) (ty:=ty) J L x A (q w) (g w (λ_ _=>rfl)) (p:=some ⟨(ρ id).blk,(ρ id).off,none⟩) (n:=(ρ id).len) (cap:=(ρ id).cap) (by rw[o.hlen];exact hfit) (w':=w') (by rw[o.hlen];exact hst);have Ft:=Fd.touch (ρ id).blk (λk l=>F.inj k id (D k l).2 r (D k l).1) o.hh (F.own id r) G l;refine⟨_,_,j,⟨upd ρ d {ρ id with len:=rows.length+c.length},Ft.bind d s (.own i.size (rapp rows c)) {ρ id with len:=rows.length+c.length} (.inr ⟨by rw[Zab];exact N,by rw[Zab];exact t⟩) (λ_=>F.own id r) (λ_ k _ l=>F.inj k id (D k l).2 r (D k l).1),?_⟩,l.size,λb K a3=>G b (λe=>a3 r e.symm)⟩;have:=Rep.osl (h:=h) (ρ:=upd ρ d {ρ id with len:=rows.length+c.length}) d (by rw[Zab];exact N)
    grind [Zab,o.hlen]
   .obtain⟨old,ae,a6⟩:=o.flat (P:=P)
    obtain⟨f,m,u,j⟩:=Ze4 (P:=P) (ty:=ty) (p:=some ⟨(ρ id).blk,(ρ id).off,none⟩) (n:=(ρ id).len) (cap:=(ρ id).cap) (old:=old) J L V U x A (q w) (by rw[o.hlen];exact hfit) (by rw[o.hlen];exact C) (g w.drew (λ_ _=>rfl)) (by
     simp only[Builtin.firstCells];rw[o.hlen]
     exact a6 w.drew rfl)
    grind [o.hlen]
def append_nil(F:FitsAt X h ρ st a w){K L e ty:TypeId}{A M:Value}{y:SV}{r:Option Nat}{d:LL}{z sz c:Nat}(N:P.underlying K=some (.slice e))(hz:szT P e=some z)(C:Zb2 P e=true)
  (D:Zii P st L y=some (r,d)) (O:Rep h ρ M y) (Q:srcOK z r=true) (R:Rep h ρ A (.slice sz [] 1)) (a3:rlen d<=most) (l:idOK c=true):
  ∃v w',(Builtin.append_ #[K,L] ty #[A,M]).run P w= .ok v w'/\(∃s,FitsAt X h s (st.bind c (.own z d)) a w'/\Rep h s v (.osl c))/\w.heap.size<=w'.heap.size/\∀b,b<w.heap.size->w'.heap[b]?=w.heap[b]?:=by
 obtain⟨i,zv,T,U,j,V,W,a4⟩:=Zcc C;have Z:z=i.size:=Vg;subst Z;obtain⟨⟨d2,t,u⟩,m,E,G,g⟩:=Zd1 (P:=P) F O D Q j;have q:d.length<=2147483648:=by grind [rlen,most,Int.ofNat_eq_natCast]
 have a0:∃p,A= .slice p 0 0:=by
  cases R with
  |pure _ _ hp=>cases hp with
   |empty p cap _ _ ht J hn=>have:=J rfl;subst this;exact⟨p,rfl⟩
   |slice b off cap _ rows a5 E j hz hh hr ho ht J a6=>have:=J rfl;subst this;exact⟨_,rfl⟩
 obtain⟨p,rfl⟩:=a0;by_cases h0:d.length=0
 .have a1:d=[]:=Y6 h0;subst a1;have a2:E=[]:=Y6 (by rw[G.len];simp);subst a2;have f:=Zej (P:=P) (ty:=ty) N T t u (m w) (g w (λ_ _=>rfl)) (p:=p) (n:=0) (cap:=0) Vs (w':=w) (by cases p<;>simp[storeCells]);refine⟨_,_,f,⟨upd ρ c noLoc,F.newOwn c l (.own i.size []) noLoc (Keeps.refl _ _) Vs (by simp[noLoc]) (.inl ⟨by rw[Zab];rfl,rfl⟩),?_⟩,Nat.le_refl _,λ_ _=>rfl⟩;exact .osl0 c p (by rw[Zab];rfl)
 .obtain⟨H,x,Y,f⟩:=Ze4 (P:=P) (ty:=ty) (p:=p) (n:=0) (cap:=0) (old:=[]) N T V U t u (m w) Vo (by simpa using q) (g w.drew (λ_ _=>rfl)) (by
   cases p with
   |none=>simp[Builtin.firstCells]
   |some ad=>simp[Builtin.firstCells,loadCells,loadCellsFrom])
  simp only[Yj]at f x;refine⟨_,_,f,⟨upd ρ c ⟨w.heap.size,0,d.length,H,i.size,false⟩,F.newOwn c l (.own i.size d) _ (Zai w _) Vs (λ_=>Nat.le_refl _) (.inr ⟨by rw[Zab],?_⟩),?_⟩,(Zai w _).size,λb C=>(Zai w _).block b C (λe=>e)⟩
  .rw[Zab];refine Zr4 (fz:=(0,0)) (e:=e) (cs:=([]:List Value).toArray++E.toArray++Builtin.zeroCells zv.cells (H-d.length)) G j x Y (by show(w.heap.push _)[_]?=_;simp) ?_ (λo _=>Vs) (λo=>Zcv F.sub o _ (Nat.le_refl _)) (.inl rfl) (λk v hk=>?_)
   .simp only[YS,YJ,Y9,G.len,Builtin.zeroCells,Wa,Wf,W,Yj];rw[<-Ym]
    grind
   grind
  .have:=Rep.osl (h:=h) (ρ:=upd ρ c ⟨w.heap.size,0,d.length,H,i.size,false⟩) c (by rw[Zab])
   grind [Zab]
end
end Go.Px
namespace Go.Px
open Go.RowKit
section
variable{X:Cx}{h:Hp}{ρ:Nat->Loc}{st:St}{a:Act}{w:World}{P:Program}
def own_store(F:FitsAt X h ρ st a w){id off n d:Nat}{rows:LL}{C D:List SV}(Z:oget st.objs id=some (.own d rows))(hz:szT P T=some n)
  (hy:Rep h ρ v u) (hs:Zc2 u=some U) (hn:(cellsOf U).length=n) (h0:0<=i) (h1:i<rlen rows) (m:rows[i.toNat]?=some C) (a0:Zbb off (cellsOf U) C=some D) (E:(ρ id).none=false):
  ∃J,(Instr.storeAt T (.pointer (some ⟨(ρ id).blk,(ρ id).off+i.toNat*(ρ id).sz+off,none⟩)) v).run P w= .ok () J/\FitsAt X h ρ {st with objs:=oput st.objs id (.own d (rset rows i D))} a J/\
   w.heap.size<=J.heap.size/\∀b,b≠(ρ id).blk->J.heap[b]?=w.heap[b]?:=by
 rcases F.obj id _ Z with⟨M,_⟩|⟨_,o⟩
 .rw[E]at M;cases M
 .obtain⟨p,ty,fz,K,a6,N,R⟩:=o.hblk;obtain⟨l,O⟩:=Ze3 hy hs;obtain⟨a7,rfl⟩:=Zce _ _ _ _ a0;have hit:i.toNat<rows.length:=(Y0.1 m).1;have a8:C.length=d:=o.hrow _ _ m;have a3:i.toNat*d+d<=(ρ id).cap*d:=(by have:(i.toNat+1)*d<=(ρ id).cap*d:=Yf d (by have:=o.hcap;omega);rw[Ym]at this;omega);have s:(ρ id).sz=d:=o.hsz
  have V:=Zby P (ρ id).blk ((ρ id).off+i.toNat*d+off) ty fz v.cells.toList 0 p w K (by simp[l];omega) (λy hu=>by
   obtain⟨k,f,e⟩:=List.mem_iff_getElem.1 hu;have G:k<v.cells.size:=(by simpa using f);have A:k<(cellsOf U).length:=Vo
   exact(O k y _ (by rw[Y1 G];simp at e;rw[e]) (List.getElem?_eq_getElem A)).2) (λx a4 a1=>N x Vo (by simp[l]at a1;omega))
  refine⟨_,?_,F.setOb id (.own d rows) _ (w.setRow (ρ id).blk (p.toList.take ((ρ id).off+i.toNat*d+off+0)++v.cells.toList++p.toList.drop ((ρ id).off+i.toNat*d+off+0+v.cells.toList.length)).toArray) Z E (.inr ⟨E,⟨o.pos,o.hsz,by simp[rset,o.hlen],by simp[rset];exact o.hcap,λk r f=>?_,⟨_,ty,fz,setRow_heap w _ p _ ty _ K,?_,N,λk r j c f g=>?_⟩,o.hh,λD t' a5 e=>by rw[setRow_heap w _ p _ ty _ K]at e;cases e;exact(o.hfz _ _ _ K).imp (λz=>z) λq=>⟨q.1,by simp[l];omega⟩,o.hcm⟩⟩)
   (λb Q=>setRow_other _ _ _ _ Q) (Zbv _ _ _),Vs,λb Q=>setRow_other _ _ _ _ Q⟩
  .simp only[Instr.storeAt,Instr.sureAddr,storeVar,Sem.run_bind,Sem.run_pure,Result.andThen_ok,run_sizeOf' w hz,s];have:¬(v.cells.size≠n):=by rw[l,hn];simp
   simp only[this,if_false];exact V
  .simp only[rset,List.getElem?_set]at f
   split at f
   .cases f;simp;omega
   .exact o.hrow k r f
  .simp[l];omega
  .have a2:j<d:=by
    have W:=(Y0.1 g).1;simp only[rset,List.getElem?_set]at f
    split at f
    .cases f;simp at W;omega
    .rw[o.hrow k r f]at W;exact W
   have l3:(List.take ((ρ id).off+i.toNat*d+off) p.toList).length=(ρ id).off+i.toNat*d+off:=Vm
   have Y:∀q,(p.toList.take ((ρ id).off+i.toNat*d+off+0)++v.cells.toList++p.toList.drop ((ρ id).off+i.toNat*d+off+0+v.cells.toList.length)).toArray[q]?=
     if(ρ id).off+i.toNat*d+off<=q/\q<(ρ id).off+i.toNat*d+off+(cellsOf U).length then v.cells[q-((ρ id).off+i.toNat*d+off)]? else p[q]?:=by
    intro q;simp only[Nat.add_zero,Yy,Array.length_toList,l];rw[List.append_assoc,List.getElem?_append,l3];by_cases H:q<(ρ id).off+i.toNat*d+off
    .rw[if_pos H,if_neg Vo,Ye,if_pos H];simp
    .rw[if_neg H,List.getElem?_append];simp only[Array.length_toList,l];by_cases hq2:q-((ρ id).off+i.toNat*d+off)<(cellsOf U).length
     .rw[if_pos hq2,if_pos Vo];simp
     .rw[if_neg hq2,if_neg Vo,Yh];simp only[Yr];congr 1;omega
   rw[Y];by_cases hki:k=i.toNat
   .subst hki;simp only[rset,List.getElem?_set,if_true,if_pos hit]at f
    cases f
    rw[List.append_assoc,List.getElem?_append]at g;have l4:(List.take off C).length=off:=Vm
    rw[l4]at g;by_cases L:j<off
    .rw[if_pos L,Ye,if_pos L]at g;rw[if_neg Vo];exact R _ C j c m g
    .rw[if_neg L,List.getElem?_append]at g;by_cases t:j-off<(cellsOf U).length
     .rw[if_pos t]at g;rw[if_pos Vo];have A:j-off<v.cells.size:=Vo;have H:(ρ id).off+i.toNat*d+j-((ρ id).off+i.toNat*d+off)=j-off:=Vo;rw[H];exact⟨v.cells[j-off],Y1 A,O _ _ c (Y1 A) g⟩
     .rw[if_neg t,Yh]at g;rw[if_neg Vo];have:=R _ C j c m (by rw[<-g];congr 1;omega);exact this
   .have G:rows[k]?=some r:=(by simp only[rset,List.getElem?_set]at f;rw[if_neg (λe=>hki e.symm)]at f;exact f);rw[if_neg]
    .exact R k r j c G g
    .rintro⟨L,t⟩;have:=row_inj (i:=k) (i':=i.toNat) (j:=j) (j':=(ρ id).off+k*d+j-((ρ id).off+i.toNat*d)) a2 Vo Vo;exact hki this.1
def Zxm(F:FitsAt X h ρ st a w){m f e:TypeId}(R:P.underlying m=some .string)(hd:P.underlying f=some (.slice e))(T:P.underlying e=some (.int .u8))(A:idOK n=true)(C:slen s<=most):
  ∃v g,(convert m f (.string s)).run P w= .ok v g/\(∃u,FitsAt X h u (st.bind n (.own 1 (Zch s))) a g/\Rep h u v (.osl n))/\w.heap.size<=g.heap.size/\∀b,b<w.heap.size->g.heap[b]?=w.heap[b]?:=by
 have Q:s.size<=2147483648:=by simp only[slen,most,Yc]at C;omega
 let d:=s.size+w.tape w.drawn (.appendCap s.size 0 e)%(2^63-s.size)
 let cs:Array Value:=s.data.map (λb=>.int .u8 b.toNat)++Array.replicate (d-s.size) (.int .u8 0)
 have K:s.size<=d:=(by simp only[d];omega);have E:d<=9223372036854775807:=(by have:=Nat.mod_lt (w.tape w.drawn (.appendCap s.size 0 e)) (show 0<2^63-s.size by omega);simp only[d];omega);have x:cs.size=d:=by have:s.data.size=s.size:=rfl;simp only[cs,YS,Wa,Array.size_replicate,this];omega
 let w1:=w.drew.alloc (.cells cs e)
 let g:=w1.freeze {block:=w.heap.size,off:=d} 1
 have y:w1.heap[w.heap.size]?=some (.cells cs e (0,0)):=(by show(w.heap.push _)[_]?=_;simp);have L:g.heap[w.heap.size]?=some (.cells cs e (d,d+1)):=(by show(w1.heap.modify w.heap.size _)[w.heap.size]?=_;rw[YT,if_pos rfl,y];rfl);have q:∀b,b<w.heap.size->g.heap[b]?=w.heap[b]?:=λb t=>by show(w1.heap.modify w.heap.size _)[b]?=_;rw[YT,if_neg (by omega:¬w.heap.size=b)];exact(Zai w _).block b t (λe=>e)
 have z:Keeps (λ_=>False) w g:=⟨rfl,rfl,rfl,by show _<=(w1.heap.modify w.heap.size _).size;rw[Array.size_modify];exact(Zai w _).size,λk U _=>q k U⟩
 have G:(convert m f (.string s)).run P w= .ok (.slice (some ⟨w.heap.size,0,none⟩) s.size d) g:=(by have J:(shape w.heap.size).run P w1= .ok (some (e,d)) w1:=(by show Result.ok (w1.shape? w.heap.size) w1=_;simp[World.shape?,y,x]);have M:(newRow e cs).run P w.drew= .ok ⟨w.heap.size,0,none⟩ w1:=(by simp[newRow,w1];rfl);simp only[convert,Sem.run_bind,run_underlying R,run_underlying hd,run_underlying T,Result.andThen_ok,Conv.stringToBytes];have N:(choose (.appendCap s.size 0 e)).run P w= .ok d w.drew:=(by simp[choose,Sem.run,Question.forced,Question.cut,d]);simp only[N,Result.andThen_ok];have H:(Array.map (λb=>Value.int IntKind.u8 (b.toNat:Int)) s.data++Array.replicate (d-s.size) (Value.int IntKind.u8 0))=cs:=rfl;rw[H,M];simp only[Result.andThen_ok,markStringish,Sem.run_bind,J,Sem.run_pure];rfl);have l:(Zch s).length=s.size:=(by unfold Zch;rw[List.length_map];exact Array.length_toList);refine⟨_,_,G,⟨upd ρ n ⟨w.heap.size,0,(Zch s).length,d,1,false⟩,F.newOwn n A (.own 1 (Zch s)) _ z Vs (λ_=>Nat.le_refl _) (.inr ⟨by rw[Zab],?_⟩),?_⟩,z.size,q⟩
 .rw[Zab];refine Zp2 (cs:=cs) (e:=e) (fz:=(d,d+1)) Vo (by rw[l];exact K) E (λi r p=>?_) L Vo (λo V=>Vo) (λo=>Zcv F.sub o _ (Nat.le_refl _)) (.inr ⟨rfl,by rw[x];exact Nat.le_refl _⟩) (λi r j c p D=>?_)
  .simp[Zch]at p;obtain⟨b,_,rfl⟩:=p;rfl
  .simp[Zch]at p;obtain⟨b,t,rfl⟩:=p
   cases j with
   |zero=>simp at D;subst D;refine⟨.int .u8 b.toNat,?_,.val _,rfl⟩;have O:=(Y3.1 t).1;simp only[cs,Nat.mul_one,Nat.add_zero];rw[Array.getElem?_append_left (by simpa using O)];simp[t]
   |succ j=>simp at D
 .have:=Rep.osl (h:=h) (ρ:=upd ρ n ⟨w.heap.size,0,(Zch s).length,d,1,false⟩) n (by rw[Zab]);rw[Zab]at this;rw[l]at this;rw[l];exact this
def map_store(F:FitsAt X h ρ st a w){t z L:TypeId}{id:Nat}{o:List (BA×Int)}{s:BA}{n:Int}(A:P.underlying t=some (.map z L))(i:P.underlying z=some .string)(C:oget st.objs id=some (.mp o)):
  ∃f,(Instr.mapUpdate t (.map (some (ρ id).blk)) (.string s) (.int .i64 n)).run P w= .ok () f/\FitsAt X h ρ {st with objs:=oput st.objs id (.mp (mset o s n))} a f/\w.heap.size<=f.heap.size/\∀b,b≠(ρ id).blk->f.heap[b]?=w.heap[b]?:=by
 obtain⟨E,⟨d,r,p,u⟩,hno⟩:=F.obj id _ C;have H:(ρ id).blk<w.heap.size:=(Y3.1 p).1
 have m:∀(c:Array MapEntry) (l:Nat),MapOK c (mset o s n)->(Instr.mapUpdate t (.map (some (ρ id).blk)) (.string s) (.int .i64 n)).run P w= .ok () {w with heap:=w.heap.setIfInBounds (ρ id).blk (.map c l)}->
   ∃f,(Instr.mapUpdate t (.map (some (ρ id).blk)) (.string s) (.int .i64 n)).run P w= .ok () f/\FitsAt X h ρ {st with objs:=oput st.objs id (.mp (mset o s n))} a f/\w.heap.size<=f.heap.size/\∀b,b≠(ρ id).blk->f.heap[b]?=w.heap[b]?:=by
  intro c l D q;have g:∀b,b≠(ρ id).blk->(w.heap.setIfInBounds (ρ id).blk (.map c l))[b]?=w.heap[b]?:=λb p=>Yi (YN p);refine⟨_,q,F.setOb id (.mp o) _ _ C E ⟨E,⟨c,l,by simp[H],D⟩,hno⟩ g ⟨rfl,rfl,rfl,Vs,λk O M=>g k M⟩,Vs,g⟩
 rcases Zg3 s d.toList o 0 u with⟨N,j,_,G,v,x⟩|⟨N,G,v,x⟩
 .have y:(d[j]?).map (·.key)=some (.string s):=(by simpa using v);have J:((d[j]?).map (·.key)).getD (.string s)= .string s:=(by rw[y];rfl);refine m (d.modify j λe=>{e with key:=.string s,val:=.int .i64 n}) r ?_ ?_
  .have:=x n;simp only[Nat.sub_zero]at this;unfold MapOK;rw[<-this,Array.toList_modify]
  .have K:(Instr.keyThatStays (.string s) (.string s)).run P w= .ok (.string s) w:=(by simp[Instr.keyThatStays,Instr.sameBits,ba_beq]);simp[Instr.mapUpdate,run_underlying A,getObj,setObj,Sem.run,p,Zci i,Instr.findKey,run_underlying i,G,J,K]
 .refine m (d.push {key:=.string s,val:=.int .i64 n,born:=r}) (r+1) ?_ ?_
  .unfold MapOK at u|-;rw[x n];simp[u]
  .simp[Instr.mapUpdate,run_underlying A,getObj,setObj,Sem.run,p,Zci i,Instr.findKey,run_underlying i,v]
def Zxn(F:FitsAt X h ρ st a w){id e:TypeId}{rows:LL}(E:P.underlying id=some (.slice e))(G:P.underlying e=some (.int .u8))(u:oget st.objs n=some (.own 1 rows))
  (H:Rep h ρ v (.osl n)) (q:0<rlen rows):
  ∃d,(convert id id v).run P w= .ok v d/\FitsAt X h ρ {st with objs:=oput st.objs n (.own 1 rows)} a d/\w.heap.size<=d.heap.size/\(ρ n).none=false/\∀b,b≠(ρ n).blk->d.heap[b]?=w.heap[b]?:=by
 have l:0<rows.length:=by simp only[rlen,Yc]at q;omega
 rcases F.obj n _ u with⟨_,M⟩|⟨hn,o⟩
 .rw[M]at l;simp at l
 rcases H.osl_inv with⟨p,_⟩|⟨_,rfl⟩
 .rw[hn]at p;cases p
 obtain⟨c,t,f,r,z,U,N⟩:=o.hblk
 let d:=w.freeze {block:=(ρ n).blk,off:=c.size} 1
 have j:∃g,d.heap[(ρ n).blk]?=some (.cells c t g)/\(g=(c.size,c.size+1)\/(c.size<=f.1/\g=(min f.1 c.size,max f.2 (c.size+1)))):=by
  refine⟨if f.1==f.2 then(c.size,c.size+1)else(min f.1 c.size,max f.2 (c.size+1)),?_,?_⟩
  .show(w.heap.modify (ρ n).blk _)[(ρ n).blk]?=_;rw[YT,if_pos rfl,r];rfl
  .rcases o.hfz c t f r with h0|⟨_,h0⟩
   .rw[h0];exact .inl rfl
   .by_cases hq:(f.1==f.2)=true
    .rw[if_pos hq];exact .inl rfl
    .rw[if_neg hq];exact .inr ⟨h0,rfl⟩
 obtain⟨g,j,s⟩:=j
 have A:c.size<=g.1:=by
  rcases s with h0|⟨h1,h0⟩
  .rw[h0];exact Nat.le_refl _
  .rw[h0];show c.size<=min f.1 c.size;omega
 have i:∀b,b≠(ρ n).blk->d.heap[b]?=w.heap[b]?:=λb J=>by show(w.heap.modify (ρ n).blk _)[b]?=_;rw[YT,if_neg (λe=>J e.symm)]
 have m:d.heap.size=w.heap.size:=by show(w.heap.modify (ρ n).blk _).size=_;rw[Array.size_modify]
 have C:Keeps (λb=>b=(ρ n).blk) w d:=⟨rfl,rfl,rfl,by rw[m];exact Nat.le_refl _,λk _ K=>i k K⟩
 refine⟨d,?_,F.setOb n (.own 1 rows) _ d u hn (.inr ⟨hn,⟨o.pos,o.hsz,o.hlen,o.hcap,o.hrow,⟨c,t,g,j,z,λx O Q R=>Vo,N⟩,o.hh,λT V L y=>by rw[j]at y;cases y;exact .inr ⟨rfl,A⟩,o.hcm⟩⟩) i C,by rw[m];exact Nat.le_refl _,hn,i⟩;have D:(shape (ρ n).blk).run P w= .ok (some (t,c.size)) w:=(by show Result.ok (w.shape? (ρ n).blk) w=_;simp[World.shape?,r]);simp only[convert,Sem.run_bind,run_underlying E,run_underlying G,Result.andThen_ok];simp only[beq_self_eq_true,markStringish,Sem.run_bind,D,Result.andThen_ok,Sem.run_pure];rfl
end
end Go.Px
namespace Go.Px
open Go.RowKit
section
variable{X:Cx}{h:Hp}{ρ:Nat->Loc}{st:St}{a:Act}{w:World}{P:Program}
def Rep.osv_inv{v:Value}{id:Nat}{l b c:Int}(r:Rep h ρ v (.osv id l b c)):∃p:Option Addr,v= .slice p (b-l).toNat (c-l).toNat/\0<=l/\l<=b/\b<=c/\(c=if(ρ id).none then 0 else((ρ id).cap:Int))/\
  (l<c->p=some ⟨(ρ id).blk,(ρ id).off+l.toNat*(ρ id).sz,none⟩):=by
 cases r with
 |pure _ _ d=>cases d
 |osv _ _ _ _ p e f g i d=>exact⟨p,rfl,e,f,g,i,d⟩
def OwnOK.write{l:Loc}{d:Nat}{rows f:LL}{G:List Value}{k:Nat}(o:OwnOK h w l d rows)(m:Flat h d f G)(K:k<=rows.length)(H:k+f.length<=l.cap):
  ∃w',(storeCells ⟨l.blk,l.off+k*d,none⟩ G).run P w= .ok () w'/\Keeps (λb=>b=l.blk) w w'/\(∀b,b≠l.blk->w'.heap[b]?=w.heap[b]?)/\
   OwnOK h w' {l with len:=(rows.take k++f++rows.drop (k+f.length)).length} d (rows.take k++f++rows.drop (k+f.length)):=by
 obtain⟨A,t,N,C,hs,E,O⟩:=o.hblk;have V:k*d+f.length*d<=l.cap*d:=by rw[<-Ym];exact Yf d H
 have u:=Zby P l.blk (l.off+k*d) t N G 0 A w C (by rw[m.len];omega) m.one (λx W L=>E x Vo (by rw[m.len]at L;omega));simp only[Nat.add_zero]at u;have R:(rows.take k).length=k:=Vm;have D:(rows.take k++f++rows.drop (k+f.length)).length<=l.cap:=by have:=o.hcap;simp;omega
 have n:∀(i:Nat) r,(rows.take k++f++rows.drop (k+f.length))[i]?=some r->(i<k/\rows[i]?=some r)\/(k<=i/\i<k+f.length/\f[i-k]?=some r)\/(k+f.length<=i/\rows[i]?=some r):=by
  intro i r g;rw[List.append_assoc,List.getElem?_append,R]at g
  split at g
  next p=>rw[Ye,if_pos p]at g;exact .inl ⟨p,g⟩
  .rename_i p;rw[List.getElem?_append]at g
   split at g
   next M=>exact .inr (.inl ⟨Vo,Vo,g⟩)
   next M=>rw[Yh]at g;refine .inr (.inr ⟨Vo,?_⟩);rw[<-g];congr 1;omega
 refine⟨_,u,Zbv _ _ _,λk K=>setRow_other _ _ _ _ K,⟨o.pos,o.hsz,rfl,D,λi r g=>?_,⟨_,t,N,setRow_heap w _ A _ t _ C,?_,E,λi r j c g y=>?_⟩,o.hh,λY t' Z e=>by rw[setRow_heap w _ A _ t _ C]at e;cases e;exact(o.hfz _ _ _ C).imp (λz=>z) λq=>⟨q.1,by simp[m.len];omega⟩,o.hcm⟩⟩
 .rcases n i r g with⟨_,e⟩|⟨_,_,e⟩|⟨_,e⟩
  .exact o.hrow _ _ e
  .exact m.row _ _ e
  .exact o.hrow _ _ e
 .simp[m.len];omega
 .simp only[Yy];have s:(List.take (l.off+k*d) A.toList).length=l.off+k*d:=Vm
  rcases n i r g with⟨Q,e⟩|⟨p,M,e⟩|⟨p,e⟩
  .obtain⟨v,e1,e2,J⟩:=O i r j c e y;have T:j<d:=by have:=(Y0.1 y).1;rw[o.hrow i r e]at this;exact this
   have:=Zlu Q T;refine⟨v,?_,e2,J⟩;rw[List.append_assoc,WJ (by rw[s];omega),Ye,if_pos Vo]
   simpa using e1
  .obtain⟨v,e1,e2⟩:=m.cell _ r j c e y;refine⟨v,?_,e2,m.one v (Yn e1)⟩;have F:k*d<=i*d:=Yf d p;have U:=(Y0.1 e1).1;rw[WW]at e1 U;rw[WJ (by rw[List.length_append,s];omega),YI (by rw[s];omega),s,<-e1];congr 1;omega
  .obtain⟨v,e1,e2,J⟩:=O i r j c e y;refine⟨v,?_,e2,J⟩;have F:(k+f.length)*d<=i*d:=Yf d p;rw[Ym]at F;rw[YI (by rw[List.length_append,s,m.len];omega),List.length_append,s,m.len,Yh];rw[<-Yr]at e1;rw[<-e1];congr 1;omega
def OwnOK.first{l:Loc}{rows:LL}(o:OwnOK h w l n rows)(d:Nat)(s:d<=rows.length):OwnOK h w {l with len:=d} n (rows.take d):=by
 obtain⟨g,t,k,m,p,e,q⟩:=o.hblk
 have sub:∀(i:Nat) r,(rows.take d)[i]?=some r->rows[i]?=some r:=λi r b=>by
  rw[Ye]at b
  split at b
  .exact b
  .cases b
 exact⟨o.pos,o.hsz,Vm,by simp;have:=o.hcap;omega,λi r b=>o.hrow i r (sub i r b),⟨g,t,k,m,p,e,λi r j c b f=>q i r j c (sub i r b) f⟩,o.hh,o.hfz,o.hcm⟩
def Rep.kosl(n:Nat){b:Nat->Loc}(g:∀i,i≠n->b i=ρ i)(y:(b n).blk=(ρ n).blk/\(b n).off=(ρ n).off/\(b n).sz=(ρ n).sz/\(b n).cap=(ρ n).cap/\(b n).none=(ρ n).none){v:Value}{s:SV}(r:Rep h ρ v s):Rep h b v (hmap (koslG n) s):=by
 refine r.turn λv s m r=>?_
 have d:∀i,(b i).blk=(ρ i).blk/\(b i).off=(ρ i).off/\(b i).sz=(ρ i).sz/\(b i).cap=(ρ i).cap/\(b i).none=(ρ i).none:=λi=>by
  by_cases e:i=n
  .subst e;exact y
  .rw[g i e];exact⟨rfl,rfl,rfl,rfl,rfl⟩
 cases r with
 |pure _ _ j=>
  have:koslG n s=s:=by cases j<;>first|rfl|(simp[Zbi]at m)
  rw[this];exact .pure _ _ j
 |agg=>simp[Zbi]at m
 |tup=>simp[Zbi]at m
 |ptr id off=>simp only[koslG];rw[<-(d id).1];exact .ptr id off
 |bsl id off k=>simp only[koslG];rw[<-(d id).1];exact .bsl id off k
 |osl0 id p f=>
  by_cases e:id=n
  .subst e;simp only[koslG,Y8,cond_true];exact .pure _ _ (.unk _)
  .simp only[koslG,Zaj e,cond_false];exact .osl0 id p (by rw[g id e];exact f)
 |osl id f=>
  by_cases e:id=n
  .subst e;simp only[koslG,Y8,cond_true];exact .pure _ _ (.unk _)
  .simp only[koslG,Zaj e,cond_false];rw[<-g id e]at f|-;exact .osl id f
 |eptr id e i off f=>simp only[koslG];obtain⟨o,q,b3,u,b5⟩:=d id;rw[<-o,<-q,<-b3];exact .eptr id e i off (by rw[b5];exact f)
 |osv id l t c p z A C D j=>simp only[koslG];obtain⟨o,q,b3,u,b5⟩:=d id;exact .osv id l t c p z A C (by rw[u,b5];exact D) (by rw[o,q,b3];exact j)
 |omp id=>simp only[koslG];rw[<-(d id).1];exact .omp id
 |aptr id i=>simp only[koslG];rw[<-(d id).1];exact .aptr id i
 |asl id l t x=>simp only[koslG];rw[<-(d id).1];exact .asl id l t x
def FitsAt.rows{p:World}{id sz:Nat}{rows c:LL}(F:FitsAt X h ρ st a w)(q:oget st.objs id=some (.own sz rows))(t:(ρ id).none=false)(hid:idOK id=true)
  (u:Keeps (λb=>b=(ρ id).blk) w p) (j:∀b,b≠(ρ id).blk->p.heap[b]?=w.heap[b]?) (y:OwnOK h p {ρ id with len:=c.length} sz c):
  FitsAt X h (upd ρ id {ρ id with len:=c.length}) (st.rows id sz c) a p:=by
 have l:live st.objs ρ id:=⟨⟨_,q⟩,t⟩
 have hno:=(F.obj id _ q).hno t;have g:∀i,i≠id->upd ρ id {ρ id with len:=c.length} i=ρ i:=λi hi=>Zi7 ρ _ hi;have m:∀v s,Rep h ρ v s->Rep h (upd ρ id {ρ id with len:=c.length}) v (hmap (koslG id) s):=λv s r=>r.kosl id g (by rw[Zab];exact⟨rfl,rfl,rfl,rfl,rfl⟩)
 have n:∀i o,oget (oput (hmapO (koslG id) st.objs) id (.own sz c)) i=some o->(i=id/\o= .own sz c)\/(i≠id/\∃d,oget st.objs i=some d/\o=Zdy (koslG id) d):=by
  intro i o e;rw[Zhv]at e
  split at e
  next hi=>subst hi;rw[Zgb,q]at e;simp at e;exact .inl ⟨rfl,e.symm⟩
  next hi=>exact .inr ⟨λx=>hi x.symm,Zaf e⟩
 refine F.turn (koslG id) _ m (λi o e=>?_) (λi hi=>?_) (λb x v e=>?_) (HLe.refl h) (λ_ _ _ _ e=>e) ?_ (λi hi=>?_)
 .rcases n i o e with⟨rfl,rfl⟩|⟨hne,d,e',rfl⟩
  .exact .inr ⟨by rw[Zab];exact t,by rw[Zab];exact y⟩
  .refine(F.obj i d e').turn m (HLe.refl h) (g i hne) (λf=>j _ ?_) (λ_ _ e=>e);exact F.inj i id ⟨⟨d,e'⟩,f⟩ l hne
 .obtain⟨⟨o,e⟩,f⟩:=hi
  rcases n i o e with⟨rfl,rfl⟩|⟨hne,d,e',rfl⟩
  .rw[Zab];exact⟨l,rfl⟩
  .rw[g i hne]at f|-;exact⟨⟨⟨d,e'⟩,f⟩,rfl⟩
 .have z:b≠(ρ id).blk:=λz=>by subst z;rw[hno x]at e;cases e
  have:=F.sub b x v e;unfold World.cell? at this|-;simp only[]at this|-;rw[j b z];exact this
 .refine F.kp.step u (λk u=>?_);subst u;exact F.own id l
 .refine g i (λe=>?_);subst e;rw[hid]at hi;cases hi
def Zyt(n:Nat)(d:Zbi u=true):Zbi (killG n u)=true:=by
 have c:∀(b:Bool) (x:SV),Zbi x=true->Zbi (bif b then .unk else x)=true:=λb x hx=>by cases b;exact hx;rfl
 cases u with
 |ptr=>exact c _ _ rfl
 |bsl=>exact c _ _ rfl
 |osl=>exact c _ _ rfl
 |eptr=>exact c _ _ rfl
 |osv=>exact c _ _ rfl
 |omp=>exact c _ _ rfl
 |aptr=>exact c _ _ rfl
 |asl=>exact c _ _ rfl
 |_=>exact d
def FitsAt.opn{id b y:Nat}{rows:LL}(F:FitsAt X h ρ st a w)(K:oget st.objs id=some (.own y rows))(hid:idOK b=true):
  ∃c:Int,rlen rows<=c/\c<=9223372036854775807/\FitsAt X h (upd ρ b (ρ id)) (st.opn id b y rows c) a w:=by
 have W:∃c:Int,(rlen rows<=c/\c<=9223372036854775807)/\(c=if(ρ id).none then 0 else((ρ id).cap:Int))/\((ρ id).none=false->(ρ id).len=rows.length)/\((ρ id).none=true->rows=[]):=by
  rcases F.obj id _ K with⟨d,rfl⟩|⟨d,o⟩
  .exact⟨0,⟨by simp[rlen],Vo⟩,by simp[d],by simp[d],λ_=>rfl⟩
  .exact⟨(ρ id).cap,⟨by have:=o.hcap;simp[rlen];exact this,by have:=o.hcm;omega⟩,by simp[d],λ_=>o.hlen,by simp[d]⟩
 obtain⟨c,⟨R,T⟩,f,M,N⟩:=W;have q:∀i,i≠b->upd ρ b (ρ id) i=ρ i:=λi u=>Zi7 ρ _ u
 have C:∀v s,Rep h ρ v s->Rep h (upd ρ b (ρ id)) v (hmap (opnG id b (rlen rows) c) s):=λv s r=>by
  refine r.turn λv s L r=>?_;have Y:∀s,Zbi s=true->Rep h ρ v s->Rep h (upd ρ b (ρ id)) v (killG b (killG id s)):=λs m r=>by have Z:=r.kill id (HLe.refl h) (ρ':=ρ) (λ_ _=>rfl);rw[Zk9 m]at Z;have G:=Z.kill b (HLe.refl h) q;rw[Zk9 (Zyt id m)]at G;exact G
  have one:∀s,Zbi s=true->Rep h ρ v s->Rep h (upd ρ b (ρ id)) v (killG b s):=λs m r=>by have G:=r.kill b (HLe.refl h) q;rwa[Zk9 m]at G
  cases s with
  |osl i=>
   by_cases e:i=id
   .subst e;simp only[opnG,Y8,cond_true]
    rcases r.osl_inv with⟨d,p,rfl⟩|⟨d,rfl⟩
    .have e1:=N d;subst e1;rw[d]at f;simp at f;subst f;exact .osv b 0 0 0 p Vo Vo Vo (by rw[Zab];simp[d]) Vo
    .have e1:=M d;have:=Rep.osv (h:=h) (ρ:=upd ρ b (ρ i)) b 0 (rlen rows) c (some ⟨(ρ i).blk,(ρ i).off,none⟩) Vo (by simp[rlen]) R (by rw[Zab];exact f) (λ_=>by rw[Zab];simp);rw[d]at f;simp at f;subst f
     simpa[rlen,e1]using this
   .simp only[opnG,Zaj e,cond_false];exact one _ rfl r
  |agg=>simp[Zbi]at L
  |tup=>simp[Zbi]at L
  |gd=>simp[Zbi]at L
  |_=>exact Y _ rfl r
 have D:∀i o,oget ((b,.own y rows)::hmapO (opnG id b (rlen rows) c) (Px.odel (Px.odel st.objs id) b)) i=some o->(i=b/\o= .own y rows)\/(i≠b/\i≠id/\∃n,oget st.objs i=some n/\o=Zdy (opnG id b (rlen rows) c) n):=by
  intro i o e;rw[Zbu]at e
  split at e
  next u=>subst u;cases e;exact .inl ⟨rfl,rfl⟩
  .obtain⟨n,z,rfl⟩:=Zaf e;obtain⟨g,e2⟩:=Zae z;obtain⟨k,e3⟩:=Zae e2;exact .inr ⟨g,k,n,e3,rfl⟩
 refine⟨c,R,T,?_⟩
 have E:∀i,live ((b,.own y rows)::hmapO (opnG id b (rlen rows) c) (Px.odel (Px.odel st.objs id) b)) (upd ρ b (ρ id)) i->∃j,live st.objs ρ j/\(upd ρ b (ρ id) i).blk=(ρ j).blk/\(i=b->j=id)/\(i≠b->j=i/\i≠id):=by
  rintro i ⟨⟨o,e⟩,hni⟩
  rcases D i o e with⟨rfl,rfl⟩|⟨g,k,n,z,rfl⟩
  .rw[Zab]at hni|-;exact⟨id,⟨⟨_,K⟩,hni⟩,rfl,λ_=>rfl,λhx=>absurd rfl hx⟩
  .rw[q i g]at hni|-;exact⟨i,⟨⟨n,z⟩,hni⟩,rfl,λhx=>absurd hx g,λ_=>⟨rfl,k⟩⟩
 refine{F with size:=by simp[St.opn,Zbh,F.size],tm:=λt s m=>?_,obj:=λi o e=>?_,inj:=λi j u hj H=>?_,own:=λi u=>?_,pin:=λi l e=>?_}
 .simp only[St.opn,hmapL_getElem?]at m
  cases hx:st.tmps[t]? with
  |none=>simp[hx]at m
  |some x=>simp[hx]at m;subst m;exact(F.tm t x hx).turn (λs r=>C _ s r)
 .rcases D i o e with⟨rfl,rfl⟩|⟨g,k,n,z,rfl⟩
  .have:=F.obj id _ K;simp only[ObOK,Zab];exact this
  .exact(F.obj i n z).turn C (HLe.refl h) (q i g) (λ_=>rfl) (λ_ _ e=>e)
 .obtain⟨O,A,Q,U,J⟩:=E i u;obtain⟨j',V,ej,ej1,ej2⟩:=E j hj;rw[Q,ej];refine F.inj O j' A V (λe=>?_);by_cases g:i=b
  .by_cases k:j=b
   .exact H (g.trans k.symm)
   .have:=U g;have:=ej2 k;exact this.2 (by rw[<-this.1,<-e];assumption)
  .by_cases k:j=b
   .have:=ej1 k;have:=J g;exact this.2 (by rw[<-this.1,e];assumption)
   .exact H (by rw[<-(J g).1,<-(ej2 k).1];exact e)
 .obtain⟨O,A,Q,_⟩:=E i u;rw[Q];exact F.own O A
 .refine⟨?_,(F.pin i l e).2⟩;rw[q i (λx=>by subst x;rw[(F.pin i l e).2]at hid;cases hid)];exact(F.pin i l e).1
def Zli{c:List (Nat×Bool)->Operand->SV}(d:∀x,Rep h ρ (a.eval x) (c [] x)){x:Operand}{n l:Int}(e:bndOf c n (some x)=some l):∃b,a.eval x= .int b l:=by
 simp only[bndOf]at e
 split at e
 next b f hx=>
  cases e
  have:=d x;rw[hx]at this;exact⟨b,this.val_inv⟩
 .cases e
def boundsV{d:List (Nat×Bool)->Operand->SV}{w':World}(hsv:∀x,Rep h ρ (a.eval x) (d [] x))(len b:Nat){lo hi:Option Operand}{l h':Int}
  (e:bndOf d 0 lo=some l) (c:bndOf d (Int.ofNat len) hi=some h') (g:0<=l) (j:l<=h') (i:h'<=(b:Int)):
  (Instr.sliceBounds true len b (lo.map a.eval) (hi.map a.eval) none).run P w'= .ok (l.toNat,h'.toNat,b) w':=by
 cases lo with
 |none=>
  simp[bndOf]at e;subst e
  cases hi with
  |none=>simp[bndOf]at c;subst c;simp[Instr.sliceBounds]
  |some y=>
   obtain⟨k,f⟩:=Zli hsv c
   have:(0:Int)<=h'/\h'<=(b:Int):=⟨Vo,i⟩
   simp[Instr.sliceBounds,Instr.sliceBound,f,asIntOf,this]
 |some x=>
  obtain⟨k,hx⟩:=Zli hsv e
  cases hi with
  |none=>
   simp[bndOf]at c;subst c
   have:(0:Int)<=l/\l<=(len:Int):=⟨g,j⟩
   simp[Instr.sliceBounds,Instr.sliceBound,hx,asIntOf,this]
  |some y=>
   obtain⟨o,f⟩:=Zli hsv c
   have m:(0:Int)<=h'/\h'<=(b:Int):=⟨Vo,i⟩
   have n:(0:Int)<=l/\l<=max h' 0:=⟨g,Vo⟩
   simp[Instr.sliceBounds,Instr.sliceBound,hx,f,asIntOf,m,n]
def boundsV3{e:List (Nat×Bool)->Operand->SV}{w':World}(hsv:∀x,Rep h ρ (a.eval x) (e [] x))(len c:Nat){lo:Option Operand}{hi m:Operand}{k:IntKind}{l h' b:Int}
  (f:bndOf e 0 lo=some l) (n:bndOf e (Int.ofNat len) (some hi)=some h') (g:a.eval m= .int k b) (o:0<=l) (t:l<=h') (u:h'<=b) (p:b<=(c:Int)):
  (Instr.sliceBounds true len c (lo.map a.eval) (some (a.eval hi)) (some (a.eval m))).run P w'= .ok (l.toNat,h'.toNat,b.toNat) w':=by
 obtain⟨r,d⟩:=Zli hsv n
 have i:(0:Int)<=b/\b<=(c:Int):=⟨Vo,p⟩
 have j:(0:Int)<=h'/\h'<=max b 0:=⟨Vo,Vo⟩
 cases lo with
 |none=>simp[bndOf]at f;subst f;simp[Instr.sliceBounds,Instr.sliceBound,d,g,asIntOf,i,j]
 |some x=>
  obtain⟨s,hx⟩:=Zli hsv f
  have q:(0:Int)<=l/\l<=max h' 0:=⟨o,Vo⟩
  simp[Instr.sliceBounds,Instr.sliceBound,d,g,hx,asIntOf,i,q,j]
def Zji(F:FitsAt X h ρ st a w){id e:Nat}{rows:LL}(f:oget st.objs id=some (.own e rows)){c:Int}(b:c=if(ρ id).none then 0 else((ρ id).cap:Int))(g:0<c):
  (ρ id).none=false/\OwnOK h w (ρ id) e rows/\c=(ρ id).cap:=by
 rcases F.obj id _ f with⟨d,rfl⟩|⟨d,o⟩
 .rw[d]at b;simp at b;omega
 .rw[d]at b;simp at b;exact⟨d,o,b⟩
def Zjj(F:FitsAt X h ρ st a w)(o:Oper){t:TypeId}{x:Operand}{lo hi D:Option Operand}{id:Nat}{l d c:Int}(k:o.op= .slice t x lo hi D)(r:Rep h ρ (a.eval x) (.osv id l d c))(K:St->Prop)
  (hx:Zw9 P o t lo hi D id l d c st K):∃v,(∀w',(execOp a.eval o).run P w'= .ok (.value v) w')/\Goes X K (a.put o.dst v) w:=by
 obtain⟨p,M,V,W,Y,N,Q⟩:=r.osv_inv;have hsv:∀x,Rep h ρ (a.eval x) ((λ(_:List (Nat×Bool))=>st.val) [] x):=λx=>F.val x;unfold Zw9 at hx
 split at hx
 next e E rows G O=>
  split at hx
  next z b f n j i=>
   cases g:Nat.beq z E with
   |false=>simp[g]at hx
   |true=>
    simp only[g,cond_true]at hx;have:=Nat.eq_of_beq_eq_true g;subst this;obtain⟨⟨q,s,u⟩,y⟩:=hx;simp only[isub]at u i;have A:∀w',(execOp a.eval o).run P w'= .ok (.value (.slice (if(c-l).toNat=b.toNat then p else p.map (·.add (b.toNat*z))) (f.toNat-b.toNat) ((c-l).toNat-b.toNat))) w':=λw'=>by have g:=boundsV (P:=P) (w':=w') (hsv:=hsv) (d-l).toNat (c-l).toNat (lo:=lo) (hi:=hi) (l:=b) (h':=f) j (by rw[show Int.ofNat (d-l).toNat=d-l by simp;omega];exact i) q s Vo;simp[execOp,k,M,Instr.sliceAt,Instr.slice,run_underlying G,g,run_sizeOf' w' n]
    refine⟨_,A,Goes.put F o.dst ?_ y⟩
    have e1:vbd l (lsum l b) lo=l+b:=by
     cases lo with
     |none=>simp[bndOf]at j;subst j;simp[vbd]
     |some _=>rfl
    have e2:vbd d (lsum l f) hi=l+f:=by
     cases hi with
     |none=>simp[bndOf]at i;subst i;show d=_;omega
     |some _=>rfl
    rw[e1,e2]
    have:=Rep.osv (h:=h) (ρ:=ρ) id (l+b) (l+f) c (if(c-l).toNat=b.toNat then p else p.map (·.add (b.toNat*z))) Vo Vo Vo N (λR=>by
     obtain⟨Z,own,T⟩:=Zji F O N Vo;rw[if_neg Vo,Q Vo];simp only[W4,Zbn,own.hsz]
     rw[show(l+b).toNat=l.toNat+b.toNat by omega,Ym,YH])
    rw[show(l+f-(l+b)).toNat=f.toNat-b.toNat by omega,show(c-(l+b)).toNat=(c-l).toNat-b.toNat by omega]at this;exact this
  next z b f m n j i=>
   split at hx
   next H U J L=>
    cases g:Nat.beq z E with
    |false=>simp[g]at hx
    |true=>simp only[g,cond_true]at hx;obtain⟨⟨q,s,u,b3⟩,y⟩:=hx;simp only[isub]at b3 i;have C:=hsv m;simp only[]at C;rw[L]at C;refine⟨.slice (if J.toNat=b.toNat then p else p.map (·.add (b.toNat*z))) (f.toNat-b.toNat) (J.toNat-b.toNat),λw'=>?_,Goes.put F o.dst (.pure _ _ (.unk _)) y⟩;have g:=boundsV3 (P:=P) (w':=w') (hsv:=hsv) (d-l).toNat (c-l).toNat (lo:=lo) (hi:=H) (m:=m) (l:=b) (h':=f) j (by rw[show Int.ofNat (d-l).toNat=d-l by simp;omega];exact i) C.val_inv q s u Vo;simp[execOp,k,M,Instr.sliceAt,Instr.slice,run_underlying G,g,run_sizeOf' w' n]
   .exact hx.elim
  .exact hx.elim
 .exact hx.elim
def Zsw(F:FitsAt X h ρ st a w){vy:Value}{id d:Nat}{l s c:Int}{rows:LL}(z:Rep h ρ vy (.osv id l s c))(A:oget st.objs id=some (.own d rows)){n:Int}(L:0<=n)(O:n<=s-l)(u:l+n<=rlen rows):
  (rsub rows l (l+n)).length=n.toNat/\∃m,Flat h d (rsub rows l (l+n)) m/\∀g:World,(∀b,b<w.heap.size->g.heap[b]?=w.heap[b]?)->(Builtin.firstCells d n.toNat vy).run P g= .ok m.toArray g:=by
 obtain⟨p,rfl,Q,R,T,G,H⟩:=z.osv_inv;simp only[rlen,Yc]at u;have f:(rsub rows l (l+n)).length=n.toNat:=by simp[rsub];omega
 refine⟨f,?_⟩;by_cases hz:n=0
 .subst hz;have:rsub rows l (l+0)=[]:=Y6 (by rw[f];rfl);rw[this];refine⟨[],Flat.nil d,λg _=>?_⟩
  cases p with
  |none=>simp[Builtin.firstCells]
  |some Z=>simp[Builtin.firstCells,loadCells,loadCellsFrom]
 .obtain⟨M,o,N⟩:=Zji F A G Vo;obtain⟨U,t,V,k,W,Y,J⟩:=o.hblk
  have sub:∀(i:Nat) r,(rsub rows l (l+n))[i]?=some r->rows[l.toNat+i]?=some r:=λi r e=>by
   simp only[rsub,Yh,Ye]at e
   split at e
   .exact e
   .cases e
  obtain⟨m,x,y⟩:=Zod (P:=P) (w:=w) (b:=(ρ id).blk) (off:=(ρ id).off+l.toNat*d) (rows:=rsub rows l (l+n)) o.pos (λi r e=>o.hrow _ r (sub i r e)) (λi r j C e D=>by
   obtain⟨v,e1,e2,K⟩:=J _ r j C (sub i r e) D;refine⟨v,?_,e2,K⟩;rw[show(ρ id).off+(l.toNat+i)*d+j=(ρ id).off+l.toNat*d+i*d+j by rw[Ym];omega]at e1
   simp[World.cell?,k,e1])
  refine⟨m,x,λg E=>?_⟩;rw[H Vo];simp only[Builtin.firstCells]
  have q:(ρ id).blk<w.heap.size:=by
   rcases WO (ρ id).blk w.heap.size with h'|h'
   .exact h'
   .rw[YB h']at k;cases k
  have:=y g (E _ q);rw[f]at this;rw[o.hsz];exact this
def Zyu(F:FitsAt X h ρ st a w){C:TypeId}{y:SV}{r:Value}{s:Option Int}{q:Option Nat}{i:LL}{z:Nat}{K:Prop}(t:Rep h ρ r y)(e:srcV P st C y=some (s,q,i))
  (u:srcOK z q=true) (v:0<z) (D:sideV s K):
  K/\(∃d,P.underlying C=some d/\∀k,d≠ .int k)/\(∀f,(Builtin.lenOf r).run P f= .ok i.length f)/\
  ∃j,Flat h z i j/\∀f:World,(∀b,b<w.heap.size->f.heap[b]?=w.heap[b]?)->(Builtin.firstCells z i.length r).run P f= .ok j.toArray f:=by
 unfold srcV at e
 split at e
 next id l m c=>
  split at e
  next U E rows O G=>
   cases e
   obtain⟨H,Q⟩:=D;simp only[isub]at H;obtain⟨p,J,V,W,Y,Z,hp⟩:=t.osv_inv;have M:z=E\/E=0:=(by simp only[srcOK,Bool.or_eq_true]at u;exact u.elim (λe=>.inl (Nat.eq_of_beq_eq_true e).symm) (λe=>.inr (Nat.eq_of_beq_eq_true e)));obtain⟨g,j,L,x⟩:=Zsw (P:=P) F t G (n:=m-l) Vo Vo Vo;rw[show l+(m-l)=m by omega]at g L;refine⟨Q,⟨_,O,Vs⟩,λf=>by rw[g,J];simp[Builtin.lenOf],?_⟩
   rcases M with rfl|h00
   .exact⟨j,L,λf N=>by rw[g];exact x f N⟩
   .have A:rsub rows l m=[]:=by
     rcases F.obj id _ G with⟨_,rfl⟩|⟨_,o⟩
     .simp[rsub]
     .have:=o.pos;omega
    rw[A]at g|-;refine⟨[],Flat.nil z,λf _=>?_⟩;rw[J]
    cases p with
    |none=>simp[Builtin.firstCells]
    |some ad=>simp[Builtin.firstCells,loadCells,loadCellsFrom]
  .cases e
 .simp at e;obtain⟨R,T,e1,rfl,rfl,rfl⟩:=e;exact⟨D,Zd1 F t e1 u v⟩
def Zvf{d:Nat}(h:dstOK (some d)=true):idOK (128*d+64)=true:=by
 simp only[dstOK]at h;have b:d<8191:=Nat.le_of_ble_eq_true h;have:Nat.blt (128*d+64) 1048576=true:=Nat.ble_eq_true_of_le Vo;simp[idOK,this]
def FitsAt.rowsSame{rows:LL}(F:FitsAt X h ρ st a w)(k:oget st.objs n=some (.own m rows)):FitsAt X h ρ (st.rows n m rows) a w:=by
 have c:∀v s,Rep h ρ v s->Rep h ρ v (hmap (koslG n) s):=λv s r=>r.kosl n (λ_ _=>rfl) ⟨rfl,rfl,rfl,rfl,rfl⟩
 have d:∀i o,oget (oput (hmapO (koslG n) st.objs) n (.own m rows)) i=some o->∃b,oget st.objs i=some b/\o=Zdy (koslG n) b:=by
  intro i o e;rw[Zhv]at e
  split at e
  next g=>subst g;rw[Zgb,k]at e;simp at e;exact⟨_,k,by rw[<-e];rfl⟩
  .exact Zaf e
 refine F.turn (koslG n) _ c (λi o e=>?_) (λi g=>?_) F.sub (HLe.refl h) (λ_ _ _ _ e=>e) F.kp (λ_ _=>rfl)
 .obtain⟨b,j,rfl⟩:=d i o e;exact(F.obj i b j).turn c (HLe.refl h) rfl (λ_=>rfl) (λ_ _ e=>e)
 .obtain⟨⟨o,e⟩,l⟩:=g;obtain⟨b,j,rfl⟩:=d i o e;exact⟨⟨⟨b,j⟩,l⟩,rfl⟩
def Frm(st:St)(ρ:Nat->Loc)(id:Nat)(w c:World):Prop:=∀b,b<w.heap.size->(live st.objs ρ id->(ρ id).blk≠b)->c.heap[b]?=w.heap[b]?
def Zyv(F:FitsAt X h ρ st a w)(o:Oper){t1 t2:TypeId}{x y:Operand}{id:Nat}{l f c:Int}(a3:o.op= .call {callee:=.builtin .append,args:=⟨[x,y]⟩,argTypes:=⟨[t1,t2]⟩})
  (r:Rep h ρ (a.eval x) (.osv id l f c)) (K:St->Prop) (hx:appV P o t1 t2 (st.val y) id l f c st K):
  ∃v w',(execOp a.eval o).run P w= .ok (.value v) w'/\Goes X K (a.put o.dst v) w'/\w.heap.size<=w'.heap.size/\Frm st ρ id w w':=by
 obtain⟨p,V,h0,h1,h2,hc,hp⟩:=r.osv_inv;unfold appV at hx
 split at hx
 next e d s a4 g sz rows hu hd a0 G=>
  split at hx
  next z hz=>
   cases u:(Zb2 P e&&srcOK z a4&&Nat.beq z sz&&dstOK o.dst&&idOK id)with
   |false=>simp only[u,cond_false]at hx
   |true=>
    simp only[u,cond_true]at hx;simp only[Bool.and_eq_true]at u;obtain⟨⟨⟨⟨a5,a6⟩,a7⟩,Z⟩,a8⟩:=u;have:=Nat.eq_of_beq_eq_true a7;subst this;obtain⟨i,zv,hi,a9,H,aa,ab,a1⟩:=Zcc a5;have af:z=i.size:=by rw[a1]at hz;cases hz;rfl
    subst af;obtain⟨⟨ac,D,W⟩,⟨d2,J,L⟩,A,vs,Y,q⟩:=Zyu (P:=P) F (F.val y) a0 a6 H hx;simp only[rlen,lsum,isub,Yc]at ac D W;have t:∀v w',(Builtin.append_ #[t1,t2] o.type #[a.eval x,a.eval y]).run P w= .ok v w'->(execOp a.eval o).run P w= .ok (.value v) w':=λv w' e=>by simp[execOp,a3,resolve,invoke,builtin,e]
    by_cases hfit:f+g.length<=c
    .have D:=D hfit;have T:∀m:Nat->Loc,(m id).blk=(ρ id).blk->(m id).off=(ρ id).off->(m id).sz=(ρ id).sz->(m id).cap=(ρ id).cap->(m id).none=(ρ id).none->Rep h m (.slice p ((f-l).toNat+g.length) (c-l).toNat) (.osv id l (f+g.length) c):=λm b1 b2 b3 b4 b5=>by have:=Rep.osv (h:=h) (ρ:=m) id l (f+g.length) c p h0 Vo hfit (by rw[b4,b5];exact hc) (by rw[b1,b2,b3];exact hp);rw[show(f+↑g.length-l).toNat=(f-l).toNat+g.length by omega]at this;exact this
     by_cases hnull:g=[]
     .subst hnull;have ag:vs=[]:=Y6 (by rw[Y.len];simp);subst ag;have j:=Zej (P:=P) (ty:=o.type) hu hi J L (A w) (q w (λ_ _=>rfl)) (p:=p) (n:=(f-l).toNat) (cap:=(c-l).toNat) Vm (w':=w) (by cases p<;>simp[storeCells]);rw[<-V]at j;refine⟨_,_,t _ _ j,?_,Nat.le_refl _,λ_ _ _=>rfl⟩;have Q:rput rows f []=rows:=(by simp[rput]);rw[Q]at D;exact Goes.put (F.rowsSame G) o.dst (T ρ rfl rfl rfl rfl rfl) D
     .have ak:0<g.length:=Wx.2 hnull;obtain⟨hn,own,aj⟩:=Zji F G hc Vo;obtain⟨w',hst,E,M,C⟩:=own.write (P:=P) Y (k:=f.toNat) Vo Vo
      have j:=Zej (P:=P) (ty:=o.type) hu hi J L (A w) (q w (λ_ _=>rfl)) (p:=p) (n:=(f-l).toNat) (cap:=(c-l).toNat) Vo (w':=w') (by
       rw[hp Vo];simp only[Zbn,own.hsz];rw[show(ρ id).off+l.toNat*i.size+(f-l).toNat*i.size=(ρ id).off+f.toNat*i.size by rw[YH,<-Ym,show l.toNat+(f-l).toNat=f.toNat by omega]]
       exact hst)
      rw[<-V]at j;refine⟨_,_,t _ _ j,?_,E.size,λb _ u=>M b (λe=>u ⟨⟨_,G⟩,hn⟩ e.symm)⟩;exact Goes.put (F.rows G hn a8 E M C) o.dst (T _ (by rw[Zab]) (by rw[Zab]) (by rw[Zab]) (by rw[Zab]) (by rw[Zab])) D
    .obtain⟨a2,W⟩:=W Vo;rw[hd]at Z;have ah:=Zvf Z;obtain⟨N,old,O,Q⟩:=Zsw (P:=P) F r G (n:=f-l) Vo Vo (by simp only[rlen,Yc];omega);rw[show l+(f-l)=f by omega]at N O
     obtain⟨R,ad,ae,j⟩:=Ze4 (P:=P) (ty:=o.type) (p:=p) (n:=(f-l).toNat) (cap:=(c-l).toNat) (old:=old) hu hi aa a9 J L (A w) Vo (by simp only[most]at a2;omega) (q w.drew (λ_ _=>rfl)) (by
      rw[<-V];exact Q w.drew (λ_ _=>rfl))
     rw[<-V]at j;refine⟨_,_,t _ _ j,?_,(Zai w _).size,λb u _=>(Zai w _).block b u (λe=>e)⟩;have U:(rapp (rsub rows l f) g).length=(f-l).toNat+g.length:=by simp[rapp,N]
     have C:OwnOK h (w.drew.alloc (.cells (old.toArray++vs.toArray++Builtin.zeroCells zv.cells (R-((f-l).toNat+g.length))) e)) ⟨w.heap.size,0,(rapp (rsub rows l f) g).length,R,i.size,false⟩ i.size (rapp (rsub rows l f) g):=by
      refine Zr4 (fz:=(0,0)) (e:=e) (cs:=old.toArray++vs.toArray++Builtin.zeroCells zv.cells (R-((f-l).toNat+g.length))) (O.append Y) H (by rw[U];exact ad) ae (by show(w.heap.push _)[_]?=_;simp) ?_ (λo _=>Vs) (λo=>Zcv F.sub o _ (Nat.le_refl _)) (.inl rfl) (λk v E=>?_)
      .simp only[YS,YJ,O.len,Y.len,N,Builtin.zeroCells,Wa,Wf,ab];rw[<-Ym,<-Ym];exact Yf _ Vo
      .have ai:=(Y0.1 E).1;rw[Array.getElem?_append_left (by simpa using ai)]
       simpa using E
     have F1:=F.newOwn (128*d+64) ah (.own i.size (rapp (rsub rows l f) g)) ⟨w.heap.size,0,(rapp (rsub rows l f) g).length,R,i.size,false⟩ (Zai w _) Vs (λ_=>Nat.le_refl _) (.inr ⟨by rw[Zab],by rw[Zab];exact C⟩);have hR:=Rep.osl (h:=h) (ρ:=upd ρ (128*d+64) ⟨w.heap.size,0,(rapp (rsub rows l f) g).length,R,i.size,false⟩) (128*d+64) (by rw[Zab]);rw[Zab]at hR;simp only[U]at hR;simp only[U]at F1;exact Goes.put F1 o.dst hR W
  .exact hx.elim
 .exact hx.elim
def Zvg{f t2 e ty:TypeId}{z m n dl dc:Nat}{p:Option Addr}{vy:Value}{g:List Value}{d:World}(i:P.underlying f=some (.slice e))(j:szT P e=some z)(b:(Builtin.lenOf vy).run P w= .ok m w)(l:n=Nat.min m dl)
  (c:(Builtin.firstCells z n vy).run P w= .ok g.toArray w) (hst:match p with|some k=>(storeCells k g).run P w= .ok () d|none=>d=w):
  (Builtin.copy_ #[f,t2] ty #[.slice p dl dc,vy]).run P w= .ok (goInt n) d:=by
 subst l
 cases p with
 |none=>simp at hst;rw[hst];simp[Builtin.copy_,run_underlying i,b,run_sizeOf' w j,c]
 |some k=>simp at hst;simp[Builtin.copy_,run_underlying i,b,run_sizeOf' w j,c,hst]
def putV(F:FitsAt X h ρ st a w){id j:Nat}{l o c:Int}{rows f:LL}{m:List Value}{p:Option Addr}(i:oget st.objs id=some (.own j rows))(hid:idOK id=true)(G:0<=l)(H:o<=c)
  (x:c=if(ρ id).none then 0 else((ρ id).cap:Int)) (y:l<c->p=some ⟨(ρ id).blk,(ρ id).off+l.toNat*(ρ id).sz,none⟩) (q:Flat h j f m) (z:l<=rlen rows) (A:l+f.length<=o):
  ∃d r,(match p with|some ad=>(storeCells ad m).run P w= .ok () d|none=>d=w)/\FitsAt X h r (st.rows id j (rput rows l f)) a d/\w.heap.size<=d.heap.size/\Frm st ρ id w d:=by
 simp only[rlen,Yc]at z
 by_cases hnull:f=[]
 .subst hnull;have u:m=[]:=Y6 (by rw[q.len];simp);subst u;have v:rput rows l []=rows:=(by simp[rput]);rw[v];exact⟨w,ρ,by cases p<;>simp[storeCells],F.rowsSame i,Nat.le_refl _,λ_ _ _=>rfl⟩
 .have E:0<f.length:=Wx.2 hnull;obtain⟨s,own,D⟩:=Zji F i x Vo;obtain⟨d,hst,t,g,n⟩:=own.write (P:=P) q (k:=l.toNat) Vo Vo;refine⟨d,_,?_,F.rows i s hid t g n,t.size,λb _ C=>g b (λe=>C ⟨⟨_,i⟩,s⟩ e.symm)⟩;rw[y Vo];simp only[own.hsz];exact hst
def imin_min(a b:Int):imin a b=min a b:=by unfold imin;split<;>omega
def Zsx(F:FitsAt X h ρ st a w)(o:Oper){G t2:TypeId}{x y:Operand}{id:Nat}{l d c:Int}(O:o.op= .call {callee:=.builtin .copy,args:=⟨[x,y]⟩,argTypes:=⟨[G,t2]⟩})
  (r:Rep h ρ (a.eval x) (.osv id l d c)) (K:St->Prop) (hx:copyV P o G t2 (st.val y) id l d st K):
  ∃v g,(execOp a.eval o).run P w= .ok (.value v) g/\Goes X K (a.put o.dst v) g/\w.heap.size<=g.heap.size/\Frm st ρ id w g:=by
 obtain⟨p,hv,h0,h1,h2,hc,hp⟩:=r.osv_inv;have q:∀v g,(Builtin.copy_ #[G,t2] o.type #[a.eval x,a.eval y]).run P w= .ok v g->(execOp a.eval o).run P w= .ok (.value v) g:=λv g e=>by simp[execOp,O,resolve,invoke,builtin,e]
 have s:=F.val y;unfold copyV at hx
 split at hx
 next e e2 sz rows Q a4 R=>
  split at hx
  next z T=>
   cases hb:(Nat.beq z sz&&idOK id)with
   |false=>simp only[hb,cond_false]at hx
   |true=>
    simp only[hb,cond_true]at hx;simp only[Bool.and_eq_true]at hb;obtain⟨a0,E⟩:=hb;have:=Nat.eq_of_beq_eq_true a0;subst this
    split at hx
    .rename_i a5 i b c2 U;rw[U]at s
     split at hx
     next V a3 W=>
      cases hb3:Nat.beq z V with
      |false=>simp only[hb3,cond_false]at hx
      |true=>simp only[hb3,cond_true]at hx;have:=Nat.eq_of_beq_eq_true hb3;subst this;obtain⟨⟨H,C⟩,D⟩:=hx;obtain⟨p2,a1,q0,q1,q2,_,_⟩:=s.osv_inv;have M:0<=imin (isub b i) (isub d l)/\imin (isub b i) (isub d l)<=b-i/\imin (isub b i) (isub d l)<=d-l/\(imin (isub b i) (isub d l)).toNat=Nat.min (b-i).toNat (d-l).toNat:=(by rw[imin_min];simp only[isub];exact⟨Vo,Vo,Vo,by show _=min _ _;omega⟩);generalize hN:imin (isub b i) (isub d l)=N at*;obtain⟨m0,m1,m2,m3⟩:=M;simp only[lsum]at C D;obtain⟨k,vs,J,j⟩:=Zsw (P:=P) F s W (n:=N) m0 m1 C;obtain⟨g,a2,hst,L,t,u⟩:=putV (P:=P) F R E h0 h2 hc hp J H (by rw[k];omega);have f:=Zvg (P:=P) (ty:=o.type) (t2:=t2) (vy:=a.eval y) (m:=(b-i).toNat) (n:=N.toNat) (dl:=(d-l).toNat) (dc:=(c-l).toNat) Q T (by rw[a1];simp[Builtin.lenOf]) m3 (j w (λ_ _=>rfl)) hst;rw[<-hv]at f;refine⟨_,_,q _ _ f,Goes.put L o.dst (.pure _ _ ?_) D,t,u⟩;rw[show(goInt N.toNat)= .int .i64 N by simp[goInt];omega];exact .val _
     .exact hx.elim
    next a6=>
     split at hx
     next Y Z j=>
      cases hb3:(srcOK z Y&&Nat.blt 0 z)with
      |false=>simp only[hb3,cond_false]at hx
      |true=>simp only[hb3,cond_true]at hx;simp only[Bool.and_eq_true]at hb3;obtain⟨⟨H,C⟩,D⟩:=hx;obtain⟨_,k,vs,J,A⟩:=Zd1 (P:=P) F s j hb3.1 (Nat.le_of_ble_eq_true hb3.2);simp only[rlen,isub,Yc]at C;obtain⟨g,a2,hst,L,t,u⟩:=putV (P:=P) F R E h0 h2 hc hp J H Vo;have f:=Zvg (P:=P) (ty:=o.type) (t2:=t2) (vy:=a.eval y) (m:=Z.length) (n:=Z.length) (dl:=(d-l).toNat) (dc:=(c-l).toNat) Q T (k w) (by show _=min _ _;omega) (A w (λ_ _=>rfl)) hst;rw[<-hv]at f;exact⟨_,_,q _ _ f,Goes.put L o.dst (.pure _ _ (.val _)) D,t,u⟩
     .exact hx.elim
  .exact hx.elim
 .exact hx.elim
def Zqt(F:FitsAt X h ρ st a w)(o:Oper){t:TypeId}{x:Operand}{id:Nat}{l b c:Int}(O:o.op= .call {callee:=.builtin .clear,args:=⟨[x]⟩,argTypes:=⟨[t]⟩})
  (r:Rep h ρ (a.eval x) (.osv id l b c)) (K:St->Prop) (hx:clearV P o t id l b st K):
  ∃v d,(execOp a.eval o).run P w= .ok (.value v) d/\Goes X K (a.put o.dst v) d/\w.heap.size<=d.heap.size/\Frm st ρ id w d:=by
 obtain⟨p,y,h0,h1,h2,R,T⟩:=r.osv_inv;have q:∀v d,(Builtin.clear_ #[t] o.type #[a.eval x]).run P w= .ok v d->(execOp a.eval o).run P w= .ok (.value v) d:=λv d e=>by simp[execOp,O,resolve,invoke,builtin,e]
 unfold clearV at hx
 split at hx
 next e sz rows Q N=>
  split at hx
  next z hz=>
   cases hb:(Nat.beq (lenN z) sz&&idOK id)with
   |false=>simp only[hb,cond_false]at hx
   |true=>
    simp only[hb,cond_true]at hx;simp only[Bool.and_eq_true]at hb;obtain⟨U,V⟩:=hb;have L:=Nat.eq_of_beq_eq_true U;rw[Zax]at L;subst L;obtain⟨g1,u⟩:=hx;obtain⟨g,W,A,_,J⟩:=Zc5 (h:=h) hz;have C:(rrep (isub b l) z).length=(b-l).toNat:=(by simp[rrep,isub]);by_cases hn0:b=l
    .have e0:rput rows l (rrep (isub b l) z)=rows:=(by subst hn0;simp[rput,rrep,isub]);rw[e0]at u;refine⟨.tuple #[],w,q _ _ ?_,Goes.put (F.rowsSame N) o.dst (.pure _ _ (.unk _)) u,Nat.le_refl _,λ_ _ _=>rfl⟩;rw[y,show(b-l).toNat=0 by omega]
     cases p<;>simp[Builtin.clear_,run_underlying Q]
    .have hn:0<(b-l).toNat:=Vo;obtain⟨a3,own,a4⟩:=Zji F N R Vo;have a2:=own.pos;have D:(Builtin.zeroCells g.cells (b-l).toNat).size=(b-l).toNat*z.length:=by simp[Builtin.zeroCells,A]
     have s:∀i j,i<(b-l).toNat->j<z.length->(Builtin.zeroCells g.cells (b-l).toNat)[i*z.length+j]?=g.cells[j]?:=λi j f G=>by
      have:=Zga (z:=g.cells) A f G
      simpa[Builtin.zeroCells,A]using this
     have hf:Flat h z.length (rrep (isub b l) z) (Builtin.zeroCells g.cells (b-l).toNat).toList:=by
      have E:∀(i:Nat) r,(rrep (isub b l) z)[i]?=some r->r=z/\i<(b-l).toNat:=λi r f=>by have n:=(Y0.1 f).1;rw[C]at n;have H:=Yn f;simp only[rrep]at H;exact⟨WP H,n⟩
      refine⟨by rw[C];simpa using D,λi r f=>by rw[(E i r f).1],λi r j c' f G=>?_,λv y=>?_⟩
      .obtain⟨rfl,n⟩:=E i r f;have a1:=(Y0.1 G).1;have M:j<g.cells.size:=Vo;refine⟨g.cells[j],?_,(J j _ c' (Y1 M) G).1⟩;rw[Yr,s i j n a1,Y1 M]
      .obtain⟨k,e⟩:=List.mem_iff_getElem?.1 y;have u:=(Y0.1 e).1;rw[Array.length_toList,D]at u;obtain⟨_,q1,Y,q3⟩:=Zk6 u;rw[Yr,q3,s _ _ q1 Y]at e;exact(J _ v _ e (List.getElem?_eq_getElem Y)).2
     obtain⟨d,a5,hst,F1,Z,a0⟩:=putV (P:=P) F N V h0 h2 R T hf g1 (by rw[C];omega);rw[T Vo]at hst y;refine⟨.tuple #[],d,q _ _ ?_,Goes.put F1 o.dst (.pure _ _ (.unk _)) u,Z,a0⟩;rw[y]
     obtain⟨m,H⟩:∃m,(b-l).toNat=m+1:=⟨(b-l).toNat-1,Vo⟩
     rw[H]at hst|-;simp at hst;simp[Builtin.clear_,run_underlying Q,W,hst]
  .exact hx.elim
 .exact hx.elim
def blt_id(h:Nat.blt n 8191=true)(k:Nat)(b:k<128):idOK (128*n+k)=true:=by
 have c:n+1<=8191:=Nat.le_of_ble_eq_true h;have:Nat.blt (128*n+k) 1048576=true:=Nat.ble_eq_true_of_le Vo;simp[idOK,this]
def val_opn{x:Operand}{id:Nat}(hx:st.val x= .osl id)(d i:Nat)(rows:LL)(c:Int):(st.opn id d i rows c).val x= .osv d 0 (rlen rows) c:=by
 cases x with
 |tmp t=>
  simp only[St.val,ev]at hx|-;simp only[St.opn];rw[Zca]at hx|-;rw[hmapL_getElem?]
  cases hs:st.tmps[t]? with
  |none=>rw[hs]at hx;simp[ungd]at hx
  |some s=>
   rw[hs]at hx;simp only[Yl]at hx
   have:s= .osl id:=by
    cases s<;>simp[ungd]at hx
    exact congrArg SV.osl hx
   subst this;simp[hmap,opnG,ungd]
 |const v=>
  exfalso
  revert hx
  unfold St.val ev
  split
  next e=>cases e
  all_goals (try simp[ungd])
  all_goals (rename_i e;cases e)
 |func f=>simp[St.val,ev,ungd]at hx
 |global g=>
  exfalso;have b:ungd [] (Zfl g Zbf)= .osl id:=hx;rw[Zrw]at b
  rcases Zcb g Zbf with e|⟨cs,_,e⟩<;>rw[e]at b<;>cases b
def Zjt{P:Program}(w:World)(d:TypeId)(u:Array TypeId)(e:TypeId)(p:P.underlying d=some (.slice e))(c:Nat)(q:∀w,(Go.sizeOf e).run P w= .ok c w)
  (a b:Addr) (g v i x:Nat) (j:a.block≠b.block) (y z:TypeId) (r s:Nat)
  (k:w.shape? a.block=some (y,r+1)) (l:w.shape? b.block=some (z,s))
  (m:w.frozen? b=false) (n:w.frozen? {block:=b.block,off:=s}=false):
  (Extern.SlicesOverlaps.overlaps #[d,d] u #[.slice (some a) g v,.slice (some b) i x]).run P w= .ok (.bool false) w:=by
 have o:(a.block !=b.block)=true:=(by simpa using j);have f:(a.block==b.block)=false:=by simpa using j
 change Sem.run P (α:=Value) (do
  let some t:=(#[d,d]:Array TypeId)[0]?|stuck "slices.overlaps: no parameter types"
  let .slice elem<-underlying t|stuck "slices.overlaps: slice type expected"
  let c<-sizeOf elem
  match(some a:Option Addr),(some b:Option Addr)with
  |some a,some b=>
   if g=0\/i=0\/c=0 then pure (Value.bool false)
   else if a.block !=b.block&&(<-frozen a)&&(<-frozen b)then unsupported .addressObserved
   else do
    if a.block !=b.block then do
     noView a;noView b
     if<-mayBeOne a b then return Value.bool ((<-choose (.extern "sameAddr.stringBytes" 2))==1)
    pure (Value.bool (a.block==b.block&&a.off<b.off+i*c&&b.off<a.off+g*c))
  |_,_=>pure (Value.bool false)) w=_
 by_cases h0:g=0\/i=0\/c=0
 .simp[run_underlying p,q,h0]
 .cases hfa:w.frozen? a with
  |false=>cases hfx:w.frozen? {block:=a.block,off:=r+1}<;>simp[run_underlying p,q,h0,o,f,frozen,noView,viewAt,mayBeOne,stringish,shape,Sem.run,k,l,hfa,m,n,hfx]
  |true=>simp[run_underlying p,q,h0,o,f,frozen,noView,viewAt,mayBeOne,stringish,shape,Sem.run,k,l,hfa,m,n]
def Zh0{P:Program}(w:World)(d:TypeId)(m:Array TypeId)(e:TypeId)(k:P.underlying d=some (.slice e))(c:Nat)(l:∀w,(Go.sizeOf e).run P w= .ok c w)
  (f g:Option Addr) (i n j o:Nat) (p:i=0\/j=0\/c=0):
  (Extern.SlicesOverlaps.overlaps #[d,d] m #[.slice f i n,.slice g j o]).run P w= .ok (.bool false) w:=by
 change Sem.run P (α:=Value) (do
  let some t:=(#[d,d]:Array TypeId)[0]?|stuck "slices.overlaps: no parameter types"
  let .slice elem<-underlying t|stuck "slices.overlaps: slice type expected"
  let c<-sizeOf elem
  match f,g with
  |some a,some b=>
   if i=0\/j=0\/c=0 then pure (Value.bool false)
   else if a.block !=b.block&&(<-frozen a)&&(<-frozen b)then unsupported .addressObserved
   else do
    if a.block !=b.block then do
     noView a;noView b
     if<-mayBeOne a b then return Value.bool ((<-choose (.extern "sameAddr.stringBytes" 2))==1)
    pure (Value.bool (a.block==b.block&&a.off<b.off+j*c&&b.off<a.off+i*c))
  |_,_=>pure (Value.bool false)) w=_
 cases f with
 |none=>simp[run_underlying k,l]
 |some f=>cases g with
  |none=>simp[run_underlying k,l]
  |some g=>simp[run_underlying k,l,p]
def Zyw(F:FitsAt X h ρ st a w)(o:Oper){f:FuncId}{x y:Operand}{T:Array TypeId}{id:Nat}{l U c:Int}(V:o.op= .call {callee:=.value (.func f),args:=⟨[x,y]⟩,argTypes:=T})
  (r:Rep h ρ (a.eval y) (.osv id l U c)) (K:St->Prop) (hx:ovlV P o f (st.val x) id st K):
  ∃v,(execOp a.eval o).run P w= .ok (.value v) w/\Goes X K (a.put o.dst v) w:=by
 have u:=F.val x;unfold ovlV at hx
 split at hx
 .rename_i Y C ac sz rows fn Z ho hf;rw[Z]at u
  split at hx
  next t t' ad aa=>
   split at hx
   next e hu=>
    split at hx
    next z hz=>
     cases hb:(Nat.beq z sz&&Nat.ble 2 z)with
     |false=>simp only[hb,cond_false]at hx
     |true=>
      simp only[hb,cond_true]at hx;simp only[Bool.and_eq_true]at hb;obtain⟨⟨D,a0⟩,hk⟩:=hx;have:=Nat.eq_of_beq_eq_true hb.1;subst this;have ai:2<=z:=Nat.le_of_ble_eq_true hb.2
      have O:(Extern.SlicesOverlaps.overlaps #[t,t] D #[a.eval x,a.eval y]).run P w= .ok (.bool false) w:=by
       obtain⟨p,hv,W,h1,h2,hc,hp⟩:=r.osv_inv;obtain⟨px,cx,E⟩:=u.slice_inv;have A:=u.slice_pure;rw[E]at A;rw[hv,E];have short:∀(G H:Option Addr) m J n L,m=0\/n=0->(Extern.SlicesOverlaps.overlaps #[t,t] D #[.slice G m J,.slice H n L]).run P w= .ok (.bool false) w:=λG H m J n L W=>by have a2:m=0\/n=0\/z=0:=W.elim .inl (λe=>.inr (.inl e));exact Zh0 w t D e hu z (λw=>run_sizeOf' w hz) G H m J n L a2
       by_cases e0:C.length=0\/(U-l).toNat=0
       .exact short _ _ _ _ _ _ e0
       .obtain⟨ae,own,af⟩:=Zji F ho hc Vo;have a3:=hp Vo;subst a3;obtain⟨cs,tc,fz,g,hs,ag,ah⟩:=own.hblk;have a4:=(own.hfz cs tc fz g).resolve_right (λq=>Vo);subst a4;have i:0<C.length:=Vo;generalize hvs:Value.slice px C.length cx=vv at A
        cases A with
        |empty=>cases hvs;simp at i
        |slice b off ak _ _ _ vs R a8 a9 al ab ht am an=>
         cases hvs
         have a5:0<(C[0]'i).length:=(by rw[a8 0 _ (List.getElem?_eq_getElem i)];exact R);have d:=a9 0 _ 0 _ (List.getElem?_eq_getElem i) (List.getElem?_eq_getElem a5);have Q:b≠(ρ id).blk:=λe=>by subst e;rw[own.hh]at d;cases d
         have k:=F.sub _ _ _ d
         have a6:∃s M,w.shape? b=some (s,M+1):=by
          unfold World.cell? at k;simp only[]at k
          split at k
          next N s fA hA=>
           have aj:off+0*Y+0<N.size:=by
            rcases WO (off+0*Y+0) N.size with h'|h'
            .exact h'
            .rw[YB h']at k;cases k
           exact⟨s,N.size-1,by simp[World.shape?,hA];omega⟩
          .cases k
         obtain⟨s,M,a1⟩:=a6;exact Zjt w t D e hu z (λw=>run_sizeOf' w hz) ⟨b,off,none⟩ ⟨(ρ id).blk,_,none⟩ _ _ _ _ Q s tc M cs.size a1 (by simp[World.shape?,g]) (by simp[World.frozen?,g]) (by simp[World.frozen?,g])
      have j:=a0 (a.eval x) (a.eval y) w;rw[O]at j;refine⟨.bool false,?_,Goes.put F o.dst (.pure _ _ (.val _)) hk⟩;have a7:(execOp a.eval o).run P w=(callFunc f #[a.eval x,a.eval y]).run P w:=(by simp[execOp,V,resolve,Act.eval,Deferred.ofValue,invoke]);rw[a7,j];rfl
    .exact hx.elim
   .exact hx.elim
  .exact hx.elim
 .exact hx.elim
def Zqu:∀(b:List SV) (i:Nat),(rows1 b)[i]?=(b[i]?).map λc=>[c]
 | [],i=>by simp[rows1]
 |c::b,0=>by simp[rows1]
 |c::b,i+1=>by simp[rows1,Zqu b i]
def Zqv:∀(b:List SV),(rows1 b).length=b.length
 | []=>rfl
 |c::b=>by simp[rows1,Zqv b]
def Zm5(F:FitsAt X h ρ st a w)(o:Oper){x:Operand}{y z A:Option Operand}(C:o.op= .slice T x y z A)(K:St->Prop)(hx:arrV P o T x y z A st K):
  ∃v,(∀p,(execOp a.eval o).run P p= .ok (.value v) p)/\Goes X K (a.put o.dst v) w:=by
 unfold arrV at hx
 split at hx
 .rename_i m e off k G D;have s:=F.val x;rw[D]at s
  split at hx
  next H=>
   cases hb:(Nat.ble (off+m) (lenN k)&&Nat.blt 0 m&&boxL (takeN m (dropN off k)))with
   |false=>simp only[hb,cond_false]at hx
   |true=>
    simp only[hb,cond_true]at hx;simp only[Bool.and_eq_true]at hb;obtain⟨⟨J,L⟩,b3⟩:=hb;have t:off+m<=k.length:=by have:=Nat.le_of_ble_eq_true J;rwa[Zax]at this
    have N:0<m:=(by simpa[Nat.blt_eq]using L);generalize hv:a.eval x=v at s;have n:(rows1 (takeN m (dropN off k))).length=m:=by rw[Zqv,Ze5,Ze6];simp;omega
    have g:∀(i:Nat) r,(rows1 (takeN m (dropN off k)))[i]?=some r->∃c,r=[c]/\k[off+i]?=some c/\Zbc c=true:=by
     intro i r d;rw[Zqu]at d
     cases hc:(takeN m (dropN off k))[i]? with
     |none=>simp[hc]at d
     |some c=>
      simp[hc]at d;refine⟨c,d.symm,?_,Zj2 b3 i c hc⟩;rw[Ze5,Ze6,Ye]at hc
      split at hc
      .rw[Yh]at hc;exact hc
      .cases hc
    cases s with
    |pure _ _ O=>
     cases O with
     |ref b u _ _ Q R d=>
      have q:=PRep.slice (h:=h) b (u+off) m 1 (rows1 (takeN m (dropN off k))) 1 (λi j=>Q (off+i+j)) Vo
       (λi r d=>by obtain⟨c,rfl,_⟩:=g i r d;rfl)
       (λi r j c d f=>by
        obtain⟨E,rfl,e2,_⟩:=g i r d
        cases j with
        |zero=>simp at f;subst f;have:=R _ _ e2;simpa[YH]using this
        |succ j=>simp at f)
       (λi r j c l f=>by
        obtain⟨E,rfl,e2,_⟩:=g i r l
        cases j with
        |zero=>simp at f;subst f;exact d _ _ e2
        |succ j=>simp at f)
       (λi r j c l f=>by
        obtain⟨E,rfl,e2,M⟩:=g i r l
        cases j with
        |zero=>simp at f;subst f;exact Zg2 (ρ:=ρ) M (.pure _ _ (d _ _ e2))
        |succ j=>simp at f)
       Vo (λ_=>n.symm) Vo
      rw[n]at q;refine⟨_,λp=>?_,Goes.put F o.dst (.pure _ _ q) hx⟩;simp[execOp,C,hv,Instr.sliceAt,run_underlying G,Instr.sureAddr,Instr.sliceBounds,run_sizeOf' p H,Zbn]
  .exact hx.elim
 .exact hx.elim
def view_calm(F:FitsAt X h ρ st a w)(o:Oper)(K:St->Prop)(k:loud P o.op=false){C:(St->Prop)->Prop}(f:viewC P o st=some C)(hx:C K):
  ∃v,(∀q,(execOp a.eval o).run P q= .ok (.value v) q)/\Goes X K (a.put o.dst v) w:=by
 unfold viewC at f
 split at f
 next t x Q R T g=>
  split at f
  next id i=>
   cases hm:vmode st with
   |false=>simp only[hm,cond_false]at f;cases f
   |true=>
    simp only[hm,cond_true]at f
    split at f
    next E rows d z hd=>
     cases hdl:Nat.blt d 8191 with
     |false=>simp only[hdl,cond_false]at f;cases f
     |true=>
      simp only[hdl,cond_true]at f
      cases f
      have M:idOK (128*d+65)=true:=blt_id hdl 65 Vo;obtain⟨c,s,u,n⟩:=F.opn z M;have hx:=hx c s u;refine Zjj n o g ?_ K hx;have:=n.val x;have e1:(st.opn id (128*d+65) E rows c).val x= .osv (128*d+65) 0 (rlen rows) c:=val_opn i _ _ _ _;rw[e1]at this;exact this
    .cases f
  next id l A c i=>
   cases f
   have:=F.val x;rw[i]at this;exact Zjj F o g this K hx
  next id off i=>
   cases hm:amode st with
   |false=>simp only[hm,cond_false]at f;cases f
   |true=>
    simp only[hm,cond_true]at f
    split at f
    next O G=>
     cases f
     obtain⟨D,N,n⟩:=F.frzBoxes _ G;exact Zm5 n o g K hx
    .cases f
  .cases f
   exact Zm5 F o g K hx
  .cases f
 .rename_i b x t g;have j:=F.val x
  split at f
  .rename_i id l A c i;rw[i]at j
   split at f
   next e r=>
    cases f
    obtain⟨p,m,H,D,J,s,L⟩:=j.osv_inv;refine⟨.int .i64 (A-l),λq=>?_,Goes.put F o.dst (.pure _ _ (.val _)) hx⟩;simp[execOp,g,resolve,invoke,builtin,Builtin.len_,m,run_underlying r,goInt];omega
   .cases f
  .rename_i id l A c i;rw[i]at j
   split at f
   next e r=>
    cases f
    obtain⟨p,m,H,D,J,s,L⟩:=j.osv_inv;refine⟨.int .i64 (c-l),λq=>?_,Goes.put F o.dst (.pure _ _ (.val _)) hx⟩;simp[execOp,g,resolve,invoke,builtin,Builtin.cap_,m,run_underlying r,goInt];omega
   .cases f
  next id i=>
   cases hm:vmode st with
   |false=>simp only[hm,cond_false]at f;cases f
   |true=>
    simp only[hm,cond_true]at f
    split at f
    next e E rows d r z hd=>
     cases hdl:Nat.blt d 8191 with
     |false=>simp only[hdl,cond_false]at f;cases f
     |true=>
      simp only[hdl,cond_true]at f
      cases f
      obtain⟨c,s,u,n⟩:=F.opn z (blt_id hdl 65 Vo);have j:=n.val x;rw[val_opn i]at j;obtain⟨p,m,H,D,J,_,L⟩:=j.osv_inv;refine⟨.int .i64 c,λq=>?_,Goes.put n o.dst (.pure _ _ (.val _)) (hx c s u)⟩;simp[execOp,g,resolve,invoke,builtin,Builtin.cap_,m,run_underlying r,goInt];omega
    .cases f
  .rw[g]at k;simp[loud]at k
  .cases f
 next b x y U V g=>
  split at f
  .rw[g]at k;simp[loud]at k
  .rw[g]at k;simp[loud]at k
  .cases f
 next g=>rw[g]at k;simp[loud]at k
 .cases f
def Zov{j t2 e ty:TypeId}{i:TypeInfo}(u:P.underlying j=some (.slice e))(z:P.info? e=some i)(k:i.zero=some v)(E:v.cells.size=i.size)(d:i.bytes<=8192)(x:0<i.size)(l:P.underlying t2=some (.int .i64)){m:Nat}{old:Array Value}
  {p:Option Addr} {n cap:Nat} (hno:¬n+m<=cap) (y:n+m<=2147483648)
  (g:(Builtin.firstCells i.size n (.slice p n cap)).run P w.drew= .ok old w.drew):
  ∃c,n+m<=c/\c<=9223372036854775807/\(Builtin.append_ #[j,t2] ty #[.slice p n cap,.int .i64 m]).run P w= .ok (.slice (some ⟨w.heap.size,0,none⟩) (n+m) c)
   (w.drew.alloc (.cells (old++Builtin.zeroCells v.cells m++Builtin.zeroCells v.cells (c-(n+m))) e)):=by
 refine⟨(n+m)+(w.tape w.drawn (.appendCap (n+m) cap e))%(2^63-(n+m)),Vo,by have:=Nat.mod_lt (w.tape w.drawn (.appendCap (n+m) cap e)) (show 0<2^63-(n+m) by omega);omega,?_⟩;unfold Builtin.append_;have A:IntKind.i64.wrap (m:Int)=m:=Zbj Vo Vo;have F:(m:Int)*i.bytes<=17592186044416:=(by have:m*i.bytes<=17592186044416:=Nat.le_trans (Nat.mul_le_mul (show m<=2147483648 by omega) d) (Nat.le_of_ble_eq_true rfl);have C:((m*i.bytes:Nat):Int)<=17592186044416:=Vo;rwa[Int.natCast_mul]at C);have e2:Builtin.nextslicecap (n+m) cap*i.bytes<=(2*(n+m)+200)*8192:=Nat.mul_le_mul (Zfq (need:=n+m) (cap:=cap) Vo) d;have o:¬(281474976710656<Builtin.nextslicecap (n+m) cap*i.bytes):=Vo;have q:¬(281474976710656<(m:Int)*i.bytes):=Vo;have r:¬(9223372036854775807<(n:Int)+(m:Int)):=Vo;have b:¬((m:Int)<0):=Vo;have f:∀w,(typeInfo e).run P w= .ok i w:=λw=>run_typeInfo' w z;have s:∀w,(zeroValue e).run P w= .ok v w:=λw=>by simp[zeroValue,f,k]
 have t:m*i.size=0->Builtin.zeroCells v.cells m= #[]:=λe=>by have D:m=0:=(by rcases WV.1 e with h|h;exact h;omega);subst D;apply Yx;simp[Builtin.zeroCells]
 simp only[sizeOf];simp[hno,run_underlying u,run_underlying l,f,asInt,asIntOf,A,q,r,o,Question.forced,Question.cut,g,s,newRow];by_cases hm0:m*i.size=0
 .simp only[hm0,if_true,t hm0];rw[if_neg b];simp
 .simp only[hm0,if_false];rw[if_neg b]
def viewLoad(F:FitsAt X h ρ st a w){u:Value}{id d:Nat}{l e c:Int}{rows:LL}(D:Rep h ρ u (.osv id l e c))(E:oget st.objs id=some (.own d rows)):
  ∃old:Array Value,old.size=(e-l).toNat*d/\(∀g:World,(∀b,b<w.heap.size->g.heap[b]?=w.heap[b]?)->(Builtin.firstCells d (e-l).toNat u).run P g= .ok old g)/\
   ∀(i:Nat) r (j:Nat) m,i<(e-l).toNat->rows[l.toNat+i]?=some r->r[j]?=some m->r.length=d/\∃v,old[i*d+j]?=some v/\PRep h v m/\v.oneCell'=true:=by
 obtain⟨p,rfl,R,T,U,H,J⟩:=D.osv_inv;by_cases hz:e=l
 .refine⟨#[],by simp[hz],λg _=>?_,λi r j m x=>Vo⟩;rw[show(e-l).toNat=0 by omega]
  cases p with
  |none=>simp[Builtin.firstCells]
  |some Z=>simp[Builtin.firstCells,loadCells,loadCellsFrom]
 .obtain⟨O,o,Q⟩:=Zji F E H Vo;obtain⟨z,t,V,f,W,Y,K⟩:=o.hblk;rw[J Vo];have M:l.toNat*d+(e-l).toNat*d<=(ρ id).cap*d:=by rw[<-Ym];exact Yf d Vo
  have s:(ρ id).blk<w.heap.size:=by
   rcases WO (ρ id).blk w.heap.size with h'|h'
   .exact h'
   .rw[YB h']at f;cases f
  refine⟨((List.range ((e-l).toNat*d)).map λk=>(w.cell? ⟨(ρ id).blk,(ρ id).off+l.toNat*d+k,none⟩).getD undef).toArray,Vs,λg G=>?_,λi r j m x q y=>?_⟩
  .simp only[Builtin.firstCells,o.hsz]
   have:=run_loadCells (P:=P) g ⟨(ρ id).blk,(ρ id).off+l.toNat*d,none⟩ ((e-l).toNat*d) (λk=>(w.cell? ⟨(ρ id).blk,(ρ id).off+l.toNat*d+k,none⟩).getD undef) (λk N=>by
    rw[Zbn];have n:(ρ id).off+l.toNat*d+k<z.size:=Vo;have e1:w.cell? ⟨(ρ id).blk,(ρ id).off+l.toNat*d+k,none⟩=some z[(ρ id).off+l.toNat*d+k]:=by simp[World.cell?,f,n]
    rw[Zfs (G _ s) e1,e1];rfl)
   rw[this]
  .have A:=o.hrow _ r q;have C:j<d:=(by have:=(Y0.1 y).1;omega);obtain⟨v,e1,e2,L⟩:=K _ r j m q y;refine⟨A,v,?_,e2,L⟩;have n:=Zlu x C;rw[show(ρ id).off+(l.toNat+i)*d+j=(ρ id).off+l.toNat*d+(i*d+j) by rw[Ym];omega]at e1;simp only[Yy,Yv,List.getElem?_range n,W4];simp[World.cell?,f,e1]
def Zyx(F:FitsAt X h ρ st a w)(o:Oper){t1 t2:TypeId}{x y:Operand}{n:Int}{id:Nat}{l g c:Int}(ab:o.op= .call {callee:=.builtin .append,args:=⟨[x,y]⟩,argTypes:=⟨[t1,t2]⟩})
  (ac:P.underlying t2=some (.int .i64)) (ad:a.eval y= .int .i64 n) (r:Rep h ρ (a.eval x) (.osv id l g c)) (K:St->Prop) (hx:appZ P o t1 n id l g c st K):
  ∃v C,(execOp a.eval o).run P w= .ok (.value v) C/\Goes X K (a.put o.dst v) C/\w.heap.size<=C.heap.size/\Frm st ρ id w C:=by
 obtain⟨p,hv,h0,h1,h2,hc,hp⟩:=r.osv_inv;unfold appZ at hx
 split at hx
 next e d sz rows hu hd ho=>
  split at hx
  next z zr hz ae=>
   cases J:(Zb2 P e&&Nat.beq z sz&&dstOK o.dst)with
   |false=>simp only[J,cond_false]at hx
   |true=>
    simp only[J,cond_true]at hx;simp only[Bool.and_eq_true]at J;obtain⟨⟨af,ag⟩,a1⟩:=J;have:=Nat.eq_of_beq_eq_true ag;subst this;obtain⟨i,zv,hi,ah,N,a2,D,a5⟩:=Zcc af;have ak:z=i.size:=by rw[a5]at hz;cases hz;rfl
    subst ak;obtain⟨⟨⟨n0,n1⟩,n2,n3⟩,V,O⟩:=hx;simp only[lsum,isub,most]at n1 n2 n3 V O
    obtain⟨m,rfl⟩:∃m:Nat,n=m:=⟨n.toNat,Vo⟩
    obtain⟨old,Q,W,H⟩:=viewLoad (P:=P) F r ho;rw[hd]at a1;have al:=Zvf a1;obtain⟨u,ar,ai,R⟩:=Zov (P:=P) (ty:=o.type) (t2:=t2) (m:=m) (p:=p) (n:=(g-l).toNat) (cap:=(c-l).toNat) (old:=old) (w:=w) hu hi a2 D ah N ac Vo Vo (by rw[<-hv];exact W w.drew (λ_ _=>rfl));rw[<-hv,<-ad]at R;obtain⟨s,an,ao,a6,a7⟩:=Zc5 (h:=h) ae;have a8:s=zv:=by have:=a6 i hi;rw[a2]at this;cases this;rfl
    subst a8;have am:zr.length=i.size:=Vo;have Z:∀v C,(Builtin.append_ #[t1,t2] o.type #[a.eval x,a.eval y]).run P w= .ok v C->(execOp a.eval o).run P w= .ok (.value v) C:=λv C e=>by simp[execOp,ab,resolve,invoke,builtin,e]
    refine⟨_,_,Z _ _ R,?_,(Zai w _).size,λb J _=>(Zai w _).block b J (λe=>e)⟩;have G:g-l+(m:Int)<=(u:Int):=Vo
    have fin:∀f,f.length<=(g-l).toNat+m->(∀(k:Nat) r,f[k]?=some r->r.length=i.size)->(∀(k:Nat) r (j:Nat) E,f[k]?=some r->r[j]?=some E->∃v,(old++Builtin.zeroCells s.cells m++Builtin.zeroCells s.cells (u-((g-l).toNat+m)))[k*i.size+j]?=some v/\PRep h v E/\v.oneCell'=true)->
      K ((st.bind (128*d+64) (.own i.size f)).put o.dst (.osv (128*d+64) 0 (g-l+m) u))->
      Goes X K (a.put o.dst (.slice (some ⟨w.heap.size,0,none⟩) ((g-l).toNat+m) u)) (w.drew.alloc (.cells (old++Builtin.zeroCells s.cells m++Builtin.zeroCells s.cells (u-((g-l).toNat+m))) e)):=by
     intro f aq U M q
     have a9:OwnOK h (w.drew.alloc (.cells (old++Builtin.zeroCells s.cells m++Builtin.zeroCells s.cells (u-((g-l).toNat+m))) e)) ⟨w.heap.size,0,f.length,u,i.size,false⟩ i.size f:=
      Zp2 (fz:=(0,0)) (e:=e) N Vo ai U (by show(w.heap.push _)[_]?=_;simp) (by
       simp only[YS,Q,Builtin.zeroCells,Wa,Wf,D];rw[<-Ym,<-Ym]
       exact Yf _ Vo) (λo _=>Vs) (λo=>Zcv F.sub o _ (Nat.le_refl _)) (.inl rfl) M
     have F1:=F.newOwn (128*d+64) al (.own i.size f) ⟨w.heap.size,0,f.length,u,i.size,false⟩ (Zai w _) Vs (λ_=>Nat.le_refl _) (.inr ⟨by rw[Zab],by rw[Zab];exact a9⟩);have hR:=Rep.osv (h:=h) (ρ:=upd ρ (128*d+64) ⟨w.heap.size,0,f.length,u,i.size,false⟩) (128*d+64) 0 (g-l+m) u (some ⟨w.heap.size,0,none⟩) Vo Vo G (by rw[Zab];simp) (λ_=>by rw[Zab];simp);rw[show(g-l+(m:Int)-0).toNat=(g-l).toNat+m by omega,show((u:Int)-0).toNat=u by omega]at hR;exact Goes.put F1 o.dst hR q
    by_cases hle:g<=rlen rows
    .have V:=V hle u G Vo;simp only[rlen,Yc]at hle;have a3:(rsub rows l g).length=(g-l).toNat:=by simp[rsub];omega
     have t:∀(k:Nat) r,(rapp (rsub rows l g) (rrep m zr))[k]?=some r->(k<(g-l).toNat/\rows[l.toNat+k]?=some r)\/((g-l).toNat<=k/\k<(g-l).toNat+m/\r=zr):=by
      intro k r q;simp only[rapp,List.getElem?_append,a3]at q
      split at q
      .rename_i A;simp only[rsub,Yh,Ye]at q
       split at q
       .exact .inl ⟨A,q⟩
       .cases q
      next a0=>have h1:=(Y0.1 q).1;have hm:=Yn q;simp only[rrep]at hm h1;rw[Wh]at h1;refine .inr ⟨Vo,?_,WP hm⟩;have:(m:Int).toNat=m:=Vo;omega
     refine fin _ (by simp[rapp,a3,rrep]) (λk r q=>?_) (λk r j E q L=>?_) V
     .rcases t k r q with⟨A,Y⟩|⟨_,_,rfl⟩
      .rcases F.obj id _ ho with⟨_,rfl⟩|⟨_,ow⟩
       .simp at Y
       .exact ow.hrow _ r Y
      .exact am
     .rcases t k r q with⟨A,Y⟩|⟨a0,A,rfl⟩
      .obtain⟨aj,v,e1,e2,e3⟩:=H k r j E A Y L;refine⟨v,?_,e2,e3⟩;rw[Array.append_assoc,Array.getElem?_append_left (Y3.1 e1).1];exact e1
      .have au:=(Y0.1 L).1;have a4:j<s.cells.size:=Vo;have T:=Zga (z:=s.cells) (n:=m) (i:=k-(g-l).toNat) (j:=j) D Vo Vo;obtain⟨q1,q2⟩:=a7 j _ E (Y1 a4) L;refine⟨s.cells[j],?_,q1,q2⟩;have ap:(g-l).toNat*i.size<=k*i.size:=Yf _ a0;have aa:(k-(g-l).toNat)*i.size+j<m*i.size:=Zlu Vo Vo;rw[WW]at T aa;rw[Array.getElem?_append_left (by simp[Q,Builtin.zeroCells,D];omega),WE Vo,Q];rw[show k*i.size+j-(g-l).toNat*i.size=k*i.size-(g-l).toNat*i.size+j by omega];rw[<-Y1 a4,<-T];simp[Builtin.zeroCells,D]
    .have O:=O Vo u G Vo;simp only[rlen,Yc]at hle O
     have t:∀(k:Nat) r,(rsub rows l (rows.length:Int))[k]?=some r->k<(g-l).toNat/\rows[l.toNat+k]?=some r:=by
      intro k r q;simp only[rsub,Yh,Ye]at q
      split at q
      next A=>have:=(Y0.1 q).1;exact⟨Vo,q⟩
      .cases q
     refine fin _ (by simp[rsub];omega) (λk r q=>?_) (λk r j E q L=>?_) O
     .rcases F.obj id _ ho with⟨_,rfl⟩|⟨_,ow⟩
      .have:=(t k r q).2;simp at this
      .exact ow.hrow _ r (t k r q).2
     .obtain⟨aj,v,e1,e2,e3⟩:=H k r j E (t k r q).1 (t k r q).2 L;refine⟨v,?_,e2,e3⟩;rw[Array.append_assoc,Array.getElem?_append_left (Y3.1 e1).1];exact e1
  .exact hx.elim
 .exact hx.elim
def view_loud(F:FitsAt X h ρ st a w)(o:Oper)(K:St->Prop)(k:loud P o.op=true){C:(St->Prop)->Prop}(e:viewC P o st=some C)(hx:C K):
  ∃v i,(execOp a.eval o).run P w= .ok (.value v) i/\Goes X K (a.put o.dst v) i/\w.heap.size<=i.heap.size/\((∃id,(∀(r:FuncId->Sig) (s:TypeId->Sig),touch r s st o=some [id])/\Frm st ρ id w i)\/i=w):=by
 unfold viewC at e
 split at e
 next t x E G H d=>rw[d]at k;simp[loud]at k
 .rename_i b x t d;have j:=F.val x
  split at e
  .rw[d]at k;simp[loud]at k
  .rw[d]at k;simp[loud]at k
  .rw[d]at k;simp[loud]at k
  .rename_i id l z c g;rw[g]at j
   cases e
   obtain⟨v,i,e1,e2,p,q⟩:=Zqt F o d j K hx;exact⟨v,i,e1,e2,p,.inl ⟨id,λr s=>by simp[touch,d,g],q⟩⟩
  .cases e
 .rename_i b x y J L d;have j:=F.val x
  split at e
  .rename_i id l z c g;rw[g]at j
   split at e
   next n A u=>
    cases e
    have m:=F.val y;rw[u]at m;obtain⟨v,i,e1,e2,p,q⟩:=Zyx F o d A m.val_inv j K hx;exact⟨v,i,e1,e2,p,.inl ⟨id,λr s=>by simp[touch,d,g],q⟩⟩
   .cases e
    obtain⟨v,i,e1,e2,p,q⟩:=Zyv F o d j K hx;exact⟨v,i,e1,e2,p,.inl ⟨id,λr s=>by simp[touch,d,g],q⟩⟩
  .rename_i id l z c g;rw[g]at j
   cases e
   obtain⟨v,i,e1,e2,p,q⟩:=Zsx F o d j K hx;exact⟨v,i,e1,e2,p,.inl ⟨id,λr s=>by simp[touch,d,g],q⟩⟩
  .cases e
 .rename_i f x y D d;have m:=F.val y
  split at e
  .rename_i id l z c u;rw[u]at m
   cases e
   obtain⟨v,e1,e2⟩:=Zyw F o d m K hx;exact⟨v,w,e1,e2,Nat.le_refl _,.inr rfl⟩
  .cases e
 .cases e
end

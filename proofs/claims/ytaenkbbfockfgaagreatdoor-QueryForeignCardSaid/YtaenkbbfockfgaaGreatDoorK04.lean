import Derived.Test.YtaenkbbfockfgaaGreatDoorK03
set_option linter.all false
set_option maxRecDepth 100000
variable{m n p:Nat}{l:Go.Px.LL}{x:List Int}{o:Bool}{v:Go.Value}{u:Go.Px.SV}{T:Go.TypeId}{C:List Go.Px.SV}
namespace Go.Px
open Go.RowKit
section
variable{X:Cx}{h:Hp}{ρ:Nat->Loc}{st:St}{a:Act}{w:World}{P:Program}
def frz_sub{st:St}{o:Ob}(e:oget (st.frz n).objs m=some o):∃b,oget st.objs m=some b:=by
 grind [St.frz,Zaf,Zae]
def Zgi:∀(b:List Nat) {st:St} {i:Nat} {o:Ob},oget (St.frzAll b st).objs i=some o->∃c,oget st.objs i=some c
 | [],st,i,o,e=>⟨o,e⟩
 |id::b,st,i,o,e=>by obtain⟨c,d⟩:=Zgi b e;exact frz_sub d
def Zc1(d:FuncId->Sig)(e:TypeId->Sig)(st:St)(ρ:Nat->Loc)(o:Oper)(b:Nat):Prop:=
 ∀c,touch d e st o=some c->∃id∈c,live st.objs ρ id/\(ρ id).blk=b
def Za4{d:FuncId->Sig}{e:TypeId->Sig}{o:Oper}{b:Nat}(h:¬Zc1 d e st ρ o b):∃c,touch d e st o=some c/\∀id∈c,live st.objs ρ id->(ρ id).blk≠b:=by
 grind [Zc1,touch]
def After(X:Cx)(K:St->Prop)(o:Oper)(a:Act)(w:World)(T:Nat->Prop)(d:Act)(c:World):Prop:=
 Goes X K d c/\(∃u,d=a.put o.dst u)/\w.heap.size<=c.heap.size/\∀b,b<w.heap.size->¬T b->c.heap[b]?=w.heap[b]?
theorem idOK_lt(h:n<1048576):idOK n=true:=by
 simp_all[idOK]
def Zic{d k:Nat}(h:dstOK (some d)=true)(b:k<128):idOK (128*d+k)=true:=by
 simp only[dstOK]at h;have:=Nat.le_of_ble_eq_true h
 grind [idOK_lt]
def Zrc{kd:IntKind}{n:Int}{rows:LL}{K:List SV->Prop}:∀(m:Nat) (acc:List SV),copyN kd n rows K m acc->(acc.length:Int)<=n->n<=(acc.length:Int)+m->
  (∀(j:Nat) c,acc[j]?=some c->(∃x,c= .val (.int kd x))/\rget rows (Int.ofNat j)=[c])->
  ∃b,K b/\(b.length:Int)=n/\∀(j:Nat) c,b[j]?=some c->(∃x,c= .val (.int kd x))/\rget rows (Int.ofNat j)=[c]
 |0,acc,hc,h1,h2,hg=>⟨acc,hc,Vo,hg⟩
 |m+1,acc,hc,h1,h2,hg=>by
  simp only[copyN,Zax]at hc;by_cases he:n=Int.ofNat acc.length
  .grind
  .obtain⟨x,hx,d⟩:=hc.2 (by simp only[Yc]at he|-;omega);refine Zrc m _ d (by simp only[Yc]at he;simp;omega) Vm (λj c e=>?_)
   grind
def copy_box(F:FitsAt X h ρ st a w){E t2 e ty:TypeId}{id off m:Nat}{D K acc:List SV}(g:P.underlying E=some (.slice e))(hz:szT P e=some 1)(ho:oget st.objs id=some (.box D))
  (a0:Zjq st.objs u=some (n,l)) (a1:Rep h ρ v u) {kd:IntKind} (t:∀(j:Nat) c,acc[j]?=some c->(∃x,c= .val (.int kd x))/\rget l (Int.ofNat j)=[c]) (M:acc.length=min l.length m) (a2:Zbb off acc D=some K):
  ∃o,(Builtin.copy_ #[E,t2] ty #[.slice (some ⟨(ρ id).blk,off,none⟩) m m,v]).run P w= .ok (goInt acc.length) o/\FitsAt X h ρ {st with objs:=oput st.objs id (.box K)} a o/\
   w.heap.size<=o.heap.size/\∀b,b≠(ρ id).blk->o.heap[b]?=w.heap[b]?:=by
 obtain⟨N,⟨f,H,z,a6,C⟩,hno⟩:=F.obj id _ ho;obtain⟨p,O,rfl,hp⟩:=Zd2 F a1 a0;obtain⟨a7,rfl⟩:=Zce _ _ _ _ a2;obtain⟨i,J,hi1⟩:=Zoj hz
 let d:List Value:=acc.map λc=>match c with| .val Z=>Z|_=>undef
 have s:d.length=acc.length:=by simp[d]
 have A:∀(j:Nat) Z,d[j]?=some Z->∃x,Z= .int kd x/\acc[j]?=some (.val (.int kd x)):=λj Z r=>by
  simp only[d,Yv]at r
  cases L:acc[j]? with
  |none=>simp[L]at r
  |some c=>obtain⟨⟨x,rfl⟩,_⟩:=t j c L;simp[L]at r;exact⟨x,r.symm,rfl⟩
 have V:∀Z∈d,Z.oneCell'=true:=λZ r=>by obtain⟨j,hj,e⟩:=List.mem_iff_getElem.1 r;obtain⟨x,rfl,_⟩:=A j Z (by rw[List.getElem?_eq_getElem hj,e]);rfl
 have fin:∀o,o=w.setRow (ρ id).blk (f.toList.take off++d++f.toList.drop (off+d.length)).toArray->FitsAt X h ρ {st with objs:=oput st.objs id (.box (D.take off++acc++D.drop (off+acc.length)))} a o/\w.heap.size<=o.heap.size/\∀b,b≠(ρ id).blk->o.heap[b]?=w.heap[b]?:=by
  intro o T;subst T;refine⟨F.setOb id (.box D) _ _ ho N ⟨N,⟨_,H,setRow_heap w _ f _ H _ z,by simp[s];omega,λk y c g L=>?_⟩,hno⟩ (λb R=>setRow_other _ _ _ _ R) (Zbv _ _ _),Vs,λb R=>setRow_other _ _ _ _ R⟩;simp only[Yy]at g;rw[List.append_assoc,List.getElem?_append]at g L;have l1:(List.take off f.toList).length=off:=Vm
  have l2:(List.take off D).length=off:=Vm;rw[l1]at g;rw[l2]at L;by_cases c1:k<off
  .rw[if_pos c1,Ye,if_pos c1]at g L;exact C k y c (by simpa using g) L
  .rw[if_neg c1,List.getElem?_append]at g L;rw[s]at g;by_cases c2:k-off<acc.length
   .rw[if_pos c2]at g L;obtain⟨x,rfl,e⟩:=A _ y g;rw[e]at L;cases L;exact⟨.pure _ _ (.val _),rfl⟩
   .rw[if_neg c2,Yh]at g L;exact C _ y c (by simpa using g) L
 by_cases h0:0<l.length
 .obtain⟨b,o2,rfl,a5,U,L⟩:=hp h0
  have a3:n=1\/acc=[]:=by
   cases q:acc with
   |nil=>exact .inr rfl
   |cons c a8=>
    left
    obtain⟨_,G⟩:=t 0 c (by rw[q];rfl);have W:l[0]?=some [c]:=(by rw[List.getElem?_eq_getElem h0];have:rget l (Int.ofNat 0)=l[0]:=(by simp[rget,h0]);rw[<-this,G]);have:=U 0 _ W
    simpa using this.symm
  refine⟨_,run_copy_row P w E t2 ty e (ρ id).blk off m m ⟨b,o2,none⟩ l.length O f H d g (by simp[J,hi1]) z (by rw[s];exact M) (λj Z r=>?_) (by rw[s];omega) V|>.trans (by rw[s]),fin _ rfl⟩;obtain⟨x,rfl,e⟩:=A j Z r;have Q:j<l.length:=by have:=(Y0.1 e).1;omega
  obtain⟨_,G⟩:=t j _ e;have W:l[j]?=some [.val (.int kd x)]:=(by rw[List.getElem?_eq_getElem Q];have:rget l (Int.ofNat j)=l[j]:=(by simp[rget,Q]);rw[<-this,G]);obtain⟨v',q1,q2,_⟩:=L j _ 0 _ W rfl
  cases q2
  rw[Zbn]
  rcases a3 with rfl|hnil
  .simpa using q1
  .rw[hnil]at e;simp at e
 .have a4:l=[]:=by cases l with
   |nil=>rfl
   |cons=>simp at h0
  subst a4;have q:acc=[]:=Y6 (by rw[M];simp);subst q;have T:w=w.setRow (ρ id).blk (f.toList.take off++d++f.toList.drop (off+d.length)).toArray:=(by have:(f.toList.take off++d++f.toList.drop (off+d.length)).toArray=f:=(by simp[d]);rw[this,setRow_self w _ f H _ z]);refine⟨w,?_,fin w T⟩
  cases p with
  |none=>
   have hs:((P.info? e).map (·.size)).isSome=true:=(by simp[J]);have:=run_copy_nil P w E t2 ty e ⟨(ρ id).blk,off,none⟩ m m g hs;have Y:∀c,(Builtin.copy_ #[E,t2] ty #[.slice (some ⟨(ρ id).blk,off,none⟩) m m,.slice none 0 c]).run P w= .ok (goInt 0) w:=by intro c;simp[Builtin.copy_,run_underlying g,Builtin.lenOf,Builtin.firstCells,sizeOf,typeInfo,J,storeCells]
   simpa using Y O
  |some ad=>simp[Builtin.copy_,run_underlying g,Builtin.lenOf,Builtin.firstCells,sizeOf,typeInfo,J,storeCells,loadCells,loadCellsFrom]
def Zpk{parts:List (Nat×SV)}{len:Nat}{rows:LL}(c:Zdw C parts len 0=some rows)(d:∀p∈parts,p.1<len)(i:(parts.map (·.1)).Nodup):∀p∈parts,∃s,Zc2 p.2=some s/\(cellsOf s).length=C.length:=by
 intro p b;obtain⟨j,e⟩:=Zea C parts len 0 rows c;have g:p.1<rows.length:=Vg;obtain⟨k,f⟩:=e p.1 _ (List.getElem?_eq_getElem g);rw[Yj]at f
 have l:parts.find? (λq=>Nat.beq q.1 p.1)=some p:=by
  clear e j c d k f g
  induction parts with
  |nil=>simp at b
  |cons q m n=>
   simp only[List.map_cons,Yo]at i;rw[YP]
   rcases List.mem_cons.1 b with rfl|b
   .simp
   grind [Zaj]
 grind
def Zjo{h:Hp}{ρ:Nat->Loc}{st:St}{a:Act}(d:∀x,Rep h ρ (a.eval x) (st.val x)):∀(b:List Operand) (c:List Value),Znn (b.map st.val)=some c->c=b.map a.eval
 | [],c,e=>by simp[Znn]at e;simp[e]
 |x::b,c,e=>by
  have hx:=d x;simp only[List.map_cons]at e|-;generalize st.val x=s at e hx
  cases s with
  |val v=>
   simp only[Znn]at e
   split at e
   next f g=>
    cases e
    rw[<-Zjo d b f g,hx.val_inv]
   .cases e
  |_=>simp[Znn]at e
def Znj{kd:IntKind}:∀(m:Nat) (b:List SV),zeroL kd m b=true->b=(azero m).map λx=>SV.val (.int kd x)
 |0,[],_=>rfl
 |0,_::_,h=>by simp[zeroL]at h
 |m+1,[],h=>by simp[zeroL]at h
 |m+1,z::b,h=>by
  unfold zeroL at h
  split at h
  .simp_all
  next f d e e1 e2=>
   cases e1
   cases e2
   simp only[Bool.and_eq_true,decide_eq_true_eq]at h;obtain⟨rfl,c⟩:=h;have:=Znj m _ c
   grind [azero]
  .cases h
def newArr(F:FitsAt X h ρ st a w)(id:Nat)(hid:idOK id=true)(c:Array Value)(t:TypeId)(d:IntKind)(m:Nat)(b:List Int)(e:b.length=m)(f:c.toList=b.map (Value.int d)):
  FitsAt X h (upd ρ id ⟨w.heap.size,0,0,0,0,false⟩) (st.bind id (.arr d m b)) a (w.alloc (.cells c t)):=
 F.newOwn id hid (.arr d m b) _ (Zbl w _) Vs (λ_=>Nat.le_refl _)
  ⟨by rw[Zab],⟨c,t,by rw[Zab];show(w.heap.push _)[_]?=_;simp,e,f⟩,λo=>by rw[Zab];exact Zcv F.sub o _ (Nat.le_refl _)⟩
def arr_store(F:FitsAt X h ρ st a w){t:TypeId}{c:IntKind}{i v:Int}(l:oget st.objs n=some (.arr c m x))(o:szT P t=some 1)(y:0<=i)(z:i<Int.ofNat m):
  ∃g,(Instr.storeAt t (.pointer (some ⟨(ρ n).blk,i.toNat,none⟩)) (.int c v)).run P w= .ok () g/\FitsAt X h ρ {st with objs:=oput st.objs n (.arr c m (aset x i v))} a g/\
   w.heap.size<=g.heap.size/\∀b,b≠(ρ n).blk->g.heap[b]?=w.heap[b]?:=by
 obtain⟨j,⟨d,ty,f,p,q⟩,hno⟩:=F.obj n _ l;have s:i.toNat<x.length:=Vg;have e:d.size=x.length:=by have:=congrArg List.length q;simpa using this
 have r:=run_storeCells_at P (ρ n).blk i.toNat ty [.int c v] 0 d w f Vm (λu id=>by simp at id;subst id;rfl)
 refine⟨_,?_,F.setOb n (.arr c m x) (.arr c m (aset x i v)) (w.setRow (ρ n).blk (d.toList.take (i.toNat+0)++[Value.int c v]++d.toList.drop (i.toNat+0+[Value.int c v].length)).toArray) l j ⟨j,⟨_,ty,setRow_heap w _ d _ ty _ f,by simp[aset];exact p,?_⟩,hno⟩
  (λb k=>setRow_other _ _ _ _ k) (Zbv _ _ _),Vs,λb k=>setRow_other _ _ _ _ k⟩
 .simp only[Instr.storeAt,Instr.sureAddr,storeVar,Sem.run_bind,Sem.run_pure,Result.andThen_ok,run_sizeOf' w o]
  grind [Value.cells]
 .simp_all[List.length_cons,Y9,Nat.add_zero,aset,List.set_eq_take_append_cons_drop,List.map_take,List.map_drop]
def arr_put(F:FitsAt X h ρ st a w){t:TypeId}{f:IntKind}{l d:List Int}{e:Array Value}(id:oget st.objs p=some (.arr f m l))(r:szT P t=some n)(D:n=m)(s:d.length=m)(j:e.toList=d.map (Value.int f)):
  ∃i,(Instr.storeAt t (.pointer (some ⟨(ρ p).blk,0,none⟩)) (.agg e)).run P w= .ok () i/\FitsAt X h ρ {st with objs:=oput st.objs p (.arr f m d)} a i/\
   w.heap.size<=i.heap.size/\∀b,b≠(ρ p).blk->i.heap[b]?=w.heap[b]?:=by
 obtain⟨k,⟨c,ty,g,A,v⟩,hno⟩:=F.obj p _ id;have C:c.size=l.length:=by have:=congrArg List.length v;simpa using this
 have y:e.size=m:=by have:=congrArg List.length j;simp at this;omega
 have z:=run_storeCells_at P (ρ p).blk 0 ty e.toList 0 c w g Vm (λu q=>by
  rw[j]at q;obtain⟨x,_,rfl⟩:=Ya.1 q
  rfl)
 refine⟨_,?_,F.setOb p (.arr f m l) (.arr f m d) (w.setRow (ρ p).blk (c.toList.take (0+0)++e.toList++c.toList.drop (0+0+e.toList.length)).toArray) id k ⟨k,⟨_,ty,setRow_heap w _ c _ ty _ g,s,?_⟩,hno⟩
  (λb o=>setRow_other _ _ _ _ o) (Zbv _ _ _),Vs,λb o=>setRow_other _ _ _ _ o⟩
 .simp only[Instr.storeAt,Instr.sureAddr,storeVar,Sem.run_bind,Sem.run_pure,Result.andThen_ok,run_sizeOf' w r]
  grind [Value.cells]
 .simp_all
def Zgt(b:List (Nat×Ob)):∀(c:List SV) (i:Nat),Zb4 b [] i c=[]
 | [],_=>rfl
 |s::c,i=>by rw[Zb4,Zgt b c (i+1)];rfl
def Zza{name:String}{f:FuncId}(h:Zkt P T name=some f)(v:Value)(n:Nat)(w:World):(method (n+Made.depth) T v name).run P w= .ok (f,v) w:=by
 unfold Zkt at h
 split at h
 .cases h
 next d i g j l=>
  split at h
  next m o=>
   cases b:m.path.isEmpty with
   |false=>simp only[b,cond_false]at h;cases h
   |true=>
    simp only[b,cond_true]at h;have b:m.path= #[]:=Array.isEmpty_iff.1 b
    split at h
    next r p=>
     cases h
     have hd:∃k,n+Made.depth=k+1:=(by have:0<Made.depth:=Vd;exact⟨n+Made.depth-1,Vo⟩);obtain⟨k,q⟩:=hd;rw[q]
     have c:∀e,(receiverAt T (.val v) false e).run P w= .ok v w:=λe=>by
      unfold receiverAt;simp only[Sem.run_bind,run_underlying j,Result.andThen_ok]
      cases d<;>first|rfl|exact absurd rfl (g _)
     simp[method,run_typeInfo' w l,o,b,follow,p,c]
    .cases h
  .cases h
 .cases h
def Znk(F:FitsAt X h ρ st a w)(Sg:FuncId->Sig)(Sv:TypeId->Sig)(o:Oper)(K:St->Prop)(hx:loudC P Sg Sv o st K)(Q:Exit->Act->World->Prop):o.wp P a w (After X K o a w (Zc1 Sg Sv st ρ o)) Q:=by
 have H:=F.val;unfold loudC at hx
 cases hdst:dstOK o.dst with
 |false=>simp[hdst]at hx
 |true=>
 simp only[hdst,cond_true]at hx
 split at hx
 next t A=>
  split at hx
  .rename_i kd m c9;unfold Zw7 at hx
   split at hx
   .rename_i zs d V hd;rw[hd]at hdst
    cases hzl:zeroL kd m zs with
    |false=>simp only[hzl,cond_false]at hx
    |true=>
     simp only[hzl,cond_true]at hx;obtain⟨v,hv,r,j⟩:=Zcd (h:=h) (ρ:=ρ) V;have ap:=Znj m zs hzl;obtain⟨vs,rfl,hs,bq⟩:=r.agg_inv';have aa:=Zq2 (h:=h) (ρ:=ρ) (kd:=kd) (ns:=azero m) (vs:=vs) (by rw[hs,ap];simp) (λi v c L h2=>bq i v c L (by rw[ap];exact h2))
     have M:=(newArr F (128*d) (by simpa using Zic hdst (k:=0) Vo) vs t kd m (azero m) (by simp[azero]) aa).put o.dst (TRep.of_rep' (v:=.pointer (some ⟨w.heap.size,0,none⟩)) (s:=.ptr (128*d) 0) (by
      have:=Rep.ptr (h:=h) (ρ:=upd ρ (128*d) ⟨w.heap.size,0,0,0,0,false⟩) (128*d) 0
      rwa[Zab]at this))
     have g:(execOp a.eval o).run P w= .ok (.value (.pointer (some ⟨w.heap.size,0,none⟩))) (w.alloc (.cells vs t)):=(by simp[execOp,A,Instr.alloc,hv,newVar,newRow,Value.cells]);unfold Oper.wp;rw[g];exact⟨⟨_,⟨h,_,M⟩,hx⟩,⟨_,rfl⟩,by show _<=(w.heap.push _).size;simp,λb j _=>Below.heap_alloc w _ b j⟩
   .exact hx.elim
  split at hx
  .rename_i z d V hd;rw[hd]at hdst;obtain⟨v,hv,r,j⟩:=Zcd (h:=h) (ρ:=ρ) V;obtain⟨hl,hc⟩:=Zem r j
   have M:=(F.newBox (128*d) (by simpa using Zic hdst (k:=0) Vo) v.cells t (cellsOf z) hl hc).put o.dst (TRep.of_rep' (v:=.pointer (some ⟨w.heap.size,0,none⟩)) (s:=.ptr (128*d) 0) (by
    have:=Rep.ptr (h:=h) (ρ:=upd ρ (128*d) ⟨w.heap.size,0,0,0,0,false⟩) (128*d) 0
    rwa[Zab]at this))
   have g:(execOp a.eval o).run P w= .ok (.value (.pointer (some ⟨w.heap.size,0,none⟩))) (w.alloc (.cells v.cells t)):=(by simp[execOp,A,Instr.alloc,hv,newVar,newRow]);unfold Oper.wp;rw[g];exact⟨⟨_,⟨h,_,M⟩,hx⟩,⟨_,rfl⟩,by show _<=(w.heap.push _).size;simp,λb j _=>Below.heap_alloc w _ b j⟩
  .exact hx.elim
 next t x A=>
  split at hx
  next kd m ns an=>
   have E:st.val x= .arr kd m ns:=by
    unfold arrOf at an
    split at an
    next hh=>cases an;exact hh
    .cases an
   unfold arrBox at hx
   split at hx
   .rename_i d hd;rw[hd]at hdst;have T:=H x;rw[E]at T;obtain⟨vs,br,hm,aa⟩:=T.arr_inv
    have M:=(newArr F (128*d) (by simpa using Zic hdst (k:=0) Vo) vs t kd m ns hm aa).put o.dst (TRep.of_rep' (v:=.pointer (some ⟨w.heap.size,0,none⟩)) (s:=.ptr (128*d) 0) (by
     have:=Rep.ptr (h:=h) (ρ:=upd ρ (128*d) ⟨w.heap.size,0,0,0,0,false⟩) (128*d) 0
     rwa[Zab]at this))
    have g:(execOp a.eval o).run P w= .ok (.value (.pointer (some ⟨w.heap.size,0,none⟩))) (w.alloc (.cells vs t)):=(by simp[execOp,A,br,Instr.box,newVar,newRow,Value.cells]);unfold Oper.wp;rw[g];exact⟨⟨_,⟨h,_,M⟩,hx⟩,⟨_,rfl⟩,by show _<=(w.heap.push _).size;simp,λb j _=>Below.heap_alloc w _ b j⟩
   .exact hx.elim
  split at hx
  .rename_i d hd;rw[hd]at hdst
   cases j:boxL (cellsOf (st.val x))with
   |false=>simp[j]at hx
   |true=>
    simp only[j,cond_true]at hx;obtain⟨hl,hc⟩:=Zem (H x) j
    have M:=(F.newBox (128*d) (by simpa using Zic hdst (k:=0) Vo) (a.eval x).cells t (cellsOf (st.val x)) hl hc).put o.dst (TRep.of_rep' (v:=.pointer (some ⟨w.heap.size,0,none⟩)) (s:=.ptr (128*d) 0) (by
     have:=Rep.ptr (h:=h) (ρ:=upd ρ (128*d) ⟨w.heap.size,0,0,0,0,false⟩) (128*d) 0
     rwa[Zab]at this))
    have g:(execOp a.eval o).run P w= .ok (.value (.pointer (some ⟨w.heap.size,0,none⟩))) (w.alloc (.cells (a.eval x).cells t)):=(by simp[execOp,A,Instr.box,newVar,newRow]);unfold Oper.wp;rw[g];exact⟨⟨_,⟨h,_,M⟩,hx⟩,⟨_,rfl⟩,by show _<=(w.heap.push _).size;simp,λb j _=>Below.heap_alloc w _ b j⟩
  .exact hx.elim
 next t x y A=>
  split at hx
  rotate_left
  .rename_i id i E V;unfold Zw8 at hx
   split at hx
   .rename_i kd m ns ar v O a5;by_cases Z:kd=ar
    .subst Z;simp only[decide_true,cond_true]at hx;obtain⟨⟨h0,L⟩,hx⟩:=hx;have T:=H x;rw[E]at T;have a1:=T.aptr_inv;have a7:=H y;rw[a5]at a7;obtain⟨R,g,M,J,G⟩:=arr_store (P:=P) (t:=t) (v:=v) F O V h0 L;have C:(execOp a.eval o).run P w= .ok .skip R:=(by simp[execOp,A,a1,a7.val_inv,g]);unfold Oper.wp;rw[C];refine⟨⟨_,⟨h,ρ,M.put o.dst (TRep.rep_unk _ _)⟩,hx⟩,⟨_,rfl⟩,J,λb _ N=>G b (λe=>?_)⟩;obtain⟨U,e1,e2⟩:=Za4 N;simp only[touch,A,E]at e1
     cases e1
     exact e2 id Vs ⟨⟨_,O⟩,(F.obj id _ O).1⟩ e.symm
    .simp[Z]at hx
   next cs kd v O a5=>
    split at hx
    .rename_i ns bj;obtain⟨⟨h0,L⟩,hx⟩:=hx;have a8:=Zlm bj;subst a8;have T:=H x;rw[E]at T;have a1:=T.aptr_inv;have a7:=H y;have L:i<ns.length:=by rw[Zax]at L;simpa using L
     obtain⟨R,g,M,J,G⟩:=Zlt F O V a7 (by rw[a5];rfl) (by rw[a5];rfl) (by rw[a5];exact Zs5 kd i v ns h0 L);have C:(execOp a.eval o).run P w= .ok .skip R:=(by simp[execOp,A,a1,g]);unfold Oper.wp;rw[C];refine⟨⟨_,⟨h,ρ,M.put o.dst (TRep.rep_unk _ _)⟩,hx⟩,⟨_,rfl⟩,J,λb _ N=>G b (λe=>?_)⟩;obtain⟨U,e1,e2⟩:=Za4 N;simp only[touch,A,E]at e1
     cases e1
     exact e2 id Vs ⟨⟨_,O⟩,(F.obj id _ O).1⟩ e.symm
    .exact hx.elim
   .exact hx.elim
  rotate_right
  next id off n E V=>
   split at hx
   next cs O=>
    cases j:(boxL (cellsOf (st.val y))&&Nat.beq (lenN (cellsOf (st.val y))) n)with
    |false=>simp[j]at hx
    |true=>
     simp only[j,cond_true]at hx;simp only[Bool.and_eq_true]at j
     split at hx
     .rename_i a4 a6;have T:=H x;rw[E]at T;have a1:=T.ptr_inv;obtain⟨R,g,M,J,G⟩:=Zlt F O V (H y) j.1 (Nat.eq_of_beq_eq_true j.2) a6;have C:(execOp a.eval o).run P w= .ok .skip R:=(by simp[execOp,A,a1,g]);unfold Oper.wp;rw[C];refine⟨⟨_,⟨h,ρ,M.put o.dst (TRep.rep_unk _ _)⟩,hx⟩,⟨_,rfl⟩,J,λb _ N=>G b (λe=>?_)⟩;obtain⟨U,e1,e2⟩:=Za4 N;simp only[touch,A,E]at e1
      cases e1
      exact e2 id Vs ⟨⟨_,O⟩,(F.obj id _ O).1⟩ e.symm
     .exact hx.elim
   .rename_i kd m ns O;unfold arrPut at hx
    split at hx
    next ar m' ca a5=>
     cases j:(decide (kd=ar)&&Nat.beq m m'&&Nat.beq off 0&&Nat.beq n m)with
     |false=>simp only[j,cond_false]at hx
     |true=>
      simp only[j,cond_true]at hx;simp only[Bool.and_eq_true,decide_eq_true_eq]at j;obtain⟨⟨⟨rfl,b1⟩,b2⟩,b3⟩:=j;have L:m=m':=Nat.eq_of_beq_eq_true b1;have h2:off=0:=Nat.eq_of_beq_eq_true b2;have h3:n=m:=Nat.eq_of_beq_eq_true b3;subst L h2;have T:=H x;rw[E]at T;have a1:=T.ptr_inv;have a7:=H y;rw[a5]at a7;obtain⟨vs,bs,hm,aa⟩:=a7.arr_inv;obtain⟨R,g,M,J,G⟩:=arr_put (P:=P) (t:=t) F O V h3 hm aa;have C:(execOp a.eval o).run P w= .ok .skip R:=(by simp[execOp,A,a1,bs,g]);unfold Oper.wp;rw[C];refine⟨⟨_,⟨h,ρ,M.put o.dst (TRep.rep_unk _ _)⟩,hx⟩,⟨_,rfl⟩,J,λb _ N=>G b (λe=>?_)⟩;obtain⟨U,e1,e2⟩:=Za4 N;simp only[touch,A,E]at e1
      cases e1
      exact e2 id Vs ⟨⟨_,O⟩,(F.obj id _ O).1⟩ e.symm
    .exact hx.elim
   .exact hx.elim
  next id e i off n E V=>
   split at hx
   next sz rows z s O cb hs=>
    cases j:(Nat.beq z sz&&Nat.beq (lenN (cellsOf s)) n)with
    |false=>simp[j]at hx
    |true=>
     simp only[j,cond_true]at hx;simp only[Bool.and_eq_true]at j;have ap:z=sz:=Nat.eq_of_beq_eq_true j.1;subst ap;have av:(cellsOf s).length=n:=by rw[<-Zax];exact Nat.eq_of_beq_eq_true j.2
     obtain⟨⟨h0,L⟩,hx⟩:=hx;obtain⟨h',a0,F'⟩:=F.pureOps [y];have T:=H x;rw[E]at T;obtain⟨aw,a1⟩:=T.eptr_inv
     have fin:∀cs a4,rows[i.toNat]?=some cs->Zbb off (cellsOf s) cs=some a4->K (({pureOps [y] st with objs:=oput (pureOps [y] st).objs id (.own z (rset rows i a4))}:St).put o.dst .unk)->
       o.wp P a w (After X K o a w (Zc1 Sg Sv st ρ o)) Q:=by
      intro cs a4 ag a6 Z;obtain⟨R,g,M,J,G⟩:=own_store F' O V (F'.val y) hs av h0 L ag a6 aw;have C:(execOp a.eval o).run P w= .ok .skip R:=(by simp[execOp,A,a1,g]);unfold Oper.wp;rw[C];refine⟨⟨_,⟨h',ρ,M.put o.dst (TRep.rep_unk _ _)⟩,Z⟩,⟨_,rfl⟩,J,λb _ N=>G b (λe=>?_)⟩;obtain⟨U,e1,e2⟩:=Za4 N;simp only[touch,A,E]at e1
      cases e1
      exact e2 id Vs ⟨Zgi _ O,aw⟩ e.symm
     cases hfull:(Nat.beq n z&&Nat.beq off 0)with
     |true=>
      simp only[hfull,cond_true]at hx;simp only[Bool.and_eq_true]at hfull;have cd:=Nat.eq_of_beq_eq_true hfull.1;have bf:=Nat.eq_of_beq_eq_true hfull.2;subst bf;have hit:i.toNat<rows.length:=by simp only[rlen]at L;simp at L;omega
      have ab:(rows[i.toNat]).length=z:=by
       rcases F'.obj id _ O with⟨b8,_⟩|⟨_,ok⟩
       .rw[aw]at b8;cases b8
       .exact ok.hrow _ _ (List.getElem?_eq_getElem hit)
      have bg:∀(vs l:List SV),vs.length=l.length->Zbb 0 vs l=some vs:=by
       intro vs
       induction vs with
       |nil=>intro l e;cases l with
        |nil=>rfl
        |cons=>simp at e
       |cons v vs ih=>intro l e;cases l with
        |nil=>simp at e
        |cons y l=>simp[Zbb,ih l (by simpa using e)]
      exact fin _ _ (List.getElem?_eq_getElem hit) (bg _ _ Vo) hx
     |false=>
      simp only[hfull,cond_false]at hx;obtain⟨cs,_,a8,Z⟩:=Zeu _ _ _ hx;obtain⟨_,ag⟩:=Zll h0 L a8
      split at Z
      next a4 a6=>exact fin cs a4 ag a6 Z
      .exact Z.elim
   .exact hx.elim
  .exact hx.elim
 next t len parts A=>
  split at hx
  .rename_i e d hu hd;rw[hd]at hdst
   split at hx
   next z V=>
    cases j:(Zb2 P e&&Nat.ble (len*lenN z) 16777216&&Nat.beq (lenN z) ((szT P e).getD 0)&&parts.toList.all (λp=>Nat.blt p.1 len)&&Zbq (parts.toList.map (·.1)))with
    |false=>simp only[j,cond_false]at hx
    |true=>
     simp only[j,cond_true]at hx;simp only[Bool.and_eq_true,List.all_eq_true,Zax]at j;obtain⟨⟨⟨⟨bt,bu⟩,bv⟩,bw⟩,bx⟩:=j
     split at hx
     .rename_i rows ao;obtain⟨h',a0,F'⟩:=F.pureOps (parts.toList.map (·.2));have b9:((parts.toList.map λp=>(p.1,(pureOps (parts.toList.map (·.2)) st).val p.2)).map (·.1)).Nodup:=by rw[List.map_map];exact Zay bx
      have ba:∀p∈(parts.toList.map λp=>(p.1,(pureOps (parts.toList.map (·.2)) st).val p.2)),p.1<len:=λp hp=>by obtain⟨q,hq,rfl⟩:=Ya.1 hp;exact Nat.le_of_ble_eq_true (bw q hq)
      obtain⟨cs,g,ab,ai⟩:=Zmj (P:=P) (ρ:=ρ) F'.sub (vparts:=parts.map λ(i,x)=>(i,a.eval x)) hu V bt (Nat.le_of_ble_eq_true bu) (Nat.eq_of_beq_eq_true bv) ba b9 ao Vs (λi p q hp hq=>by
       simp at hp hq;obtain⟨m,n,e1,rfl⟩:=hp;obtain⟨m',n',e2,rfl⟩:=hq;rw[e1]at e2
       cases e2
       exact⟨rfl,F'.val n⟩) (Zpk ao ba b9)
      have a3:=Zic hdst (k:=64) Vo;have M:=F'.newOwn (128*d+64) a3 (.own z.length rows) ⟨w.heap.size,0,rows.length,len,z.length,false⟩ (Zbl w _) Vs (λ_=>Nat.le_refl _) (.inr ⟨by rw[Zab],by rw[Zab];exact ai⟩);have hr:=Rep.osl (h:=h') (ρ:=upd ρ (128*d+64) ⟨w.heap.size,0,rows.length,len,z.length,false⟩) (128*d+64) (by rw[Zab]);rw[Zab,ab]at hr;have C:(execOp a.eval o).run P w= .ok (.value (.slice (some ⟨w.heap.size,0,none⟩) len len)) (w.alloc (.cells cs e)):=(by simp only[execOp,A,Sem.run_bind,g,Result.andThen_ok];rfl);unfold Oper.wp;rw[C];rw[Zax]at hx;refine⟨⟨_,⟨h',_,M.put o.dst (TRep.of_rep' ?_)⟩,hx⟩,⟨_,rfl⟩,(Zbl w _).size,λb j _=>Below.heap_alloc w _ b j⟩;rw[ab];exact hr
     .exact hx.elim
   .exact hx.elim
  .exact hx.elim
 next t l c A=>
  split at hx
  .rename_i e d n m hu hd bk a8;rw[hd]at hdst
   split at hx
   next z V=>
    cases j:(Zb2 P e&&Nat.beq (lenN z) ((szT P e).getD 0))with
    |false=>simp only[j,cond_false]at hx
    |true=>simp only[j,cond_true]at hx;simp only[Zax]at hx;simp only[Bool.and_eq_true,Zax]at j;obtain⟨⟨h0,L,h2⟩,hx⟩:=hx;obtain⟨cs,g,ai⟩:=Zoc (P:=P) F.sub hu V j.1 (Nat.eq_of_beq_eq_true j.2) h0 L h2;have hl:=H l;rw[bk]at hl;have hc:=H c;rw[a8]at hc;have a3:=Zic hdst (k:=64) Vo;have M:=F.newOwn (128*d+64) a3 (.own z.length (rrep n z)) ⟨w.heap.size,0,(rrep n z).length,m.toNat,z.length,false⟩ (Zbl w (.cells cs e)) Vs (λ_=>Nat.le_refl _) (.inr ⟨by rw[Zab],by rw[Zab];exact ai⟩);have hr:=Rep.osl (h:=h) (ρ:=upd ρ (128*d+64) ⟨w.heap.size,0,(rrep n z).length,m.toNat,z.length,false⟩) (128*d+64) (by rw[Zab]);rw[Zab]at hr;have ab:(rrep n z).length=n.toNat:=(by simp[rrep]);have C:(execOp a.eval o).run P w= .ok (.value (.slice (some ⟨w.heap.size,0,none⟩) n.toNat m.toNat)) (w.alloc (.cells cs e)):=(by simp only[execOp,A,hl.val_inv,hc.val_inv,Sem.run_bind,g,Result.andThen_ok];rfl);unfold Oper.wp;rw[C];refine⟨⟨_,⟨h,_,M.put o.dst (TRep.of_rep' ?_)⟩,hx⟩,⟨_,rfl⟩,(Zbl w _).size,λb j _=>Below.heap_alloc w _ b j⟩;simp only[ab]at hr|-;exact hr
   .exact hx.elim
  .exact hx.elim
 next t r A=>
  split at hx
  .rename_i kt et d hu hd;rw[hd]at hdst;have a3:=Zic hdst (k:=64) Vo;have go:K ((st.bind (128*d+64) (.mp [])).put o.dst (.omp (128*d+64)))->(execOp a.eval o).run P w= .ok (.value (.map (some w.heap.size))) (w.alloc (.map #[] 0))->o.wp P a w (After X K o a w (Zc1 Sg Sv st ρ o)) Q:=by intro Z g;have M:=F.newOwn (128*d+64) a3 (.mp []) ⟨w.heap.size,0,0,0,0,false⟩ (Zbl w (.map #[] 0)) Vs (λ_=>Nat.le_refl _) ⟨by rw[Zab],⟨#[],0,by rw[Zab];show(w.heap.push _)[_]?=_;simp,by simp[MapOK]⟩,λo=>by rw[Zab];exact Zcv F.sub o _ (Nat.le_refl _)⟩;have hr:=Rep.omp (h:=h) (ρ:=upd ρ (128*d+64) ⟨w.heap.size,0,0,0,0,false⟩) (128*d+64);rw[Zab]at hr;unfold Oper.wp;rw[g];exact⟨⟨_,⟨h,_,M.put o.dst (TRep.of_rep' hr)⟩,Z⟩,⟨_,rfl⟩,(Zbl w _).size,λb j _=>Below.heap_alloc w _ b j⟩
   split at hx
   .rename_i a9;have c1:r=none:=by cases r<;>simp at a9;rfl
    subst c1;exact go hx (by simp[execOp,A,Instr.makeMap,newObj,Sem.run])
   next kd n a9=>
    cases r with
    |none=>simp at a9
    |some y=>simp at a9;have hy:=H y;rw[a9]at hy;exact go hx (by simp[execOp,A,Instr.makeMap,newObj,Sem.run,run_underlying hu,hy.val_inv,asInt,asIntOf])
   .exact hx.elim
  .exact hx.elim
 next t m k v A=>
  split at hx
  next kt et id s n hu b7 bl au=>
   split at hx
   .rename_i es bm O;have L:=H m;rw[b7]at L;have h2:=H k;rw[bl]at h2;have h3:=H v;rw[au]at h3;obtain⟨R,g,M,J,G⟩:=map_store (P:=P) F (n:=n) (s:=s) hu bm O;have C:(execOp a.eval o).run P w= .ok .skip R:=(by simp[execOp,A,L.omp_inv,h2.val_inv,h3.val_inv,g]);unfold Oper.wp;rw[C];refine⟨⟨_,⟨h,ρ,M.put o.dst (TRep.rep_unk _ _)⟩,hx⟩,⟨_,rfl⟩,J,λb _ N=>G b (λe=>?_)⟩;obtain⟨U,e1,e2⟩:=Za4 N;simp only[touch,A,b7]at e1
    cases e1
    exact e2 id Vs ⟨⟨_,O⟩,(F.obj id _ O).1⟩ e.symm
   .exact hx.elim
  .exact hx.elim
 next bn bo x A=>
  split at hx
  next e s hs hd E=>
   split at hx
   next d he bp=>rw[bp]at hdst;have L:=H x;rw[E]at L;obtain⟨v,R,g,⟨ac,M,hr⟩,J,G⟩:=Zxm (P:=P) F hs hd he (Zic hdst (k:=64) Vo) hx.1;have C:(execOp a.eval o).run P w= .ok (.value v) R:=(by simp[execOp,A,L.val_inv,g]);unfold Oper.wp;rw[C];exact⟨⟨_,⟨h,ac,M.put o.dst (TRep.of_rep' hr)⟩,hx.2⟩,⟨_,rfl⟩,J,λb j _=>G b j⟩
   .exact hx.elim
  next e e' id hs hd E=>
   split at hx
   next sz rows he O=>
    cases j:(Nat.beq bn bo&&Nat.beq sz 1)with
    |false=>simp only[j,cond_false]at hx
    |true=>
     simp only[j,cond_true]at hx;simp only[Bool.and_eq_true]at j;have e1:=Nat.eq_of_beq_eq_true j.1;have e2:=Nat.eq_of_beq_eq_true j.2;subst e1;subst e2;have L:=H x;rw[E]at L;obtain⟨R,g,M,J,hn,G⟩:=Zxn (P:=P) F hs he O L hx.1;have C:(execOp a.eval o).run P w= .ok (.value (a.eval x)) R:=(by simp[execOp,A,g]);unfold Oper.wp;rw[C];refine⟨⟨_,⟨h,ρ,M.put o.dst (TRep.of_rep' L)⟩,hx.2⟩,⟨_,rfl⟩,J,λb j N=>G b (λe=>?_)⟩;obtain⟨U,q1,q2⟩:=Za4 N;simp only[touch,A,E]at q1
     cases q1
     exact q2 id Vs ⟨⟨_,O⟩,hn⟩ e.symm
   .exact hx.elim
  .exact hx.elim
 next x y t1 t2 A=>
  split at hx
  .rename_i e d am ys hu hd W;rw[hd]at hdst
   split at hx
   next z V=>
    cases j:(Zb2 P e&&srcOK z am)with
    |false=>simp only[j,cond_false]at hx
    |true=>
     simp only[j,cond_true]at hx;simp only[Bool.and_eq_true]at j;have a3:=Zic hdst (k:=64) Vo
     split at hx
     next id E=>
      split at hx
      next sz rows O=>
       cases hzz:Nat.beq z sz with
       |false=>simp only[hzz,cond_false]at hx
       |true=>
        simp only[hzz,cond_true]at hx;have:=Nat.eq_of_beq_eq_true hzz;subst this;have L:=H x;rw[E]at L;obtain⟨v,R,g,⟨ac,M,hr⟩,J,G⟩:=Zxy (P:=P) (ty:=o.type) F hu V j.1 W (H y) j.2 O L hx.1 a3;have C:(execOp a.eval o).run P w= .ok (.value v) R:=(by simp[execOp,A,resolve,invoke,builtin,g]);unfold Oper.wp;rw[C];refine⟨⟨_,⟨h,ac,M.put o.dst (TRep.of_rep' hr)⟩,hx.2⟩,⟨_,rfl⟩,J,λb aq N=>G b aq (λhl=>?_)⟩;obtain⟨U,e1,e2⟩:=Za4 N;simp only[touch,A,E]at e1
        cases e1
        exact e2 id Vs hl
      .exact hx.elim
     next sz E=>have L:=H x;rw[E]at L;obtain⟨v,R,g,⟨ac,M,hr⟩,J,G⟩:=append_nil (P:=P) (ty:=o.type) F hu V j.1 W (H y) j.2 L hx.1 a3;have C:(execOp a.eval o).run P w= .ok (.value v) R:=(by simp[execOp,A,resolve,invoke,builtin,g]);unfold Oper.wp;rw[C];exact⟨⟨_,⟨h,ac,M.put o.dst (TRep.of_rep' hr)⟩,hx.2⟩,⟨_,rfl⟩,J,λb aq _=>G b aq⟩
     .exact hx.elim
   .exact hx.elim
  .exact hx.elim
 next x y t1 t2 A=>
  split at hx
  next e id off m zz ys hu E W=>
   split at hx
   next cs kd V O he=>
    cases j:Nat.ble m 4 with
    |false=>simp only[j,cond_false]at hx
    |true=>
     simp only[j,cond_true]at hx
     have ax:∃am,Zjq st.objs (st.val y)=some (am,ys):=by
      unfold Zii at W
      split at W
      .simp at W;exact⟨_,W⟩
      .simp at W
      .cases W
     obtain⟨am,ax⟩:=ax;have L:=H x;rw[E]at L
     have aj:imin (rlen ys) (Int.ofNat m)=((min ys.length m:Nat):Int):=by
      have bh:∀p q:Int,imin p q=min p q:=λp q=>by unfold imin;rw[Int.min_def];split<;>split<;>omega
      rw[bh];show min (ys.length:Int) (m:Int)=_;omega
     obtain⟨acc,Z,bz,bc⟩:=Zrc m [] hx (by rw[aj];simp) (by rw[aj];simp;omega) Vs;rw[aj]at bz
     split at Z
     .rename_i a4 a6;obtain⟨R,g,M,J,G⟩:=copy_box (P:=P) (t2:=t2) (ty:=o.type) (acc:=acc) (m:=m) F hu V O ax (H y) (kd:=kd) bc Vo a6;have C:(execOp a.eval o).run P w= .ok (.value (goInt acc.length)) R:=(by simp[execOp,A,resolve,invoke,builtin,L.bsl_inv,g]);unfold Oper.wp;rw[C];rw[Zax]at Z;refine⟨⟨_,⟨h,ρ,M.put o.dst (TRep.of_rep' (.pure _ _ (.val _)))⟩,Z⟩,⟨_,rfl⟩,J,λb _ N=>G b (λe=>?_)⟩;obtain⟨U,e1,e2⟩:=Za4 N;simp only[touch,A,E]at e1
      cases e1
      exact e2 id Vs ⟨⟨_,O⟩,(F.obj id _ O).1⟩ e.symm
     .exact Z.elim
   .exact hx.elim
  .exact hx.elim
 next f D cc A=>
  split at hx
  .exact hx.elim
  next fn hf=>
   split at hx
   .split at hx
    next vs au=>obtain⟨v,hr,Z⟩:=Zh4 hx;have ha:=Zjo H _ _ au;have g:(execOp a.eval o).run P w= .ok (.value v) w:=(by have:=hr w;rw[show vs.toArray=D.map a.eval from by subst ha;cases D;simp]at this;simp[execOp,A,resolve,Act.eval,Deferred.ofValue,invoke,this]);unfold Oper.wp;rw[g];exact⟨Goes.put F o.dst (.pure _ _ (.val _)) Z,⟨_,rfl⟩,Nat.le_refl _,λb _ _=>rfl⟩
    .exact hx.elim
   obtain⟨h',a0,F'⟩:=F.frzAll (Zcl st.objs (Sg f).ps 0 (D.toList.map st.val))
   obtain⟨g1,g2⟩:=Zip (P:=P) F F' a0 f (Sg f) fn.params.toList fn.resultTypes.toList _ [] (D.map a.eval) #[] o.dst K Vs (λi v s hv hs=>by
    simp at hv hs;obtain⟨x,ad,rfl⟩:=hv;obtain⟨x',a2,rfl⟩:=hs;rw[ad]at a2;cases a2
    exact F'.val x) rfl Vs hx
   simp only[Array.append_empty]at g1 g2;have g:(execOp a.eval o).run P w= .ok (.enter f (D.map a.eval)) w:=(by simp[execOp,A,resolve,Act.eval,Deferred.ofValue,invoke,g1]);unfold Oper.wp;rw[g];refine Calls.mono g2 λe b6 he=>?_;obtain⟨v,rfl,hg,J,ae⟩:=he;refine⟨hg,⟨_,rfl⟩,J,λb j N=>ae b j (λid hm hl=>?_)⟩;obtain⟨U,e1,e2⟩:=Za4 N;simp only[touch,A]at e1
   cases e1
   obtain⟨⟨o',ay⟩,az⟩:=hl;exact e2 id hm ⟨Zgi _ ay,az⟩
 next t D Y A=>
  split at hx
  .rename_i f ah av;obtain⟨h',a0,F'⟩:=F.frzAll (Zcl st.objs (Sv o.type).ps 0 (D.toList.map st.val));have b0:=H (.tmp t);rw[av]at b0
   have bi:∃cv:Array Value,a.eval (.tmp t)= .func (.func f) #[] cv/\cv.size=ah.length/\∀(i:Nat) v s,cv[i]?=some v->ah[i]?=some s->PRep h v s:=by
    generalize a.eval (.tmp t)=v at b0
    cases b0 with
    |pure _ _ hp=>cases hp with
     |clo _ vs _ hl hc=>exact⟨vs,rfl,hl,hc⟩
   obtain⟨cv,c0,bd,be⟩:=bi
   obtain⟨g1,g2⟩:=Zip (P:=P) F F' a0 f (Sv o.type) Y.toList _ _ ah (D.map a.eval) cv o.dst K Vs (λi v s hv hs=>by
    simp at hv hs;obtain⟨x,ad,rfl⟩:=hv;obtain⟨x',a2,rfl⟩:=hs;rw[ad]at a2;cases a2
    exact F'.val x) bd (λi v s hv hs=>(be i v s hv hs).mono a0) hx
   have g:(execOp a.eval o).run P w= .ok (.enter f (D.map a.eval++cv)) w:=(by simp[execOp,A,resolve,c0,Deferred.ofValue,invoke,g1]);unfold Oper.wp;rw[g];refine Calls.mono g2 λe b6 he=>?_;obtain⟨v,rfl,hg,J,ae⟩:=he;refine⟨hg,⟨_,rfl⟩,J,λb j N=>ae b j (λid hm hl=>?_)⟩;obtain⟨U,e1,e2⟩:=Za4 N;simp only[touch,A]at e1
   cases e1
   obtain⟨⟨o',ay⟩,az⟩:=hl;exact e2 id hm ⟨Zgi _ ay,az⟩
  .exact hx.elim
 next x name D Y A=>
  split at hx
  next t s E=>
   split at hx
   .exact hx.elim
   next f hm=>
    split at hx
    .exact hx.elim
    next fn hf=>
     cases af:(Sg f).ps.isEmpty with
     |false=>simp only[af,cond_false]at hx
     |true=>
      simp only[af,cond_true]at hx;have af:(Sg f).ps=[]:=List.isEmpty_iff.1 af;obtain⟨h',a0,F'⟩:=F.frzAll (Zcl st.objs (Sg f).ps 0 (s::D.toList.map st.val));have L:=H x;rw[E]at L
      have c2:∃v,a.eval x= .iface t v/\PRep h v s:=by
       generalize a.eval x=u at L
       cases L with
       |pure _ _ hp=>cases hp with
        |ifc _ v _ hv=>exact⟨v,rfl,hv⟩
      obtain⟨v,hv,hp⟩:=c2
      obtain⟨g1,g2⟩:=Zip (P:=P) F F' a0 f (Sg f) fn.params.toList fn.resultTypes.toList _ [] (#[v]++D.map a.eval) #[] o.dst K Vm (λi v' s' ak al=>by
       cases i with
       |zero=>have e1:v=v':=(by rw[Array.getElem?_append_left Vs]at ak;simpa using ak);simp at al;subst e1;subst al;exact .pure _ _ (hp.mono a0)
       |succ i=>
        have b4:(D.map a.eval)[i]?=some v':=(by rw[WE Vs]at ak;simpa using ak);simp at b4 al;obtain⟨x,ad,rfl⟩:=b4;obtain⟨x',a2,rfl⟩:=al;rw[ad]at a2;cases a2
        exact F'.val x) rfl Vs hx
      simp only[Array.append_empty]at g1 g2;have c4:∀R,(method (P.types.size+Made.depth) t v name).run P R= .ok (f,v) R:=λR=>Zza hm v _ R;have g:(execOp a.eval o).run P w= .ok (.enter f (#[v]++D.map a.eval)) w:=(by have bb:(#[Value.iface t v]++D.map a.eval)[0]?=some (.iface t v):=(by rw[Array.getElem?_append_left Vs];rfl);have c5:(#[Value.iface t v]++D.map a.eval).extract 1 (#[Value.iface t v]++D.map a.eval).size=D.map a.eval:=(by apply Array.toList_inj.1;simp;exact List.take_of_length_le Vs);have c6:(invoke (.fn (.method name) #[]) (#[Value.iface t v]++D.map a.eval)).run P w= .ok (.enter f (#[v]++D.map a.eval)) w:=(by unfold invoke;simp only[bb,c5];simp[callMethod,c4,g1]);have c7:(resolve a.eval {callee:=Callee.invoke x name,args:=D,argTypes:=Y} o.type).run P w= .ok {target:=.fn (.method name) #[],args:=#[Value.iface t v]++D.map a.eval} w:=(by simp[resolve,hv]);simp only[execOp,A,Sem.run_bind,c7,Result.andThen_ok,c6]);unfold Oper.wp;rw[g];refine Calls.mono g2 λe b6 he=>?_;obtain⟨v,rfl,hg,J,ae⟩:=he;refine⟨hg,⟨_,rfl⟩,J,λb j N=>ae b j (λid hm hl=>?_)⟩;rw[af,Zgt]at hm
      cases hm
  .exact hx.elim
 .exact hx.elim
end
end Go.Px
namespace Go.Px
open Go.RowKit
section
variable{X:Cx}{h:Hp}{ρ:Nat->Loc}{st:St}{a:Act}{w:World}{P:Program}
def Zin(F:FitsAt X h ρ st a w)(j:FuncId->Sig)(k:TypeId->Sig)(o:Oper)(c:List (Nat×Bool)->Operand->SV)
  (e:∀i x,(∀g∈i,a.tmps.getD g.1 undef= .bool g.2)->Rep h ρ (a.eval x) (c i x)) (K:St->Prop) (f:loud P o.op=false)
  (hx:exec P j k o c st K):∃v,(∀d,SameB (fblk P a o) w d->(execOp a.eval o).run P d= .ok (.value v) d)/\Goes X K (a.put o.dst v) w:=by
 unfold exec at hx
 split at hx
 .rename_i C l;obtain⟨v,b,n⟩:=view_calm F o K f l hx
  grind
 .simp only[f,cond_false]at hx
  split at hx
  next s m=>obtain⟨v,b,r⟩:=Zg4 F o c e m;exact⟨v,b,_,⟨h,ρ,F.put o.dst (TRep.of_rep' r)⟩,hx⟩
  grind [Zs6]
def Zmk(F:FitsAt X h ρ st a w)(d:FuncId->Sig)(e:TypeId->Sig)(o:Oper)(i:List (Nat×Bool)->Operand->SV)
  (m:∀p x,(∀g∈p,a.tmps.getD g.1 undef= .bool g.2)->Rep h ρ (a.eval x) (i p x)) (K:St->Prop)
  (hx:exec P d e o i st K) (Q:Exit->Act->World->Prop):o.wp P a w (After X K o a w (Zc1 d e st ρ o)) Q:=by
 cases f:loud P o.op with
 |true=>
  unfold exec at hx
  split at hx
  .rename_i C u;obtain⟨v,s,c,j,q,k⟩:=view_loud F o K f u hx;unfold Oper.wp;rw[c];refine⟨j,⟨_,rfl⟩,q,λb H n=>?_⟩
   rcases k with⟨id,k,y⟩|rfl
   .obtain⟨z,e1,e2⟩:=Za4 n;rw[k]at e1;cases e1;exact y b ‹_› (λf=>e2 id Vs f)
   .rfl
  .simp only[f,cond_true]at hx
   cases hk:(kmode st&&constB o)with
   |false=>rw[hk,cond_false]at hx;exact Znk F d e o K hx Q
   |true=>rw[hk,cond_true]at hx;refine Oper.wp_mono (λL s t=>?_) (Znk F d e o _ hx Q);obtain⟨⟨J,⟨M,r,A⟩,D⟩,l⟩:=t;obtain⟨E,_,G⟩:=A.pureOps (dstL o.dst);exact⟨⟨_,⟨E,r,G⟩,D⟩,l⟩
 |false=>obtain⟨v,c,j⟩:=Zin F d e o i m K f hx;unfold Oper.wp;rw[c w (SameB.refl _ w)];exact⟨j,⟨_,rfl⟩,Nat.le_refl _,λ_ _ _=>rfl⟩
def chain_holds(F:FitsAt X h ρ st a w):∀(n:Nat) (g:Nat×Bool),a.tmps.getD g.1 undef= .bool g.2->∀c∈chain st n g,a.tmps.getD c.1 undef= .bool c.2
 |0,_,_=>by simp[chain]
 |n+1,g,hg=>by
  intro c b;simp only[chain,List.mem_cons]at b
  rcases b with rfl|b
  .exact hg
  .split at b
   .rename_i t d x hx;rw[Zca]at hx
    cases hs:st.tmps[g.1]? with
    |none=>simp[hs]at hx
    |some s=>
     simp[hs]at hx;subst hx;have r:=F.tm g.1 _ hs
     rcases r with⟨e,_⟩|⟨_,h2⟩
     .exact chain_holds F n (t,d) e c b
     .rw[hg]at h2;simp[undef]at h2
   .simp at b
theorem Zpv(c:Array Oper)(d:Array Value)(j t:Nat)(e:(c[j]?).bind (·.dst)=some t)(b:Bool):(yielded c d j==some b)=true↔d.getD t undef= .bool b:=by
 unfold yielded;simp only[e,Option.bind_some];rw[Array.getD_eq_getD_getElem?]
 cases hx:d[t]? with
 |none=>simp[undef]
 |some v=>
  grind
def Zt0(t:Nat)(b:Bool):∀(d:List SV) (i:Nat),(fixL t b d)[i]?=(d[i]?).map (λs=>match s with| .gd t' w v=>(bif Nat.beq t t' then(bif w==b then v else .gd t' w v)else .gd t' w v)|s=>s)
 | [],i=>by simp[fixL]
 |c::d,0=>by cases c<;>simp[fixL]
 |c::d,i+1=>by
  have:=Zt0 t b d i
  cases c<;>simpa[fixL]using this
def Zkc(t:Nat)(b:Bool):∀(d:List SV),(fixL t b d).length=d.length
 | []=>rfl
 |c::d=>by cases c<;>simp[fixL,Zkc t b d]
def FitsAt.fix(F:FitsAt X h ρ st a w)(t:Nat)(b:Bool)(e:a.tmps.getD t undef= .bool b):FitsAt X h ρ (st.fix t b) a w:=by
 refine{F with size:=?_,tm:=λi s c=>?_}
 .simp[St.fix,Zec,Zkc,F.size]
 .simp only[St.fix,Zec]at c;rw[List.getElem?_set]at c;by_cases hti:t=i
  .subst hti;simp only[if_true]at c
   split at c
   .cases c;rw[e];exact TRep.of_rep' (.pure _ _ (.val _))
   .cases c
  .simp only[hti,if_false,Zt0]at c
   cases hx:st.tmps[i]? with
   |none=>simp[hx]at c
   |some x=>
    simp[hx]at c;have r:=F.tm i x hx
    split at c
    .rename_i f d v;by_cases htt:t=f
     .subst htt;simp only[Y8,cond_true]at c
      cases hwb:(d==b)with
      |false=>simp only[hwb,cond_false]at c;subst c;exact r
      |true=>
       simp only[hwb,cond_true]at c;subst c;have:d=b:=Vg;subst this
       rcases r with⟨_,r⟩|⟨hne,_⟩
       .exact TRep.of_rep' r
       grind
     grind [Zaj]
    grind
def Zml{b:Array Oper}{o:Oper}{j t:Nat}{c:Bool}(e:o.guard=some (j,c))(d:(b[j]?).bind (·.dst)=some t):
  Region.wanted o (yielded b a.tmps)=true↔a.tmps.getD t undef= .bool c:=by
 grind [Region.wanted,Zpv]
def Zt1{b:Array Oper}{j t:Nat}{c d:Bool}(h:gdst b (some (j,c))=some (t,d)):(b[j]?).bind (·.dst)=some t/\c=d:=by
 unfold gdst at h;simp only[]at h
 split at h
 next f e=>simp at h;exact⟨by rw[e,h.1],h.2⟩
 .cases h
def Zct(e:FuncId->Sig)(f:TypeId->Sig)(d:Array Oper)(st:St)(ρ:Nat->Loc)(o:Oper)(b:Nat):Prop:=
 ∀c,Zno e f d st o=some c->∃id∈c,live st.objs ρ id/\(ρ id).blk=b
def FitsAt.gd_slot(F:FitsAt X h ρ st a w)(b:lget st.tmps n= .gd m o u):(a.tmps.getD m undef= .bool o/\Rep h ρ (a.tmps.getD n undef) u)\/(a.tmps.getD m undef≠ .bool o/\a.tmps.getD n undef=undef):=by
 rw[Zca]at b
 cases hx:st.tmps[n]? with
 |none=>rw[hx]at b;simp at b
 |some x=>rw[hx]at b;simp only[Yl]at b;subst b;exact F.tm n _ hx
def Zkd:∀(n:Nat) (st:St) (t:Nat) (w:Bool),(St.fixC n st t w).objs=st.objs
 |0,st,t,w=>rfl
 |n+1,st,t,w=>by
  unfold St.fixC
  split
  .exact Zkd n st _ _
  .rfl
def Zgx(F:FitsAt X h ρ st a w):∀(n t:Nat) (d:Bool) (g no:St->Prop),Zxa n t d st g no->
  (a.tmps.getD t undef= .bool d/\FitsAt X h ρ (St.fixC n st t d) a w/\g (St.fixC n st t d))\/(a.tmps.getD t undef≠ .bool d/\∃i,FitsAt X h ρ i a w/\no i)
 |0,t,d,g,no,hx=>hx.elim
 |n+1,t,d,g,no,hx=>by
  unfold Zxa at hx;unfold St.fixC
  split at hx
  .rename_i b j;have f:a.tmps.getD t undef= .bool b:=(by have:=F.slot [] Vs t;rw[j]at this;exact this.val_inv);simp only[j];by_cases e:b=d
   .subst e;exact .inl ⟨f,F.fix t b f,by cases b<;>exact hx⟩
   .refine .inr ⟨λc=>by rw[f]at c;injection c with c;exact e c,st.fix t b,F.fix t b f,?_⟩
    cases b<;>cases d<;>first|exact absurd rfl e|exact hx
  .rename_i l w2 b j;simp only[j];have o:=F.gd_slot j
   rcases Zgx F n l w2 _ _ hx with⟨p,k,m⟩|⟨p,i,k,hn⟩
   .have f:a.tmps.getD t undef= .bool b:=by
     rcases o with⟨_,q⟩|⟨hne,_⟩
     .exact q.val_inv
     grind
    by_cases e:b=d
    .subst e;exact .inl ⟨f,k.fix t b f,by cases b<;>exact m⟩
    .refine .inr ⟨λc=>by rw[f]at c;injection c with c;exact e c,(St.fixC n st l w2).fix t b,k.fix t b f,?_⟩
     cases b<;>cases d<;>first|exact absurd rfl e|exact m
   .have r:a.tmps.getD t undef=undef:=by
     grind
    exact .inr ⟨λc=>by rw[r]at c;simp[undef]at c,i,k,hn⟩
  grind
def Zpw(F:FitsAt X h ρ st a w)(k:FuncId->Sig)(l:TypeId->Sig)(d:Array Oper)(o:Oper)(K:St->Prop)(hx:aop P k l d o st K)(Q:Exit->Act->World->Prop):
  if Region.wanted o (yielded d a.tmps)then o.wp P a w (After X K o a w (Zct k l d st ρ o)) Q else Goes X K (a.put o.dst undef) w:=by
 unfold aop at hx
 split at hx
 .rename_i u;simp only[Region.wanted,u,if_true]
  have e:Zct k l d st ρ o=Zc1 k l st ρ o:=by
   grind [Zct,Zc1,Zno]
  rw[e];exact Zmk F k l o _ (λC x u=>F.operand C u x) K hx Q
 next g u=>
  split at hx
  .exact hx.elim
  .rename_i t wt D;obtain⟨j,f⟩:=g;obtain⟨T,rfl⟩:=Zt1 D;have y:=Zml (a:=a) u T
   split at hx
   next s R=>
    cases hl:loud P o.op with
    |true=>simp[hl]at R
    |false=>
     simp only[hl,cond_false]at R;by_cases c:Region.wanted o (yielded d a.tmps)=true
     .rw[if_pos c];have n:=y.1 c
      obtain⟨v,U,r⟩:=Zg4 F o _ (λC x N=>F.operand (C++chain st 4 (t,f)) (λg L=>by
       rcases List.mem_append.1 L with L|L
       .grind
       .exact chain_holds F 4 (t,f) n g L) x) R
      unfold Oper.wp;rw[U w (SameB.refl _ w)];exact⟨⟨_,⟨h,ρ,F.put o.dst (s:=.gd t f s) (.inl ⟨n,r⟩)⟩,hx⟩,⟨_,rfl⟩,Nat.le_refl _,λ_ _ _=>rfl⟩
     .rw[if_neg c];exact⟨_,⟨h,ρ,F.put o.dst (s:=.gd t f s) (.inr ⟨λe=>c (y.2 e),rfl⟩)⟩,hx⟩
   .have z:∀{p:St} {b:Bool},FitsAt X h ρ p a w->p.objs=st.objs->Zct k l d st ρ o=Zc1 k l (p.fix t f) ρ o->a.tmps.getD t undef= .bool b->aopB P k l o t f b p K->
      if Region.wanted o (yielded d a.tmps)then o.wp P a w (After X K o a w (Zct k l d st ρ o)) Q else Goes X K (a.put o.dst undef) w:=by
     intro p b F Z et m hx;by_cases c:Region.wanted o (yielded d a.tmps)=true
     .rw[if_pos c];have e:=y.1 c;rw[m]at e;have E:b=f:=(by injection e);have q:=F.fix t f (by rw[m,E]);rw[et];refine Zmk q k l o _ (λC x N=>q.operand C N x) K ?_ Q;subst E
      cases b<;>exact hx
     .rw[if_neg c]
      have E:b=!f:=by
       cases b<;>cases f<;>first|rfl|exact absurd (y.2 m) c
      have q:=F.fix t (!f) (by rw[m,E]);refine⟨_,⟨h,ρ,q.put o.dst (s:=.gd t f (.val (.bool true))) (.inr ⟨λe=>c (y.2 e),rfl⟩)⟩,?_⟩;subst E
      cases f<;>exact hx
    split at hx
    next b n=>have m:a.tmps.getD t undef= .bool b:=(by have:=F.slot [] Vs t;rw[n]at this;exact this.val_inv);refine z F rfl ?_ m hx;unfold Zct Zc1 Zno St.fixN St.fixC;simp only[u,D,n];rfl
    next i w2 b n=>
     split at hx
     .rename_i A O;have G:a.tmps.getD i undef= .bool A:=(by have:=F.slot [] Vs i;rw[O]at this;exact this.val_inv);have H:=F.gd_slot n;by_cases e2:A=w2
      .subst e2
       have m:a.tmps.getD t undef= .bool b:=by
        rcases H with⟨_,V⟩|⟨hne,_⟩
        .exact V.val_inv
        grind
       refine z (F.fix i A G) rfl ?_ m ?_
       .unfold Zct Zc1 Zno St.fixN St.fixC;simp only[u,D,n];unfold St.fixC;simp only[O];rfl
       .cases A<;>exact hx
      .have W:a.tmps.getD t undef=undef:=by
        grind
       have J:¬Region.wanted o (yielded d a.tmps)=true:=λc=>by have:=y.1 c;rw[W]at this;simp[undef]at this
       rw[if_neg J];refine⟨_,⟨h,ρ,(F.fix i A G).put o.dst (s:=.gd i w2 (.val (.bool true))) (.inr ⟨λM=>by rw[G]at M;injection M with M;exact e2 M,rfl⟩)⟩,?_⟩
       cases A<;>cases w2<;>first|exact absurd rfl e2|exact hx
     .have H:=F.gd_slot n
      rcases Zgx F 4 i w2 _ _ hx with⟨Y,q,hy⟩|⟨Y,st',q,hn⟩
      .have m:a.tmps.getD t undef= .bool b:=by
        rcases H with⟨_,V⟩|⟨hne,_⟩
        .exact V.val_inv
        grind
       refine z q (Zkd 4 st i w2) ?_ m hy;have e5:St.fixC 5 st t f=(St.fixC 4 st i w2).fix t f:=(by grind [St.fixC]);have ho:((St.fixC 4 st i w2).fix t f).objs=st.objs:=Zkd 4 st i w2
       grind [Zct,Zc1,Zno,St.fixN]
      .have W:a.tmps.getD t undef=undef:=by
        grind
       have J:¬Region.wanted o (yielded d a.tmps)=true:=λc=>by have:=y.1 c;rw[W]at this;simp[undef]at this
       rw[if_neg J];exact⟨_,⟨h,ρ,q.put o.dst (s:=.gd i w2 (.val (.bool true))) (.inr ⟨Y,rfl⟩)⟩,hn⟩
     grind
    grind
def aop_calm(F:FitsAt X h ρ st a w)(E:FuncId->Sig)(G:TypeId->Sig)(ops:Array Oper)(o:Oper)(K:St->Prop)(N:loud P o.op=false)(hx:aop P E G ops o st K):
  ∃v,(Region.wanted o (yielded ops a.tmps)=true->∀i,SameB (fblk P a o) w i->(execOp a.eval o).run P i= .ok (.value v) i)/\
   (Region.wanted o (yielded ops a.tmps)=false->v=undef)/\Goes X K (a.put o.dst v) w:=by
 unfold aop at hx
 split at hx
 .rename_i H;obtain⟨v,m,Y⟩:=Zin F E G o _ (λy x H=>F.operand y H x) K N hx
  grind [Region.wanted]
 next g H=>
  split at hx
  .exact hx.elim
  .rename_i t wt U;obtain⟨j,d⟩:=g;obtain⟨O,rfl⟩:=Zt1 U;have p:=Zml (a:=a) H O
   split at hx
   .rename_i s V;simp only[N,cond_false]at V;by_cases c:Region.wanted o (yielded ops a.tmps)=true
    .have k:=p.1 c
     obtain⟨v,m,r⟩:=Zg4 F o _ (λy x M=>F.operand (y++chain st 4 (t,d)) (λg J=>by
      rcases List.mem_append.1 J with J|J
      .grind
      .exact chain_holds F 4 (t,d) k g J) x) V
     exact⟨v,λ_=>m,λe=>by(rw[c]at e;cases e),_,⟨h,ρ,F.put o.dst (s:=.gd t d s) (.inl ⟨k,r⟩)⟩,hx⟩
    .exact⟨undef,λe=>absurd e c,λ_=>rfl,_,⟨h,ρ,F.put o.dst (s:=.gd t d s) (.inr ⟨λe=>c (p.2 e),rfl⟩)⟩,hx⟩
   .have R:∀{u:St} {b:Bool},FitsAt X h ρ u a w->a.tmps.getD t undef= .bool b->aopB P E G o t d b u K->
      ∃v,(Region.wanted o (yielded ops a.tmps)=true->∀i,SameB (fblk P a o) w i->(execOp a.eval o).run P i= .ok (.value v) i)/\
       (Region.wanted o (yielded ops a.tmps)=false->v=undef)/\Goes X K (a.put o.dst v) w:=by
     intro u b F f hx;by_cases c:Region.wanted o (yielded ops a.tmps)=true
     .have e:=p.1 c;rw[f]at e;have z:b=d:=(by injection e);have n:=F.fix t d (by rw[f,z]);obtain⟨v,m,Y⟩:=Zin n E G o _ (λy x M=>n.operand y M x) K N (by subst z;cases b<;>exact hx)
      grind
     .have z:b=!d:=by
       cases b<;>cases d<;>first|rfl|exact absurd (p.2 f) c
      have n:=F.fix t (!d) (by rw[f,z]);refine⟨undef,λe=>absurd e c,λ_=>rfl,_,⟨h,ρ,n.put o.dst (s:=.gd t d (.val (.bool true))) (.inr ⟨λe=>c (p.2 e),rfl⟩)⟩,?_⟩;subst z
      cases d<;>exact hx
    split at hx
    .rename_i b k;have f:a.tmps.getD t undef= .bool b:=by have:=F.slot [] Vs t;rw[k]at this;exact this.val_inv
     grind
    next l w2 b k=>
     split at hx
     .rename_i q W;have A:a.tmps.getD l undef= .bool q:=(by have:=F.slot [] Vs l;rw[W]at this;exact this.val_inv);have C:=F.gd_slot k;by_cases e2:q=w2
      .subst e2
       have f:a.tmps.getD t undef= .bool b:=by
        rcases C with⟨_,Q⟩|⟨hne,_⟩
        .exact Q.val_inv
        grind
       refine R (F.fix l q A) f ?_
       cases q<;>exact hx
      .have T:a.tmps.getD t undef=undef:=by
        grind
       have D:¬Region.wanted o (yielded ops a.tmps)=true:=λc=>by have:=p.1 c;rw[T]at this;simp[undef]at this
       refine⟨undef,λe=>absurd e D,λ_=>rfl,_,⟨h,ρ,(F.fix l q A).put o.dst (s:=.gd l w2 (.val (.bool true))) (.inr ⟨λL=>by rw[A]at L;injection L with L;exact e2 L,rfl⟩)⟩,?_⟩
       cases q<;>cases w2<;>first|exact absurd rfl e2|exact hx
     .have C:=F.gd_slot k
      rcases Zgx F 4 l w2 _ _ hx with⟨Z,n,hy⟩|⟨Z,st',n,hn⟩
      .have f:a.tmps.getD t undef= .bool b:=by
        rcases C with⟨_,Q⟩|⟨hne,_⟩
        .exact Q.val_inv
        grind
       grind
      .have T:a.tmps.getD t undef=undef:=by
        grind
       have D:¬Region.wanted o (yielded ops a.tmps)=true:=λc=>by have:=p.1 c;rw[T]at this;simp[undef]at this
       exact⟨undef,λe=>absurd e D,λ_=>rfl,_,⟨h,ρ,n.put o.dst (s:=.gd l w2 (.val (.bool true))) (.inr ⟨Z,rfl⟩)⟩,hn⟩
     grind
    grind
end
section
variable{X:Cx}{P:Program}
def Fr(b:List Nat)(a c:Act):Prop:=∀t,t∉b->c.tmps.getD t undef=a.tmps.getD t undef
theorem Fr.refl(b:List Nat)(a:Act):Fr b a a:=λ_ _=>rfl
def Fr.trans{d:List Nat}{a b c:Act}(x:Fr d a b)(y:Fr d b c):Fr d a c:=λt e=>(y t e).trans (x t e)
def Fr.mono{d c:List Nat}{a b:Act}(x:Fr d a b)(h:∀t,t∈d->t∈c):Fr c a b:=λt e=>x t λf=>e (h t f)
def Fr.put{c:List Nat}{a b:Act}(x:Fr c a b){d:Option Nat}(hd:∀t,d=some t->t∈c)(v:Value):Fr c a (b.put d v):=by
 cases d with
 |none=>exact x
 |some d=>intro t f;rw[<-x t f];exact getD_set_ne' v (λe=>f (e▸hd d rfl))
def Zdg(f:FuncId->Sig)(g:TypeId->Sig)(b:Array Oper)(Q:Exit->Act->World->Prop)(K:St->Prop)(c:List Nat)(i:Act)(m:∀st a w,Fits X st a w->Fr c i a->K st->Q .normal a w):
  ∀(l:List Oper) (st:St) (a:Act) (w:World),(∀o∈l,∀t,o.dst=some t->t∈c)->Fr c i a->Fits X st a w->vcOps P f g b l st K->wpList P b Q l a w
 | [],st,a,w,_,hr,F,hv=>m st a w F hr hv
 |o::rest,st,a,w,hd,hr,⟨h,ρ,F⟩,hv=>by
  have:=Zpw F f g b o _ hv Q;have j:=hd o Vs;have k:∀o∈rest,∀t,o.dst=some t->t∈c:=λo r=>hd o (by simp[r]);simp only[wpList]
  split
  next n=>rw[if_pos n]at this;exact .inl (Oper.wp_mono (λa' w' ⟨⟨d,p,q⟩,⟨u,e⟩,_⟩=>Zdg f g b Q K c i m rest d a' w' k (by rw[e];exact hr.put j u) p q) this)
  next n=>rw[if_neg n]at this;obtain⟨d,p,q⟩:=this;exact Zdg f g b Q K c i m rest d _ w k (hr.put j _) p q
end
end Go.Px
namespace Go.Px
open Go.RowKit
section
variable{ops:Array Oper}
structure RegOK(ops:Array Oper):Prop where
 uniq:∀(i k:Nat) d,dstOf ops i=some d->dstOf ops k=some d->i=k
 back:∀(k:Nat) o,ops[k]?=some o->∀e∈o.after,Region.binds .any e=true->e.on<k
 sel:∀(k:Nat) o cs b,ops[k]?=some o->o.op≠ .select cs b
 sep:∀(k i:Nat) o p,ops[k]?=some o->ops[i]?=some p->i≠k->Za9 i o=true\/Za9 k p=true\/∀d,p.dst=some d->d∉o.looksAt ops
def Zef:∀(l:List Oper),(l.filterMap (·.dst)).Nodup->∀(i k:Nat) d,(l[i]?).bind (·.dst)=some d->(l[k]?).bind (·.dst)=some d->i=k
 | [],_,i,k,d,hi,_=>by simp at hi
 |o::l,hn,i,k,d,hi,hk=>by
  cases ho:o.dst with
  |none=>
   simp only[Wy,ho]at hn
   cases i with
   |zero=>simp[ho]at hi
   |succ i=>cases k with
    |zero=>simp[ho]at hk
    |succ k=>rw[Zef l hn i k d (by simpa using hi) (by simpa using hk)]
  |some x=>
   simp only[Wy,ho,Yo]at hn
   have a:∀j:Nat,(l[j]?).bind (λq:Oper=>q.dst)=some x->False:=λj b=>by
    grind
   cases i with
   |zero=>
    grind
   |succ i=>cases k with
    |zero=>simp[ho]at hk;subst hk;exact(a i (by simpa using hi)).elim
    |succ k=>rw[Zef l hn.2 i k d (by simpa using hi) (by simpa using hk)]
def Zik(h:Zfd ops=true):RegOK ops:=by
 simp only[Zfd,Bool.and_eq_true,List.all_eq_true,WD]at h;obtain⟨l,f⟩:=h;have lt:∀{k:Nat} {o:Oper},ops[k]?=some o->k<ops.size:=λe=>(Y3.1 e).1;refine⟨λi k d c a=>?_,λk o a e g n=>?_,λk o q b a e=>?_,λk i o p a c m=>?_⟩
 .exact Zef ops.toList (Zay l) i k d (by simpa[dstOf]using c) (by simpa[dstOf]using a)
 .have:=f k (lt a);simp only[a,Bool.and_eq_true,List.all_eq_true]at this;have:=this.1.1 e (by simpa using g)
  simp_all
 .grind
 .have:=f k (lt a);simp only[a,Bool.and_eq_true,List.all_eq_true,WD]at this;have:=this.2 i (lt c);simp only[c,Bool.or_eq_true]at this
  rcases this with(h3|h3)|h3
  .simp_all
  .exact .inl h3
  .rcases h3 with h3|h3
   .grind
   .refine .inr (.inr λd hd j=>?_);rw[hd]at h3;simp only[Yk,YR]at h3;have:=h3 d j;simp at this
def Zhe{i:Nat}{o:Oper}:Za9 i o=true↔∃e∈o.after,Region.binds .any e=true/\e.on=i:=by
 simp only[Za9,List.any_eq_true,Bool.and_eq_true]
 simp_all
def Zd8(ops:Array Oper)(l:Array Bool):Prop:=l.size=ops.size/\∀(k:Nat) o,ops[k]?=some o->l.getD k false=true->∀i,Za9 i o=true->l.getD i false=true
def In(l:Array Bool)(k:Nat):Prop:=l.getD k false=true
theorem Zey{l:Array Bool}{i k:Nat}(a:i<l.size):In (l.setIfInBounds i true) k↔k=i\/In l k:=by
 unfold In;by_cases h:k=i
 .simp_all
 .have:(l.setIfInBounds i true).getD k false=l.getD k false:=by simp[Yi (YN h)]
  grind
theorem Zez{l:Array Bool}(m:l.size=ops.size):n∈Region.ready .any ops l↔¬In l n/\∃o,ops[n]?=some o/\∀j,Za9 j o=true->In l j:=by
 rw[mem_ready];constructor
 .rintro⟨h,o,d,a⟩;have f:n<l.size:=Vg;refine⟨λk=>?_,o,d,λj g=>?_⟩
  .grind [In]
  .obtain⟨e,b,c,rfl⟩:=Zhe.1 g;exact a e b c
 .rintro⟨h,o,d,a⟩;have f:n<l.size:=Vg;refine⟨?_,o,d,λe b c=>a e.on (Zhe.2 ⟨e,b,c,rfl⟩)⟩
  grind [In]
def ready_nil(R:RegOK ops){l:Array Bool}(c:l.size=ops.size)(h:Region.ready .any ops l=[]):∀k,k<ops.size->In l k:=by
 intro k
 induction k using Nat.strongRecOn with
 |_ k i=>
  intro a;by_cases hin:In l k
  .exact hin
  .exfalso
   have:k∈Region.ready .any ops l:=(Zez c).2 ⟨hin,ops[k],Y1 a,λj d=>by
    obtain⟨e,f,g,rfl⟩:=Zhe.1 d;have b:=R.back k _ (Y1 a) e f g
    exact i e.on b Vo⟩
   grind
def Zd8.set{l:Array Bool}{o:Oper}(c:Zd8 ops l)(g:ops[n]?=some o)(h:∀j,Za9 j o=true->In l j):Zd8 ops (l.setIfInBounds n true):=by
 have f:n<l.size:=(by grind [c.1]);refine⟨by simp[c.1],λk p b d j e=>?_⟩;have a:In (l.setIfInBounds n true) k:=d;show In (l.setIfInBounds n true) j;rw[Zey f]at a|-
 rcases a with rfl|a
 .grind
 .exact .inr (c.2 k p b a j e)
def wr(ops:Array Oper)(l:Array Bool)(t:Nat):Option Nat:=(List.range ops.size).find? λk=>l.getD k false&&(dstOf ops k==some t)
theorem Zme(R:RegOK ops){l:Array Bool}{t k:Nat}(c:In l k)(hd:dstOf ops k=some t):wr ops l t=some k:=by
 have a:k<ops.size:=by
  grind [dstOf]
 cases h:wr ops l t with
 |none=>
  have:=List.find?_eq_none.1 h k (by simpa using a)
  grind [In]
 |some j=>have b:=Wl h;simp only[Bool.and_eq_true,beq_iff_eq]at b;rw[R.uniq j k t b.2 hd]
theorem Zi5{l:Array Bool}(h:∀k,In l k->dstOf ops k≠some n):wr ops l n=none:=by
 rw[wr,List.find?_eq_none];intro k _;simp only[Bool.and_eq_true,beq_iff_eq];rintro⟨a,b⟩;exact h k a b
theorem Zns{l:Array Bool}{t k:Nat}(h:wr ops l t=some k):In l k/\dstOf ops k=some t:=by
 have a:=Wl h;simp only[Bool.and_eq_true,beq_iff_eq]at a;exact a
def slotV(ops:Array Oper)(a:Act)(u:Nat->Value)(l:Array Bool)(t:Nat):Value:=
 match wr ops l t with
 |some k=>u k
 |none=>a.tmps.getD t undef
def actOf(ops:Array Oper)(a0:Act)(u:Nat->Value)(l:Array Bool):Act:=
 {tmps:=((List.range a0.tmps.size).map (slotV ops a0 u l)).toArray,defers:=a0.defers}
def Zbz(a:Act)(u:Nat->Value)(l:Array Bool)(t:Nat):(actOf ops a u l).tmps.getD t undef=if t<a.tmps.size then slotV ops a u l t else undef:=by
 simp only[actOf];by_cases h:t<a.tmps.size
 .simp[h]
 .simp[h]
def Zil(R:RegOK ops)(a:Act)(u:Nat->Value)(l:Array Bool)(i:Nat)(o:Oper)(c:ops[i]?=some o)(g:l.size=ops.size)(f:¬In l i)(v:Value):
  (actOf ops a u l).put o.dst v=actOf ops a (λk=>if k=i then v else u k) (l.setIfInBounds i true):=by
 have e:i<l.size:=Vg
 have b:∀t,o.dst≠some t->slotV ops a (λk=>if k=i then v else u k) (l.setIfInBounds i true) t=slotV ops a u l t:=by
  grind [dstOf,slotV,wr,Zns,Zme,Zey,Zi5]
 cases hd:o.dst with
 |none=>
  simp_all[Act.put,actOf]
 |some d=>
  simp only[Act.put];unfold actOf;congr 1;apply Array.ext';simp only[Array.toList_setIfInBounds];apply List.ext_getElem?;intro t;rw[List.getElem?_set];by_cases hdt:d=t
  .subst hdt;by_cases hlt:d<a.tmps.size
   .simp[hlt];have:wr ops (l.setIfInBounds i true) d=some i:=Zme R ((Zey e).2 (.inl rfl)) (by simp[dstOf,c,hd])
    grind [slotV]
   .simp[hlt]
  .simp only[hdt,if_false];by_cases hlt:t<a.tmps.size
   .simp_all
   .simp[hlt]
def env_eq(R:RegOK ops){a0:Act}{u:Nat->Value}{l a:Array Bool}{i:Nat}{o:Oper}(m:ops[i]?=some o)(c:Zd8 ops l)(v:Zd8 ops a)
  (d:∀j,Za9 j o=true->In l j) (n:∀j,Za9 j o=true->In a j) (b:¬In l i) (q:¬In a i) (t:Nat) (w:t∈o.looksAt ops):
  (actOf ops a0 u l).tmps.getD t undef=(actOf ops a0 u a).tmps.getD t undef:=by
 rw[Zbz,Zbz]
 split
 .unfold slotV
  have r:∀{l:Array Bool},Zd8 ops l->(∀j,Za9 j o=true->In l j)->¬In l i->∀k,dstOf ops k=some t->(In l k↔Za9 k o=true):=by
   intro l c d b k hd
   cases hp:ops[k]? with
   |none=>simp[dstOf,hp]at hd
   |some p=>
    have s:p.dst=some t:=(by grind [dstOf]);constructor
    .intro f;have g:k≠i:=λe=>b (e▸f)
     rcases R.sep i k o p m hp g with h|h|h
     .exact h
     .exact absurd (c.2 k p hp f i h) b
     grind
    .exact d k
  grind [wr,Zns,Zme,Zi5]
 .rfl
def Zj9{a b:Act}{o:Oper}(h:∀t∈o.looksAt ops,a.tmps.getD t undef=b.tmps.getD t undef):∀x∈o.op.operands,a.eval x=b.eval x:=by
 intro x hx
 cases x with
 |tmp t=>exact h t (YW _ (YE.2 ⟨.tmp t,by simpa using hx,rfl⟩))
 |_=>rfl
def Zgm{a c:Act}{o:Oper}(h:∀t∈o.looksAt ops,a.tmps.getD t undef=c.tmps.getD t undef)(f:a.tmps.size=c.tmps.size):Region.wanted o (yielded ops a.tmps)=Region.wanted o (yielded ops c.tmps):=by
 unfold Region.wanted
 cases hg:o.guard with
 |none=>rfl
 |some d=>
  obtain⟨g,b⟩:=d
  have:yielded ops a.tmps g=yielded ops c.tmps g:=by
   unfold yielded
   cases ht:(ops[g]?).bind (·.dst)with
   |none=>rfl
   |some t=>
    have e:=h t (YF _ (by simp[hg,ht]));simp only[Option.bind_some];rw[Array.getD_eq_getD_getElem?,Array.getD_eq_getD_getElem?]at e
    grind
  grind
end
section
variable{X:Cx}{P:Program}{ops:Array Oper}
def Owed(P:Program)(ops:Array Oper)(a0:Act)(u:Nat->Value)(w:World)(k:Nat)(o:Oper):Prop:=
 loud P o.op=false/\∀l,Zd8 ops l->(∀j,Za9 j o=true->In l j)->¬In l k->
  (Region.wanted o (yielded ops (actOf ops a0 u l).tmps)=true->∀a,SameB (fblk P (actOf ops a0 u l) o) w a->(execOp (actOf ops a0 u l).eval o).run P a= .ok (.value (u k)) a)/\
  (Region.wanted o (yielded ops (actOf ops a0 u l).tmps)=false->u k=undef)
structure Sim(P:Program)(Sg:FuncId->Sig)(Sv:TypeId->Sig)(ops:Array Oper)(X:Cx)(a0:Act)(K:St->Prop)(u:Nat->Value)(la lc:Array Bool)(n:Nat)(st:St)(w:World):Prop where
 ca:Zd8 ops la
 cc:Zd8 ops lc
 sub:∀k,In la k->In lc k
 fits:Fits X st (actOf ops a0 u lc) w
 owed:∀(k:Nat) o,ops[k]?=some o->In lc k->¬In la k->Owed P ops a0 u w k o
 vcs:vcAny P Sg Sv ops n lc st K
def Zmf:∀{l:List Nat} {f:Nat->Prop},Ztu l f->∀i∈l,f i
 | [],_,_,i,h=>by cases h
 | [j],f,h,i,hi=>by simp at hi;subst hi;exact h
 |j::k::l,f,h,i,hi=>by
  rcases List.mem_cons.1 hi with rfl|hi
  .exact h.1
  .exact Zmf h.2 i hi
theorem Zjs{o:Op}{x:Operand}(h:Zbr P o=some x):x∈o.operands:=by
 unfold Zbr at h
 grind [Op.operands,Call.operands]
def Zpr{a b:Act}{o:Oper}(h:∀x∈o.op.operands,a.eval x=b.eval x):fblk P a o=fblk P b o:=by
 grind [fblk,Zjs]
def Zcg(a:Act)(u:Nat->Value)(l:Array Bool):(actOf ops a u l).tmps.size=a.tmps.size:=by simp[actOf]
def Zhf{a0:Act}{u a:Nat->Value}{l:Array Bool}(h:∀k,In l k->a k=u k):actOf ops a0 a l=actOf ops a0 u l:=by
 unfold actOf;congr 2;apply List.map_congr_left
 grind [slotV,wr,Zns]
def Owed.of_env(R:RegOK ops){a0:Act}{u:Nat->Value}{w:World}{o:Oper}(f:ops[n]?=some o)(i:loud P o.op=false){l:Array Bool}(c:Zd8 ops l)
  (m:∀j,Za9 j o=true->In l j) (k:¬In l n)
  (r:Region.wanted o (yielded ops (actOf ops a0 u l).tmps)=true->∀e,SameB (fblk P (actOf ops a0 u l) o) w e->(execOp (actOf ops a0 u l).eval o).run P e= .ok (.value (u n)) e)
  (s:Region.wanted o (yielded ops (actOf ops a0 u l).tmps)=false->u n=undef):Owed P ops a0 u w n o:=by
 refine⟨i,λt p g h=>?_⟩;have a:=env_eq R (a0:=a0) (u:=u) f c p m g k h;have d:=Zj9 a;rw[<-execOp_congr o (λq b=>R.sel n o q b f) d,<-Zpr d,<-Zgm a (by rw[Zcg,Zcg])]
 grind
def Sim.calm(R:RegOK ops){r:FuncId->Sig}{s:TypeId->Sig}{a0:Act}{K:St->Prop}{u:Nat->Value}{E a:Array Bool}{n:Nat}{G:St}{w:World}(S:Sim P r s ops X a0 K u E a (n+1) G w)
  {i:Nat} {o:Oper} (g:ops[i]?=some o) (T:i∈Region.ready .any ops a) (H:loud P o.op=false)
  (U:aop P r s ops o G λd=>vcAny P r s ops n (a.setIfInBounds i true) d K):
  ∃M d,(∀k,In a k->M k=u k)/\Sim P r s ops X a0 K M E (a.setIfInBounds i true) n d w:=by
 obtain⟨m,o',A,N⟩:=(Zez S.cc.1).1 T;rw[g]at A;cases A;have x:i<a.size:=(by grind [S.cc.1]);obtain⟨h,ρ,F⟩:=S.fits;obtain⟨v,h1,h2,d,W,y⟩:=aop_calm F r s ops o _ H U
 have O:∀k,In a k->(λk=>if k=i then v else u k) k=u k:=λk y=>by
  grind
 have Z:=Zhf (ops:=ops) (a0:=a0) O;refine⟨λk=>if k=i then v else u k,d,O,S.ca,S.cc.set g N,λk y=>(Zey x).2 (.inr (S.sub k y)),?_,λk p q J L=>?_,y⟩
 .rw[<-Zil R a0 u a i o g S.cc.1 m v];exact W
 .rcases(Zey x).1 J with rfl|hkl
  .rw[g]at q;cases q;refine Owed.of_env R g H S.cc N m ?_ ?_
   .grind
   grind
  .have a3:k≠i:=λe=>m (e▸hkl);obtain⟨Y,g2⟩:=S.owed k p q hkl L;refine⟨Y,λl c a1 z=>?_⟩
   have f:∀t∈p.looksAt ops,(actOf ops a0 (λk=>if k=i then v else u k) l).tmps.getD t undef=(actOf ops a0 u l).tmps.getD t undef:=by
    intro t ht;rw[Zbz,Zbz]
    split
    .unfold slotV
     cases hw:wr ops l t with
     |none=>rfl
     |some j=>
      obtain⟨C,a2⟩:=Zns hw
      have Q:j≠i:=by
       intro e;subst e;have a4:o.dst=some t:=by grind [dstOf]
       rcases R.sep k j p o q g (λe=>z (e▸C))with h|h|h
       .exact m (S.cc.2 k p q hkl j h)
       .exact z (c.2 j o g C k h)
       grind
      simp[Q]
    .rfl
   have D:=Zj9 f;rw[execOp_congr p (λV b=>R.sel k p V b q) D,Zpr D,Zgm f (by rw[Zcg,Zcg])]
   grind
def blkOf:Value->Option Nat
 | .pointer (some ad)=>some ad.block
 | .map (some r)=>some r
 | .slice (some ad) (_+1) _=>some ad.block
 |_=>none
def fblk_some{a:Act}{o:Oper}{b:Nat}(h:fblk P a o=some b):∃x,Zbr P o.op=some x/\blkOf (a.eval x)=some b:=by
 unfold fblk at h
 split at h
 .cases h
 next x hx=>exact⟨x,hx,h⟩
def Zri{A:St}{h:Hp}{z:Nat->Loc}{a:Act}{w:World}(F:FitsAt X h z A a w){u:List Nat}{y:Operand}(D:Zd5 A.objs u (ev A y)=true)
  {b:Nat} (j:blkOf (a.eval y)=some b):b<w.heap.size/\∀id∈u,live A.objs z id->(z id).blk≠b:=by
 have own:∀d,(!(u.any (Nat.beq d)))=true->live A.objs z d->b=(z d).blk->b<w.heap.size/\∀id∈u,live A.objs z id->(z id).blk≠b:=by intro d J N e;subst e;obtain⟨⟨o,l⟩,C⟩:=N;refine⟨ObOK.blk_lt (F.obj d _ l) C,λid R M=>F.inj id d M ⟨⟨o,l⟩,C⟩ λe=>?_⟩;subst e;simp only[Yk,YR]at J;have:=J id R;simp at this
 have E:∀x v,h b x=some v->b<w.heap.size/\∀id∈u,live A.objs z id->(z id).blk≠b:=λx v e=>by
  refine⟨F.sub.lt e,λid _ ⟨⟨o,l⟩,C⟩ e'=>?_⟩;have:=(F.obj id o l).hno C x
  grind
 have G:∀s,Zd5 A.objs u s=true->Rep h z (a.eval y) s->b<w.heap.size/\∀id∈u,live A.objs z id->(z id).blk≠b:=by
  intro s
  cases s with
  |ptr d off=>
   intro k r;simp only[Zd5,Bool.and_eq_true]at k;rw[r.ptr_inv]at j;simp[blkOf]at j;have q:=k.2
   split at q
   next o l=>exact own d k.1 ⟨⟨_,l⟩,(F.obj d _ l).1⟩ j.symm
   next T m U l=>exact own d k.1 ⟨⟨_,l⟩,(F.obj d _ l).1⟩ j.symm
   .cases q
  |aptr d i=>
   intro k r;simp only[Zd5,Bool.and_eq_true]at k;rw[r.aptr_inv]at j;simp[blkOf]at j;have q:=k.2
   split at q
   next o l=>exact own d k.1 ⟨⟨_,l⟩,(F.obj d _ l).1⟩ j.symm
   next T m U l=>exact own d k.1 ⟨⟨_,l⟩,(F.obj d _ l).1⟩ j.symm
   .cases q
  |eptr d e i off=>
   intro k r;simp only[Zd5,Bool.and_eq_true]at k;obtain⟨C,H⟩:=r.eptr_inv;rw[H]at j;simp[blkOf]at j;have q:=k.2
   split at q
   next o l=>exact own d k.1 ⟨⟨_,l⟩,C⟩ j.symm
   .cases q
  |osl d=>
   intro k r;simp only[Zd5,Bool.and_eq_true]at k;have q:=k.2
   split at q
   next o l=>
    rcases r.osl_inv with⟨_,p,H⟩|⟨C,H⟩
    .simp_all[blkOf]
    .rw[H]at j
     have:(z d).blk=b:=by
      cases hln:(z d).len with
      |zero=>rw[hln]at j;simp[blkOf]at j
      |succ n=>rw[hln]at j;simpa[blkOf]using j
     exact own d k.1 ⟨⟨_,l⟩,C⟩ this.symm
   .cases q
  |omp d=>
   intro k r;simp only[Zd5,Bool.and_eq_true]at k;rw[r.omp_inv]at j;simp[blkOf]at j;have q:=k.2
   split at q
   next o l=>exact own d k.1 ⟨⟨_,l⟩,(F.obj d _ l).1⟩ j.symm
   .cases q
  |ref off cells=>
   intro k r
   cases cells with
   |nil=>simp[Zd5]at k
   |cons c V=>
    generalize a.eval y=v at r j
    cases r with
    |pure _ _ K=>
     cases K with
     |ref W Y _ _ Z L hr=>simp[blkOf]at j;subst j;exact E _ _ (L 0 c rfl)
  |slice sz rows a1=>
   intro k r;generalize a.eval y=v at r j
   cases r with
   |pure _ _ K=>
    cases K with
    |empty p Q _ _ ht h1 C=>cases p<;>simp[blkOf]at j
    |slice W off Q _ _ _ Z a0 hz L hr l ht h1 a2=>
     cases rows with
     |nil=>simp[blkOf]at j
     |cons r rs=>simp[blkOf]at j;subst j;have N:=hz 0 r rfl;have O:0<r.length:=Vo;exact E _ _ (L 0 r 0 r[0] rfl (List.getElem?_eq_getElem O))
  |gd t b s=>intro k r;exact r.not_gd.elim
  |_=>intro k;simp[Zd5]at k
 cases y with
 |tmp t=>
  simp only[ev,Zca]at D
  cases hx:A.tmps[t]? with
  |none=>simp[hx,Zd5]at D
  |some s=>
   simp only[hx,Yl]at D;have r:=F.tm t s hx;by_cases k:∃t w x,s= .gd t w x
   .obtain⟨t',w',x,rfl⟩:=k
    rcases r with⟨_,r⟩|⟨_,e⟩
    .exact G x (by simpa[Zd5]using D) r
    .simp only[Act.eval]at j;rw[e]at j;simp[undef,blkOf]at j
   .exact G s D (r.out λt w x e=>k ⟨t,w,x,e⟩)
 |const v=>
  have:=F.operand [] Vs (.const v)
  have C:∀t w x,ev A (.const v)≠ .gd t w x:=by
   intro t w x;unfold ev
   grind
  grind [Zok]
 |global g=>exact G _ D (.pure _ _ (F.global_rep g))
 |func f=>simp[ev,Zd5]at D
def Zmg{c:St}{h:Hp}{d:Nat->Loc}{a:Act}{w:World}(F:FitsAt X h d c a w):∀(n t:Nat) (b:Bool),skipG n c t b=true->a.tmps.getD t undef≠ .bool b
 |0,_,_,h=>by simp[skipG]at h
 |n+1,t,b,h=>by
  intro e;simp only[skipG,Zca]at h
  cases hx:c.tmps[t]? with
  |none=>simp[hx]at h
  |some s=>
   simp only[hx,Yl]at h;have r:=F.tm t s hx
   split at h
   .rename_i i;have:=(show Rep _ _ _ _ from r).val_inv
    grind
   next f w2 x=>
    rcases r with⟨g,_⟩|⟨_,r2⟩
    .exact Zmg F n f w2 h g
    .rw[r2]at e;simp[undef]at e
   .cases h
def Ztw{c:St}{h:Hp}{d:Nat->Loc}{a:Act}{w:World}(F:FitsAt X h d c a w){y:Operand}(b:skipV c (ev c y)=true):blkOf (a.eval y)=none:=by
 cases y with
 |tmp t=>
  simp only[ev,Zca]at b
  cases hx:c.tmps[t]? with
  |none=>simp[hx,skipV]at b
  |some s=>
   simp only[hx,Yl]at b;have r:=F.tm t s hx
   cases s with
   |gd j k x=>
    rcases r with⟨i,_⟩|⟨_,e⟩
    .exact absurd i (Zmg F 5 j k b)
    .simp only[Act.eval];rw[e];simp[undef,blkOf]
   |_=>simp[skipV]at b
 |const v=>
  exfalso;unfold ev at b
  grind [skipV]
 |global g=>
  grind [ev,skipV,Zcb,Zbf]
 |func f=>simp[ev,skipV]at b
def Owed.loud(R:RegOK ops){d:Act}{u r:Nat->Value}{w x:World}{k i:Nat}{o p:Oper}(s:ops[k]?=some p)(F:ops[i]?=some o)(f:k≠i){y v:Array Bool}(G:Zd8 ops v)
  (z:In v k) (A:¬In v i) (O:¬In y k) (Q:∀j,Za9 j o=true->In y j)
  (H:∀j,j≠i->r j=u j) (g:Owed P ops d u w k p)
  (J:∀l,Zd8 ops l->(∀j,Za9 j p=true->In l j)->¬In l k->SameB (fblk P (actOf ops d u l) p) w x):Owed P ops d r x k p:=by
 obtain⟨M,N⟩:=g;refine⟨M,λl c m n=>?_⟩
 have a:∀t∈p.looksAt ops,(actOf ops d r l).tmps.getD t undef=(actOf ops d u l).tmps.getD t undef:=by
  intro t Y;rw[Zbz,Zbz]
  split
  .unfold slotV
   cases hwr:wr ops l t with
   |none=>rfl
   |some j=>
    obtain⟨T,U⟩:=Zns hwr
    have V:j≠i:=by
     intro e;have W:o.dst=some t:=by grind [dstOf]
     rcases R.sep k i p o s F (YN f)with h|h|h
     .exact A (G.2 k p s z i h)
     .grind
     grind
    grind
  .rfl
 have q:=Zj9 a;rw[execOp_congr p (λK b=>R.sel k p K b s) q,Zpr q,Zgm a (by rw[Zcg,Zcg]),H k f];obtain⟨e1,e2⟩:=N l c m n;refine⟨λC D L=>e1 C D λb E=>?_,e2⟩;rw[L b E];exact J l c m n b E
def Znt{p q:Nat->Bool}:∀(l:List Nat),(∀k∈l,p k=q k)->l.find? p=l.find? q
 | [],_=>rfl
 |x::xs,h=>by rw[YP,YP,h x Vs,Znt xs (λk a=>h k (by simp[a]))]
def put_defers'(a:Act)(d:Option Nat)(v:Value):(a.put d v).defers=a.defers:=by cases d<;>rfl
def addr_env(R:RegOK ops){a0:Act}{u:Nat->Value}{l f:Array Bool}{k:Nat}{p:Oper}(g:ops[k]?=some p){y:Operand}(n:y∈p.op.operands)(c:Ztt ops k y=true)
  (o:Zd8 ops f) (r:In f k) (s:∀j,Za9 j p=true->In l j):(actOf ops a0 u f).eval y=(actOf ops a0 u l).eval y:=by
 cases y with
 |tmp t=>
  have w:t∈p.looksAt ops:=YW _ (YE.2 ⟨.tmp t,by simpa using n,rfl⟩);simp only[Ztt,List.all_eq_true,WD]at c
  have d:∀j,dstOf ops j=some t->Za9 j p=true:=by
   intro j hd
   cases hq:ops[j]? with
   |none=>simp[dstOf,hq]at hd
   |some q=>
    have i:q.dst=some t:=(by grind [dstOf]);have a:=c j (Y3.1 hq).1;simp only[hq,i,Bool.or_eq_true,Bool.and_eq_true,Yk]at a
    rcases a with a|⟨a,b⟩
    .simp at a
    .have m:j≠k:=λe=>by subst e;simp at b
     rcases R.sep k j p q g hq m with h|h|h
     .exact h
     .grind
     grind
  simp only[Act.eval];rw[Zbz,Zbz]
  split
  .unfold slotV
   cases hw:wr ops l t with
   |some j=>obtain⟨_,b⟩:=Zns hw;rw[Zme R (o.2 k p g r j (d j b)) b]
   |none=>
    rw[Zi5 (λj v hd=>?_)];have:=Zme R (s j (d j hd)) hd
    grind
  .rfl
 |_=>rfl
def upon_env{o:Oper}{a i:Act}{next b:Act->World->Prop}{Q:Exit->Act->World->Prop}{r:Result Next}(k:∀v w,next (a.put o.dst v) w->b (i.put o.dst v) w)
  (hd:∀d w,next ({a with defers:=d::a.defers}.put o.dst undef) w->b ({i with defers:=d::i.defers}.put o.dst undef) w)
  (l:∀c w,Q (.panic c) a w->Q (.panic c) i w) (h:o.upon P a next Q r):o.upon P i b Q r:=by
 cases r with
 |ok n w=>
  cases n<;>simp only[Oper.upon]at h|-
  case value v=>exact k v w h
  case skip=>exact k undef w h
  case defer d=>exact hd d w h
  case enter f args=>
   refine Calls.mono h λe g j=>?_
   cases e with
   |returned v=>exact k v g j
   |panicked c=>exact l c g j
   |outgrown=>exact j
  case row row args=>exact Rows.mono h λv g j=>k v g j
 |halt x w=>
  cases x<;>simp only[Oper.upon]at h|-
  grind
def Zeg(X:Cx)(K:St->Prop)(ops:Array Oper)(a0:Act):Exit->Act->World->Prop
 | .normal,a,w=>Goes X K a w/\Fr (ops.toList.filterMap (·.dst)) a0 a
 |_,_,_=>False
def actOf_fr(a:Act)(u:Nat->Value)(l:Array Bool):Fr (ops.toList.filterMap (·.dst)) a (actOf ops a u l):=by
 intro t b;rw[Zbz]
 grind [slotV,dstOf,Zi5]
def left(ops:Array Oper)(l:Array Bool):Nat:=((List.range ops.size).filter λk=>!(l.getD k false)).length
def Zxe{l:Array Bool}(j:l.size=ops.size)(i:n<ops.size)(o:¬In l n):left ops (l.setIfInBounds n true)+1=left ops l:=by
 unfold left
 have f:∀(m:List Nat),m.Nodup->n∈m->(m.filter λk=>!((l.setIfInBounds n true).getD k false)).length+1=(m.filter λk=>!(l.getD k false)).length:=by
  intro m
  have e:∀k,(l.setIfInBounds n true).getD k false=if k=n then true else l.getD k false:=by
   intro k;by_cases h:k=n
   .simp_all
   .simp[h,Yi (YN h)]
  have g:l.getD n false=false:=by grind [In]
  induction m with
  |nil=>intro _ h;cases h
  |cons x b q=>
   intro a p;obtain⟨hx,d⟩:=Yo.1 a;by_cases hxi:x=n
   .subst hxi
    have c:(b.filter λk=>!((l.setIfInBounds x true).getD k false))=b.filter λk=>!(l.getD k false):=by
     apply List.filter_congr
     grind
    grind
   grind
 grind
def sim_any(R:RegOK ops){T:FuncId->Sig}{U:TypeId->Sig}{a0:Act}{K:St->Prop}:
  ∀(m:Nat) (u:Nat->Value) (g f:Array Bool) (n:Nat) (x:St) (w:World),Sim P T U ops X a0 K u g f n x w->left ops g=m->
   wpAny P .any ops (Zeg X K ops a0) m g (actOf ops a0 u g) w:=by
 intro m
 induction m with
 |zero=>
  intro u g f n x w S hm
  have Q:∀k,k<ops.size->In g k:=by
   grind [List.filter_eq_nil_iff,In,left]
  have C:∀l:Array Bool,l.size=ops.size->(∀k,k<ops.size->In l k)->Region.ready .any ops l=[]:=by
   intro l hs h;rw[Wm]
   grind [Zez]
  refine⟨C g S.ca.1 Q,?_⟩;have hc:∀k,k<ops.size->In f k:=λk H=>S.sub k (Q k H);have e:actOf ops a0 u g=actOf ops a0 u f:=(by unfold actOf;congr 2;apply List.map_congr_left;intro t _;unfold slotV;have:wr ops g t=wr ops f t:=(by unfold wr;refine Znt _ λk H=>?_;have ag:k<ops.size:=Vg;have e1:g.getD k false=true:=Q k ag;have e2:f.getD k false=true:=hc k ag;rw[e1,e2]);rw[this]);have E:=S.vcs
  cases n with
  |zero=>exact E.elim
  |succ n=>simp only[vcAny,C f S.cc.1 hc]at E;rw[e];exact⟨⟨x,S.fits,E⟩,actOf_fr a0 u f⟩
 |succ m al=>
  intro u g f n x w S hm
  have a7:Region.ready .any ops g≠[]:=by
   intro h;have Q:=ready_nil R S.ca.1 h
   grind [List.length_eq_zero_iff,List.filter_eq_nil_iff,left,In]
  refine⟨λh=>absurd h a7,λi hi=>?_⟩;obtain⟨M,o,z,O⟩:=(Zez S.ca.1).1 hi;have a8:i<ops.size:=(Y3.1 z).1;have L:i<g.size:=(by grind [S.ca.1]);have a3:left ops (g.setIfInBounds i true)=m:=by have:=Zxe S.ca.1 a8 M;omega
  have Y:∀(u:Nat->Value) (f:Array Bool) (n:Nat) (x:St),Sim P T U ops X a0 K u g f n x w->In f i->
    wpOp P ops (Zeg X K ops a0) i (wpAny P .any ops (Zeg X K ops a0) m (g.setIfInBounds i true)) (actOf ops a0 u g) w:=by
   intro u f n x S A;obtain⟨g1,g2⟩:=S.owed i o z A M;obtain⟨e1,e2⟩:=g2 g S.ca O M
   have ah:wpAny P .any ops (Zeg X K ops a0) m (g.setIfInBounds i true) ((actOf ops a0 u g).put o.dst (u i)) w:=by
    rw[Zil R a0 u g i o z S.ca.1 M (u i)]
    have:actOf ops a0 (λk=>if k=i then u i else u k) (g.setIfInBounds i true)=actOf ops a0 u (g.setIfInBounds i true):=Zhf (λk _=>by
     by_cases h:k=i
     .subst h;simp
     .simp[h])
    rw[this];refine al u (g.setIfInBounds i true) f n x w ⟨S.ca.set z O,S.cc,λk H=>?_,S.fits,λk p N G J=>S.owed k p N G (λh=>J ((Zey L).2 (.inr h))),S.vcs⟩ a3
    rcases(Zey L).1 H with rfl|H
    .exact A
    .exact S.sub k H
   unfold wpOp;simp only[z];by_cases hw:Region.wanted o (yielded ops (actOf ops a0 u g).tmps)=true
   .rw[if_pos hw];refine .inl ?_;unfold Oper.wp;rw[e1 hw w (SameB.refl _ w)];exact ah
   .rw[if_neg hw];have au:Region.wanted o (yielded ops (actOf ops a0 u g).tmps)=false:=(by simpa using hw);rw[<-e2 au];exact ah
  have ao:∀(d:Nat) (u:Nat->Value) (f:Array Bool) (n:Nat) (x:St),left ops f=d->Sim P T U ops X a0 K u g f n x w->
    wpOp P ops (Zeg X K ops a0) i (wpAny P .any ops (Zeg X K ops a0) m (g.setIfInBounds i true)) (actOf ops a0 u g) w:=by
   intro d
   induction d using Nat.strongRecOn with
   |_ d az=>
    intro u f n x hd S;by_cases A:In f i
    .exact Y u f n x S A
    .have a9:i∈Region.ready .any ops f:=(Zez S.cc.1).2 ⟨A,o,z,λj W=>S.sub j (O j W)⟩;have E:=S.vcs
     cases n with
     |zero=>exact E.elim
     |succ n=>
      simp only[vcAny]at E
      split at E
      next am=>rw[am]at a9;cases a9
      .rename_i i0 r C;rw[<-C]at E
       split at E
       .rename_i c a1;have ai:c∈Region.ready .any ops f:=WK a1;have aj:=Wl a1
        split at E
        next oc a5=>simp only[a5,Yk]at aj;obtain⟨u',V,hu,S'⟩:=S.calm R a5 ai aj E;have ap:c<ops.size:=(Y3.1 a5).1;have av:=((Zez S.cc.1).1 ai).1;have b0:=Zxe S.cc.1 ap av;have:=az (left ops (f.setIfInBounds c true)) Vo u' _ n V rfl S';rwa[Zhf (λk H=>hu k (S.sub k H))]at this
        .exact E.elim
       .have a4:=Zmf E i a9;simp only[z]at a4
        cases s:apartW P T U ops f x i o with
        |false=>simp[s]at a4
        |true=>
         simp only[s,cond_true]at a4;obtain⟨h,ρ,F⟩:=S.fits;have q:=Zpw F T U ops o _ a4 (Zeg X K ops a0);have aa:=env_eq R (a0:=a0) (u:=u) z S.cc S.ca (λj W=>S.sub j (O j W)) O A M;have aw:=Zj9 aa;have ax:=Zgm aa (by rw[Zcg,Zcg])
         have ab:∀(D:World),(∀b,b<w.heap.size->¬Zct T U ops x ρ o b->D.heap[b]?=w.heap[b]?)->∀k p,ops[k]?=some p->In f k->¬In g k->∀l,Zd8 ops l->(∀j,Za9 j p=true->In l j)->¬In l k->SameB (fblk P (actOf ops a0 u l) p) w D:=by
          intro D a6 k p N G J l _ aq _ b hb;unfold apartW at s
          split at s
          .cases s
          .rename_i an ae;simp only[Bool.and_eq_true]at s;have s:=(List.all_eq_true.1 s.2) k (by simpa using(Y3.1 N).1);simp only[N,Bool.or_eq_true]at s;obtain⟨y,af,a2⟩:=fblk_some hb;simp only[af,Bool.and_eq_true,Bool.or_eq_true]at s
           rcases s with((h1|h1)|h1)|h1
           .exact absurd (Nat.eq_of_beq_eq_true h1) (λe=>J (e▸absurd G (e▸A)))
           .unfold In at G;rw[G]at h1;cases h1
           .exact absurd (O k h1) J
           .have ay:=addr_env R (a0:=a0) (u:=u) N (Zjs af) h1.2 S.cc G aq;rw[<-ay]at a2;obtain⟨ar,a7⟩:=Zri F (h1.1.resolve_right λhs=>by rw[Ztw F hs]at a2;cases a2) a2;refine a6 b ar λht=>?_;obtain⟨id,hm,hl,e⟩:=ht an ae;exact a7 id hm hl e
         have go:∀(v:Value) (D:World),After X (λV=>vcAny P T U ops n (f.setIfInBounds i true) V K) o (actOf ops a0 u f) w (Zct T U ops x ρ o) ((actOf ops a0 u f).put o.dst v) D->
           wpAny P .any ops (Zeg X K ops a0) m (g.setIfInBounds i true) ((actOf ops a0 u g).put o.dst v) D:=by
          rintro v D ⟨⟨V,hF',hvc⟩,_,hsz,a6⟩;have Z:i<f.size:=by rw[S.cc.1];exact a8
          rw[Zil R a0 u f i o z S.cc.1 A v]at hF';rw[Zil R a0 u g i o z S.ca.1 M v];refine al _ _ (f.setIfInBounds i true) n V D ⟨S.ca.set z O,S.cc.set z (λj W=>S.sub j (O j W)),λk H=>?_,hF',λk p N G J=>?_,hvc⟩ a3
          .rcases(Zey L).1 H with rfl|H
           .exact(Zey Z).2 (.inl rfl)
           .exact(Zey Z).2 (.inr (S.sub k H))
          .have ak:k≠i:=λe=>J ((Zey L).2 (.inl e));have ac:In f k:=((Zey Z).1 G).resolve_left ak;have ad:¬In g k:=λh=>J ((Zey L).2 (.inr h));exact Owed.loud R N z ak S.cc ac A ad O (λj W=>by simp[W]) (S.owed k p N ac ad) (ab D a6 k p N ac ad)
         unfold wpOp;simp only[z];rw[<-ax];by_cases hw:Region.wanted o (yielded ops (actOf ops a0 u f).tmps)=true
         .rw[if_pos hw]at q|-;refine .inl ?_;unfold Oper.wp at q|-;rw[<-execOp_congr o (λcs b=>R.sel i o cs b z) aw];refine upon_env (a:=actOf ops a0 u f) (λv D hg=>go v D hg) (λd D hg=>?_) (λc D hg=>False.elim hg) q;obtain⟨_,⟨u',e⟩,_⟩:=hg;have e1:=congrArg Act.defers e;rw[put_defers',put_defers']at e1;exact absurd e1 Vs
         .rw[if_neg hw]at q|-;exact go undef w ⟨q,⟨undef,rfl⟩,Nat.le_refl _,λ_ _ _=>rfl⟩
  exact ao _ u f n x rfl S
def Zrj(g:FuncId->Sig)(i:TypeId->Sig)(id:Nat)(ops:Array Oper)(m:P.follows .mixedOrders=true)(j:Zfd ops=true)(b:St)(a:Act)(w:World)(F:Fits X b a w)(K:St->Prop)
  (n:vcAny P g i ops (ops.size+1) (Array.replicate ops.size false) b K) (Q:Exit->Act->World->Prop) (o:∀b d w,Fits X b d w->Fr (ops.toList.filterMap (·.dst)) a d->K b->Q .normal d w):(Code.region id ops true).wp P Q a w:=by
 have R:=Zik j;have hnone:∀k,¬In (Array.replicate ops.size false) k:=λk h=>by unfold In at h;by_cases c:k<ops.size<;>simp[c]at h
 have f:actOf ops a (λ_=>undef) (Array.replicate ops.size false)=a:=by
  unfold actOf
  have:((List.range a.tmps.size).map (slotV ops a (λ_=>undef) (Array.replicate ops.size false))).toArray=a.tmps:=by
   apply Array.ext';apply List.ext_getElem?;intro t;have q:wr ops (Array.replicate ops.size false) t=none:=Zi5 (λk c=>absurd c (hnone k));by_cases ht:t<a.tmps.size
   .simp[ht,slotV,q]
   .simp[ht]
  rw[this]
 refine wp_mono (wp_region_any (Q:=Zeg X K ops a) m ?_) (λe d w h=>?_)
 .have r:Fits X b a {w with drawn:=w.drawn+1}:=by obtain⟨h,p,F⟩:=F;exact⟨h,p,F.world (λ_ _=>rfl) ⟨F.kp.os,F.kp.tape,F.kp.output,F.kp.size,F.kp.block⟩⟩
  have S:Sim P g i ops X a K (λ_=>undef) (Array.replicate ops.size false) (Array.replicate ops.size false) (ops.size+1) b {w with drawn:=w.drawn+1}:=
   ⟨⟨Vs,λk _ _ h=>absurd h (hnone k)⟩,⟨Vs,λk _ _ h=>absurd h (hnone k)⟩,λ_ h=>h,by rw[f];exact r,λk _ _ h=>absurd h (hnone k),n⟩
  have s:left ops (Array.replicate ops.size false)=ops.size:=(by unfold left;rw[List.filter_eq_self.2 (λk _=>by simpa[In]using hnone k)];simp);have:=sim_any R ops.size _ _ _ _ _ _ S s
  grind
 .cases e with
  |normal=>obtain⟨⟨b,F,c⟩,l⟩:=h;exact o b d w F l c
  |_=>exact False.elim h
end

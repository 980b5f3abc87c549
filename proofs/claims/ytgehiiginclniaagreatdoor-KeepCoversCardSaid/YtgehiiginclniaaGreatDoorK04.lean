import Derived.Test.YtgehiiginclniaaGreatDoorK03
set_option linter.all false
set_option maxRecDepth 100000
variable{m n p:Nat}{l:Go.Px.LL}{x:List Int}{o:Bool}{v:Go.Value}{u:Go.Px.SV}{C:List Go.Px.SV}
namespace Go.Px
open Go.RowKit
section
variable{X:Cx}{h:Hp}{ρ:Nat->Loc}{st:St}{a:Act}{w:World}{P:Program}
def frz_sub{st:St}{o:Ob}(e:oget (st.frz n).objs m=some o):∃b,oget st.objs m=some b:=by
 grind [St.frz,Zag,Zaf]
def Zg1:∀(b:List Nat) {st:St} {i:Nat} {o:Ob},oget (St.frzAll b st).objs i=some o->∃c,oget st.objs i=some c
 | [],st,i,o,e=>⟨o,e⟩
 |id::b,st,i,o,e=>by obtain⟨c,d⟩:=Zg1 b e;exact frz_sub d
def Zdd(d:FuncId->Sig)(e:TypeId->Sig)(st:St)(ρ:Nat->Loc)(o:Oper)(b:Nat):Prop:=
 ∀c,touch d e st o=some c->∃id∈c,live st.objs ρ id/\(ρ id).blk=b
def Za6{d:FuncId->Sig}{e:TypeId->Sig}{o:Oper}{b:Nat}(h:¬Zdd d e st ρ o b):∃c,touch d e st o=some c/\∀id∈c,live st.objs ρ id->(ρ id).blk≠b:=by
 grind [Zdd,touch]
def After(X:Cx)(K:St->Prop)(o:Oper)(a:Act)(w:World)(T:Nat->Prop)(d:Act)(c:World):Prop:=
 Goes X K d c/\(∃u,d=a.put o.dst u)/\w.heap.size<=c.heap.size/\∀b,b<w.heap.size->¬T b->c.heap[b]?=w.heap[b]?
theorem idOK_lt(h:n<1048576):idOK n=true:=by
 simp_all[idOK]
def Zi3{d k:Nat}(h:dstOK (some d)=true)(b:k<128):idOK (128*d+k)=true:=by
 simp only[dstOK]at h;have:=Nat.le_of_ble_eq_true h
 grind [idOK_lt]
def Zr8{kd:IntKind}{n:Int}{rows:LL}{K:List SV->Prop}:∀(m:Nat) (acc:List SV),copyN kd n rows K m acc->(acc.length:Int)<=n->n<=(acc.length:Int)+m->
  (∀(j:Nat) c,acc[j]?=some c->(∃x,c= .val (.int kd x))/\rget rows (Int.ofNat j)=[c])->
  ∃b,K b/\(b.length:Int)=n/\∀(j:Nat) c,b[j]?=some c->(∃x,c= .val (.int kd x))/\rget rows (Int.ofNat j)=[c]
 |0,acc,hc,h1,h2,hg=>⟨acc,hc,Vo,hg⟩
 |m+1,acc,hc,h1,h2,hg=>by
  simp only[copyN,Zaz]at hc;by_cases he:n=Int.ofNat acc.length
  .grind
  .obtain⟨x,f,d⟩:=hc.2 (by simp only[Y7]at he|-;omega);refine Zr8 m _ d (by simp only[Y7]at he;simp;omega) Vm (λj c e=>?_)
   grind
def copy_box(F:FitsAt X h ρ st a w){E t2 e ty:TypeId}{id off m:Nat}{D K acc:List SV}(g:P.underlying E=some (.slice e))(hz:szT P e=some 1)(ho:oget st.objs id=some (.box D))
  (a0:Zki st.objs u=some (n,l)) (a1:Rep h ρ v u) {kd:IntKind} (t:∀(j:Nat) c,acc[j]?=some c->(∃x,c= .val (.int kd x))/\rget l (Int.ofNat j)=[c]) (M:acc.length=min l.length m) (a2:Zbj off acc D=some K):
  ∃o,(Builtin.copy_ #[E,t2] ty #[.slice (some ⟨(ρ id).blk,off,none⟩) m m,v]).run P w= .ok (goInt acc.length) o/\FitsAt X h ρ {st with objs:=oput st.objs id (.box K)} a o/\
   w.heap.size<=o.heap.size/\∀b,b≠(ρ id).blk->o.heap[b]?=w.heap[b]?:=by
 obtain⟨N,⟨f,H,z,a6,C⟩,hno⟩:=F.obj id _ ho;obtain⟨p,O,rfl,hp⟩:=Zei F a1 a0;obtain⟨a7,rfl⟩:=Zci _ _ _ _ a2;obtain⟨i,J,hi1⟩:=Zpf hz
 let d:List Value:=acc.map λc=>match c with| .val Z=>Z|_=>undef
 have s:d.length=acc.length:=by simp[d]
 have A:∀(j:Nat) Z,d[j]?=some Z->∃x,Z= .int kd x/\acc[j]?=some (.val (.int kd x)):=λj Z r=>by
  simp only[d,Yz]at r
  cases L:acc[j]? with
  |none=>simp[L]at r
  |some c=>obtain⟨⟨x,rfl⟩,_⟩:=t j c L;simp[L]at r;exact⟨x,r.symm,rfl⟩
 have V:∀Z∈d,Z.oneCell'=true:=λZ r=>by obtain⟨j,hj,e⟩:=List.mem_iff_getElem.1 r;obtain⟨x,rfl,_⟩:=A j Z (by rw[List.getElem?_eq_getElem hj,e]);rfl
 have fin:∀o,o=w.setRow (ρ id).blk (f.toList.take off++d++f.toList.drop (off+d.length)).toArray->FitsAt X h ρ {st with objs:=oput st.objs id (.box (D.take off++acc++D.drop (off+acc.length)))} a o/\w.heap.size<=o.heap.size/\∀b,b≠(ρ id).blk->o.heap[b]?=w.heap[b]?:=by
  intro o T;subst T;refine⟨F.setOb id (.box D) _ _ ho N ⟨N,⟨_,H,setRow_heap w _ f _ H _ z,by simp[s];omega,λk y c g L=>?_⟩,hno⟩ (λb R=>setRow_other _ _ _ _ R) (Zb2 _ _ _),Vs,λb R=>setRow_other _ _ _ _ R⟩;simp only[Ys]at g;rw[List.append_assoc,List.getElem?_append]at g L;have l1:(List.take off f.toList).length=off:=Vm
  have l2:(List.take off D).length=off:=Vm;rw[l1]at g;rw[l2]at L;by_cases c1:k<off
  .rw[if_pos c1,Yb,if_pos c1]at g L;exact C k y c (by simpa using g) L
  .rw[if_neg c1,List.getElem?_append]at g L;rw[s]at g;by_cases c2:k-off<acc.length
   .rw[if_pos c2]at g L;obtain⟨x,rfl,e⟩:=A _ y g;rw[e]at L;cases L;exact⟨.pure _ _ (.val _),rfl⟩
   .rw[if_neg c2,Yf]at g L;exact C _ y c (by simpa using g) L
 by_cases h0:0<l.length
 .obtain⟨b,o2,rfl,a5,U,L⟩:=hp h0
  have a3:n=1\/acc=[]:=by
   cases q:acc with
   |nil=>exact .inr rfl
   |cons c a8=>
    left
    obtain⟨_,G⟩:=t 0 c (by rw[q];rfl);have W:l[0]?=some [c]:=(by rw[List.getElem?_eq_getElem h0];have:rget l (Int.ofNat 0)=l[0]:=(by simp[rget,h0]);rw[<-this,G]);have:=U 0 _ W
    simpa using this.symm
  refine⟨_,run_copy_row P w E t2 ty e (ρ id).blk off m m ⟨b,o2,none⟩ l.length O f H d g (by simp[J,hi1]) z (by rw[s];exact M) (λj Z r=>?_) (by rw[s];omega) V|>.trans (by rw[s]),fin _ rfl⟩;obtain⟨x,rfl,e⟩:=A j Z r;have Q:j<l.length:=by have:=(Y0.1 e).1;omega
  obtain⟨_,G⟩:=t j _ e;have W:l[j]?=some [.val (.int kd x)]:=(by rw[List.getElem?_eq_getElem Q];have:rget l (Int.ofNat j)=l[j]:=(by simp[rget,Q]);rw[<-this,G]);obtain⟨v',q1,q2,_⟩:=L j _ 0 _ W rfl
  cases q2
  rw[Zbt]
  rcases a3 with rfl|hnil
  .simpa using q1
  .rw[hnil]at e;simp at e
 .have a4:l=[]:=by cases l with
   |nil=>rfl
   |cons=>simp at h0
  subst a4;have q:acc=[]:=Y8 (by rw[M];simp);subst q;have T:w=w.setRow (ρ id).blk (f.toList.take off++d++f.toList.drop (off+d.length)).toArray:=(by have:(f.toList.take off++d++f.toList.drop (off+d.length)).toArray=f:=(by simp[d]);rw[this,setRow_self w _ f H _ z]);refine⟨w,?_,fin w T⟩
  cases p with
  |none=>
   have hs:((P.info? e).map (·.size)).isSome=true:=(by simp[J]);have:=run_copy_nil P w E t2 ty e ⟨(ρ id).blk,off,none⟩ m m g hs;have Y:∀c,(Builtin.copy_ #[E,t2] ty #[.slice (some ⟨(ρ id).blk,off,none⟩) m m,.slice none 0 c]).run P w= .ok (goInt 0) w:=by intro c;simp[Builtin.copy_,run_underlying g,Builtin.lenOf,Builtin.firstCells,sizeOf,typeInfo,J,storeCells]
   simpa using Y O
  |some ad=>simp[Builtin.copy_,run_underlying g,Builtin.lenOf,Builtin.firstCells,sizeOf,typeInfo,J,storeCells,loadCells,loadCellsFrom]
def Zqb{parts:List (Nat×SV)}{len:Nat}{rows:LL}(c:Zed C parts len 0=some rows)(d:∀p∈parts,p.1<len)(i:(parts.map (·.1)).Nodup):∀p∈parts,∃s,Zec p.2=some s/\(cellsOf s).length=C.length:=by
 intro p b;obtain⟨j,e⟩:=Zeq C parts len 0 rows c;have g:p.1<rows.length:=Vg;obtain⟨k,f⟩:=e p.1 _ (List.getElem?_eq_getElem g);rw[Ye]at f
 have l:parts.find? (λq=>Nat.beq q.1 p.1)=some p:=by
  clear e j c d k f g
  induction parts with
  |nil=>simp at b
  |cons q m n=>
   simp only[List.map_cons,Yl]at i;rw[YS]
   rcases List.mem_cons.1 b with rfl|b
   .simp
   grind [Zak]
 grind
def Zkg{h:Hp}{ρ:Nat->Loc}{st:St}{a:Act}(d:∀x,Rep h ρ (a.eval x) (st.val x)):∀(b:List Operand) (c:List Value),Zn9 (b.map st.val)=some c->c=b.map a.eval
 | [],c,e=>by simp[Zn9]at e;simp[e]
 |x::b,c,e=>by
  have f:=d x;simp only[List.map_cons]at e|-;generalize st.val x=s at e f
  cases s with
  |val v=>
   simp only[Zn9]at e
   split at e
   next g i=>
    cases e
    rw[<-Zkg d b g i,f.val_inv]
   .cases e
  |_=>simp[Zn9]at e
def Zn6{kd:IntKind}:∀(m:Nat) (b:List SV),zeroL kd m b=true->b=(azero m).map λx=>SV.val (.int kd x)
 |0,[],_=>rfl
 |0,_::_,h=>by simp[zeroL]at h
 |m+1,[],h=>by simp[zeroL]at h
 |m+1,z::b,h=>by
  unfold zeroL at h
  split at h
  .simp_all
  next f d e e1 e2=>
   cases e1
   cases e2
   simp only[Bool.and_eq_true,decide_eq_true_eq]at h;obtain⟨rfl,c⟩:=h;have:=Zn6 m _ c
   grind [azero]
  .cases h
def newArr(F:FitsAt X h ρ st a w)(id:Nat)(e:idOK id=true)(c:Array Value)(t:TypeId)(d:IntKind)(m:Nat)(b:List Int)(f:b.length=m)(g:c.toList=b.map (Value.int d)):
  FitsAt X h (upd ρ id ⟨w.heap.size,0,0,0,0,false⟩) (st.bind id (.arr d m b)) a (w.alloc (.cells c t)):=
 F.newOwn id e (.arr d m b) _ (Zbs w _) Vs (λ_=>Nat.le_refl _)
  ⟨by rw[Zac],⟨c,t,by rw[Zac];show(w.heap.push _)[_]?=_;simp,f,g⟩,λo=>by rw[Zac];exact Zc4 F.sub o _ (Nat.le_refl _)⟩
def arr_store(F:FitsAt X h ρ st a w){t:TypeId}{c:IntKind}{i v:Int}(l:oget st.objs n=some (.arr c m x))(o:szT P t=some 1)(y:0<=i)(z:i<Int.ofNat m):
  ∃g,(Instr.storeAt t (.pointer (some ⟨(ρ n).blk,i.toNat,none⟩)) (.int c v)).run P w= .ok () g/\FitsAt X h ρ {st with objs:=oput st.objs n (.arr c m (aset x i v))} a g/\
   w.heap.size<=g.heap.size/\∀b,b≠(ρ n).blk->g.heap[b]?=w.heap[b]?:=by
 obtain⟨j,⟨d,ty,f,p,q⟩,hno⟩:=F.obj n _ l;have s:i.toNat<x.length:=Vg;have e:d.size=x.length:=by have:=congrArg List.length q;simpa using this
 have r:=run_storeCells_at P (ρ n).blk i.toNat ty [.int c v] 0 d w f Vm (λu id=>by simp at id;subst id;rfl)
 refine⟨_,?_,F.setOb n (.arr c m x) (.arr c m (aset x i v)) (w.setRow (ρ n).blk (d.toList.take (i.toNat+0)++[Value.int c v]++d.toList.drop (i.toNat+0+[Value.int c v].length)).toArray) l j ⟨j,⟨_,ty,setRow_heap w _ d _ ty _ f,by simp[aset];exact p,?_⟩,hno⟩
  (λb k=>setRow_other _ _ _ _ k) (Zb2 _ _ _),Vs,λb k=>setRow_other _ _ _ _ k⟩
 .simp only[Instr.storeAt,Instr.sureAddr,storeVar,Sem.run_bind,Sem.run_pure,Result.andThen_ok,run_sizeOf' w o]
  grind [Value.cells]
 .simp_all[List.length_cons,List.length_nil,Nat.add_zero,aset,List.set_eq_take_append_cons_drop,List.map_take,List.map_drop]
def arr_put(F:FitsAt X h ρ st a w){t:TypeId}{f:IntKind}{l d:List Int}{e:Array Value}(id:oget st.objs p=some (.arr f m l))(r:szT P t=some n)(D:n=m)(s:d.length=m)(j:e.toList=d.map (Value.int f)):
  ∃i,(Instr.storeAt t (.pointer (some ⟨(ρ p).blk,0,none⟩)) (.agg e)).run P w= .ok () i/\FitsAt X h ρ {st with objs:=oput st.objs p (.arr f m d)} a i/\
   w.heap.size<=i.heap.size/\∀b,b≠(ρ p).blk->i.heap[b]?=w.heap[b]?:=by
 obtain⟨k,⟨c,ty,g,A,v⟩,hno⟩:=F.obj p _ id;have C:c.size=l.length:=by have:=congrArg List.length v;simpa using this
 have y:e.size=m:=by have:=congrArg List.length j;simp at this;omega
 have z:=run_storeCells_at P (ρ p).blk 0 ty e.toList 0 c w g Vm (λu q=>by
  rw[j]at q;obtain⟨x,_,rfl⟩:=Y5.1 q
  rfl)
 refine⟨_,?_,F.setOb p (.arr f m l) (.arr f m d) (w.setRow (ρ p).blk (c.toList.take (0+0)++e.toList++c.toList.drop (0+0+e.toList.length)).toArray) id k ⟨k,⟨_,ty,setRow_heap w _ c _ ty _ g,s,?_⟩,hno⟩
  (λb o=>setRow_other _ _ _ _ o) (Zb2 _ _ _),Vs,λb o=>setRow_other _ _ _ _ o⟩
 .simp only[Instr.storeAt,Instr.sureAddr,storeVar,Sem.run_bind,Sem.run_pure,Result.andThen_ok,run_sizeOf' w r]
  grind [Value.cells]
 .simp_all
def Zn7(F:FitsAt X h ρ st a w)(Sg:FuncId->Sig)(Sv:TypeId->Sig)(o:Oper)(K:St->Prop)(g:loudC P Sg Sv o st K)(Q:Exit->Act->World->Prop):o.wp P a w (After X K o a w (Zdd Sg Sv st ρ o)) Q:=by
 have G:=F.val;unfold loudC at g
 cases hdst:dstOK o.dst with
 |false=>simp[hdst]at g
 |true=>
 simp only[hdst,cond_true]at g
 split at g
 next t A=>
  split at g
  .rename_i kd m bz;unfold Zxj at g
   split at g
   .rename_i zs d U Y;rw[Y]at hdst
    cases hzl:zeroL kd m zs with
    |false=>simp only[hzl,cond_false]at g
    |true=>
     simp only[hzl,cond_true]at g;obtain⟨v,hv,r,u⟩:=Zc8 (h:=h) (ρ:=ρ) U;have al:=Zn6 m zs hzl;obtain⟨vs,rfl,hs,bn⟩:=r.agg_inv';have a9:=Zrv (h:=h) (ρ:=ρ) (kd:=kd) (ns:=azero m) (vs:=vs) (by rw[hs,al];simp) (λi v c J h2=>bn i v c J (by rw[al];exact h2))
     have L:=(newArr F (128*d) (by simpa using Zi3 hdst (k:=0) Vo) vs t kd m (azero m) (by simp[azero]) a9).put o.dst (TRep.of_rep' (v:=.pointer (some ⟨w.heap.size,0,none⟩)) (s:=.ptr (128*d) 0) (by
      have:=Rep.ptr (h:=h) (ρ:=upd ρ (128*d) ⟨w.heap.size,0,0,0,0,false⟩) (128*d) 0
      rwa[Zac]at this))
     have j:(execOp a.eval o).run P w= .ok (.value (.pointer (some ⟨w.heap.size,0,none⟩))) (w.alloc (.cells vs t)):=(by simp[execOp,A,Instr.alloc,hv,newVar,newRow,Value.cells]);unfold Oper.wp;rw[j];exact⟨⟨_,⟨h,_,L⟩,g⟩,⟨_,rfl⟩,by show _<=(w.heap.push _).size;simp,λb u _=>Below.heap_alloc w _ b u⟩
   .exact g.elim
  split at g
  .rename_i z d U Y;rw[Y]at hdst;obtain⟨v,hv,r,u⟩:=Zc8 (h:=h) (ρ:=ρ) U;obtain⟨hl,hc⟩:=Ze1 r u
   have L:=(F.newBox (128*d) (by simpa using Zi3 hdst (k:=0) Vo) v.cells t (cellsOf z) hl hc).put o.dst (TRep.of_rep' (v:=.pointer (some ⟨w.heap.size,0,none⟩)) (s:=.ptr (128*d) 0) (by
    have:=Rep.ptr (h:=h) (ρ:=upd ρ (128*d) ⟨w.heap.size,0,0,0,0,false⟩) (128*d) 0
    rwa[Zac]at this))
   have j:(execOp a.eval o).run P w= .ok (.value (.pointer (some ⟨w.heap.size,0,none⟩))) (w.alloc (.cells v.cells t)):=(by simp[execOp,A,Instr.alloc,hv,newVar,newRow]);unfold Oper.wp;rw[j];exact⟨⟨_,⟨h,_,L⟩,g⟩,⟨_,rfl⟩,by show _<=(w.heap.push _).size;simp,λb u _=>Below.heap_alloc w _ b u⟩
  .exact g.elim
 next t x A=>
  split at g
  next kd m ns aj=>
   have E:st.val x= .arr kd m ns:=by
    unfold arrOf at aj
    split at aj
    next hh=>cases aj;exact hh
    .cases aj
   unfold arrBox at g
   split at g
   .rename_i d Y;rw[Y]at hdst;have O:=G x;rw[E]at O;obtain⟨vs,bo,hm,a9⟩:=O.arr_inv
    have L:=(newArr F (128*d) (by simpa using Zi3 hdst (k:=0) Vo) vs t kd m ns hm a9).put o.dst (TRep.of_rep' (v:=.pointer (some ⟨w.heap.size,0,none⟩)) (s:=.ptr (128*d) 0) (by
     have:=Rep.ptr (h:=h) (ρ:=upd ρ (128*d) ⟨w.heap.size,0,0,0,0,false⟩) (128*d) 0
     rwa[Zac]at this))
    have j:(execOp a.eval o).run P w= .ok (.value (.pointer (some ⟨w.heap.size,0,none⟩))) (w.alloc (.cells vs t)):=(by simp[execOp,A,bo,Instr.box,newVar,newRow,Value.cells]);unfold Oper.wp;rw[j];exact⟨⟨_,⟨h,_,L⟩,g⟩,⟨_,rfl⟩,by show _<=(w.heap.push _).size;simp,λb u _=>Below.heap_alloc w _ b u⟩
   .exact g.elim
  split at g
  .rename_i d Y;rw[Y]at hdst
   cases u:boxL (cellsOf (st.val x))with
   |false=>simp[u]at g
   |true=>
    simp only[u,cond_true]at g;obtain⟨hl,hc⟩:=Ze1 (G x) u
    have L:=(F.newBox (128*d) (by simpa using Zi3 hdst (k:=0) Vo) (a.eval x).cells t (cellsOf (st.val x)) hl hc).put o.dst (TRep.of_rep' (v:=.pointer (some ⟨w.heap.size,0,none⟩)) (s:=.ptr (128*d) 0) (by
     have:=Rep.ptr (h:=h) (ρ:=upd ρ (128*d) ⟨w.heap.size,0,0,0,0,false⟩) (128*d) 0
     rwa[Zac]at this))
    have j:(execOp a.eval o).run P w= .ok (.value (.pointer (some ⟨w.heap.size,0,none⟩))) (w.alloc (.cells (a.eval x).cells t)):=(by simp[execOp,A,Instr.box,newVar,newRow]);unfold Oper.wp;rw[j];exact⟨⟨_,⟨h,_,L⟩,g⟩,⟨_,rfl⟩,by show _<=(w.heap.push _).size;simp,λb u _=>Below.heap_alloc w _ b u⟩
  .exact g.elim
 next t x y A=>
  split at g
  rotate_left
  .rename_i id i E U;unfold Zxk at g
   split at g
   .rename_i kd m ns an v N a3;by_cases Z:kd=an
    .subst Z;simp only[decide_true,cond_true]at g;obtain⟨⟨h0,J⟩,g⟩:=g;have O:=G x;rw[E]at O;have a0:=O.aptr_inv;have a5:=G y;rw[a3]at a5;obtain⟨R,j,L,H,D⟩:=arr_store (P:=P) (t:=t) (v:=v) F N U h0 J;have C:(execOp a.eval o).run P w= .ok .skip R:=(by simp[execOp,A,a0,a5.val_inv,j]);unfold Oper.wp;rw[C];refine⟨⟨_,⟨h,ρ,L.put o.dst (TRep.rep_unk _ _)⟩,g⟩,⟨_,rfl⟩,H,λb _ M=>D b (λe=>?_)⟩;obtain⟨T,e1,e2⟩:=Za6 M;simp only[touch,A,E]at e1
     cases e1
     exact e2 id Vs ⟨⟨_,N⟩,(F.obj id _ N).1⟩ e.symm
    .simp[Z]at g
   next cs kd v N a3=>
    split at g
    .rename_i ns bg;obtain⟨⟨h0,J⟩,g⟩:=g;have a7:=Zmf bg;subst a7;have O:=G x;rw[E]at O;have a0:=O.aptr_inv;have a5:=G y;have J:i<ns.length:=by rw[Zaz]at J;simpa using J
     obtain⟨R,j,L,H,D⟩:=Zmk F N U a5 (by rw[a3];rfl) (by rw[a3];rfl) (by rw[a3];exact Ztv kd i v ns h0 J);have C:(execOp a.eval o).run P w= .ok .skip R:=(by simp[execOp,A,a0,j]);unfold Oper.wp;rw[C];refine⟨⟨_,⟨h,ρ,L.put o.dst (TRep.rep_unk _ _)⟩,g⟩,⟨_,rfl⟩,H,λb _ M=>D b (λe=>?_)⟩;obtain⟨T,e1,e2⟩:=Za6 M;simp only[touch,A,E]at e1
     cases e1
     exact e2 id Vs ⟨⟨_,N⟩,(F.obj id _ N).1⟩ e.symm
    .exact g.elim
   .exact g.elim
  rotate_right
  next id off n E U=>
   split at g
   next cs N=>
    cases u:(boxL (cellsOf (st.val y))&&Nat.beq (lenN (cellsOf (st.val y))) n)with
    |false=>simp[u]at g
    |true=>
     simp only[u,cond_true]at g;simp only[Bool.and_eq_true]at u
     split at g
     .rename_i a2 a4;have O:=G x;rw[E]at O;have a0:=O.ptr_inv;obtain⟨R,j,L,H,D⟩:=Zmk F N U (G y) u.1 (Nat.eq_of_beq_eq_true u.2) a4;have C:(execOp a.eval o).run P w= .ok .skip R:=(by simp[execOp,A,a0,j]);unfold Oper.wp;rw[C];refine⟨⟨_,⟨h,ρ,L.put o.dst (TRep.rep_unk _ _)⟩,g⟩,⟨_,rfl⟩,H,λb _ M=>D b (λe=>?_)⟩;obtain⟨T,e1,e2⟩:=Za6 M;simp only[touch,A,E]at e1
      cases e1
      exact e2 id Vs ⟨⟨_,N⟩,(F.obj id _ N).1⟩ e.symm
     .exact g.elim
   .rename_i kd m ns N;unfold arrPut at g
    split at g
    next an m' c0 a3=>
     cases u:(decide (kd=an)&&Nat.beq m m'&&Nat.beq off 0&&Nat.beq n m)with
     |false=>simp only[u,cond_false]at g
     |true=>
      simp only[u,cond_true]at g;simp only[Bool.and_eq_true,decide_eq_true_eq]at u;obtain⟨⟨⟨rfl,b1⟩,b2⟩,b3⟩:=u;have J:m=m':=Nat.eq_of_beq_eq_true b1;have h2:off=0:=Nat.eq_of_beq_eq_true b2;have h3:n=m:=Nat.eq_of_beq_eq_true b3;subst J h2;have O:=G x;rw[E]at O;have a0:=O.ptr_inv;have a5:=G y;rw[a3]at a5;obtain⟨vs,bp,hm,a9⟩:=a5.arr_inv;obtain⟨R,j,L,H,D⟩:=arr_put (P:=P) (t:=t) F N U h3 hm a9;have C:(execOp a.eval o).run P w= .ok .skip R:=(by simp[execOp,A,a0,bp,j]);unfold Oper.wp;rw[C];refine⟨⟨_,⟨h,ρ,L.put o.dst (TRep.rep_unk _ _)⟩,g⟩,⟨_,rfl⟩,H,λb _ M=>D b (λe=>?_)⟩;obtain⟨T,e1,e2⟩:=Za6 M;simp only[touch,A,E]at e1
      cases e1
      exact e2 id Vs ⟨⟨_,N⟩,(F.obj id _ N).1⟩ e.symm
    .exact g.elim
   .exact g.elim
  next id e i off n E U=>
   split at g
   next sz rows z s N c1 hs=>
    cases u:(Nat.beq z sz&&Nat.beq (lenN (cellsOf s)) n)with
    |false=>simp[u]at g
    |true=>
     simp only[u,cond_true]at g;simp only[Bool.and_eq_true]at u;have al:z=sz:=Nat.eq_of_beq_eq_true u.1;subst al;have ap:(cellsOf s).length=n:=by rw[<-Zaz];exact Nat.eq_of_beq_eq_true u.2
     obtain⟨⟨h0,J⟩,g⟩:=g;obtain⟨h',a6,F'⟩:=F.pureOps [y];have O:=G x;rw[E]at O;obtain⟨aq,a0⟩:=O.eptr_inv
     have fin:∀cs a2,rows[i.toNat]?=some cs->Zbj off (cellsOf s) cs=some a2->K (({pureOps [y] st with objs:=oput (pureOps [y] st).objs id (.own z (rset rows i a2))}:St).put o.dst .unk)->
       o.wp P a w (After X K o a w (Zdd Sg Sv st ρ o)) Q:=by
      intro cs a2 ad a4 Z;obtain⟨R,j,L,H,D⟩:=own_store F' N U (F'.val y) hs ap h0 J ad a4 aq;have C:(execOp a.eval o).run P w= .ok .skip R:=(by simp[execOp,A,a0,j]);unfold Oper.wp;rw[C];refine⟨⟨_,⟨h',ρ,L.put o.dst (TRep.rep_unk _ _)⟩,Z⟩,⟨_,rfl⟩,H,λb _ M=>D b (λe=>?_)⟩;obtain⟨T,e1,e2⟩:=Za6 M;simp only[touch,A,E]at e1
      cases e1
      exact e2 id Vs ⟨Zg1 _ N,aq⟩ e.symm
     cases hfull:(Nat.beq n z&&Nat.beq off 0)with
     |true=>
      simp only[hfull,cond_true]at g;simp only[Bool.and_eq_true]at hfull;have c4:=Nat.eq_of_beq_eq_true hfull.1;have bb:=Nat.eq_of_beq_eq_true hfull.2;subst bb;have b4:i.toNat<rows.length:=by simp only[rlen]at J;simp at J;omega
      have aa:(rows[i.toNat]).length=z:=by
       rcases F'.obj id _ N with⟨b0,_⟩|⟨_,ok⟩
       .rw[aq]at b0;cases b0
       .exact ok.hrow _ _ (List.getElem?_eq_getElem b4)
      have bc:∀(vs l:List SV),vs.length=l.length->Zbj 0 vs l=some vs:=by
       intro vs
       induction vs with
       |nil=>intro l e;cases l with
        |nil=>rfl
        |cons=>simp at e
       |cons v vs ih=>intro l e;cases l with
        |nil=>simp at e
        |cons y l=>simp[Zbj,ih l (by simpa using e)]
      exact fin _ _ (List.getElem?_eq_getElem b4) (bc _ _ Vo) g
     |false=>
      simp only[hfull,cond_false]at g;obtain⟨cs,_,a7,Z⟩:=Zfb _ _ _ g;obtain⟨_,ad⟩:=Zme h0 J a7
      split at Z
      next a2 a4=>exact fin cs a2 ad a4 Z
      .exact Z.elim
   .exact g.elim
  .exact g.elim
 next t len parts A=>
  split at g
  .rename_i e d hu Y;rw[Y]at hdst
   split at g
   next z U=>
    cases u:(Zb9 P e&&Nat.ble (len*lenN z) 16777216&&Nat.beq (lenN z) ((szT P e).getD 0)&&parts.toList.all (λp=>Nat.blt p.1 len)&&Zbw (parts.toList.map (·.1)))with
    |false=>simp only[u,cond_false]at g
    |true=>
     simp only[u,cond_true]at g;simp only[Bool.and_eq_true,List.all_eq_true,Zaz]at u;obtain⟨⟨⟨⟨bq,br⟩,bs⟩,bt⟩,bu⟩:=u
     split at g
     .rename_i rows ak;obtain⟨h',a6,F'⟩:=F.pureOps (parts.toList.map (·.2));have b6:((parts.toList.map λp=>(p.1,(pureOps (parts.toList.map (·.2)) st).val p.2)).map (·.1)).Nodup:=by rw[List.map_map];exact Za0 bu
      have b7:∀p∈(parts.toList.map λp=>(p.1,(pureOps (parts.toList.map (·.2)) st).val p.2)),p.1<len:=λp hp=>by obtain⟨q,hq,rfl⟩:=Y5.1 hp;exact Nat.le_of_ble_eq_true (bt q hq)
      obtain⟨cs,j,aa,ag⟩:=Zm7 (P:=P) (ρ:=ρ) F'.sub (vparts:=parts.map λ(i,x)=>(i,a.eval x)) hu U bq (Nat.le_of_ble_eq_true br) (Nat.eq_of_beq_eq_true bs) b7 b6 ak Vs (λi p q hp hq=>by
       simp at hp hq;obtain⟨m,n,e1,rfl⟩:=hp;obtain⟨m',n',e2,rfl⟩:=hq;rw[e1]at e2
       cases e2
       exact⟨rfl,F'.val n⟩) (Zqb ak b7 b6)
      have a1:=Zi3 hdst (k:=64) Vo;have L:=F'.newOwn (128*d+64) a1 (.own z.length rows) ⟨w.heap.size,0,rows.length,len,z.length,false⟩ (Zbs w _) Vs (λ_=>Nat.le_refl _) (.inr ⟨by rw[Zac],by rw[Zac];exact ag⟩);have hr:=Rep.osl (h:=h') (ρ:=upd ρ (128*d+64) ⟨w.heap.size,0,rows.length,len,z.length,false⟩) (128*d+64) (by rw[Zac]);rw[Zac,aa]at hr;have C:(execOp a.eval o).run P w= .ok (.value (.slice (some ⟨w.heap.size,0,none⟩) len len)) (w.alloc (.cells cs e)):=(by simp only[execOp,A,Sem.run_bind,j,Result.andThen_ok];rfl);unfold Oper.wp;rw[C];rw[Zaz]at g;refine⟨⟨_,⟨h',_,L.put o.dst (TRep.of_rep' ?_)⟩,g⟩,⟨_,rfl⟩,(Zbs w _).size,λb u _=>Below.heap_alloc w _ b u⟩;rw[aa];exact hr
     .exact g.elim
   .exact g.elim
  .exact g.elim
 next t l c A=>
  split at g
  .rename_i e d n m hu Y bh a7;rw[Y]at hdst
   split at g
   next z U=>
    cases u:(Zb9 P e&&Nat.beq (lenN z) ((szT P e).getD 0))with
    |false=>simp only[u,cond_false]at g
    |true=>simp only[u,cond_true]at g;simp only[Zaz]at g;simp only[Bool.and_eq_true,Zaz]at u;obtain⟨⟨h0,J,h2⟩,g⟩:=g;obtain⟨cs,j,ag⟩:=Zo7 (P:=P) F.sub hu U u.1 (Nat.eq_of_beq_eq_true u.2) h0 J h2;have hl:=G l;rw[bh]at hl;have hc:=G c;rw[a7]at hc;have a1:=Zi3 hdst (k:=64) Vo;have L:=F.newOwn (128*d+64) a1 (.own z.length (rrep n z)) ⟨w.heap.size,0,(rrep n z).length,m.toNat,z.length,false⟩ (Zbs w (.cells cs e)) Vs (λ_=>Nat.le_refl _) (.inr ⟨by rw[Zac],by rw[Zac];exact ag⟩);have hr:=Rep.osl (h:=h) (ρ:=upd ρ (128*d+64) ⟨w.heap.size,0,(rrep n z).length,m.toNat,z.length,false⟩) (128*d+64) (by rw[Zac]);rw[Zac]at hr;have aa:(rrep n z).length=n.toNat:=(by simp[rrep]);have C:(execOp a.eval o).run P w= .ok (.value (.slice (some ⟨w.heap.size,0,none⟩) n.toNat m.toNat)) (w.alloc (.cells cs e)):=(by simp only[execOp,A,hl.val_inv,hc.val_inv,Sem.run_bind,j,Result.andThen_ok];rfl);unfold Oper.wp;rw[C];refine⟨⟨_,⟨h,_,L.put o.dst (TRep.of_rep' ?_)⟩,g⟩,⟨_,rfl⟩,(Zbs w _).size,λb u _=>Below.heap_alloc w _ b u⟩;simp only[aa]at hr|-;exact hr
   .exact g.elim
  .exact g.elim
 next t r A=>
  split at g
  .rename_i kt et d hu Y;rw[Y]at hdst;have a1:=Zi3 hdst (k:=64) Vo;have go:K ((st.bind (128*d+64) (.mp [])).put o.dst (.omp (128*d+64)))->(execOp a.eval o).run P w= .ok (.value (.map (some w.heap.size))) (w.alloc (.map #[] 0))->o.wp P a w (After X K o a w (Zdd Sg Sv st ρ o)) Q:=by intro Z j;have L:=F.newOwn (128*d+64) a1 (.mp []) ⟨w.heap.size,0,0,0,0,false⟩ (Zbs w (.map #[] 0)) Vs (λ_=>Nat.le_refl _) ⟨by rw[Zac],⟨#[],0,by rw[Zac];show(w.heap.push _)[_]?=_;simp,by simp[MapOK]⟩,λo=>by rw[Zac];exact Zc4 F.sub o _ (Nat.le_refl _)⟩;have hr:=Rep.omp (h:=h) (ρ:=upd ρ (128*d+64) ⟨w.heap.size,0,0,0,0,false⟩) (128*d+64);rw[Zac]at hr;unfold Oper.wp;rw[j];exact⟨⟨_,⟨h,_,L.put o.dst (TRep.of_rep' hr)⟩,Z⟩,⟨_,rfl⟩,(Zbs w _).size,λb u _=>Below.heap_alloc w _ b u⟩
   split at g
   .rename_i a8;have bx:r=none:=by cases r<;>simp at a8;rfl
    subst bx;exact go g (by simp[execOp,A,Instr.makeMap,newObj,Sem.run])
   next kd n a8=>
    cases r with
    |none=>simp at a8
    |some y=>simp at a8;have hy:=G y;rw[a8]at hy;exact go g (by simp[execOp,A,Instr.makeMap,newObj,Sem.run,run_underlying hu,hy.val_inv,asInt,asIntOf])
   .exact g.elim
  .exact g.elim
 next t m k v A=>
  split at g
  next kt et id s n hu az bi ao=>
   split at g
   .rename_i es bj N;have J:=G m;rw[az]at J;have h2:=G k;rw[bi]at h2;have h3:=G v;rw[ao]at h3;obtain⟨R,j,L,H,D⟩:=map_store (P:=P) F (n:=n) (s:=s) hu bj N;have C:(execOp a.eval o).run P w= .ok .skip R:=(by simp[execOp,A,J.omp_inv,h2.val_inv,h3.val_inv,j]);unfold Oper.wp;rw[C];refine⟨⟨_,⟨h,ρ,L.put o.dst (TRep.rep_unk _ _)⟩,g⟩,⟨_,rfl⟩,H,λb _ M=>D b (λe=>?_)⟩;obtain⟨T,e1,e2⟩:=Za6 M;simp only[touch,A,az]at e1
    cases e1
    exact e2 id Vs ⟨⟨_,N⟩,(F.obj id _ N).1⟩ e.symm
   .exact g.elim
  .exact g.elim
 next bk bl x A=>
  split at g
  next e s hs Y E=>
   split at g
   next d he bm=>rw[bm]at hdst;have J:=G x;rw[E]at J;obtain⟨v,R,j,⟨ab,L,hr⟩,H,D⟩:=Zxw (P:=P) F hs Y he (Zi3 hdst (k:=64) Vo) g.1;have C:(execOp a.eval o).run P w= .ok (.value v) R:=(by simp[execOp,A,J.val_inv,j]);unfold Oper.wp;rw[C];exact⟨⟨_,⟨h,ab,L.put o.dst (TRep.of_rep' hr)⟩,g.2⟩,⟨_,rfl⟩,H,λb u _=>D b u⟩
   .exact g.elim
  next e e' id hs Y E=>
   split at g
   next sz rows he N=>
    cases u:(Nat.beq bk bl&&Nat.beq sz 1)with
    |false=>simp only[u,cond_false]at g
    |true=>
     simp only[u,cond_true]at g;simp only[Bool.and_eq_true]at u;have e1:=Nat.eq_of_beq_eq_true u.1;have e2:=Nat.eq_of_beq_eq_true u.2;subst e1;subst e2;have J:=G x;rw[E]at J;obtain⟨R,j,L,H,hn,D⟩:=Zxx (P:=P) F hs he N J g.1;have C:(execOp a.eval o).run P w= .ok (.value (a.eval x)) R:=(by simp[execOp,A,j]);unfold Oper.wp;rw[C];refine⟨⟨_,⟨h,ρ,L.put o.dst (TRep.of_rep' J)⟩,g.2⟩,⟨_,rfl⟩,H,λb u M=>D b (λe=>?_)⟩;obtain⟨T,q1,q2⟩:=Za6 M;simp only[touch,A,E]at q1
     cases q1
     exact q2 id Vs ⟨⟨_,N⟩,hn⟩ e.symm
   .exact g.elim
  .exact g.elim
 next x y t1 t2 A=>
  split at g
  .rename_i e d ai ys hu Y V;rw[Y]at hdst
   split at g
   next z U=>
    cases u:(Zb9 P e&&srcOK z ai)with
    |false=>simp only[u,cond_false]at g
    |true=>
     simp only[u,cond_true]at g;simp only[Bool.and_eq_true]at u;have a1:=Zi3 hdst (k:=64) Vo
     split at g
     next id E=>
      split at g
      next sz rows N=>
       cases hzz:Nat.beq z sz with
       |false=>simp only[hzz,cond_false]at g
       |true=>
        simp only[hzz,cond_true]at g;have:=Nat.eq_of_beq_eq_true hzz;subst this;have J:=G x;rw[E]at J;obtain⟨v,R,j,⟨ab,L,hr⟩,H,D⟩:=Zx8 (P:=P) (ty:=o.type) F hu U u.1 V (G y) u.2 N J g.1 a1;have C:(execOp a.eval o).run P w= .ok (.value v) R:=(by simp[execOp,A,resolve,invoke,builtin,j]);unfold Oper.wp;rw[C];refine⟨⟨_,⟨h,ab,L.put o.dst (TRep.of_rep' hr)⟩,g.2⟩,⟨_,rfl⟩,H,λb am M=>D b am (λhl=>?_)⟩;obtain⟨T,e1,e2⟩:=Za6 M;simp only[touch,A,E]at e1
        cases e1
        exact e2 id Vs hl
      .exact g.elim
     next sz E=>have J:=G x;rw[E]at J;obtain⟨v,R,j,⟨ab,L,hr⟩,H,D⟩:=append_nil (P:=P) (ty:=o.type) F hu U u.1 V (G y) u.2 J g.1 a1;have C:(execOp a.eval o).run P w= .ok (.value v) R:=(by simp[execOp,A,resolve,invoke,builtin,j]);unfold Oper.wp;rw[C];exact⟨⟨_,⟨h,ab,L.put o.dst (TRep.of_rep' hr)⟩,g.2⟩,⟨_,rfl⟩,H,λb am _=>D b am⟩
     .exact g.elim
   .exact g.elim
  .exact g.elim
 next x y t1 t2 A=>
  split at g
  next e id off m zz ys hu E V=>
   split at g
   next cs kd U N he=>
    cases u:Nat.ble m 4 with
    |false=>simp only[u,cond_false]at g
    |true=>
     simp only[u,cond_true]at g
     have ar:∃ai,Zki st.objs (st.val y)=some (ai,ys):=by
      unfold Zi9 at V
      split at V
      .simp at V;exact⟨_,V⟩
      .simp at V
      .cases V
     obtain⟨ai,ar⟩:=ar;have J:=G x;rw[E]at J
     have ah:imin (rlen ys) (Int.ofNat m)=((min ys.length m:Nat):Int):=by
      have bd:∀p q:Int,imin p q=min p q:=λp q=>by unfold imin;rw[Int.min_def];split<;>split<;>omega
      rw[bd];show min (ys.length:Int) (m:Int)=_;omega
     obtain⟨acc,Z,bv,b8⟩:=Zr8 m [] g (by rw[ah];simp) (by rw[ah];simp;omega) Vs;rw[ah]at bv
     split at Z
     .rename_i a2 a4;obtain⟨R,j,L,H,D⟩:=copy_box (P:=P) (t2:=t2) (ty:=o.type) (acc:=acc) (m:=m) F hu U N ar (G y) (kd:=kd) b8 Vo a4;have C:(execOp a.eval o).run P w= .ok (.value (goInt acc.length)) R:=(by simp[execOp,A,resolve,invoke,builtin,J.bsl_inv,j]);unfold Oper.wp;rw[C];rw[Zaz]at Z;refine⟨⟨_,⟨h,ρ,L.put o.dst (TRep.of_rep' (.pure _ _ (.val _)))⟩,Z⟩,⟨_,rfl⟩,H,λb _ M=>D b (λe=>?_)⟩;obtain⟨T,e1,e2⟩:=Za6 M;simp only[touch,A,E]at e1
      cases e1
      exact e2 id Vs ⟨⟨_,N⟩,(F.obj id _ N).1⟩ e.symm
     .exact Z.elim
   .exact g.elim
  .exact g.elim
 next f W c2 A=>
  split at g
  .exact g.elim
  next fn hf=>
   split at g
   .split at g
    next vs ao=>obtain⟨v,hr,Z⟩:=Ziq g;have ha:=Zkg G _ _ ao;have j:(execOp a.eval o).run P w= .ok (.value v) w:=(by have:=hr w;rw[show vs.toArray=W.map a.eval from by subst ha;cases W;simp]at this;simp[execOp,A,resolve,Act.eval,Deferred.ofValue,invoke,this]);unfold Oper.wp;rw[j];exact⟨Goes.put F o.dst (.pure _ _ (.val _)) Z,⟨_,rfl⟩,Nat.le_refl _,λb _ _=>rfl⟩
    .exact g.elim
   obtain⟨h',a6,F'⟩:=F.frzAll (Zde st.objs (Sg f).ps 0 (W.toList.map st.val))
   obtain⟨g1,g2⟩:=Znf (P:=P) F F' a6 f (Sg f) fn.params.toList fn.resultTypes.toList _ [] (W.map a.eval) #[] o.dst K Vs (λi v s hv hs=>by
    simp at hv hs;obtain⟨x,au,rfl⟩:=hv;obtain⟨x',ac,rfl⟩:=hs;rw[au]at ac;cases ac
    exact F'.val x) rfl Vs g
   simp only[Array.append_empty]at g1 g2;have j:(execOp a.eval o).run P w= .ok (.enter f (W.map a.eval)) w:=(by simp[execOp,A,resolve,Act.eval,Deferred.ofValue,invoke,g1]);unfold Oper.wp;rw[j];refine Calls.mono g2 λe bf he=>?_;obtain⟨v,rfl,hg,H,av⟩:=he;refine⟨hg,⟨_,rfl⟩,H,λb u M=>av b u (λid hm hl=>?_)⟩;obtain⟨T,e1,e2⟩:=Za6 M;simp only[touch,A]at e1
   cases e1
   obtain⟨⟨o',aw⟩,ax⟩:=hl;exact e2 id hm ⟨Zg1 _ aw,ax⟩
 next t W ae A=>
  split at g
  .rename_i f af ap;obtain⟨h',a6,F'⟩:=F.frzAll (Zde st.objs (Sv o.type).ps 0 (W.toList.map st.val));have ay:=G (.tmp t);rw[ap]at ay
   have be:∃cv:Array Value,a.eval (.tmp t)= .func (.func f) #[] cv/\cv.size=af.length/\∀(i:Nat) v s,cv[i]?=some v->af[i]?=some s->PRep h v s:=by
    generalize a.eval (.tmp t)=v at ay
    cases ay with
    |pure _ _ hp=>cases hp with
     |clo _ vs _ hl hc=>exact⟨vs,rfl,hl,hc⟩
   obtain⟨cv,bw,b9,ba⟩:=be
   obtain⟨g1,g2⟩:=Znf (P:=P) F F' a6 f (Sv o.type) ae.toList _ _ af (W.map a.eval) cv o.dst K Vs (λi v s hv hs=>by
    simp at hv hs;obtain⟨x,au,rfl⟩:=hv;obtain⟨x',ac,rfl⟩:=hs;rw[au]at ac;cases ac
    exact F'.val x) b9 (λi v s hv hs=>(ba i v s hv hs).mono a6) g
   have j:(execOp a.eval o).run P w= .ok (.enter f (W.map a.eval++cv)) w:=(by simp[execOp,A,resolve,bw,Deferred.ofValue,invoke,g1]);unfold Oper.wp;rw[j];refine Calls.mono g2 λe bf he=>?_;obtain⟨v,rfl,hg,H,av⟩:=he;refine⟨hg,⟨_,rfl⟩,H,λb u M=>av b u (λid hm hl=>?_)⟩;obtain⟨T,e1,e2⟩:=Za6 M;simp only[touch,A]at e1
   cases e1
   obtain⟨⟨o',aw⟩,ax⟩:=hl;exact e2 id hm ⟨Zg1 _ aw,ax⟩
  .exact g.elim
 .exact g.elim
end
end Go.Px
namespace Go.Px
open Go.RowKit
section
variable{X:Cx}{h:Hp}{ρ:Nat->Loc}{st:St}{a:Act}{w:World}{P:Program}
def Zje(F:FitsAt X h ρ st a w)(k:FuncId->Sig)(l:TypeId->Sig)(o:Oper)(d:List (Nat×Bool)->Operand->SV)
  (f:∀j x,(∀g∈j,a.tmps.getD g.1 undef= .bool g.2)->Rep h ρ (a.eval x) (d j x)) (K:St->Prop) (i:loud P o.op=false)
  (b:exec P k l o d st K):∃v,(∀e,SameB (fblk P a o) w e->(execOp a.eval o).run P e= .ok (.value v) e)/\Goes X K (a.put o.dst v) w:=by
 unfold exec at b
 split at b
 .rename_i C m;obtain⟨v,c,p⟩:=view_calm F o K i m b
  grind
 .simp only[i,cond_false]at b
  split at b
  next s n=>obtain⟨v,c,r⟩:=Zhj F o d f n;exact⟨v,c,_,⟨h,ρ,F.put o.dst (TRep.of_rep' r)⟩,b⟩
  grind [Ztw]
def Zm8(F:FitsAt X h ρ st a w)(e:FuncId->Sig)(f:TypeId->Sig)(o:Oper)(j:List (Nat×Bool)->Operand->SV)
  (n:∀q x,(∀g∈q,a.tmps.getD g.1 undef= .bool g.2)->Rep h ρ (a.eval x) (j q x)) (K:St->Prop)
  (c:exec P e f o j st K) (Q:Exit->Act->World->Prop):o.wp P a w (After X K o a w (Zdd e f st ρ o)) Q:=by
 cases i:loud P o.op with
 |true=>
  unfold exec at c
  split at c
  .rename_i C y;obtain⟨v,t,d,k,r,l⟩:=view_loud F o K i y c;unfold Oper.wp;rw[d];refine⟨k,⟨_,rfl⟩,r,λb J p=>?_⟩
   rcases l with⟨id,l,z⟩|rfl
   .obtain⟨A,e1,e2⟩:=Za6 p;rw[l]at e1;cases e1;exact z b ‹_› (λi=>e2 id Vs i)
   .rfl
  .simp only[i,cond_true]at c
   cases hk:(kmode st&&constB o)with
   |false=>rw[hk,cond_false]at c;exact Zn7 F e f o K c Q
   |true=>rw[hk,cond_true]at c;refine Oper.wp_mono (λM t u=>?_) (Zn7 F e f o _ c Q);obtain⟨⟨L,⟨N,s,D⟩,E⟩,m⟩:=u;obtain⟨G,_,H⟩:=D.pureOps (dstL o.dst);exact⟨⟨_,⟨G,s,H⟩,E⟩,m⟩
 |false=>obtain⟨v,d,k⟩:=Zje F e f o j n K i c;unfold Oper.wp;rw[d w (SameB.refl _ w)];exact⟨k,⟨_,rfl⟩,Nat.le_refl _,λ_ _ _=>rfl⟩
def chain_holds(F:FitsAt X h ρ st a w):∀(n:Nat) (g:Nat×Bool),a.tmps.getD g.1 undef= .bool g.2->∀c∈chain st n g,a.tmps.getD c.1 undef= .bool c.2
 |0,_,_=>by simp[chain]
 |n+1,g,hg=>by
  intro c b;simp only[chain,List.mem_cons]at b
  rcases b with rfl|b
  .exact hg
  .split at b
   .rename_i t e x d;rw[Zcn]at d
    cases hs:st.tmps[g.1]? with
    |none=>simp[hs]at d
    |some s=>
     simp[hs]at d;subst d;have r:=F.tm g.1 _ hs
     rcases r with⟨f,_⟩|⟨_,h2⟩
     .exact chain_holds F n (t,e) f c b
     .rw[hg]at h2;simp[undef]at h2
   .simp at b
theorem Zqm(c:Array Oper)(d:Array Value)(j t:Nat)(e:(c[j]?).bind (·.dst)=some t)(b:Bool):(yielded c d j==some b)=true↔d.getD t undef= .bool b:=by
 unfold yielded;simp only[e,Option.bind_some];rw[Array.getD_eq_getD_getElem?]
 cases hx:d[t]? with
 |none=>simp[undef]
 |some v=>
  grind
def Zuq(t:Nat)(b:Bool):∀(d:List SV) (i:Nat),(fixL t b d)[i]?=(d[i]?).map (λs=>match s with| .gd t' w v=>(bif Nat.beq t t' then(bif w==b then v else .gd t' w v)else .gd t' w v)|s=>s)
 | [],i=>by simp[fixL]
 |c::d,0=>by cases c<;>simp[fixL]
 |c::d,i+1=>by
  have:=Zuq t b d i
  cases c<;>simpa[fixL]using this
def Zk8(t:Nat)(b:Bool):∀(d:List SV),(fixL t b d).length=d.length
 | []=>rfl
 |c::d=>by cases c<;>simp[fixL,Zk8 t b d]
def FitsAt.fix(F:FitsAt X h ρ st a w)(t:Nat)(b:Bool)(e:a.tmps.getD t undef= .bool b):FitsAt X h ρ (st.fix t b) a w:=by
 refine{F with size:=?_,tm:=λi s c=>?_}
 .simp[St.fix,Zer,Zk8,F.size]
 .simp only[St.fix,Zer]at c;rw[List.getElem?_set]at c;by_cases hti:t=i
  .subst hti;simp only[if_true]at c
   split at c
   .cases c;rw[e];exact TRep.of_rep' (.pure _ _ (.val _))
   .cases c
  .simp only[hti,if_false,Zuq]at c
   cases hx:st.tmps[i]? with
   |none=>simp[hx]at c
   |some x=>
    simp[hx]at c;have r:=F.tm i x hx
    split at c
    .rename_i f d v;by_cases htt:t=f
     .subst htt;simp only[Y6,cond_true]at c
      cases hwb:(d==b)with
      |false=>simp only[hwb,cond_false]at c;subst c;exact r
      |true=>
       simp only[hwb,cond_true]at c;subst c;have:d=b:=Vg;subst this
       rcases r with⟨_,r⟩|⟨hne,_⟩
       .exact TRep.of_rep' r
       grind
     grind [Zak]
    grind
def Zm9{b:Array Oper}{o:Oper}{j t:Nat}{c:Bool}(e:o.guard=some (j,c))(d:(b[j]?).bind (·.dst)=some t):
  Region.wanted o (yielded b a.tmps)=true↔a.tmps.getD t undef= .bool c:=by
 grind [Region.wanted,Zqm]
def Zur{b:Array Oper}{j t:Nat}{c d:Bool}(h:gdst b (some (j,c))=some (t,d)):(b[j]?).bind (·.dst)=some t/\c=d:=by
 unfold gdst at h;simp only[]at h
 split at h
 next f e=>simp at h;exact⟨by rw[e,h.1],h.2⟩
 .cases h
def Zc2(e:FuncId->Sig)(f:TypeId->Sig)(d:Array Oper)(st:St)(ρ:Nat->Loc)(o:Oper)(b:Nat):Prop:=
 ∀c,Zoa e f d st o=some c->∃id∈c,live st.objs ρ id/\(ρ id).blk=b
def FitsAt.gd_slot(F:FitsAt X h ρ st a w)(b:lget st.tmps n= .gd m o u):(a.tmps.getD m undef= .bool o/\Rep h ρ (a.tmps.getD n undef) u)\/(a.tmps.getD m undef≠ .bool o/\a.tmps.getD n undef=undef):=by
 rw[Zcn]at b
 cases hx:st.tmps[n]? with
 |none=>rw[hx]at b;simp at b
 |some x=>rw[hx]at b;simp only[Yk]at b;subst b;exact F.tm n _ hx
def Zk9:∀(n:Nat) (st:St) (t:Nat) (w:Bool),(St.fixC n st t w).objs=st.objs
 |0,st,t,w=>rfl
 |n+1,st,t,w=>by
  unfold St.fixC
  split
  .exact Zk9 n st _ _
  .rfl
def Zhe(F:FitsAt X h ρ st a w):∀(n t:Nat) (d:Bool) (g no:St->Prop),Zxm n t d st g no->
  (a.tmps.getD t undef= .bool d/\FitsAt X h ρ (St.fixC n st t d) a w/\g (St.fixC n st t d))\/(a.tmps.getD t undef≠ .bool d/\∃i,FitsAt X h ρ i a w/\no i)
 |0,t,d,g,no,hx=>hx.elim
 |n+1,t,d,g,no,hx=>by
  unfold Zxm at hx;unfold St.fixC
  split at hx
  .rename_i b j;have f:a.tmps.getD t undef= .bool b:=(by have:=F.slot [] Vs t;rw[j]at this;exact this.val_inv);simp only[j];by_cases e:b=d
   .subst e;exact .inl ⟨f,F.fix t b f,by cases b<;>exact hx⟩
   .refine .inr ⟨λc=>by rw[f]at c;injection c with c;exact e c,st.fix t b,F.fix t b f,?_⟩
    cases b<;>cases d<;>first|exact absurd rfl e|exact hx
  .rename_i l w2 b j;simp only[j];have o:=F.gd_slot j
   rcases Zhe F n l w2 _ _ hx with⟨p,k,m⟩|⟨p,i,k,hn⟩
   .have f:a.tmps.getD t undef= .bool b:=by
     rcases o with⟨_,q⟩|⟨hne,_⟩
     .exact q.val_inv
     grind
    by_cases e:b=d
    .subst e;exact .inl ⟨f,k.fix t b f,by cases b<;>exact m⟩
    .refine .inr ⟨λc=>by rw[f]at c;injection c with c;exact e c,(St.fixC n st l w2).fix t b,k.fix t b f,?_⟩
     cases b<;>cases d<;>first|exact absurd rfl e|exact m
   .have r:a.tmps.getD t undef=undef:=by
     grind
    exact .inr ⟨λc=>by rw[r]at c;simp[undef]at c,i,k,hn⟩
  grind
def Zqn(F:FitsAt X h ρ st a w)(l:FuncId->Sig)(m:TypeId->Sig)(d:Array Oper)(o:Oper)(K:St->Prop)(f:aop P l m d o st K)(Q:Exit->Act->World->Prop):
  if Region.wanted o (yielded d a.tmps)then o.wp P a w (After X K o a w (Zc2 l m d st ρ o)) Q else Goes X K (a.put o.dst undef) w:=by
 unfold aop at f
 split at f
 .rename_i y;simp only[Region.wanted,y,if_true]
  have e:Zc2 l m d st ρ o=Zdd l m st ρ o:=by
   grind [Zc2,Zdd,Zoa]
  rw[e];exact Zm8 F l m o _ (λD x y=>F.operand D y x) K f Q
 next g y=>
  split at f
  .exact f.elim
  .rename_i t wt E;obtain⟨j,i⟩:=g;obtain⟨U,rfl⟩:=Zur E;have z:=Zm9 (a:=a) y U
   split at f
   next s T=>
    cases hl:loud P o.op with
    |true=>simp[hl]at T
    |false=>
     simp only[hl,cond_false]at T;by_cases c:Region.wanted o (yielded d a.tmps)=true
     .rw[if_pos c];have p:=z.1 c
      obtain⟨v,V,r⟩:=Zhj F o _ (λD x O=>F.operand (D++chain st 4 (t,i)) (λg M=>by
       rcases List.mem_append.1 M with M|M
       .grind
       .exact chain_holds F 4 (t,i) p g M) x) T
      unfold Oper.wp;rw[V w (SameB.refl _ w)];exact⟨⟨_,⟨h,ρ,F.put o.dst (s:=.gd t i s) (.inl ⟨p,r⟩)⟩,f⟩,⟨_,rfl⟩,Nat.le_refl _,λ_ _ _=>rfl⟩
     .rw[if_neg c];exact⟨_,⟨h,ρ,F.put o.dst (s:=.gd t i s) (.inr ⟨λe=>c (z.2 e),rfl⟩)⟩,f⟩
   .have A:∀{q:St} {b:Bool},FitsAt X h ρ q a w->q.objs=st.objs->Zc2 l m d st ρ o=Zdd l m (q.fix t i) ρ o->a.tmps.getD t undef= .bool b->aopB P l m o t i b q K->
      if Region.wanted o (yielded d a.tmps)then o.wp P a w (After X K o a w (Zc2 l m d st ρ o)) Q else Goes X K (a.put o.dst undef) w:=by
     intro q b F a0 et n f;by_cases c:Region.wanted o (yielded d a.tmps)=true
     .rw[if_pos c];have e:=z.1 c;rw[n]at e;have G:b=i:=(by injection e);have u:=F.fix t i (by rw[n,G]);rw[et];refine Zm8 u l m o _ (λD x O=>u.operand D O x) K ?_ Q;subst G
      cases b<;>exact f
     .rw[if_neg c]
      have G:b=!i:=by
       cases b<;>cases i<;>first|rfl|exact absurd (z.2 n) c
      have u:=F.fix t (!i) (by rw[n,G]);refine⟨_,⟨h,ρ,u.put o.dst (s:=.gd t i (.val (.bool true))) (.inr ⟨λe=>c (z.2 e),rfl⟩)⟩,?_⟩;subst G
      cases i<;>exact f
    split at f
    next b p=>have n:a.tmps.getD t undef= .bool b:=(by have:=F.slot [] Vs t;rw[p]at this;exact this.val_inv);refine A F rfl ?_ n f;unfold Zc2 Zdd Zoa St.fixN St.fixC;simp only[y,E,p];rfl
    next k w2 b p=>
     split at f
     .rename_i C R;have H:a.tmps.getD k undef= .bool C:=(by have:=F.slot [] Vs k;rw[R]at this;exact this.val_inv);have J:=F.gd_slot p;by_cases e2:C=w2
      .subst e2
       have n:a.tmps.getD t undef= .bool b:=by
        rcases J with⟨_,W⟩|⟨hne,_⟩
        .exact W.val_inv
        grind
       refine A (F.fix k C H) rfl ?_ n ?_
       .unfold Zc2 Zdd Zoa St.fixN St.fixC;simp only[y,E,p];unfold St.fixC;simp only[R];rfl
       .cases C<;>exact f
      .have Y:a.tmps.getD t undef=undef:=by
        grind
       have L:¬Region.wanted o (yielded d a.tmps)=true:=λc=>by have:=z.1 c;rw[Y]at this;simp[undef]at this
       rw[if_neg L];refine⟨_,⟨h,ρ,(F.fix k C H).put o.dst (s:=.gd k w2 (.val (.bool true))) (.inr ⟨λN=>by rw[H]at N;injection N with N;exact e2 N,rfl⟩)⟩,?_⟩
       cases C<;>cases w2<;>first|exact absurd rfl e2|exact f
     .have J:=F.gd_slot p
      rcases Zhe F 4 k w2 _ _ f with⟨Z,u,hy⟩|⟨Z,st',u,hn⟩
      .have n:a.tmps.getD t undef= .bool b:=by
        rcases J with⟨_,W⟩|⟨hne,_⟩
        .exact W.val_inv
        grind
       refine A u (Zk9 4 st k w2) ?_ n hy;have e5:St.fixC 5 st t i=(St.fixC 4 st k w2).fix t i:=(by grind [St.fixC]);have ho:((St.fixC 4 st k w2).fix t i).objs=st.objs:=Zk9 4 st k w2
       grind [Zc2,Zdd,Zoa,St.fixN]
      .have Y:a.tmps.getD t undef=undef:=by
        grind
       have L:¬Region.wanted o (yielded d a.tmps)=true:=λc=>by have:=z.1 c;rw[Y]at this;simp[undef]at this
       rw[if_neg L];exact⟨_,⟨h,ρ,u.put o.dst (s:=.gd k w2 (.val (.bool true))) (.inr ⟨Z,rfl⟩)⟩,hn⟩
     grind
    grind
def aop_calm(F:FitsAt X h ρ st a w)(G:FuncId->Sig)(H:TypeId->Sig)(ops:Array Oper)(o:Oper)(K:St->Prop)(O:loud P o.op=false)(d:aop P G H ops o st K):
  ∃v,(Region.wanted o (yielded ops a.tmps)=true->∀k,SameB (fblk P a o) w k->(execOp a.eval o).run P k= .ok (.value v) k)/\
   (Region.wanted o (yielded ops a.tmps)=false->v=undef)/\Goes X K (a.put o.dst v) w:=by
 unfold aop at d
 split at d
 .rename_i J;obtain⟨v,n,Z⟩:=Zje F G H o _ (λz x J=>F.operand z J x) K O d
  grind [Region.wanted]
 next g J=>
  split at d
  .exact d.elim
  .rename_i t wt V;obtain⟨j,f⟩:=g;obtain⟨Q,rfl⟩:=Zur V;have q:=Zm9 (a:=a) J Q
   split at d
   .rename_i s W;simp only[O,cond_false]at W;by_cases c:Region.wanted o (yielded ops a.tmps)=true
    .have l:=q.1 c
     obtain⟨v,n,r⟩:=Zhj F o _ (λz x N=>F.operand (z++chain st 4 (t,f)) (λg L=>by
      rcases List.mem_append.1 L with L|L
      .grind
      .exact chain_holds F 4 (t,f) l g L) x) W
     exact⟨v,λ_=>n,λe=>by(rw[c]at e;cases e),_,⟨h,ρ,F.put o.dst (s:=.gd t f s) (.inl ⟨l,r⟩)⟩,d⟩
    .exact⟨undef,λe=>absurd e c,λ_=>rfl,_,⟨h,ρ,F.put o.dst (s:=.gd t f s) (.inr ⟨λe=>c (q.2 e),rfl⟩)⟩,d⟩
   .have T:∀{y:St} {b:Bool},FitsAt X h ρ y a w->a.tmps.getD t undef= .bool b->aopB P G H o t f b y K->
      ∃v,(Region.wanted o (yielded ops a.tmps)=true->∀k,SameB (fblk P a o) w k->(execOp a.eval o).run P k= .ok (.value v) k)/\
       (Region.wanted o (yielded ops a.tmps)=false->v=undef)/\Goes X K (a.put o.dst v) w:=by
     intro y b F i d;by_cases c:Region.wanted o (yielded ops a.tmps)=true
     .have e:=q.1 c;rw[i]at e;have A:b=f:=(by injection e);have p:=F.fix t f (by rw[i,A]);obtain⟨v,n,Z⟩:=Zje p G H o _ (λz x N=>p.operand z N x) K O (by subst A;cases b<;>exact d)
      grind
     .have A:b=!f:=by
       cases b<;>cases f<;>first|rfl|exact absurd (q.2 i) c
      have p:=F.fix t (!f) (by rw[i,A]);refine⟨undef,λe=>absurd e c,λ_=>rfl,_,⟨h,ρ,p.put o.dst (s:=.gd t f (.val (.bool true))) (.inr ⟨λe=>c (q.2 e),rfl⟩)⟩,?_⟩;subst A
      cases f<;>exact d
    split at d
    .rename_i b l;have i:a.tmps.getD t undef= .bool b:=by have:=F.slot [] Vs t;rw[l]at this;exact this.val_inv
     grind
    next m w2 b l=>
     split at d
     .rename_i u Y;have C:a.tmps.getD m undef= .bool u:=(by have:=F.slot [] Vs m;rw[Y]at this;exact this.val_inv);have D:=F.gd_slot l;by_cases e2:u=w2
      .subst e2
       have i:a.tmps.getD t undef= .bool b:=by
        rcases D with⟨_,R⟩|⟨hne,_⟩
        .exact R.val_inv
        grind
       refine T (F.fix m u C) i ?_
       cases u<;>exact d
      .have U:a.tmps.getD t undef=undef:=by
        grind
       have E:¬Region.wanted o (yielded ops a.tmps)=true:=λc=>by have:=q.1 c;rw[U]at this;simp[undef]at this
       refine⟨undef,λe=>absurd e E,λ_=>rfl,_,⟨h,ρ,(F.fix m u C).put o.dst (s:=.gd m w2 (.val (.bool true))) (.inr ⟨λM=>by rw[C]at M;injection M with M;exact e2 M,rfl⟩)⟩,?_⟩
       cases u<;>cases w2<;>first|exact absurd rfl e2|exact d
     .have D:=F.gd_slot l
      rcases Zhe F 4 m w2 _ _ d with⟨h1,p,hy⟩|⟨h1,st',p,hn⟩
      .have i:a.tmps.getD t undef= .bool b:=by
        rcases D with⟨_,R⟩|⟨hne,_⟩
        .exact R.val_inv
        grind
       grind
      .have U:a.tmps.getD t undef=undef:=by
        grind
       have E:¬Region.wanted o (yielded ops a.tmps)=true:=λc=>by have:=q.1 c;rw[U]at this;simp[undef]at this
       exact⟨undef,λe=>absurd e E,λ_=>rfl,_,⟨h,ρ,p.put o.dst (s:=.gd m w2 (.val (.bool true))) (.inr ⟨h1,rfl⟩)⟩,hn⟩
     grind
    grind
end
section
variable{X:Cx}{P:Program}
def Fr(b:List Nat)(a c:Act):Prop:=∀t,t∉b->c.tmps.getD t undef=a.tmps.getD t undef
theorem Fr.refl(b:List Nat)(a:Act):Fr b a a:=λ_ _=>rfl
def Fr.trans{d:List Nat}{a b c:Act}(x:Fr d a b)(y:Fr d b c):Fr d a c:=λt e=>(y t e).trans (x t e)
def Fr.mono{d c:List Nat}{a b:Act}(x:Fr d a b)(h:∀t,t∈d->t∈c):Fr c a b:=λt e=>x t λf=>e (h t f)
def Fr.put{c:List Nat}{a b:Act}(x:Fr c a b){d:Option Nat}(g:∀t,d=some t->t∈c)(v:Value):Fr c a (b.put d v):=by
 cases d with
 |none=>exact x
 |some d=>intro t f;rw[<-x t f];exact getD_set_ne' v (λe=>f (e▸g d rfl))
def Zdt(f:FuncId->Sig)(g:TypeId->Sig)(b:Array Oper)(Q:Exit->Act->World->Prop)(K:St->Prop)(c:List Nat)(i:Act)(m:∀st a w,Fits X st a w->Fr c i a->K st->Q .normal a w):
  ∀(l:List Oper) (st:St) (a:Act) (w:World),(∀o∈l,∀t,o.dst=some t->t∈c)->Fr c i a->Fits X st a w->vcOps P f g b l st K->wpList P b Q l a w
 | [],st,a,w,_,hr,F,hv=>m st a w F hr hv
 |o::rest,st,a,w,hd,hr,⟨h,ρ,F⟩,hv=>by
  have:=Zqn F f g b o _ hv Q;have j:=hd o Vs;have k:∀o∈rest,∀t,o.dst=some t->t∈c:=λo r=>hd o (by simp[r]);simp only[wpList]
  split
  next n=>rw[if_pos n]at this;exact .inl (Oper.wp_mono (λa' w' ⟨⟨d,p,q⟩,⟨u,e⟩,_⟩=>Zdt f g b Q K c i m rest d a' w' k (by rw[e];exact hr.put j u) p q) this)
  next n=>rw[if_neg n]at this;obtain⟨d,p,q⟩:=this;exact Zdt f g b Q K c i m rest d _ w k (hr.put j _) p q
end
end Go.Px
namespace Go.Px
open Go.RowKit
section
variable{ops:Array Oper}
structure RegOK(ops:Array Oper):Prop where
 uniq:∀(i k:Nat) d,dstOf ops i=some d->dstOf ops k=some d->i=k
 back:∀(k:Nat) o,ops[k]?=some o->∀e∈o.after,Region.binds .any e=true->e.on<k
 sel:∀(k:Nat) o cs b,ops[k]?=some o->o.op≠ .select cs b
 sep:∀(k i:Nat) o p,ops[k]?=some o->ops[i]?=some p->i≠k->Zbd i o=true\/Zbd k p=true\/∀d,p.dst=some d->d∉o.looksAt ops
def Zet:∀(l:List Oper),(l.filterMap (·.dst)).Nodup->∀(i k:Nat) d,(l[i]?).bind (·.dst)=some d->(l[k]?).bind (·.dst)=some d->i=k
 | [],_,i,k,d,hi,_=>by simp at hi
 |o::l,hn,i,k,d,hi,hk=>by
  cases ho:o.dst with
  |none=>
   simp only[WA,ho]at hn
   cases i with
   |zero=>simp[ho]at hi
   |succ i=>cases k with
    |zero=>simp[ho]at hk
    |succ k=>rw[Zet l hn i k d (by simpa using hi) (by simpa using hk)]
  |some x=>
   simp only[WA,ho,Yl]at hn
   have a:∀j:Nat,(l[j]?).bind (λq:Oper=>q.dst)=some x->False:=λj b=>by
    grind
   cases i with
   |zero=>
    grind
   |succ i=>cases k with
    |zero=>simp[ho]at hk;subst hk;exact(a i (by simpa using hi)).elim
    |succ k=>rw[Zet l hn.2 i k d (by simpa using hi) (by simpa using hk)]
def Zjb(h:Zfr ops=true):RegOK ops:=by
 simp only[Zfr,Bool.and_eq_true,List.all_eq_true,WD]at h;obtain⟨m,f⟩:=h;have lt:∀{k:Nat} {o:Oper},ops[k]?=some o->k<ops.size:=λe=>(Y3.1 e).1;refine⟨λi k d c a=>?_,λk o a e g q=>?_,λk o r b a e=>?_,λk i o p a c n=>?_⟩
 .exact Zet ops.toList (Za0 m) i k d (by simpa[dstOf]using c) (by simpa[dstOf]using a)
 .have:=f k (lt a);simp only[a,Bool.and_eq_true,List.all_eq_true]at this;have:=this.1.1 e (by simpa using g)
  simp_all
 .grind
 .have:=f k (lt a);simp only[a,Bool.and_eq_true,List.all_eq_true,WD]at this;have:=this.2 i (lt c);simp only[c,Bool.or_eq_true]at this
  rcases this with(h3|h3)|h3
  .simp_all
  .exact .inl h3
  .rcases h3 with h3|h3
   .grind
   .refine .inr (.inr λd j l=>?_);rw[j]at h3;simp only[Ym,YU]at h3;have:=h3 d l;simp at this
def Zhv{i:Nat}{o:Oper}:Zbd i o=true↔∃e∈o.after,Region.binds .any e=true/\e.on=i:=by
 simp only[Zbd,List.any_eq_true,Bool.and_eq_true]
 simp_all
def Zep(ops:Array Oper)(l:Array Bool):Prop:=l.size=ops.size/\∀(k:Nat) o,ops[k]?=some o->l.getD k false=true->∀i,Zbd i o=true->l.getD i false=true
def In(l:Array Bool)(k:Nat):Prop:=l.getD k false=true
theorem Zfe{l:Array Bool}{i k:Nat}(a:i<l.size):In (l.setIfInBounds i true) k↔k=i\/In l k:=by
 unfold In;by_cases h:k=i
 .simp_all
 .have:(l.setIfInBounds i true).getD k false=l.getD k false:=by simp[Yc (YP h)]
  grind
theorem Zff{l:Array Bool}(m:l.size=ops.size):n∈Region.ready .any ops l↔¬In l n/\∃o,ops[n]?=some o/\∀j,Zbd j o=true->In l j:=by
 rw[mem_ready];constructor
 .rintro⟨h,o,d,a⟩;have f:n<l.size:=Vg;refine⟨λk=>?_,o,d,λj g=>?_⟩
  .grind [In]
  .obtain⟨e,b,c,rfl⟩:=Zhv.1 g;exact a e b c
 .rintro⟨h,o,d,a⟩;have f:n<l.size:=Vg;refine⟨?_,o,d,λe b c=>a e.on (Zhv.2 ⟨e,b,c,rfl⟩)⟩
  grind [In]
def ready_nil(R:RegOK ops){l:Array Bool}(c:l.size=ops.size)(h:Region.ready .any ops l=[]):∀k,k<ops.size->In l k:=by
 intro k
 induction k using Nat.strongRecOn with
 |_ k i=>
  intro a;by_cases hin:In l k
  .exact hin
  .exfalso
   have:k∈Region.ready .any ops l:=(Zff c).2 ⟨hin,ops[k],Y1 a,λj d=>by
    obtain⟨e,f,g,rfl⟩:=Zhv.1 d;have b:=R.back k _ (Y1 a) e f g
    exact i e.on b Vo⟩
   grind
def Zep.set{l:Array Bool}{o:Oper}(c:Zep ops l)(g:ops[n]?=some o)(h:∀j,Zbd j o=true->In l j):Zep ops (l.setIfInBounds n true):=by
 have f:n<l.size:=(by grind [c.1]);refine⟨by simp[c.1],λk p b d j e=>?_⟩;have a:In (l.setIfInBounds n true) k:=d;show In (l.setIfInBounds n true) j;rw[Zfe f]at a|-
 rcases a with rfl|a
 .grind
 .exact .inr (c.2 k p b a j e)
def wr(ops:Array Oper)(l:Array Bool)(t:Nat):Option Nat:=(List.range ops.size).find? λk=>l.getD k false&&(dstOf ops k==some t)
theorem Zm2(R:RegOK ops){l:Array Bool}{t k:Nat}(d:In l k)(c:dstOf ops k=some t):wr ops l t=some k:=by
 have a:k<ops.size:=by
  grind [dstOf]
 cases h:wr ops l t with
 |none=>
  have:=List.find?_eq_none.1 h k (by simpa using a)
  grind [In]
 |some j=>have b:=Wq h;simp only[Bool.and_eq_true,beq_iff_eq]at b;rw[R.uniq j k t b.2 c]
theorem Zjw{l:Array Bool}(h:∀k,In l k->dstOf ops k≠some n):wr ops l n=none:=by
 rw[wr,List.find?_eq_none];intro k _;simp only[Bool.and_eq_true,beq_iff_eq];rintro⟨a,b⟩;exact h k a b
theorem Zoe{l:Array Bool}{t k:Nat}(h:wr ops l t=some k):In l k/\dstOf ops k=some t:=by
 have a:=Wq h;simp only[Bool.and_eq_true,beq_iff_eq]at a;exact a
def slotV(ops:Array Oper)(a:Act)(u:Nat->Value)(l:Array Bool)(t:Nat):Value:=
 match wr ops l t with
 |some k=>u k
 |none=>a.tmps.getD t undef
def actOf(ops:Array Oper)(a0:Act)(u:Nat->Value)(l:Array Bool):Act:=
 {tmps:=((List.range a0.tmps.size).map (slotV ops a0 u l)).toArray,defers:=a0.defers}
def Zb6(a:Act)(u:Nat->Value)(l:Array Bool)(t:Nat):(actOf ops a u l).tmps.getD t undef=if t<a.tmps.size then slotV ops a u l t else undef:=by
 simp only[actOf];by_cases h:t<a.tmps.size
 .simp[h]
 .simp[h]
def Zjc(R:RegOK ops)(a:Act)(u:Nat->Value)(l:Array Bool)(i:Nat)(o:Oper)(c:ops[i]?=some o)(g:l.size=ops.size)(f:¬In l i)(v:Value):
  (actOf ops a u l).put o.dst v=actOf ops a (λk=>if k=i then v else u k) (l.setIfInBounds i true):=by
 have e:i<l.size:=Vg
 have b:∀t,o.dst≠some t->slotV ops a (λk=>if k=i then v else u k) (l.setIfInBounds i true) t=slotV ops a u l t:=by
  grind [dstOf,slotV,wr,Zoe,Zm2,Zfe,Zjw]
 cases hd:o.dst with
 |none=>
  simp_all[Act.put,actOf]
 |some d=>
  simp only[Act.put];unfold actOf;congr 1;apply Array.ext';simp only[Array.toList_setIfInBounds];apply List.ext_getElem?;intro t;rw[List.getElem?_set];by_cases hdt:d=t
  .subst hdt;by_cases hlt:d<a.tmps.size
   .simp[hlt];have:wr ops (l.setIfInBounds i true) d=some i:=Zm2 R ((Zfe e).2 (.inl rfl)) (by simp[dstOf,c,hd])
    grind [slotV]
   .simp[hlt]
  .simp only[hdt,if_false];by_cases hlt:t<a.tmps.size
   .simp_all
   .simp[hlt]
def env_eq(R:RegOK ops){a0:Act}{u:Nat->Value}{l a:Array Bool}{i:Nat}{o:Oper}(m:ops[i]?=some o)(c:Zep ops l)(w:Zep ops a)
  (d:∀j,Zbd j o=true->In l j) (q:∀j,Zbd j o=true->In a j) (b:¬In l i) (r:¬In a i) (t:Nat) (x:t∈o.looksAt ops):
  (actOf ops a0 u l).tmps.getD t undef=(actOf ops a0 u a).tmps.getD t undef:=by
 rw[Zb6,Zb6]
 split
 .unfold slotV
  have s:∀{l:Array Bool},Zep ops l->(∀j,Zbd j o=true->In l j)->¬In l i->∀k,dstOf ops k=some t->(In l k↔Zbd k o=true):=by
   intro l c d b k n
   cases hp:ops[k]? with
   |none=>simp[dstOf,hp]at n
   |some p=>
    have v:p.dst=some t:=(by grind [dstOf]);constructor
    .intro f;have g:k≠i:=λe=>b (e▸f)
     rcases R.sep i k o p m hp g with h|h|h
     .exact h
     .exact absurd (c.2 k p hp f i h) b
     grind
    .exact d k
  grind [wr,Zoe,Zm2,Zjw]
 .rfl
def Zk4{a b:Act}{o:Oper}(h:∀t∈o.looksAt ops,a.tmps.getD t undef=b.tmps.getD t undef):∀x∈o.op.operands,a.eval x=b.eval x:=by
 intro x c
 cases x with
 |tmp t=>exact h t (YY _ (YF.2 ⟨.tmp t,by simpa using c,rfl⟩))
 |_=>rfl
def Zg4{a c:Act}{o:Oper}(h:∀t∈o.looksAt ops,a.tmps.getD t undef=c.tmps.getD t undef)(f:a.tmps.size=c.tmps.size):Region.wanted o (yielded ops a.tmps)=Region.wanted o (yielded ops c.tmps):=by
 unfold Region.wanted
 cases hg:o.guard with
 |none=>rfl
 |some d=>
  obtain⟨g,b⟩:=d
  have:yielded ops a.tmps g=yielded ops c.tmps g:=by
   unfold yielded
   cases ht:(ops[g]?).bind (·.dst)with
   |none=>rfl
   |some t=>
    have e:=h t (YH _ (by simp[hg,ht]));simp only[Option.bind_some];rw[Array.getD_eq_getD_getElem?,Array.getD_eq_getD_getElem?]at e
    grind
  grind
end
section
variable{X:Cx}{P:Program}{ops:Array Oper}
def Owed(P:Program)(ops:Array Oper)(a0:Act)(u:Nat->Value)(w:World)(k:Nat)(o:Oper):Prop:=
 loud P o.op=false/\∀l,Zep ops l->(∀j,Zbd j o=true->In l j)->¬In l k->
  (Region.wanted o (yielded ops (actOf ops a0 u l).tmps)=true->∀a,SameB (fblk P (actOf ops a0 u l) o) w a->(execOp (actOf ops a0 u l).eval o).run P a= .ok (.value (u k)) a)/\
  (Region.wanted o (yielded ops (actOf ops a0 u l).tmps)=false->u k=undef)
structure Sim(P:Program)(Sg:FuncId->Sig)(Sv:TypeId->Sig)(ops:Array Oper)(X:Cx)(a0:Act)(K:St->Prop)(u:Nat->Value)(la lc:Array Bool)(n:Nat)(st:St)(w:World):Prop where
 ca:Zep ops la
 cc:Zep ops lc
 sub:∀k,In la k->In lc k
 fits:Fits X st (actOf ops a0 u lc) w
 owed:∀(k:Nat) o,ops[k]?=some o->In lc k->¬In la k->Owed P ops a0 u w k o
 vcs:vcAny P Sg Sv ops n lc st K
def Zm3:∀{l:List Nat} {f:Nat->Prop},Zul l f->∀i∈l,f i
 | [],_,_,i,h=>by cases h
 | [j],f,h,i,hi=>by simp at hi;subst hi;exact h
 |j::k::l,f,h,i,hi=>by
  rcases List.mem_cons.1 hi with rfl|hi
  .exact h.1
  .exact Zm3 h.2 i hi
theorem Zkk{o:Op}{x:Operand}(h:Zbx P o=some x):x∈o.operands:=by
 unfold Zbx at h
 grind [Op.operands,Call.operands]
def Zqi{a b:Act}{o:Oper}(h:∀x∈o.op.operands,a.eval x=b.eval x):fblk P a o=fblk P b o:=by
 grind [fblk,Zkk]
def Zcj(a:Act)(u:Nat->Value)(l:Array Bool):(actOf ops a u l).tmps.size=a.tmps.size:=by simp[actOf]
def Zhw{a0:Act}{u a:Nat->Value}{l:Array Bool}(h:∀k,In l k->a k=u k):actOf ops a0 a l=actOf ops a0 u l:=by
 unfold actOf;congr 2;apply List.map_congr_left
 grind [slotV,wr,Zoe]
def Owed.of_env(R:RegOK ops){a0:Act}{u:Nat->Value}{w:World}{o:Oper}(f:ops[n]?=some o)(i:loud P o.op=false){l:Array Bool}(c:Zep ops l)
  (m:∀j,Zbd j o=true->In l j) (k:¬In l n)
  (r:Region.wanted o (yielded ops (actOf ops a0 u l).tmps)=true->∀e,SameB (fblk P (actOf ops a0 u l) o) w e->(execOp (actOf ops a0 u l).eval o).run P e= .ok (.value (u n)) e)
  (s:Region.wanted o (yielded ops (actOf ops a0 u l).tmps)=false->u n=undef):Owed P ops a0 u w n o:=by
 refine⟨i,λt p g h=>?_⟩;have a:=env_eq R (a0:=a0) (u:=u) f c p m g k h;have d:=Zk4 a;rw[<-execOp_congr o (λq b=>R.sel n o q b f) d,<-Zqi d,<-Zg4 a (by rw[Zcj,Zcj])]
 grind
def Sim.calm(R:RegOK ops){r:FuncId->Sig}{s:TypeId->Sig}{a0:Act}{K:St->Prop}{u:Nat->Value}{E a:Array Bool}{n:Nat}{G:St}{w:World}(S:Sim P r s ops X a0 K u E a (n+1) G w)
  {i:Nat} {o:Oper} (g:ops[i]?=some o) (T:i∈Region.ready .any ops a) (H:loud P o.op=false)
  (U:aop P r s ops o G λd=>vcAny P r s ops n (a.setIfInBounds i true) d K):
  ∃M d,(∀k,In a k->M k=u k)/\Sim P r s ops X a0 K M E (a.setIfInBounds i true) n d w:=by
 obtain⟨m,o',A,N⟩:=(Zff S.cc.1).1 T;rw[g]at A;cases A;have x:i<a.size:=(by grind [S.cc.1]);obtain⟨h,ρ,F⟩:=S.fits;obtain⟨v,h1,h2,d,W,y⟩:=aop_calm F r s ops o _ H U
 have O:∀k,In a k->(λk=>if k=i then v else u k) k=u k:=λk y=>by
  grind
 have Z:=Zhw (ops:=ops) (a0:=a0) O;refine⟨λk=>if k=i then v else u k,d,O,S.ca,S.cc.set g N,λk y=>(Zfe x).2 (.inr (S.sub k y)),?_,λk p q J L=>?_,y⟩
 .rw[<-Zjc R a0 u a i o g S.cc.1 m v];exact W
 .rcases(Zfe x).1 J with rfl|hkl
  .rw[g]at q;cases q;refine Owed.of_env R g H S.cc N m ?_ ?_
   .grind
   grind
  .have a3:k≠i:=λe=>m (e▸hkl);obtain⟨Y,g2⟩:=S.owed k p q hkl L;refine⟨Y,λl c a1 z=>?_⟩
   have f:∀t∈p.looksAt ops,(actOf ops a0 (λk=>if k=i then v else u k) l).tmps.getD t undef=(actOf ops a0 u l).tmps.getD t undef:=by
    intro t ht;rw[Zb6,Zb6]
    split
    .unfold slotV
     cases hw:wr ops l t with
     |none=>rfl
     |some j=>
      obtain⟨C,a2⟩:=Zoe hw
      have Q:j≠i:=by
       intro e;subst e;have a4:o.dst=some t:=by grind [dstOf]
       rcases R.sep k j p o q g (λe=>z (e▸C))with h|h|h
       .exact m (S.cc.2 k p q hkl j h)
       .exact z (c.2 j o g C k h)
       grind
      simp[Q]
    .rfl
   have D:=Zk4 f;rw[execOp_congr p (λV b=>R.sel k p V b q) D,Zqi D,Zg4 f (by rw[Zcj,Zcj])]
   grind
def blkOf:Value->Option Nat
 | .pointer (some ad)=>some ad.block
 | .map (some r)=>some r
 | .slice (some ad) (_+1) _=>some ad.block
 |_=>none
def fblk_some{a:Act}{o:Oper}{b:Nat}(h:fblk P a o=some b):∃x,Zbx P o.op=some x/\blkOf (a.eval x)=some b:=by
 unfold fblk at h
 split at h
 .cases h
 next x c=>exact⟨x,c,h⟩
def Zsc{A:St}{h:Hp}{z:Nat->Loc}{a:Act}{w:World}(F:FitsAt X h z A a w){u:List Nat}{y:Operand}(D:Zem A.objs u (ev A y)=true)
  {b:Nat} (j:blkOf (a.eval y)=some b):b<w.heap.size/\∀id∈u,live A.objs z id->(z id).blk≠b:=by
 have own:∀d,(!(u.any (Nat.beq d)))=true->live A.objs z d->b=(z d).blk->b<w.heap.size/\∀id∈u,live A.objs z id->(z id).blk≠b:=by intro d J N e;subst e;obtain⟨⟨o,l⟩,C⟩:=N;refine⟨ObOK.blk_lt (F.obj d _ l) C,λid R M=>F.inj id d M ⟨⟨o,l⟩,C⟩ λe=>?_⟩;subst e;simp only[Ym,YU]at J;have:=J id R;simp at this
 have E:∀x v,h b x=some v->b<w.heap.size/\∀id∈u,live A.objs z id->(z id).blk≠b:=λx v e=>by
  refine⟨F.sub.lt e,λid _ ⟨⟨o,l⟩,C⟩ e'=>?_⟩;have:=(F.obj id o l).hno C x
  grind
 have G:∀s,Zem A.objs u s=true->Rep h z (a.eval y) s->b<w.heap.size/\∀id∈u,live A.objs z id->(z id).blk≠b:=by
  intro s
  cases s with
  |ptr d off=>
   intro k r;simp only[Zem,Bool.and_eq_true]at k;rw[r.ptr_inv]at j;simp[blkOf]at j;have q:=k.2
   split at q
   next o l=>exact own d k.1 ⟨⟨_,l⟩,(F.obj d _ l).1⟩ j.symm
   next T m U l=>exact own d k.1 ⟨⟨_,l⟩,(F.obj d _ l).1⟩ j.symm
   .cases q
  |aptr d i=>
   intro k r;simp only[Zem,Bool.and_eq_true]at k;rw[r.aptr_inv]at j;simp[blkOf]at j;have q:=k.2
   split at q
   next o l=>exact own d k.1 ⟨⟨_,l⟩,(F.obj d _ l).1⟩ j.symm
   next T m U l=>exact own d k.1 ⟨⟨_,l⟩,(F.obj d _ l).1⟩ j.symm
   .cases q
  |eptr d e i off=>
   intro k r;simp only[Zem,Bool.and_eq_true]at k;obtain⟨C,H⟩:=r.eptr_inv;rw[H]at j;simp[blkOf]at j;have q:=k.2
   split at q
   next o l=>exact own d k.1 ⟨⟨_,l⟩,C⟩ j.symm
   .cases q
  |osl d=>
   intro k r;simp only[Zem,Bool.and_eq_true]at k;have q:=k.2
   split at q
   next o l=>
    rcases r.osl_inv with⟨_,p,H⟩|⟨C,H⟩
    .simp_all[blkOf]
    .rw[H]at j
     have:(z d).blk=b:=by
      cases hln:(z d).len with
      |zero=>rw[hln]at j;simp[blkOf]at j
      |succ n=>rw[hln]at j;simpa[blkOf]using j
     exact own d k.1 ⟨⟨_,l⟩,C⟩ this.symm
   .cases q
  |omp d=>
   intro k r;simp only[Zem,Bool.and_eq_true]at k;rw[r.omp_inv]at j;simp[blkOf]at j;have q:=k.2
   split at q
   next o l=>exact own d k.1 ⟨⟨_,l⟩,(F.obj d _ l).1⟩ j.symm
   .cases q
  |ref off cells=>
   intro k r
   cases cells with
   |nil=>simp[Zem]at k
   |cons c V=>
    generalize a.eval y=v at r j
    cases r with
    |pure _ _ K=>
     cases K with
     |ref W Y _ _ Z L hr=>simp[blkOf]at j;subst j;exact E _ _ (L 0 c rfl)
  |slice sz rows a1=>
   intro k r;generalize a.eval y=v at r j
   cases r with
   |pure _ _ K=>
    cases K with
    |empty p Q _ _ ht h1 C=>cases p<;>simp[blkOf]at j
    |slice W off Q _ _ _ Z a0 hz L hr l ht h1 a2=>
     cases rows with
     |nil=>simp[blkOf]at j
     |cons r rs=>simp[blkOf]at j;subst j;have N:=hz 0 r rfl;have O:0<r.length:=Vo;exact E _ _ (L 0 r 0 r[0] rfl (List.getElem?_eq_getElem O))
  |gd t b s=>intro k r;exact r.not_gd.elim
  |_=>intro k;simp[Zem]at k
 cases y with
 |tmp t=>
  simp only[ev,Zcn]at D
  cases hx:A.tmps[t]? with
  |none=>simp[hx,Zem]at D
  |some s=>
   simp only[hx,Yk]at D;have r:=F.tm t s hx;by_cases k:∃t w x,s= .gd t w x
   .obtain⟨t',w',x,rfl⟩:=k
    rcases r with⟨_,r⟩|⟨_,e⟩
    .exact G x (by simpa[Zem]using D) r
    .simp only[Act.eval]at j;rw[e]at j;simp[undef,blkOf]at j
   .exact G s D (r.out λt w x e=>k ⟨t,w,x,e⟩)
 |const v=>
  have:=F.operand [] Vs (.const v)
  have C:∀t w x,ev A (.const v)≠ .gd t w x:=by
   intro t w x;unfold ev
   grind
  grind [Zpg]
 |global g=>exact G _ D (.pure _ _ (F.global_rep g))
 |func f=>simp[ev,Zem]at D
def Zm4{c:St}{h:Hp}{d:Nat->Loc}{a:Act}{w:World}(F:FitsAt X h d c a w):∀(n t:Nat) (b:Bool),skipG n c t b=true->a.tmps.getD t undef≠ .bool b
 |0,_,_,h=>by simp[skipG]at h
 |n+1,t,b,h=>by
  intro e;simp only[skipG,Zcn]at h
  cases hx:c.tmps[t]? with
  |none=>simp[hx]at h
  |some s=>
   simp only[hx,Yk]at h;have r:=F.tm t s hx
   split at h
   .rename_i i;have:=(show Rep _ _ _ _ from r).val_inv
    grind
   next f w2 x=>
    rcases r with⟨g,_⟩|⟨_,r2⟩
    .exact Zm4 F n f w2 h g
    .rw[r2]at e;simp[undef]at e
   .cases h
def Zun{c:St}{h:Hp}{d:Nat->Loc}{a:Act}{w:World}(F:FitsAt X h d c a w){y:Operand}(b:skipV c (ev c y)=true):blkOf (a.eval y)=none:=by
 cases y with
 |tmp t=>
  simp only[ev,Zcn]at b
  cases hx:c.tmps[t]? with
  |none=>simp[hx,skipV]at b
  |some s=>
   simp only[hx,Yk]at b;have r:=F.tm t s hx
   cases s with
   |gd j k x=>
    rcases r with⟨i,_⟩|⟨_,e⟩
    .exact absurd i (Zm4 F 5 j k b)
    .simp only[Act.eval];rw[e];simp[undef,blkOf]
   |_=>simp[skipV]at b
 |const v=>
  exfalso;unfold ev at b
  grind [skipV]
 |global g=>
  grind [ev,skipV,Zcf,Zbn]
 |func f=>simp[ev,skipV]at b
def Owed.loud(R:RegOK ops){d:Act}{u r:Nat->Value}{w x:World}{k i:Nat}{o p:Oper}(s:ops[k]?=some p)(F:ops[i]?=some o)(f:k≠i){y v:Array Bool}(G:Zep ops v)
  (z:In v k) (A:¬In v i) (O:¬In y k) (Q:∀j,Zbd j o=true->In y j)
  (H:∀j,j≠i->r j=u j) (g:Owed P ops d u w k p)
  (J:∀l,Zep ops l->(∀j,Zbd j p=true->In l j)->¬In l k->SameB (fblk P (actOf ops d u l) p) w x):Owed P ops d r x k p:=by
 obtain⟨M,N⟩:=g;refine⟨M,λl c m n=>?_⟩
 have a:∀t∈p.looksAt ops,(actOf ops d r l).tmps.getD t undef=(actOf ops d u l).tmps.getD t undef:=by
  intro t Y;rw[Zb6,Zb6]
  split
  .unfold slotV
   cases hwr:wr ops l t with
   |none=>rfl
   |some j=>
    obtain⟨T,U⟩:=Zoe hwr
    have V:j≠i:=by
     intro e;have W:o.dst=some t:=by grind [dstOf]
     rcases R.sep k i p o s F (YP f)with h|h|h
     .exact A (G.2 k p s z i h)
     .grind
     grind
    grind
  .rfl
 have q:=Zk4 a;rw[execOp_congr p (λK b=>R.sel k p K b s) q,Zqi q,Zg4 a (by rw[Zcj,Zcj]),H k f];obtain⟨e1,e2⟩:=N l c m n;refine⟨λC D L=>e1 C D λb E=>?_,e2⟩;rw[L b E];exact J l c m n b E
def Zof{p q:Nat->Bool}:∀(l:List Nat),(∀k∈l,p k=q k)->l.find? p=l.find? q
 | [],_=>rfl
 |x::xs,h=>by rw[YS,YS,h x Vs,Zof xs (λk a=>h k (by simp[a]))]
def put_defers'(a:Act)(d:Option Nat)(v:Value):(a.put d v).defers=a.defers:=by cases d<;>rfl
def addr_env(R:RegOK ops){a0:Act}{u:Nat->Value}{l g:Array Bool}{k:Nat}{p:Oper}(i:ops[k]?=some p){y:Operand}(o:y∈p.op.operands)(d:Zuk ops k y=true)
  (r:Zep ops g) (s:In g k) (v:∀j,Zbd j p=true->In l j):(actOf ops a0 u g).eval y=(actOf ops a0 u l).eval y:=by
 cases y with
 |tmp t=>
  have x:t∈p.looksAt ops:=YY _ (YF.2 ⟨.tmp t,by simpa using o,rfl⟩);simp only[Zuk,List.all_eq_true,WD]at d
  have f:∀j,dstOf ops j=some t->Zbd j p=true:=by
   intro j b
   cases hq:ops[j]? with
   |none=>simp[dstOf,hq]at b
   |some q=>
    have m:q.dst=some t:=(by grind [dstOf]);have a:=d j (Y3.1 hq).1;simp only[hq,m,Bool.or_eq_true,Bool.and_eq_true,Ym]at a
    rcases a with a|⟨a,c⟩
    .simp at a
    .have n:j≠k:=λe=>by subst e;simp at c
     rcases R.sep k j p q i hq n with h|h|h
     .exact h
     .grind
     grind
  simp only[Act.eval];rw[Zb6,Zb6]
  split
  .unfold slotV
   cases hw:wr ops l t with
   |some j=>obtain⟨_,c⟩:=Zoe hw;rw[Zm2 R (r.2 k p i s j (f j c)) c]
   |none=>
    rw[Zjw (λj w b=>?_)];have:=Zm2 R (v j (f j b)) b
    grind
  .rfl
 |_=>rfl
def upon_env{o:Oper}{a i:Act}{next b:Act->World->Prop}{Q:Exit->Act->World->Prop}{r:Result Next}(k:∀v w,next (a.put o.dst v) w->b (i.put o.dst v) w)
  (l:∀d w,next ({a with defers:=d::a.defers}.put o.dst undef) w->b ({i with defers:=d::i.defers}.put o.dst undef) w)
  (m:∀c w,Q (.panic c) a w->Q (.panic c) i w) (h:o.upon P a next Q r):o.upon P i b Q r:=by
 cases r with
 |ok n w=>
  cases n<;>simp only[Oper.upon]at h|-
  case value v=>exact k v w h
  case skip=>exact k undef w h
  case defer d=>exact l d w h
  case enter f args=>
   refine Calls.mono h λe g j=>?_
   cases e with
   |returned v=>exact k v g j
   |panicked c=>exact m c g j
   |outgrown=>exact j
  case row row args=>exact Rows.mono h λv g j=>k v g j
 |halt x w=>
  cases x<;>simp only[Oper.upon]at h|-
  grind
def Zeu(X:Cx)(K:St->Prop)(ops:Array Oper)(a0:Act):Exit->Act->World->Prop
 | .normal,a,w=>Goes X K a w/\Fr (ops.toList.filterMap (·.dst)) a0 a
 |_,_,_=>False
def actOf_fr(a:Act)(u:Nat->Value)(l:Array Bool):Fr (ops.toList.filterMap (·.dst)) a (actOf ops a u l):=by
 intro t b;rw[Zb6]
 grind [slotV,dstOf,Zjw]
def left(ops:Array Oper)(l:Array Bool):Nat:=((List.range ops.size).filter λk=>!(l.getD k false)).length
def Zxq{l:Array Bool}(j:l.size=ops.size)(i:n<ops.size)(o:¬In l n):left ops (l.setIfInBounds n true)+1=left ops l:=by
 unfold left
 have f:∀(m:List Nat),m.Nodup->n∈m->(m.filter λk=>!((l.setIfInBounds n true).getD k false)).length+1=(m.filter λk=>!(l.getD k false)).length:=by
  intro m
  have e:∀k,(l.setIfInBounds n true).getD k false=if k=n then true else l.getD k false:=by
   intro k;by_cases h:k=n
   .simp_all
   .simp[h,Yc (YP h)]
  have g:l.getD n false=false:=by grind [In]
  induction m with
  |nil=>intro _ h;cases h
  |cons x b r=>
   intro a p;obtain⟨q,d⟩:=Yl.1 a;by_cases hxi:x=n
   .subst hxi
    have c:(b.filter λk=>!((l.setIfInBounds x true).getD k false))=b.filter λk=>!(l.getD k false):=by
     apply List.filter_congr
     grind
    grind
   grind
 grind
def sim_any(R:RegOK ops){T:FuncId->Sig}{U:TypeId->Sig}{a0:Act}{K:St->Prop}:
  ∀(m:Nat) (u:Nat->Value) (g f:Array Bool) (n:Nat) (x:St) (w:World),Sim P T U ops X a0 K u g f n x w->left ops g=m->
   wpAny P .any ops (Zeu X K ops a0) m g (actOf ops a0 u g) w:=by
 intro m
 induction m with
 |zero=>
  intro u g f n x w S hm
  have Q:∀k,k<ops.size->In g k:=by
   grind [List.filter_eq_nil_iff,In,left]
  have C:∀l:Array Bool,l.size=ops.size->(∀k,k<ops.size->In l k)->Region.ready .any ops l=[]:=by
   intro l hs h;rw[List.eq_nil_iff_forall_not_mem]
   grind [Zff]
  refine⟨C g S.ca.1 Q,?_⟩;have hc:∀k,k<ops.size->In f k:=λk H=>S.sub k (Q k H);have e:actOf ops a0 u g=actOf ops a0 u f:=(by unfold actOf;congr 2;apply List.map_congr_left;intro t _;unfold slotV;have:wr ops g t=wr ops f t:=(by unfold wr;refine Zof _ λk H=>?_;have ag:k<ops.size:=Vg;have e1:g.getD k false=true:=Q k ag;have e2:f.getD k false=true:=hc k ag;rw[e1,e2]);rw[this]);have E:=S.vcs
  cases n with
  |zero=>exact E.elim
  |succ n=>simp only[vcAny,C f S.cc.1 hc]at E;rw[e];exact⟨⟨x,S.fits,E⟩,actOf_fr a0 u f⟩
 |succ m al=>
  intro u g f n x w S hm
  have a7:Region.ready .any ops g≠[]:=by
   intro h;have Q:=ready_nil R S.ca.1 h
   grind [List.length_eq_zero_iff,List.filter_eq_nil_iff,left,In]
  refine⟨λh=>absurd h a7,λi hi=>?_⟩;obtain⟨M,o,z,O⟩:=(Zff S.ca.1).1 hi;have a8:i<ops.size:=(Y3.1 z).1;have L:i<g.size:=(by grind [S.ca.1]);have a3:left ops (g.setIfInBounds i true)=m:=by have:=Zxq S.ca.1 a8 M;omega
  have Y:∀(u:Nat->Value) (f:Array Bool) (n:Nat) (x:St),Sim P T U ops X a0 K u g f n x w->In f i->
    wpOp P ops (Zeu X K ops a0) i (wpAny P .any ops (Zeu X K ops a0) m (g.setIfInBounds i true)) (actOf ops a0 u g) w:=by
   intro u f n x S A;obtain⟨g1,g2⟩:=S.owed i o z A M;obtain⟨e1,e2⟩:=g2 g S.ca O M
   have ah:wpAny P .any ops (Zeu X K ops a0) m (g.setIfInBounds i true) ((actOf ops a0 u g).put o.dst (u i)) w:=by
    rw[Zjc R a0 u g i o z S.ca.1 M (u i)]
    have:actOf ops a0 (λk=>if k=i then u i else u k) (g.setIfInBounds i true)=actOf ops a0 u (g.setIfInBounds i true):=Zhw (λk _=>by
     by_cases h:k=i
     .subst h;simp
     .simp[h])
    rw[this];refine al u (g.setIfInBounds i true) f n x w ⟨S.ca.set z O,S.cc,λk H=>?_,S.fits,λk p N G J=>S.owed k p N G (λh=>J ((Zfe L).2 (.inr h))),S.vcs⟩ a3
    rcases(Zfe L).1 H with rfl|H
    .exact A
    .exact S.sub k H
   unfold wpOp;simp only[z];by_cases hw:Region.wanted o (yielded ops (actOf ops a0 u g).tmps)=true
   .rw[if_pos hw];refine .inl ?_;unfold Oper.wp;rw[e1 hw w (SameB.refl _ w)];exact ah
   .rw[if_neg hw];have au:Region.wanted o (yielded ops (actOf ops a0 u g).tmps)=false:=(by simpa using hw);rw[<-e2 au];exact ah
  have ao:∀(d:Nat) (u:Nat->Value) (f:Array Bool) (n:Nat) (x:St),left ops f=d->Sim P T U ops X a0 K u g f n x w->
    wpOp P ops (Zeu X K ops a0) i (wpAny P .any ops (Zeu X K ops a0) m (g.setIfInBounds i true)) (actOf ops a0 u g) w:=by
   intro d
   induction d using Nat.strongRecOn with
   |_ d az=>
    intro u f n x hd S;by_cases A:In f i
    .exact Y u f n x S A
    .have a9:i∈Region.ready .any ops f:=(Zff S.cc.1).2 ⟨A,o,z,λj W=>S.sub j (O j W)⟩;have E:=S.vcs
     cases n with
     |zero=>exact E.elim
     |succ n=>
      simp only[vcAny]at E
      split at E
      next am=>rw[am]at a9;cases a9
      .rename_i i0 r C;rw[<-C]at E
       split at E
       .rename_i c a1;have ai:c∈Region.ready .any ops f:=List.mem_of_find?_eq_some a1;have aj:=Wq a1
        split at E
        next oc a5=>simp only[a5,Ym]at aj;obtain⟨u',V,hu,S'⟩:=S.calm R a5 ai aj E;have ap:c<ops.size:=(Y3.1 a5).1;have av:=((Zff S.cc.1).1 ai).1;have b0:=Zxq S.cc.1 ap av;have:=az (left ops (f.setIfInBounds c true)) Vo u' _ n V rfl S';rwa[Zhw (λk H=>hu k (S.sub k H))]at this
        .exact E.elim
       .have a4:=Zm3 E i a9;simp only[z]at a4
        cases s:apartW P T U ops f x i o with
        |false=>simp[s]at a4
        |true=>
         simp only[s,cond_true]at a4;obtain⟨h,ρ,F⟩:=S.fits;have q:=Zqn F T U ops o _ a4 (Zeu X K ops a0);have aa:=env_eq R (a0:=a0) (u:=u) z S.cc S.ca (λj W=>S.sub j (O j W)) O A M;have aw:=Zk4 aa;have ax:=Zg4 aa (by rw[Zcj,Zcj])
         have ab:∀(D:World),(∀b,b<w.heap.size->¬Zc2 T U ops x ρ o b->D.heap[b]?=w.heap[b]?)->∀k p,ops[k]?=some p->In f k->¬In g k->∀l,Zep ops l->(∀j,Zbd j p=true->In l j)->¬In l k->SameB (fblk P (actOf ops a0 u l) p) w D:=by
          intro D a6 k p N G J l _ aq _ b hb;unfold apartW at s
          split at s
          .cases s
          .rename_i an ae;simp only[Bool.and_eq_true]at s;have s:=(List.all_eq_true.1 s.2) k (by simpa using(Y3.1 N).1);simp only[N,Bool.or_eq_true]at s;obtain⟨y,af,a2⟩:=fblk_some hb;simp only[af,Bool.and_eq_true,Bool.or_eq_true]at s
           rcases s with((h1|h1)|h1)|h1
           .exact absurd (Nat.eq_of_beq_eq_true h1) (λe=>J (e▸absurd G (e▸A)))
           .unfold In at G;rw[G]at h1;cases h1
           .exact absurd (O k h1) J
           .have ay:=addr_env R (a0:=a0) (u:=u) N (Zkk af) h1.2 S.cc G aq;rw[<-ay]at a2;obtain⟨ar,a7⟩:=Zsc F (h1.1.resolve_right λhs=>by rw[Zun F hs]at a2;cases a2) a2;refine a6 b ar λht=>?_;obtain⟨id,hm,hl,e⟩:=ht an ae;exact a7 id hm hl e
         have go:∀(v:Value) (D:World),After X (λV=>vcAny P T U ops n (f.setIfInBounds i true) V K) o (actOf ops a0 u f) w (Zc2 T U ops x ρ o) ((actOf ops a0 u f).put o.dst v) D->
           wpAny P .any ops (Zeu X K ops a0) m (g.setIfInBounds i true) ((actOf ops a0 u g).put o.dst v) D:=by
          rintro v D ⟨⟨V,hF',hvc⟩,_,hsz,a6⟩;have Z:i<f.size:=by rw[S.cc.1];exact a8
          rw[Zjc R a0 u f i o z S.cc.1 A v]at hF';rw[Zjc R a0 u g i o z S.ca.1 M v];refine al _ _ (f.setIfInBounds i true) n V D ⟨S.ca.set z O,S.cc.set z (λj W=>S.sub j (O j W)),λk H=>?_,hF',λk p N G J=>?_,hvc⟩ a3
          .rcases(Zfe L).1 H with rfl|H
           .exact(Zfe Z).2 (.inl rfl)
           .exact(Zfe Z).2 (.inr (S.sub k H))
          .have ak:k≠i:=λe=>J ((Zfe L).2 (.inl e));have ac:In f k:=((Zfe Z).1 G).resolve_left ak;have ad:¬In g k:=λh=>J ((Zfe L).2 (.inr h));exact Owed.loud R N z ak S.cc ac A ad O (λj W=>by simp[W]) (S.owed k p N ac ad) (ab D a6 k p N ac ad)
         unfold wpOp;simp only[z];rw[<-ax];by_cases hw:Region.wanted o (yielded ops (actOf ops a0 u f).tmps)=true
         .rw[if_pos hw]at q|-;refine .inl ?_;unfold Oper.wp at q|-;rw[<-execOp_congr o (λcs b=>R.sel i o cs b z) aw];refine upon_env (a:=actOf ops a0 u f) (λv D hg=>go v D hg) (λd D hg=>?_) (λc D hg=>False.elim hg) q;obtain⟨_,⟨u',e⟩,_⟩:=hg;have e1:=congrArg Act.defers e;rw[put_defers',put_defers']at e1;exact absurd e1 Vs
         .rw[if_neg hw]at q|-;exact go undef w ⟨q,⟨undef,rfl⟩,Nat.le_refl _,λ_ _ _=>rfl⟩
  exact ao _ u f n x rfl S
def Zsd(g:FuncId->Sig)(i:TypeId->Sig)(id:Nat)(ops:Array Oper)(m:P.follows .mixedOrders=true)(j:Zfr ops=true)(b:St)(a:Act)(w:World)(F:Fits X b a w)(K:St->Prop)
  (n:vcAny P g i ops (ops.size+1) (Array.replicate ops.size false) b K) (Q:Exit->Act->World->Prop) (o:∀b d w,Fits X b d w->Fr (ops.toList.filterMap (·.dst)) a d->K b->Q .normal d w):(Code.region id ops true).wp P Q a w:=by
 have R:=Zjb j;have hnone:∀k,¬In (Array.replicate ops.size false) k:=λk h=>by unfold In at h;by_cases c:k<ops.size<;>simp[c]at h
 have f:actOf ops a (λ_=>undef) (Array.replicate ops.size false)=a:=by
  unfold actOf
  have:((List.range a.tmps.size).map (slotV ops a (λ_=>undef) (Array.replicate ops.size false))).toArray=a.tmps:=by
   apply Array.ext';apply List.ext_getElem?;intro t;have q:wr ops (Array.replicate ops.size false) t=none:=Zjw (λk c=>absurd c (hnone k));by_cases ht:t<a.tmps.size
   .simp[ht,slotV,q]
   .simp[ht]
  rw[this]
 refine wp_mono (wp_region_any (Q:=Zeu X K ops a) m ?_) (λe d w h=>?_)
 .have r:Fits X b a {w with drawn:=w.drawn+1}:=by obtain⟨h,p,F⟩:=F;exact⟨h,p,F.world (λ_ _=>rfl) ⟨F.kp.os,F.kp.tape,F.kp.output,F.kp.size,F.kp.block⟩⟩
  have S:Sim P g i ops X a K (λ_=>undef) (Array.replicate ops.size false) (Array.replicate ops.size false) (ops.size+1) b {w with drawn:=w.drawn+1}:=
   ⟨⟨Vs,λk _ _ h=>absurd h (hnone k)⟩,⟨Vs,λk _ _ h=>absurd h (hnone k)⟩,λ_ h=>h,by rw[f];exact r,λk _ _ h=>absurd h (hnone k),n⟩
  have s:left ops (Array.replicate ops.size false)=ops.size:=(by unfold left;rw[List.filter_eq_self.2 (λk _=>by simpa[In]using hnone k)];simp);have:=sim_any R ops.size _ _ _ _ _ _ S s
  grind
 .cases e with
  |normal=>obtain⟨⟨b,F,c⟩,l⟩:=h;exact o b d w F l c
  |_=>exact False.elim h
end

import Derived.Test.YtgehiiginclniaaGreatDoorK03
set_option linter.all false
set_option maxRecDepth 100000
namespace Go.Px
open Go.RowKit
section
variable{X:Cx}{h:Hp}{ρ:Nat→Loc}{st:St}{a:Act}{w:World}{P:Program}
def frz_sub{st:St}{id i:Nat}{o:Ob}(e:oget (st.frz id).objs i=some o):∃b,oget st.objs i=some b:=by
 unfold St.frz at e
 split at e
 ·obtain⟨b,c,_⟩:=Zah e;exact⟨b,(Zaf c).2⟩
 ·exact⟨o,e⟩
def Zgi:∀(b:List Nat) {st:St} {i:Nat} {o:Ob},oget (St.frzAll b st).objs i=some o→∃c,oget st.objs i=some c
 | [],st,i,o,e=>⟨o,e⟩
 |id::b,st,i,o,e=>by obtain⟨c,d⟩:=Zgi b e;exact frz_sub d
def Zc2(d:FuncId→Sig)(e:TypeId→Sig)(st:St)(ρ:Nat→Loc)(o:Oper)(b:Nat):Prop:=
 ∀c,touch d e st o=some c→∃id∈c,live st.objs ρ id∧(ρ id).blk=b
def Za6{f:FuncId→Sig}{g:TypeId→Sig}{o:Oper}{b:Nat}(h:¬Zc2 f g st ρ o b):∃c,touch f g st o=some c∧∀id∈c,live st.objs ρ id→(ρ id).blk≠b:=by
 unfold Zc2 at h
 cases e:touch f g st o with
 |none=>exact absurd (λc d=>by rw[e]at d;cases d) h
 |some c=>exact⟨c,rfl,λid j k l=>h λi d=>by rw[e]at d;cases d;exact⟨id,j,k,l⟩⟩
def After(X:Cx)(K:St→Prop)(o:Oper)(a:Act)(w:World)(T:Nat→Prop)(d:Act)(c:World):Prop:=
 Goes X K d c∧(∃u,d=a.put o.dst u)∧w.heap.size≤c.heap.size∧∀b,b<w.heap.size→¬T b→c.heap[b]?=w.heap[b]?
def idOK_lt{id:Nat}(h:id<1048576):idOK id=true:=by
 have:Nat.blt id 1048576=true:=Nat.ble_eq_true_of_le (by omega);simp[idOK,this]
def Zib{d k:Nat}(h:dstOK (some d)=true)(b:k<128):idOK (128*d+k)=true:=by
 simp only[dstOK]at h;have:=Nat.le_of_ble_eq_true h;exact idOK_lt (by omega)
def Zql{kd:IntKind}{n:Int}{rows:LL}{K:List SV→Prop}:∀(m:Nat) (acc:List SV),copyN kd n rows K m acc→(acc.length:Int)≤n→n≤(acc.length:Int)+m→
  (∀(j:Nat) c,acc[j]?=some c→(∃x,c= .val (.int kd x))∧rget rows (Int.ofNat j)=[c])→
  ∃b,K b∧(b.length:Int)=n∧∀(j:Nat) c,b[j]?=some c→(∃x,c= .val (.int kd x))∧rget rows (Int.ofNat j)=[c]
 |0,acc,hc,h1,h2,hg=>⟨acc,hc,by omega,hg⟩
 |m+1,acc,hc,h1,h2,hg=>by
  simp only[copyN,Za0]at hc;by_cases he:n=Int.ofNat acc.length
  ·exact⟨acc,hc.1 he,by rw[he];rfl,hg⟩
  ·obtain⟨x,g,e⟩:=hc.2 (by simp only[Ya]at he⊢;omega);refine Zql m _ e (by simp only[Ya]at he;simp;omega) (by simp;omega) (λj c d=>?_);rw[List.getElem?_append]at d
   split at d
   ·exact hg j c d
   next i=>have f:j=acc.length:=(by have:=(Y0.1 d).1;simp at this;omega);subst f;simp at d;subst d;exact⟨⟨x,rfl⟩,g⟩
def copy_box(F:FitsAt X h ρ st a w){E t2 e ty:TypeId}{id off m:Nat}{D K acc:List SV}{Z:Value}{y:SV}{L:Nat}{n:LL}(g:P.underlying E=some (.slice e))(hz:szT P e=some 1)(ho:oget st.objs id=some (.box D))
  (a0:Zjn st.objs y=some (L,n)) (a1:Rep h ρ Z y) {kd:IntKind} (t:∀(j:Nat) c,acc[j]?=some c→(∃x,c= .val (.int kd x))∧rget n (Int.ofNat j)=[c]) (M:acc.length=min n.length m) (a2:Zbh off acc D=some K):
  ∃o,(Builtin.copy_ #[E,t2] ty #[.slice (some ⟨(ρ id).blk,off,none⟩) m m,Z]).run P w= .ok (goInt acc.length) o∧FitsAt X h ρ {st with objs:=oput st.objs id (.box K)} a o∧
   w.heap.size≤o.heap.size∧∀b,b≠(ρ id).blk→o.heap[b]?=w.heap[b]?:=by
 obtain⟨N,⟨f,H,z,a6,C⟩,hno⟩:=F.obj id _ ho;obtain⟨p,O,rfl,hp⟩:=Zd8 F a1 a0;obtain⟨a7,rfl⟩:=Zcb _ _ _ _ a2;obtain⟨i,J,hi1⟩:=Zn5 hz
 let d:List Value:=acc.map λc=>match c with| .val v=>v|_=>undef
 have s:d.length=acc.length:=by simp[d]
 have A:∀(j:Nat) v,d[j]?=some v→∃x,v= .int kd x∧acc[j]?=some (.val (.int kd x)):=λj v r=>by
  simp only[d,Yt]at r
  cases l:acc[j]? with
  |none=>simp[l]at r
  |some c=>obtain⟨⟨x,rfl⟩,_⟩:=t j c l;simp[l]at r;exact⟨x,r.symm,rfl⟩
 have V:∀v∈d,v.oneCell'=true:=λv r=>by obtain⟨j,hj,e⟩:=List.mem_iff_getElem.1 r;obtain⟨x,rfl,_⟩:=A j v (by rw[List.getElem?_eq_getElem hj,e]);rfl
 have fin:∀o,o=w.setRow (ρ id).blk (f.toList.take off++d++f.toList.drop (off+d.length)).toArray→FitsAt X h ρ {st with objs:=oput st.objs id (.box (D.take off++acc++D.drop (off+acc.length)))} a o∧w.heap.size≤o.heap.size∧∀b,b≠(ρ id).blk→o.heap[b]?=w.heap[b]?:=by
  intro o T;subst T;refine⟨F.setOb id (.box D) _ _ ho N ⟨N,⟨_,H,setRow_heap w _ f _ H _ z,by simp[s];omega,λk u c g l=>?_⟩,hno⟩ (λb R=>setRow_other _ _ _ _ R) (Zbw _ _ _),by simp,λb R=>setRow_other _ _ _ _ R⟩;simp only[Yn]at g;rw[List.append_assoc,List.getElem?_append]at g l;have l1:(List.take off f.toList).length=off:=by simp;omega
  have l2:(List.take off D).length=off:=(by simp;omega);rw[l1]at g;rw[l2]at l;by_cases c1:k<off
  ·rw[if_pos c1,Y4,if_pos c1]at g l;exact C k u c (by simpa using g) l
  ·rw[if_neg c1,List.getElem?_append]at g l;rw[s]at g;by_cases c2:k-off<acc.length
   ·rw[if_pos c2]at g l;obtain⟨x,rfl,e⟩:=A _ u g;rw[e]at l;cases l;exact⟨.pure _ _ (.val _),rfl⟩
   ·rw[if_neg c2,Y8]at g l;exact C _ u c (by simpa using g) l
 by_cases h0:0<n.length
 ·obtain⟨b,o2,rfl,a5,U,l⟩:=hp h0
  have a3:L=1∨acc=[]:=by
   cases q:acc with
   |nil=>exact .inr rfl
   |cons c a8=>
    left
    obtain⟨_,G⟩:=t 0 c (by rw[q];rfl);have W:n[0]?=some [c]:=(by rw[List.getElem?_eq_getElem h0];have:rget n (Int.ofNat 0)=n[0]:=(by simp[rget,h0]);rw[←this,G]);have:=U 0 _ W
    simpa using this.symm
  refine⟨_,run_copy_row P w E t2 ty e (ρ id).blk off m m ⟨b,o2,none⟩ n.length O f H d g (by simp[J,hi1]) z (by rw[s];exact M) (λj v r=>?_) (by rw[s];omega) V|>.trans (by rw[s]),fin _ rfl⟩;obtain⟨x,rfl,e⟩:=A j v r;have Q:j<n.length:=by have:=(Y0.1 e).1;omega
  obtain⟨_,G⟩:=t j _ e;have W:n[j]?=some [.val (.int kd x)]:=(by rw[List.getElem?_eq_getElem Q];have:rget n (Int.ofNat j)=n[j]:=(by simp[rget,Q]);rw[←this,G]);obtain⟨v',q1,q2,_⟩:=l j _ 0 _ W rfl
  cases q2
  rw[Zbp]
  rcases a3 with rfl|hnil
  ·simpa using q1
  ·rw[hnil]at e;simp at e
 ·have a4:n=[]:=by cases n with
   |nil=>rfl
   |cons=>simp at h0
  subst a4;have q:acc=[]:=Y7 (by rw[M];simp);subst q;have T:w=w.setRow (ρ id).blk (f.toList.take off++d++f.toList.drop (off+d.length)).toArray:=(by have:(f.toList.take off++d++f.toList.drop (off+d.length)).toArray=f:=(by simp[d]);rw[this,setRow_self w _ f H _ z]);refine⟨w,?_,fin w T⟩
  cases p with
  |none=>
   have hs:((P.info? e).map (·.size)).isSome=true:=(by simp[J]);have:=run_copy_nil P w E t2 ty e ⟨(ρ id).blk,off,none⟩ m m g hs;have Y:∀c,(Builtin.copy_ #[E,t2] ty #[.slice (some ⟨(ρ id).blk,off,none⟩) m m,.slice none 0 c]).run P w= .ok (goInt 0) w:=by intro c;simp[Builtin.copy_,run_underlying g,Builtin.lenOf,Builtin.firstCells,sizeOf,typeInfo,J,storeCells]
   simpa using Y O
  |some ad=>simp[Builtin.copy_,run_underlying g,Builtin.lenOf,Builtin.firstCells,sizeOf,typeInfo,J,storeCells,loadCells,loadCellsFrom]
def Zoz{z:List SV}{parts:List (Nat×SV)}{len:Nat}{rows:LL}(i:Zd0 z parts len 0=some rows)(d:∀p∈parts,p.1<len)(g:(parts.map (·.1)).Nodup):∀p∈parts,∃s,Zdz p.2=some s∧(cellsOf s).length=z.length:=by
 intro p b;obtain⟨j,k⟩:=Zeg z parts len 0 rows i;have m:p.1<rows.length:=by rw[j];exact d p b
 obtain⟨l,c⟩:=k p.1 _ (List.getElem?_eq_getElem m);rw[Yc]at c
 have o:parts.find? (λq=>Nat.beq q.1 p.1)=some p:=by
  clear k j i d l c m
  induction parts with
  |nil=>simp at b
  |cons q t r=>
   simp only[List.map_cons,Ym]at g;rw[YN]
   rcases List.mem_cons.1 b with rfl|b
   ·simp
   ·have n:q.1≠p.1:=λe=>g.1 (by rw[e];exact Yd (f:=(·.1)) b);simp only[Zaj n];exact r g.2 b
 rw[o]at c;obtain⟨s,e1,e2⟩:=c;exact⟨s,e1,by rw[←e2];exact l⟩
def Zjl{h:Hp}{ρ:Nat→Loc}{st:St}{a:Act}(d:∀x,Rep h ρ (a.eval x) (st.val x)):∀(b:List Operand) (c:List Value),Zm6 (b.map st.val)=some c→c=b.map a.eval
 | [],c,e=>by simp[Zm6]at e;simp[e]
 |x::b,c,e=>by
  have f:=d x;simp only[List.map_cons]at e⊢;generalize st.val x=s at e f
  cases s with
  |val v=>
   simp only[Zm6]at e
   split at e
   next g i=>
    cases e
    rw[←Zjl d b g i,f.val_inv]
   ·cases e
  |_=>simp[Zm6]at e
def Zm3{kd:IntKind}:∀(m:Nat) (b:List SV),zeroL kd m b=true→b=(azero m).map λx=>SV.val (.int kd x)
 |0,[],_=>rfl
 |0,_::_,h=>by simp[zeroL]at h
 |m+1,[],h=>by simp[zeroL]at h
 |m+1,z::b,h=>by
  unfold zeroL at h
  split at h
  ·simp_all
  next f d e e1 e2=>
   cases e1
   cases e2
   simp only[Bool.and_eq_true,decide_eq_true_eq]at h;obtain⟨rfl,c⟩:=h;have:=Zm3 m _ c;rw[this];simp[azero,List.replicate_succ]
  ·cases h
def newArr(F:FitsAt X h ρ st a w)(id:Nat)(e:idOK id=true)(c:Array Value)(t:TypeId)(d:IntKind)(m:Nat)(b:List Int)(f:b.length=m)(g:c.toList=b.map (Value.int d)):
  FitsAt X h (upd ρ id ⟨w.heap.size,0,0,0,0,false⟩) (st.bind id (.arr d m b)) a (w.alloc (.cells c t)):=
 F.newOwn id e (.arr d m b) _ (Zbo w _) (by simp) (λ_=>Nat.le_refl _)
  ⟨by rw[Zab],⟨c,t,by rw[Zab];show(w.heap.push _)[_]?=_;simp,f,g⟩,λo=>by rw[Zab];exact Zcs F.sub o _ (Nat.le_refl _)⟩
def arr_store(F:FitsAt X h ρ st a w){t:TypeId}{id m:Nat}{c:IntKind}{e:List Int}{i v:Int}(n:oget st.objs id=some (.arr c m e))(s:szT P t=some 1)(A:0≤i)(x:i<Int.ofNat m):
  ∃g,(Instr.storeAt t (.pointer (some ⟨(ρ id).blk,i.toNat,none⟩)) (.int c v)).run P w= .ok () g∧FitsAt X h ρ {st with objs:=oput st.objs id (.arr c m (aset e i v))} a g∧
   w.heap.size≤g.heap.size∧∀b,b≠(ρ id).blk→g.heap[b]?=w.heap[b]?:=by
 obtain⟨j,⟨d,ty,f,y,p⟩,hno⟩:=F.obj id _ n;have q:i.toNat<e.length:=by simp at x;omega
 have z:d.size=e.length:=(by have:=congrArg List.length p;simpa using this);have l:=run_storeCells_at P (ρ id).blk i.toNat ty [.int c v] 0 d w f (by simp;omega) (λu o=>by simp at o;subst o;rfl)
 refine⟨_,?_,F.setOb id (.arr c m e) (.arr c m (aset e i v)) (w.setRow (ρ id).blk (d.toList.take (i.toNat+0)++[Value.int c v]++d.toList.drop (i.toNat+0+[Value.int c v].length)).toArray) n j ⟨j,⟨_,ty,setRow_heap w _ d _ ty _ f,by simp[aset];exact y,?_⟩,hno⟩
  (λb k=>setRow_other _ _ _ _ k) (Zbw _ _ _),by simp,λb k=>setRow_other _ _ _ _ k⟩
 ·simp only[Instr.storeAt,Instr.sureAddr,storeVar,Sem.run_bind,Sem.run_pure,Result.andThen_ok,run_sizeOf' w s];have:¬((Value.int c v).cells.size≠1):=(by simp[Value.cells]);simp only[this,if_false];have r:(Value.int c v).cells.toList=[.int c v]:=(by simp[Value.cells]);rw[r];exact l
 ·rw[p];simp only[List.length_cons,Y6,Nat.add_zero,aset];rw[List.set_eq_take_append_cons_drop];simp[q,List.map_take,List.map_drop]
def arr_put(F:FitsAt X h ρ st a w){t:TypeId}{id m n:Nat}{f:IntKind}{l e:List Int}{d:Array Value}(q:oget st.objs id=some (.arr f m l))(s:szT P t=some n)(E:n=m)(v:e.length=m)(g:d.toList=e.map (Value.int f)):
  ∃j,(Instr.storeAt t (.pointer (some ⟨(ρ id).blk,0,none⟩)) (.agg d)).run P w= .ok () j∧FitsAt X h ρ {st with objs:=oput st.objs id (.arr f m e)} a j∧
   w.heap.size≤j.heap.size∧∀b,b≠(ρ id).blk→j.heap[b]?=w.heap[b]?:=by
 obtain⟨k,⟨c,ty,i,C,y⟩,hno⟩:=F.obj id _ q;have D:c.size=l.length:=by have:=congrArg List.length y;simpa using this
 have z:d.size=m:=by have:=congrArg List.length g;simp at this;omega
 have p:=run_storeCells_at P (ρ id).blk 0 ty d.toList 0 c w i (by simp;omega) (λu r=>by
  rw[g]at r;obtain⟨x,_,rfl⟩:=Y3.1 r
  rfl)
 refine⟨_,?_,F.setOb id (.arr f m l) (.arr f m e) (w.setRow (ρ id).blk (c.toList.take (0+0)++d.toList++c.toList.drop (0+0+d.toList.length)).toArray) q k ⟨k,⟨_,ty,setRow_heap w _ c _ ty _ i,v,?_⟩,hno⟩
  (λb o=>setRow_other _ _ _ _ o) (Zbw _ _ _),by simp,λb o=>setRow_other _ _ _ _ o⟩
 ·simp only[Instr.storeAt,Instr.sureAddr,storeVar,Sem.run_bind,Sem.run_pure,Result.andThen_ok,run_sizeOf' w s];have:¬((Value.agg d).cells.size≠n):=by simp[Value.cells];omega
  simp only[this,if_false];exact p
 ·have A:c.toList.drop (0+0+d.toList.length)=[]:=List.drop_eq_nil_of_le (by simp;omega);rw[A]
  simpa using g
def Zm4(F:FitsAt X h ρ st a w)(Sg:FuncId→Sig)(Sv:TypeId→Sig)(o:Oper)(K:St→Prop)(g:loudC P Sg Sv o st K)(Q:Exit→Act→World→Prop):o.wp P a w (After X K o a w (Zc2 Sg Sv st ρ o)) Q:=by
 have G:=F.val;unfold loudC at g
 cases hdst:dstOK o.dst with
 |false=>simp[hdst]at g
 |true=>
 simp only[hdst,cond_true]at g
 split at g
 next t A=>
  split at g
  ·rename_i kd m bz;unfold Zvv at g
   split at g
   ·rename_i zs d U Y;rw[Y]at hdst
    cases hzl:zeroL kd m zs with
    |false=>simp only[hzl,cond_false]at g
    |true=>
     simp only[hzl,cond_true]at g;obtain⟨v,hv,r,u⟩:=Zcx (h:=h) (ρ:=ρ) U;have al:=Zm3 m zs hzl;obtain⟨vs,rfl,hs,bn⟩:=r.agg_inv';have a9:=Zqd (h:=h) (ρ:=ρ) (kd:=kd) (ns:=azero m) (vs:=vs) (by rw[hs,al];simp) (λi v c J h2=>bn i v c J (by rw[al];exact h2))
     have L:=(newArr F (128*d) (by simpa using Zib hdst (k:=0) (by omega)) vs t kd m (azero m) (by simp[azero]) a9).put o.dst (TRep.of_rep' (v:=.pointer (some ⟨w.heap.size,0,none⟩)) (s:=.ptr (128*d) 0) (by
      have:=Rep.ptr (h:=h) (ρ:=upd ρ (128*d) ⟨w.heap.size,0,0,0,0,false⟩) (128*d) 0
      rwa[Zab]at this))
     have j:(execOp a.eval o).run P w= .ok (.value (.pointer (some ⟨w.heap.size,0,none⟩))) (w.alloc (.cells vs t)):=(by simp[execOp,A,Instr.alloc,hv,newVar,newRow,Value.cells]);unfold Oper.wp;rw[j];exact⟨⟨_,⟨h,_,L⟩,g⟩,⟨_,rfl⟩,by show _≤(w.heap.push _).size;simp,λb u _=>Below.heap_alloc w _ b u⟩
   ·exact g.elim
  split at g
  ·rename_i z d U Y;rw[Y]at hdst;obtain⟨v,hv,r,u⟩:=Zcx (h:=h) (ρ:=ρ) U;obtain⟨hl,hc⟩:=Zer r u
   have L:=(F.newBox (128*d) (by simpa using Zib hdst (k:=0) (by omega)) v.cells t (cellsOf z) hl hc).put o.dst (TRep.of_rep' (v:=.pointer (some ⟨w.heap.size,0,none⟩)) (s:=.ptr (128*d) 0) (by
    have:=Rep.ptr (h:=h) (ρ:=upd ρ (128*d) ⟨w.heap.size,0,0,0,0,false⟩) (128*d) 0
    rwa[Zab]at this))
   have j:(execOp a.eval o).run P w= .ok (.value (.pointer (some ⟨w.heap.size,0,none⟩))) (w.alloc (.cells v.cells t)):=(by simp[execOp,A,Instr.alloc,hv,newVar,newRow]);unfold Oper.wp;rw[j];exact⟨⟨_,⟨h,_,L⟩,g⟩,⟨_,rfl⟩,by show _≤(w.heap.push _).size;simp,λb u _=>Below.heap_alloc w _ b u⟩
  ·exact g.elim
 next t x A=>
  split at g
  next kd m ns aj=>
   have E:st.val x= .arr kd m ns:=by
    unfold arrOf at aj
    split at aj
    next hh=>cases aj;exact hh
    ·cases aj
   unfold arrBox at g
   split at g
   ·rename_i d Y;rw[Y]at hdst;have O:=G x;rw[E]at O;obtain⟨vs,bo,hm,a9⟩:=O.arr_inv
    have L:=(newArr F (128*d) (by simpa using Zib hdst (k:=0) (by omega)) vs t kd m ns hm a9).put o.dst (TRep.of_rep' (v:=.pointer (some ⟨w.heap.size,0,none⟩)) (s:=.ptr (128*d) 0) (by
     have:=Rep.ptr (h:=h) (ρ:=upd ρ (128*d) ⟨w.heap.size,0,0,0,0,false⟩) (128*d) 0
     rwa[Zab]at this))
    have j:(execOp a.eval o).run P w= .ok (.value (.pointer (some ⟨w.heap.size,0,none⟩))) (w.alloc (.cells vs t)):=(by simp[execOp,A,bo,Instr.box,newVar,newRow,Value.cells]);unfold Oper.wp;rw[j];exact⟨⟨_,⟨h,_,L⟩,g⟩,⟨_,rfl⟩,by show _≤(w.heap.push _).size;simp,λb u _=>Below.heap_alloc w _ b u⟩
   ·exact g.elim
  split at g
  ·rename_i d Y;rw[Y]at hdst
   cases u:boxL (cellsOf (st.val x))with
   |false=>simp[u]at g
   |true=>
    simp only[u,cond_true]at g;obtain⟨hl,hc⟩:=Zer (G x) u
    have L:=(F.newBox (128*d) (by simpa using Zib hdst (k:=0) (by omega)) (a.eval x).cells t (cellsOf (st.val x)) hl hc).put o.dst (TRep.of_rep' (v:=.pointer (some ⟨w.heap.size,0,none⟩)) (s:=.ptr (128*d) 0) (by
     have:=Rep.ptr (h:=h) (ρ:=upd ρ (128*d) ⟨w.heap.size,0,0,0,0,false⟩) (128*d) 0
     rwa[Zab]at this))
    have j:(execOp a.eval o).run P w= .ok (.value (.pointer (some ⟨w.heap.size,0,none⟩))) (w.alloc (.cells (a.eval x).cells t)):=(by simp[execOp,A,Instr.box,newVar,newRow]);unfold Oper.wp;rw[j];exact⟨⟨_,⟨h,_,L⟩,g⟩,⟨_,rfl⟩,by show _≤(w.heap.push _).size;simp,λb u _=>Below.heap_alloc w _ b u⟩
  ·exact g.elim
 next t x y A=>
  split at g
  rotate_left
  ·rename_i id i E U;unfold Zvw at g
   split at g
   ·rename_i kd m ns an v N a3;by_cases Z:kd=an
    ·subst Z;simp only[decide_true,cond_true]at g;obtain⟨⟨h0,J⟩,g⟩:=g;have O:=G x;rw[E]at O;have a0:=O.aptr_inv;have a5:=G y;rw[a3]at a5;obtain⟨R,j,L,H,D⟩:=arr_store (P:=P) (t:=t) (v:=v) F N U h0 J;have C:(execOp a.eval o).run P w= .ok .skip R:=(by simp[execOp,A,a0,a5.val_inv,j]);unfold Oper.wp;rw[C];refine⟨⟨_,⟨h,ρ,L.put o.dst (TRep.rep_unk _ _)⟩,g⟩,⟨_,rfl⟩,H,λb _ M=>D b (λe=>?_)⟩;obtain⟨T,e1,e2⟩:=Za6 M;simp only[touch,A,E]at e1
     cases e1
     exact e2 id (by simp) ⟨⟨_,N⟩,(F.obj id _ N).1⟩ e.symm
    ·simp[Z]at g
   next cs kd v N a3=>
    split at g
    ·rename_i ns bg;obtain⟨⟨h0,J⟩,g⟩:=g;have a7:=Zli bg;subst a7;have O:=G x;rw[E]at O;have a0:=O.aptr_inv;have a5:=G y;have J:i<ns.length:=by rw[Za0]at J;simpa using J
     obtain⟨R,j,L,H,D⟩:=Zlo F N U a5 (by rw[a3];rfl) (by rw[a3];rfl) (by rw[a3];exact Zsb kd i v ns h0 J);have C:(execOp a.eval o).run P w= .ok .skip R:=(by simp[execOp,A,a0,j]);unfold Oper.wp;rw[C];refine⟨⟨_,⟨h,ρ,L.put o.dst (TRep.rep_unk _ _)⟩,g⟩,⟨_,rfl⟩,H,λb _ M=>D b (λe=>?_)⟩;obtain⟨T,e1,e2⟩:=Za6 M;simp only[touch,A,E]at e1
     cases e1
     exact e2 id (by simp) ⟨⟨_,N⟩,(F.obj id _ N).1⟩ e.symm
    ·exact g.elim
   ·exact g.elim
  rotate_right
  next id off n E U=>
   split at g
   next cs N=>
    cases u:(boxL (cellsOf (st.val y))&&Nat.beq (lenN (cellsOf (st.val y))) n)with
    |false=>simp[u]at g
    |true=>
     simp only[u,cond_true]at g;simp only[Bool.and_eq_true]at u
     split at g
     ·rename_i a2 a4;have O:=G x;rw[E]at O;have a0:=O.ptr_inv;obtain⟨R,j,L,H,D⟩:=Zlo F N U (G y) u.1 (Nat.eq_of_beq_eq_true u.2) a4;have C:(execOp a.eval o).run P w= .ok .skip R:=(by simp[execOp,A,a0,j]);unfold Oper.wp;rw[C];refine⟨⟨_,⟨h,ρ,L.put o.dst (TRep.rep_unk _ _)⟩,g⟩,⟨_,rfl⟩,H,λb _ M=>D b (λe=>?_)⟩;obtain⟨T,e1,e2⟩:=Za6 M;simp only[touch,A,E]at e1
      cases e1
      exact e2 id (by simp) ⟨⟨_,N⟩,(F.obj id _ N).1⟩ e.symm
     ·exact g.elim
   ·rename_i kd m ns N;unfold arrPut at g
    split at g
    next an m' c0 a3=>
     cases u:(decide (kd=an)&&Nat.beq m m'&&Nat.beq off 0&&Nat.beq n m)with
     |false=>simp only[u,cond_false]at g
     |true=>
      simp only[u,cond_true]at g;simp only[Bool.and_eq_true,decide_eq_true_eq]at u;obtain⟨⟨⟨rfl,b1⟩,b2⟩,b3⟩:=u;have J:m=m':=Nat.eq_of_beq_eq_true b1;have h2:off=0:=Nat.eq_of_beq_eq_true b2;have h3:n=m:=Nat.eq_of_beq_eq_true b3;subst J h2;have O:=G x;rw[E]at O;have a0:=O.ptr_inv;have a5:=G y;rw[a3]at a5;obtain⟨vs,bp,hm,a9⟩:=a5.arr_inv;obtain⟨R,j,L,H,D⟩:=arr_put (P:=P) (t:=t) F N U h3 hm a9;have C:(execOp a.eval o).run P w= .ok .skip R:=(by simp[execOp,A,a0,bp,j]);unfold Oper.wp;rw[C];refine⟨⟨_,⟨h,ρ,L.put o.dst (TRep.rep_unk _ _)⟩,g⟩,⟨_,rfl⟩,H,λb _ M=>D b (λe=>?_)⟩;obtain⟨T,e1,e2⟩:=Za6 M;simp only[touch,A,E]at e1
      cases e1
      exact e2 id (by simp) ⟨⟨_,N⟩,(F.obj id _ N).1⟩ e.symm
    ·exact g.elim
   ·exact g.elim
  next id e i off n E U=>
   split at g
   next sz rows z s N c1 hs=>
    cases u:(Nat.beq z sz&&Nat.beq (lenN (cellsOf s)) n)with
    |false=>simp[u]at g
    |true=>
     simp only[u,cond_true]at g;simp only[Bool.and_eq_true]at u;have al:z=sz:=Nat.eq_of_beq_eq_true u.1;subst al;have ap:(cellsOf s).length=n:=by rw[←Za0];exact Nat.eq_of_beq_eq_true u.2
     obtain⟨⟨h0,J⟩,g⟩:=g;obtain⟨h',a6,F'⟩:=F.pureOps [y];have O:=G x;rw[E]at O;obtain⟨aq,a0⟩:=O.eptr_inv
     have fin:∀cs a2,rows[i.toNat]?=some cs→Zbh off (cellsOf s) cs=some a2→K (({pureOps [y] st with objs:=oput (pureOps [y] st).objs id (.own z (rset rows i a2))}:St).put o.dst .unk)→
       o.wp P a w (After X K o a w (Zc2 Sg Sv st ρ o)) Q:=by
      intro cs a2 ad a4 Z;obtain⟨R,j,L,H,D⟩:=Zyt F' N U (F'.val y) hs ap h0 J ad a4 aq;have C:(execOp a.eval o).run P w= .ok .skip R:=(by simp[execOp,A,a0,j]);unfold Oper.wp;rw[C];refine⟨⟨_,⟨h',ρ,L.put o.dst (TRep.rep_unk _ _)⟩,Z⟩,⟨_,rfl⟩,H,λb _ M=>D b (λe=>?_)⟩;obtain⟨T,e1,e2⟩:=Za6 M;simp only[touch,A,E]at e1
      cases e1
      exact e2 id (by simp) ⟨Zgi _ N,aq⟩ e.symm
     cases hfull:(Nat.beq n z&&Nat.beq off 0)with
     |true=>
      simp only[hfull,cond_true]at g;simp only[Bool.and_eq_true]at hfull;have c4:=Nat.eq_of_beq_eq_true hfull.1;have bb:=Nat.eq_of_beq_eq_true hfull.2;subst bb;have b4:i.toNat<rows.length:=by simp only[rlen]at J;simp at J;omega
      have aa:(rows[i.toNat]).length=z:=by
       rcases F'.obj id _ N with⟨b0,_⟩|⟨_,ok⟩
       ·rw[aq]at b0;cases b0
       ·exact ok.hrow _ _ (List.getElem?_eq_getElem b4)
      have bc:∀(vs l:List SV),vs.length=l.length→Zbh 0 vs l=some vs:=by
       intro vs
       induction vs with
       |nil=>intro l e;cases l with
        |nil=>rfl
        |cons=>simp at e
       |cons v vs ih=>intro l e;cases l with
        |nil=>simp at e
        |cons y l=>simp[Zbh,ih l (by simpa using e)]
      exact fin _ _ (List.getElem?_eq_getElem b4) (bc _ _ (by omega)) g
     |false=>
      simp only[hfull,cond_false]at g;obtain⟨cs,_,a7,Z⟩:=Zew _ _ _ g;obtain⟨_,ad⟩:=Zlh h0 J a7
      split at Z
      next a2 a4=>exact fin cs a2 ad a4 Z
      ·exact Z.elim
   ·exact g.elim
  ·exact g.elim
 next t len parts A=>
  split at g
  ·rename_i e d hu Y;rw[Y]at hdst
   split at g
   next z U=>
    cases u:(Zb3 P e&&Nat.ble (len*lenN z) 16777216&&Nat.beq (lenN z) ((szT P e).getD 0)&&parts.toList.all (λp=>Nat.blt p.1 len)&&Zbt (parts.toList.map (·.1)))with
    |false=>simp only[u,cond_false]at g
    |true=>
     simp only[u,cond_true]at g;simp only[Bool.and_eq_true,List.all_eq_true,Za0]at u;obtain⟨⟨⟨⟨bq,br⟩,bs⟩,bt⟩,bu⟩:=u
     split at g
     ·rename_i rows ak;obtain⟨h',a6,F'⟩:=F.pureOps (parts.toList.map (·.2));have b6:((parts.toList.map λp=>(p.1,(pureOps (parts.toList.map (·.2)) st).val p.2)).map (·.1)).Nodup:=by rw[List.map_map];exact Za1 bu
      have b7:∀p∈(parts.toList.map λp=>(p.1,(pureOps (parts.toList.map (·.2)) st).val p.2)),p.1<len:=λp hp=>by obtain⟨q,hq,rfl⟩:=Y3.1 hp;exact Nat.le_of_ble_eq_true (bt q hq)
      obtain⟨cs,j,aa,ag⟩:=Zl7 (P:=P) (ρ:=ρ) F'.sub (vparts:=parts.map λ(i,x)=>(i,a.eval x)) hu U bq (Nat.le_of_ble_eq_true br) (Nat.eq_of_beq_eq_true bs) b7 b6 ak (by simp) (λi p q hp hq=>by
       simp at hp hq;obtain⟨m,n,e1,rfl⟩:=hp;obtain⟨m',n',e2,rfl⟩:=hq;rw[e1]at e2
       cases e2
       exact⟨rfl,F'.val n⟩) (Zoz ak b7 b6)
      have a1:=Zib hdst (k:=64) (by omega);have L:=F'.newOwn (128*d+64) a1 (.own z.length rows) ⟨w.heap.size,0,rows.length,len,z.length,false⟩ (Zbo w _) (by simp) (λ_=>Nat.le_refl _) (.inr ⟨by rw[Zab],by rw[Zab];exact ag⟩);have hr:=Rep.osl (h:=h') (ρ:=upd ρ (128*d+64) ⟨w.heap.size,0,rows.length,len,z.length,false⟩) (128*d+64) (by rw[Zab]);rw[Zab,aa]at hr;have C:(execOp a.eval o).run P w= .ok (.value (.slice (some ⟨w.heap.size,0,none⟩) len len)) (w.alloc (.cells cs e)):=(by simp only[execOp,A,Sem.run_bind,j,Result.andThen_ok];rfl);unfold Oper.wp;rw[C];rw[Za0]at g;refine⟨⟨_,⟨h',_,L.put o.dst (TRep.of_rep' ?_)⟩,g⟩,⟨_,rfl⟩,(Zbo w _).size,λb u _=>Below.heap_alloc w _ b u⟩;rw[aa];exact hr
     ·exact g.elim
   ·exact g.elim
  ·exact g.elim
 next t l c A=>
  split at g
  ·rename_i e d n m hu Y bh a7;rw[Y]at hdst
   split at g
   next z U=>
    cases u:(Zb3 P e&&Nat.beq (lenN z) ((szT P e).getD 0))with
    |false=>simp only[u,cond_false]at g
    |true=>simp only[u,cond_true]at g;simp only[Za0]at g;simp only[Bool.and_eq_true,Za0]at u;obtain⟨⟨h0,J,h2⟩,g⟩:=g;obtain⟨cs,j,ag⟩:=Zn0 (P:=P) F.sub hu U u.1 (Nat.eq_of_beq_eq_true u.2) h0 J h2;have hl:=G l;rw[bh]at hl;have hc:=G c;rw[a7]at hc;have a1:=Zib hdst (k:=64) (by omega);have L:=F.newOwn (128*d+64) a1 (.own z.length (rrep n z)) ⟨w.heap.size,0,(rrep n z).length,m.toNat,z.length,false⟩ (Zbo w (.cells cs e)) (by simp) (λ_=>Nat.le_refl _) (.inr ⟨by rw[Zab],by rw[Zab];exact ag⟩);have hr:=Rep.osl (h:=h) (ρ:=upd ρ (128*d+64) ⟨w.heap.size,0,(rrep n z).length,m.toNat,z.length,false⟩) (128*d+64) (by rw[Zab]);rw[Zab]at hr;have aa:(rrep n z).length=n.toNat:=(by simp[rrep]);have C:(execOp a.eval o).run P w= .ok (.value (.slice (some ⟨w.heap.size,0,none⟩) n.toNat m.toNat)) (w.alloc (.cells cs e)):=(by simp only[execOp,A,hl.val_inv,hc.val_inv,Sem.run_bind,j,Result.andThen_ok];rfl);unfold Oper.wp;rw[C];refine⟨⟨_,⟨h,_,L.put o.dst (TRep.of_rep' ?_)⟩,g⟩,⟨_,rfl⟩,(Zbo w _).size,λb u _=>Below.heap_alloc w _ b u⟩;simp only[aa]at hr⊢;exact hr
   ·exact g.elim
  ·exact g.elim
 next t r A=>
  split at g
  ·rename_i kt et d hu Y;rw[Y]at hdst;have a1:=Zib hdst (k:=64) (by omega);have go:K ((st.bind (128*d+64) (.mp [])).put o.dst (.omp (128*d+64)))→(execOp a.eval o).run P w= .ok (.value (.map (some w.heap.size))) (w.alloc (.map #[] 0))→o.wp P a w (After X K o a w (Zc2 Sg Sv st ρ o)) Q:=by intro Z j;have L:=F.newOwn (128*d+64) a1 (.mp []) ⟨w.heap.size,0,0,0,0,false⟩ (Zbo w (.map #[] 0)) (by simp) (λ_=>Nat.le_refl _) ⟨by rw[Zab],⟨#[],0,by rw[Zab];show(w.heap.push _)[_]?=_;simp,by simp[MapOK]⟩,λo=>by rw[Zab];exact Zcs F.sub o _ (Nat.le_refl _)⟩;have hr:=Rep.omp (h:=h) (ρ:=upd ρ (128*d+64) ⟨w.heap.size,0,0,0,0,false⟩) (128*d+64);rw[Zab]at hr;unfold Oper.wp;rw[j];exact⟨⟨_,⟨h,_,L.put o.dst (TRep.of_rep' hr)⟩,Z⟩,⟨_,rfl⟩,(Zbo w _).size,λb u _=>Below.heap_alloc w _ b u⟩
   split at g
   ·rename_i a8;have bx:r=none:=by cases r<;>simp at a8;rfl
    subst bx;exact go g (by simp[execOp,A,Instr.makeMap,newObj,Sem.run])
   next kd n a8=>
    cases r with
    |none=>simp at a8
    |some y=>simp at a8;have hy:=G y;rw[a8]at hy;exact go g (by simp[execOp,A,Instr.makeMap,newObj,Sem.run,run_underlying hu,hy.val_inv,asInt,asIntOf])
   ·exact g.elim
  ·exact g.elim
 next t m k v A=>
  split at g
  next kt et id s n hu az bi ao=>
   split at g
   ·rename_i es bj N;have J:=G m;rw[az]at J;have h2:=G k;rw[bi]at h2;have h3:=G v;rw[ao]at h3;obtain⟨R,j,L,H,D⟩:=Zyu (P:=P) F (n:=n) (s:=s) hu bj N;have C:(execOp a.eval o).run P w= .ok .skip R:=(by simp[execOp,A,J.omp_inv,h2.val_inv,h3.val_inv,j]);unfold Oper.wp;rw[C];refine⟨⟨_,⟨h,ρ,L.put o.dst (TRep.rep_unk _ _)⟩,g⟩,⟨_,rfl⟩,H,λb _ M=>D b (λe=>?_)⟩;obtain⟨T,e1,e2⟩:=Za6 M;simp only[touch,A,az]at e1
    cases e1
    exact e2 id (by simp) ⟨⟨_,N⟩,(F.obj id _ N).1⟩ e.symm
   ·exact g.elim
  ·exact g.elim
 next bk bl x A=>
  split at g
  next e s hs Y E=>
   split at g
   next d he bm=>rw[bm]at hdst;have J:=G x;rw[E]at J;obtain⟨v,R,j,⟨ab,L,hr⟩,H,D⟩:=Zv7 (P:=P) F hs Y he (Zib hdst (k:=64) (by omega)) g.1;have C:(execOp a.eval o).run P w= .ok (.value v) R:=(by simp[execOp,A,J.val_inv,j]);unfold Oper.wp;rw[C];exact⟨⟨_,⟨h,ab,L.put o.dst (TRep.of_rep' hr)⟩,g.2⟩,⟨_,rfl⟩,H,λb u _=>D b u⟩
   ·exact g.elim
  next e e' id hs Y E=>
   split at g
   next sz rows he N=>
    cases u:(Nat.beq bk bl&&Nat.beq sz 1)with
    |false=>simp only[u,cond_false]at g
    |true=>
     simp only[u,cond_true]at g;simp only[Bool.and_eq_true]at u;have e1:=Nat.eq_of_beq_eq_true u.1;have e2:=Nat.eq_of_beq_eq_true u.2;subst e1;subst e2;have J:=G x;rw[E]at J;obtain⟨R,j,L,H,hn,D⟩:=Zv8 (P:=P) F hs he N J g.1;have C:(execOp a.eval o).run P w= .ok (.value (a.eval x)) R:=(by simp[execOp,A,j]);unfold Oper.wp;rw[C];refine⟨⟨_,⟨h,ρ,L.put o.dst (TRep.of_rep' J)⟩,g.2⟩,⟨_,rfl⟩,H,λb u M=>D b (λe=>?_)⟩;obtain⟨T,q1,q2⟩:=Za6 M;simp only[touch,A,E]at q1
     cases q1
     exact q2 id (by simp) ⟨⟨_,N⟩,hn⟩ e.symm
   ·exact g.elim
  ·exact g.elim
 next x y t1 t2 A=>
  split at g
  ·rename_i e d ai ys hu Y V;rw[Y]at hdst
   split at g
   next z U=>
    cases u:(Zb3 P e&&srcOK z ai)with
    |false=>simp only[u,cond_false]at g
    |true=>
     simp only[u,cond_true]at g;simp only[Bool.and_eq_true]at u;have a1:=Zib hdst (k:=64) (by omega)
     split at g
     next id E=>
      split at g
      next sz rows N=>
       cases hzz:Nat.beq z sz with
       |false=>simp only[hzz,cond_false]at g
       |true=>
        simp only[hzz,cond_true]at g;have:=Nat.eq_of_beq_eq_true hzz;subst this;have J:=G x;rw[E]at J;obtain⟨v,R,j,⟨ab,L,hr⟩,H,D⟩:=Zwk (P:=P) (ty:=o.type) F hu U u.1 V (G y) u.2 N J g.1 a1;have C:(execOp a.eval o).run P w= .ok (.value v) R:=(by simp[execOp,A,resolve,invoke,builtin,j]);unfold Oper.wp;rw[C];refine⟨⟨_,⟨h,ab,L.put o.dst (TRep.of_rep' hr)⟩,g.2⟩,⟨_,rfl⟩,H,λb am M=>D b am (λhl=>?_)⟩;obtain⟨T,e1,e2⟩:=Za6 M;simp only[touch,A,E]at e1
        cases e1
        exact e2 id (by simp) hl
      ·exact g.elim
     next sz E=>have J:=G x;rw[E]at J;obtain⟨v,R,j,⟨ab,L,hr⟩,H,D⟩:=append_nil (P:=P) (ty:=o.type) F hu U u.1 V (G y) u.2 J g.1 a1;have C:(execOp a.eval o).run P w= .ok (.value v) R:=(by simp[execOp,A,resolve,invoke,builtin,j]);unfold Oper.wp;rw[C];exact⟨⟨_,⟨h,ab,L.put o.dst (TRep.of_rep' hr)⟩,g.2⟩,⟨_,rfl⟩,H,λb am _=>D b am⟩
     ·exact g.elim
   ·exact g.elim
  ·exact g.elim
 next x y t1 t2 A=>
  split at g
  next e id off m zz ys hu E V=>
   split at g
   next cs kd U N he=>
    cases u:Nat.ble m 4 with
    |false=>simp only[u,cond_false]at g
    |true=>
     simp only[u,cond_true]at g
     have ar:∃ai,Zjn st.objs (st.val y)=some (ai,ys):=by
      unfold Zif at V
      split at V
      ·simp at V;exact⟨_,V⟩
      ·simp at V
      ·cases V
     obtain⟨ai,ar⟩:=ar;have J:=G x;rw[E]at J
     have ah:imin (rlen ys) (Int.ofNat m)=((min ys.length m:Nat):Int):=by
      have bd:∀p q:Int,imin p q=min p q:=λp q=>by unfold imin;rw[Int.min_def];split<;>split<;>omega
      rw[bd];show min (ys.length:Int) (m:Int)=_;omega
     obtain⟨acc,Z,bv,b8⟩:=Zql m [] g (by rw[ah];simp) (by rw[ah];simp;omega) (by simp);rw[ah]at bv
     split at Z
     ·rename_i a2 a4;obtain⟨R,j,L,H,D⟩:=copy_box (P:=P) (t2:=t2) (ty:=o.type) (acc:=acc) (m:=m) F hu U N ar (G y) (kd:=kd) b8 (by omega) a4;have C:(execOp a.eval o).run P w= .ok (.value (goInt acc.length)) R:=(by simp[execOp,A,resolve,invoke,builtin,J.bsl_inv,j]);unfold Oper.wp;rw[C];rw[Za0]at Z;refine⟨⟨_,⟨h,ρ,L.put o.dst (TRep.of_rep' (.pure _ _ (.val _)))⟩,Z⟩,⟨_,rfl⟩,H,λb _ M=>D b (λe=>?_)⟩;obtain⟨T,e1,e2⟩:=Za6 M;simp only[touch,A,E]at e1
      cases e1
      exact e2 id (by simp) ⟨⟨_,N⟩,(F.obj id _ N).1⟩ e.symm
     ·exact Z.elim
   ·exact g.elim
  ·exact g.elim
 next f W c2 A=>
  split at g
  ·exact g.elim
  next fn hf=>
   split at g
   ·split at g
    next vs ao=>obtain⟨v,hr,Z⟩:=Zh0 g;have ha:=Zjl G _ _ ao;have j:(execOp a.eval o).run P w= .ok (.value v) w:=(by have:=hr w;rw[show vs.toArray=W.map a.eval from by subst ha;cases W;simp]at this;simp[execOp,A,resolve,Act.eval,Deferred.ofValue,invoke,this]);unfold Oper.wp;rw[j];exact⟨Goes.put F o.dst (.pure _ _ (.val _)) Z,⟨_,rfl⟩,Nat.le_refl _,λb _ _=>rfl⟩
    ·exact g.elim
   obtain⟨h',a6,F'⟩:=F.frzAll (Zc3 st.objs (Sg f).ps 0 (W.toList.map st.val))
   obtain⟨g1,g2⟩:=Zmg (P:=P) F F' a6 f (Sg f) fn.params.toList fn.resultTypes.toList _ [] (W.map a.eval) #[] o.dst K (by simp) (λi v s hv hs=>by
    simp at hv hs;obtain⟨x,au,rfl⟩:=hv;obtain⟨x',ac,rfl⟩:=hs;rw[au]at ac;cases ac
    exact F'.val x) rfl (by simp) g
   simp only[Array.append_empty]at g1 g2;have j:(execOp a.eval o).run P w= .ok (.enter f (W.map a.eval)) w:=(by simp[execOp,A,resolve,Act.eval,Deferred.ofValue,invoke,g1]);unfold Oper.wp;rw[j];refine Calls.mono g2 λe bf he=>?_;obtain⟨v,rfl,hg,H,av⟩:=he;refine⟨hg,⟨_,rfl⟩,H,λb u M=>av b u (λid hm hl=>?_)⟩;obtain⟨T,e1,e2⟩:=Za6 M;simp only[touch,A]at e1
   cases e1
   obtain⟨⟨o',aw⟩,ax⟩:=hl;exact e2 id hm ⟨Zgi _ aw,ax⟩
 next t W ae A=>
  split at g
  ·rename_i f af ap;obtain⟨h',a6,F'⟩:=F.frzAll (Zc3 st.objs (Sv o.type).ps 0 (W.toList.map st.val));have ay:=G (.tmp t);rw[ap]at ay
   have be:∃cv:Array Value,a.eval (.tmp t)= .func (.func f) #[] cv∧cv.size=af.length∧∀(i:Nat) v s,cv[i]?=some v→af[i]?=some s→PRep h v s:=by
    generalize a.eval (.tmp t)=v at ay
    cases ay with
    |pure _ _ hp=>cases hp with
     |clo _ vs _ hl hc=>exact⟨vs,rfl,hl,hc⟩
   obtain⟨cv,bw,b9,ba⟩:=be
   obtain⟨g1,g2⟩:=Zmg (P:=P) F F' a6 f (Sv o.type) ae.toList _ _ af (W.map a.eval) cv o.dst K (by simp) (λi v s hv hs=>by
    simp at hv hs;obtain⟨x,au,rfl⟩:=hv;obtain⟨x',ac,rfl⟩:=hs;rw[au]at ac;cases ac
    exact F'.val x) b9 (λi v s hv hs=>(ba i v s hv hs).mono a6) g
   have j:(execOp a.eval o).run P w= .ok (.enter f (W.map a.eval++cv)) w:=(by simp[execOp,A,resolve,bw,Deferred.ofValue,invoke,g1]);unfold Oper.wp;rw[j];refine Calls.mono g2 λe bf he=>?_;obtain⟨v,rfl,hg,H,av⟩:=he;refine⟨hg,⟨_,rfl⟩,H,λb u M=>av b u (λid hm hl=>?_)⟩;obtain⟨T,e1,e2⟩:=Za6 M;simp only[touch,A]at e1
   cases e1
   obtain⟨⟨o',aw⟩,ax⟩:=hl;exact e2 id hm ⟨Zgi _ aw,ax⟩
  ·exact g.elim
 ·exact g.elim
end
end Go.Px
namespace Go.Px
open Go.RowKit
section
variable{X:Cx}{h:Hp}{ρ:Nat→Loc}{st:St}{a:Act}{w:World}{P:Program}
def Zil(F:FitsAt X h ρ st a w)(k:FuncId→Sig)(l:TypeId→Sig)(o:Oper)(e:List (Nat×Bool)→Operand→SV)
  (f:∀j x,(∀g∈j,a.tmps.getD g.1 undef= .bool g.2)→Rep h ρ (a.eval x) (e j x)) (K:St→Prop) (i:loud P o.op=false)
  (b:exec P k l o e st K):∃v,(∀d,SameB (fblk P a o) w d→(execOp a.eval o).run P d= .ok (.value v) d)∧Goes X K (a.put o.dst v) w:=by
 unfold exec at b
 split at b
 next C m=>obtain⟨v,c,p⟩:=view_calm F o K i m b;exact⟨v,λd _=>c d,p⟩
 ·simp only[i,cond_false]at b
  split at b
  next s n=>obtain⟨v,c,r⟩:=Zg0 F o e f n;exact⟨v,c,_,⟨h,ρ,F.put o.dst (TRep.of_rep' r)⟩,b⟩
  ·exact Zsc F o K b
def Zl8(F:FitsAt X h ρ st a w)(e:FuncId→Sig)(f:TypeId→Sig)(o:Oper)(j:List (Nat×Bool)→Operand→SV)
  (n:∀q x,(∀g∈q,a.tmps.getD g.1 undef= .bool g.2)→Rep h ρ (a.eval x) (j q x)) (K:St→Prop)
  (c:exec P e f o j st K) (Q:Exit→Act→World→Prop):o.wp P a w (After X K o a w (Zc2 e f st ρ o)) Q:=by
 cases i:loud P o.op with
 |true=>
  unfold exec at c
  split at c
  ·rename_i C y;obtain⟨v,t,d,k,r,l⟩:=view_loud F o K i y c;unfold Oper.wp;rw[d];refine⟨k,⟨_,rfl⟩,r,λb J p=>?_⟩
   rcases l with⟨id,l,z⟩|rfl
   ·obtain⟨A,e1,e2⟩:=Za6 p;rw[l]at e1;cases e1;exact z b ‹_› (λi=>e2 id (by simp) i)
   ·rfl
  ·simp only[i,cond_true]at c
   cases hk:(kmode st&&constB o)with
   |false=>rw[hk,cond_false]at c;exact Zm4 F e f o K c Q
   |true=>rw[hk,cond_true]at c;refine Oper.wp_mono (λM t u=>?_) (Zm4 F e f o _ c Q);obtain⟨⟨L,⟨N,s,D⟩,E⟩,m⟩:=u;obtain⟨G,_,H⟩:=D.pureOps (dstL o.dst);exact⟨⟨_,⟨G,s,H⟩,E⟩,m⟩
 |false=>obtain⟨v,d,k⟩:=Zil F e f o j n K i c;unfold Oper.wp;rw[d w (SameB.refl _ w)];exact⟨k,⟨_,rfl⟩,Nat.le_refl _,λ_ _ _=>rfl⟩
def chain_holds(F:FitsAt X h ρ st a w):∀(n:Nat) (g:Nat×Bool),a.tmps.getD g.1 undef= .bool g.2→∀c∈chain st n g,a.tmps.getD c.1 undef= .bool c.2
 |0,_,_=>by simp[chain]
 |n+1,g,hg=>by
  intro c b;simp only[chain,List.mem_cons]at b
  rcases b with rfl|b
  ·exact hg
  ·split at b
   ·rename_i t e x d;rw[Zcf]at d
    cases hs:st.tmps[g.1]? with
    |none=>simp[hs]at d
    |some s=>
     simp[hs]at d;subst d;have r:=F.tm g.1 _ hs
     rcases r with⟨f,_⟩|⟨_,h2⟩
     ·exact chain_holds F n (t,e) f c b
     ·rw[hg]at h2;simp[undef]at h2
   ·simp at b
def Zpc(c:Array Oper)(d:Array Value)(j t:Nat)(e:(c[j]?).bind (·.dst)=some t)(b:Bool):(yielded c d j==some b)=true↔d.getD t undef= .bool b:=by
 unfold yielded;simp only[e,Option.bind_some];rw[Array.getD_eq_getD_getElem?]
 cases hx:d[t]? with
 |none=>simp[undef]
 |some v=>
  simp only[Ye]
  cases v<;>simp
def Zs7(t:Nat)(b:Bool):∀(d:List SV) (i:Nat),(fixL t b d)[i]?=(d[i]?).map (λs=>match s with| .gd t' w v=>(bif Nat.beq t t' then(bif w==b then v else .gd t' w v)else .gd t' w v)|s=>s)
 | [],i=>by simp[fixL]
 |c::d,0=>by cases c<;>simp[fixL]
 |c::d,i+1=>by
  have:=Zs7 t b d i
  cases c<;>simpa[fixL]using this
def Zkb(t:Nat)(b:Bool):∀(d:List SV),(fixL t b d).length=d.length
 | []=>rfl
 |c::d=>by cases c<;>simp[fixL,Zkb t b d]
def FitsAt.fix(F:FitsAt X h ρ st a w)(t:Nat)(b:Bool)(d:a.tmps.getD t undef= .bool b):FitsAt X h ρ (st.fix t b) a w:=by
 refine{F with size:=?_,tm:=λi s c=>?_}
 ·simp[St.fix,Zeh,Zkb,F.size]
 ·simp only[St.fix,Zeh]at c;rw[List.getElem?_set]at c;by_cases hti:t=i
  ·subst hti;simp only[if_true]at c
   split at c
   ·cases c;rw[d];exact TRep.of_rep' (.pure _ _ (.val _))
   ·cases c
  ·simp only[hti,if_false,Zs7]at c
   cases hx:st.tmps[i]? with
   |none=>simp[hx]at c
   |some x=>
    simp[hx]at c;have r:=F.tm i x hx
    split at c
    ·rename_i f e v;by_cases htt:t=f
     ·subst htt;simp only[Y5,cond_true]at c
      cases hwb:(e==b)with
      |false=>simp only[hwb,cond_false]at c;subst c;exact r
      |true=>
       simp only[hwb,cond_true]at c;subst c;have:e=b:=(by simpa using hwb);subst this
       rcases r with⟨_,r⟩|⟨hne,_⟩
       ·exact TRep.of_rep' r
       ·exact absurd d hne
     ·rw[Zaj htt]at c;simp only[cond_false]at c;subst c;exact r
    ·subst c;exact r
def Zl9{b:Array Oper}{o:Oper}{j t:Nat}{c:Bool}(e:o.guard=some (j,c))(d:(b[j]?).bind (·.dst)=some t):
  Region.wanted o (yielded b a.tmps)=true↔a.tmps.getD t undef= .bool c:=by
 simp only[Region.wanted,e];exact Zpc b a.tmps j t d c
def Zs8{b:Array Oper}{j t:Nat}{c d:Bool}(h:gdst b (some (j,c))=some (t,d)):(b[j]?).bind (·.dst)=some t∧c=d:=by
 unfold gdst at h;simp only[]at h
 split at h
 next f e=>simp at h;exact⟨by rw[e,h.1],h.2⟩
 ·cases h
def Zcr(e:FuncId→Sig)(f:TypeId→Sig)(d:Array Oper)(st:St)(ρ:Nat→Loc)(o:Oper)(b:Nat):Prop:=
 ∀c,Zm7 e f d st o=some c→∃id∈c,live st.objs ρ id∧(ρ id).blk=b
def FitsAt.gd_slot(F:FitsAt X h ρ st a w){t c:Nat}{w2:Bool}{s:SV}(b:lget st.tmps t= .gd c w2 s):(a.tmps.getD c undef= .bool w2∧Rep h ρ (a.tmps.getD t undef) s)∨(a.tmps.getD c undef≠ .bool w2∧a.tmps.getD t undef=undef):=by
 rw[Zcf]at b
 cases hx:st.tmps[t]? with
 |none=>rw[hx]at b;simp at b
 |some x=>rw[hx]at b;simp only[Ye]at b;subst b;exact F.tm t _ hx
def Zkc:∀(n:Nat) (st:St) (t:Nat) (w:Bool),(St.fixC n st t w).objs=st.objs
 |0,st,t,w=>rfl
 |n+1,st,t,w=>by
  unfold St.fixC
  split
  ·exact Zkc n st _ _
  ·rfl
def Zgw(F:FitsAt X h ρ st a w):∀(n t:Nat) (d:Bool) (g no:St→Prop),Zvy n t d st g no→
  (a.tmps.getD t undef= .bool d∧FitsAt X h ρ (St.fixC n st t d) a w∧g (St.fixC n st t d))∨(a.tmps.getD t undef≠ .bool d∧∃i,FitsAt X h ρ i a w∧no i)
 |0,t,d,g,no,hx=>hx.elim
 |n+1,t,d,g,no,hx=>by
  unfold Zvy at hx;unfold St.fixC
  split at hx
  ·rename_i b j;have f:a.tmps.getD t undef= .bool b:=(by have:=F.slot [] (by simp) t;rw[j]at this;exact this.val_inv);simp only[j];by_cases e:b=d
   ·subst e;exact .inl ⟨f,F.fix t b f,by cases b<;>exact hx⟩
   ·refine .inr ⟨λc=>by rw[f]at c;injection c with c;exact e c,st.fix t b,F.fix t b f,?_⟩
    cases b<;>cases d<;>first|exact absurd rfl e|exact hx
  ·rename_i p w2 b j;simp only[j];have l:=F.gd_slot j
   rcases Zgw F n p w2 _ _ hx with⟨m,k,q⟩|⟨m,i,k,hn⟩
   ·have f:a.tmps.getD t undef= .bool b:=by
     rcases l with⟨_,r⟩|⟨hne,_⟩
     ·exact r.val_inv
     ·exact absurd m hne
    by_cases e:b=d
    ·subst e;exact .inl ⟨f,k.fix t b f,by cases b<;>exact q⟩
    ·refine .inr ⟨λc=>by rw[f]at c;injection c with c;exact e c,(St.fixC n st p w2).fix t b,k.fix t b f,?_⟩
     cases b<;>cases d<;>first|exact absurd rfl e|exact q
   ·have o:a.tmps.getD t undef=undef:=by
     rcases l with⟨c,_⟩|⟨_,o⟩
     ·exact absurd c m
     ·exact o
    exact .inr ⟨λc=>by rw[o]at c;simp[undef]at c,i,k,hn⟩
  ·exact hx.elim
def Zpd(F:FitsAt X h ρ st a w)(m:FuncId→Sig)(n:TypeId→Sig)(f:Array Oper)(o:Oper)(K:St→Prop)(d:aop P m n f o st K)(Q:Exit→Act→World→Prop):
  if Region.wanted o (yielded f a.tmps)then o.wp P a w (After X K o a w (Zcr m n f st ρ o)) Q else Goes X K (a.put o.dst undef) w:=by
 unfold aop at d
 split at d
 next u=>simp only[Region.wanted,u,if_true];have e:Zcr m n f st ρ o=Zc2 m n st ρ o:=(by unfold Zcr Zc2 Zm7;simp only[u]);rw[e];exact Zl8 F m n o _ (λL x u=>F.operand L u x) K d Q
 next g u=>
  split at d
  ·exact d.elim
  ·rename_i t wt H;obtain⟨j,i⟩:=g;obtain⟨W,rfl⟩:=Zs8 H;have D:=Zl9 (a:=a) u W
   split at d
   next s V=>
    cases hl:loud P o.op with
    |true=>simp[hl]at V
    |false=>
     simp only[hl,cond_false]at V;by_cases c:Region.wanted o (yielded f a.tmps)=true
     ·rw[if_pos c];have q:=D.1 c
      obtain⟨v,Y,r⟩:=Zg0 F o _ (λL x M=>F.operand (L++chain st 4 (t,i)) (λg N=>by
       rcases List.mem_append.1 N with N|N
       ·exact M g N
       ·exact chain_holds F 4 (t,i) q g N) x) V
      unfold Oper.wp;rw[Y w (SameB.refl _ w)];exact⟨⟨_,⟨h,ρ,F.put o.dst (s:=.gd t i s) (.inl ⟨q,r⟩)⟩,d⟩,⟨_,rfl⟩,Nat.le_refl _,λ_ _ _=>rfl⟩
     ·rw[if_neg c];exact⟨_,⟨h,ρ,F.put o.dst (s:=.gd t i s) (.inr ⟨λe=>c (D.2 e),rfl⟩)⟩,d⟩
   ·have E:∀{y:St} {b:Bool},FitsAt X h ρ y a w→y.objs=st.objs→Zcr m n f st ρ o=Zc2 m n (y.fix t i) ρ o→a.tmps.getD t undef= .bool b→aopB P m n o t i b y K→
      if Region.wanted o (yielded f a.tmps)then o.wp P a w (After X K o a w (Zcr m n f st ρ o)) Q else Goes X K (a.put o.dst undef) w:=by
     intro y b F a0 et p d;by_cases c:Region.wanted o (yielded f a.tmps)=true
     ·rw[if_pos c];have e:=D.1 c;rw[p]at e;have O:b=i:=(by injection e);have z:=F.fix t i (by rw[p,O]);rw[et];refine Zl8 z m n o _ (λL x M=>z.operand L M x) K ?_ Q;subst O
      cases b<;>exact d
     ·rw[if_neg c]
      have O:b=!i:=by
       cases b<;>cases i<;>first|rfl|exact absurd (D.2 p) c
      have z:=F.fix t (!i) (by rw[p,O]);refine⟨_,⟨h,ρ,z.put o.dst (s:=.gd t i (.val (.bool true))) (.inr ⟨λe=>c (D.2 e),rfl⟩)⟩,?_⟩;subst O
      cases i<;>exact d
    split at d
    next b q=>have p:a.tmps.getD t undef= .bool b:=(by have:=F.slot [] (by simp) t;rw[q]at this;exact this.val_inv);refine E F rfl ?_ p d;unfold Zcr Zc2 Zm7 St.fixN St.fixC;simp only[u,H,q];rfl
    next l w2 b q=>
     split at d
     ·rename_i J U;have A:a.tmps.getD l undef= .bool J:=(by have:=F.slot [] (by simp) l;rw[U]at this;exact this.val_inv);have C:=F.gd_slot q;by_cases e2:J=w2
      ·subst e2
       have p:a.tmps.getD t undef= .bool b:=by
        rcases C with⟨_,Z⟩|⟨hne,_⟩
        ·exact Z.val_inv
        ·exact absurd A hne
       refine E (F.fix l J A) rfl ?_ p ?_
       ·unfold Zcr Zc2 Zm7 St.fixN St.fixC;simp only[u,H,q];unfold St.fixC;simp only[U];rfl
       ·cases J<;>exact d
      ·have G:a.tmps.getD t undef=undef:=by
        rcases C with⟨k,_⟩|⟨_,G⟩
        ·rw[A]at k;injection k with k;exact absurd k e2
        ·exact G
       have R:¬Region.wanted o (yielded f a.tmps)=true:=λc=>by have:=D.1 c;rw[G]at this;simp[undef]at this
       rw[if_neg R];refine⟨_,⟨h,ρ,(F.fix l J A).put o.dst (s:=.gd l w2 (.val (.bool true))) (.inr ⟨λk=>by rw[A]at k;injection k with k;exact e2 k,rfl⟩)⟩,?_⟩
       cases J<;>cases w2<;>first|exact absurd rfl e2|exact d
     ·have C:=F.gd_slot q
      rcases Zgw F 4 l w2 _ _ d with⟨T,z,hy⟩|⟨T,st',z,hn⟩
      ·have p:a.tmps.getD t undef= .bool b:=by
        rcases C with⟨_,Z⟩|⟨hne,_⟩
        ·exact Z.val_inv
        ·exact absurd T hne
       refine E z (Zkc 4 st l w2) ?_ p hy;have e5:St.fixC 5 st t i=(St.fixC 4 st l w2).fix t i:=by rw[St.fixC];simp only[q]
       have ho:((St.fixC 4 st l w2).fix t i).objs=st.objs:=Zkc 4 st l w2;unfold Zcr Zc2 Zm7 St.fixN;simp only[u,H,e5,ho]
      ·have G:a.tmps.getD t undef=undef:=by
        rcases C with⟨k,_⟩|⟨_,G⟩
        ·exact absurd k T
        ·exact G
       have R:¬Region.wanted o (yielded f a.tmps)=true:=λc=>by have:=D.1 c;rw[G]at this;simp[undef]at this
       rw[if_neg R];exact⟨_,⟨h,ρ,z.put o.dst (s:=.gd l w2 (.val (.bool true))) (.inr ⟨T,rfl⟩)⟩,hn⟩
     ·exact d.elim
    ·exact d.elim
def aop_calm(F:FitsAt X h ρ st a w)(Q:FuncId→Sig)(R:TypeId→Sig)(ops:Array Oper)(o:Oper)(K:St→Prop)(U:loud P o.op=false)(d:aop P Q R ops o st K):
  ∃v,(Region.wanted o (yielded ops a.tmps)=true→∀q,SameB (fblk P a o) w q→(execOp a.eval o).run P q= .ok (.value v) q)∧
   (Region.wanted o (yielded ops a.tmps)=false→v=undef)∧Goes X K (a.put o.dst v) w:=by
 unfold aop at d
 split at d
 next H=>obtain⟨v,k,M⟩:=Zil F Q R o _ (λG x H=>F.operand G H x) K U d;exact⟨v,λ_=>k,λe=>by simp[Region.wanted,H]at e,M⟩
 next g H=>
  split at d
  ·exact d.elim
  ·rename_i t wt Y;obtain⟨j,f⟩:=g;obtain⟨V,rfl⟩:=Zs8 Y;have z:=Zl9 (a:=a) H V
   split at d
   ·rename_i s Z;simp only[U,cond_false]at Z;by_cases c:Region.wanted o (yielded ops a.tmps)=true
    ·have u:=z.1 c
     obtain⟨v,k,r⟩:=Zg0 F o _ (λG x J=>F.operand (G++chain st 4 (t,f)) (λg L=>by
      rcases List.mem_append.1 L with L|L
      ·exact J g L
      ·exact chain_holds F 4 (t,f) u g L) x) Z
     exact⟨v,λ_=>k,λe=>by(rw[c]at e;cases e),_,⟨h,ρ,F.put o.dst (s:=.gd t f s) (.inl ⟨u,r⟩)⟩,d⟩
    ·exact⟨undef,λe=>absurd e c,λ_=>rfl,_,⟨h,ρ,F.put o.dst (s:=.gd t f s) (.inr ⟨λe=>c (z.2 e),rfl⟩)⟩,d⟩
   ·have A:∀{E:St} {b:Bool},FitsAt X h ρ E a w→a.tmps.getD t undef= .bool b→aopB P Q R o t f b E K→
      ∃v,(Region.wanted o (yielded ops a.tmps)=true→∀q,SameB (fblk P a o) w q→(execOp a.eval o).run P q= .ok (.value v) q)∧
       (Region.wanted o (yielded ops a.tmps)=false→v=undef)∧Goes X K (a.put o.dst v) w:=by
     intro E b F l d;by_cases c:Region.wanted o (yielded ops a.tmps)=true
     ·have e:=z.1 c;rw[l]at e;have N:b=f:=(by injection e);have m:=F.fix t f (by rw[l,N]);obtain⟨v,k,M⟩:=Zil m Q R o _ (λG x J=>m.operand G J x) K U (by subst N;cases b<;>exact d);exact⟨v,λ_=>k,λe=>by(rw[c]at e;cases e),M⟩
     ·have N:b=!f:=by
       cases b<;>cases f<;>first|rfl|exact absurd (z.2 l) c
      have m:=F.fix t (!f) (by rw[l,N]);refine⟨undef,λe=>absurd e c,λ_=>rfl,_,⟨h,ρ,m.put o.dst (s:=.gd t f (.val (.bool true))) (.inr ⟨λe=>c (z.2 e),rfl⟩)⟩,?_⟩;subst N
      cases f<;>exact d
    split at d
    next b u=>have l:a.tmps.getD t undef= .bool b:=(by have:=F.slot [] (by simp) t;rw[u]at this;exact this.val_inv);exact A F l d
    next y w2 b u=>
     split at d
     ·rename_i D a0;have n:a.tmps.getD y undef= .bool D:=(by have:=F.slot [] (by simp) y;rw[a0]at this;exact this.val_inv);have p:=F.gd_slot u;by_cases e2:D=w2
      ·subst e2
       have l:a.tmps.getD t undef= .bool b:=by
        rcases p with⟨_,W⟩|⟨hne,_⟩
        ·exact W.val_inv
        ·exact absurd n hne
       refine A (F.fix y D n) l ?_
       cases D<;>exact d
      ·have C:a.tmps.getD t undef=undef:=by
        rcases p with⟨i,_⟩|⟨_,C⟩
        ·rw[n]at i;injection i with i;exact absurd i e2
        ·exact C
       have O:¬Region.wanted o (yielded ops a.tmps)=true:=λc=>by have:=z.1 c;rw[C]at this;simp[undef]at this
       refine⟨undef,λe=>absurd e O,λ_=>rfl,_,⟨h,ρ,(F.fix y D n).put o.dst (s:=.gd y w2 (.val (.bool true))) (.inr ⟨λi=>by rw[n]at i;injection i with i;exact e2 i,rfl⟩)⟩,?_⟩
       cases D<;>cases w2<;>first|exact absurd rfl e2|exact d
     ·have p:=F.gd_slot u
      rcases Zgw F 4 y w2 _ _ d with⟨T,m,hy⟩|⟨T,st',m,hn⟩
      ·have l:a.tmps.getD t undef= .bool b:=by
        rcases p with⟨_,W⟩|⟨hne,_⟩
        ·exact W.val_inv
        ·exact absurd T hne
       exact A m l hy
      ·have C:a.tmps.getD t undef=undef:=by
        rcases p with⟨i,_⟩|⟨_,C⟩
        ·exact absurd i T
        ·exact C
       have O:¬Region.wanted o (yielded ops a.tmps)=true:=λc=>by have:=z.1 c;rw[C]at this;simp[undef]at this
       exact⟨undef,λe=>absurd e O,λ_=>rfl,_,⟨h,ρ,m.put o.dst (s:=.gd y w2 (.val (.bool true))) (.inr ⟨T,rfl⟩)⟩,hn⟩
     ·exact d.elim
    ·exact d.elim
end
section
variable{X:Cx}{P:Program}
def Fr(b:List Nat)(a c:Act):Prop:=∀t,t∉b→c.tmps.getD t undef=a.tmps.getD t undef
def Fr.refl(b:List Nat)(a:Act):Fr b a a:=λ_ _=>rfl
def Fr.trans{d:List Nat}{a b c:Act}(x:Fr d a b)(y:Fr d b c):Fr d a c:=λt e=>(y t e).trans (x t e)
def Fr.mono{d c:List Nat}{a b:Act}(x:Fr d a b)(h:∀t,t∈d→t∈c):Fr c a b:=λt e=>x t λf=>e (h t f)
def Fr.put{c:List Nat}{a b:Act}(x:Fr c a b){d:Option Nat}(g:∀t,d=some t→t∈c)(v:Value):Fr c a (b.put d v):=by
 cases d with
 |none=>exact x
 |some d=>intro t f;rw[←x t f];exact getD_set_ne' v (λe=>f (e▸g d rfl))
def Zdh(f:FuncId→Sig)(g:TypeId→Sig)(b:Array Oper)(Q:Exit→Act→World→Prop)(K:St→Prop)(c:List Nat)(i:Act)(m:∀st a w,Fits X st a w→Fr c i a→K st→Q .normal a w):
  ∀(l:List Oper) (st:St) (a:Act) (w:World),(∀o∈l,∀t,o.dst=some t→t∈c)→Fr c i a→Fits X st a w→vcOps P f g b l st K→wpList P b Q l a w
 | [],st,a,w,_,hr,F,hv=>m st a w F hr hv
 |o::rest,st,a,w,hd,hr,⟨h,ρ,F⟩,hv=>by
  have:=Zpd F f g b o _ hv Q;have j:=hd o (by simp);have k:∀o∈rest,∀t,o.dst=some t→t∈c:=λo r=>hd o (by simp[r]);simp only[wpList]
  split
  next n=>rw[if_pos n]at this;exact .inl (Oper.wp_mono (λa' w' ⟨⟨d,p,q⟩,⟨u,e⟩,_⟩=>Zdh f g b Q K c i m rest d a' w' k (by rw[e];exact hr.put j u) p q) this)
  next n=>rw[if_neg n]at this;obtain⟨d,p,q⟩:=this;exact Zdh f g b Q K c i m rest d _ w k (hr.put j _) p q
end
end Go.Px
namespace Go.Px
open Go.RowKit
section
variable{ops:Array Oper}
structure RegOK(ops:Array Oper):Prop where
 uniq:∀(i k:Nat) d,dstOf ops i=some d→dstOf ops k=some d→i=k
 back:∀(k:Nat) o,ops[k]?=some o→∀e∈o.after,Region.binds .any e=true→e.on<k
 sel:∀(k:Nat) o cs b,ops[k]?=some o→o.op≠ .select cs b
 sep:∀(k i:Nat) o p,ops[k]?=some o→ops[i]?=some p→i≠k→Zba i o=true∨Zba k p=true∨∀d,p.dst=some d→d∉o.looksAt ops
def Zej:∀(l:List Oper),(l.filterMap (·.dst)).Nodup→∀(i k:Nat) d,(l[i]?).bind (·.dst)=some d→(l[k]?).bind (·.dst)=some d→i=k
 | [],_,i,k,d,hi,_=>by simp at hi
 |o::l,hn,i,k,d,hi,hk=>by
  cases ho:o.dst with
  |none=>
   simp only[YJ,ho]at hn
   cases i with
   |zero=>simp[ho]at hi
   |succ i=>cases k with
    |zero=>simp[ho]at hk
    |succ k=>rw[Zej l hn i k d (by simpa using hi) (by simpa using hk)]
  |some x=>
   simp only[YJ,ho,Ym]at hn
   have a:∀j:Nat,(l[j]?).bind (λq:Oper=>q.dst)=some x→False:=λj b=>by
    apply hn.1
    cases hl:l[j]? with
    |none=>simp[hl]at b
    |some q=>simp[hl]at b;exact Yl.2 ⟨q,Yj hl,b⟩
   cases i with
   |zero=>
    simp[ho]at hi;subst hi
    cases k with
    |zero=>rfl
    |succ k=>exact(a k (by simpa using hk)).elim
   |succ i=>cases k with
    |zero=>simp[ho]at hk;subst hk;exact(a i (by simpa using hi)).elim
    |succ k=>rw[Zej l hn.2 i k d (by simpa using hi) (by simpa using hk)]
def Zih(h:Zfh ops=true):RegOK ops:=by
 simp only[Zfh,Bool.and_eq_true,List.all_eq_true,Wb]at h;obtain⟨q,f⟩:=h;have lt:∀{k:Nat} {o:Oper},ops[k]?=some o→k<ops.size:=λe=>(Array.getElem?_eq_some_iff.1 e).1;refine⟨λi k d c a=>?_,λk o a e j l=>?_,λk o r b a e=>?_,λk i o p a c g=>?_⟩
 ·exact Zej ops.toList (Za1 q) i k d (by simpa[dstOf]using c) (by simpa[dstOf]using a)
 ·have:=f k (lt a);simp only[a,Bool.and_eq_true,List.all_eq_true]at this;have:=this.1.1 e (by simpa using j);simp[l]at this;exact this
 ·have:=f k (lt a);simp only[a,Bool.and_eq_true]at this;have:=this.1.2;rw[e]at this
  cases this
 ·have:=f k (lt a);simp only[a,Bool.and_eq_true,List.all_eq_true,Wb]at this;have:=this.2 i (lt c);simp only[c,Bool.or_eq_true]at this
  rcases this with(h3|h3)|h3
  ·exact absurd (Nat.eq_of_beq_eq_true h3) g
  ·exact .inl h3
  ·rcases h3 with h3|h3
   ·exact .inr (.inl h3)
   ·refine .inr (.inr λd m n=>?_);rw[m]at h3;simp only[Yp,YQ]at h3;have:=h3 d n;simp at this
def Zg8{i:Nat}{o:Oper}:Zba i o=true↔∃e∈o.after,Region.binds .any e=true∧e.on=i:=by
 simp only[Zba,List.any_eq_true,Bool.and_eq_true];constructor
 ·rintro⟨e,a,b,c⟩;exact⟨e,by simpa using a,b,Nat.eq_of_beq_eq_true c⟩
 ·rintro⟨e,a,b,rfl⟩;exact⟨e,by simpa using a,b,Y5 _⟩
def Zee(ops:Array Oper)(l:Array Bool):Prop:=l.size=ops.size∧∀(k:Nat) o,ops[k]?=some o→l.getD k false=true→∀i,Zba i o=true→l.getD i false=true
def In(l:Array Bool)(k:Nat):Prop:=l.getD k false=true
def Zef{l:Array Bool}{i k:Nat}(a:i<l.size):In (l.setIfInBounds i true) k↔k=i∨In l k:=by
 unfold In;by_cases h:k=i
 ·subst h;simp[a]
 ·have:(l.setIfInBounds i true).getD k false=l.getD k false:=(by simp[Yb (YL h)]);rw[this];simp[h]
def Ze2{l:Array Bool}{i:Nat}(k:l.size=ops.size):i∈Region.ready .any ops l↔¬In l i∧∃o,ops[i]?=some o∧∀j,Zba j o=true→In l j:=by
 rw[mem_ready];constructor
 ·rintro⟨c,o,d,a⟩;have f:i<l.size:=by rw[k];exact(Array.getElem?_eq_some_iff.1 d).1
  refine⟨λb=>?_,o,d,λj m=>?_⟩
  ·unfold In at b;simp[f]at c b;rw[c]at b;cases b
  ·obtain⟨e,g,h,rfl⟩:=Zg8.1 m;exact a e g h
 ·rintro⟨c,o,d,a⟩;have f:i<l.size:=by rw[k];exact(Array.getElem?_eq_some_iff.1 d).1
  refine⟨?_,o,d,λe g h=>a e.on (Zg8.2 ⟨e,g,h,rfl⟩)⟩;unfold In at c;simp[f]at c⊢;exact c
def ready_nil(R:RegOK ops){l:Array Bool}(c:l.size=ops.size)(h:Region.ready .any ops l=[]):∀k,k<ops.size→In l k:=by
 intro k
 induction k using Nat.strongRecOn with
 |_ k i=>
  intro a;by_cases hin:In l k
  ·exact hin
  ·exfalso
   have:k∈Region.ready .any ops l:=(Ze2 c).2 ⟨hin,ops[k],Y1 a,λj d=>by
    obtain⟨e,f,g,rfl⟩:=Zg8.1 d;have b:=R.back k _ (Y1 a) e f g
    exact i e.on b (by omega)⟩
   rw[h]at this;cases this
def Zee.set{l:Array Bool}{i:Nat}{o:Oper}(c:Zee ops l)(d:ops[i]?=some o)(f:∀j,Zba j o=true→In l j):Zee ops (l.setIfInBounds i true):=by
 have h:i<l.size:=(by rw[c.1];exact(Array.getElem?_eq_some_iff.1 d).1);refine⟨by simp[c.1],λk p b g j e=>?_⟩;have a:In (l.setIfInBounds i true) k:=g;show In (l.setIfInBounds i true) j;rw[Zef h]at a⊢
 rcases a with rfl|a
 ·rw[d]at b;cases b;exact .inr (f j e)
 ·exact .inr (c.2 k p b a j e)
def wr(ops:Array Oper)(l:Array Bool)(t:Nat):Option Nat:=(List.range ops.size).find? λk=>l.getD k false&&(dstOf ops k==some t)
def Zg9(R:RegOK ops){l:Array Bool}{t k:Nat}(b:In l k)(a:dstOf ops k=some t):wr ops l t=some k:=by
 have c:k<ops.size:=by
  unfold dstOf at a
  rcases YT k ops.size with h|h
  ·exact h
  ·rw[Yk h]at a;cases a
 cases h:wr ops l t with
 |none=>have:=List.find?_eq_none.1 h k (by simpa using c);unfold In at b;simp only[b,a]at this;simp at this
 |some j=>have d:=Wp h;simp only[Bool.and_eq_true,beq_iff_eq]at d;rw[R.uniq j k t d.2 a]
def Zi5{l:Array Bool}{t:Nat}(h:∀k,In l k→dstOf ops k≠some t):wr ops l t=none:=by
 rw[wr,List.find?_eq_none];intro k _;simp only[Bool.and_eq_true,beq_iff_eq];rintro⟨a,b⟩;exact h k a b
def Znb{l:Array Bool}{t k:Nat}(h:wr ops l t=some k):In l k∧dstOf ops k=some t:=by
 have a:=Wp h;simp only[Bool.and_eq_true,beq_iff_eq]at a;exact a
def slotV(ops:Array Oper)(a:Act)(u:Nat→Value)(l:Array Bool)(t:Nat):Value:=
 match wr ops l t with
 |some k=>u k
 |none=>a.tmps.getD t undef
def actOf(ops:Array Oper)(a0:Act)(u:Nat→Value)(l:Array Bool):Act:=
 {tmps:=((List.range a0.tmps.size).map (slotV ops a0 u l)).toArray,defers:=a0.defers}
def Zb1(a:Act)(u:Nat→Value)(l:Array Bool)(t:Nat):(actOf ops a u l).tmps.getD t undef=if t<a.tmps.size then slotV ops a u l t else undef:=by
 simp only[actOf];by_cases h:t<a.tmps.size
 ·simp[h]
 ·simp[h]
def Zii(R:RegOK ops)(c:Act)(u:Nat→Value)(l:Array Bool)(i:Nat)(o:Oper)(f:ops[i]?=some o)(n:l.size=ops.size)(j:¬In l i)(v:Value):
  (actOf ops c u l).put o.dst v=actOf ops c (λk=>if k=i then v else u k) (l.setIfInBounds i true):=by
 have h:i<l.size:=by rw[n];exact(Array.getElem?_eq_some_iff.1 f).1
 have a:∀t,o.dst≠some t→slotV ops c (λk=>if k=i then v else u k) (l.setIfInBounds i true) t=slotV ops c u l t:=by
  intro t p;unfold slotV
  cases hw:wr ops l t with
  |some k=>obtain⟨m,q⟩:=Znb hw;rw[Zg9 R ((Zef h).2 (.inr m)) q];have:k≠i:=λe=>j (e▸m);simp[this]
  |none=>
   rw[Zi5 (λk g b=>?_)]
   rcases(Zef h).1 g with rfl|g
   ·simp[dstOf,f]at b;exact p b
   ·have:=Zg9 R g b;rw[hw]at this;cases this
 cases b:o.dst with
 |none=>simp only[Act.put];unfold actOf;congr 2;apply List.map_congr_left;intro t _;exact(a t (by simp[b])).symm
 |some d=>
  simp only[Act.put];unfold actOf;congr 1;apply Array.ext';simp only[Array.toList_setIfInBounds];apply List.ext_getElem?;intro t;rw[List.getElem?_set];by_cases hdt:d=t
  ·subst hdt;by_cases hlt:d<c.tmps.size
   ·simp[hlt];have:wr ops (l.setIfInBounds i true) d=some i:=Zg9 R ((Zef h).2 (.inl rfl)) (by simp[dstOf,f,b]);simp[slotV,this]
   ·simp[hlt]
  ·simp only[hdt,if_false];by_cases hlt:t<c.tmps.size
   ·simp[hlt,a t (by simp[b,hdt])]
   ·simp[hlt]
def env_eq(R:RegOK ops){a0:Act}{u:Nat→Value}{l f:Array Bool}{i:Nat}{o:Oper}(y:ops[i]?=some o)(c:Zee ops l)(s:Zee ops f)
  (g:∀j,Zba j o=true→In l j) (n:∀j,Zba j o=true→In f j) (d:¬In l i) (q:¬In f i) (t:Nat) (z:t∈o.looksAt ops):
  (actOf ops a0 u l).tmps.getD t undef=(actOf ops a0 u f).tmps.getD t undef:=by
 rw[Zb1,Zb1]
 split
 ·unfold slotV
  have a:∀{l:Array Bool},Zee ops l→(∀j,Zba j o=true→In l j)→¬In l i→∀k,dstOf ops k=some t→(In l k↔Zba k o=true):=by
   intro l c g d k b
   cases hp:ops[k]? with
   |none=>simp[dstOf,hp]at b
   |some p=>
    have v:p.dst=some t:=(by simpa[dstOf,hp]using b);constructor
    ·intro m;have w:k≠i:=λe=>d (e▸m)
     rcases R.sep i k o p y hp w with h|h|h
     ·exact h
     ·exact absurd (c.2 k p hp m i h) d
     ·exact absurd z (h t v)
    ·exact g k
  cases hw:wr ops l t with
  |some k=>obtain⟨A,r⟩:=Znb hw;have:=(a c g d k r).1 A;rw[Zg9 R ((a s n q k r).2 this) r]
  |none=>rw[Zi5 (λk m b=>?_)];have:=(a s n q k b).1 m;have x:=Zg9 R ((a c g d k b).2 this) b;rw[hw]at x;cases x
 ·rfl
def Zj7{a b:Act}{o:Oper}(h:∀t∈o.looksAt ops,a.tmps.getD t undef=b.tmps.getD t undef):∀x∈o.op.operands,a.eval x=b.eval x:=by
 intro x c
 cases x with
 |tmp t=>exact h t (YV _ (Yl.2 ⟨.tmp t,by simpa using c,rfl⟩))
 |_=>rfl
def Zgm{a d:Act}{o:Oper}(h:∀t∈o.looksAt ops,a.tmps.getD t undef=d.tmps.getD t undef)(f:a.tmps.size=d.tmps.size):Region.wanted o (yielded ops a.tmps)=Region.wanted o (yielded ops d.tmps):=by
 unfold Region.wanted
 cases hg:o.guard with
 |none=>rfl
 |some i=>
  obtain⟨g,b⟩:=i
  have:yielded ops a.tmps g=yielded ops d.tmps g:=by
   unfold yielded
   cases ht:(ops[g]?).bind (·.dst)with
   |none=>rfl
   |some t=>
    have e:=h t (Yw _ (by simp[hg,ht]));simp only[Option.bind_some];rw[Array.getD_eq_getD_getElem?,Array.getD_eq_getD_getElem?]at e;by_cases hlt:t<a.tmps.size
    ·have c:t<d.tmps.size:=f▸hlt;simp[hlt,c]at e⊢;rw[e]
    ·have c:¬t<d.tmps.size:=f▸hlt;simp[hlt,c]
  simp only[this]
end
section
variable{X:Cx}{P:Program}{ops:Array Oper}
def Owed(P:Program)(ops:Array Oper)(a0:Act)(u:Nat→Value)(w:World)(k:Nat)(o:Oper):Prop:=
 loud P o.op=false∧∀l,Zee ops l→(∀j,Zba j o=true→In l j)→¬In l k→
  (Region.wanted o (yielded ops (actOf ops a0 u l).tmps)=true→∀a,SameB (fblk P (actOf ops a0 u l) o) w a→(execOp (actOf ops a0 u l).eval o).run P a= .ok (.value (u k)) a)∧
  (Region.wanted o (yielded ops (actOf ops a0 u l).tmps)=false→u k=undef)
structure Sim(P:Program)(Sg:FuncId→Sig)(Sv:TypeId→Sig)(ops:Array Oper)(X:Cx)(a0:Act)(K:St→Prop)(u:Nat→Value)(la lc:Array Bool)(n:Nat)(st:St)(w:World):Prop where
 ca:Zee ops la
 cc:Zee ops lc
 sub:∀k,In la k→In lc k
 fits:Fits X st (actOf ops a0 u lc) w
 owed:∀(k:Nat) o,ops[k]?=some o→In lc k→¬In la k→Owed P ops a0 u w k o
 vcs:vcAny P Sg Sv ops n lc st K
def Zl3:∀{l:List Nat} {f:Nat→Prop},Zsy l f→∀i∈l,f i
 | [],_,_,i,h=>by cases h
 | [j],f,h,i,hi=>by simp at hi;subst hi;exact h
 |j::k::l,f,h,i,hi=>by
  rcases List.mem_cons.1 hi with rfl|hi
  ·exact h.1
  ·exact Zl3 h.2 i hi
def Zjp{o:Op}{x:Operand}(h:Zbu P o=some x):x∈o.operands:=by
 unfold Zbu at h
 split at h
 ·cases h;simp[Op.operands]
 ·cases h;simp[Op.operands]
 ·split at h
  ·cases h;simp[Op.operands,Call.operands]
  ·cases h
 ·split at h
  ·cases h;simp[Op.operands]
  ·cases h
 ·cases h
def Zo6{a b:Act}{o:Oper}(h:∀x∈o.op.operands,a.eval x=b.eval x):fblk P a o=fblk P b o:=by
 unfold fblk
 split
 ·rfl
 next x c=>rw[h x (Zjp c)]
def Zcc(a:Act)(u:Nat→Value)(l:Array Bool):(actOf ops a u l).tmps.size=a.tmps.size:=by simp[actOf]
def Zha{a0:Act}{u a:Nat→Value}{l:Array Bool}(h:∀k,In l k→a k=u k):actOf ops a0 a l=actOf ops a0 u l:=by
 unfold actOf;congr 2;apply List.map_congr_left;intro t _;unfold slotV
 cases hw:wr ops l t with
 |none=>rfl
 |some k=>exact h k (Znb hw).1
def Owed.of_env(R:RegOK ops){a0:Act}{u:Nat→Value}{w:World}{k:Nat}{o:Oper}(f:ops[k]?=some o)(i:loud P o.op=false){l:Array Bool}(c:Zee ops l)
  (m:∀j,Zba j o=true→In l j) (n:¬In l k)
  (p:Region.wanted o (yielded ops (actOf ops a0 u l).tmps)=true→∀e,SameB (fblk P (actOf ops a0 u l) o) w e→(execOp (actOf ops a0 u l).eval o).run P e= .ok (.value (u k)) e)
  (q:Region.wanted o (yielded ops (actOf ops a0 u l).tmps)=false→u k=undef):Owed P ops a0 u w k o:=by
 refine⟨i,λt r g h=>?_⟩;have a:=env_eq R (a0:=a0) (u:=u) f c r m g n h;have d:=Zj7 a;rw[←execOp_congr o (λs b=>R.sel k o s b f) d,←Zo6 d,←Zgm a (by rw[Zcc,Zcc])];exact⟨p,q⟩
def Sim.calm(R:RegOK ops){r:FuncId→Sig}{s:TypeId→Sig}{a0:Act}{K:St→Prop}{u:Nat→Value}{G d:Array Bool}{n:Nat}{H:St}{w:World}(S:Sim P r s ops X a0 K u G d (n+1) H w)
  {i:Nat} {o:Oper} (a:ops[i]?=some o) (Z:i∈Region.ready .any ops d) (J:loud P o.op=false)
  (hv:aop P r s ops o H λf=>vcAny P r s ops n (d.setIfInBounds i true) f K):
  ∃O f,(∀k,In d k→O k=u k)∧Sim P r s ops X a0 K O G (d.setIfInBounds i true) n f w:=by
 obtain⟨g,o',C,Q⟩:=(Ze2 S.cc.1).1 Z;rw[a]at C;cases C;have z:i<d.size:=by rw[S.cc.1];exact(Array.getElem?_eq_some_iff.1 a).1
 obtain⟨h,ρ,F⟩:=S.fits;obtain⟨v,h1,h2,f,F',x⟩:=aop_calm F r s ops o _ J hv;have U:∀k,In d k→(λk=>if k=i then v else u k) k=u k:=λk x=>by have:k≠i:=λe=>g (e▸x);simp[this]
 have A:=Zha (ops:=ops) (a0:=a0) U;refine⟨λk=>if k=i then v else u k,f,U,S.ca,S.cc.set a Q,λk x=>(Zef z).2 (.inr (S.sub k x)),?_,λk p q L M=>?_,x⟩
 ·rw[←Zii R a0 u d i o a S.cc.1 g v];exact F'
 ·rcases(Zef z).1 L with rfl|hkl
  ·rw[a]at q;cases q;refine Owed.of_env R a J S.cc Q g ?_ ?_
   ·rw[A];simpa using h1
   ·rw[A];simpa using h2
  ·have V:k≠i:=λe=>g (e▸hkl);obtain⟨g1,g2⟩:=S.owed k p q hkl M;refine⟨g1,λl c N y=>?_⟩
   have m:∀t∈p.looksAt ops,(actOf ops a0 (λk=>if k=i then v else u k) l).tmps.getD t undef=(actOf ops a0 u l).tmps.getD t undef:=by
    intro t ht;rw[Zb1,Zb1]
    split
    ·unfold slotV
     cases hw:wr ops l t with
     |none=>rfl
     |some j=>
      obtain⟨D,T⟩:=Znb hw
      have W:j≠i:=by
       intro e;subst e;have Y:o.dst=some t:=by simpa[dstOf,a]using T
       rcases R.sep k j p o q a (λe=>y (e▸D))with h|h|h
       ·exact g (S.cc.2 k p q hkl j h)
       ·exact y (c.2 j o a D k h)
       ·exact h t Y ht
      simp[W]
    ·rfl
   have E:=Zj7 m;rw[execOp_congr p (λcs b=>R.sel k p cs b q) E,Zo6 E,Zgm m (by rw[Zcc,Zcc])];have:=g2 l c N y
   simpa[V]using this
def blkOf:Value→Option Nat
 | .pointer (some ad)=>some ad.block
 | .map (some r)=>some r
 | .slice (some ad) (_+1) _=>some ad.block
 |_=>none
def fblk_some{a:Act}{o:Oper}{b:Nat}(h:fblk P a o=some b):∃x,Zbu P o.op=some x∧blkOf (a.eval x)=some b:=by
 unfold fblk at h
 split at h
 ·cases h
 next x c=>exact⟨x,c,h⟩
def Zqs{A:St}{h:Hp}{z:Nat→Loc}{a:Act}{w:World}(F:FitsAt X h z A a w){u:List Nat}{y:Operand}(D:Zec A.objs u (ev A y)=true)
  {b:Nat} (j:blkOf (a.eval y)=some b):b<w.heap.size∧∀id∈u,live A.objs z id→(z id).blk≠b:=by
 have own:∀d,(!(u.any (Nat.beq d)))=true→live A.objs z d→b=(z d).blk→b<w.heap.size∧∀id∈u,live A.objs z id→(z id).blk≠b:=(by intro d J N e;subst e;obtain⟨⟨o,l⟩,C⟩:=N;refine⟨ObOK.blk_lt (F.obj d _ l) C,λid R M=>F.inj id d M ⟨⟨o,l⟩,C⟩ λe=>?_⟩;subst e;simp only[Yp,YQ]at J;have:=J id R;simp at this);have H:∀x v,h b x=some v→b<w.heap.size∧∀id∈u,live A.objs z id→(z id).blk≠b:=λx v e=>by refine⟨F.sub.lt e,λid _ ⟨⟨o,l⟩,C⟩ e'=>?_⟩;have:=(F.obj id o l).hno C x;rw[e',e]at this;cases this
 have E:∀s,Zec A.objs u s=true→Rep h z (a.eval y) s→b<w.heap.size∧∀id∈u,live A.objs z id→(z id).blk≠b:=by
  intro s
  cases s with
  |ptr d off=>
   intro k r;simp only[Zec,Bool.and_eq_true]at k;rw[r.ptr_inv]at j;simp[blkOf]at j;have q:=k.2
   split at q
   next o l=>exact own d k.1 ⟨⟨_,l⟩,(F.obj d _ l).1⟩ j.symm
   next T m U l=>exact own d k.1 ⟨⟨_,l⟩,(F.obj d _ l).1⟩ j.symm
   ·cases q
  |aptr d i=>
   intro k r;simp only[Zec,Bool.and_eq_true]at k;rw[r.aptr_inv]at j;simp[blkOf]at j;have q:=k.2
   split at q
   next o l=>exact own d k.1 ⟨⟨_,l⟩,(F.obj d _ l).1⟩ j.symm
   next T m U l=>exact own d k.1 ⟨⟨_,l⟩,(F.obj d _ l).1⟩ j.symm
   ·cases q
  |eptr d e i off=>
   intro k r;simp only[Zec,Bool.and_eq_true]at k;obtain⟨C,G⟩:=r.eptr_inv;rw[G]at j;simp[blkOf]at j;have q:=k.2
   split at q
   next o l=>exact own d k.1 ⟨⟨_,l⟩,C⟩ j.symm
   ·cases q
  |osl d=>
   intro k r;simp only[Zec,Bool.and_eq_true]at k;have q:=k.2
   split at q
   next o l=>
    rcases r.osl_inv with⟨_,p,G⟩|⟨C,G⟩
    ·rw[G]at j;cases p<;>simp[blkOf]at j
    ·rw[G]at j
     have:(z d).blk=b:=by
      cases hln:(z d).len with
      |zero=>rw[hln]at j;simp[blkOf]at j
      |succ n=>rw[hln]at j;simpa[blkOf]using j
     exact own d k.1 ⟨⟨_,l⟩,C⟩ this.symm
   ·cases q
  |omp d=>
   intro k r;simp only[Zec,Bool.and_eq_true]at k;rw[r.omp_inv]at j;simp[blkOf]at j;have q:=k.2
   split at q
   next o l=>exact own d k.1 ⟨⟨_,l⟩,(F.obj d _ l).1⟩ j.symm
   ·cases q
  |ref off cells=>
   intro k r
   cases cells with
   |nil=>simp[Zec]at k
   |cons c V=>
    generalize a.eval y=v at r j
    cases r with
    |pure _ _ K=>
     cases K with
     |ref W Y _ _ Z L hr=>simp[blkOf]at j;subst j;exact H _ _ (L 0 c rfl)
  |slice sz rows a1=>
   intro k r;generalize a.eval y=v at r j
   cases r with
   |pure _ _ K=>
    cases K with
    |empty p Q _ _ ht h1 C=>cases p<;>simp[blkOf]at j
    |slice W off Q _ _ _ Z a0 hz L hr l ht h1 a2=>
     cases rows with
     |nil=>simp[blkOf]at j
     |cons r rs=>simp[blkOf]at j;subst j;have N:=hz 0 r rfl;have O:0<r.length:=(by omega);exact H _ _ (L 0 r 0 r[0] rfl (List.getElem?_eq_getElem O))
  |gd t b s=>intro k r;exact r.not_gd.elim
  |_=>intro k;simp[Zec]at k
 cases y with
 |tmp t=>
  simp only[ev,Zcf]at D
  cases hx:A.tmps[t]? with
  |none=>simp[hx,Zec]at D
  |some s=>
   simp only[hx,Ye]at D;have r:=F.tm t s hx;by_cases k:∃t w x,s= .gd t w x
   ·obtain⟨t',w',x,rfl⟩:=k
    rcases r with⟨_,r⟩|⟨_,e⟩
    ·exact E x (by simpa[Zec]using D) r
    ·simp only[Act.eval]at j;rw[e]at j;simp[undef,blkOf]at j
   ·exact E s D (r.out λt w x e=>k ⟨t,w,x,e⟩)
 |const v=>
  have:=F.operand [] (by simp) (.const v)
  have C:∀t w x,ev A (.const v)≠ .gd t w x:=by
   intro t w x;unfold ev
   split<;>first|(simp;done)|(simp_all;done)
  rw[Zn6 C]at this;exact E _ D this
 |global g=>exact E _ D (.pure _ _ (F.global_rep g))
 |func f=>simp[ev,Zec]at D
def Zl4{c:St}{h:Hp}{d:Nat→Loc}{a:Act}{w:World}(F:FitsAt X h d c a w):∀(n t:Nat) (b:Bool),skipG n c t b=true→a.tmps.getD t undef≠ .bool b
 |0,_,_,h=>by simp[skipG]at h
 |n+1,t,b,h=>by
  intro e;simp only[skipG,Zcf]at h
  cases hx:c.tmps[t]? with
  |none=>simp[hx]at h
  |some s=>
   simp only[hx,Ye]at h;have r:=F.tm t s hx
   split at h
   ·rename_i i;have:=(show Rep _ _ _ _ from r).val_inv;rw[this]at e
    cases e
    revert h
    cases b<;>simp
   next f w2 x=>
    rcases r with⟨g,_⟩|⟨_,r2⟩
    ·exact Zl4 F n f w2 h g
    ·rw[r2]at e;simp[undef]at e
   ·cases h
def Zs0{c:St}{h:Hp}{d:Nat→Loc}{a:Act}{w:World}(F:FitsAt X h d c a w){y:Operand}(b:skipV c (ev c y)=true):blkOf (a.eval y)=none:=by
 cases y with
 |tmp t=>
  simp only[ev,Zcf]at b
  cases hx:c.tmps[t]? with
  |none=>simp[hx,skipV]at b
  |some s=>
   simp only[hx,Ye]at b;have r:=F.tm t s hx
   cases s with
   |gd j k x=>
    rcases r with⟨i,_⟩|⟨_,e⟩
    ·exact absurd i (Zl4 F 5 j k b)
    ·simp only[Act.eval];rw[e];simp[undef,blkOf]
   |_=>simp[skipV]at b
 |const v=>
  exfalso;unfold ev at b
  split at b<;>simp_all[skipV]
 |global g=>
  exfalso;simp only[ev]at b
  rcases Zb8 g Zbk with e|⟨cs,_,e⟩<;>rw[e]at b<;>simp[skipV]at b
 |func f=>simp[ev,skipV]at b
def Owed.loud(R:RegOK ops){d:Act}{u r:Nat→Value}{w x:World}{k i:Nat}{o p:Oper}(s:ops[k]?=some p)(y:ops[i]?=some o)(f:k≠i){z v:Array Bool}(N:Zee ops v)
  (A:In v k) (C:¬In v i) (D:¬In z k) (E:∀j,Zba j o=true→In z j)
  (F:∀j,j≠i→r j=u j) (g:Owed P ops d u w k p)
  (O:∀l,Zee ops l→(∀j,Zba j p=true→In l j)→¬In l k→SameB (fblk P (actOf ops d u l) p) w x):Owed P ops d r x k p:=by
 obtain⟨V,W⟩:=g;refine⟨V,λl c m n=>?_⟩
 have a:∀t∈p.looksAt ops,(actOf ops d r l).tmps.getD t undef=(actOf ops d u l).tmps.getD t undef:=by
  intro t U;rw[Zb1,Zb1]
  split
  ·unfold slotV
   cases hwr:wr ops l t with
   |none=>rfl
   |some j=>
    obtain⟨Y,K⟩:=Znb hwr
    have L:j≠i:=by
     intro e;have M:o.dst=some t:=by have:=K;rw[e]at this;simpa[dstOf,y]using this
     rcases R.sep k i p o s y (YL f)with h|h|h
     ·exact C (N.2 k p s A i h)
     ·exact D (E k h)
     ·exact h t M U
    exact F j L
  ·rfl
 have q:=Zj7 a;rw[execOp_congr p (λQ b=>R.sel k p Q b s) q,Zo6 q,Zgm a (by rw[Zcc,Zcc]),F k f];obtain⟨e1,e2⟩:=W l c m n;refine⟨λG H T=>e1 G H λb J=>?_,e2⟩;rw[T b J];exact O l c m n b J
def Znc{p q:Nat→Bool}:∀(l:List Nat),(∀k∈l,p k=q k)→l.find? p=l.find? q
 | [],_=>rfl
 |x::xs,h=>by rw[YN,YN,h x (by simp),Znc xs (λk a=>h k (by simp[a]))]
def put_defers'(a:Act)(d:Option Nat)(v:Value):(a.put d v).defers=a.defers:=by cases d<;>rfl
def addr_env(R:RegOK ops){a0:Act}{u:Nat→Value}{l i:Array Bool}{k:Nat}{p:Oper}(m:ops[k]?=some p){y:Operand}(o:y∈p.op.operands)(d:Zsx ops k y=true)
  (r:Zee ops i) (s:In i k) (v:∀j,Zba j p=true→In l j):(actOf ops a0 u i).eval y=(actOf ops a0 u l).eval y:=by
 cases y with
 |tmp t=>
  have w:t∈p.looksAt ops:=YV _ (Yl.2 ⟨.tmp t,by simpa using o,rfl⟩);simp only[Zsx,List.all_eq_true,Wb]at d
  have f:∀j,dstOf ops j=some t→Zba j p=true:=by
   intro j b
   cases hq:ops[j]? with
   |none=>simp[dstOf,hq]at b
   |some q=>
    have g:q.dst=some t:=(by simpa[dstOf,hq]using b);have a:=d j (Array.getElem?_eq_some_iff.1 hq).1;simp only[hq,g,Bool.or_eq_true,Bool.and_eq_true,Yp]at a
    rcases a with a|⟨a,c⟩
    ·simp at a
    ·have n:j≠k:=λe=>by subst e;simp at c
     rcases R.sep k j p q m hq n with h|h|h
     ·exact h
     ·rw[a]at h;cases h
     ·exact absurd w (h t g)
  simp only[Act.eval];rw[Zb1,Zb1]
  split
  ·unfold slotV
   cases hw:wr ops l t with
   |some j=>obtain⟨_,c⟩:=Znb hw;rw[Zg9 R (r.2 k p m s j (f j c)) c]
   |none=>rw[Zi5 (λj x b=>?_)];have:=Zg9 R (v j (f j b)) b;rw[hw]at this;cases this
  ·rfl
 |_=>rfl
def upon_env{o:Oper}{a i:Act}{next b:Act→World→Prop}{Q:Exit→Act→World→Prop}{r:Result Next}(k:∀v w,next (a.put o.dst v) w→b (i.put o.dst v) w)
  (m:∀d w,next ({a with defers:=d::a.defers}.put o.dst undef) w→b ({i with defers:=d::i.defers}.put o.dst undef) w)
  (l:∀c w,Q (.panic c) a w→Q (.panic c) i w) (h:o.upon P a next Q r):o.upon P i b Q r:=by
 cases r with
 |ok n w=>
  cases n<;>simp only[Oper.upon]at h⊢
  case value v=>exact k v w h
  case skip=>exact k undef w h
  case defer d=>exact m d w h
  case enter f args=>
   refine Calls.mono h λe g j=>?_
   cases e with
   |returned v=>exact k v g j
   |panicked c=>exact l c g j
   |outgrown=>exact j
  case row row args=>exact Rows.mono h λv g j=>k v g j
 |halt x w=>
  cases x<;>simp only[Oper.upon]at h⊢
  case panic v=>exact l _ w h
def Zek(X:Cx)(K:St→Prop)(ops:Array Oper)(a0:Act):Exit→Act→World→Prop
 | .normal,a,w=>Goes X K a w∧Fr (ops.toList.filterMap (·.dst)) a0 a
 |_,_,_=>False
def actOf_fr(b:Act)(u:Nat→Value)(l:Array Bool):Fr (ops.toList.filterMap (·.dst)) b (actOf ops b u l):=by
 intro t c;rw[Zb1];by_cases hlt:t<b.tmps.size
 ·rw[if_pos hlt];unfold slotV;rw[Zi5 (λk _ a=>c ?_)];unfold dstOf at a
  cases ho:ops[k]? with
  |none=>simp[ho]at a
  |some o=>simp[ho]at a;exact Yl.2 ⟨o,by rw[Array.mem_toList_iff];exact WM ho,a⟩
 ·rw[if_neg hlt];simp[hlt]
def left(ops:Array Oper)(l:Array Bool):Nat:=((List.range ops.size).filter λk=>!(l.getD k false)).length
def Zv2{l:Array Bool}{i:Nat}(p:l.size=ops.size)(f:i<ops.size)(q:¬In l i):left ops (l.setIfInBounds i true)+1=left ops l:=by
 unfold left
 have j:∀(m:List Nat),m.Nodup→i∈m→(m.filter λk=>!((l.setIfInBounds i true).getD k false)).length+1=(m.filter λk=>!(l.getD k false)).length:=by
  intro m
  have a:∀k,(l.setIfInBounds i true).getD k false=if k=i then true else l.getD k false:=by
   intro k;by_cases h:k=i
   ·subst h;simp[p,f]
   ·simp[h,Yb (YL h)]
  have n:l.getD i false=false:=by simpa[In]using q
  induction m with
  |nil=>intro _ h;cases h
  |cons x d u=>
   intro g r;obtain⟨t,c⟩:=Ym.1 g;by_cases hxi:x=i
   ·subst hxi;have b:(d.filter λk=>!((l.setIfInBounds x true).getD k false))=d.filter λk=>!(l.getD k false):=(by apply List.filter_congr;intro k s;have:k≠x:=λe=>t (e▸s);rw[a,if_neg this]);rw[List.filter_cons,List.filter_cons,b,a];simp[n]
   ·have o:i∈d:=by
     rcases List.mem_cons.1 r with e|e
     ·exact absurd e.symm hxi
     ·exact e
    have:=u c o;rw[List.filter_cons,List.filter_cons,a,if_neg hxi]
    split<;>simp_all<;>omega
 exact j _ List.nodup_range (by simpa using f)
def sim_any(R:RegOK ops){U:FuncId→Sig}{V:TypeId→Sig}{a0:Act}{K:St→Prop}:
  ∀(m:Nat) (u:Nat→Value) (f g:Array Bool) (n:Nat) (A:St) (w:World),Sim P U V ops X a0 K u f g n A w→left ops f=m→
   wpAny P .any ops (Zek X K ops a0) m f (actOf ops a0 u f) w:=by
 intro m
 induction m with
 |zero=>
  intro u f g n A w S hm
  have M:∀k,k<ops.size→In f k:=by
   intro k q;unfold left at hm;have:=List.length_eq_zero_iff.1 hm;rw[List.filter_eq_nil_iff]at this;have:=this k (by simpa using q)
   simpa[In]using this
  have D:∀l:Array Bool,l.size=ops.size→(∀k,k<ops.size→In l k)→Region.ready .any ops l=[]:=(by intro l hs h;rw[List.eq_nil_iff_forall_not_mem];intro i hi;obtain⟨L,o,s,_⟩:=(Ze2 hs).1 hi;exact L (h i (Array.getElem?_eq_some_iff.1 s).1));refine⟨D f S.ca.1 M,?_⟩;have hc:∀k,k<ops.size→In g k:=λk q=>S.sub k (M k q);have e:actOf ops a0 u f=actOf ops a0 u g:=(by unfold actOf;congr 2;apply List.map_congr_left;intro t _;unfold slotV;have:wr ops f t=wr ops g t:=(by unfold wr;refine Znc _ λk q=>?_;have ah:k<ops.size:=(by simpa using q);have e1:f.getD k false=true:=M k ah;have e2:g.getD k false=true:=hc k ah;rw[e1,e2]);rw[this]);have G:=S.vcs
  cases n with
  |zero=>exact G.elim
  |succ n=>simp only[vcAny,D g S.cc.1 hc]at G;rw[e];exact⟨⟨A,S.fits,G⟩,actOf_fr a0 u g⟩
 |succ m am=>
  intro u f g n A w S hm;have a9:Region.ready .any ops f≠[]:=(by intro h;have M:=ready_nil R S.ca.1 h;have:left ops f=0:=(by unfold left;rw[List.length_eq_zero_iff,List.filter_eq_nil_iff];intro k q;have:=M k (by simpa using q);unfold In at this;simp[this]);omega);refine⟨λh=>absurd h a9,λi hi=>?_⟩;obtain⟨O,o,s,T⟩:=(Ze2 S.ca.1).1 hi;have Z:i<ops.size:=(Array.getElem?_eq_some_iff.1 s).1;have N:i<f.size:=(by rw[S.ca.1];exact Z);have a5:left ops (f.setIfInBounds i true)=m:=by have:=Zv2 S.ca.1 Z O;omega
  have a1:∀(u:Nat→Value) (g:Array Bool) (n:Nat) (A:St),Sim P U V ops X a0 K u f g n A w→In g i→
    wpOp P ops (Zek X K ops a0) i (wpAny P .any ops (Zek X K ops a0) m (f.setIfInBounds i true)) (actOf ops a0 u f) w:=by
   intro u g n A S C;obtain⟨g1,g2⟩:=S.owed i o s C O;obtain⟨e1,e2⟩:=g2 f S.ca T O
   have ai:wpAny P .any ops (Zek X K ops a0) m (f.setIfInBounds i true) ((actOf ops a0 u f).put o.dst (u i)) w:=by
    rw[Zii R a0 u f i o s S.ca.1 O (u i)]
    have:actOf ops a0 (λk=>if k=i then u i else u k) (f.setIfInBounds i true)=actOf ops a0 u (f.setIfInBounds i true):=Zha (λk _=>by
     by_cases h:k=i
     ·subst h;simp
     ·simp[h])
    rw[this];refine am u (f.setIfInBounds i true) g n A w ⟨S.ca.set s T,S.cc,λk q=>?_,S.fits,λk p Q H J=>S.owed k p Q H (λh=>J ((Zef N).2 (.inr h))),S.vcs⟩ a5
    rcases(Zef N).1 q with rfl|q
    ·exact C
    ·exact S.sub k q
   unfold wpOp;simp only[s];by_cases hw:Region.wanted o (yielded ops (actOf ops a0 u f).tmps)=true
   ·rw[if_pos hw];refine .inl ?_;unfold Oper.wp;rw[e1 hw w (SameB.refl _ w)];exact ai
   ·rw[if_neg hw];have av:Region.wanted o (yielded ops (actOf ops a0 u f).tmps)=false:=(by simpa using hw);rw[←e2 av];exact ai
  have ap:∀(d:Nat) (u:Nat→Value) (g:Array Bool) (n:Nat) (A:St),left ops g=d→Sim P U V ops X a0 K u f g n A w→
    wpOp P ops (Zek X K ops a0) i (wpAny P .any ops (Zek X K ops a0) m (f.setIfInBounds i true)) (actOf ops a0 u f) w:=by
   intro d
   induction d using Nat.strongRecOn with
   |_ d b0=>
    intro u g n A hd S;by_cases C:In g i
    ·exact a1 u g n A S C
    ·have aa:i∈Region.ready .any ops g:=(Ze2 S.cc.1).2 ⟨C,o,s,λj Y=>S.sub j (T j Y)⟩;have G:=S.vcs
     cases n with
     |zero=>exact G.elim
     |succ n=>
      simp only[vcAny]at G
      split at G
      next an=>rw[an]at aa;cases aa
      ·rename_i i0 r D;rw[←D]at G
       split at G
       ·rename_i c a3;have aj:c∈Region.ready .any ops g:=WA a3;have ak:=Wp a3
        split at G
        next oc a7=>simp only[a7,Yp]at ak;obtain⟨u',W,hu,S'⟩:=S.calm R a7 aj ak G;have aq:c<ops.size:=(Array.getElem?_eq_some_iff.1 a7).1;have aw:=((Ze2 S.cc.1).1 aj).1;have b1:=Zv2 S.cc.1 aq aw;have:=b0 (left ops (g.setIfInBounds c true)) (by omega) u' _ n W rfl S';rwa[Zha (λk q=>hu k (S.sub k q))]at this
        ·exact G.elim
       ·have a6:=Zl3 G i aa;simp only[s]at a6
        cases z:apartW P U V ops g A i o with
        |false=>simp[z]at a6
        |true=>
         simp only[z,cond_true]at a6;obtain⟨h,ρ,F⟩:=S.fits;have x:=Zpd F U V ops o _ a6 (Zek X K ops a0);have ab:=env_eq R (a0:=a0) (u:=u) s S.cc S.ca (λj Y=>S.sub j (T j Y)) T C O;have ax:=Zj7 ab;have ay:=Zgm ab (by rw[Zcc,Zcc])
         have ac:∀(E:World),(∀b,b<w.heap.size→¬Zcr U V ops A ρ o b→E.heap[b]?=w.heap[b]?)→∀k p,ops[k]?=some p→In g k→¬In f k→∀l,Zee ops l→(∀j,Zba j p=true→In l j)→¬In l k→SameB (fblk P (actOf ops a0 u l) p) w E:=by
          intro E a8 k p Q H J l _ ar _ b hb;unfold apartW at z
          split at z
          ·cases z
          ·rename_i ao af;simp only[Bool.and_eq_true]at z;have z:=(List.all_eq_true.1 z.2) k (by simpa using(Array.getElem?_eq_some_iff.1 Q).1);simp only[Q,Bool.or_eq_true]at z;obtain⟨y,ag,a4⟩:=fblk_some hb;simp only[ag,Bool.and_eq_true,Bool.or_eq_true]at z
           rcases z with((L|L)|L)|L
           ·exact absurd (Nat.eq_of_beq_eq_true L) (λe=>J (e▸absurd H (e▸C)))
           ·unfold In at H;rw[H]at L;cases L
           ·exact absurd (T k L) J
           ·have az:=addr_env R (a0:=a0) (u:=u) Q (Zjp ag) L.2 S.cc H ar;rw[←az]at a4;obtain⟨au,a9⟩:=Zqs F (L.1.resolve_right λhs=>by rw[Zs0 F hs]at a4;cases a4) a4;refine a8 b au λht=>?_;obtain⟨id,hm,hl,e⟩:=ht ao af;exact a9 id hm hl e
         have go:∀(v:Value) (E:World),After X (λW=>vcAny P U V ops n (g.setIfInBounds i true) W K) o (actOf ops a0 u g) w (Zcr U V ops A ρ o) ((actOf ops a0 u g).put o.dst v) E→
           wpAny P .any ops (Zek X K ops a0) m (f.setIfInBounds i true) ((actOf ops a0 u f).put o.dst v) E:=by
          rintro v E ⟨⟨W,hF',hvc⟩,_,hsz,a8⟩;have a2:i<g.size:=by rw[S.cc.1];exact Z
          rw[Zii R a0 u g i o s S.cc.1 C v]at hF';rw[Zii R a0 u f i o s S.ca.1 O v];refine am _ _ (g.setIfInBounds i true) n W E ⟨S.ca.set s T,S.cc.set s (λj Y=>S.sub j (T j Y)),λk q=>?_,hF',λk p Q H J=>?_,hvc⟩ a5
          ·rcases(Zef N).1 q with rfl|q
           ·exact(Zef a2).2 (.inl rfl)
           ·exact(Zef a2).2 (.inr (S.sub k q))
          ·have al:k≠i:=λe=>J ((Zef N).2 (.inl e));have ad:In g k:=((Zef a2).1 H).resolve_left al;have ae:¬In f k:=λh=>J ((Zef N).2 (.inr h));exact Owed.loud R Q s al S.cc ad C ae T (λj Y=>by simp[Y]) (S.owed k p Q ad ae) (ac E a8 k p Q ad ae)
         unfold wpOp;simp only[s];rw[←ay];by_cases hw:Region.wanted o (yielded ops (actOf ops a0 u g).tmps)=true
         ·rw[if_pos hw]at x⊢;refine .inl ?_;unfold Oper.wp at x⊢;rw[←execOp_congr o (λcs b=>R.sel i o cs b s) ax];refine upon_env (a:=actOf ops a0 u g) (λv E hg=>go v E hg) (λd E hg=>?_) (λc E hg=>False.elim hg) x;obtain⟨_,⟨u',e⟩,_⟩:=hg;have e1:=congrArg Act.defers e;rw[put_defers',put_defers']at e1;exact absurd e1 (by simp)
         ·rw[if_neg hw]at x⊢;exact go undef w ⟨x,⟨undef,rfl⟩,Nat.le_refl _,λ_ _ _=>rfl⟩
  exact ap _ u g n A rfl S
def Zqt(g:FuncId→Sig)(i:TypeId→Sig)(id:Nat)(ops:Array Oper)(m:P.follows .mixedOrders=true)(j:Zfh ops=true)(b:St)(a:Act)(w:World)(F:Fits X b a w)(K:St→Prop)
  (n:vcAny P g i ops (ops.size+1) (Array.replicate ops.size false) b K) (Q:Exit→Act→World→Prop) (o:∀b d w,Fits X b d w→Fr (ops.toList.filterMap (·.dst)) a d→K b→Q .normal d w):(Code.region id ops true).wp P Q a w:=by
 have R:=Zih j;have hnone:∀k,¬In (Array.replicate ops.size false) k:=λk h=>by unfold In at h;by_cases c:k<ops.size<;>simp[c]at h
 have f:actOf ops a (λ_=>undef) (Array.replicate ops.size false)=a:=by
  unfold actOf
  have:((List.range a.tmps.size).map (slotV ops a (λ_=>undef) (Array.replicate ops.size false))).toArray=a.tmps:=by
   apply Array.ext';apply List.ext_getElem?;intro t;have q:wr ops (Array.replicate ops.size false) t=none:=Zi5 (λk c=>absurd c (hnone k));by_cases ht:t<a.tmps.size
   ·simp[ht,slotV,q]
   ·simp[ht]
  rw[this]
 refine wp_mono (wp_region_any (Q:=Zek X K ops a) m ?_) (λe d w h=>?_)
 ·have r:Fits X b a {w with drawn:=w.drawn+1}:=by obtain⟨h,p,F⟩:=F;exact⟨h,p,F.world (λ_ _=>rfl) ⟨F.kp.os,F.kp.tape,F.kp.output,F.kp.size,F.kp.block⟩⟩
  have S:Sim P g i ops X a K (λ_=>undef) (Array.replicate ops.size false) (Array.replicate ops.size false) (ops.size+1) b {w with drawn:=w.drawn+1}:=
   ⟨⟨by simp,λk _ _ h=>absurd h (hnone k)⟩,⟨by simp,λk _ _ h=>absurd h (hnone k)⟩,λ_ h=>h,by rw[f];exact r,λk _ _ h=>absurd h (hnone k),n⟩
  have s:left ops (Array.replicate ops.size false)=ops.size:=(by unfold left;rw[List.filter_eq_self.2 (λk _=>by simpa[In]using hnone k)];simp);have:=sim_any R ops.size _ _ _ _ _ _ S s;rwa[f]at this
 ·cases e with
  |normal=>obtain⟨⟨b,F,c⟩,l⟩:=h;exact o b d w F l c
  |_=>exact False.elim h
end

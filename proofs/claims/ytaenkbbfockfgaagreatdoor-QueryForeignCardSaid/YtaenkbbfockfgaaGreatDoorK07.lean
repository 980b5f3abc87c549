import Derived.Test.YtaenkbbfockfgaaGreatDoorK06
import Derived.RangeFuncLeaves
import Derived.RangeFuncWrites
import Derived.Shelf.Abstract
import Derived.WalkKit
import Derived.OwnWalkIn
import Derived.TacticsInMore
import Derived.LoopNIn
import Derived.LoopIn
import Derived.Test.YtaenkbbfockfgaaGreatDoorProg
set_option linter.all false
set_option maxRecDepth 100000
variable{b c e i j k:Int}{m n:Nat}{l r:Go.Px.LL}{Q:Go.Px.QQ}{s t:BA}{X x:List Int}{T:Go.TypeId}{C:List Go.Px.SV}{N:List BA}
namespace Go.Proofs.YtaenkbbfockfgaaGreatDoor
namespace Cod
open Go Go.Px Go.Proofs Go.RowKit Go.Shelf Tryz
set_option maxHeartbeats 2000000
attribute [local go_sem] Oper.semAt_some
def Kp(N B:Nat)(w a:World):Prop:=Keeps (λb=>b=B\/N<=b) w a
theorem Kp.refl(N B:Nat)(w:World):Kp N B w w:=⟨rfl,rfl,rfl,Nat.le_refl _,λ_ _ _=>rfl⟩
def Kp.trans{N B:Nat}{a b c:World}(h:Kp N B a b)(k:Kp N B b c):Kp N B a c:=
 ⟨k.os.trans h.os,k.tape.trans h.tape,k.output.trans h.output,Nat.le_trans h.size k.size,λi d e=>(k.block i (Nat.lt_of_lt_of_le d h.size) e).trans (h.block i d e)⟩
def Kp.cell{N B:Nat}{w a:World}(h:Kp N B w a){p:Addr}{v:Value}(d:p.block<N)(e:p.block≠B)(b:w.cell? p=some v):a.cell? p=some v:=by
 have c:p.block<w.heap.size:=(by refine Classical.byContradiction λf=>?_;have:w.heap[p.block]?=none:=YB Vo;simp[World.cell?,this]at b);rw[World.cell?_of_block (w:=w) (h.block p.block c Vo)];exact b
def upto{a:Type}(f:Nat->a)(k:Nat):List a:=(List.range k).map f
def upto_succ{a:Type}(f:Nat->a)(k:Nat):upto f (k+1)=upto f k++[f k]:=by simp[upto,List.range_succ]
def Zr2{a:Type}(f:Nat->a)(k:Nat):(upto f k).length=k:=by simp[upto]
def back1_in(F:Fence)(n:Nat)(A:F.fn 278)(q:F.round=none)(X:1<=n)(l a g N B b off len m:Nat)(d:List Int)(C:len<=100)(D:b<N)(r:b≠B)(E:a<N)(s:a≠B)(J t:List (Int×Int)->World->Prop)
  (G:∀pre x W,J pre W->pre.length<len->YieldAt F (n-1) prog l #[.int .i64 x.1,.int .u8 x.2] W λe c=>
   (e= .returned (.bool true)/\J (pre++[x]) c/\Kp N B W c)\/(e= .returned (.bool false)/\t (pre++[x]) c))
  (W:World) (u:W.cell? ⟨a,g,none⟩=some (.slice (some ⟨b,off,none⟩) len m)) (H:∀j,j<len->W.cell? ⟨b,off+j,none⟩=some (.int .u8 (d[j]?.getD 0))) (K:J [] W):
  CallsIn F n prog 278 #[.func (.yield l) #[] #[],.pointer (some ⟨a,g,none⟩)] W λe c=>(∃v,e= .returned v)/\
   ((∃w,w=upto (λj=>((len:Int)-1-j,d[len-1-j]?.getD 0)) len/\J w c)\/(∃pre,True/\t pre c)):=by
 refine callsIn_of_wp func278 rfl A ?_ q;simp only[Tryz.ntmps278,YJ,List.length_cons,Y9,Nat.reduceAdd,Nat.reduceSub,Wo,Wp,WI,Wz,Y5,Y2]
 gi_wp2
 gi_loopw [3] (λi wr=>∃k:Nat,k<=len/\i= .int .i64 ((len:Int)-1-k)/\J (upto (λj=>((len:Int)-1-j,d[len-1-j]?.getD 0)) k) wr/\Kp N B W wr)
  (λi _=>(intOf i+1).toNat)
 case atStart=>exact⟨0,Nat.zero_le _,Vs,K,Kp.refl _ _ _⟩
 case round=>
  obtain⟨k,Y,rfl,o,f⟩:=hrel;have T:wr.cell? ⟨a,g,none⟩=some (.slice (some ⟨b,off,none⟩) len m):=f.cell (p:=⟨a,g,none⟩) E s u;have z:k<len->wr.cell? ⟨b,off+(len-1-k),none⟩=some (.int .u8 (d[len-1-k]?.getD 0)):=λh=>f.cell (p:=⟨b,off+(len-1-k),none⟩) D r (H _ Vo);by_cases hlt:k<len
  .obtain⟨Z,L,y,M,O,P⟩:=G _ ((len:Int)-1-k,d[len-1-k]?.getD 0) wr o (by rw[Zr2];exact hlt)
   dsimp only at O
   have Q:=z hlt;have U:(0:Int)<=(len:Int)-1-k:=Vo;have R:(len:Int)-1-k<len:=Vo;have V:((len:Int)-1-k).toNat=len-1-k:=Vo
   gi_wp2
   refine P.mono ?_;rintro e W3 (⟨rfl,hJ3,hk3⟩|⟨rfl,hJx3⟩)
   .gi_wp2
    go_roundw
    case rel=>exact⟨k+1,Vo,Vm,by rw[upto_succ];exact hJ3,f.trans hk3⟩
    case measure=>simp[intOf];omega
   .gi_wp2
    refine bodyPost_ret (results_none rfl _ _ _) rfl ?_;exact⟨⟨_,rfl⟩,.inr ⟨_,trivial,hJx3⟩⟩
  .obtain rfl:k=len:=Vo
   gi_wp2
   go_end0
   exact⟨⟨_,rfl⟩,.inl ⟨_,rfl,o⟩⟩
set_option maxHeartbeats 4000000
attribute [local go_sem] Oper.semAt_some
def Zyg{F:Fence}{n:Nat}{P:Program}{c:Code}{id:Nat}{g:Operand}{f:Array Tmp}{b d:Code}{Q:Exit->Act->World->Prop}{a:Act}{w:World}
  (e:c= .block id (.rangeFunc g f b d)) (h:(Code.rangeFunc g f b d).wpIn F n P (Exit.inBlock id Q) a w):c.wpIn F n P Q a w:=by
 subst e;exact wpIn_block h
def ustep(n x:Int):Int:=wor .u64 (wshl .u64 n 7) (wcv .u64 (wrem x 128))
def uall(n:Int)(l:List (Int×Int)):Int:=l.foldl (λn x=>ustep n x.2) n
def Ze7{W:World}{v a:Value}(h:W.heap[n]?=some (.cells #[v] T (0,0))):(W.setCell ⟨n,0,none⟩ a).heap[n]?=some (.cells #[a] T (0,0)):=by
 grind [World.setCell]
def rf_core(A v1 v2 v3 v4 v5 v7 v8 v9 v10 v11 v12 v13 v14 v15 v16 v17 v18 v19 v20 v21 v22 v23 v24 v25 v26 v27 v28 v29 v30 v31 v32 v33 v34 v35 v36 v37 v38 v39 v40 v41 v42 v43 v44 v45 v46 v47 v48 v49 v50 v51 v52 v53 v54 v55 v56 v57 v58 v59 v60 v61 v62 v64 v65 v66 v67 v68 v69 v70 v71 v72 v73 v74 v75 v76 v77 v78 q:Value)(B d bo b off len y:Nat)(t:TypeId)(i:Int)(r:List Int)(w:World)(Q:Exit->Act->World->Prop)
  (C:len<=100) (G:B<w.heap.size) (H:b<w.heap.size) (L:b≠B) (m:d<w.heap.size) (M:d≠B)
  (O:w.cell? ⟨d,bo,none⟩=some (.slice (some ⟨b,off,none⟩) len y)) (V:∀j,j<len->w.cell? ⟨b,off+j,none⟩=some (.int .u8 (r[j]?.getD 0)))
  (X:w.heap[B]?=some (.cells #[.int .u64 i] t (0,0)))
  (Y:∀(D:Nat) (W:World),w.heap.size<=D->Keeps (λk=>k=B) w W->W.heap[B]?=some (.cells #[.int .u64 (uall i (upto (λj=>((len:Int)-1-j,r[len-1-j]?.getD 0)) len))] t (0,0))->W.heap[D]?=some (.deferred (some []))->
   Q .normal {tmps:=#[A,v1,v2,v3,v4,v5,.pointer (some ⟨B,0,none⟩),v7,v8,v9,v10,v11,v12,v13,v14,v15,v16,v17,v18,v19,v20,v21,v22,v23,v24,v25,v26,v27,v28,v29,v30,v31,v32,v33,v34,v35,v36,v37,v38,v39,v40,v41,v42,v43,v44,v45,v46,v47,v48,v49,v50,v51,v52,v53,v54,v55,v56,v57,v58,v59,v60,v61,v62,.func (.func 278) #[] #[.pointer (some ⟨d,bo,none⟩)],v64,v65,v66,v67,v68,v69,v70,v71,v72,v73,v74,v75,v76,v77,v78,q],defers:=[{target:=.collected D,args:=#[]}]} W):
  (rfOf (Tryz.f128.body.getD .skip)).wp prog Q {tmps:=#[A,v1,v2,v3,v4,v5,.pointer (some ⟨B,0,none⟩),v7,v8,v9,v10,v11,v12,v13,v14,v15,v16,v17,v18,v19,v20,v21,v22,v23,v24,v25,v26,v27,v28,v29,v30,v31,v32,v33,v34,v35,v36,v37,v38,v39,v40,v41,v42,v43,v44,v45,v46,v47,v48,v49,v50,v51,v52,v53,v54,v55,v56,v57,v58,v59,v60,v61,v62,.func (.func 278) #[] #[.pointer (some ⟨d,bo,none⟩)],v64,v65,v66,v67,v68,v69,v70,v71,v72,v73,v74,v75,v76,v77,v78,q],defers:=[]} w:=by
 refine(wpIn_wide (n:=3)).1 ?_;refine Zyg rfl ?_
 refine wpIn_rangeFunc_ownG (F:=Fence.wide) (n:=3) rfl Vo (gf:=278) (lb:=#[.pointer (some ⟨d,bo,none⟩)]) rfl trivial (enters_of func278 Vk rfl)
  (encs:=λx:Int×Int=>#[Value.int .i64 x.1,Value.int .u8 x.2]) (Kp:=Kp w.heap.size B) (S:=λP=>P=upto (λj=>((len:Int)-1-j,r[len-1-j]?.getD 0)) len) (Sp:=λ_=>True) (N:=len) (w0:=w)
  (λl J Z W R _ _ hY h0=>back1_in Fence.wide 2 trivial rfl Vo l d bo w.heap.size B b off len y r C H L m M J Z hY W ((R.cell (p:=⟨d,bo,none⟩) m).trans O) (λj hj=>(R.cell (p:=⟨b,off+j,none⟩) H).trans (V j hj)) h0)
  (λh k=>h.trans k) (λW l o o' hl h ho hw=>⟨rfl,rfl,rfl,Vs,λk a f=>World.putObj_heap_other Vo⟩) (Below.refl _ _) (λ_=>rfl)
  (λpre W=>Keeps (λk=>k=B) w W/\W.heap[B]?=some (.cells #[.int .u64 (uall i pre)] t (0,0)))
  (λ_ _ _=>False)
  (λs W W' row m f hr=>?own) (λ_ _ _ _ _ m _ _=>m)
  ⟨Keeps.refl _ _,X⟩
  (λx=>{tmps:=#[A,v1,v2,v3,v4,v5,.pointer (some ⟨B,0,none⟩),v7,.int .u8 x.2,v9,v10,v11,v12,v13,v14,v15,v16,v17,v18,v19,v20,v21,v22,v23,v24,v25,v26,v27,v28,v29,v30,v31,v32,v33,v34,v35,v36,v37,v38,v39,v40,v41,v42,v43,v44,v45,v46,v47,v48,v49,v50,v51,v52,v53,v54,v55,v56,v57,v58,v59,v60,v61,v62,.func (.func 278) #[] #[.pointer (some ⟨d,bo,none⟩)],.int .i64 x.1,.int .u8 x.2,v66,v67,v68,v69,v70,v71,v72,v73,v74,v75,v76,v77,v78,q],defers:=[]}) ?assign ?body ?done ?stop
 case own=>
  obtain⟨a,g⟩:=m;have T:=a.size;have z:∀k,k<w.heap.size->W'.heap[k]?=W.heap[k]?:=λk a0=>f.block k Vo (λe=>by have:=(hr k e.symm).1;omega);exact⟨⟨f.os.trans a.os,f.tape.trans a.tape,f.output.trans a.output,Nat.le_trans T f.size,λk u v=>(z k u).trans (a.block k u v)⟩,(z B G).trans g⟩
 case assign=>
  intro l x W K E
  gi_wp2
  exact E
 case body=>
  rintro l pre x W ⟨a,g⟩ _;have U:W.cell? ⟨B,0,none⟩=some (.int .u64 (uall i pre)):=(by simp[World.cell?,g]);have a1:W.frozen? ⟨B,0,none⟩=false:=by simp[World.frozen?,g]
  gi_wp2
  have hu:uall i (pre++[x])=ustep (uall i pre) x.2:=(by simp[uall]);refine⟨(KeepsOthers.setCell _ _ _).from _,⟨rfl,rfl,rfl,Vs,λk a f=>Below.heap_setCell _ _ _ _ (λe=>f (.inl e))⟩,⟨a.os,a.tape,a.output,by simpa using a.size,λk u v=>(Below.heap_setCell _ _ _ _ v).trans (a.block k u v)⟩,?_⟩;rw[hu];exact Ze7 g
 case done=>
  rintro D P W hD rfl ⟨a,g⟩ E;exact Y D W hD a g E
 case stop=>
  rintro D c pre W _ _ h _;exact h.elim
def range80(f:Nat->Value):(List.range 80).map f=[f 0,f 1,f 2,f 3,f 4,f 5,f 6,f 7,f 8,f 9,f 10,f 11,f 12,f 13,f 14,f 15,f 16,f 17,f 18,f 19,f 20,f 21,f 22,f 23,f 24,f 25,f 26,f 27,f 28,f 29,f 30,f 31,f 32,f 33,f 34,f 35,f 36,f 37,f 38,f 39,f 40,f 41,f 42,f 43,f 44,f 45,f 46,f 47,f 48,f 49,f 50,f 51,f 52,f 53,f 54,f 55,f 56,f 57,f 58,f 59,f 60,f 61,f 62,f 63,f 64,f 65,f 66,f 67,f 68,f 69,f 70,f 71,f 72,f 73,f 74,f 75,f 76,f 77,f 78,f 79]:=Vk
def arr80(t:Array Value)(h:t.size=80):t= #[t.getD 0 undef,t.getD 1 undef,t.getD 2 undef,t.getD 3 undef,t.getD 4 undef,t.getD 5 undef,t.getD 6 undef,t.getD 7 undef,t.getD 8 undef,t.getD 9 undef,t.getD 10 undef,t.getD 11 undef,t.getD 12 undef,t.getD 13 undef,t.getD 14 undef,t.getD 15 undef,t.getD 16 undef,t.getD 17 undef,t.getD 18 undef,t.getD 19 undef,t.getD 20 undef,t.getD 21 undef,t.getD 22 undef,t.getD 23 undef,t.getD 24 undef,t.getD 25 undef,t.getD 26 undef,t.getD 27 undef,t.getD 28 undef,t.getD 29 undef,t.getD 30 undef,t.getD 31 undef,t.getD 32 undef,t.getD 33 undef,t.getD 34 undef,t.getD 35 undef,t.getD 36 undef,t.getD 37 undef,t.getD 38 undef,t.getD 39 undef,t.getD 40 undef,t.getD 41 undef,t.getD 42 undef,t.getD 43 undef,t.getD 44 undef,t.getD 45 undef,t.getD 46 undef,t.getD 47 undef,t.getD 48 undef,t.getD 49 undef,t.getD 50 undef,t.getD 51 undef,t.getD 52 undef,t.getD 53 undef,t.getD 54 undef,t.getD 55 undef,t.getD 56 undef,t.getD 57 undef,t.getD 58 undef,t.getD 59 undef,t.getD 60 undef,t.getD 61 undef,t.getD 62 undef,t.getD 63 undef,t.getD 64 undef,t.getD 65 undef,t.getD 66 undef,t.getD 67 undef,t.getD 68 undef,t.getD 69 undef,t.getD 70 undef,t.getD 71 undef,t.getD 72 undef,t.getD 73 undef,t.getD 74 undef,t.getD 75 undef,t.getD 76 undef,t.getD 77 undef,t.getD 78 undef,t.getD 79 undef]:=by
 have e:t=((List.range 80).map (λi=>t.getD i undef)).toArray:=by
  apply Array.ext
  .simp[h]
  simp_all
 exact e.trans (congrArg List.toArray (range80 (λi=>t.getD i undef)))
def ObOK.lt{h:Hp}{b:Nat->Px.Loc}{w:World}{o:Ob}(a:ObOK h b w n o)(i:(b n).none=false):∃x,w.heap[(b n).blk]?=some x/\∀d,x≠ .deferred d:=by
 cases o with
 |box cells=>obtain⟨_,⟨c,t,e,_⟩,_⟩:=a;exact⟨_,e,Vs⟩
 |own id rows=>
  rcases a with⟨j,_⟩|⟨_,a⟩
  .grind
  .obtain⟨c,t,k,e,_⟩:=a.hblk;exact⟨_,e,Vs⟩
 |mp p=>obtain⟨_,⟨f,l,e,_⟩,_⟩:=a;exact⟨_,e,Vs⟩
 |arr q m r=>obtain⟨_,⟨c,t,g,_⟩,_⟩:=a;exact⟨_,g,λd e=>by cases e⟩
def byR(r:List SV):Int:=match r with| [.val (.int _ x)]=>x|_=>0
def upto_snd(a:List Int):(upto (λj=>((a.length:Int)-1-j,a[a.length-1-j]?.getD 0)) a.length).map (·.2)=a.reverse:=by
 apply YY
 .simp[upto]
 grind [upto]
def Zyh(n:Int)(rows:LL):uall n (upto (λj=>(((rows.map byR).length:Int)-1-j,(rows.map byR)[(rows.map byR).length-1-j]?.getD 0)) (rows.map byR).length)=ufold n rows:=by
 have e:∀(l:List (Int×Int)) (n:Int),uall n l=(l.map (·.2)).foldl ustep n:=by
  intro l;induction l with
  |nil=>intro n;rfl
  |cons x l a=>intro n;exact a _
 rw[e,upto_snd,<-List.map_reverse,List.foldl_map];rfl
def rf_sound{X:Cx}{h:Hp}{d:Nat->Px.Loc}{H:St}{a:Act}{w:World}(F:FitsAt X h d H a w)(a7:X.df=[]){K:St->Prop}(g:rfBack Tryz.f128.ntmps 278 63 6 H K){Q:Exit->Act->World->Prop}
  (hQ:∀(D:Nat) (y:St) (W:World),w.heap.size<=D->FitsAt X h d y a W->K y->W.heap[D]?=some (.deferred (some []))->(∀i,live y.objs d i->(d i).blk<w.heap.size)->Q .normal {a with defers:=[{target:=.collected D,args:=#[]}]} W):
  (rfOf (Tryz.f128.body.getD .skip)).wp prog Q a w:=by
 unfold rfBack at g
 cases hnt:Nat.beq (lenN H.tmps) Tryz.f128.ntmps with
 |false=>simp only[hnt,cond_false]at g
 |true=>
 simp only[hnt,cond_true]at g
 have ae:H.tmps.length=80:=by
  simp_all[Tryz.ntmps128,Zax]
 split at g
 next f cs aa=>
  split at g
  next id ab=>
   split at g
   .rename_i M T;obtain⟨rows,rfl,rfl,ac,z,a3,hK⟩:=g;have Y:=F.slot [] Vs 63;rw[aa]at Y;have r6:=F.slot [] Vs 6;rw[ab]at r6;have hB:=F.obj _ _ T;obtain⟨U,⟨cells,t,n,V,ad⟩,hno⟩:=hB;have Z:Rep h d (a.tmps.getD 6 undef) (.ptr id 0):=r6;have A:Rep h d (a.tmps.getD 63 undef) (.clo 278 [.ref 0 [.slice 1 rows 0]]):=Y
    have e6:a.tmps.getD 6 undef= .pointer (some ⟨(d id).blk,0,none⟩):=by
     generalize a.tmps.getD 6 undef=v at Z
     cases Z with
     |pure _ _ G=>cases G
     |ptr=>rfl
    obtain⟨s,bo,b,off,q,e63,hcap,hrow⟩:∃s bo b off q,a.tmps.getD 63 undef= .func (.func 278) #[] #[.pointer (some ⟨s,bo,none⟩)]/\h s bo=some (.slice (some ⟨b,off,none⟩) rows.length q)/\
      ∀(i:Nat) r,rows[i]?=some r->h b (off+i)=some (.int .u8 (byR r)):=by
     generalize a.tmps.getD 63 undef=v at A
     cases A with
     |pure _ _ G=>
      cases G with
      |clo _ P _ hl L=>
       simp at hl
       obtain⟨u,rfl⟩:∃u,P= #[u]:=by
        rcases P with⟨l⟩
        match l,hl with
        | [u],_=>exact⟨u,rfl⟩
       have r1:=L 0 u _ Vs (by simp;rfl)
       cases r1 with
       |ref bb a6 _ _ P hh hr=>
        have h1:=hh 0 _ (by simp;rfl);have h2:=hr 0 _ (by simp;rfl);generalize P 0=u at h1 h2
        cases h2 with
        |empty=>simp at z
        |slice b off q _ _ _ ah ak hz ai aj=>
         refine⟨bb,a6+0,b,off,q,rfl,by simpa using h1,λi r hi=>?_⟩;obtain⟨m,rfl,_⟩:=ac r (Yn hi);have q1:=ai i _ 0 _ hi (by simp;rfl);have q2:=aj i _ 0 _ hi (by simp;rfl);generalize ah i 0=u2 at q1 q2
         cases q2
         simpa[byR]using q1
    have C:cells= #[.int .u64 M]:=by
     simp at V
     rcases cells with⟨l⟩
     match l,V with
     | [u],_=>
      have:=(ad 0 u _ Vs (by simp;rfl)).1
      cases this with
      |pure _ _ G=>cases G;rfl
    subst C;have a0:∀b o v,h b o=some v->b≠(d id).blk/\b<w.heap.size:=(by intro b o v e;refine⟨λe'=>(by subst e';rw[hno o]at e;cases e),?_⟩;have:=F.sub b o v e;refine Classical.byContradiction λhn=>?_;have hnone:w.heap[b]?=none:=YB Vo;simp[World.cell?,hnone]at this);have af:(d id).blk<w.heap.size:=(Y3.1 n).1;have N:0<rows.length:=(by simpa using z);have ag:=hrow 0 rows[0] (List.getElem?_eq_getElem N);have a1:=a0 _ _ _ ag;have a2:=a0 _ _ _ hcap;have a4:a.tmps.size=80:=F.size.trans ae;have E:=arr80 a.tmps a4
    have ha:a={tmps:=#[a.tmps.getD 0 undef,a.tmps.getD 1 undef,a.tmps.getD 2 undef,a.tmps.getD 3 undef,a.tmps.getD 4 undef,a.tmps.getD 5 undef,.pointer (some ⟨(d id).blk,0,none⟩),a.tmps.getD 7 undef,a.tmps.getD 8 undef,a.tmps.getD 9 undef,a.tmps.getD 10 undef,a.tmps.getD 11 undef,a.tmps.getD 12 undef,a.tmps.getD 13 undef,a.tmps.getD 14 undef,a.tmps.getD 15 undef,a.tmps.getD 16 undef,a.tmps.getD 17 undef,a.tmps.getD 18 undef,a.tmps.getD 19 undef,a.tmps.getD 20 undef,a.tmps.getD 21 undef,a.tmps.getD 22 undef,a.tmps.getD 23 undef,a.tmps.getD 24 undef,a.tmps.getD 25 undef,a.tmps.getD 26 undef,a.tmps.getD 27 undef,a.tmps.getD 28 undef,a.tmps.getD 29 undef,a.tmps.getD 30 undef,a.tmps.getD 31 undef,a.tmps.getD 32 undef,a.tmps.getD 33 undef,a.tmps.getD 34 undef,a.tmps.getD 35 undef,a.tmps.getD 36 undef,a.tmps.getD 37 undef,a.tmps.getD 38 undef,a.tmps.getD 39 undef,a.tmps.getD 40 undef,a.tmps.getD 41 undef,a.tmps.getD 42 undef,a.tmps.getD 43 undef,a.tmps.getD 44 undef,a.tmps.getD 45 undef,a.tmps.getD 46 undef,a.tmps.getD 47 undef,a.tmps.getD 48 undef,a.tmps.getD 49 undef,a.tmps.getD 50 undef,a.tmps.getD 51 undef,a.tmps.getD 52 undef,a.tmps.getD 53 undef,a.tmps.getD 54 undef,a.tmps.getD 55 undef,a.tmps.getD 56 undef,a.tmps.getD 57 undef,a.tmps.getD 58 undef,a.tmps.getD 59 undef,a.tmps.getD 60 undef,a.tmps.getD 61 undef,a.tmps.getD 62 undef,.func (.func 278) #[] #[.pointer (some ⟨s,bo,none⟩)],a.tmps.getD 64 undef,a.tmps.getD 65 undef,a.tmps.getD 66 undef,a.tmps.getD 67 undef,a.tmps.getD 68 undef,a.tmps.getD 69 undef,a.tmps.getD 70 undef,a.tmps.getD 71 undef,a.tmps.getD 72 undef,a.tmps.getD 73 undef,a.tmps.getD 74 undef,a.tmps.getD 75 undef,a.tmps.getD 76 undef,a.tmps.getD 77 undef,a.tmps.getD 78 undef,a.tmps.getD 79 undef],defers:=[]}:=by
     have e1:a.tmps= #[a.tmps.getD 0 undef,a.tmps.getD 1 undef,a.tmps.getD 2 undef,a.tmps.getD 3 undef,a.tmps.getD 4 undef,a.tmps.getD 5 undef,.pointer (some ⟨(d id).blk,0,none⟩),a.tmps.getD 7 undef,a.tmps.getD 8 undef,a.tmps.getD 9 undef,a.tmps.getD 10 undef,a.tmps.getD 11 undef,a.tmps.getD 12 undef,a.tmps.getD 13 undef,a.tmps.getD 14 undef,a.tmps.getD 15 undef,a.tmps.getD 16 undef,a.tmps.getD 17 undef,a.tmps.getD 18 undef,a.tmps.getD 19 undef,a.tmps.getD 20 undef,a.tmps.getD 21 undef,a.tmps.getD 22 undef,a.tmps.getD 23 undef,a.tmps.getD 24 undef,a.tmps.getD 25 undef,a.tmps.getD 26 undef,a.tmps.getD 27 undef,a.tmps.getD 28 undef,a.tmps.getD 29 undef,a.tmps.getD 30 undef,a.tmps.getD 31 undef,a.tmps.getD 32 undef,a.tmps.getD 33 undef,a.tmps.getD 34 undef,a.tmps.getD 35 undef,a.tmps.getD 36 undef,a.tmps.getD 37 undef,a.tmps.getD 38 undef,a.tmps.getD 39 undef,a.tmps.getD 40 undef,a.tmps.getD 41 undef,a.tmps.getD 42 undef,a.tmps.getD 43 undef,a.tmps.getD 44 undef,a.tmps.getD 45 undef,a.tmps.getD 46 undef,a.tmps.getD 47 undef,a.tmps.getD 48 undef,a.tmps.getD 49 undef,a.tmps.getD 50 undef,a.tmps.getD 51 undef,a.tmps.getD 52 undef,a.tmps.getD 53 undef,a.tmps.getD 54 undef,a.tmps.getD 55 undef,a.tmps.getD 56 undef,a.tmps.getD 57 undef,a.tmps.getD 58 undef,a.tmps.getD 59 undef,a.tmps.getD 60 undef,a.tmps.getD 61 undef,a.tmps.getD 62 undef,.func (.func 278) #[] #[.pointer (some ⟨s,bo,none⟩)],a.tmps.getD 64 undef,a.tmps.getD 65 undef,a.tmps.getD 66 undef,a.tmps.getD 67 undef,a.tmps.getD 68 undef,a.tmps.getD 69 undef,a.tmps.getD 70 undef,a.tmps.getD 71 undef,a.tmps.getD 72 undef,a.tmps.getD 73 undef,a.tmps.getD 74 undef,a.tmps.getD 75 undef,a.tmps.getD 76 undef,a.tmps.getD 77 undef,a.tmps.getD 78 undef,a.tmps.getD 79 undef]:=(by rw[e6,e63]at E;exact E);have e2:a.defers=[]:=F.df.trans a7;have e0:a=⟨a.tmps,a.defers⟩:=rfl;exact e0.trans (congr (congrArg Act.mk e1) e2)
    have O:rows.length<=100:=by have:=a3;rw[rlen_eq]at this;omega
    have a5:=rf_core (a.tmps.getD 0 undef) (a.tmps.getD 1 undef) (a.tmps.getD 2 undef) (a.tmps.getD 3 undef) (a.tmps.getD 4 undef) (a.tmps.getD 5 undef) (a.tmps.getD 7 undef) (a.tmps.getD 8 undef) (a.tmps.getD 9 undef) (a.tmps.getD 10 undef) (a.tmps.getD 11 undef) (a.tmps.getD 12 undef) (a.tmps.getD 13 undef) (a.tmps.getD 14 undef) (a.tmps.getD 15 undef) (a.tmps.getD 16 undef) (a.tmps.getD 17 undef) (a.tmps.getD 18 undef) (a.tmps.getD 19 undef) (a.tmps.getD 20 undef) (a.tmps.getD 21 undef) (a.tmps.getD 22 undef) (a.tmps.getD 23 undef) (a.tmps.getD 24 undef) (a.tmps.getD 25 undef) (a.tmps.getD 26 undef) (a.tmps.getD 27 undef) (a.tmps.getD 28 undef) (a.tmps.getD 29 undef) (a.tmps.getD 30 undef) (a.tmps.getD 31 undef) (a.tmps.getD 32 undef) (a.tmps.getD 33 undef) (a.tmps.getD 34 undef) (a.tmps.getD 35 undef) (a.tmps.getD 36 undef) (a.tmps.getD 37 undef) (a.tmps.getD 38 undef) (a.tmps.getD 39 undef) (a.tmps.getD 40 undef) (a.tmps.getD 41 undef) (a.tmps.getD 42 undef) (a.tmps.getD 43 undef) (a.tmps.getD 44 undef) (a.tmps.getD 45 undef) (a.tmps.getD 46 undef) (a.tmps.getD 47 undef) (a.tmps.getD 48 undef) (a.tmps.getD 49 undef) (a.tmps.getD 50 undef) (a.tmps.getD 51 undef) (a.tmps.getD 52 undef) (a.tmps.getD 53 undef) (a.tmps.getD 54 undef) (a.tmps.getD 55 undef) (a.tmps.getD 56 undef) (a.tmps.getD 57 undef) (a.tmps.getD 58 undef) (a.tmps.getD 59 undef) (a.tmps.getD 60 undef) (a.tmps.getD 61 undef) (a.tmps.getD 62 undef) (a.tmps.getD 64 undef) (a.tmps.getD 65 undef) (a.tmps.getD 66 undef) (a.tmps.getD 67 undef) (a.tmps.getD 68 undef) (a.tmps.getD 69 undef) (a.tmps.getD 70 undef) (a.tmps.getD 71 undef) (a.tmps.getD 72 undef) (a.tmps.getD 73 undef) (a.tmps.getD 74 undef) (a.tmps.getD 75 undef) (a.tmps.getD 76 undef) (a.tmps.getD 77 undef) (a.tmps.getD 78 undef) (a.tmps.getD 79 undef) (d id).blk s bo b off (rows.map byR).length q t M (rows.map byR) w Q (by simpa using O) af a1.2 a1.1 a2.2 a2.1
     (by simpa using F.sub _ _ _ hcap) (λj J=>by
      have J:j<rows.length:=(by simpa using J);have:=F.sub _ _ _ (hrow j rows[j] (List.getElem?_eq_getElem J))
      simpa[J]using this) n
    rw[ha];refine a5 (λD W hD p R a8=>?_);rw[Zyh]at R
    have F1:=F.setOb id _ (.box [.val (.int .u64 (ufold M rows))]) (w.setCell ⟨(d id).blk,0,none⟩ (.int .u64 (ufold M rows))) T U
     ⟨U,⟨_,t,Ze7 n,rfl,λi v c hv L=>by
      cases i with
      |zero=>simp at hv L;subst hv;subst L;exact⟨.pure _ _ (.val _),rfl⟩
      |succ i=>simp at hv⟩,hno⟩
     (λk g=>Below.heap_setCell _ _ _ _ g) ⟨rfl,rfl,rfl,Vs,λk _ g=>Below.heap_setCell _ _ _ _ g⟩
    have F2:=F1.made (w':=W) ⟨p.os,p.tape,p.output,by simpa using p.size,λk a9 _=>by
     by_cases e:k=(d id).blk
     .subst e;rw[R,Ze7 n]
     .rw[Below.heap_setCell _ _ _ _ e];exact p.block k (by simpa using a9) e⟩
    have:=hQ D _ W hD F2 hK a8 (λi ⟨⟨o,ho⟩,hn⟩=>by
     obtain⟨x,hx,_⟩:=ObOK.lt (F1.obj i o ho) hn;have:=(Y3.1 hx).1
     simpa using this)
    rw[ha]at this;exact this
   .exact g.elim
  .exact g.elim
 .exact g.elim
open Classical in
def uint_of(N:FuncId->Sig)(O:TypeId->Sig)(L:Nat->Option LoopSpec){d:List SV}{Q:List SV->Prop}{Y:Prop}(e:Y=vcB prog N O L Tryz.f128 {} d Q 278 63 6)(hY:Y):Ct prog 128 {} d Q:=by
 have E:=e.mp hY;unfold vcB at E
 split at E
 next c U=>
  have aa:hasRF c=true:=by
   have:Tryz.f128.body.map hasRF=some true:=Vk
   grind
  have a0:Zge c=true:=by
   have:Tryz.f128.body.map Zge=some true:=Vk
   grind
  have H:Tryz.f128.name≠ "runtime.NumGoroutine" :=by
   have:(Tryz.f128.name== "runtime.NumGoroutine")=false:=Vk
   grind
  refine⟨⟨Tryz.f128,func128,by rw[U];rfl,H⟩,λj b af h p w m u J q=>?_⟩;refine(callsIn_wide (n:=3)).1 (callsIn_of_wp_marks func128 U trivial ((wpIn_wide).2 ?_) rfl)
  have hst:Px.start Tryz.f128 {} d={tmps:=j++List.replicate (Tryz.f128.ntmps-j.length) .unk,objs:=b}:=by
   grind [Px.start]
  rw[hst]at E;have a1:m.size=j.length:=by have:=q.1;simpa using this
  let X:Cx:={w:=w,h:=h,G:=Gv b p,pin:=λid=>if(∃i ms,({}:Sig).ps[i]?=some (.lend ms)/\id=pId i)\/id∈Zb1 0 ({}:Sig).ps then some (p id)else none}
  have F:FitsAt X h p {tmps:=j++List.replicate (Tryz.f128.ntmps-j.length) .unk,objs:=b} {tmps:=m++Array.replicate (Tryz.f128.ntmps-m.size) undef,defers:=[]} w:=by
   refine⟨by simp[a1],λt s g=>?_,rfl,u.sub,λid o P=>u.obj id o (Zb6 P),u.inj,λi y=>.inr ⟨i,y,rfl⟩,HLe.refl _,λ_ _ _ _ e=>e,Keeps.refl _ _,λid l R=>?_,J,J.off (λi ⟨⟨o,e⟩,Z⟩=>ObOK.hnone (u.obj i o (Zb6 e)) Z)⟩
   .simp only[]at g;rw[List.getElem?_append]at g;by_cases ht:t<j.length
    .rw[if_pos ht]at g
     have ab:(m++Array.replicate (Tryz.f128.ntmps-m.size) undef).getD t undef=m[t]'Vo:=by
      simp_all[YU]
     simp only[ab];exact TRep.of_rep' (q.2 t _ s Vs g)
    grind [TRep.rep_unk]
   .simp only[X]at R
    split at R
    next hx=>
     rcases hx with⟨i,ms,A,rfl⟩|hx
     .simp at A
     .cases hx
    .cases R
  refine Ztc N O L c aa X _ _ _ _ _ ?_ ?_ ⟨h,p,F⟩ E
  .intro e st a w' r hF z
   cases e with
   |normal=>exact absurd rfl r
   |exit id=>exact z.elim
   |ret=>obtain⟨st0,a5,a6⟩:=Zb8 _ hF z;obtain⟨A,v,h2,C⟩:=Ztd (ds:=[]) a5 a6;show LeavesInM _ _ _ _ _ _ a.defers _ _;rw[A];exact⟨v,h2,C⟩
  .rintro st a w' ⟨A,ρ1,F1⟩ z;rw[Zy8 c _ a0];have ac:rfOf c=rfOf (Tryz.f128.body.getD .skip):=by rw[U];rfl
   rw[ac];refine rf_sound F1 rfl z (λD a2 W hD F2 a4 K ag=>?_);show(tlOf c).wp prog _ _ W;have ad:D<W.heap.size:=(Y3.1 K).1;have ae:X.w.heap.size<=D:=Nat.le_trans F1.kp.size hD;refine Zhg N O L (tlOf c) _ a2 _ W _ _ ?_ ⟨_,_,F2.restand [{target:=.collected D,args:=#[]}]⟩ a4;rintro e st3 a3 w3 ⟨C,ρ3,F3⟩ _ r
   have f:w3.heap[D]?=some (.deferred (some [])):=by
    rw[F3.kp.block D ad (λhg=>?_)]
    .exact K
    .obtain⟨i,y,hd⟩:=hg
     grind
   have F4:=F2.based F3
   have F5:=F4.touch (w':=w3.putObj D (.deferred none)) D (λi y hd=>by
     obtain⟨⟨o,P⟩,Z⟩:=y;obtain⟨x,hx,a7⟩:=ObOK.lt (F3.obj i o P) Z;rw[hd,f]at hx
     cases hx
     exact a7 _ rfl)
    (λo=>by
     cases e:C D o with
     |none=>rfl
     |some v=>
      have:=F3.sub D o v e
      simp[World.cell?,f]at this)
    (.inl ae) (λk T=>World.putObj_heap_other T) ⟨rfl,rfl,rfl,Vs,λk _ T=>World.putObj_heap_other T⟩
   have M:fin prog Tryz.f128 {} Q .ret st3->LeavesInM Fence.wide 3 prog Tryz.f128 a3.tmps (Back {} b h p w Q) a3.defers .returning w3:=by intro V;obtain⟨ah,a8,a9⟩:=Zb8 _ ⟨C,ρ3,F5⟩ V;obtain⟨q1,v,q2,q3⟩:=Ztd (ds:=[{target:=.collected D,args:=#[]}]) a8 a9;rw[q1];exact⟨Vs,.inl ⟨D,_,rfl,run_takeDeferred f,⟨v,q2,q3⟩⟩⟩
   cases e with
   |normal=>exact M r
   |ret=>exact M r
   |exit id=>exact r.elim
 grind
end Cod
namespace Cod
open Go Go.Px Go.Proofs Tryz
def right_nf(h:Q [B (bpick (bpick (ige i 0) (ile i (rlen l)) false) (ieq j 0) false)]):Ct prog 199 {} [cu3 l i j] Q:=
 fN SgT SvT func199 h
def stay_nf(h:ifB (ieq j 0) (Q ([SV.agg [SL 1 l,I i,I e]])) (Q ([SV.agg [SL 1 l,I i,I j]]))):Ct prog 200 {} [cu3 l i j,I e] Q:=
 fN SgT SvT func200 h
def left_nf(h:Cl prog 199 sP ([SV.agg [SL 1 l,I i,I j]]) (λc=>∃b,(c=[B b])/\ifB (bnot b) (Q [I 0]) (Q [I (wsub .i64 (rlen l) i)]))):Ct prog 289 {} [cu3 l i j] Q:=
 fN SgT SvT func289 h
def take_nf(h:Cl prog 199 sP ([SV.agg [SL 1 l,I i,I j]]) (λa=>∃b,(a=[B b])/\ifB (bnot b) (ifB (bnot b) (Cl prog 200 sP ([SV.agg [SL 1 l,I i,I j],I 1]) (λc=>∃bs x d,(c=[SV.agg [SL 1 bs,I x,I d]])/\Q ([SV.agg [SL 1 bs,I x,I d],SL 1 []]))) (Cl prog 289 sP ([SV.agg [SL 1 l,I i,I j]]) (λc=>∃x,(c=[I x])/\ifB (igt k x) (Cl prog 200 sP ([SV.agg [SL 1 l,I i,I j],I 10]) (λe=>∃bs d g,(e=[SV.agg [SL 1 bs,I d,I g]])/\Q ([SV.agg [SL 1 bs,I d,I g],SL 1 []]))) (((0<=i)/\(i<=(wadd .i64 i k))/\(wadd .i64 i k=wadd .i64 i k)/\(wadd .i64 i k)<=(rlen l))/\Q ([SV.agg [SL 1 l,I (wadd .i64 i k),I j],SL 1 (rsub l i (wadd .i64 i k))]))))) (ifB (ilt k 0) (Cl prog 200 sP ([SV.agg [SL 1 l,I i,I j],I 1]) (λc=>∃bs x d,(c=[SV.agg [SL 1 bs,I x,I d]])/\Q ([SV.agg [SL 1 bs,I x,I d],SL 1 []]))) (Cl prog 289 sP ([SV.agg [SL 1 l,I i,I j]]) (λc=>∃x,(c=[I x])/\ifB (igt k x) (Cl prog 200 sP ([SV.agg [SL 1 l,I i,I j],I 10]) (λe=>∃bs d g,(e=[SV.agg [SL 1 bs,I d,I g]])/\Q ([SV.agg [SL 1 bs,I d,I g],SL 1 []]))) (((0<=i)/\(i<=(wadd .i64 i k))/\(wadd .i64 i k=wadd .i64 i k)/\(wadd .i64 i k)<=(rlen l))/\Q ([SV.agg [SL 1 l,I (wadd .i64 i k),I j],SL 1 (rsub l i (wadd .i64 i k))]))))))):Ct prog 379 {} [cu3 l i j,I k] Q:=
 fN SgT SvT func379 h
def start_nf{rows:LL}(h:(((0:Int)<=0)/\(0<=(rlen rows))/\(rlen rows=rlen rows)/\(rlen rows)<=(rlen rows))/\Q ([SV.agg [SL 1 (rsub rows 0 (rlen rows)),I 0,I 0]])):Ct prog 129 {} [SL 1 rows] Q:=
 fN SgT SvT func129 h
def text_nf{most:Int}(h:Cl prog 128 sP ([SV.agg [SL 1 l,I i,I j]]) (λn=>∃bs x,∃er m,(n=[SV.agg [SL 1 bs,I x,I er],U64 m])/\ifB (ine er 0) (Q ([SV.agg [SL 1 bs,I x,I er],S (bA [])])) (ifB (ilt most 0) (ifB (ilt most 0) (Cl prog 200 sP ([SV.agg [SL 1 l,I i,I j],I 9]) (λc=>∃a e b,(c=[SV.agg [SL 1 a,I e,I b]])/\Q ([SV.agg [SL 1 a,I e,I b],S (bA [])]))) (Cl prog 289 sP ([SV.agg [SL 1 bs,I x,I er]]) (λc=>∃e,(c=[I e])/\ifB (igt m (wcv .u64 e)) (Cl prog 200 sP ([SV.agg [SL 1 l,I i,I j],I 10]) (λd=>∃a b g,(d=[SV.agg [SL 1 a,I b,I g]])/\Q ([SV.agg [SL 1 a,I b,I g],S (bA [])]))) (Cl prog 379 sP ([SV.agg [SL 1 bs,I x,I er],I (wcv .i64 m)]) (λd=>∃a b,∃g k,(d=[SV.agg [SL 1 a,I b,I g],SL 1 k])/\(Zbt k)/\Q ([SV.agg [SL 1 a,I b,I g],S (bstr k)])))))) (ifB (igt m (wcv .u64 most)) (Cl prog 200 sP ([SV.agg [SL 1 l,I i,I j],I 9]) (λc=>∃a e b,(c=[SV.agg [SL 1 a,I e,I b]])/\Q ([SV.agg [SL 1 a,I e,I b],S (bA [])]))) (Cl prog 289 sP ([SV.agg [SL 1 bs,I x,I er]]) (λc=>∃e,(c=[I e])/\ifB (igt m (wcv .u64 e)) (Cl prog 200 sP ([SV.agg [SL 1 l,I i,I j],I 10]) (λd=>∃a b g,(d=[SV.agg [SL 1 a,I b,I g]])/\Q ([SV.agg [SL 1 a,I b,I g],S (bA [])]))) (Cl prog 379 sP ([SV.agg [SL 1 bs,I x,I er],I (wcv .i64 m)]) (λd=>∃a b,∃g k,(d=[SV.agg [SL 1 a,I b,I g],SL 1 k])/\(Zbt k)/\Q ([SV.agg [SL 1 a,I b,I g],S (bstr k)]))))))))):Ct prog 367 {} [cu3 l i j,I most] Q:=
 fN SgT SvT func367 h
def upTo_nf{most:Int}(h:Cl prog 128 sP ([SV.agg [SL 1 l,I i,I j]]) (λd=>∃bs x,∃c b,(d=[SV.agg [SL 1 bs,I x,I c],U64 b])/\ifB (igt b most) (Q ([SV.agg [SL 1 bs,I x,I 11],I 0])) (Q ([SV.agg [SL 1 bs,I x,I c],I (wcv .i64 b)])))):Ct prog 366 {} [cu3 l i j,U64 most] Q:=
 fN SgT SvT func366 h
def less_nf(h:Q [B (ilt i 128)]):Ct prog 202 {} [U8 i] Q:=
 fN SgT SvT func202 h
def indexB_nf{rows:LL}{f:FuncId}(h:∃c:Int->Int->Prop,∃m:Int->Int->Nat,(c 0 0)/\∀x a,(c x a)->ifB (ilt a (rlen rows)) (((0<=a)/\a<(rlen rows))/\∃e,(rget rows a=[U8 e])/\Cl prog f sP ((U8 e)::C) (λg=>∃b,(g=[B b])/\ifB b (Q [I a]) (((Option.some []:Option LL)=Option.some [])/\(c x (wadd .i64 a 1))/\Nl (m x (wadd .i64 a 1)) (m x a)))) (Q [I (-1)])):Ct prog 201 {} [SL 1 rows,.clo f C] Q:=
 fN SgT SvT func201 h
def qright_nf(bs:LL)(a er:Int)(Q:QQ)(h:Q [B (bpick (bpick (ieq er 0) (ige a 0) false) (ile a (rlen bs)) false)]):Ct prog 343 {} [cu3 bs a er] Q:=
 fN SgT SvT func343 h
def bequal_nf{rows:LL}(h:(Zbt rows)/\(Zbt l)/\Q [B (seq (bstr rows) (bstr l))]):Ct prog 223 {} [SL 1 rows,SL 1 l] Q:=
 fN SgT SvT func223 h
def uint_nf(bs:LL)(a er:Int)(Q:QQ)(h:Cl prog 199 sP ([SV.agg [SL 1 bs,I a,I er]]) (λm=>∃b,(m=[B b])/\ifB (bnot b) (Cl prog 200 sP ([SV.agg [SL 1 bs,I a,I er],I 1]) (λj=>∃l x e,(j=[SV.agg [SL 1 l,I x,I e]])/\Q ([SV.agg [SL 1 l,I x,I e],U64 0]))) (((0<=a)/\(a<=(rlen bs))/\(rlen bs)<=(rlen bs))/\(((0:Int)<=0)/\(0<=(imin (rlen (rsub bs a (rlen bs))) 10))/\(imin (rlen (rsub bs a (rlen bs))) 10)<=(rlen (rsub bs a (rlen bs))))/\Cl prog 201 sP ([SV.slice 1 (rsub (rsub bs a (rlen bs)) 0 (imin (rlen (rsub bs a (rlen bs))) 10)) 0,SV.clo 202 []]) (λj=>∃x,(j=[I x])/\ifB (bpick (ilt x 0) (ilt (rlen (rsub (rsub bs a (rlen bs)) 0 (imin (rlen (rsub bs a (rlen bs))) 10))) 10) false) (Cl prog 200 sP ([SV.agg [SL 1 bs,I a,I er],I 10]) (λc=>∃l e g,(c=[SV.agg [SL 1 l,I e,I g]])/\Q ([SV.agg [SL 1 l,I e,I g],U64 0]))) (ifB (ilt x 0) (ifB (ilt x 0) (Cl prog 200 sP ([SV.agg [SL 1 bs,I a,I er],I 11]) (λc=>∃l e g,(c=[SV.agg [SL 1 l,I e,I g]])/\Q ([SV.agg [SL 1 l,I e,I g],U64 0]))) ((((0:Int)<=0)/\(0<=(wadd .i64 x 1))/\(wadd .i64 x 1)<=(rlen (rsub (rsub bs a (rlen bs)) 0 (imin (rlen (rsub bs a (rlen bs))) 10))))/\Cl prog 203 sP [SV.slice 1 (rsub (rsub (rsub bs a (rlen bs)) 0 (imin (rlen (rsub bs a (rlen bs))) 10)) 0 (wadd .i64 x 1)) 0] (λc=>∃f,∃d:List SV,(c=[SV.clo f d])/\∃l,(f=278)/\(d=[SV.ref 0 [SL 1 l]])/\(Zbt l)/\(0<(rlen l))/\((rlen l)<=100)/\Q ([SV.agg [SL 1 bs,I (wadd .i64 a (wadd .i64 x 1)),I er],U64 (ufold 0 l)])))) (ifB (ieq x 9) (((0<=x)/\x<(rlen (rsub (rsub bs a (rlen bs)) 0 (imin (rlen (rsub bs a (rlen bs))) 10))))/\∃e,(rget (rsub (rsub bs a (rlen bs)) 0 (imin (rlen (rsub bs a (rlen bs))) 10)) x=[U8 e])/\ifB (bpick true (igt e 1) false) (ifB (bpick true (igt e 1) false) (Cl prog 200 sP ([SV.agg [SL 1 bs,I a,I er],I 11]) (λc=>∃l g i,(c=[SV.agg [SL 1 l,I g,I i]])/\Q ([SV.agg [SL 1 l,I g,I i],U64 0]))) ((((0:Int)<=0)/\(0<=(wadd .i64 x 1))/\(wadd .i64 x 1)<=(rlen (rsub (rsub bs a (rlen bs)) 0 (imin (rlen (rsub bs a (rlen bs))) 10))))/\Cl prog 203 sP [SV.slice 1 (rsub (rsub (rsub bs a (rlen bs)) 0 (imin (rlen (rsub bs a (rlen bs))) 10)) 0 (wadd .i64 x 1)) 0] (λc=>∃f,∃d:List SV,(c=[SV.clo f d])/\∃l,(f=278)/\(d=[SV.ref 0 [SL 1 l]])/\(Zbt l)/\(0<(rlen l))/\((rlen l)<=100)/\Q ([SV.agg [SL 1 bs,I (wadd .i64 a (wadd .i64 x 1)),I er],U64 (ufold 0 l)])))) (ifB (igt x 0) (((0<=x)/\x<(rlen (rsub (rsub bs a (rlen bs)) 0 (imin (rlen (rsub bs a (rlen bs))) 10))))/\∃g,(rget (rsub (rsub bs a (rlen bs)) 0 (imin (rlen (rsub bs a (rlen bs))) 10)) x=[U8 g])/\ifB (bpick true (ieq g 0) false) (Cl prog 200 sP ([SV.agg [SL 1 bs,I a,I er],I 11]) (λc=>∃l i k,(c=[SV.agg [SL 1 l,I i,I k]])/\Q ([SV.agg [SL 1 l,I i,I k],U64 0]))) ((((0:Int)<=0)/\(0<=(wadd .i64 x 1))/\(wadd .i64 x 1)<=(rlen (rsub (rsub bs a (rlen bs)) 0 (imin (rlen (rsub bs a (rlen bs))) 10))))/\Cl prog 203 sP [SV.slice 1 (rsub (rsub (rsub bs a (rlen bs)) 0 (imin (rlen (rsub bs a (rlen bs))) 10)) 0 (wadd .i64 x 1)) 0] (λc=>∃f,∃d:List SV,(c=[SV.clo f d])/\∃l,(f=278)/\(d=[SV.ref 0 [SL 1 l]])/\(Zbt l)/\(0<(rlen l))/\((rlen l)<=100)/\Q ([SV.agg [SL 1 bs,I (wadd .i64 a (wadd .i64 x 1)),I er],U64 (ufold 0 l)])))) ((((0:Int)<=0)/\(0<=(wadd .i64 x 1))/\(wadd .i64 x 1)<=(rlen (rsub (rsub bs a (rlen bs)) 0 (imin (rlen (rsub bs a (rlen bs))) 10))))/\Cl prog 203 sP [SV.slice 1 (rsub (rsub (rsub bs a (rlen bs)) 0 (imin (rlen (rsub bs a (rlen bs))) 10)) 0 (wadd .i64 x 1)) 0] (λc=>∃f,∃d:List SV,(c=[SV.clo f d])/\∃l,(f=278)/\(d=[SV.ref 0 [SL 1 l]])/\(Zbt l)/\(0<(rlen l))/\((rlen l)<=100)/\Q ([SV.agg [SL 1 bs,I (wadd .i64 a (wadd .i64 x 1)),I er],U64 (ufold 0 l)]))))) (ifB (igt x 0) (((0<=x)/\x<(rlen (rsub (rsub bs a (rlen bs)) 0 (imin (rlen (rsub bs a (rlen bs))) 10))))/\∃e,(rget (rsub (rsub bs a (rlen bs)) 0 (imin (rlen (rsub bs a (rlen bs))) 10)) x=[U8 e])/\ifB (bpick true (ieq e 0) false) (Cl prog 200 sP ([SV.agg [SL 1 bs,I a,I er],I 11]) (λc=>∃l g i,(c=[SV.agg [SL 1 l,I g,I i]])/\Q ([SV.agg [SL 1 l,I g,I i],U64 0]))) ((((0:Int)<=0)/\(0<=(wadd .i64 x 1))/\(wadd .i64 x 1)<=(rlen (rsub (rsub bs a (rlen bs)) 0 (imin (rlen (rsub bs a (rlen bs))) 10))))/\Cl prog 203 sP [SV.slice 1 (rsub (rsub (rsub bs a (rlen bs)) 0 (imin (rlen (rsub bs a (rlen bs))) 10)) 0 (wadd .i64 x 1)) 0] (λc=>∃f,∃d:List SV,(c=[SV.clo f d])/\∃l,(f=278)/\(d=[SV.ref 0 [SL 1 l]])/\(Zbt l)/\(0<(rlen l))/\((rlen l)<=100)/\Q ([SV.agg [SL 1 bs,I (wadd .i64 a (wadd .i64 x 1)),I er],U64 (ufold 0 l)])))) ((((0:Int)<=0)/\(0<=(wadd .i64 x 1))/\(wadd .i64 x 1)<=(rlen (rsub (rsub bs a (rlen bs)) 0 (imin (rlen (rsub bs a (rlen bs))) 10))))/\Cl prog 203 sP [SV.slice 1 (rsub (rsub (rsub bs a (rlen bs)) 0 (imin (rlen (rsub bs a (rlen bs))) 10)) 0 (wadd .i64 x 1)) 0] (λc=>∃f,∃d:List SV,(c=[SV.clo f d])/\∃l,(f=278)/\(d=[SV.ref 0 [SL 1 l]])/\(Zbt l)/\(0<(rlen l))/\((rlen l)<=100)/\Q ([SV.agg [SL 1 bs,I (wadd .i64 a (wadd .i64 x 1)),I er],U64 (ufold 0 l)])))))))))):Ct prog 128 {} [cu3 bs a er] Q:=
 uint_of SgT SvT (λ_=>none) Vk h
def backw_nf{rows:LL}(h:Q ([SV.clo 278 ([SV.ref 0 [SL 1 rows]])])):Ct prog 203 {} [SL 1 rows] Q:=
 fN SgT SvT func203 h
def encode_nf{x y z:Int}(h:Cl prog 193 sP ([SV.agg [I i,I j,SL 1 r]]) (λR=>∃a,(R=[B a])/\ifB (bnot a) (Q ([SL 1 [],SV.agg [I i,I j,SL 1 r],I 1])) (Cl prog 176 sP ([SV.agg [I b,I c,I k,S s,I x,I y,I z]]) (λP=>∃O,(P=[I O])/\ifB (ine O 0) (Q ([SL 1 [],SV.agg [I i,I j,SL 1 r],I O])) (ifB (ile b i) (Q ([SL 1 [],SV.agg [I i,I j,SL 1 r],I 1])) (ifB (ilt c j) (Q ([SL 1 [],SV.agg [I i,I j,SL 1 r],I 5])) ((Cl prog 267 sP [SL 1 r] (λM=>∃l,(M=[SL 1 l])/\Cl prog 268 sP [SL 1 r,S s] (λN=>∃w,(N=[I w])/\ifB (ieq w 0) (Cl prog 269 sP [SL 1 r,S s] (λC=>∃v g,(C=[SL 1 v,I g])/\ifB (ine g 0) (Q ([SL 1 [],SV.agg [I i,I j,SL 1 r],I g])) (Cl prog 70 sO ([SL 1 [],U64 (wcv .u64 k)]) (λD=>∃G,(D=[SL 1 G])/\Cl prog 70 sO [SL 1 G,U64 (wcv .u64 (wsub .i64 b i))] (λE=>∃H,(E=[SL 1 H])/\Cl prog 70 sO [SL 1 H,U64 (wcv .u64 (wsub .i64 c j))] (λF=>∃A,(F=[SL 1 A])/\Cl prog 70 sO [SL 1 A,U64 (wcv .u64 w)] (λrs8=>∃q,(rs8=[SL 1 q])/\ifB (ieq w 0) (Cl prog 224 sO [SL 1 q,S s] (λo=>∃u,(o=[SL 1 u])/\Cl prog 270 sP ([SV.agg [I b,I c,I k,S s,I x,I y,I z]]) (λp=>∃t,(p=[SL 1 t])/\∃d:LL->Int->Prop,∃m:LL->Int->Nat,(d u 0)/\∀n e,(d n e)->ifB (ilt e (rlen t)) (((0<=e)/\e<(rlen t))/\∃J,(rget t e=[I J])/\Cl prog 70 sO [SL 1 n,U64 (wcv .u64 J)] (λK=>∃L,(K=[SL 1 L])/\(Sm (some ([[I i,I j,SL 1 r],[I b,I c,I k,S s,I x,I y,I z],[I 0,I 0,SV.slice 1 [] 1],[I b,I c,SL 1 v]])))/\(d L (wadd .i64 e 1))/\Nl (m L (wadd .i64 e 1)) (m n e))) (Q ([SL 1 n,SV.agg [I b,I c,SL 1 v],I 0]))))) (Cl prog 270 sP ([SV.agg [I b,I c,I k,S s,I x,I y,I z]]) (λo=>∃u,(o=[SL 1 u])/\∃d:LL->Int->Prop,∃m:LL->Int->Nat,(d q 0)/\∀t e,(d t e)->ifB (ilt e (rlen u)) (((0<=e)/\e<(rlen u))/\∃J,(rget u e=[I J])/\Cl prog 70 sO [SL 1 t,U64 (wcv .u64 J)] (λp=>∃n,(p=[SL 1 n])/\(Sm (some ([[I i,I j,SL 1 r],[I b,I c,I k,S s,I x,I y,I z],[I 0,I 0,SV.slice 1 [] 1],[I b,I c,SL 1 v]])))/\(d n (wadd .i64 e 1))/\Nl (m n (wadd .i64 e 1)) (m t e))) (Q ([SL 1 t,SV.agg [I b,I c,SL 1 v],I 0]))))))))))) (Cl prog 70 sO ([SL 1 [],U64 (wcv .u64 k)]) (λC=>∃v,(C=[SL 1 v])/\Cl prog 70 sO [SL 1 v,U64 (wcv .u64 (wsub .i64 b i))] (λD=>∃G,(D=[SL 1 G])/\Cl prog 70 sO [SL 1 G,U64 (wcv .u64 (wsub .i64 c j))] (λE=>∃H,(E=[SL 1 H])/\Cl prog 70 sO [SL 1 H,U64 (wcv .u64 w)] (λF=>∃A,(F=[SL 1 A])/\ifB (ieq w 0) (Cl prog 224 sO [SL 1 A,S s] (λrs8=>∃q,(rs8=[SL 1 q])/\Cl prog 270 sP ([SV.agg [I b,I c,I k,S s,I x,I y,I z]]) (λo=>∃u,(o=[SL 1 u])/\∃d:LL->Int->Prop,∃m:LL->Int->Nat,(d q 0)/\∀t g,(d t g)->ifB (ilt g (rlen u)) (((0<=g)/\g<(rlen u))/\∃e,(rget u g=[I e])/\Cl prog 70 sO [SL 1 t,U64 (wcv .u64 e)] (λp=>∃n,(p=[SL 1 n])/\(Sm (some ([[I i,I j,SL 1 r],[I b,I c,I k,S s,I x,I y,I z],[I 0,I 0,SV.slice 1 [] 1],[I b,I c,SL 1 l]])))/\(d n (wadd .i64 g 1))/\Nl (m n (wadd .i64 g 1)) (m t g))) (Q ([SL 1 t,SV.agg [I b,I c,SL 1 l],I 0]))))) (Cl prog 270 sP ([SV.agg [I b,I c,I k,S s,I x,I y,I z]]) (λrs8=>∃q,(rs8=[SL 1 q])/\∃d:LL->Int->Prop,∃m:LL->Int->Nat,(d A 0)/\∀u g,(d u g)->ifB (ilt g (rlen q)) (((0<=g)/\g<(rlen q))/\∃e,(rget q g=[I e])/\Cl prog 70 sO [SL 1 u,U64 (wcv .u64 e)] (λo=>∃t,(o=[SL 1 t])/\(Sm (some ([[I i,I j,SL 1 r],[I b,I c,I k,S s,I x,I y,I z],[I 0,I 0,SV.slice 1 [] 1],[I b,I c,SL 1 l]])))/\(d t (wadd .i64 g 1))/\Nl (m t (wadd .i64 g 1)) (m u g))) (Q ([SL 1 u,SV.agg [I b,I c,SL 1 l],I 0]))))))))))))/\Cl prog 267 sP [SL 1 r] (λM=>∃l,(M=[SL 1 l])/\Cl prog 268 sP [SL 1 r,S s] (λN=>∃w,(N=[I w])/\ifB (ieq w 0) (Cl prog 269 sP [SL 1 r,S s] (λC=>∃v g,(C=[SL 1 v,I g])/\ifB (ine g 0) (Q ([SL 1 [],SV.agg [I i,I j,SL 1 r],I g])) (Cl prog 70 sO ([SL 1 [],U64 (wcv .u64 k)]) (λD=>∃G,(D=[SL 1 G])/\Cl prog 70 sO [SL 1 G,U64 (wcv .u64 (wsub .i64 b i))] (λE=>∃H,(E=[SL 1 H])/\Cl prog 70 sO [SL 1 H,U64 (wcv .u64 (wsub .i64 c j))] (λF=>∃A,(F=[SL 1 A])/\Cl prog 70 sO [SL 1 A,U64 (wcv .u64 w)] (λrs8=>∃q,(rs8=[SL 1 q])/\ifB (ieq w 0) (Cl prog 224 sO [SL 1 q,S s] (λo=>∃u,(o=[SL 1 u])/\Cl prog 270 sP ([SV.agg [I b,I c,I k,S s,I x,I y,I z]]) (λp=>∃t,(p=[SL 1 t])/\∃d:LL->Int->Prop,∃m:LL->Int->Nat,(d u 0)/\∀n e,(d n e)->ifB (ilt e (rlen t)) (((0<=e)/\e<(rlen t))/\∃J,(rget t e=[I J])/\Cl prog 70 sO [SL 1 n,U64 (wcv .u64 J)] (λK=>∃L,(K=[SL 1 L])/\(Sm (some ([[I i,I j,SL 1 r],[I b,I c,I k,S s,I x,I y,I z],[I 0,I 0,SV.slice 1 [] 1],[I b,I c,SL 1 v]])))/\(d L (wadd .i64 e 1))/\Nl (m L (wadd .i64 e 1)) (m n e))) (Q ([SL 1 n,SV.agg [I b,I c,SL 1 v],I 0]))))) (Cl prog 270 sP ([SV.agg [I b,I c,I k,S s,I x,I y,I z]]) (λo=>∃u,(o=[SL 1 u])/\∃d:LL->Int->Prop,∃m:LL->Int->Nat,(d q 0)/\∀t e,(d t e)->ifB (ilt e (rlen u)) (((0<=e)/\e<(rlen u))/\∃J,(rget u e=[I J])/\Cl prog 70 sO [SL 1 t,U64 (wcv .u64 J)] (λp=>∃n,(p=[SL 1 n])/\(Sm (some ([[I i,I j,SL 1 r],[I b,I c,I k,S s,I x,I y,I z],[I 0,I 0,SV.slice 1 [] 1],[I b,I c,SL 1 v]])))/\(d n (wadd .i64 e 1))/\Nl (m n (wadd .i64 e 1)) (m t e))) (Q ([SL 1 t,SV.agg [I b,I c,SL 1 v],I 0]))))))))))) (Cl prog 70 sO ([SL 1 [],U64 (wcv .u64 k)]) (λC=>∃v,(C=[SL 1 v])/\Cl prog 70 sO [SL 1 v,U64 (wcv .u64 (wsub .i64 b i))] (λD=>∃G,(D=[SL 1 G])/\Cl prog 70 sO [SL 1 G,U64 (wcv .u64 (wsub .i64 c j))] (λE=>∃H,(E=[SL 1 H])/\Cl prog 70 sO [SL 1 H,U64 (wcv .u64 w)] (λF=>∃A,(F=[SL 1 A])/\ifB (ieq w 0) (Cl prog 224 sO [SL 1 A,S s] (λrs8=>∃q,(rs8=[SL 1 q])/\Cl prog 270 sP ([SV.agg [I b,I c,I k,S s,I x,I y,I z]]) (λo=>∃u,(o=[SL 1 u])/\∃d:LL->Int->Prop,∃m:LL->Int->Nat,(d q 0)/\∀t g,(d t g)->ifB (ilt g (rlen u)) (((0<=g)/\g<(rlen u))/\∃e,(rget u g=[I e])/\Cl prog 70 sO [SL 1 t,U64 (wcv .u64 e)] (λp=>∃n,(p=[SL 1 n])/\(Sm (some ([[I i,I j,SL 1 r],[I b,I c,I k,S s,I x,I y,I z],[I 0,I 0,SV.slice 1 [] 1],[I b,I c,SL 1 l]])))/\(d n (wadd .i64 g 1))/\Nl (m n (wadd .i64 g 1)) (m t g))) (Q ([SL 1 t,SV.agg [I b,I c,SL 1 l],I 0]))))) (Cl prog 270 sP ([SV.agg [I b,I c,I k,S s,I x,I y,I z]]) (λrs8=>∃q,(rs8=[SL 1 q])/\∃d:LL->Int->Prop,∃m:LL->Int->Nat,(d A 0)/\∀u g,(d u g)->ifB (ilt g (rlen q)) (((0<=g)/\g<(rlen q))/\∃e,(rget q g=[I e])/\Cl prog 70 sO [SL 1 u,U64 (wcv .u64 e)] (λo=>∃t,(o=[SL 1 t])/\(Sm (some ([[I i,I j,SL 1 r],[I b,I c,I k,S s,I x,I y,I z],[I 0,I 0,SV.slice 1 [] 1],[I b,I c,SL 1 l]])))/\(d t (wadd .i64 g 1))/\Nl (m t (wadd .i64 g 1)) (m u g))) (Q ([SL 1 u,SV.agg [I b,I c,SL 1 l],I 0])))))))))))))))))):Ct prog 191 {} [cx3 i j r,ev7 b c k s x y z] Q:=
 fO SgT SvT (λk=>bif Nat.beq k 100 then some {slots:=[(12,false,[.own 1]),(99,false,[.int .i64])],fixed:=[256,384,640,1024]}else none) func191 h
def read_nf(h:Cl prog 129 sP [SL 1 r] (λrs=>∃H x U,(rs=[SV.agg [SL 1 H,I x,I U]])/\Cl prog 366 sP ([SV.agg [SL 1 H,I x,I U],U64 10]) (λO=>∃V W,∃X z,(O=[SV.agg [SL 1 V,I W,I X],I z])/\Cl prog 366 sP ([SV.agg [SL 1 V,I W,I X],U64 4294967296]) (λP=>∃Y Z,∃x6 E,(P=[SV.agg [SL 1 Y,I Z,I x6],I E])/\Cl prog 366 sP ([SV.agg [SL 1 Y,I Z,I x6],U64 1099511627776]) (λR=>∃l3 x8,∃x9 u,(R=[SV.agg [SL 1 l3,I x8,I x9],I u])/\Cl prog 366 sP ([SV.agg [SL 1 l3,I x8,I x9],U64 32]) (λT=>∃L F,∃G K,(T=[SV.agg [SL 1 L,I F,I G],I K])/\ifB (ieq K 0) (Cl prog 367 sP ([SV.agg [SL 1 L,I F,I G],I 24]) (λJ=>∃o C,∃q s,(J=[SV.agg [SL 1 o,I C,I q],S s])/\Cl prog 255 sP [I z] (λA=>∃d,(A=[I d])/\∃n:LL->Int->LL->Int->Int->Prop,∃m:LL->Int->LL->Int->Int->Nat,(n [] 0 o C q)/\∀p e,∀v g c,(n p e v g c)->ifB (ilt e d) (Cl prog 366 sP ([SV.agg [SL 1 v,I g,I c],U64 2147483647]) (λy=>∃N b,∃a w,(y=[SV.agg [SL 1 N,I b,I a],I w])/\((lsum (rlen p) (rlen ([[I w]])))<=2147483648)/\(Sm (some ([[I i,I j,SL 1 l],zE,[I (wadd .i64 i E),I (wadd .i64 j u),I z,S s,I 0,I 0,I 0]])))/\(n (rapp p ([[I w]])) (wadd .i64 e 1) N b a)/\Nl (m (rapp p ([[I w]])) (wadd .i64 e 1) N b a) (m p e v g c))) (Cl prog 369 sP ([SV.agg [I (wadd .i64 i E),I (wadd .i64 j u),I z,S s,I 0,I 0,I 0],SL 1 p]) (λy=>∃b a,∃w D,∃bs t M,(y=[SV.agg [I b,I a,I w,S D,I bs,I t,I M]])/\Q ([SV.agg [I b,I a,I w,S D,I bs,I t,I M],B (ieq c 0)])))))) (Cl prog 368 sP [SL 1 l,I K] (λJ=>∃s C,(J=[S s,I C])/\ifB (ieq C 0) (Cl prog 255 sP [I z] (λA=>∃q,(A=[I q])/\∃n:LL->Int->LL->Int->Int->Prop,∃m:LL->Int->LL->Int->Int->Nat,(n [] 0 L F G)/\∀o d,∀p e g,(n o d p e g)->ifB (ilt d q) (Cl prog 366 sP ([SV.agg [SL 1 p,I e,I g],U64 2147483647]) (λy=>∃v c,∃b a,(y=[SV.agg [SL 1 v,I c,I b],I a])/\((lsum (rlen o) (rlen ([[I a]])))<=2147483648)/\(Sm (some ([[I i,I j,SL 1 l],zE,[I (wadd .i64 i E),I (wadd .i64 j u),I z,S s,I 0,I 0,I 0]])))/\(n (rapp o ([[I a]])) (wadd .i64 d 1) v c b)/\Nl (m (rapp o ([[I a]])) (wadd .i64 d 1) v c b) (m o d p e g))) (Cl prog 369 sP ([SV.agg [I (wadd .i64 i E),I (wadd .i64 j u),I z,S s,I 0,I 0,I 0],SL 1 o]) (λy=>∃c b,∃a D,∃w bs t,(y=[SV.agg [I c,I b,I a,S D,I w,I bs,I t]])/\Q ([SV.agg [I c,I b,I a,S D,I w,I bs,I t],B (ieq g 0)]))))) (Cl prog 255 sP [I z] (λA=>∃q,(A=[I q])/\∃n:LL->Int->LL->Int->Int->Prop,∃m:LL->Int->LL->Int->Int->Nat,(n [] 0 L F G)/\∀o d,∀p e g,(n o d p e g)->ifB (ilt d q) (Cl prog 366 sP ([SV.agg [SL 1 p,I e,I g],U64 2147483647]) (λy=>∃v c,∃b a,(y=[SV.agg [SL 1 v,I c,I b],I a])/\((lsum (rlen o) (rlen ([[I a]])))<=2147483648)/\(Sm (some ([[I i,I j,SL 1 l],zE,[I (wadd .i64 i E),I (wadd .i64 j u),I z,S (bA []),I 0,I 0,I 0]])))/\(n (rapp o ([[I a]])) (wadd .i64 d 1) v c b)/\Nl (m (rapp o ([[I a]])) (wadd .i64 d 1) v c b) (m o d p e g))) (Cl prog 369 sP ([SV.agg ([I (wadd .i64 i E),I (wadd .i64 j u),I z,S (bA []),I 0,I 0,I 0]),SL 1 o]) (λy=>∃c b,∃a D,∃w bs t,(y=[SV.agg [I c,I b,I a,S D,I w,I bs,I t]])/\Q ([SV.agg [I c,I b,I a,S D,I w,I bs,I t],B (ieq g 0)]))))))))))))):Ct prog 339 {} [cx3 i j l,SL 1 r] Q:=
 fO SgT SvT (λk=>bif Nat.beq k 70 then some {slots:=[(14,false,[.own 1]),(69,false,[.int .i64])],boxes:=[(768,[.sl 1,.int .i64,.int .i64])],fixed:=[256,512,1408]}else none) func339 h
def decode_nf(h:Cl prog 193 sP ([SV.agg [I i,I c,SL 1 l]]) (λw=>∃b,(w=[B b])/\ifB (bnot b) (Q ([SV.agg (zE),SV.agg [I i,I c,SL 1 l],I 1])) (Cl prog 339 sP ([SV.agg [I i,I c,SL 1 l],SL 1 r]) (λm=>∃x e,∃g s,∃a j,∃k p,(m=[SV.agg [I x,I e,I g,S s,I a,I j,I k],B p])/\ifB (bnot p) (Q ([SV.agg (zE),SV.agg [I i,I c,SL 1 l],I 11])) (Cl prog 191 sP ([SV.agg [I i,I c,SL 1 l],SV.agg [I x,I e,I g,S s,I a,I j,I k]]) (λn=>∃d q,∃bs t u,(n=[SL 1 d,SV.agg [I q,I bs,SL 1 t],I u])/\ifB (ine u 0) (Q ([SV.agg (zE),SV.agg [I i,I c,SL 1 l],I 11])) (Cl prog 223 sP [SL 1 d,SL 1 r] (λo=>∃v,(o=[B v])/\ifB (bpick false true (bnot v)) (Q ([SV.agg (zE),SV.agg [I i,I c,SL 1 l],I 11])) (Q ([SV.agg [I x,I e,I g,S s,I a,I j,I k],SV.agg [I q,I bs,SL 1 t],I 0])))))))))):Ct prog 290 {} [cx3 i c l,SL 1 r] Q:=
 fN SgT SvT func290 h
def Byts(l:List Int):Prop:=∀x∈l,0<=x/\x<=255
def Zeh(h:Byts x):Zbt (bR x):=by
 intro r a;obtain⟨n,b,rfl⟩:=Ya.1 a;have:=h n b;exact⟨n,rfl,this.1,Vo⟩
def Byts.sub{l m:List Int}(h:Byts l)(a:∀x∈m,x∈l):Byts m:=λx hx=>h x (a x hx)
def Byts.app(h:Byts x)(k:Byts X):Byts (x++X):=λl hx=>(List.mem_append.1 hx).elim (h l) (k l)
def Zat(n:Nat):Byts (leb n):=Zwl n
def Zzh(t:BA):Byts (txB t):=λx hx=>txB_byte x hx
def byAt(l:List Int)(i:Int):Int:=l.getD i.toNat 0
def Zfi(a:0<=i:=by omega)(b:i<x.length:=by omega):rget (bR x) i=[U8 (byAt x i)]:=by
 have:i.toNat<x.length:=Vo;simp[rget,byAt,this]
def Zdf(l:List Int)(a b:Int):rsub (bR l) a b=bR ((l.take b.toNat).drop a.toNat):=by
 simp[rsub,bR,List.map_take,List.map_drop]
def rgtC(l:List Int)(a er:Int):Bool:=decide (0<=a/\a<=l.length/\er=0)
def right_fn(l:List Int)(a er:Int):Ct prog 199 {} [cu3 (bR l) a er] (λr=>r=[B (rgtC l a er)]):=by
 refine right_nf ?_;have:bpick (bpick (ige a 0) (ile a (rlen (bR l))) false) (ieq er 0) false=rgtC l a er:=(by rw[Bool.eq_iff_iff];simp[rgtC,and_assoc]);rw[this]
def qright_fn(l:List Int)(a er:Int):Ct prog 343 {} [cu3 (bR l) a er] (λr=>r=[B (rgtC l a er)]):=by
 refine qright_nf _ _ _ _ ?_;have:bpick (bpick (ieq er 0) (ige a 0) false) (ile a (rlen (bR l))) false=rgtC l a er:=(by rw[Bool.eq_iff_iff];simp[rgtC];omega);rw[this]
def styE(er e:Int):Int:=if er=0 then e else er
def Zgv(l:List Int)(a er e:Int):Ct prog 200 {} [cu3 (bR l) a er,I e] (λr=>r=[cu3 (bR l) a (styE er e)]):=by
 refine stay_nf (Zaa (λh=>?_) (λh=>?_))
 .simp at h;simp[styE,h]
 .simp at h;simp[styE,h]
def Zkb(l:List Int)(a er:Int)(d:l.length<=100000):Ct prog 289 {} [cu3 (bR l) a er] (λr=>r=[I (if rgtC l a er=true then l.length-a else 0)]):=by
 refine left_nf (Cl.of (right_fn l a er) ⟨_,rfl,Zaa (λh=>?_) (λh=>?_)⟩)
 .simp at h;simp[h]
 .simp at h;have b:rgtC l a er=true:=(by simpa using h);have c:=b;simp[rgtC]at c;have:wsub IntKind.i64 (rlen (bR l)) a=l.length-a:=by rw[Zsr];exact Zap
  simp only[b,this,if_true]
def Zju(l:List Int):Ct prog 129 {} [SL 1 (bR l)] (λr=>r=[cu3 (bR l) 0 0]):=by
 refine start_nf ⟨Vs,?_⟩;rw[Zdf];simp
structure TOut(l:List Int)(a er n a' er':Int)(bs:List Int):Prop where
 mem:∀x∈bs,x∈l
 good:er=0->0<=a->0<=n->a+n<=l.length->a'=a+n/\er'=0/\bs=(l.drop a.toNat).take n.toNat
def TOut.bad{l:List Int}{a er n a' er':Int}(h:er=0->0<=a->0<=n->¬a+n<=l.length):TOut l a er n a' er' []:=⟨Vs,λb c d e=>absurd e (h b c d)⟩
def take_sub(l:List Int)(a n:Int)(b:0<=a)(c:0<=n)(d:a+n<=l.length):(l.take (a+n).toNat).drop a.toNat=(l.drop a.toNat).take n.toNat:=by
 rw[List.drop_take];congr 1;omega
def Zzi(l:List Int)(a er n:Int)(s:l.length<=100000)(v:n<=1000000)(u: -1000000<=n):Ct prog 379 {} [cu3 (bR l) a er,I n] (λr=>∃g c bs,r=[cu3 (bR l) g c,SL 1 (bR bs)]/\TOut l a er n g c bs):=by
 refine take_nf (Cl.of (right_fn l a er) ⟨_,rfl,?_⟩);have j:rgtC l a er=true↔0<=a/\a<=l.length/\er=0:=by simp[rgtC]
 have b:∀e:Int,(er=0->0<=a->0<=n->¬a+n<=l.length)->Cl prog 200 sP ([SV.agg [SL 1 (bR l),I a,I er],I e]) (λ(k:List SV)=>∃i:LL,∃x:Int,∃q:Int,(k=[SV.agg [SL 1 i,I x,I q]])/\(∃g c bs,([SV.agg [SL 1 i,I x,I q],SL 1 []]:List SV)=[cu3 (bR l) g c,SL 1 (bR bs)]/\TOut l a er n g c bs)):=λe t=>
  Cl.of (Zgv l a er e) ⟨_,_,_,rfl,_,_,[],rfl,TOut.bad t⟩
 refine Zaa (λh=>Zaa (λh=>?_) (λm=>?_)) (λh=>Zaa (λd=>?_) (λd=>?_))
 .simp at h;exact b 1 (λe d f o=>by rw[YK,ne_eq,j]at h;omega)
 .rw[h]at m;cases m
 .simp at d;exact b 1 (λe f o=>Vo)
 .simp at h d;have h:=j.1 h;refine Cl.of (Zkb l a er s) ⟨_,rfl,?_⟩;rw[if_pos (j.2 h)];refine Zaa (λf=>?_) (λf=>?_)
  .simp at f;exact b 10 (λe o p=>Vo)
  .simp at f;have w:wadd IntKind.i64 a n=a+n:=Zac;rw[w];refine⟨⟨Vo,Vo,rfl,Vm⟩,a+n,er,_,by rw[Zdf],⟨λx hx=>List.mem_of_mem_take (List.mem_of_mem_drop hx),λ_ _ _ p=>⟨rfl,h.2.2,take_sub l a n h.1 d p⟩⟩⟩
structure UOut(l:List Int)(a er a' er' n:Int):Prop where
 n0:0<=n
 n1:n<=18446744073709551615
 good:er=0->0<=a->∀(m:Nat) rest,l.drop a.toNat=leb m++rest->m<18446744073709551616->a'=a+(leb m).length/\er'=0/\n=m
def UOut.bad{l:List Int}{a er a' er':Int}(h:er=0->0<=a->∀(m:Nat) b,l.drop a.toNat=leb m++b->m<18446744073709551616->False):UOut l a er a' er' 0:=
 ⟨Vo,Vo,λc d m b e f=>(h c d m b e f).elim⟩
def Zrk(h:x.drop i.toNat=leb m++X):i.toNat+(leb m).length<=x.length:=by
 have:=congrArg List.length h;have:=Zf0 m;simp at*;omega
def Znv(x:Int):0<=IntKind.u64.wrap x/\IntKind.u64.wrap x<=18446744073709551615:=by
 simp only[IntKind.wrap,IntKind.signed,IntKind.bits];simp;omega
def less_fn(n:Int):Ct prog 202 {} [U8 n] (λr=>r=[B (decide (n<128))]):=less_nf rfl
def indexB_fn(l:List Int)(c:l.length<=100000):Ct prog 201 {} [SL 1 (bR l),.clo 202 []] (λr=>∃x:Int,r=[I x]/\((x= -1/\∀y∈l,128<=y)\/(0<=x/\x<l.length/\byAt l x<128/\∀j:Nat,j<x.toNat->128<=l.getD j 0))):=by
 refine indexB_nf ⟨λ_ x=>0<=x/\x<=l.length/\∀j:Nat,j<x.toNat->128<=l.getD j 0,λ_ x=>(l.length-x).toNat,⟨Vo,Vo,Vs⟩,?_⟩;rintro _ x ⟨h0,h1,hp⟩;refine Zaa (λh=>?_) (λh=>?_)
 .simp at h;have w:wadd IntKind.i64 x 1=x+1:=Zac;refine⟨⟨h0,by simpa using h⟩,_,Zfi h0 h,Cl.of (less_fn _) ⟨_,rfl,Zaa (λa=>?_) (λa=>⟨rfl,?_,?_⟩)⟩⟩
  .grind
  .grind [byAt]
  grind
 .simp at h;refine⟨-1,rfl,.inl ⟨rfl,λy b=>?_⟩⟩;obtain⟨i,d,rfl⟩:=YM b;have:=hp i Vo
  grind
def backw_fn(rows:LL):Ct prog 203 {} [SL 1 rows] (λr=>r=[.clo 278 [.ref 0 [SL 1 rows]]]):=backw_nf rfl
def Zrr(l:List Int)(z:Int):ofB (l++[z])=ofB l+128^l.length*(z%128).toNat:=by
 induction l with
 |nil=>simp[ofB]
 |cons x l a=>
  grind [ofB,List.length_cons,Nat.pow_succ,Nat.add_mul,Nat.mul_assoc]
theorem ustep_eq(d:0<=i)(e:i*128+127<=18446744073709551615)(hx:0<=j):ustep i j=i*128+j%128:=by
 have e1:wshl .u64 i 7=i*128:=by
  unfold wshl;have:(2:Int)^(min (7:Int).toNat IntKind.u64.bits)=128:=Vd
  grind [Zs2]
 have e2:wrem j 128=j%128:=(by grind [wrem]);unfold ustep;rw[e1,e2,Zcf]
 obtain⟨m,rfl⟩:∃m:Nat,i=m:=⟨i.toNat,Vo⟩
 obtain⟨y,hy⟩:∃y:Nat,j%128=y:=⟨(j%128).toNat,Vo⟩
 have a:y<128:=Vo;rw[hy];unfold wor;have b:(BitVec.ofInt IntKind.u64.bits ((m:Int)*128)).toNat=m*128:=(by have:((m:Int)*128)=((m*128:Nat):Int):=Vo;rw[this,BitVec.ofInt_natCast,BitVec.toNat_ofNat];exact Nat.mod_eq_of_lt (by show m*128<18446744073709551616;omega));have c:(BitVec.ofInt IntKind.u64.bits (y:Int)).toNat=y:=(by rw[BitVec.ofInt_natCast,BitVec.toNat_ofNat];exact Nat.mod_eq_of_lt (by show y<18446744073709551616;omega));rw[BitVec.toNat_or,b,c]
 have:m*128|||y=m*128+y:=by
  have:=Wt (show y<2^7 from a) m
  grind [Nat.shiftLeft_eq]
 grind [Zs2]
theorem Zmr(x:Int)(l:List Int):ufold 0 (bR (x::l))=ustep (ufold 0 (bR l)) x:=by
 simp[ufold,bR,ustep]
def Zkj:∀(l:List Int),Byts l->ofB l<18446744073709551616->ufold 0 (bR l)=ofB l
 | [],_,_=>rfl
 |x::l,hb,h=>by
  have hx:=hb x Vs;simp only[ofB]at h;have b:=Zkj l (λy a=>hb y (by simp[a])) Vo
  grind [Zmr,ofB,ustep_eq]
def Zkk(l:List Int):0<=ufold 0 (bR l)/\ufold 0 (bR l)<=18446744073709551615:=by
 cases l with
 |nil=>exact⟨Vd,Vd⟩
 |cons x l=>rw[Zmr];exact Znv _
def nx10(l:List Int)(a:Int):List Int:=(l.drop a.toNat).take 10
def nx_eq(l:List Int)(a:Int)(b:0<=a)(c:a<=l.length):rsub (rsub (bR l) a (rlen (bR l))) 0 (imin (rlen (rsub (bR l) a (rlen (bR l)))) 10)=bR (nx10 l a):=by
 have e1:rsub (bR l) a (rlen (bR l))=bR (l.drop a.toNat):=(by rw[Zdf,Zsr];simp);rw[e1,Zdf,Zsr];simp only[imin_eq,List.length_drop,Int.toNat_zero,List.drop_zero];unfold nx10;congr 1;by_cases h:((l.length-a.toNat:Nat):Int)<=10
 .rw[Int.min_eq_left h,List.take_of_length_le Vs,List.take_of_length_le Vm]
 grind
def ofB_lt:∀l:List Int,ofB l<128^l.length
 | []=>by simp[ofB]
 |x::l=>by
  have h:=ofB_lt l
  grind [ofB,List.length_cons,Nat.pow_succ]
def leb_ofB:∀(l:List Int) (z:Int),(∀y∈l,128<=y/\y<=255)->0<=z->z<128->(l≠[]->z≠0)->leb (ofB (l++[z]))=l++[z]
 | [],z,_,h0,h1,_=>by
  grind [ofB,Zfh]
 |y::l,z,hy,h0,h1,hz=>by
  have c:=hy y Vs;have d:=leb_ofB l z (λx hx=>hy x (by simp[hx])) h0 h1 (λ_=>hz Vs);have e:1<=ofB (l++[z]):=(by rw[Zrr];have a:0<128^l.length:=Nat.pow_pos Vo;have b:1<=(z%128).toNat:=Vg;have:1*1<=128^l.length*(z%128).toNat:=Nat.mul_le_mul a b;omega);simp only[Y2,ofB];rw[Zfz Vo]
  grind
def USnd(l:List Int)(a er d c n:Int):Prop:=c=0->er=0/\0<=a/\∃b,l.drop a.toNat=leb n.toNat++b/\d=a+(leb n.toNat).length
def Zn0(h:e≠0):styE i e≠0:=by unfold styE;split<;>assumption
def Ze2(l:List Int)(a er:Int)(hl:l.length<=100000)(hb:Byts l):Ct prog 128 {} [cu3 (bR l) a er] (λr=>∃a' er' n,r=[cu3 (bR l) a' er',U64 n]/\UOut l a er a' er' n/\USnd l a er a' er' n):=by
 refine uint_nf _ _ _ _ (Cl.of (right_fn l a er) ⟨_,rfl,?_⟩);have hr:rgtC l a er=true↔0<=a/\a<=l.length/\er=0:=(by simp[rgtC]);refine Zaa (λh=>?_) (λh=>?_)
 .simp at h;refine Cl.of (Zgv l a er 1) ⟨_,_,_,rfl,_,_,_,rfl,UOut.bad (λh1 h2 m rest h3 h4=>?_),λhe=>absurd he (Zn0 Vd)⟩;rw[YK,ne_eq,hr]at h;have:=Zrk h3;omega
 .simp at h;have h:=hr.1 h;rw[nx_eq l a h.1 h.2.1];have hnl:(nx10 l a).length<=10:=(by grind [nx10,List.length_take]);have hnb:Byts (nx10 l a):=hb.sub λx hx=>List.mem_of_mem_drop (List.mem_of_mem_take hx)
  have stayed:∀e:Int,e≠0->(∀(m:Nat) rest,l.drop a.toNat=leb m++rest->m<18446744073709551616->False)->Cl prog 200 sP ([SV.agg [SL 1 (bR l),I a,I er],I e]) (λ(rs1:List SV)=>∃l_1:LL,∃x:Int,∃x1:Int,(rs1=[SV.agg [SL 1 l_1,I x,I x1]])/\(∃a' er' n,([SV.agg [SL 1 l_1,I x,I x1],U64 0]:List SV)=[cu3 (bR l) a' er',U64 n]/\UOut l a er a' er' n/\USnd l a er a' er' n)):=λe he0 he=>
   Cl.of (Zgv l a er e) ⟨_,_,_,rfl,_,_,_,rfl,UOut.bad (λ_ _=>he),λhh=>absurd hh (Zn0 he0)⟩
  have shape:∀(m:Nat) rest,l.drop a.toNat=leb m++rest->m<18446744073709551616->∃(k:Nat) (z:Int),k<(nx10 l a).length/\(leb m).length=k+1/\(nx10 l a).getD k 0=z/\z<128/\(∀j,j<k->128<=(nx10 l a).getD j 0)/\(k=9->z<=1)/\(0<k->z≠0)/\(nx10 l a).take (k+1)=leb m:=by
   intro m rest h1 h2;obtain⟨l1,z,e,z0,z1,hy,hz⟩:=leb_shape m;have hlen:(leb m).length<=10:=Zee 9 _ (Nat.lt_of_lt_of_le h2 Vd);have hl1:(leb m).length=l1.length+1:=by rw[e];simp
   have hnx:nx10 l a=leb m++rest.take (10-(leb m).length):=(by unfold nx10;rw[h1,List.take_append,List.take_of_length_le Vo]);have hget:∀j,j<l1.length->(nx10 l a).getD j 0=l1.getD j 0:=(by intro j hj;rw[hnx,e];simp[List.getElem?_append,hj]);have hof:=Zpg m;rw[e,Zrr]at hof;refine⟨l1.length,z,by rw[hnx];simp;omega,hl1,?_,z1,λj hj=>?_,λhk=>?_,λhk=>hz (by intro e;rw[e]at hk;simp at hk),?_⟩
   .rw[hnx,e];simp
   .rw[hget j hj];have:=hy (l1.getD j 0) (by simp[hj]);exact this.1
   .rw[hk]at hof;have:(z%128).toNat=z.toNat:=Vo;rw[this]at hof;have hp:(128:Nat)^9=9223372036854775808:=Vd;rw[hp]at hof;omega
   .rw[hnx,<-hl1,YV]
  refine⟨⟨h.1,Vm,Vo⟩,⟨Vo,?_,?_⟩,?_⟩
  .simp only[imin_eq,rlen_eq];omega
  .simp only[imin_eq,rlen_eq];omega
  refine Cl.ofQ (indexB_fn _ Vo) ?_;rintro r ⟨x,rfl,hx⟩;refine⟨x,rfl,?_⟩
  have last:0<=x->x<(nx10 l a).length->byAt (nx10 l a) x<128->(∀j:Nat,j<x.toNat->128<=(nx10 l a).getD j 0)->(x=9->byAt (nx10 l a) x<=1)->(0<x->byAt (nx10 l a) x≠0)->
    ((((0:Int)<=0)/\((0<=(wadd IntKind.i64 x 1))/\((wadd IntKind.i64 x 1)<=(rlen (bR (nx10 l a))))))/\(Cl prog 203 sP [SV.slice 1 (rsub (bR (nx10 l a)) 0 (wadd IntKind.i64 x 1)) 0] (λ(rs2:List SV)=>∃f:Nat,∃rs3:List SV,(rs2=[SV.clo f rs3])/\(∃l_1:LL,(f=278)/\((rs3=[SV.ref 0 [SL 1 l_1]])/\((Zbt l_1)/\((0<(rlen l_1))/\(((rlen l_1)<=100)/\(∃a' er' n,([SV.agg [SL 1 (bR l),I (wadd IntKind.i64 a (wadd IntKind.i64 x 1)),I er],U64 (ufold 0 l_1)]:List SV)=[cu3 (bR l) a' er',U64 n]/\UOut l a er a' er' n/\USnd l a er a' er' n))))))))):=by
   intro x0 x1 hlt hpre hq9 hq0;have w:wadd IntKind.i64 x 1=x+1:=Zac;have w2:wadd IntKind.i64 a (x+1)=a+(x+1):=Zac;rw[w,w2,Zdf];refine⟨⟨Vo,Vo,Vm⟩,Cl.of (backw_fn _) ⟨_,_,rfl,_,rfl,rfl,?_,?_,?_,_,_,_,rfl,?_⟩⟩
   .exact Zeh (hnb.sub λy hy=>List.mem_of_mem_take (List.mem_of_mem_drop hy))
   .simp;omega
   .simp;omega
   .refine⟨⟨(Zkk _).1,(Zkk _).2,λ_ _ m rest h1 h2=>?_⟩,λ_=>?_⟩
    .obtain⟨k,z,k1,k2,k3,k4,k5,k6,k7,k8⟩:=shape m rest h1 h2
     have hxk:x.toNat=k:=by
      rcases WH x.toNat k with hlt2|rfl|hgt
      .have:=k5 _ hlt2;simp[byAt]at hlt this;omega
      .rfl
      .have:=hpre k hgt;omega
     have e3:((nx10 l a).take (x+1).toNat).drop (0:Int).toNat=leb m:=(by rw[show(x+1).toNat=k+1 by omega];simpa using k8);rw[e3,Zkj _ (Zat m) (by rw[Zpg];exact h2),Zpg];exact⟨Vo,h.2.2,rfl⟩
    ·-- what stands there
     have hxx:(x+1).toNat=x.toNat+1:=Vo;have hlen1:x.toNat<(nx10 l a).length:=Vo;have hb0:byAt (nx10 l a) x=(nx10 l a)[x.toNat]:=(by simp[byAt,hlen1]);have e3:((nx10 l a).take (x+1).toNat).drop (0:Int).toNat=(nx10 l a).take x.toNat++[byAt (nx10 l a) x]:=(by rw[hxx,hb0,Int.toNat_zero,List.drop_zero];simp);have hpy:∀y∈(nx10 l a).take x.toNat,128<=y/\y<=255:=(by intro y hy;obtain⟨j,hj,rfl⟩:=List.mem_iff_getElem.1 hy;simp at hj;have h1:=hpre j Vo;have h2:=(hnb (nx10 l a)[j] (List.getElem_mem _)).2;simp[show j<(nx10 l a).length by omega]at h1;simp;exact⟨h1,h2⟩);have hz0:0<=byAt (nx10 l a) x:=by rw[hb0];exact(hnb _ (List.getElem_mem _)).1
     have hleb:=leb_ofB ((nx10 l a).take x.toNat) (byAt (nx10 l a) x) hpy hz0 hlt (λhne=>hq0 (by
      rcases Wq 0 x with hh|hh
      .exact hh
      .exact absurd (by rw[show x.toNat=0 by omega];rfl) hne))
     have hbound:ofB ((nx10 l a).take x.toNat++[byAt (nx10 l a) x])<18446744073709551616:=by
      rw[Zrr];have h1:=ofB_lt ((nx10 l a).take x.toNat);have hlt':((nx10 l a).take x.toNat).length=x.toNat:=Vm
      rw[hlt']at h1|-;have hz:(byAt (nx10 l a) x%128).toNat=(byAt (nx10 l a) x).toNat:=Vo;rw[hz];by_cases h9:x=9
      .have hp:(128:Nat)^9=9223372036854775808:=Vd;have:=hq9 h9;have hx9:x.toNat=9:=Vo;rw[hx9,hp]at h1|-;have:(byAt (nx10 l a) x).toNat<=1:=Vo;have:=Nat.mul_le_mul_left 9223372036854775808 this;omega
      .have hx8:x.toNat<=8:=Vo;have h2:(128:Nat)^x.toNat<=128^8:=Nat.pow_le_pow_right Vo hx8;have hp:(128:Nat)^8=72057594037927936:=Vd;rw[hp]at h2;have h3:(byAt (nx10 l a) x).toNat<=127:=Vo;have:=Nat.mul_le_mul h2 h3;omega
     have hbt:Byts ((nx10 l a).take x.toNat++[byAt (nx10 l a) x]):=(by rw[hb0];exact(hnb.sub λy hy=>List.mem_of_mem_take hy).app (λy hy=>by simp at hy;subst hy;exact hnb _ (List.getElem_mem _)));rw[e3,Zkj _ hbt hbound,Int.toNat_natCast,hleb];refine⟨h.2.2,h.1,(l.drop a.toNat).drop (x.toNat+1),?_,?_⟩
     .rw[<-e3,hxx,Int.toNat_zero,List.drop_zero];have:(nx10 l a).take (x.toNat+1)=(l.drop a.toNat).take (x.toNat+1):=(by unfold nx10;rw[List.take_take];congr 1;omega);rw[this,List.take_append_drop]
     .simp;omega
  have noform:(0<=x->x<(nx10 l a).length->byAt (nx10 l a) x<128->(∀j:Nat,j<x.toNat->128<=(nx10 l a).getD j 0)->(x=9/\1<byAt (nx10 l a) x)\/(0<x/\byAt (nx10 l a) x=0))->∀(m:Nat) rest,l.drop a.toNat=leb m++rest->m<18446744073709551616->False:=by
   intro hbad m rest h1 h2;obtain⟨k,z,k1,k2,k3,k4,k5,k6,k7,k8⟩:=shape m rest h1 h2
   rcases hx with⟨_,hall⟩|⟨x0,x1,hlt,hpre⟩
   .have:=hall ((nx10 l a).getD k 0) (by simp[k1]);omega
   .have hxk:x.toNat=k:=by
     rcases WH x.toNat k with hlt2|rfl|hgt
     .have:=k5 _ hlt2;simp[byAt]at hlt this;omega
     .rfl
     .have:=hpre k hgt;omega
    have hz:byAt (nx10 l a) x=z:=by rw[byAt,hxk];exact k3
    rcases hbad x0 x1 hlt hpre with⟨g1,g2⟩|⟨g1,g2⟩
    .have:=k6 Vo;omega
    .exact k7 Vo Vo
  refine Zaa (λh2=>?_) (λh2=>?_)
  .simp at h2;exact stayed 10 Vd (noform (λx0=>Vo))
  refine Zaa (λh3=>Zaa (λh3=>?_) (λh3'=>?_)) (λh3=>?_)
  .simp at h3;exact stayed 11 Vd (noform (λx0=>Vo))
  .rw[h3]at h3';cases h3'
  simp at h3
  obtain⟨x0,x1,hlt,hpre⟩:0<=x/\x<(nx10 l a).length/\byAt (nx10 l a) x<128/\∀j:Nat,j<x.toNat->128<=(nx10 l a).getD j 0:=by
   rcases hx with⟨h4,_⟩|h4
   .omega
   .exact h4
  have LAST:=last x0 x1 hlt hpre;refine Zaa (λh4=>?_) (λh4=>?_)
  .simp at h4;refine⟨⟨x0,by simpa using x1⟩,_,Zfi x0 x1,Zaa (λh5=>Zaa (λh5=>?_) (λh5'=>?_)) (λh5=>?_)⟩
   .simp at h5;exact stayed 11 Vd (noform (λ_ _ _ _=>.inl ⟨h4,h5⟩))
   .rw[h5]at h5';cases h5'
   .simp at h5;refine Zaa (λh6=>?_) (λh6=>LAST (λ_=>h5) (λh8=>by simp at h6;omega));simp at h6;refine⟨⟨x0,by simpa using x1⟩,_,Zfi x0 x1,Zaa (λh7=>?_) (λh7=>LAST (λ_=>h5) (λ_=>by simpa using h7))⟩;simp at h7;exact stayed 11 Vd (noform (λ_ _ _ _=>.inr ⟨h6,h7⟩))
  .simp at h4;refine Zaa (λh6=>?_) (λh6=>LAST (λh9=>absurd h9 h4) (λh8=>by simp at h6;omega));simp at h6;refine⟨⟨x0,by simpa using x1⟩,_,Zfi x0 x1,Zaa (λh7=>?_) (λh7=>LAST (λh9=>absurd h9 h4) (λ_=>by simpa using h7))⟩;simp at h7;exact stayed 11 Vd (noform (λ_ _ _ _=>.inr ⟨h6,h7⟩))
def uint_fn(l:List Int)(a er:Int)(d:l.length<=100000)(e:Byts l):Ct prog 128 {} [cu3 (bR l) a er] (λr=>∃c b n,r=[cu3 (bR l) c b,U64 n]/\UOut l a er c b n):=
 (Ze2 l a er d e).mono λr ⟨c,b,n,f,g,_⟩=>⟨c,b,n,f,g⟩
structure POut(l:List Int)(a er most a' er' n:Int):Prop where
 n0:0<=n
 n1:n<=most
 good:er=0->0<=a->∀(m:Nat) rest,l.drop a.toNat=leb m++rest->(m:Int)<=most->a'=a+(leb m).length/\er'=0/\n=m
def Zlh(l:List Int)(a er most:Int)(f:l.length<=100000)(g:Byts l)(i:0<=most:=by omega)(k:most<=4611686018427387904:=by omega):Ct prog 366 {} [cu3 (bR l) a er,U64 most] (λr=>∃e c n,r=[cu3 (bR l) e c,I n]/\POut l a er most e c n):=by
 refine upTo_nf (Cl.ofQ (uint_fn l a er f g) ?_);rintro r ⟨e,c,n,rfl,ho⟩;refine⟨_,_,_,_,rfl,Zaa (λh=>?_) (λh=>?_)⟩
 .simp at h;refine⟨_,_,_,rfl,Vo,i,λe1 e2 m b d j=>?_⟩;have:=ho.good e1 e2 m b d Vo;omega
 .simp at h;have:=ho.n0;rw[Zh1];exact⟨_,_,_,rfl,ho.n0,h,λe1 e2 m b d j=>ho.good e1 e2 m b d Vo⟩
def Zon(t:BA):bstr (bR (txB t))=t:=by
 cases t with
 |mk d=>
  simp only[bstr,bR,txB,List.map_map];congr 1;apply Array.ext'
  dsimp only
  conv=>rhs;rw[<-YQ d.toList]
  apply List.map_congr_left;intro b _;simp[Zcx]
structure XOut(l:List Int)(a er a' er':Int)(s:BA):Prop where
 good:er=0->0<=a->∀(t:BA) rest,l.drop a.toNat=leb t.size++(txB t++rest)->t.size<=24->a'=a+(leb t.size).length+t.size/\er'=0/\s=t
def Za8{l:List Int}{a:Int}{m:List Int}{b:List Int}(c:0<=a)(h:l.drop a.toNat=m++b):l.drop (a+m.length).toNat=b:=by
 rw[show(a+m.length).toNat=a.toNat+m.length by omega,<-Wb,h,Wc]
def text_fn(l:List Int)(a er:Int)(g:l.length<=100000)(q:Byts l):Ct prog 367 {} [cu3 (bR l) a er,I 24] (λr=>∃v f s,r=[cu3 (bR l) v f,S s]/\XOut l a er v f s):=by
 refine text_nf (Cl.ofQ (uint_fn l a er g q) ?_);rintro r ⟨a1,er1,n,rfl,ho⟩;have w:wcv IntKind.u64 24=24:=rfl;have E:=ho.n0;have J:=ho.n1;have c:er=0->0<=a->∀(t:BA) b,l.drop a.toNat=leb t.size++(txB t++b)->t.size<=24->a1=a+(leb t.size).length/\er1=0/\n=t.size/\l.drop a1.toNat=txB t++b/\a1+t.size<=l.length/\0<=a1:=(by intro e1 e2 t b d e;obtain⟨k,m,o⟩:=ho.good e1 e2 t.size _ d Vo;have hd:=Za8 e2 d;rw[<-k]at hd;have p:=congrArg List.length hd;simp[Zcj]at p;have:=Zrk d;exact⟨k,m,o,hd,Vo,Vo⟩);refine⟨_,_,_,_,rfl,Zaa (λh=>?_) (λh=>?_)⟩
 .simp at h;exact⟨_,_,_,rfl,⟨λe1 e2 t b d e=>absurd (c e1 e2 t b d e).2.1 h⟩⟩
 .simp at h;refine Zaa (λu=>by simp at u) (λu=>?_);rw[w];refine Zaa (λi=>?_) (λi=>?_)
  .simp at i;refine Cl.of (Zgv l a er 9) ⟨_,_,_,rfl,_,_,_,rfl,⟨λe1 e2 t b d e=>?_⟩⟩;have:=c e1 e2 t b d e;omega
  .simp at i;refine Cl.of (Zkb l a1 er1 g) ⟨_,rfl,?_⟩;have x:rgtC l a1 er1=true↔0<=a1/\a1<=l.length/\er1=0:=by simp[rgtC]
   have F:wcv IntKind.u64 (if rgtC l a1 er1=true then(l.length:Int)-a1 else 0)=(if rgtC l a1 er1=true then(l.length:Int)-a1 else 0):=by
    split
    next y=>have:=x.1 y;exact Zcf
    .rfl
   rw[F];refine Zaa (λj=>?_) (λj=>?_)
   .refine Cl.of (Zgv l a er 10) ⟨_,_,_,rfl,_,_,_,rfl,⟨λe1 e2 t b d e=>?_⟩⟩;have:=c e1 e2 t b d e;rw[if_pos (x.2 Vo)]at j;simp at j;omega
   .rw[Zh1];refine Cl.ofQ (Zzi l a1 er1 n g Vo Vo) ?_;rintro r ⟨a2,er2,bs,rfl,ht⟩;refine⟨_,_,_,_,rfl,Zeh (q.sub ht.mem),_,_,_,rfl,⟨λe1 e2 t b d e=>?_⟩⟩;obtain⟨k,m,o,z,G,A⟩:=c e1 e2 t b d e;obtain⟨H,C,D⟩:=ht.good m A E Vo;refine⟨Vo,C,?_⟩;rw[D,z,o];have:(txB t++b).take ((t.size:Nat):Int).toNat=txB t:=(by rw[Int.toNat_natCast,<-Zcj,YV]);rw[this,Zon]
def bstr_inj{l m:List Int}(a:Byts l)(c:Byts m):bstr (bR l)=bstr (bR m)↔l=m:=by
 constructor
 .intro h;have h:=congrArg (λb:BA=>b.data.toList.map λx:UInt8=>(x.toNat:Int)) h
  have e:∀l:List Int,Byts l->((bstr (bR l)).data.toList.map λx:UInt8=>(x.toNat:Int))=l:=by
   intro l a;simp only[bstr,bR,List.map_map]
   conv=>rhs;rw[<-YQ l]
   apply List.map_congr_left;intro b d;have:=a b d;simp[Zcx,UInt8.toNat_ofNat'];omega
  rw[e l a,e m c]at h;exact h
 .rintro rfl;rfl
def Zhz(l m:List Int)(a:Byts l)(b:Byts m):Ct prog 223 {} [SL 1 (bR l),SL 1 (bR m)] (λr=>r=[B (decide (l=m))]):=by
 refine bequal_nf ⟨Zeh a,Zeh b,?_⟩;rw[seq_d];simp[bstr_inj a b]
structure EvD where
 s:Int
 a:Int
 k:Int
 c:BA
 x:Int
 y:Int
 z:Int
abbrev EvD.sv(e:EvD):SV:=ev7 e.s e.a e.k e.c e.x e.y e.z
def chkE(e:EvD):Int:=chkI e.s e.a e.k e.c e.x e.y e.z
def numI(k x y z:Int):List Int:=[x,y,z].take (manyI k).toNat
def Zku(k x y z:Int):numL k x y z=(numI k x y z).map λn=>[I n]:=by
 unfold numL numI rsub
 rcases Zdb k with h|h|h|h<;>rw[h]<;>rfl
def Zj0(k x y z:Int):((numI k x y z).length:Int)=manyI k:=by
 unfold numI
 rcases Zdb k with h|h|h|h<;>rw[h]<;>rfl
def encE(cs ca:Int)(l:List BA)(e:EvD):Int:=
 if ctxB cs ca l=false then 1 else if chkE e≠0 then chkE e else if e.s<=cs then 1 else if e.a<ca then 5 else if plc l e.c=0/\(putN l e.c).2≠0 then(putN l e.c).2 else 0
def numB(e:EvD):List Int:=(numI e.k e.x e.y e.z).flatMap λn=>leb n.toNat
def encL(b d:Int)(l:List BA)(e:EvD):List Int:=
 leb e.k.toNat++leb (e.s-b).toNat++leb (e.a-d).toNat++leb (plc l e.c)++(if plc l e.c=0 then leb e.c.size++txB e.c else[])++numB e
def bhdN(l:List BA)(c:BA):List BA:=if plc l c=0 then l++[c]else l
structure EncOK(cs ca:Int)(l:List BA)(e:EvD):Prop where
 ctx:ctxB cs ca l=true
 chk:chkE e=0
 seq:cs<e.s
 time:ca<=e.a
 put:plc l e.c=0->(putN l e.c).2=0
def Zcy{cs ca:Int}{l:List BA}{e:EvD}:encE cs ca l e=0↔EncOK cs ca l e:=by
 unfold encE;constructor
 .intro h
  split at h
  .simp at h
  next c=>
   split at h
   next a=>exact absurd h a
   next a=>
    split at h
    .simp at h
    .split at h
     .simp at h
     .split at h
      next b=>exact absurd h b.2
      next g i b=>exact⟨by simpa using c,by simpa using a,Vo,Vo,λd=>Classical.byContradiction λf=>b ⟨d,f⟩⟩
 .rintro⟨c,a,g,i,b⟩;rw[if_neg (by simp[c]),if_neg (by simp[a]),if_neg Vo,if_neg Vo,if_neg (λh=>h.2 (b h.1))]
def putN_zero(h:(putN N t).2=0):(putN N t).1=N++[t]:=by
 unfold putN at h|-
 split at h
 .simp at h
 .rename_i a;rw[if_neg a]
  split at h
  .simp at h
  .rename_i b;rw[if_neg b]
   split at h
   .simp at h
   .rename_i c;rw[if_neg c]
    split at h
    .simp at h
    next d=>rw[if_neg d]
def chkE_zero{e:EvD}(h:chkE e=0):(1<=e.k/\e.k<=10)/\(1<=e.c.size/\e.c.size<=24)/\(lo1 e.k<=e.x/\e.x<=hi1 e.k/\0<=e.y/\e.y<=hi2 e.k/\0<=e.z/\e.z<=hi3 e.k)/\(0<=e.a/\e.a<=1099511627776)/\(0<=e.s/\e.s<=4294967296):=by
 obtain⟨f,b,d,i,j⟩:=chk0 h;have f:¬(e.k<1\/10<e.k):=λg=>f ((many0 _).2 g);have b:1<=e.c.size/\e.c.size<=24:=(by simpa[namB]using b);have d:lo1 e.k<=e.x/\e.x<=hi1 e.k/\0<=e.y/\e.y<=hi2 e.k/\0<=e.z/\e.z<=hi3 e.k:=(by simpa[valB]using d);exact⟨Vo,b,d,Vo,Vo⟩
def hi_le(k:Int):0<=lo1 k/\hi1 k<=2147483647/\hi2 k<=2147483647/\hi3 k<=2147483647:=by
 unfold lo1 hi1 hi2 hi3;refine⟨?_,?_,?_,?_⟩<;>repeat' split
 all_goals omega
def Zei{e:EvD}(h:chkE e=0):∀n∈numI e.k e.x e.y e.z,0<=n/\n<=2147483647:=by
 obtain⟨_,_,b,_,_⟩:=chkE_zero h;have:=hi_le e.k;intro n a;have:=List.mem_of_mem_take a;simp at this
 rcases this with rfl|rfl|rfl<;>omega
def Zp3{f:FuncId}(j:∀(l:List Int) (n:Int),0<=n->n<=18446744073709551615->l.length<=100000->Ct prog f sO [SL 1 (bR l),U64 n] (λr=>r=[SL 1 (bR (l++leb n.toNat))]))
  {e:EvD} (A:chkE e=0) (b:List Int) (D:b.length<=1000) {q:Prop} (s:q) {K:LL->Prop} (t:K (bR (b++numB e))):
  ∃c:LL->Int->Prop,∃m:LL->Int->Nat,(c (bR b) 0)/\(∀g:LL,∀a:Int,(c g a)->ifB (ilt a (rlen (numL e.k e.x e.y e.z))) (((0<=a)/\(a<(rlen (numL e.k e.x e.y e.z))))/\(∃u:Int,(rget (numL e.k e.x e.y e.z) a=[I u])/\(Cl prog f sO [SL 1 g,U64 (wcv IntKind.u64 u)] (λ(o:List SV)=>∃p:LL,(o=[SL 1 p])/\(q/\((c p (wadd IntKind.i64 a 1))/\(Nl (m p (wadd IntKind.i64 a 1)) (m g a)))))))) (K g)):=by
 have v:=Zei A
 have i:(numI e.k e.x e.y e.z).length<=3:=by
  have:=Zj0 e.k e.x e.y e.z
  rcases Zdb e.k with h|h|h|h<;>omega
 rw[Zku];generalize hns:numI e.k e.x e.y e.z=ns at v i;have C:numB e=ns.flatMap λn=>leb n.toNat:=by unfold numB;rw[hns]
 rw[C]at t;refine⟨λrows x=>0<=x/\x<=ns.length/\∃d:List Int,rows=bR d/\d=b++(ns.take x.toNat).flatMap (λn=>leb n.toNat)/\d.length<=1000+10*x,λ_ x=>(ns.length-x).toNat,⟨Vo,Vo,b,rfl,Vs,Vo⟩,?_⟩;rintro rows x ⟨h0,h1,d,rfl,hl1,hll⟩;refine Zaa (λh=>?_) (λh=>?_)
 .simp at h;have w:wadd IntKind.i64 x 1=x+1:=Zac;have hx:x.toNat<ns.length:=Vo;have E:=v ns[x.toNat] (List.getElem_mem hx);have F:(leb ns[x.toNat].toNat).length<=10:=Zee 9 _ (Nat.lt_of_lt_of_le (show ns[x.toNat].toNat<2147483648 by omega) Vd);refine⟨⟨h0,by simpa using h⟩,ns[x.toNat],by simp[rget,hx],?_⟩;rw[Zcf,w];refine Cl.of (j d _ Vo Vo Vo) ⟨_,rfl,s,⟨Vo,Vo,_,rfl,?_,?_⟩,mlt (by dsimp only;omega)⟩
  .rw[show(x+1).toNat=x.toNat+1 by omega,Yq,List.getElem?_eq_getElem hx,List.flatMap_append,hl1];simp
  .simp;omega
 .simp at h;rw[List.take_of_length_le Vo]at hl1;rw[hl1];exact t
def dup{p:Prop}(h:p):p/\p:=⟨h,h⟩
def encR(cs ca:Int)(l:List BA)(e:EvD):List SV:=
 if encE cs ca l e=0 then[SL 1 (bR (encL cs ca l e)),cx3 e.s e.a (nR (bhdN l e.c)),I 0]else[SL 1 [],cx3 cs ca (nR l),I (encE cs ca l e)]
def Zhq{e:EvD}(h:encE i b N e=j)(c:j≠0):[SL 1 [],cx3 i b (nR N),I j]=encR i b N e:=by
 unfold encR;rw[h,if_neg c]
theorem leb_small{n:Nat}(h:n<18446744073709551616:=by omega):(leb n).length<=10:=Zee 9 _ (Nat.lt_of_lt_of_le h Vd)
def Zba{a b:Int}{l:List BA}:ctxB a b l=true↔(0<=a/\a<=4294967296/\0<=b/\b<=1099511627776)/\rgtB l=true:=by simp[ctxB]
def put4{f g:FuncId}(h:∀(l:List Int) (n:Int),0<=n->n<=18446744073709551615->l.length<=100000->Ct prog f sO [SL 1 (bR l),U64 n] (λr=>r=[SL 1 (bR (l++leb n.toNat))]))
  {b d:Int} {l:List BA} {e:EvD} (ok:EncOK b d l e):
  wcv IntKind.u64 e.k=e.k/\wcv IntKind.u64 (wsub IntKind.i64 e.s b)=e.s-b/\wcv IntKind.u64 (wsub IntKind.i64 e.a d)=e.a-d/\wcv IntKind.u64 (plc l e.c:Int)=plc l e.c/\plc l e.c<=32/\
  (leb e.k.toNat).length<=10/\(leb (e.s-b).toNat).length<=10/\(leb (e.a-d).toNat).length<=10/\(leb (plc l e.c)).length<=10:=by
 obtain⟨j,m,o,p,q⟩:=chkE_zero ok.chk;have i:=Zba.1 ok.ctx;have t:=(Zc6.1 i.2).1;have u:=Zu8 (l:=l) (s:=e.c);have:=ok.seq;have:=ok.time;refine⟨Zcf,?_,?_,Zcf,Vo,leb_small,leb_small,leb_small,leb_small⟩
 .rw[Zap];exact Zcf
 .rw[Zap];exact Zcf
def Zp4(i j:Int)(l:List BA)(e:EvD):Ct prog 191 {} [cx3 i j (nR l),e.sv] (λr=>r=encR i j l e):=by
 refine encode_nf (Cl.of (Zfx i j l) ⟨_,rfl,Zaa (λh=>?_) (λh=>?_)⟩)
 .simp at h;exact Zhq (by simp[encE,h]) Vo
 .simp at h;have L:l.length<=32:=(Zc6.1 (Zba.1 h).2).1;refine Cl.of (Znx e.s e.a e.k e.c e.x e.y e.z) ⟨_,rfl,Zaa (λm=>?_) (λm=>?_)⟩
  .simp at m;exact Zhq (by simp[encE,h,chkE,m]) m
  .simp at m;have b:chkE e=0:=m;refine Zaa (λn=>?_) (λn=>?_)
   .simp at n;exact Zhq (by simp[encE,h,b,n]) Vo
   .simp at n;refine Zaa (λo=>?_) (λo=>?_)
    .simp at o;have p:¬e.s<=i:=Vo;exact Zhq (by simp[encE,h,b,p,o]) Vo
    .simp at o;refine dup (Cl.of (clip_fn _) ⟨_,rfl,Cl.of (Zvq l e.c Vo) ⟨_,rfl,?_⟩⟩);refine Zaa (λd=>?_) (λd=>?_)
     .simp at d;have d:plc l e.c=0:=Vo;refine Cl.of (nput_fn l e.c) ⟨_,_,rfl,Zaa (λf=>?_) (λf=>?_)⟩
      .simp at f;have p:¬e.s<=i:=Vo;have t:¬e.a<j:=Vo;exact Zhq (by simp[encE,h,b,p,t,d,f]) f
      .simp at f
       have ok:EncOK i j l e:=⟨h,b,n,o,λ_=>f⟩
       obtain⟨w1,w2,w3,w4,v,w,A,b3,C⟩:=put4 (g:=0) Zaq ok;obtain⟨D,E,c3,F,G⟩:=chkE_zero b;have H:=ok.seq;have J:=ok.time;have u:=(Zba.1 h).1;rw[w1,w2,w3,w4];refine Cl.of (Zaq [] _ Vo Vo Vs) ⟨_,rfl,?_⟩;refine Cl.of (Zaq _ _ Vo Vo Vm) ⟨_,rfl,?_⟩;refine Cl.of (Zaq _ _ Vo Vo Vm) ⟨_,rfl,?_⟩;refine Cl.of (Zaq _ _ Vo Vo Vm) ⟨_,rfl,?_⟩;refine Zaa (λ_=>?_) (λq=>by simp[d]at q);refine Cl.of (Znc _ _ Vm Vo) ⟨_,rfl,?_⟩;refine Cl.of (Zmm _ _ _ _ _ _ _) ⟨_,rfl,?_⟩;have K:(leb e.c.size).length<=10:=leb_small;refine Zp3 Zaq b _ (by simp[Zcj];omega) rfl ?_;unfold encR;rw[if_pos (Zcy.2 ok),putN_zero f];simp[encL,bhdN,d]
     .simp at d;have d:¬plc l e.c=0:=Vo
      have ok:EncOK i j l e:=⟨h,b,n,o,λf=>absurd f d⟩
      obtain⟨w1,w2,w3,w4,v,w,A,b3,C⟩:=put4 (g:=0) Zaq ok;obtain⟨D,E,c3,F,G⟩:=chkE_zero b;have H:=ok.seq;have J:=ok.time;have u:=(Zba.1 h).1;rw[w1,w2,w3,w4];refine Cl.of (Zaq [] _ Vo Vo Vs) ⟨_,rfl,?_⟩;refine Cl.of (Zaq _ _ Vo Vo Vm) ⟨_,rfl,?_⟩;refine Cl.of (Zaq _ _ Vo Vo Vm) ⟨_,rfl,?_⟩;refine Cl.of (Zaq _ _ Vo Vo Vm) ⟨_,rfl,?_⟩;refine Zaa (λq=>by simp at q;omega) (λq=>?_);refine Cl.of (Zmm _ _ _ _ _ _ _) ⟨_,rfl,?_⟩;refine Zp3 Zaq b _ Vm rfl ?_;unfold encR;rw[if_pos (Zcy.2 ok)];simp[encL,bhdN,d]
def flat_inj:∀(a b:List Int) (r c:List Int),a.length=b.length->(∀n∈a,0<=n)->(∀n∈b,0<=n)->a.flatMap (λn=>leb n.toNat)++r=b.flatMap (λn=>leb n.toNat)++c->a=b/\r=c
 | [],[],r,c,_,_,_,h=>⟨rfl,by simpa using h⟩
 |n::a,m::b,r,c,hl,hn,hm,h=>by simp only[Yg,List.append_assoc]at h;obtain⟨g,d⟩:=Zck _ _ _ _ h;obtain⟨e,f⟩:=flat_inj a b r c (by simpa using hl) (λx hx=>hn x (by simp[hx])) (λx hx=>hm x (by simp[hx])) d;have i:=hn n Vs;have j:=hm m Vs;exact⟨by rw[e,show n=m by omega],f⟩
 | [],_::_,_,_,hl,_,_,_=>by simp at hl
 |_::_,[],_,_,hl,_,_,_=>by simp at hl
def tx_inj(h:txB s=txB t):s=t:=by
 have:=congrArg (λl=>bstr (bR l)) h
 simpa[Zon]using this
def Zmh{e:EvD}(h:chkE e=0):nAt (numL e.k e.x e.y e.z) 0=e.x/\nAt (numL e.k e.x e.y e.z) 1=e.y/\nAt (numL e.k e.x e.y e.z) 2=e.z:=by
 obtain⟨b,_,d,_,_⟩:=chkE_zero h;have b:manyI e.k≠0:=λc=>by have:=(many0 _).1 c;omega
 rcases Zdb e.k with h|h|h|h
 .exact absurd h b
 .have a:numL e.k e.x e.y e.z=[[I e.x]]:=(by unfold numL;rw[h];rfl);have:=many1 h;rw[a];exact⟨rfl,by simp[nAt];omega,by simp[nAt];omega⟩
 .have a:numL e.k e.x e.y e.z=[[I e.x],[I e.y]]:=(by unfold numL;rw[h];rfl);have:=many2 h;rw[a];exact⟨rfl,rfl,by simp[nAt];omega⟩
 .have a:numL e.k e.x e.y e.z=[[I e.x],[I e.y],[I e.z]]:=(by unfold numL;rw[h];rfl);rw[a];exact⟨rfl,rfl,rfl⟩
def enc_inj{e a:EvD}{r r':List Int}(h:EncOK j i N e)(d:EncOK j i N a)(b:encL j i N e++r=encL j i N a++r'):e=a/\r=r':=by
 obtain⟨M,l,c3,O,P⟩:=chkE_zero h.chk;obtain⟨Q,R,T,U,V⟩:=chkE_zero d.chk;have:=h.seq;have:=h.time;have:=d.seq;have:=d.time;unfold encL at b;simp only[List.append_assoc]at b;obtain⟨W,b⟩:=Zck _ _ _ _ b;obtain⟨X,b⟩:=Zck _ _ _ _ b;obtain⟨Y,b⟩:=Zck _ _ _ _ b;obtain⟨A,b⟩:=Zck _ _ _ _ b;have s:e.k=a.k:=Vo
 have w:e.c=a.c/\numB e++r=numB a++r':=by
  by_cases hp:plc N e.c=0
  .have f:plc N a.c=0:=Vo;rw[if_pos hp,if_pos f]at b;simp only[List.append_assoc]at b;obtain⟨C,b⟩:=Zck _ _ _ _ b;have t:(txB e.c).length=(txB a.c).length:=(by rw[Zcj,Zcj,C]);obtain⟨D,E⟩:=List.append_inj b t;exact⟨tx_inj D,E⟩
  .have f:¬plc N a.c=0:=Vo;rw[if_neg hp,if_neg f]at b
   obtain⟨m,hi⟩:∃m,plc N e.c=m+1:=⟨plc N e.c-1,Vo⟩
   have u:=plc_at hi;have v:=plc_at (A▸hi);rw[u]at v;exact⟨by injection v,by simpa using b⟩
 obtain⟨F,q⟩:=w;have H:(numI e.k e.x e.y e.z).length=(numI a.k a.x a.y a.z).length:=(by have u:=Zj0 e.k e.x e.y e.z;have v:=Zj0 a.k a.x a.y a.z;rw[s]at u;rw[s];omega);obtain⟨q,G⟩:=flat_inj _ _ _ _ H (λn p=>(Zei h.chk n p).1) (λn p=>(Zei d.chk n p).1) q;have g:=Zmh h.chk;have o:=Zmh d.chk;rw[Zku]at g o;rw[q]at g;have J:e.x=a.x:=g.1.symm.trans o.1;have K:e.y=a.y:=g.2.1.symm.trans o.2.1;have L:e.z=a.z:=g.2.2.symm.trans o.2.2;refine⟨?_,G⟩
 cases e;cases a
 simp only at*;simp only[EvD.mk.injEq];exact⟨Vo,Vo,s,F,J,K,L⟩
abbrev ev0:SV:=ev7 0 0 0 (bA []) 0 0 0
def DOut(d f:Int)(l:List BA)(b:List Int)(r:List SV):Prop:=
 (ctxB d f l=false/\r=[ev0,cx3 d f (nR l),I 1])\/(ctxB d f l=true/\((∃e,EncOK d f l e/\encL d f l e=b/\r=[e.sv,cx3 e.s e.a (nR (bhdN l e.c)),I 0])\/((∀e,EncOK d f l e->encL d f l e≠b)/\r=[ev0,cx3 d f (nR l),I 11])))
def DOut.none{cs a:Int}{l:List BA}(c:ctxB cs a l=true)(h:∀e,EncOK cs a l e->encL cs a l e≠x):DOut cs a l x [ev0,cx3 cs a (nR l),I 11]:=.inr ⟨c,.inr ⟨h,rfl⟩⟩
abbrev iR(l:List Int):LL:=l.map λn=>[I n]
def ints_iR(l:List Int):Ints (iR l):=by
 intro r a;obtain⟨n,_,rfl⟩:=Ya.1 a;exact⟨n,rfl⟩
def rd_loop(H:x.length<=100000)(J:Byts x){g:Prop}{ns rest:List Int}(D:∀n∈ns,0<=n/\n<=2147483647){cnt v u:Int}(Q:0<=cnt)(R:cnt<=3)(k:g->cnt=ns.length)
  (L:g->u=0/\0<=v/\x.drop v.toNat=ns.flatMap (λn=>leb n.toNat)++rest) {E:Prop} (F:E) {K:LL->Int->Prop} (M:∀c er,(g->c=ns/\er=0)->K (iR c) er):
  ∃o:LL->Int->LL->Int->Int->Prop,∃m:LL->Int->LL->Int->Int->Nat,(o [] 0 (bR x) v u)/\(∀j:LL,∀d:Int,∀i:LL,∀p:Int,∀e:Int,(o j d i p e)->ifB (ilt d cnt) (Cl prog 366 sP ([SV.agg [SL 1 i,I p,I e],U64 2147483647]) (λ(G:List SV)=>∃y:LL,∃q:Int,∃s:Int,∃f:Int,(G=[SV.agg [SL 1 y,I q,I s],I f])/\(((lsum (rlen j) (rlen ([[I f]])))<=((2147483648:Int)))/\(E/\((o (rapp j ([[I f]])) (wadd IntKind.i64 d 1) y q s)/\(Nl (m (rapp j ([[I f]])) (wadd IntKind.i64 d 1) y q s) (m j d i p e))))))) (K j e)):=by
 refine⟨λrows b i a er=>0<=b/\b<=cnt/\i=bR x/\∃c:List Int,rows=iR c/\(c.length:Int)=b/\(g->er=0/\0<=a/\c=ns.take b.toNat/\x.drop a.toNat=(ns.drop b.toNat).flatMap (λn=>leb n.toNat)++rest),λ_ b _ _ _=>(cnt-b).toNat,⟨Vo,Vo,rfl,[],rfl,rfl,λh=>by simpa using L h⟩,?_⟩;rintro rows b i a er ⟨h0,h1,rfl,c,rfl,hml,hgo⟩;refine Zaa (λh=>?_) (λh=>?_)
 .simp at h;have w:wadd IntKind.i64 b 1=b+1:=Zac;refine Cl.ofQ (Zlh x a er 2147483647 H J) ?_;rintro r ⟨a',er',n,rfl,ho⟩;rw[w];refine⟨_,_,_,_,rfl,Vm,F,⟨Vo,Vo,rfl,c++[n],by simp[rapp],Vm,λl=>?_⟩,mlt (by dsimp only;omega)⟩;obtain⟨z,A,C,t⟩:=hgo l;have hx:b.toNat<ns.length:=by have:=k l;omega
  rw[List.drop_eq_getElem_cons hx,Yg,List.append_assoc]at t;have T:=D ns[b.toNat] (List.getElem_mem hx);obtain⟨N,O,P⟩:=ho.good z A _ _ t Vo;have hd:=Za8 A t;refine⟨O,Vo,?_,?_⟩
  .rw[show(b+1).toNat=b.toNat+1 by omega,Yq,List.getElem?_eq_getElem hx,C,P];have:((ns[b.toNat].toNat:Nat):Int)=ns[b.toNat]:=Vo;rw[this];rfl
  .rw[N,hd,show(b+1).toNat=b.toNat+1 by omega]
 .simp at h;refine M c er (λl=>?_);obtain⟨z,A,C,t⟩:=hgo l;refine⟨?_,z⟩;rw[C,List.take_of_length_le (by have:=k l;omega)]
def parts{f g:Int}{e:EvD}(h:x=encL f g N e++X):
  x=leb e.k.toNat++(leb (e.s-f).toNat++(leb (e.a-g).toNat++(leb (plc N e.c)++((if plc N e.c=0 then leb e.c.size++txB e.c else[])++(numB e++X))))):=by
 rw[h];unfold encL;simp only[List.append_assoc]
def nmAt_plc{l:List BA}{s:BA}(h:plc l s≠0):nmAt l ((plc l s:Int)-1)=s:=by
 obtain⟨i,hi⟩:∃i,plc l s=i+1:=⟨plc l s-1,Vo⟩
 have b:=plc_at hi;have c:=(Y0.1 b).1;have a:=Zqp c;rw[b]at a;rw[hi,show((i+1:Nat):Int)-1=(i:Int) by omega];injection a with a;exact a.symm
def read_core(t p:Int)(l:List BA)(b:List Int)(K:b.length<=100000)(L:Byts b)(hc:ctxB t p l=true)(g:Prop)(d:EvD)(rest:List Int)(hg:g->EncOK t p l d/\b=encL t p l d++rest):
  Ct prog 339 {} [cx3 t p (nR l),SL 1 (bR b)] (λr=>∃(e:EvD) (ok:Bool),r=[e.sv,B ok]/\(g->ok=true/\e=d)):=by
 have aa:=Zba.1 hc;have ac:=(Zc6.1 aa.2).1
 have G:g->EncOK t p l d/\((1<=d.k/\d.k<=10)/\(1<=d.c.size/\d.c.size<=24)/\(0<=d.a/\d.a<=1099511627776)/\(0<=d.s/\d.s<=4294967296))/\t<d.s/\p<=d.a/\plc l d.c<=32/\b.drop (0:Int).toNat=leb d.k.toNat++(leb (d.s-t).toNat++(leb (d.a-p).toNat++(leb (plc l d.c)++((if plc l d.c=0 then leb d.c.size++txB d.c else[])++(numB d++rest))))):=(by intro h;obtain⟨ok,a9⟩:=hg h;obtain⟨c1,c2,c3,c4,c5⟩:=chkE_zero ok.chk;have:=Zu8 (l:=l) (s:=d.c);exact⟨ok,⟨c1,c2,c4,c5⟩,ok.seq,ok.time,Vo,by simpa using parts a9⟩);have ab:g->∀n∈numI d.k d.x d.y d.z,0<=n/\n<=2147483647:=λh=>Zei (G h).1.chk;refine read_nf (Cl.of (Zju b) ⟨_,_,_,rfl,?_⟩);refine Cl.ofQ (Zlh b 0 0 10 K L) ?_;rintro r ⟨a1,er1,n1,rfl,o1⟩;refine⟨_,_,_,_,rfl,?_⟩;refine Cl.ofQ (Zlh b a1 er1 4294967296 K L) ?_;rintro r ⟨a2,er2,n2,rfl,o2⟩;refine⟨_,_,_,_,rfl,?_⟩;refine Cl.ofQ (Zlh b a2 er2 1099511627776 K L) ?_;rintro r ⟨a3,er3,n3,rfl,o3⟩;refine⟨_,_,_,_,rfl,?_⟩;refine Cl.ofQ (Zlh b a3 er3 32 K L) ?_;rintro r ⟨a4,er4,n4,rfl,o4⟩;refine⟨_,_,_,_,rfl,?_⟩;have G1:g->0<=a1/\er1=0/\n1=d.k/\b.drop a1.toNat=leb (d.s-t).toNat++(leb (d.a-p).toNat++(leb (plc l d.c)++((if plc l d.c=0 then leb d.c.size++txB d.c else[])++(numB d++rest)))):=(by intro h;obtain⟨_,_,_,_,_,hd⟩:=G h;obtain⟨v,w,W⟩:=o1.good rfl Vo _ _ hd Vo;have:=Za8 Vo hd;rw[<-v]at this;exact⟨Vo,w,Vo,this⟩);have G2:g->0<=a2/\er2=0/\n2=d.s-t/\b.drop a2.toNat=leb (d.a-p).toNat++(leb (plc l d.c)++((if plc l d.c=0 then leb d.c.size++txB d.c else[])++(numB d++rest))):=(by intro h;obtain⟨_,_,_,_,_,_⟩:=G h;obtain⟨q,A,_,hd⟩:=G1 h;obtain⟨v,w,W⟩:=o2.good A q _ _ hd Vo;have:=Za8 q hd;rw[<-v]at this;exact⟨Vo,w,Vo,this⟩);have G3:g->0<=a3/\er3=0/\n3=d.a-p/\b.drop a3.toNat=leb (plc l d.c)++((if plc l d.c=0 then leb d.c.size++txB d.c else[])++(numB d++rest)):=(by intro h;obtain⟨_,_,_,_,_,_⟩:=G h;obtain⟨q,A,_,hd⟩:=G2 h;obtain⟨v,w,W⟩:=o3.good A q _ _ hd Vo;have:=Za8 q hd;rw[<-v]at this;exact⟨Vo,w,Vo,this⟩);have Y:g->0<=a4/\er4=0/\n4=plc l d.c/\b.drop a4.toNat=(if plc l d.c=0 then leb d.c.size++txB d.c else[])++(numB d++rest):=by intro h;obtain⟨_,_,_,_,_,_⟩:=G h;obtain⟨q,A,_,hd⟩:=G3 h;obtain⟨v,w,W⟩:=o4.good A q _ _ hd Vo;have:=Za8 q hd;rw[<-v]at this;exact⟨Vo,w,Vo,this⟩
 have ad:=o1.n0;have ae:=o1.n1
 have fin:∀(s:BA) (u:List Int) (er:Int),(g->s=d.c)->(g->u=numI d.k d.x d.y d.z/\er=0)->
   Cl prog 369 sP ([SV.agg [I (wadd IntKind.i64 t n2),I (wadd IntKind.i64 p n3),I n1,S s,I 0,I 0,I 0],SL 1 (iR u)]) (λ(D:List SV)=>∃j:Int,∃o:Int,∃f:Int,∃T:BA,∃E:Int,∃F:Int,∃H:Int,(D=[SV.agg [I j,I o,I f,S T,I E,I F,I H]])/\(∃(e:EvD) (ok:Bool),([SV.agg [I j,I o,I f,S T,I E,I F,I H],B (ieq er 0)]:List SV)=[e.sv,B ok]/\(g->ok=true/\e=d))):=by
  intro s u er P Q;refine Cl.of (fill_fn _ _ _ _ _ _ _ _ (ints_iR u)) ⟨_,_,_,_,_,_,_,rfl,⟨wadd IntKind.i64 t n2,wadd IntKind.i64 p n3,n1,s,nAt (iR u) 0,nAt (iR u) 1,nAt (iR u) 2⟩,_,rfl,λh=>?_⟩;obtain⟨ok,_,_,_,_,_⟩:=G h;obtain⟨_,_,e1,_⟩:=G1 h;obtain⟨_,_,e2,_⟩:=G2 h;obtain⟨_,_,e3,_⟩:=G3 h;obtain⟨e4,e5⟩:=Q h;have hf:=Zmh ok.chk;rw[Zku,<-e4]at hf;refine⟨by simp[e5],?_⟩;rw[Zac,Zac];have P:=P h;obtain⟨f1,f2,f3⟩:=hf;obtain⟨s0,a0,k0,c0,x0,y0,z0⟩:=d;simp only[EvD.mk.injEq];simp only at*;exact⟨Vo,Vo,e1,P,f1,f2,f3⟩
 have M:∀(s:BA) (a er:Int) {FX:Prop},FX->(g->s=d.c)->(g->er=0/\0<=a/\b.drop a.toNat=numB d++rest)->
   Cl prog 255 sP [I n1] (λ(a8:List SV)=>∃a6:Int,(a8=[I a6])/\(∃U:LL->Int->LL->Int->Int->Prop,∃m:LL->Int->LL->Int->Int->Nat,(U [] 0 (bR b) a er)/\(∀O:LL,∀J:Int,∀l7:LL,∀V:Int,∀N:Int,(U O J l7 V N)->ifB (ilt J a6) (Cl prog 366 sP ([SV.agg [SL 1 l7,I V,I N],U64 2147483647]) (λ(D:List SV)=>∃l8:LL,∃j:Int,∃o:Int,∃f:Int,(D=[SV.agg [SL 1 l8,I j,I o],I f])/\(((lsum (rlen O) (rlen ([[I f]])))<=((2147483648:Int)))/\(FX/\((U (rapp O ([[I f]])) (wadd IntKind.i64 J 1) l8 j o)/\(Nl (m (rapp O ([[I f]])) (wadd IntKind.i64 J 1) l8 j o) (m O J l7 V N))))))) (Cl prog 369 sP ([SV.agg [I (wadd IntKind.i64 t n2),I (wadd IntKind.i64 p n3),I n1,S s,I 0,I 0,I 0],SL 1 O]) (λ(D:List SV)=>∃j:Int,∃o:Int,∃f:Int,∃T:BA,∃E:Int,∃F:Int,∃H:Int,(D=[SV.agg [I j,I o,I f,S T,I E,I F,I H]])/\(∃(e:EvD) (ok:Bool),([SV.agg [I j,I o,I f,S T,I E,I F,I H],B (ieq N 0)]:List SV)=[e.sv,B ok]/\(g->ok=true/\e=d))))))):=by
  intro s a er FX a7 P hd;refine Cl.of (Zrm n1) ⟨_,rfl,?_⟩;have Q:0<=manyI n1/\manyI n1<=3:=by rcases Zdb n1 with h|h|h|h<;>omega
  by_cases hgg:g
  .exact rd_loop K L (g:=g) (ns:=numI d.k d.x d.y d.z) (rest:=rest) (ab hgg) Q.1 Q.2 (λh=>by rw[Zj0,(G1 h).2.2.1]) hd a7 (λu R h=>fin s u R P h)
  .exact rd_loop K L (g:=g) (ns:=[]) (rest:=rest) Vs Q.1 Q.2 (λh=>absurd h hgg) (λh=>absurd h hgg) a7 (λu R h=>fin s u R P (λh=>absurd h hgg))
 refine Zaa (λh=>?_) (λh=>?_)
 .simp at h;refine Cl.ofQ (text_fn b a4 er4 K L) ?_;rintro r ⟨a5,er5,s,rfl,o5⟩;refine⟨_,_,_,_,rfl,?_⟩;have Z:g->a5=a4+(leb d.c.size).length+d.c.size/\er5=0/\s=d.c/\0<=a5/\b.drop a5.toNat=numB d++rest:=(by intro i;obtain⟨ok,c,_⟩:=G i;obtain⟨q,A,X,hd⟩:=Y i;have hp:plc l d.c=0:=Vo;rw[if_pos hp,List.append_assoc]at hd;obtain⟨v,w,W⟩:=o5.good A q _ _ hd c.2.1.2;have d1:=Za8 q hd;have d2:=Za8 Vo d1;rw[Zcj,<-v]at d2;exact⟨v,w,W,Vo,d2⟩);exact M s a5 er5 rfl (λi=>(Z i).2.2.1) (λi=>⟨(Z i).2.1,(Z i).2.2.2.1,(Z i).2.2.2.2⟩)
 .simp at h;have:=o4.n0;have:=o4.n1;have G6:g->er4=0/\0<=a4/\b.drop a4.toNat=numB d++rest:=(by intro i;obtain⟨q,A,X,hd⟩:=Y i;have hp:¬plc l d.c=0:=Vo;rw[if_neg hp]at hd;exact⟨A,q,by simpa using hd⟩);have C:=nat_fn l n4 Vo Vo;by_cases hin:1<=n4/\n4<=l.length
  .rw[if_pos hin]at C;refine Cl.of C ⟨_,_,rfl,Zaa (λ_=>?_) (λh=>by simp at h)⟩;refine M _ a4 er4 rfl (λi=>?_) G6;obtain⟨_,_,X,_⟩:=Y i;rw[X];exact nmAt_plc Vo
  .rw[if_neg hin]at C;refine Cl.of C ⟨_,_,rfl,Zaa (λh=>by simp at h) (λ_=>?_)⟩;refine M _ a4 er4 rfl (λi=>?_) G6;obtain⟨_,_,X,_⟩:=Y i;have:=Zu8 (l:=l) (s:=d.c);omega
theorem Zie{cs ca:Int}{l:List BA}{e:EvD}:Byts (encL cs ca l e):=by
 unfold encL numB;refine Byts.app (Byts.app (Byts.app (Byts.app (Byts.app (Zat _) (Zat _)) (Zat _)) (Zat _)) ?_) ?_
 .split
  .exact Byts.app (Zat _) (Zzh _)
  .intro x hx;simp at hx
 .intro x hx;obtain⟨n,_,a⟩:=List.mem_flatMap.1 hx;exact Zat _ x a
def decode_fn(a c:Int)(l:List BA)(b:List Int)(q:b.length<=100000)(n:Byts b):Ct prog 290 {} [cx3 a c (nR l),SL 1 (bR b)] (DOut a c l b):=by
 refine decode_nf (Cl.of (Zfx a c l) ⟨_,rfl,Zaa (λh=>?_) (λh=>?_)⟩)
 .simp at h;exact .inl ⟨h,rfl⟩
 .simp at h
  obtain⟨g,m,hg,hno⟩:∃(g:Prop) (m:EvD),(g->EncOK a c l m/\b=encL a c l m++[])/\(¬g->∀e,EncOK a c l e->encL a c l e≠b):=by
   by_cases hex:∃e,EncOK a c l e/\encL a c l e=b
   .obtain⟨e,f,i⟩:=hex;exact⟨True,e,λ_=>⟨f,by simp[i]⟩,λs=>absurd trivial s⟩
   .exact⟨False,⟨0,0,0,ByteArray.empty,0,0,0⟩,λt=>t.elim,λ_ e f i=>hex ⟨e,f,i⟩⟩
  refine Cl.ofQ (read_core a c l b q n h g m [] hg) ?_;rintro r ⟨e,ok,rfl,hok⟩;refine⟨_,_,_,_,_,_,_,_,rfl,Zaa (λf=>?_) (λf=>?_)⟩
  .simp at f;exact DOut.none h (hno (λd=>by rw[(hok d).1]at f;cases f))
  .have k:=Zp4 a c l e;by_cases hE:encE a c l e=0
   .unfold encR at k;rw[if_pos hE]at k;refine Cl.of k ⟨_,_,_,_,_,rfl,Zaa (λi=>by simp at i) (λ_=>?_)⟩;refine Cl.of (Zhz _ _ Zie n) ⟨_,rfl,Zaa (λj=>?_) (λj=>?_)⟩
    .simp at j;refine DOut.none h (hno (λd=>?_));obtain⟨o,p⟩:=hg d;rw[(hok d).2]at j;exact j (by simpa using p.symm)
    .simp at j;exact .inr ⟨h,.inl ⟨e,Zcy.1 hE,j,rfl⟩⟩
   .unfold encR at k;rw[if_neg hE]at k;refine Cl.of k ⟨_,_,_,_,_,rfl,Zaa (λ_=>?_) (λi=>by simp at i;exact absurd i hE)⟩;refine DOut.none h (hno (λd=>?_));obtain⟨o,p⟩:=hg d;rw[(hok d).2]at hE;exact hE (Zcy.2 o)
def eA:EvD:=⟨1,5,4,bA [100,98],1,0,0⟩
theorem okA:EncOK 0 0 [] eA:=⟨Vd,Vd,Vd,Vd,λ_=>Vd⟩
def tx_bstr{l:List Int}(h:Byts l):txB (bstr (bR l))=l:=by
 simp only[txB,bstr,bR,List.map_map]
 conv=>rhs;rw[<-YQ l]
 apply List.map_congr_left;intro x hx;have:=h x hx;simp[Zcx];omega
def XSnd(l:List Int)(a er d c:Int)(s:BA):Prop:=c=0->er=0/\0<=a/\s.size<=24/\∃b,l.drop a.toNat=leb s.size++(txB s++b)/\d=a+(leb s.size).length+s.size
def textS_fn(l:List Int)(a er:Int)(u:l.length<=100000)(v:Byts l):Ct prog 367 {} [cu3 (bR l) a er,I 24] (λr=>∃w j s,r=[cu3 (bR l) w j,S s]/\XOut l a er w j s/\XSnd l a er w j s):=by
 refine text_nf (Cl.ofQ (Ze2 l a er u v) ?_);rintro r ⟨a1,er1,n,rfl,ho,hsn⟩;have G:wcv IntKind.u64 24=24:=rfl;have H:=ho.n0;have R:=ho.n1;have c:er=0->0<=a->∀(t:BA) b,l.drop a.toNat=leb t.size++(txB t++b)->t.size<=24->a1=a+(leb t.size).length/\er1=0/\n=t.size/\l.drop a1.toNat=txB t++b/\a1+t.size<=l.length/\0<=a1:=(by intro e1 e2 t b d e;obtain⟨x,y,z⟩:=ho.good e1 e2 t.size _ d Vo;have hd:=Za8 e2 d;rw[<-x]at hd;have f:=congrArg List.length hd;simp[Zcj]at f;have:=Zrk d;exact⟨x,y,z,hd,Vo,Vo⟩);refine⟨_,_,_,_,rfl,Zaa (λh=>?_) (λh=>?_)⟩
 .simp at h;exact⟨_,_,_,rfl,⟨λe1 e2 t b d e=>absurd (c e1 e2 t b d e).2.1 h⟩,λg=>absurd g h⟩
 .simp at h;refine Zaa (λD=>by simp at D) (λD=>?_);rw[G];refine Zaa (λm=>?_) (λm=>?_)
  .simp at m;refine Cl.of (Zgv l a er 9) ⟨_,_,_,rfl,_,_,_,rfl,⟨λe1 e2 t b d e=>?_⟩,λg=>absurd g (Zn0 Vd)⟩;have:=c e1 e2 t b d e;omega
  .simp at m;refine Cl.of (Zkb l a1 er1 u) ⟨_,rfl,?_⟩;have C:rgtC l a1 er1=true↔0<=a1/\a1<=l.length/\er1=0:=by simp[rgtC]
   have P:wcv IntKind.u64 (if rgtC l a1 er1=true then(l.length:Int)-a1 else 0)=(if rgtC l a1 er1=true then(l.length:Int)-a1 else 0):=by
    split
    next K=>have:=C.1 K;exact Zcf
    .rfl
   rw[P];refine Zaa (λi=>?_) (λi=>?_)
   .refine Cl.of (Zgv l a er 10) ⟨_,_,_,rfl,_,_,_,rfl,⟨λe1 e2 t b d e=>?_⟩,λg=>absurd g (Zn0 Vd)⟩;have:=c e1 e2 t b d e;rw[if_pos (C.2 Vo)]at i;simp at i;omega
   .rw[Zh1];refine Cl.ofQ (Zzi l a1 er1 n u Vo Vo) ?_;rintro r ⟨a2,er2,bs,rfl,ht⟩;refine⟨_,_,_,_,rfl,Zeh (v.sub ht.mem),_,_,_,rfl,⟨λe1 e2 t b d e=>?_⟩,λ_=>?_⟩
    .obtain⟨x,y,z,L,Q,M⟩:=c e1 e2 t b d e;obtain⟨N,E,o⟩:=ht.good y M H Vo;refine⟨Vo,E,?_⟩;rw[o,L,z];have:(txB t++b).take ((t.size:Nat):Int).toNat=txB t:=(by rw[Int.toNat_natCast,<-Zcj,YV]);rw[this,Zon]
    .obtain⟨O,F,b,A,s4⟩:=hsn h;have f:=congrArg List.length A;simp at f;have T:=Zf0 n.toNat;have k:0<=a1/\a1<=l.length:=Vo;rw[if_pos (C.2 ⟨k.1,k.2,h⟩)]at i;simp at i m;obtain⟨N,E,o⟩:=ht.good h k.1 H Vo;have hd:=Za8 F A;rw[<-s4]at hd;have J:bs.length=n.toNat:=by rw[o];simp;omega
     have p:Byts bs:=v.sub ht.mem;have q:(bstr (bR bs)).size=n.toNat:=(by rw[<-Zcj,tx_bstr p,J]);refine⟨O,F,Vo,(l.drop a1.toNat).drop n.toNat,?_,?_⟩
     .rw[q,tx_bstr p,o,List.take_append_drop,hd];exact A
     .rw[q];omega

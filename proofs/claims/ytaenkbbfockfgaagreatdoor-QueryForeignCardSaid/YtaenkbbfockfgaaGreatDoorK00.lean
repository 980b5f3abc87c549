import Derived.Calls
import Derived.Orders
import Derived.KernelRfl
import Derived.Below
set_option linter.all false
set_option maxRecDepth 100000
theorem Vo{P:Prop}(h:P:=by omega):P:=h
theorem Vs{P:Prop}(h:P:=by simp):P:=h
theorem Vd{P:Prop}(h:P:=by decide):P:=h
theorem Vm{P:Prop}(h:P:=by(simp;omega)):P:=h
theorem Vg{P:Prop}(h:P:=by grind):P:=h
theorem Vk{α}{a b:α}(h:a=b:=by kernel_rfl):a=b:=h
abbrev BA:=ByteArray
abbrev Nl(a b:Nat):Prop:=Nat.le a.succ b
namespace Go.Px
def Y0:=@List.getElem?_eq_some_iff
def Y1:=@Array.getElem?_eq_getElem
def Y2:=@List.cons_append
def Y3:=@Array.getElem?_eq_some_iff
def Y4:=@List.eq_nil_or_concat
def Y5:=@List.nil_append
def Y6:=@List.eq_nil_of_length_eq_zero
def Y7:=@List.take_length
def Y8:=@Nat.beq_refl
def Y9:=@List.length_nil
def Ya:=@List.mem_map
def Yb:=@List.mem_map_of_mem
def Yc:=@Int.ofNat_eq_natCast
def Yd:=@Int.le_refl
def Ye:=@List.getElem?_take
def Yf:=@Nat.mul_le_mul_right
def Yg:=@List.flatMap_cons
def Yh:=@List.getElem?_drop
def Yi:=@Array.getElem?_setIfInBounds_ne
def Yj:=@Nat.zero_add
def Yk:=@Bool.not_eq_true'
def Yl:=@Option.getD_some
def Ym:=@Nat.add_mul
def Yn:=@List.mem_of_getElem?
def Yo:=@List.nodup_cons
def Yp:=@Option.map_eq_some_iff
def Yq:=@List.take_add_one
def Yr:=@Array.getElem?_toList
def Ys:=@List.length_eq_zero_iff
def Yt:=@List.drop_of_length_le
def Yu:=@List.filter_eq_nil_iff
def Yv:=@List.getElem?_map
def Yw:=@Classical.not_not
def Yx:=@Array.eq_empty_of_size_eq_zero
def Yy:=@List.getElem?_toArray
def Yz:=@Nat.le_of_not_lt
def YA:=@Bool.not_eq_false'
def YB:=@Array.getElem?_eq_none
def YC:=@Option.some.injEq
def YD:=@Option.bind_eq_some_iff
def YE:=@List.mem_filterMap
def YF:=@List.mem_append_right
def YG:=@List.cons_lt_cons_iff
def YH:=@Nat.add_assoc
def YI:=@List.getElem?_append_right
def YJ:=@List.size_toArray
def YK:=@Bool.eq_false_iff
def YL:=@List.Pairwise.filter
def YM:=@List.getElem_of_mem
def YN:=@Ne.symm
def YO:=@Array.foldl_toList
def YP:=@List.find?_cons
def YQ:=@List.map_id
def YR:=@List.any_eq_false
def YS:=@Array.size_append
def YT:=@Array.getElem?_modify
def YU:=@Array.getElem?_append
def YV:=@List.take_left
def YW:=@List.mem_append_left
def YX:=@List.not_mem_nil
def YY:=@List.ext_getElem
def YZ:=@Array.getElem?_setIfInBounds_self_of_lt
def W0:=@List.foldr_cons
def W4:=@Option.map_some
def W5:=@Decidable.byContradiction
def W6:=@List.nil_prefix
def W7:=@Option.isSome_iff_exists
def W8:=@Bool.true_eq_false
def W9:=@List.mapM_cons
def Wa:=@Array.size_map
def Wb:=@List.drop_drop
def Wc:=@List.drop_left
def Wd:=@Int.eq_ofNat_of_zero_le
def We:=@List.nodup_append
def Wf:=@Array.size_range
def Wg:=@List.reverse_nil
def Wh:=@List.length_replicate
def Wi:=@List.getElem?_eq_none
def Wj:=@List.length_singleton
def Wk:=@List.takeWhile_append_dropWhile
def Wl:=@List.find?_some
def Wm:=@List.eq_nil_iff_forall_not_mem
def Wn:=@List.mem_cons_of_mem
def Wo:=@Array.replicate_succ
def Wp:=@Array.replicate_zero
def Wq:=@Int.lt_or_le
def Wr:=@Int.zero_add
def Ws:=@List.mem_of_getLast?
def Wt:=@Nat.shiftLeft_add_eq_or_of_lt
def Wu:=@List.drop_append_of_le_length
def Wv:=@List.getLast?_eq_some_getLast
def Ww:=@Array.toList_zipIdx
def Wx:=@List.length_pos_iff
def Wy:=@List.filterMap_cons
def Wz:=@List.append_toArray
def WA:=@List.drop_succ_cons
def WC:=@Int.toNat_of_nonneg
def WD:=@List.mem_range
def WE:=@Array.getElem?_append_right
def WF:=@Nat.eq_zero_or_pos
def WG:=@List.getElem_range
def WH:=@Nat.lt_trichotomy
def WI:=@List.push_toArray
def WJ:=@List.getElem?_append_left
def WK:=@List.mem_of_find?_eq_some
def WL:=@List.getElem_append_right
def WM:=@Array.size_setIfInBounds
def WN:=@Nat.mul_comm
def WO:=@Nat.lt_or_ge
def WP:=@List.eq_of_mem_replicate
def WQ:=@Int.sub_zero
def WS:=@Nat.le_mul_of_pos_right
def WT:=@List.prefix_iff_eq_take
def WU:=@List.filter_cons_of_neg
def WV:=@Nat.mul_eq_zero
def WW:=@Nat.sub_mul
def WX:=@List.getElem?_set_self
def WY:=@List.append_eq_nil_iff
def WZ:=@List.head?_eq_none_iff
def Y00:=@List.nodup_nil
def Y01:=@List.Pairwise.sublist
def Y02:=@List.singleton_append
def Y03:=@Nat.div_lt_of_lt_mul
def Y04:=@List.getElem?_set_ne
def Y05:=@Bool.or_eq_false_iff
def Y06:=@List.lt_trans
def Y07:=@List.reverse_append
def Y08:=@List.length_reverse
end Go.Px
namespace Go.Px
def wadd(k:IntKind)(a b:Int):Int:=k.wrap (a+b)
def wsub(k:IntKind)(a b:Int):Int:=k.wrap (a-b)
def wmul(k:IntKind)(a b:Int):Int:=k.wrap (a*b)
def wneg(k:IntKind)(a:Int):Int:=k.wrap (0-a)
def wcv(k:IntKind)(a:Int):Int:=k.wrap a
def ieq(a b:Int):Bool:=a==b
def ine(a b:Int):Bool:=a !=b
def ilt(a b:Int):Bool:=decide (a<b)
def ile(a b:Int):Bool:=decide (a<=b)
def igt(a b:Int):Bool:=decide (a>b)
def ige(a b:Int):Bool:=decide (a>=b)
def imin(a b:Int):Int:=if b<a then b else a
def imax(a b:Int):Int:=if a<b then b else a
def seq(x y:BA):Bool:=x.toList==y.toList
def sne(x y:BA):Bool:=!(x.toList==y.toList)
def slt(x y:BA):Bool:=Op.bytesLess x.toList y.toList
def sle(x y:BA):Bool:=Op.bytesLess x.toList y.toList||x.toList==y.toList
def sgt(x y:BA):Bool:=!(Op.bytesLess x.toList y.toList||x.toList==y.toList)
def sge(x y:BA):Bool:=!(Op.bytesLess x.toList y.toList)
def bnot(b:Bool):Bool:=!b
def bpick(p a b:Bool):Bool:=bif p then a else b
def beqB(a b:Bool):Bool:=a==b
def band(a b:Bool):Bool:=a&&b
def wquo(k:IntKind)(a b:Int):Int:=k.wrap (a.tdiv b)
def wrem(a b:Int):Int:=a.tmod b
def wshl(k:IntKind)(a b:Int):Int:=k.wrap (a*2^(min b.toNat k.bits))
def wshr(k:IntKind)(a b:Int):Int:=a.fdiv (2^(min b.toNat k.bits))
def wand(k:IntKind)(a b:Int):Int:=k.wrap (BitVec.ofInt k.bits a&&&BitVec.ofInt k.bits b).toNat
def wor(k:IntKind)(a b:Int):Int:=k.wrap (BitVec.ofInt k.bits a|||BitVec.ofInt k.bits b).toNat
def wxor(k:IntKind)(a b:Int):Int:=k.wrap (BitVec.ofInt k.bits a^^^BitVec.ofInt k.bits b).toNat
def wnot(k:IntKind)(a:Int):Int:=wxor k (if k.signed then-1 else k.max) a
def scat(x y:BA):BA:=x++y
def sbyte(s:BA)(n:Int):Int:=((s.data.getD n.toNat 0).toNat:Int)
def ssub(s:BA)(l h:Int):BA:=s.extract l.toNat h.toNat
def slen(s:BA):Int:=Int.ofNat s.size
def lsum(a b:Int):Int:=a+b
def kdn(n k:Int):Int:=n-1-k
def kup(k:Int):Int:=k+1
def isub(a b:Int):Int:=a-b
def cre(p:Nat×Nat):Nat:=p.1
def cim(p:Nat×Nat):Nat:=p.2
def fbin(P:Program)(b:BinOp)(t:TypeId)(x y r:Value):Prop:=∀a:World,(binOp b t x y).run P a= .ok r a
def fext(P:Program)(f:FuncId)(b:List Value)(r:Value):Prop:=∀a:World,(callFunc f b.toArray).run P a= .ok (.value r) a
def fcvt(P:Program)(a b:TypeId)(x r:Value):Prop:=∀c:World,(convert a b x).run P c= .ok r c
def aget(a:List Int)(n:Int):Int:=a.getD n.toNat 0
def aset(a:List Int)(n:Int)(v:Int):List Int:=a.set n.toNat v
def apick(x:Int)(j:Nat)(i v:Int):Int:=if i=Int.ofNat j then v else x
def azero(m:Nat):List Int:=List.replicate m 0
def asub(a:List Int)(l h:Int):List Int:=(a.take h.toNat).drop l.toNat
inductive SV where
 |val (v:Value)
 |agg (cs:List SV)
 |tup (cs:List SV)
 |slice (sz:Nat) (rows:List (List SV)) (tok:Nat)
 |mapv (es:List (BA×Int))
 |ref (off:Nat) (cells:List SV)
 |clo (f:FuncId) (caps:List SV)
 |ifc (t:TypeId) (v:SV)
 |ptr (id off:Nat)
 |bsl (id off n:Nat)
 |osl (id:Nat)
 |eptr (id:Nat) (e:TypeId) (i:Int) (off:Nat)
 |osv (id:Nat) (l h c:Int)
 |omp (id:Nat)
 |arr (kd:IntKind) (m:Nat) (ns:List Int)
 |aptr (id:Nat) (i:Int)
 |asl (id:Nat) (l h:Int)
 |fnv (t:TypeId) (name:String)
 |gd (t:Nat) (want:Bool) (v:SV)
 |unk
 deriving Inhabited
abbrev LL:=List (List SV)
abbrev SV.int(k:IntKind)(n:Int):SV:=.val (.int k n)
abbrev bA(l:List UInt8):BA:=ByteArray.mk (Array.mk l)
end Go.Px
namespace Go.Px
open Go
def pow10:List SV:=[.val (.int .u64 1),.val (.int .u64 10),.val (.int .u64 100),.val (.int .u64 1000),.val (.int .u64 10000),.val (.int .u64 100000),.val (.int .u64 1000000),.val (.int .u64 10000000),.val (.int .u64 100000000),.val (.int .u64 1000000000),.val (.int .u64 10000000000),.val (.int .u64 100000000000),.val (.int .u64 1000000000000),.val (.int .u64 10000000000000),.val (.int .u64 100000000000000),.val (.int .u64 1000000000000000),.val (.int .u64 10000000000000000),.val (.int .u64 100000000000000000),.val (.int .u64 1000000000000000000),.val (.int .u64 10000000000000000000)]
def Zbf:List (Nat×List SV):=[(1,pow10),(2,[.ifc 450 .unk]),(3,[.ifc 450 .unk])]
end Go.Px
namespace Go.Px
def Zfl(g:Nat):List (Nat×List SV)->SV
 | []=>.unk
 |(k,cs)::r=>bif Nat.beq k g then .ref 0 cs else Zfl g r
def ifB(b:Bool)(x y:Prop):Prop:=
 match b with
 |true=>x
 |false=>y
def rlen(rows:LL):Int:=Int.ofNat rows.length
def rget(rows:LL)(n:Int):List SV:=rows.getD n.toNat []
def rsub(rows:LL)(l h:Int):LL:=(rows.take h.toNat).drop l.toNat
def rapp(a b:LL):LL:=a++b
def rput(rows:LL)(k:Int)(a:LL):LL:=rows.take k.toNat++a++rows.drop (k.toNat+a.length)
def rset(rows:LL)(n:Int)(r:List SV):LL:=rows.set n.toNat r
def rrep(n:Int)(r:List SV):LL:=List.replicate n.toNat r
def Zch(s:BA):LL:=s.data.toList.map λb=>[.val (.int .u8 (b.toNat:Int))]
def Zcx(r:List SV):UInt8:=match r with| [.val (.int _ n)]=>UInt8.ofNat n.toNat|_=>0
def bstr(rows:LL):BA:=⟨(rows.map Zcx).toArray⟩
def ufold(n:Int)(rows:LL):Int:=rows.reverse.foldl (λn r=>wor .u64 (wshl .u64 n 7) (wcv .u64 (wrem (match r with| [.val (.int _ x)]=>x|_=>0) 128))) n
def Zbt(rows:LL):Prop:=∀r∈rows,∃n:Int,r=[.val (.int .u8 n)]/\0<=n/\n<256
def arows(a:IntKind)(b:List Int):LL:=b.map λn=>[.val (.int a n)]
def mget(a:List (BA×Int))(k:BA):Int:=((a.find? λe=>decide (e.1=k)).map (·.2)).getD 0
def mhas(a:List (BA×Int))(k:BA):Bool:=a.any λe=>decide (e.1=k)
def msetR(k:BA)(n:Int):List (BA×Int)->List (BA×Int)
 | []=>[(k,n)]
 |e::es=>if e.1=k then(k,n)::es else e::msetR k n es
def mset(a:List (BA×Int))(k:BA)(n:Int):List (BA×Int):=msetR k n a
def mlen(a:List (BA×Int)):Int:=Int.ofNat a.length
def isIfc(s:SV):Bool:=match s with| .val .nilIface| .val (.iface _ _)| .ifc _ _=>true|_=>false
def Zhp(s:SV):Bool:=match s with| .val .nilIface=>true|_=>false
inductive Ob where
 |box (cells:List SV)
 |own (sz:Nat) (rows:LL)
 |mp (es:List (BA×Int))
 |arr (kd:IntKind) (m:Nat) (ns:List Int)
structure St where
 tmps:List SV
 objs:List (Nat×Ob)
def lget:List SV->Nat->SV
 | [],_=>.unk
 |x::_,0=>x
 |_::xs,n+1=>lget xs n
def lset:List SV->Nat->SV->List SV
 | [],_,_=>[]
 |_::xs,0,v=>v::xs
 |x::xs,n+1,v=>x::lset xs n v
def oget:List (Nat×Ob)->Nat->Option Ob
 | [],_=>none
 |(k,o)::xs,n=>bif Nat.beq k n then some o else oget xs n
def odel:List (Nat×Ob)->Nat->List (Nat×Ob)
 | [],_=>[]
 |(k,o)::xs,n=>bif Nat.beq k n then odel xs n else(k,o)::odel xs n
def oput:List (Nat×Ob)->Nat->Ob->List (Nat×Ob)
 | [],_,_=>[]
 |(k,p)::xs,n,o=>bif Nat.beq k n then(k,o)::oput xs n o else(k,p)::oput xs n o
mutual
def hmap(g:SV->SV):SV->SV
 | .agg a=>.agg (hmapL g a)
 | .tup a=>.tup (hmapL g a)
 | .gd t w v=>.gd t w (hmap g v)
 |s=>g s
def hmapL(g:SV->SV):List SV->List SV
 | []=>[]
 |c::cs=>hmap g c::hmapL g cs
end
def Zdy(g:SV->SV):Ob->Ob
 | .box a=>.box (hmapL g a)
 |o=>o
def hmapO(g:SV->SV):List (Nat×Ob)->List (Nat×Ob)
 | []=>[]
 |(k,o)::xs=>(k,Zdy g o)::hmapO g xs
def killG(n:Nat):SV->SV
 | .ptr id off=>bif Nat.beq id n then .unk else .ptr id off
 | .bsl id off k=>bif Nat.beq id n then .unk else .bsl id off k
 | .osl id=>bif Nat.beq id n then .unk else .osl id
 | .eptr id e i off=>bif Nat.beq id n then .unk else .eptr id e i off
 | .osv id l h c=>bif Nat.beq id n then .unk else .osv id l h c
 | .omp id=>bif Nat.beq id n then .unk else .omp id
 | .aptr id i=>bif Nat.beq id n then .unk else .aptr id i
 | .asl id l h=>bif Nat.beq id n then .unk else .asl id l h
 |s=>s
def frzG(n a:Nat)(rows:LL):SV->SV
 | .osl id=>bif Nat.beq id n then .slice a rows 0 else .osl id
 | .eptr id e i off=>bif Nat.beq id n then .unk else .eptr id e i off
 | .osv id l h c=>bif Nat.beq id n then .unk else .osv id l h c
 |s=>s
def opnG(n m:Nat)(len c:Int):SV->SV
 | .osl id=>bif Nat.beq id n then .osv m 0 len c else killG m (.osl id)
 |s=>killG m (killG n s)
def koslG(n:Nat):SV->SV
 | .osl id=>bif Nat.beq id n then .unk else .osl id
 |s=>s
def frzBG(n:Nat)(cells:List SV):SV->SV
 | .ptr id off=>bif Nat.beq id n then .ref off cells else .ptr id off
 | .bsl id off k=>bif Nat.beq id n then .unk else .bsl id off k
 |s=>s
def ev(a:St):Operand->SV
 | .tmp t=>lget a.tmps t
 | .const (.agg cs)=>.agg (cs.toList.map .val)
 | .const (.slice none 0 0)=>.slice 0 [] 1
 | .const v=>.val v
 | .func f=>.clo f []
 | .global g=>Zfl g Zbf
def cellsOf:SV->List SV
 | .agg a=>a
 |v=>[v]
def Zja(t:Nat):SV->SV
 | .gd a w v=>bif Nat.beq t a then .unk else .gd a w v
 |v=>v
def Zfm(t:Nat):List SV->List SV
 | []=>[]
 |x::xs=>Zja t x::Zfm t xs
def St.put(a:St)(d:Option Nat)(v:SV):St:=
 match d with
 |some d=>{a with tmps:=lset (Zfm d a.tmps) d (Zja d v)}
 |none=>a
def takeN:Nat->List SV->List SV
 |0,_=>[]
 |_,[]=>[]
 |n+1,x::xs=>x::takeN n xs
def dropN:Nat->List SV->List SV
 |0,l=>l
 |_,[]=>[]
 |n+1,_::xs=>dropN n xs
def lenN:List SV->Nat
 | []=>0
 |_::xs=>lenN xs+1
def Zbb:Nat->List SV->List SV->Option (List SV)
 |0,[],l=>some l
 |0,_::_,[]=>none
 |0,v::vs,_::xs=>(Zbb 0 vs xs).map (v::·)
 |_+1,_,[]=>none
 |n+1,vs,x::xs=>(Zbb n vs xs).map (x::·)
def Za2(P:Program)(t:TypeId):Bool:=
 match P.underlying t with
 |some (.struct _)|some (.array ..)=>true
 |_=>false
def szT(P:Program)(t:TypeId):Option Nat:=(P.info? t).map (·.size)
def Zn4(P:Program)(t f:Nat):Option Field:=
 match P.underlying t with
 |some (.struct fs)=>fs[f]?
 |_=>none
def partN(P:Program)(t:TypeId)(off:Nat)(cs:List SV):Option SV:=
 match P.underlying t,szT P t with
 |none,_|_,none=>none
 |some _,some n=>
  bif Za2 P t then
   (bif Nat.ble (off+n) (lenN cs)then some (.agg (takeN n (dropN off cs)))else none)
  else(bif Nat.ble (off+1) (lenN cs)then some (lget cs off)else none)
def Zdh(P:Program):Nat->TypeId->List TypeId
 |0,_=>[]
 |n+1,t=>match P.underlying t with
  |some (.struct fs)=>fs.toList.flatMap λf=>Zdh P n f.type
  |some (.array m e)=>(List.range m).flatMap λ_=>Zdh P n e
  |_=>[t]
def Zdi:Value->Bool
 | .bool _| .int _ _| .float _ _| .complex _ _ _| .string _=>true
 | .slice none 0 0| .pointer none| .map none| .nilFunc| .nilIface=>true
 |_=>false
def Zdz(P:Program)(t:TypeId)(v:Value):SV:=
 match v with
 | .slice none 0 0=>match P.underlying t with
  |some (.slice e)=>.slice ((szT P e).getD 0) [] 1
  |_=>.slice 0 [] 1
 |v=>.val v
def zeroCells(P:Program):List TypeId->List Value->Option (List SV)
 | [],[]=>some []
 |t::ts,v::vs=>bif Zdi v then(zeroCells P ts vs).map (Zdz P t v::·)else none
 |_,_=>none
def Zjb(P:Program)(t:TypeId):Option SV:=
 match((P.info? t).bind (·.zero):Option Value)with
 |some (.agg cs)=>(zeroCells P (Zdh P 8 t) cs.toList).map .agg
 |some v=>bif Zdi v then some (Zdz P t v)else none
 |_=>none
def intOp(c:BinOp)(k:IntKind)(a b:Int):Option Value:=
 match c with
 | .add=>some (.int k (wadd k a b))
 | .sub=>some (.int k (wsub k a b))
 | .mul=>some (.int k (wmul k a b))
 | .eql=>some (.bool (ieq a b))
 | .neq=>some (.bool (ine a b))
 | .lss=>some (.bool (ilt a b))
 | .leq=>some (.bool (ile a b))
 | .gtr=>some (.bool (igt a b))
 | .geq=>some (.bool (ige a b))
 | .and=>some (.int k (wand k a b))
 | .or=>some (.int k (wor k a b))
 | .xor=>some (.int k (wxor k a b))
 |_=>none
def strOp(a:BinOp)(x y:BA):Option Value:=
 match a with
 | .eql=>some (.bool (seq x y))
 | .neq=>some (.bool (sne x y))
 | .lss=>some (.bool (slt x y))
 | .leq=>some (.bool (sle x y))
 | .gtr=>some (.bool (sgt x y))
 | .geq=>some (.bool (sge x y))
 |_=>none
def ungd(a:List (Nat×Bool))(v:SV):SV:=
 match v with
 | .gd t w x=>bif a.any (λg=>Nat.beq g.1 t&&(g.2==w))then x else .unk
 |v=>v
def gdst(a:Array Oper):Option (Nat×Bool)->Option (Nat×Bool)
 |none=>none
 |some (j,w)=>match(a[j]?).bind (·.dst)with
  |some t=>some (t,w)
  |none=>none
def chain(a:St):Nat->Nat×Bool->List (Nat×Bool)
 |0,_=>[]
 |n+1,g=>g::match lget a.tmps g.1 with
  | .gd t w _=>chain a n (t,w)
  |_=>[]
def pickV(x y:SV)(p:Bool):Option SV:=
 match x,y with
 | .val (.bool a),.val (.bool b)=>some (.val (.bool (bpick p a b)))
 |x,y=>match p with
  |true=>some x
  |false=>some y
def eqA(P:Program):Nat->TypeId->SV->SV->Option Bool
 |0,_,_,_=>none
 |n+1,t,x,y=>match P.underlying t,x,y with
  |some .bool,.val (.bool a),.val (.bool b)=>some (beqB a b)
  |some (.int _),.val (.int k a),.val (.int k' b)=>bif decide (k=k')then some (ieq a b)else none
  |some .string,.val (.string a),.val (.string b)=>some (seq a b)
  |some (.struct fs),.agg xs,.agg ys=>bif P.stoodInHeld t then none else
    fs.toList.foldr (λf r=>bif f.name== "_" then none else
     match partN P f.type f.offset xs,partN P f.type f.offset ys,r with
     |some p,some q,some rest=>(eqA P n f.type p q).map (λe=>band e rest)
     |_,_,_=>none) (some true)
  |some (.array m e),.agg xs,.agg ys=>match szT P e with
   |none=>none
   |some c=>(List.range m).foldr (λi r=>
     match partN P e (i*c) xs,partN P e (i*c) ys,r with
     |some p,some q,some rest=>(eqA P n e p q).map (λe=>band e rest)
     |_,_,_=>none) (some true)
  |_,_,_=>none
def eqOp(P:Program)(a:BinOp)(t:TypeId)(x y:SV):Option SV:=
 match a with
 | .eql=>bif P.eqGuardType P.depth t then none else(eqA P 6 t x y).map λb=>.val (.bool b)
 | .neq=>bif P.eqGuardType P.depth t then none else(eqA P 6 t x y).map λb=>.val (.bool (bnot b))
 |_=>none
def addrOf(P:Program)(s:TypeId)(x:SV)(f:Nat):Option SV:=
 match Zn4 P s f with
 |none=>none
 |some a=>
  match szT P a.type with
  |some (_+1)=>
   match x with
   | .ptr id off=>some (.ptr id (off+a.offset))
   | .ref off b=>some (.ref (off+a.offset) b)
   | .eptr id e i off=>some (.eptr id e i (off+a.offset))
   |_=>none
  |_=>none
def Zug(P:Program)(t:TypeId)(x:SV)(a:List (Nat×Ob)):Option SV:=
 match x with
 | .ptr id off=>match oget a id with
  |some (.box b)=>partN P t off b
  |_=>none
 | .ref off b=>partN P t off b
 |_=>none
def Zbc:SV->Bool
 | .val (.agg _)| .val (.tuple _)=>false
 | .val _| .slice .. | .ref .. | .clo .. | .ifc .. | .ptr .. | .bsl .. | .osl .. | .eptr .. | .omp .. =>true
 |_=>false
def boxL:List SV->Bool
 | []=>true
 |c::cs=>Zbc c&&boxL cs
def fillN(a:Nat->Option (Nat×Nat))(cells:List SV):List (Nat×SV)->Option (List SV)
 | []=>some cells
 |(i,v)::rest=>match a i with
  |none=>none
  |some (off,n)=>bif boxL (cellsOf v)&&Nat.beq (lenN (cellsOf v)) n then
    (match Zbb off (cellsOf v) cells with
    |none=>none
    |some b=>fillN a b rest)else none
def Ziq(P:Program)(t:TypeId)(i:Nat):Option (Nat×Nat):=
 match P.underlying t with
 |some (.struct fs)=>match fs[i]? with
  |some f=>(szT P f.type).map λn=>(f.offset,n)
  |none=>none
 |some (.array _ e)=>(szT P e).map λn=>(i*n,n)
 |_=>none
def Zru(P:Program)(t:TypeId):Bool:=
 match P.underlying t with
 |some (.struct fs)=>fs.toList.all λf=>(szT P f.type).isSome
 |some (.array _ e)=>(szT P e).isSome
 |_=>false
def Zrv(P:Program)(t:TypeId)(parts:List (Nat×SV)):Option SV:=
 bif Zru P t then
  (match Zjb P t with
  |some (.agg zs)=>(fillN (Ziq P t) zs parts).map .agg
  |_=>none)else none
def fixSz(P:Program)(t:TypeId)(s:SV):SV:=
 match P.underlying t,s with
 |some (.slice e),.slice sz rows tok=>.slice (bif Nat.beq sz 0 then(szT P e).getD 0 else sz) rows tok
 |_,s=>s
def fixNil(P:Program)(t:TypeId)(x:Operand)(s:SV):SV:=
 match x with
 | .const (.slice none 0 0)=>fixSz P t s
 |_=>s
def Zkt(P:Program)(t:TypeId)(name:String):Option FuncId:=
 match P.underlying t,P.info? t with
 |some (.pointer _),_=>none
 |some _,some i=>match i.methods.find? (λm=>m.name==name)with
  |some m=>bif m.path.isEmpty then(match m.func with
   |some (f,false)=>some f
   |_=>none)else none
  |none=>none
 |_,_=>none
def quiet(P:Program)(ty:TypeId)(d:List (Nat×Bool)->Operand->SV)(g:List (Nat×Ob)):Op->Option SV
 | .move x| .assign x=>some (fixNil P ty x (d [] x))
 | .pick c x y=>match c,d [] c with
  | .tmp t,.val (.bool p)=>pickV (d [(t,true)] x) (d [(t,false)] y) p
  |_,_=>none
 | .fieldAddr s x f=>addrOf P s (d [] x) f
 | .load t x=>Zug P t (d [] x) g
 | .binOp j t x y _=>match d [] x,d [] y with
  | .val (.int k a),.val (.int k' b)=>bif decide (k=k')then(intOp j k a b).map .val else none
  | .val (.string a),.val (.string b)=>(strOp j a b).map .val
  | .val (.bool a),.val (.bool b)=>eqOp P j t (.val (.bool a)) (.val (.bool b))
  | .agg xs,.agg ys=>eqOp P j t (.agg xs) (.agg ys)
  |_,_=>none
 | .build t parts=>Zrv P t (parts.toList.map λp=>(p.1,d [] p.2))
 | .field t x f=>match d [] x,Zn4 P t f with
  | .agg h,some fd=>partN P fd.type fd.offset h
  |_,_=>none
 | .nilCheck x=>match d [] x with
  | .ptr id off=>some (.ptr id off)
  | .ref off h=>some (.ref off h)
  | .clo f h=>some (.clo f h)
  | .eptr id e i off=>some (.eptr id e i off)
  | .fnv t name=>bif (Zkt P t name).isSome then some (.fnv t name)else none
  |_=>none
 | .lookup t x k ok=>match P.underlying t,d [] x,d [] k with
  |some (.map kt et),.omp id,.val (.string s)=>match P.underlying kt,P.underlying et,oget g id with
   |some .string,some (.int .i64),some (.mp es)=>match Zjb P et with
    |some (.val (.int .i64 0))=>some (bif ok then .tup [.val (.int .i64 (mget es s)),.val (.bool (mhas es s))]else .val (.int .i64 (mget es s)))
    |_=>none
   |_,_,_=>none
  |_,_,_=>none
 | .unOp j _ x=>match j,d [] x with
  | .not,.val (.bool b)=>some (.val (.bool (bnot b)))
  | .neg,.val (.int k n)=>some (.val (.int k (wneg k n)))
  | .xor,.val (.int k n)=>some (.val (.int k (wnot k n)))
  |_,_=>none
 | .convert l m x=>match P.underlying l,P.underlying m,d [] x with
  |some (.int _),some (.int k),.val (.int _ n)=>some (.val (.int k (wcv k n)))
  |some .string,some .string,.val (.string s)=>some (.val (.string s))
  |_,_,_=>none
 | .extract x i=>match d [] x with
  | .tup h=>bif Nat.ble (i+1) (lenN h)then some (lget h i)else none
  |_=>none
 | .call {callee:=.builtin b,args:=⟨[x]⟩,argTypes:=⟨[t]⟩}=>match b,P.underlying t,d [] x with
  | .len,some (.slice _),.slice _ rows _=>some (.val (.int .i64 (rlen rows)))
  | .len,some (.slice _),.bsl _ _ n=>some (.val (.int .i64 (Int.ofNat n)))
  | .len,some (.slice _),.osl id=>match oget g id with
   |some (.own _ rows)=>some (.val (.int .i64 (rlen rows)))
   |_=>none
  | .len,some (.map _ _),.omp id=>match oget g id with
   |some (.mp es)=>some (.val (.int .i64 (mlen es)))
   |_=>none
  | .len,some .string,.val (.string s)=>some (.val (.int .i64 (slen s)))
  | .len,some (.array n _),_=>some (.val (.int .i64 (Int.ofNat n)))
  | .real,some (.complex _),.val (.complex k re _)=>some (.val (.float k re))
  | .imag,some (.complex _),.val (.complex k _ im)=>some (.val (.float k im))
  |_,_,_=>none
 | .call {callee:=.builtin b,args:=⟨[x,y]⟩,.. }=>match b,d [] x,d [] y with
  | .min,.val (.int k a),.val (.int k' b)=>bif decide (k=k')then some (.val (.int k (imin a b)))else none
  | .max,.val (.int k a),.val (.int k' b)=>bif decide (k=k')then some (.val (.int k (imax a b)))else none
  | .complex,.val (.float k a),.val (.float k' b)=>bif decide (k=k')then some (.val (.complex k a b))else none
  |_,_,_=>none
 |_=>none
theorem Zcb(g:Nat):∀l:List (Nat×List SV),Zfl g l= .unk\/∃a,(g,a)∈l/\Zfl g l= .ref 0 a
 | []=>.inl rfl
 |(k,a)::r=>by
  unfold Zfl
  cases hk:Nat.beq k g with
  |true=>have:=Nat.eq_of_beq_eq_true hk;subst this;exact .inr ⟨a,Vs,rfl⟩
  |false=>
   rcases Zcb g r with h|⟨c,h1,h2⟩
   .exact .inl h
   .exact .inr ⟨c,by simp[h1],h2⟩
def Zrw(a:List (Nat×Bool))(g:Nat)(l:List (Nat×List SV)):ungd a (Zfl g l)=Zfl g l:=by
 rcases Zcb g l with e|⟨cs,_,e⟩<;>rw[e]<;>rfl
end Go.Px
namespace Go.Px
open Go.RowKit
abbrev Hp:=Nat->Nat->Option Value
inductive PRep(h:Hp):Value->SV->Prop
 |val (v:Value):PRep h v (.val v)
 |agg (vs:Array Value) (cs:List SV) (hl:vs.size=cs.length)
   (hc:∀(i:Nat) v c,vs[i]?=some v->cs[i]?=some c->PRep h v c):PRep h (.agg vs) (.agg cs)
 |empty (p:Option Addr) (cap sz tok:Nat) (ht:tok<=1) (h1:tok=1->cap=0) (hn:p=none->cap=0):PRep h (.slice p 0 cap) (.slice sz [] tok)
 |slice (b off cap sz:Nat) (rows:LL) (tok:Nat) (vs:Nat->Nat->Value)
   (hpos:0<sz) (hz:∀(i:Nat) r,rows[i]?=some r->r.length=sz)
   (hh:∀(i:Nat) r (j:Nat) c,rows[i]?=some r->r[j]?=some c->h b (off+i*sz+j)=some (vs i j))
   (hr:∀(i:Nat) r (j:Nat) c,rows[i]?=some r->r[j]?=some c->PRep h (vs i j) c)
   (ho:∀(i:Nat) r (j:Nat) c,rows[i]?=some r->r[j]?=some c->(vs i j).oneCell'=true)
   (ht:tok<=1) (h1:tok=1->cap=rows.length) (hle:rows.length<=cap):
   PRep h (.slice (some ⟨b,off,none⟩) rows.length cap) (.slice sz rows tok)
 |ref (b base off:Nat) (cells:List SV) (vs:Nat->Value)
   (hh:∀(j:Nat) c,cells[j]?=some c->h b (base+j)=some (vs j))
   (hr:∀(j:Nat) c,cells[j]?=some c->PRep h (vs j) c):
   PRep h (.pointer (some ⟨b,base+off,none⟩)) (.ref off cells)
 |clo (f:FuncId) (vs:Array Value) (cs:List SV) (hl:vs.size=cs.length)
   (hc:∀(i:Nat) v c,vs[i]?=some v->cs[i]?=some c->PRep h v c):PRep h (.func (.func f) #[] vs) (.clo f cs)
 |ifc (t:TypeId) (v:Value) (s:SV) (hv:PRep h v s):PRep h (.iface t v) (.ifc t s)
 |arr (vs:Array Value) (kd:IntKind) (m:Nat) (ns:List Int) (hm:ns.length=m) (hv:vs.toList=ns.map (Value.int kd)):PRep h (.agg vs) (.arr kd m ns)
 |fnv (t:TypeId) (name:String) (v:Value) (b:Array Value):PRep h (.func (.method name) #[.iface t v] b) (.fnv t name)
 |unk (v:Value):PRep h v .unk
structure Loc where
 blk:Nat
 off:Nat
 len:Nat
 cap:Nat
 sz:Nat
 none:Bool
def noLoc:Loc:=⟨0,0,0,0,0,true⟩
inductive Rep(h:Hp)(ρ:Nat->Loc):Value->SV->Prop
 |pure (v:Value) (s:SV) (hp:PRep h v s):Rep h ρ v s
 |agg (vs:Array Value) (cs:List SV) (hl:vs.size=cs.length)
   (hc:∀(i:Nat) v c,vs[i]?=some v->cs[i]?=some c->Rep h ρ v c):Rep h ρ (.agg vs) (.agg cs)
 |tup (vs:Array Value) (cs:List SV) (hl:vs.size=cs.length)
   (hc:∀(i:Nat) v c,vs[i]?=some v->cs[i]?=some c->Rep h ρ v c):Rep h ρ (.tuple vs) (.tup cs)
 |ptr (id off:Nat):Rep h ρ (.pointer (some ⟨(ρ id).blk,off,Option.none⟩)) (.ptr id off)
 |bsl (id off n:Nat):Rep h ρ (.slice (some ⟨(ρ id).blk,off,Option.none⟩) n n) (.bsl id off n)
 |osl0 (id:Nat) (p:Option Addr) (hn:(ρ id).none=true):Rep h ρ (.slice p 0 0) (.osl id)
 |osl (id:Nat) (hn:(ρ id).none=false):Rep h ρ (.slice (some ⟨(ρ id).blk,(ρ id).off,Option.none⟩) (ρ id).len (ρ id).cap) (.osl id)
 |eptr (id:Nat) (e:TypeId) (i:Int) (off:Nat) (hn:(ρ id).none=false):
   Rep h ρ (.pointer (some ⟨(ρ id).blk,(ρ id).off+i.toNat*(ρ id).sz+off,Option.none⟩)) (.eptr id e i off)
 |osv (id:Nat) (l hh c:Int) (p:Option Addr) (h0:0<=l) (h1:l<=hh) (h2:hh<=c) (hc:c=if(ρ id).none then 0 else((ρ id).cap:Int))
   (hp:l<c->p=some ⟨(ρ id).blk,(ρ id).off+l.toNat*(ρ id).sz,Option.none⟩):Rep h ρ (.slice p (hh-l).toNat (c-l).toNat) (.osv id l hh c)
 |omp (id:Nat):Rep h ρ (.map (some (ρ id).blk)) (.omp id)
 |aptr (id:Nat) (i:Int):Rep h ρ (.pointer (some ⟨(ρ id).blk,i.toNat,Option.none⟩)) (.aptr id i)
 |asl (id:Nat) (l hh:Int) (cap:Nat):Rep h ρ (.slice (some ⟨(ρ id).blk,l.toNat,Option.none⟩) (hh-l).toNat cap) (.asl id l hh)
def HSub(h:Hp)(w:World):Prop:=∀b o v,h b o=some v->w.cell? ⟨b,o,none⟩=some v
structure OwnOK(h:Hp)(w:World)(l:Loc)(sz:Nat)(rows:LL):Prop where
 pos:0<sz
 hsz:l.sz=sz
 hlen:l.len=rows.length
 hcap:rows.length<=l.cap
 hrow:∀(i:Nat) r,rows[i]?=some r->r.length=sz
 hblk:∃cs t fz,w.heap[l.blk]?=some (.cells cs t fz)/\l.off+l.cap*sz<=cs.size/\
  (∀o,l.off<=o->o<l.off+l.cap*sz->¬(fz.1<=o/\o<fz.2))/\
  ∀(i:Nat) r (j:Nat) c,rows[i]?=some r->r[j]?=some c->∃v,cs[l.off+i*sz+j]?=some v/\PRep h v c/\v.oneCell'=true
 hh:∀o,h l.blk o=none
 hfz:∀cs t fz,w.heap[l.blk]?=some (.cells cs t fz)->fz=(0,0)\/(sz=1/\cs.size<=fz.1)
 hcm:l.cap<=9223372036854775807
def MapOK(a:Array MapEntry)(b:List (BA×Int)):Prop:=
 a.toList.map (λe=>(e.key,e.val))=b.map (λe=>((.string e.1:Value),(.int .i64 e.2:Value)))
def ObOK(h:Hp)(a:Nat->Loc)(w:World)(id:Nat):Ob->Prop
 | .box cells=>(a id).none=false/\(∃b t,w.heap[(a id).blk]?=some (.cells b t (0,0))/\b.size=cells.length/\
   ∀(i:Nat) v c,b[i]?=some v->cells[i]?=some c->Rep h a v c/\v.oneCell'=true)/\∀o,h (a id).blk o=none
 | .own g rows=>((a id).none=true/\rows=[])\/((a id).none=false/\OwnOK h w (a id) g rows)
 | .mp j=>(a id).none=false/\(∃d e,w.heap[(a id).blk]?=some (.map d e)/\MapOK d j)/\∀o,h (a id).blk o=none
 | .arr k m f=>(a id).none=false/\(∃b t,w.heap[(a id).blk]?=some (.cells b t (0,0))/\f.length=m/\b.toList=f.map (Value.int k))/\∀o,h (a id).blk o=none
def live(a:List (Nat×Ob))(b:Nat->Loc)(id:Nat):Prop:=(∃o,oget a id=some o)/\(b id).none=false
def TRep(h:Hp)(ρ:Nat->Loc)(a:Array Value)(v:Value):SV->Prop
 | .gd t w s=>(a.getD t undef= .bool w/\Rep h ρ v s)\/(a.getD t undef≠ .bool w/\v=undef)
 |s=>Rep h ρ v s
structure Keeps(G:Nat->Prop)(w w':World):Prop where
 os:w'.os=w.os
 tape:w'.tape=w.tape
 output:w'.output=w.output
 size:w.heap.size<=w'.heap.size
 block:∀k,k<w.heap.size->¬G k->w'.heap[k]?=w.heap[k]?
def HLe(h a:Hp):Prop:=∀b o v,h b o=some v->a b o=some v
structure Gl(h:Hp)(w:World):Prop where
 cells:∀p∈Zbf,∀i c,p.2[i]?=some c->∃v,h p.1 i=some v/\PRep h v c
 size:∀p∈Zbf,0<p.2.length/\∃cs t fz,w.heap[p.1]?=some (.cells cs t fz)/\cs.size=p.2.length
structure Cx where
 w:World
 h:Hp
 G:Nat->Prop
 pin:Nat->Option Loc
 df:List Deferred:=[]
def idOK(id:Nat):Bool:=Nat.blt id 1048576||!(Nat.beq (id%128) 0||Nat.ble 64 (id%128))
structure FitsAt(X:Cx)(h:Hp)(ρ:Nat->Loc)(st:St)(a:Act)(w:World):Prop where
 size:a.tmps.size=st.tmps.length
 tm:∀(t:Nat) s,st.tmps[t]?=some s->TRep h ρ a.tmps (a.tmps.getD t undef) s
 df:a.defers=X.df
 sub:HSub h w
 obj:∀id o,oget st.objs id=some o->ObOK h ρ w id o
 inj:∀i j,live st.objs ρ i->live st.objs ρ j->i≠j->(ρ i).blk≠(ρ j).blk
 own:∀i,live st.objs ρ i->X.w.heap.size<=(ρ i).blk\/X.G (ρ i).blk
 mono:HLe X.h h
 ext:∀b,b<X.w.heap.size->¬X.G b->∀o,X.h b o=none->h b o=none
 kp:Keeps X.G X.w w
 pin:∀id l,X.pin id=some l->ρ id=l/\idOK id=false
 gl:Gl X.h X.w/\∀p∈Zbf,¬X.G p.1
def Fits(X:Cx)(b:St)(a:Act)(w:World):Prop:=∃h c,FitsAt X h c b a w
inductive Md where
 |pure
 |own
 |lend (cells:List Bool)
def Md.noLend:Md->Bool
 | .lend _=>false
 |_=>true
structure Sig where
 ps:List Md:=[]
 rs:List Md:=[]
def mdAt:List Md->Nat->Md
 | [],_=>.pure
 |m::_,0=>m
 |_::ms,n+1=>mdAt ms n
def pId(i:Nat):Nat:=1048576+128*i
def rId(i:Nat):Nat:=128*i+64
def cId(d i:Nat):Nat:=128*d+64+i
def ownH(id:Nat):SV->Option (SV×Ob)
 | .slice a rows _=>some (.osl id,.own a rows)
 | .mapv b=>some (.omp id,.mp b)
 |_=>none
def stayH(a:List Bool):Bool:=(a.drop 64).headD false
def Zih(id:Nat)(a:List Bool)(j:Nat):Nat:=bif stayH a then id+64+j else id+1+j
def Zaw(id:Nat):Nat->List Bool->List SV->Option (List SV×List (Nat×Ob))
 |_,_,[]=>some ([],[])
 |j,ms,c::cs=>match Zaw id (j+1) ms.tail cs with
  |none=>none
  |some (cs',os)=>bif ms.headD false then(match ownH (Zih id ms j) c with
    |some (hd,o)=>some (hd::cs',(Zih id ms j,o)::os)
    |none=>none)else some (c::cs',os)
def Zjp(id:Nat)(a:List Bool):List Nat:=
 bif Nat.ble a.length 64 then[]else(List.range 64).filterMap λj=>bif (a.drop j).headD false&&stayH (a.drop j)then some (id+64+j)else none
def Zb1:Nat->List Md->List Nat
 |_,[]=>[]
 |i,.lend ms::r=>Zjp (pId i) ms++Zb1 (i+1) r
 |i,_::r=>Zb1 (i+1) r
def argH(id:Nat)(m:Md)(s:SV):Option (SV×List (Nat×Ob)):=
 match m with
 | .pure=>some (s,[])
 | .own=>match ownH id s with
  |some (hd,o)=>some (hd,[(id,o)])
  |none=>none
 | .lend a=>match s with
  | .agg b=>match Zaw id 0 a b with
   |some (cs',os)=>some (.ptr id 0,(id,.box cs')::os)
   |none=>none
  |_=>none
def argsH(a:Nat->Nat)(b:List Md):Nat->List SV->Option (List SV×List (Nat×Ob))
 |_,[]=>some ([],[])
 |i,s::ss=>match argH (a i) (mdAt b i) s,argsH a b (i+1) ss with
  |some (hd,o),some (hs,os)=>some (hd::hs,o++os)
  |_,_=>none
def lentH:Nat->List Md->List SV->Option (List (Nat×Ob))
 |_,[],[]=>some []
 |_,[],_::_=>none
 |i,.lend ms::r,s::ss=>match s,lentH (i+1) r ss with
  | .agg cs,some os=>match Zaw (pId i) 0 ms cs with
   |some (cs',os')=>some ((pId i,.box cs')::os'++os)
   |none=>none
  |_,_=>none
 |_,.lend _::_,[]=>none
 |i,.pure::r,ss=>lentH (i+1) r ss
 |i,.own::r,ss=>lentH (i+1) r ss
def endH(a:Sig)(n:Nat)(b:List SV):Option (List SV×List (Nat×Ob)):=
 match argsH rId a.rs 0 (b.take n),lentH 0 a.ps (b.drop n)with
 |some (hs,os),some os'=>some (hs,os++os')
 |_,_=>none
structure Holds(h:Hp)(ρ:Nat->Loc)(objs:List (Nat×Ob))(w:World):Prop where
 sub:HSub h w
 obj:∀id o,(id,o)∈objs->ObOK h ρ w id o
 inj:∀i j,live objs ρ i->live objs ρ j->i≠j->(ρ i).blk≠(ρ j).blk
def Gv(a:List (Nat×Ob))(c:Nat->Loc)(b:Nat):Prop:=∃i,live a c i/\(c i).blk=b
def Zrf(h:Hp)(c:Nat->Loc)(a:List Value)(b:List SV):Prop:=
 a.length=b.length/\∀(i:Nat) v s,a[i]?=some v->b[i]?=some s->Rep h c v s
def rets:List Value->Value
 | [v]=>v
 |vs=>.tuple vs.toArray
def OKf(P:Program)(f:FuncId):Prop:=∃a,P.funcs[f]?=some a/\a.body.isSome=true/\a.name≠ "runtime.NumGoroutine"
def Back(j:Sig)(d:List (Nat×Ob))(h:Hp)(f:Nat->Loc)(w:World)(Q:List SV->Prop)(e:Ending)(l:World):Prop:=
 ∃(k:List Value) (g:Hp) (a:Nat->Loc) (m n:List SV) (c:List (Nat×Ob)),e= .returned (rets k)/\Q m/\endH j k.length m=some (n,c)/\
  Zrf g a k n/\Holds g a c l/\(∀i,live c a i->w.heap.size<=(a i).blk\/Gv d f (a i).blk)/\
  ((∀(i:Nat) ms,j.ps[i]?=some (.lend ms)->(f (pId i)).none=false/\(a (pId i)).blk=(f (pId i)).blk)/\∀id∈Zb1 0 j.ps,a id=f id)/\HLe h g/\
  (∀b,b<w.heap.size->¬Gv d f b->∀o,h b o=none->g b o=none)/\Keeps (Gv d f) w l
def Ct(P:Program)(f:FuncId)(d:Sig)(b:List SV)(Q:List SV->Prop):Prop:=
 OKf P f/\∀(e:List SV) (a:List (Nat×Ob)),argsH pId d.ps 0 b=some (e,a)->
  ∀(h:Hp) (c:Nat->Loc) (w:World) (g:Array Value),Holds h c a w->Gl h w->Zrf h c g.toList e->Calls P f g w (Back d a h c w Q)
def Zao:SV->Option SV
 | .val (.agg _)| .val (.tuple _)=>none
 | .val v=>some (.val v)
 | .slice b rows _=>some (.slice b rows 0)
 | .ref off a=>some (.ref off a)
 | .clo f a=>some (.clo f a)
 | .ifc t s=>some (.ifc t s)
 |_=>none
def pureL:List SV->Option (List SV)
 | []=>some []
 |c::cs=>match Zao c,pureL cs with
  |some c,some cs=>some (c::cs)
  |_,_=>none
def Zc2:SV->Option SV
 | .agg a=>(pureL a).map .agg
 |s=>Zao s
def fixL'(P:Program):List TypeId->List SV->List SV
 |t::ts,c::cs=>fixSz P t c::fixL' P ts cs
 |_,cs=>cs
def normT(P:Program)(t:TypeId)(s:SV):SV:=
 match s with
 | .agg a=>.agg (fixL' P (Zdh P 8 t) a)
 |s=>fixSz P t s
def Zf4(a:List (Nat×Ob))(b:Nat):SV->Option (SV×List (Option Nat×Nat))
 | .osl id=>match oget a id with
  |some (.own sz rows)=>some (.slice sz rows 0,[(some id,b)])
  |_=>none
 | .omp id=>match oget a id with
  |some (.mp es)=>some (.mapv es,[(some id,b)])
  |_=>none
 | .slice sz [] 1=>some (.slice sz [] 0,[(none,b)])
 |_=>none
def Za1(a:List (Nat×Ob))(b:Nat):Nat->List Bool->List SV->Option (List SV×List (Option Nat×Nat))
 |_,_,[]=>some ([],[])
 |j,ms,c::cs=>match(bif ms.headD false then Zf4 a (Zih b ms j) c else(Zao c).map λc=>(c,[])),Za1 a b (j+1) ms.tail cs with
  |some (d,l),some (ds,ls)=>some (d::ds,l++ls)
  |_,_=>none
def Zts:SV->Option SV
 | .arr a m b=>some (.arr a m b)
 |s=>Zc2 s
def Zf5(a:List (Nat×Ob))(b:Nat)(m:Md)(s:SV):Option (SV×List (Option Nat×Nat)):=
 match m with
 | .pure=>(Zts s).map λd=>(d,[])
 | .own=>Zf4 a b s
 | .lend c=>match s with
  | .ptr id 0=>match oget a id with
   |some (.box cs)=>(Za1 a b 0 c cs).map λp=>(.agg p.1,(some id,b)::p.2)
   |_=>none
  |_=>none
def datT(P:Program)(m:Md)(t:TypeId):TypeId:=
 match m,P.underlying t with
 | .lend _,some (.pointer e)=>e
 |_,_=>t
def normM(P:Program)(m:Md)(t:TypeId)(s:SV):SV:=
 match m,s with
 | .lend _,.agg cs=>.agg (fixL' P (Zdh P 8 (datT P m t)) cs)
 |_,s=>normT P t s
def Za3(P:Program)(a:List (Nat×Ob))(b:Nat->Nat)(c:List Md):Nat->List TypeId->List SV->Option (List SV×List (Option Nat×Nat))
 |_,[],[]=>some ([],[])
 |i,t::ts,s::ss=>match Zf5 a (b i) (mdAt c i) s,Za3 P a b c (i+1) ts ss with
  |some (d,l),some (ds,ls)=>some (normM P (mdAt c i) t d::ds,l++ls)
  |_,_=>none
 |_,_,_=>none
mutual
def Zas:SV->Bool
 | .val _| .slice .. | .ref .. | .clo .. | .ifc .. | .mapv _| .arr .. =>true
 | .agg a=>Zam a
 |_=>false
def Zam:List SV->Bool
 | []=>true
 |c::cs=>Zas c&&Zam cs
end
def isErr:List (String×TypeId)->Bool
 | [(n,_)]=>n== "Error"
 |_=>false
def Zaz(P:Program):Nat->TypeId->(List SV->Prop)->Prop
 |0,_,_=>False
 |n+1,t,K=>match P.underlying t with
  |some .bool=>∃b,K [.val (.bool b)]
  |some (.int k)=>∃x:Int,K [.val (.int k x)]
  |some .string=>∃s,K [.val (.string s)]
  |some (.slice e)=>match szT P e with
   |some j=>∃rows,K [.slice j rows 0]
   |none=>False
  |some (.map _ _)=>∃d,K [.mapv d]
  |some (.func _ _ _)=>∃(f:FuncId) (a:List SV),K [.clo f a]
  |some (.interface ms)=>bif isErr ms.toList then∃b:Bool,ifB b (K [.val .nilIface]) (∃i:TypeId,K [.ifc i .unk])else∃b:Bool,ifB b (K [.val .nilIface]) (∃(i:TypeId) (s:SV),K [.ifc i s])
  |some (.float k)=>∃n:Nat,K [.val (.float k n)]
  |some (.complex k)=>∃g h:Nat,K [.val (.complex k g h)]
  |some (.struct fs)=>(fs.toList.foldr (λf k c=>Zaz P n f.type λa=>k (c++a)) K) []
  |some (.array m e)=>((List.range m).foldr (λ_ k c=>Zaz P n e λa=>k (c++a)) K) []
  |_=>∃s,Zas s=true/\K [s]
def bigT(P:Program)(t:TypeId):Option (IntKind×Nat):=
 match P.underlying t with
 |some (.array m e)=>bif Nat.blt 16 m then(match P.underlying e,szT P e,szT P t with
  |some (.int kd),some 1,some n=>bif Nat.beq n m then some (kd,m)else none
  |_,_,_=>none)else none
 |_=>none
def shapeV(P:Program)(t:TypeId)(K:SV->Prop):Prop:=
 match bigT P t with
 |some (kd,m)=>∃b:List Int,K (.arr kd m b)
 |none=>Zaz P 8 t λa=>bif Za2 P t then K (.agg a)else match a with
  | [c]=>K c
  |_=>False
def Zmb(P:Program):List TypeId->(List SV->Prop)->Prop
 | [],K=>K []
 |t::ts,K=>shapeV P t λs=>Zmb P ts λa=>K (s::a)
def Zpp(P:Program):List TypeId->(List SV->Prop)->Prop
 | [],K=>K []
 |t::ts,K=>Zaz P 8 t λa=>Zpp P ts λb=>K (.agg a::b)
def shapeRL(P:Program)(c d:List TypeId)(K:List SV->Prop):Prop:=Zmb P c λa=>Zpp P d λb=>K (a++b)
def Zex(P:Program)(a:List Md):Nat->List TypeId->List TypeId
 |_,[]=>[]
 |i,t::ts=>match mdAt a i with
  | .lend _=>datT P (mdAt a i) t::Zex P a (i+1) ts
  |_=>Zex P a (i+1) ts
def St.drop(a:St)(id:Nat):St:={tmps:=hmapL (killG id) a.tmps,objs:=hmapO (killG id) (odel a.objs id)}
def St.bind(a:St)(id:Nat)(o:Ob):St:={tmps:=(a.drop id).tmps,objs:=(id,Zdy (killG id) o)::(a.drop id).objs}
def St.frz(a:St)(id:Nat):St:=
 match oget a.objs id with
 |some (.own sz rows)=>{tmps:=hmapL (frzG id sz rows) a.tmps,objs:=hmapO (frzG id sz rows) (odel a.objs id)}
 |_=>a
def St.frzAll:List Nat->St->St
 | [],st=>st
 |id::ids,st=>St.frzAll ids (st.frz id)
mutual
def Zw6:SV->List Nat
 | .osl id=>[id]
 | .agg a=>Zfc a
 | .tup a=>Zfc a
 |_=>[]
def Zfc:List SV->List Nat
 | []=>[]
 |c::cs=>Zw6 c++Zfc cs
end
def Zgl:List Bool->List SV->List Nat
 |_,[]=>[]
 |ms,c::cs=>bif ms.headD false then Zgl ms.tail cs else Zw6 c++Zgl ms.tail cs
def frzArg(a:List (Nat×Ob))(m:Md)(s:SV):List Nat:=
 match m with
 | .pure=>Zw6 s
 | .own=>[]
 | .lend b=>match s with
  | .ptr id _=>match oget a id with
   |some (.box cs)=>Zgl b cs
   |_=>[]
  |_=>[]
def Zcl(a:List (Nat×Ob))(b:List Md):Nat->List SV->List Nat
 |_,[]=>[]
 |i,s::ss=>frzArg a (mdAt b i) s++Zcl a b (i+1) ss
def one:List SV->SV
 | [s]=>s
 |ss=>.tup ss
def Zbq:List Nat->Bool
 | []=>true
 |x::xs=>!(xs.any λy=>Nat.beq x y)&&Zbq xs
def Cl(P:Program)(f:FuncId)(b:Sig)(c:List SV)(K:List SV->Prop):Prop:=∃Q,Ct P f b c Q/\∀a,Q a->K a
def Za7(a:List Md):List (Option Nat×Nat)->St->St
 | [],st=>st
 |(none,_)::l,st=>Za7 a l st
 |(some id,cid)::l,st=>Za7 a l (match mdAt a ((cid-1048576)/128),cid%128 with
  | .lend _,c=>bif Nat.beq c 0||Nat.ble 64 c then{st with objs:=odel st.objs id}else st.drop id
  |_,_=>st.drop id)
def Zi3:List (Nat×Nat×Ob)->St->St
 | [],st=>st
 |(id,_,o)::l,st=>Zi3 l (st.bind id o)
def Zd4(a:Nat):List (Option Nat×Nat)->Option Nat
 | []=>none
 |(some id,c)::l=>bif Nat.beq c a then some id else Zd4 a l
 |(none,_)::l=>Zd4 a l
def Zf6(b:List (Option Nat×Nat))(a id:Nat):Nat->List Bool->List SV->Option (List SV×List (Nat×Nat×Ob)×List (Nat×Ob))
 |_,_,[]=>some ([],[],[])
 |j,ms,c::cs=>match Zf6 b a id (j+1) ms.tail cs with
  |none=>none
  |some (cs',im,sx)=>bif ms.headD false then
    (bif stayH ms then(match Zd4 (a+64+j) b,Nat.blt j 64 with
     |some k,true=>(match ownH k c with
      |some (hd,o)=>some (hd::cs',im,(k,o)::sx)
      |none=>none)
     |_,_=>none)
    else match ownH (id+1+j) c with
     |some (hd,o)=>some (hd::cs',(id+1+j,a+1+j,o)::im,sx)
     |none=>none)
   else some (c::cs',im,sx)
def Zc9(a:List (Option Nat×Nat)):Nat->List Md->List SV->Option (List (Nat×Nat×Ob)×List (Nat×Ob))
 |_,[],[]=>some ([],[])
 |_,[],_::_=>none
 |i,.lend ms::r,s::ss=>match s,Zd4 (pId i) a,Zc9 a (i+1) r ss with
  | .agg cs,some id,some (im,bx)=>match Zf6 a (pId i) id 0 ms cs with
   |some (cs',im',sx)=>some (im'++im,(id,.box cs')::sx++bx)
   |none=>none
  |_,_,_=>none
 |_,.lend _::_,[]=>none
 |i,.pure::r,ss=>Zc9 a (i+1) r ss
 |i,.own::r,ss=>Zc9 a (i+1) r ss
def resBack(b:Sig)(a:Option Nat)(c:List SV):Option (SV×List (Nat×Nat×Ob)):=
 match a with
 |none=>some (.unk,[])
 |some d=>match argsH (cId d) b.rs 0 c with
  |some (hs,os)=>some (one hs,os.map λp=>(p.1,rId (p.1-cId d 0),p.2))
  |none=>none
def Zcm:List SV->Bool
 | []=>true
 | .val _::ss=>Zcm ss
 |_::_=>false
def callC(P:Program)(f:FuncId)(a:Sig)(b c:List TypeId)(i g:List SV)(d:Option Nat)(st0 h:St)(K:St->Prop):Prop:=
 match Za3 P h.objs pId a.ps 0 b i with
 |none=>False
 |some (as,ps)=>bif Zbq (ps.filterMap (·.1))&&Zbq (ps.map (·.2))&&Nat.ble a.ps.length b.length&&a.rs.all Md.noLend then
   Cl P f a (as++g) λj=>shapeRL P c (Zex P a.ps 0 b) λe=>j=e/\
    bif ps.isEmpty&&a.rs.isEmpty&&Zcm e then K (st0.put d (one e))else
    match Zc9 ps 0 a.ps (e.drop c.length),resBack a d (e.take c.length)with
    |some (im,bx),some (r,im')=>bif Zbq ((im++im').map (·.1)++bx.map (·.1))&&Zbq ((im++im').map (·.2.1))&&(im++im').all (λp=>idOK p.1&&idOK p.2.1)then
      K (St.put {tmps:=(Zi3 (im++im') (Za7 a.ps ps h)).tmps,objs:=bx++(Zi3 (im++im') (Za7 a.ps ps h)).objs} d r)else False
    |_,_=>False
  else False
def loud(P:Program):Op->Bool
 | .alloc _| .box .. | .store .. | .buildSlice .. | .makeSlice .. | .makeMap .. | .mapUpdate .. =>true
 | .call {callee:=.builtin .append,.. }| .call {callee:=.builtin .copy,.. }| .call {callee:=.builtin .clear,.. }| .call {callee:=.value _,.. }| .call {callee:=.invoke _ _,.. }=>true
 | .convert a b _=>match P.underlying a,P.underlying b with
  |some .string,some (.slice _)=>true
  |some (.slice _),some (.slice _)=>true
  |_,_=>false
 |_=>false
def caseN(n:Int)(K:Nat->Prop):Nat->Nat->Prop
 |0,_=>True
 |m+1,j=>(n=Int.ofNat j->K j)/\caseN n K m (j+1)
def arrIx(m:Nat)(i:Operand)(n:Int)(K:Nat->Prop):Prop:=
 match i with
 | .const (.int _ (.ofNat j))=>bif Nat.blt j m then K j else False
 |_=>bif Nat.ble m 16 then(0<=n/\n<Int.ofNat m)/\caseN n K m 0 else False
def bndOf(a:List (Nat×Bool)->Operand->SV)(d:Int):Option Operand->Option Int
 |none=>some d
 |some x=>match a [] x with
  | .val (.int _ n)=>some n
  |_=>none
def isNilC:Operand->Bool
 | .const (.slice none 0 0)=>true
 |_=>false
def isNilI:Operand->Bool
 | .const .nilIface=>true
 |_=>false
def Zjq(a:List (Nat×Ob)):SV->Option (Nat×LL)
 | .slice b rows _=>some (b,rows)
 | .osl id=>match oget a id with
  |some (.own b rows)=>some (b,rows)
  |_=>none
 |_=>none
def St.val(a:St)(x:Operand):SV:=ungd [] (ev a x)
def most:Int:=2147483648
def Zb2(P:Program)(e:TypeId):Bool:=
 match P.info? e with
 |some i=>Nat.ble i.bytes 8192&&Nat.blt 0 i.size&&(match i.zero with|some z=>Nat.beq z.cells.size i.size|none=>false)
 |none=>false
def Zdw(zero:List SV)(parts:List (Nat×SV)):Nat->Nat->Option LL
 |0,_=>some []
 |n+1,i=>match(match parts.find? (λp=>Nat.beq p.1 i)with
     |some p=>match Zc2 p.2 with
      |some s=>some (cellsOf s)
      |none=>none
     |none=>some zero),Zdw zero parts n (i+1)with
  |some r,some rs=>bif Nat.beq (lenN r) (lenN zero)then some (r::rs)else none
  |_,_=>none
def Zf7(P:Program)(e:TypeId):Option (List SV):=
 match Zjb P e with
 |some z=>pureL (cellsOf z)
 |none=>none
def srcOK(z:Nat):Option Nat->Bool
 |none=>Nat.beq z 1
 |some a=>Nat.beq a z||Nat.beq a 0
def Zii(P:Program)(a:St)(b:TypeId)(x:SV):Option (Option Nat×LL):=
 match P.underlying b,x with
 |some (.slice _),x=>(Zjq a.objs x).map λp=>(some p.1,p.2)
 |some .string,.val (.string s)=>some (none,Zch s)
 |_,_=>none
def copyN(a:IntKind)(n:Int)(rows:LL)(K:List SV->Prop):Nat->List SV->Prop
 |0,acc=>K acc
 |m+1,acc=>(n=Int.ofNat (lenN acc)->K acc)/\(Int.ofNat (lenN acc)<n->∃x:Int,rget rows (Int.ofNat (lenN acc))=[.val (.int a x)]/\copyN a n rows K m (acc++[.val (.int a x)]))
def St.frzBox(b:St)(id:Nat):Option St:=
 match oget b.objs id with
 |some (.box cs)=>match pureL cs with
  |some a=>some {tmps:=hmapL (frzBG id a) b.tmps,objs:=hmapO (frzBG id a) (odel b.objs id)}
  |none=>none
 |_=>none
def ptrIds:List SV->List Nat
 | []=>[]
 | .ptr id _::cs=>id::ptrIds cs
 |_::cs=>ptrIds cs
def St.frzBoxes:List Nat->St->Option St
 | [],st=>some st
 |id::ids,st=>match oget st.objs id with
  |some (.box cs)=>match(St.frzAll (Zfc cs) st).frzBox id with
   |some a=>St.frzBoxes ids a
   |none=>none
  |_=>none
def pureOps(b:List Operand)(a:St):St:=St.frzAll (Zfc (b.map a.val)) a
def fres(P:Program)(t:TypeId)(R:Value->Prop)(K:SV->Prop):Prop:=
 match P.underlying t with
 |some .bool=>∃b,R (.bool b)/\K (.val (.bool b))
 |some (.int k)=>∃x:Int,R (.int k x)/\K (.val (.int k x))
 |some (.float k)=>∃n:Nat,R (.float k n)/\K (.val (.float k n))
 |some (.complex k)=>∃a c:Nat,R (.complex k a c)/\K (.val (.complex k a c))
 |_=>False
def Zrg(a:IntKind):List SV->Option (List Int)
 | []=>some []
 | .val (.int kd' x)::cs=>bif decide (kd'=a)then(match Zrg a cs with|some ns=>some (x::ns)|none=>none)else none
 |_=>none
def putsN(a:IntKind)(i v:Int):Nat->List Int->List SV
 |_,[]=>[]
 |j,x::xs=>.val (.int a (apick x j i v))::putsN a i v (j+1) xs
def jmode(a:St):Bool:=
 match oget a.objs 6 with
 |some (.own 0 [])=>true
 |_=>false
def stillC(P:Program)(o:Oper)(g:St)(K:St->Prop):Prop:=
 match o.op with
 | .indexAddr t x i=>match P.underlying t,g.val x,g.val i with
  |some (.slice e),.slice sz rows _,.val (.int _ n)=>match szT P e with
   |some z=>bif Nat.beq z sz&&Nat.blt 0 z then(0<=n/\n<rlen rows)/\Zaz P 8 e (λp=>rget rows n=p/\K (g.put o.dst (.ref 0 p)))else False
   |none=>False
  |some (.slice e),.osl id,.val (.int _ n)=>match szT P e,oget g.objs id with
   |some z,some (.own sz rows)=>bif Nat.beq z sz&&Nat.blt 0 z then(0<=n/\n<rlen rows)/\K (g.put o.dst (.eptr id e n 0))else False
   |_,_=>False
  |some (.array m e),.ptr id off,.val (.int _ n)=>match szT P e,oget g.objs id with
   |some 1,some (.arr _ m' _)=>bif Nat.beq m m'&&Nat.beq off 0 then(0<=n/\n<Int.ofNat m)/\K (g.put o.dst (.aptr id n))else False
   |some z,_=>bif jmode g&&Nat.beq z 1&&Nat.beq off 0 then(0<=n/\n<Int.ofNat m)/\K (g.put o.dst (.aptr id n))else arrIx m i n λj=>K (g.put o.dst (.ptr id (off+j*z)))
   |none,_=>False
  |some (.array m e),.eptr id e' i' off,.val (.int _ n)=>match szT P e with
   |some z=>arrIx m i n λj=>K (g.put o.dst (.eptr id e' i' (off+j*z)))
   |none=>False
  |some (.array m e),.ref off p,.val (.int _ n)=>match szT P e with
   |some z=>arrIx m i n λj=>K (g.put o.dst (.ref (off+j*z) p))
   |none=>False
  |_,_,_=>False
 | .load t x=>match g.val x with
  | .eptr id e i off=>match oget g.objs id,szT P e with
   |some (.own sz rows),some z=>bif Nat.beq z sz then(0<=i/\i<rlen rows)/\Zaz P 8 e (λp=>rget rows i=p/\match partN P t off p with
     |some v=>K (g.put o.dst v)
     |none=>False)else False
   |_,_=>False
  | .ptr id off=>match oget g.objs id,bigT P t with
   |some (.arr kd m q),some (kd',m')=>bif Nat.beq m m'&&Nat.beq off 0&&decide (kd=kd')then K (g.put o.dst (.arr kd m q))else False
   |_,_=>False
  | .aptr id n=>match oget g.objs id,P.underlying t,szT P t with
   |some (.arr kd m q),some (.int kd'),some 1=>bif decide (kd=kd')then(0<=n/\n<Int.ofNat m)/\K (g.put o.dst (.val (.int kd (aget q n))))else False
   |some (.box p),some (.int kd),some 1=>match Zrg kd p with
    |some q=>(0<=n/\n<Int.ofNat (lenN p))/\K (g.put o.dst (.val (.int kd (aget q n))))
    |none=>False
   |_,_,_=>False
  |_=>False
 | .index t x i=>match P.underlying t,g.val x,g.val i with
  |some .string,.val (.string s),.val (.int _ n)=>(0<=n/\n<slen s)/\K (g.put o.dst (.val (.int .u8 (sbyte s n))))
  |some (.array _ _),.arr kd m' q,.val (.int _ n)=>match bigT P t with
   |some (kd',m)=>bif Nat.beq m m'&&decide (kd=kd')then(0<=n/\n<Int.ofNat m)/\K (g.put o.dst (.val (.int kd (aget q n))))else False
   |none=>False
  |some (.array m e),.agg p,.val (.int _ n)=>match szT P e with
   |some z=>arrIx m i n λj=>match partN P e (j*z) p with
    |some v=>K (g.put o.dst v)
    |none=>False
   |none=>False
  |_,_,_=>False
 | .binOp u t x y _=>match g.val x,g.val y with
  | .val (.int kd a),.val (.int kd' b)=>match u with
   | .quo=>bif decide (kd=kd')then b≠0/\K (g.put o.dst (.val (.int kd (wquo kd a b))))else False
   | .rem=>bif decide (kd=kd')then b≠0/\K (g.put o.dst (.val (.int kd (wrem a b))))else False
   | .shl=>0<=b/\K (g.put o.dst (.val (.int kd (wshl kd a b))))
   | .shr=>0<=b/\K (g.put o.dst (.val (.int kd (wshr kd a b))))
   |_=>False
  | .val (.string a),.val (.string b)=>match u with
   | .add=>lsum (slen a) (slen b)<=9223372036854775807/\K (g.put o.dst (.val (.string (scat a b))))
   |_=>False
  | .val (.float k a),.val (.float k' b)=>fres P o.type (λr=>fbin P u t (.float k a) (.float k' b) r) λs=>K (g.put o.dst s)
  | .val (.complex k a b),.val (.complex k' c d)=>fres P o.type (λr=>fbin P u t (.complex k a b) (.complex k' c d) r) λs=>K (g.put o.dst s)
  |sx,_=>bif isNilC y then(match P.underlying t,Zjq g.objs sx,u with
    |some (.slice _),some (_,rows),.eql=>∀b:Bool,(b=true->rlen rows=0)->K (g.put o.dst (.val (.bool b)))
    |some (.slice _),some (_,rows),.neq=>∀b:Bool,(b=false->rlen rows=0)->K (g.put o.dst (.val (.bool b)))
    |_,_,_=>False)else bif isNilI y then(match P.underlying t,u with
    |some (.interface _),.eql=>isIfc sx=true/\K (g.put o.dst (.val (.bool (Zhp sx))))
    |some (.interface _),.neq=>isIfc sx=true/\K (g.put o.dst (.val (.bool (!Zhp sx))))
    |_,_=>False)else False
 | .slice t x D w E=>match P.underlying t,(pureOps [x] g).val x with
  |some .string,.val (.string s)=>match bndOf (λ_=>(pureOps [x] g).val) 0 D,bndOf (λ_=>(pureOps [x] g).val) (slen s) w,E with
   |some l,some h,none=>(0<=l/\l<=h/\h<=slen s)/\K ((pureOps [x] g).put o.dst (.val (.string (ssub s l h))))
   |_,_,_=>False
  |some (.slice e),.slice sz rows _=>match szT P e,bndOf (λ_=>(pureOps [x] g).val) 0 D,bndOf (λ_=>(pureOps [x] g).val) (rlen rows) w,E with
   |some z,some l,some h,none=>bif Nat.beq z sz||Nat.beq sz 0 then(0<=l/\l<=h/\h<=rlen rows)/\K ((pureOps [x] g).put o.dst (.slice sz (rsub rows l h) 0))else False
   |some z,some l,some h,some m=>match w,(pureOps [x] g).val m with
    |some _,.val (.int _ mm)=>bif Nat.beq z sz||Nat.beq sz 0 then(0<=l/\l<=h/\h=mm/\h<=rlen rows)/\K ((pureOps [x] g).put o.dst (.slice sz (rsub rows l h) 1))else False
    |_,_=>False
   |_,_,_,_=>False
  |some (.array m e),.ptr id off=>match oget g.objs id with
   |some (.arr _ m' _)=>match szT P e,bndOf (λ_=>(pureOps [x] g).val) 0 D,bndOf (λ_=>(pureOps [x] g).val) (Int.ofNat m) w,E with
    |some 1,some l,some h,none=>bif Nat.beq m m'&&Nat.beq off 0 then(0<=l/\l<=h/\h<=Int.ofNat m/\l<Int.ofNat m)/\K ((pureOps [x] g).put o.dst (.asl id l h))else False
    |_,_,_,_=>False
   |_=>match szT P e,D,w,E with
    |some 1,none,none,none=>K (g.put o.dst (.bsl id off m))
    |_,_,_,_=>False
  |_,_=>False
 | .makeFunc (.func f) first captured=>bif Nat.beq first.size 0 then
   (match St.frzBoxes (ptrIds (captured.toList.map g.val)) g with
   |none=>False
   |some F=>match pureL (captured.toList.map (pureOps captured.toList F).val)with
    |some p=>K ((pureOps captured.toList F).put o.dst (.clo f p))
    |none=>False)else False
 | .makeFunc (.method name) ⟨[x]⟩ _=>match g.val x with
  | .ifc t _=>K (g.put o.dst (.fnv t name))
  |_=>False
 | .convert A C x=>match P.underlying A,P.underlying C,g.val x with
  |some (.slice e),some .string,.asl id l h=>match P.underlying e,oget g.objs id with
   |some (.int .u8),some (.arr kd m q)=>(0<=l/\l<=h/\h<=Int.ofNat m)/\Zbt (arows kd (asub q l h))/\K (g.put o.dst (.val (.string (bstr (arows kd (asub q l h))))))
   |_,_=>False
  |some (.slice e),some .string,v=>match P.underlying e,Zjq g.objs v with
   |some (.int .u8),some (_,rows)=>Zbt rows/\K (g.put o.dst (.val (.string (bstr rows))))
   |_,_=>False
  |some (.int _),some (.float _),.val (.int k n)=>fres P o.type (λr=>fcvt P A C (.int k n) r) λs=>K (g.put o.dst s)
  |some (.float _),some (.int _),.val (.float k n)=>fres P o.type (λr=>fcvt P A C (.float k n) r) λs=>K (g.put o.dst s)
  |_,_,_=>False
 | .makeInterface t x=>match P.underlying t with
  |none|some (.interface _)=>False
  |some _=>match Zc2 ((pureOps [x] g).val x)with
   |some s=>K ((pureOps [x] g).put o.dst (.ifc t s))
   |none=>False
 | .typeAssert x _ G ok=>match P.underlying G with
  |none|some (.interface _)=>False
  |some _=>match g.val x with
   | .ifc t s=>bif Nat.beq t G then K (g.put o.dst (bif ok then .tup [s,.val (.bool true)]else s))else bif ok then(match Zjb P G with
    |some z=>K (g.put o.dst (.tup [z,.val (.bool false)]))
    |none=>False)else False
   |_=>False
 |_=>False
def zeroL(a:IntKind):Nat->List SV->Bool
 |0,[]=>true
 |m+1,.val (.int kd' (.ofNat 0))::zs=>decide (a=kd')&&zeroL a m zs
 |_,_=>false
def dstOK:Option Nat->Bool
 |some d=>Nat.blt d 8191
 |none=>true
def Znn:List SV->Option (List Value)
 | []=>some []
 | .val v::xs=>match Znn xs with
  |some a=>some (v::a)
  |none=>none
 |_::_=>none
def Zw7(P:Program)(o:Oper)(t:TypeId)(a:IntKind)(m:Nat)(b:St)(K:St->Prop):Prop:=
 match Zjb P t,o.dst with
 |some (.agg zs),some d=>bif zeroL a m zs then K ((b.bind (128*d) (.arr a m (azero m))).put o.dst (.ptr (128*d) 0))else False
 |_,_=>False
def arrOf:SV->Option (IntKind×Nat×List Int)
 | .arr a m b=>some (a,m,b)
 |_=>none
def arrBox(o:Oper)(a:IntKind)(m:Nat)(b:List Int)(c:St)(K:St->Prop):Prop:=
 match o.dst with
 |some d=>K ((c.bind (128*d) (.arr a m b)).put o.dst (.ptr (128*d) 0))
 |none=>False
def Zw8(o:Oper)(id:Nat)(i:Int)(y:SV)(a:St)(K:St->Prop):Prop:=
 match oget a.objs id,y with
 |some (.arr kd m b),.val (.int kd' v)=>bif decide (kd=kd')then(0<=i/\i<Int.ofNat m)/\K (({a with objs:=oput a.objs id (.arr kd m (aset b i v))}:St).put o.dst .unk)else False
 |some (.box cs),.val (.int kd v)=>match Zrg kd cs with
  |some b=>(0<=i/\i<Int.ofNat (lenN cs))/\K (({a with objs:=oput a.objs id (.box (putsN kd i v 0 b))}:St).put o.dst .unk)
  |none=>False
 |_,_=>False
def arrPut(o:Oper)(id off:Nat)(a:IntKind)(m n:Nat)(y:SV)(b:St)(K:St->Prop):Prop:=
 match y with
 | .arr c d e=>bif decide (a=c)&&Nat.beq m d&&Nat.beq off 0&&Nat.beq n m then K (({b with objs:=oput b.objs id (.arr a m e)}:St).put o.dst .unk)else False
 |_=>False
def loudC(P:Program)(q:FuncId->Sig)(D:TypeId->Sig)(o:Oper)(a:St)(K:St->Prop):Prop:=
 bif dstOK o.dst then match o.op with
 | .alloc t=>match bigT P t with
  |some (kd,m)=>Zw7 P o t kd m a K
  |none=>match Zjb P t,o.dst with
   |some z,some d=>K ((a.bind (128*d) (.box (cellsOf z))).put o.dst (.ptr (128*d) 0))
   |_,_=>False
 | .box _ x=>match arrOf (a.val x)with
  |some (kd,m,ns)=>arrBox o kd m ns a K
  |none=>match o.dst with
   |some d=>bif boxL (cellsOf (a.val x))then K ((a.bind (128*d) (.box (cellsOf (a.val x)))).put o.dst (.ptr (128*d) 0))else False
   |none=>False
 | .store t x y=>match a.val x,szT P t with
  | .ptr id off,some n=>match oget a.objs id with
   |some (.box h)=>bif boxL (cellsOf (a.val y))&&Nat.beq (lenN (cellsOf (a.val y))) n then
     (match Zbb off (cellsOf (a.val y)) h with
     |some g=>K (({a with objs:=oput a.objs id (.box g)}:St).put o.dst .unk)
     |none=>False)else False
   |some (.arr kd m _)=>arrPut o id off kd m n (a.val y) a K
   |_=>False
  | .aptr id i,some 1=>Zw8 o id i (a.val y) a K
  | .eptr id e i off,some n=>match oget (pureOps [y] a).objs id,szT P e,Zc2 ((pureOps [y] a).val y)with
   |some (.own sz rows),some z,some s=>bif Nat.beq z sz&&Nat.beq (lenN (cellsOf s)) n then
     (0<=i/\i<rlen rows)/\(bif Nat.beq n z&&Nat.beq off 0 then K (({pureOps [y] a with objs:=oput (pureOps [y] a).objs id (.own sz (rset rows i (cellsOf s)))}:St).put o.dst .unk)
      else Zaz P 8 e λh=>rget rows i=h/\match Zbb off (cellsOf s) h with
       |some g=>K (({pureOps [y] a with objs:=oput (pureOps [y] a).objs id (.own sz (rset rows i g))}:St).put o.dst .unk)
       |none=>False)else False
   |_,_,_=>False
  |_,_=>False
 | .buildSlice t len parts=>match P.underlying t,o.dst with
  |some (.slice e),some d=>match Zf7 P e with
   |some z=>bif Zb2 P e&&Nat.ble (len*lenN z) 16777216&&Nat.beq (lenN z) ((szT P e).getD 0)&&parts.toList.all (λp=>Nat.blt p.1 len)&&Zbq (parts.toList.map (·.1))then
     (match Zdw z (parts.toList.map λp=>(p.1,(pureOps (parts.toList.map (·.2)) a).val p.2)) len 0 with
     |some rows=>K (((pureOps (parts.toList.map (·.2)) a).bind (128*d+64) (.own (lenN z) rows)).put o.dst (.osl (128*d+64)))
     |none=>False)else False
   |none=>False
  |_,_=>False
 | .makeSlice t l c=>match P.underlying t,o.dst,a.val l,a.val c with
  |some (.slice e),some d,.val (.int .i64 n),.val (.int .i64 m)=>match Zf7 P e with
   |some z=>bif Zb2 P e&&Nat.beq (lenN z) ((szT P e).getD 0)then
     (0<=n/\n<=m/\m<=most)/\K ((a.bind (128*d+64) (.own (lenN z) (rrep n z))).put o.dst (.osl (128*d+64)))else False
   |none=>False
  |_,_,_,_=>False
 | .makeMap t r=>match P.underlying t,o.dst with
  |some (.map _ _),some d=>match r.map a.val with
   |none|some (.val (.int _ _))=>K ((a.bind (128*d+64) (.mp [])).put o.dst (.omp (128*d+64)))
   |_=>False
  |_,_=>False
 | .mapUpdate t m k v=>match P.underlying t,a.val m,a.val k,a.val v with
  |some (.map kt _),.omp id,.val (.string s),.val (.int .i64 n)=>match P.underlying kt,oget a.objs id with
   |some .string,some (.mp es)=>K (({a with objs:=oput a.objs id (.mp (mset es s n))}:St).put o.dst .unk)
   |_,_=>False
  |_,_,_,_=>False
 | .convert w A x=>match P.underlying w,P.underlying A,a.val x with
  |some .string,some (.slice e),.val (.string s)=>match P.underlying e,o.dst with
   |some (.int .u8),some d=>slen s<=most/\K ((a.bind (128*d+64) (.own 1 (Zch s))).put o.dst (.osl (128*d+64)))
   |_,_=>False
  |some (.slice e),some (.slice _),.osl id=>match P.underlying e,oget a.objs id with
   |some (.int .u8),some (.own sz rows)=>bif Nat.beq w A&&Nat.beq sz 1 then 0<rlen rows/\K (({a with objs:=oput a.objs id (.own 1 rows)}:St).put o.dst (.osl id))else False
   |_,_=>False
  |_,_,_=>False
 | .call {callee:=.builtin .append,args:=⟨[x,y]⟩,argTypes:=⟨[t1,t2]⟩}=>match P.underlying t1,o.dst,Zii P a t2 (a.val y)with
  |some (.slice e),some d,some (sz',ys)=>match szT P e with
   |some z=>bif Zb2 P e&&srcOK z sz' then
     (match a.val x with
     | .osl id=>match oget a.objs id with
      |some (.own sz rows)=>bif Nat.beq z sz then lsum (rlen rows) (rlen ys)<=most/\K (((a.drop id).bind (128*d+64) (.own z (rapp rows ys))).put o.dst (.osl (128*d+64)))else False
      |_=>False
     | .slice _ [] 1=>rlen ys<=most/\K ((a.bind (128*d+64) (.own z ys)).put o.dst (.osl (128*d+64)))
     |_=>False)else False
   |none=>False
  |_,_,_=>False
 | .call {callee:=.builtin .copy,args:=⟨[x,y]⟩,argTypes:=⟨[t1,t2]⟩}=>match P.underlying t1,a.val x,Zii P a t2 (a.val y)with
  |some (.slice e),.bsl id off m,some (some _,ys)=>match szT P e,oget a.objs id,P.underlying e with
   |some 1,some (.box h),some (.int kd)=>bif Nat.ble m 4 then copyN kd (imin (rlen ys) (Int.ofNat m)) ys (λu=>match Zbb off u h with
     |some g=>K (({a with objs:=oput a.objs id (.box g)}:St).put o.dst (.val (.int .i64 (Int.ofNat (lenN u)))))
     |none=>False) m []else False
   |_,_,_=>False
  |_,_,_=>False
 | .call {callee:=.value (.func f),args,.. }=>match P.funcs[f]? with
  |none=>False
  |some j=>match j.body with
   |none=>match Znn (args.toList.map a.val)with
    |some E=>fres P o.type (λr=>fext P f E r) λs=>K (a.put o.dst s)
    |none=>False
   |some _=>let b:=Zcl a.objs (q f).ps 0 (args.toList.map a.val)
    callC P f (q f) j.params.toList j.resultTypes.toList (args.toList.map (St.frzAll b a).val) [] o.dst a (St.frzAll b a) K
 | .call {callee:=.value (.tmp t),args,argTypes}=>match a.val (.tmp t)with
  | .clo f C=>let b:=Zcl a.objs (D o.type).ps 0 (args.toList.map a.val)
    callC P f (D o.type) argTypes.toList (match P.underlying o.type with|some (.tuple ts)=>ts.toList|_=>[o.type]) (args.toList.map (St.frzAll b a).val) C o.dst a (St.frzAll b a) K
  |_=>False
 | .call {callee:=.invoke x name,args,.. }=>match a.val x with
  | .ifc t s=>match Zkt P t name with
   |none=>False
   |some f=>match P.funcs[f]? with
    |none=>False
    |some j=>bif (q f).ps.isEmpty then
      (let b:=Zcl a.objs (q f).ps 0 (s::args.toList.map a.val)
      callC P f (q f) j.params.toList j.resultTypes.toList (s::args.toList.map (St.frzAll b a).val) [] o.dst a (St.frzAll b a) K)else False
  |_=>False
 |_=>False else False
def vmode(a:St):Bool:=
 match oget a.objs 3 with
 |some (.own 0 [])=>true
 |_=>false
def amode(a:St):Bool:=
 match oget a.objs 4 with
 |some (.own 0 [])=>true
 |_=>false
def rows1:List SV->LL
 | []=>[]
 |c::cs=>[c]::rows1 cs
def arrV(P:Program)(o:Oper)(t:TypeId)(x:Operand)(b c d:Option Operand)(a:St)(K:St->Prop):Prop:=
 match P.underlying t,a.val x,b,c,d with
 |some (.array m e),.ref off cs,none,none,none=>match szT P e with
  |some 1=>bif Nat.ble (off+m) (lenN cs)&&Nat.blt 0 m&&boxL (takeN m (dropN off cs))then K (a.put o.dst (.slice 1 (rows1 (takeN m (dropN off cs))) 1))else False
  |_=>False
 |_,_,_,_,_=>False
def St.opn(b:St)(id a d:Nat)(rows:LL)(c:Int):St:={tmps:=hmapL (opnG id a (rlen rows) c) b.tmps,objs:=(a,.own d rows)::hmapO (opnG id a (rlen rows) c) (odel (odel b.objs id) a)}
def St.rows(a:St)(id sz:Nat)(rows:LL):St:={tmps:=hmapL (koslG id) a.tmps,objs:=oput (hmapO (koslG id) a.objs) id (.own sz rows)}
def vbd(d s:Int):Option Operand->Int
 |none=>d
 |some _=>s
def Zw9(P:Program)(o:Oper)(t:TypeId)(d b f:Option Operand)(id:Nat)(l h c:Int)(a:St)(K:St->Prop):Prop:=
 match P.underlying t,oget a.objs id with
 |some (.slice e),some (.own sz _)=>match szT P e,bndOf (λ_=>a.val) 0 d,bndOf (λ_=>a.val) (isub h l) b,f with
  |some z,some x,some y,none=>bif Nat.beq z sz then(0<=x/\x<=y/\y<=isub c l)/\K (a.put o.dst (.osv id (vbd l (lsum l x) d) (vbd h (lsum l y) b) c))else False
  |some z,some x,some y,some m=>match b,a.val m with
   |some _,.val (.int _ mm)=>bif Nat.beq z sz then(0<=x/\x<=y/\y<=mm/\mm<=isub c l)/\K (a.put o.dst .unk)else False
   |_,_=>False
  |_,_,_,_=>False
 |_,_=>False
def srcV(P:Program)(a:St)(b:TypeId)(y:SV):Option (Option Int×Option Nat×LL):=
 match y with
 | .osv id l h _=>match P.underlying b,oget a.objs id with
  |some (.slice _),some (.own sz rows)=>some (some (isub (rlen rows) h),some sz,rsub rows l h)
  |_,_=>none
 |y=>(Zii P a b y).map λp=>(none,p.1,p.2)
def sideV(s:Option Int)(K:Prop):Prop:=
 match s with
 |none=>K
 |some n=>0<=n/\K
def appV(P:Program)(o:Oper)(b f:TypeId)(y:SV)(id:Nat)(l h c:Int)(a:St)(K:St->Prop):Prop:=
 match P.underlying b,o.dst,srcV P a f y,oget a.objs id with
 |some (.slice e),some d,some (s,sz',ys),some (.own sz rows)=>match szT P e with
  |some z=>bif Zb2 P e&&srcOK z sz'&&Nat.beq z sz&&dstOK o.dst&&idOK id then
    sideV s (h<=rlen rows/\(lsum h (rlen ys)<=c->K ((a.rows id sz (rput rows h ys)).put o.dst (.osv id l (lsum h (rlen ys)) c)))/\
     (c<lsum h (rlen ys)->lsum (isub h l) (rlen ys)<=most/\K ((a.bind (128*d+64) (.own z (rapp (rsub rows l h) ys))).put o.dst (.osl (128*d+64)))))else False
  |none=>False
 |_,_,_,_=>False
def appZ(P:Program)(o:Oper)(f:TypeId)(n:Int)(id:Nat)(l h c:Int)(b:St)(K:St->Prop):Prop:=
 match P.underlying f,o.dst,oget b.objs id with
 |some (.slice e),some d,some (.own sz rows)=>match szT P e,Zf7 P e with
  |some z,some zr=>bif Zb2 P e&&Nat.beq z sz&&dstOK o.dst then
    ((0<=n/\n<=most)/\c<lsum h n/\lsum (isub h l) n<=most)/\
     ((h<=rlen rows->∀a:Int,lsum (isub h l) n<=a->a<=9223372036854775807->K ((b.bind (128*d+64) (.own z (rapp (rsub rows l h) (rrep n zr)))).put o.dst (.osv (128*d+64) 0 (lsum (isub h l) n) a)))/\
      (rlen rows<h->∀a:Int,lsum (isub h l) n<=a->a<=9223372036854775807->K ((b.bind (128*d+64) (.own z (rsub rows l (rlen rows)))).put o.dst (.osv (128*d+64) 0 (lsum (isub h l) n) a))))else False
  |_,_=>False
 |_,_,_=>False
def copyV(P:Program)(o:Oper)(g d:TypeId)(y:SV)(id:Nat)(l h:Int)(b:St)(K:St->Prop):Prop:=
 match P.underlying g,P.underlying d,oget b.objs id with
 |some (.slice e),some (.slice _),some (.own sz rows)=>match szT P e with
  |some z=>bif Nat.beq z sz&&idOK id then
    (match y with
    | .osv f a c _=>match oget b.objs f with
     |some (.own sz2 rows2)=>bif Nat.beq z sz2 then
       (l<=rlen rows/\lsum a (imin (isub c a) (isub h l))<=rlen rows2)/\
        K ((b.rows id sz (rput rows l (rsub rows2 a (lsum a (imin (isub c a) (isub h l)))))).put o.dst (.val (.int .i64 (imin (isub c a) (isub h l)))))else False
     |_=>False
    |y=>match Zii P b d y with
     |some (sz',ys)=>bif srcOK z sz'&&Nat.blt 0 z then(l<=rlen rows/\rlen ys<=isub h l)/\K ((b.rows id sz (rput rows l ys)).put o.dst (.val (.int .i64 (rlen ys))))else False
     |none=>False)else False
  |none=>False
 |_,_,_=>False
def clearV(P:Program)(o:Oper)(t:TypeId)(id:Nat)(l h:Int)(a:St)(K:St->Prop):Prop:=
 match P.underlying t,oget a.objs id with
 |some (.slice e),some (.own sz rows)=>match Zf7 P e with
  |some z=>bif Nat.beq (lenN z) sz&&idOK id then l<=rlen rows/\K ((a.rows id sz (rput rows l (rrep (isub h l) z))).put o.dst .unk)else False
  |none=>False
 |_,_=>False
def fovl(P:Program)(f:FuncId)(t:TypeId):Prop:=∃a,∀(x y:Value) (w:World),(callFunc f #[x,y]).run P w=((Extern.SlicesOverlaps.overlaps #[t,t] a #[x,y]).run P w).andThen λv w=>.ok (.value v) w
def ovlV(P:Program)(o:Oper)(f:FuncId)(x:SV)(id:Nat)(a:St)(K:St->Prop):Prop:=
 match x,oget a.objs id,P.funcs[f]? with
 | .slice _ _ _,some (.own sz _),some fn=>match fn.params.toList,fn.body with
  | [t,_],none=>match P.underlying t with
   |some (.slice e)=>match szT P e with
    |some z=>bif Nat.beq z sz&&Nat.ble 2 z then fovl P f t/\K (a.put o.dst (.val (.bool false)))else False
    |none=>False
   |_=>False
  |_,_=>False
 |_,_,_=>False
def viewC(P:Program)(o:Oper)(a:St):Option ((St->Prop)->Prop):=
 match o.op with
 | .slice t x e g i=>match a.val x with
  | .osl id=>bif vmode a then(match oget a.objs id,o.dst with
   |some (.own sz rows),some d=>bif Nat.blt d 8191 then some λK=>∀c:Int,rlen rows<=c->c<=9223372036854775807->Zw9 P o t e g i (128*d+65) 0 (rlen rows) c (a.opn id (128*d+65) sz rows c) K else none
   |_,_=>none)else none
  | .osv id l h c=>some λK=>Zw9 P o t e g i id l h c a K
  | .ptr id _=>bif amode a then(match St.frzBoxes [id] a with
   |some j=>some λK=>arrV P o t x e g i j K
   |none=>none)else none
  | .ref _ _=>some λK=>arrV P o t x e g i a K
  |_=>none
 | .call {callee:=.builtin b,args:=⟨[x]⟩,argTypes:=⟨[t]⟩}=>match b,a.val x with
  | .len,.osv _ l h _=>match P.underlying t with
   |some (.slice _)=>some λK=>K (a.put o.dst (.val (.int .i64 (isub h l))))
   |_=>none
  | .cap,.osv _ l _ c=>match P.underlying t with
   |some (.slice _)=>some λK=>K (a.put o.dst (.val (.int .i64 (isub c l))))
   |_=>none
  | .cap,.osl id=>bif vmode a then(match P.underlying t,oget a.objs id,o.dst with
   |some (.slice _),some (.own sz rows),some d=>bif Nat.blt d 8191 then some λK=>∀c:Int,rlen rows<=c->c<=9223372036854775807->K ((a.opn id (128*d+65) sz rows c).put o.dst (.val (.int .i64 c)))else none
   |_,_,_=>none)else none
  | .clear,.osv id l h _=>some λK=>clearV P o t id l h a K
  |_,_=>none
 | .call {callee:=.builtin b,args:=⟨[x,y]⟩,argTypes:=⟨[t1,t2]⟩}=>match b,a.val x with
  | .append,.osv id l h c=>match P.underlying t2,a.val y with
   |some (.int .i64),.val (.int .i64 n)=>some λK=>appZ P o t1 n id l h c a K
   |_,_=>some λK=>appV P o t1 t2 (a.val y) id l h c a K
  | .copy,.osv id l h _=>some λK=>copyV P o t1 t2 (a.val y) id l h a K
  |_,_=>none
 | .call {callee:=.value (.func f),args:=⟨[x,y]⟩,.. }=>match a.val y with
  | .osv id _ _ _=>some λK=>ovlV P o f (a.val x) id a K
  |_=>none
 |_=>none
def kmode(a:St):Bool:=
 match oget a.objs 5 with
 |some (.own 0 [])=>true
 |_=>false
def constB(o:Oper):Bool:=
 match o.op with
 | .buildSlice .. =>true
 |_=>false
def dstL:Option Nat->List Operand
 |some d=>[.tmp d]
 |none=>[]
def exec(P:Program)(b:FuncId->Sig)(c:TypeId->Sig)(o:Oper)(e:List (Nat×Bool)->Operand->SV)(a:St)(K:St->Prop):Prop:=
 match viewC P o a with
 |some C=>C K
 |none=>bif loud P o.op then(bif kmode a&&constB o then loudC P b c o a (λd=>K (pureOps (dstL o.dst) d))else loudC P b c o a K)
  else match quiet P o.type e a.objs o.op with
   |some v=>K (a.put o.dst v)
   |none=>stillC P o a K
def fixL(t:Nat)(b:Bool):List SV->List SV
 | []=>[]
 | .gd t' w v::xs=>(bif Nat.beq t t' then(bif w==b then v else .gd t' w v)else .gd t' w v)::fixL t b xs
 |x::xs=>x::fixL t b xs
def St.fix(a:St)(t:Nat)(b:Bool):St:={a with tmps:=lset (fixL t b a.tmps) t (.val (.bool b))}
def skipG:Nat->St->Nat->Bool->Bool
 |0,_,_,_=>false
 |n+1,st,t,w=>match lget st.tmps t with
  | .val (.bool b)=>match w,b with
   |true,false=>true
   |false,true=>true
   |_,_=>false
  | .gd a w2 _=>skipG n st a w2
  |_=>false
def skipV(a:St):SV->Bool
 | .gd t w _=>skipG 5 a t w
 |_=>false
def aopB(P:Program)(d:FuncId->Sig)(e:TypeId->Sig)(o:Oper)(t:Nat)(w b:Bool)(a:St)(K:St->Prop):Prop:=
 bif w then ifB b (exec P d e o (λc x=>ungd c (ev (a.fix t true) x)) (a.fix t true) K) (K ((a.fix t false).put o.dst (.gd t w (.val (.bool true)))))
 else ifB b (K ((a.fix t true).put o.dst (.gd t w (.val (.bool true))))) (exec P d e o (λc x=>ungd c (ev (a.fix t false) x)) (a.fix t false) K)
def Zxa:Nat->Nat->Bool->St->(St->Prop)->(St->Prop)->Prop
 |0,_,_,_,_,_=>False
 |n+1,t,w,st,yes,no=>match lget st.tmps t with
  | .val (.bool b)=>bif w then ifB b (yes (st.fix t true)) (no (st.fix t false))else ifB b (no (st.fix t true)) (yes (st.fix t false))
  | .gd t2 w2 (.val (.bool b))=>Zxa n t2 w2 st
    (λa=>bif w then ifB b (yes (a.fix t true)) (no (a.fix t false))else ifB b (no (a.fix t true)) (yes (a.fix t false))) no
  |_=>False
def aop(P:Program)(c:FuncId->Sig)(d:TypeId->Sig)(h:Array Oper)(o:Oper)(a:St)(K:St->Prop):Prop:=
 match o.guard with
 |none=>exec P c d o (λf x=>ungd f (ev a x)) a K
 |some g=>match gdst h (some g)with
  |none=>False
  |some (t,w)=>match(bif loud P o.op then none else quiet P o.type (λf x=>ungd (f++chain a 4 (t,w)) (ev a x)) a.objs o.op)with
   |some v=>K (a.put o.dst (.gd t w v))
   |none=>match lget a.tmps t with
    | .val (.bool b)=>aopB P c d o t w b a K
    | .gd t2 w2 (.val (.bool b))=>match lget a.tmps t2 with
     | .val (.bool b2)=>bif w2 then ifB b2 (aopB P c d o t w b (a.fix t2 true) K) (K ((a.fix t2 false).put o.dst (.gd t2 w2 (.val (.bool true)))))
       else ifB b2 (K ((a.fix t2 true).put o.dst (.gd t2 w2 (.val (.bool true))))) (aopB P c d o t w b (a.fix t2 false) K)
     | .gd _ _ _=>Zxa 4 t2 w2 a (λe=>aopB P c d o t w b e K) (λe=>K (e.put o.dst (.gd t2 w2 (.val (.bool true)))))
     |_=>False
    |_=>False
def vcOps(P:Program)(b:FuncId->Sig)(c:TypeId->Sig)(a:Array Oper):List Oper->St->(St->Prop)->Prop
 | [],st,K=>K st
 |o::rest,st,K=>aop P b c a o st λd=>vcOps P b c a rest d K
def Za9(i:Nat)(o:Oper):Bool:=o.after.toList.any λe=>Region.binds .any e&&Nat.beq e.on i
def dstOf(a:Array Oper)(k:Nat):Option Nat:=(a[k]?).bind (·.dst)
def Zfd(a:Array Oper):Bool:=
 Zbq (a.toList.filterMap (·.dst))&&
 ((List.range a.size).all λk=>match a[k]? with
  |none=>true
  |some o=>(o.after.toList.all λe=>!Region.binds .any e||Nat.blt e.on k)&&
   (match o.op with| .select .. =>false|_=>true)&&
   (List.range a.size).all λi=>Nat.beq i k||Za9 i o||(match a[i]? with
    |none=>true
    |some p=>Za9 k p||(match p.dst with
     |none=>true
     |some d=>!((o.looksAt a).any λt=>Nat.beq t d))))
def Zd5(b:List (Nat×Ob))(c:List Nat):SV->Bool
 | .ptr a _=>!(c.any (Nat.beq a))&&(match oget b a with|some (.box _)=>true|some (.arr _ _ _)=>true|_=>false)
 | .aptr a _=>!(c.any (Nat.beq a))&&(match oget b a with|some (.box _)=>true|some (.arr _ _ _)=>true|_=>false)
 | .eptr a _ _ _=>!(c.any (Nat.beq a))&&(match oget b a with|some (.own _ _)=>true|_=>false)
 | .osl a=>!(c.any (Nat.beq a))&&(match oget b a with|some (.own _ _)=>true|_=>false)
 | .omp a=>!(c.any (Nat.beq a))&&(match oget b a with|some (.mp _)=>true|_=>false)
 | .ref _ (_::_)=>true
 | .slice _ _ _=>true
 | .gd _ _ s=>Zd5 b c s
 |_=>false
def Zbr(P:Program):Op->Option Operand
 | .load _ x=>some x
 | .lookup _ x _ _=>some x
 | .call {callee:=.builtin .len,args:=⟨[x]⟩,argTypes:=⟨[t]⟩}=>match P.underlying t with
  |some (.map _ _)=>some x
  |_=>none
 | .convert a _ x=>match P.underlying a with
  |some (.slice _)=>some x
  |_=>none
 |_=>none
def Zij(a:List (Nat×Ob))(m:Md)(s:SV):List Nat:=
 match m with
 | .pure=>[]
 | .own=>match s with
  | .osl id| .omp id=>[id]
  |_=>[]
 | .lend _=>match s with
  | .ptr id _=>id::(match oget a id with
   |some (.box cs)=>Zfc cs++cs.filterMap (λc=>match c with| .omp k=>some k|_=>none)
   |_=>[])
  |_=>[]
def Zb4(a:List (Nat×Ob))(b:List Md):Nat->List SV->List Nat
 |_,[]=>[]
 |i,s::ss=>Zij a (mdAt b i) s++Zb4 a b (i+1) ss
def touch(c:FuncId->Sig)(d:TypeId->Sig)(a:St)(o:Oper):Option (List Nat):=
 match o.op with
 | .store _ x _=>match a.val x with
  | .ptr id _=>some [id]
  | .eptr id _ _ _=>some [id]
  | .aptr id _=>some [id]
  |_=>none
 | .mapUpdate _ x _ _=>match a.val x with
  | .omp id=>some [id]
  |_=>none
 | .call {callee:=.builtin .append,args:=⟨x::_⟩,.. }=>match a.val x with
  | .osl id=>some [id]
  | .osv id _ _ _=>some [id]
  | .slice _ _ _=>some []
  |_=>none
 | .call {callee:=.builtin .copy,args:=⟨x::_⟩,.. }=>match a.val x with
  | .bsl id _ _=>some [id]
  | .osv id _ _ _=>some [id]
  |_=>none
 | .call {callee:=.builtin .clear,args:=⟨x::_⟩,.. }=>match a.val x with
  | .osv id _ _ _=>some [id]
  |_=>none
 | .call {callee:=.value (.func f),args,.. }=>let b:=Zcl a.objs (c f).ps 0 (args.toList.map a.val)
   some (Zb4 (St.frzAll b a).objs (c f).ps 0 (args.toList.map (St.frzAll b a).val))
 | .call {callee:=.value _,args,.. }=>let b:=Zcl a.objs (d o.type).ps 0 (args.toList.map a.val)
   some (Zb4 (St.frzAll b a).objs (d o.type).ps 0 (args.toList.map (St.frzAll b a).val))
 | .call {callee:=.invoke _ _,.. }=>some []
 | .call _=>none
 | .convert _ _ x=>match a.val x with
  | .osl id=>some [id]
  |_=>some []
 |_=>some []
def St.fixC:Nat->St->Nat->Bool->St
 |0,st,t,w=>st.fix t w
 |n+1,st,t,w=>match lget st.tmps t with
  | .gd a w2 _=>(St.fixC n st a w2).fix t w
  |_=>st.fix t w
def St.fixN(a:St)(t:Nat)(w:Bool):St:=St.fixC 5 a t w
def Zno(a:FuncId->Sig)(b:TypeId->Sig)(c:Array Oper)(d:St)(o:Oper):Option (List Nat):=
 match o.guard with
 |none=>touch a b d o
 |some g=>match gdst c (some g)with
  |some (t,w)=>touch a b (d.fixN t w) o
  |none=>none
def Ztt(a:Array Oper)(k:Nat):Operand->Bool
 | .tmp t=>(List.range a.size).all λj=>match a[j]? with
  |none=>true
  |some p=>!(p.dst==some t)||(!(Za9 k p)&&!(Nat.beq j k))
 |_=>true
def isObj(a:List (Nat×Ob))(id:Nat):Bool:=
 match oget a id with
 |some _=>true
 |none=>false
def apartW(P:Program)(e:FuncId->Sig)(f:TypeId->Sig)(a:Array Oper)(c:Array Bool)(b:St)(i:Nat)(o:Oper):Bool:=
 match Zno e f a b o with
 |none=>false
 |some d=>d.all (isObj b.objs)&&(List.range a.size).all λk=>match a[k]? with
  |none=>true
  |some p=>Nat.beq k i||!(c.getD k false)||Za9 k o||(match Zbr P p.op with
   |none=>true
   |some y=>(Zd5 b.objs d (ev b y)||skipV b (ev b y))&&Ztt a k y)
def Ztu:List Nat->(Nat->Prop)->Prop
 | [],_=>True
 | [i],f=>f i
 |i::j::is,f=>f i/\Ztu (j::is) f
def vcAny(P:Program)(b:FuncId->Sig)(c:TypeId->Sig)(a:Array Oper):Nat->Array Bool->St->(St->Prop)->Prop
 |0,_,_,_=>False
 |n+1,listed,st,K=>match Region.ready .any a listed with
  | []=>K st
  |e::r=>match(e::r).find? (λi=>match a[i]? with|some o=>!loud P o.op|none=>false)with
   |some i=>match a[i]? with
    |some o=>aop P b c a o st λd=>vcAny P b c a n (listed.setIfInBounds i true) d K
    |none=>False
   |none=>Ztu (e::r) λi=>match a[i]? with
    |some o=>bif apartW P b c a listed st i o then aop P b c a o st λd=>vcAny P b c a n (listed.setIfInBounds i true) d K else False
    |none=>False
inductive Sh where
 |int (k:IntKind)
 |bool
 |str
 |sl (sz:Nat)
 |own (sz:Nat)
 |mp
 |cpx (k:FloatKind)
 |arr (kd:IntKind) (m:Nat)
abbrev Sh.ty:Sh->Type
 | .int _=>Int
 | .bool=>Bool
 | .str=>BA
 | .sl _=>LL
 | .own _=>LL
 | .mp=>List (BA×Int)
 | .cpx _=>Nat×Nat
 | .arr _ _=>List Int
def Sh.sv:(s:Sh)->s.ty->SV
 | .int k,n=>.val (.int k n)
 | .bool,b=>.val (.bool b)
 | .str,s=>.val (.string s)
 | .sl sz,rows=>.slice sz rows 0
 | .own sz,rows=>.slice sz rows 0
 | .mp,es=>.mapv es
 | .cpx k,p=>.val (.complex k (cre p) (cim p))
 | .arr kd m,ns=>.arr kd m ns
def Sh.get(s:Sh)(v:SV):Option s.ty:=
 match s,v with
 | .int k,.val (.int k' n)=>bif decide (k=k')then some n else none
 | .bool,.val (.bool b)=>some b
 | .str,.val (.string x)=>some x
 | .sl sz,.slice sz' rows _=>bif Nat.beq sz' sz||Nat.beq sz' 0 then some rows else none
 | .own sz,.slice sz' rows _=>bif Nat.beq sz' sz||Nat.beq sz' 0 then some rows else none
 | .mp,.mapv es=>some es
 | .cpx k,.val (.complex k' a b)=>bif decide (k=k')then some (a,b)else none
 | .arr kd m,.arr kd' m' ns=>bif decide (kd=kd')&&Nat.beq m m' then some ns else none
 |_,_=>none
def Sh.isOwn:Sh->Bool
 | .own _| .mp=>true
 |_=>false
abbrev ITy:List Sh->Type->Type
 | [],R=>R
 |s::ss,R=>s.ty->ITy ss R
def Zbs{R:Type}:(a:List Sh)->ITy a R->List SV->(R->Prop)->Prop
 | [],f,[],K=>K f
 |s::a,f,v::vs,K=>match s.get v with
  |some x=>Zbs a (f x) vs K
  |none=>False
 |_,_,_,_=>False
def allI:(a:List Sh)->ITy a Prop->ITy a Nat->(List SV->Nat->Prop)->Prop
 | [],I,m,K=>I->K [] m
 |s::a,I,m,K=>∀x:s.ty,allI a (I x) (m x) λb k=>K (s.sv x::b) k
structure LoopSpec where
 slots:List (Nat×Bool×List Sh):=[]
 boxes:List (Nat×List Sh):=[]
 owns:List (Nat×Sh):=[]
 fixed:List Nat:=[]
 ptrs:List (Nat×Nat):=[]
def Za0(a:LoopSpec):List Sh:=a.slots.flatMap (·.2.2)++a.boxes.flatMap (·.2)++a.owns.map (·.2)
def Zag:Code->List Nat
 | .region _ d _=>d.toList.filterMap (·.dst)
 | .seq a b=>Zag a++Zag b
 | .cond _ a b=>Zag a++Zag b
 | .block _ c| .loop c| .scope c=>Zag c
 | .rangeFunc _ e a b=>e.toList++Zag a++Zag b
 |_=>[]
def loopKey(c:Code):Nat:=(Zag c).headD 0
def opsIn:Code->List Oper
 | .region _ d _=>d.toList
 | .seq a b=>opsIn a++opsIn b
 | .cond _ a b=>opsIn a++opsIn b
 | .block _ c| .loop c| .scope c=>opsIn c
 | .rangeFunc _ _ a b=>opsIn a++opsIn b
 |_=>[]
def hasN(l:List Nat)(n:Nat):Bool:=l.any (Nat.beq n)
def Zxb:List Nat->List Nat
 | []=>[]
 |x::xs=>bif hasN xs x then Zxb xs else x::Zxb xs
def shOf(b:List (Nat×Ob)):SV->Option Sh
 | .val (.int k _)=>some (.int k)
 | .val (.bool _)=>some .bool
 | .val (.string _)=>some .str
 | .val (.complex k _ _)=>some (.cpx k)
 | .slice a [] 1=>some (.own a)
 | .slice a _ _=>some (.sl a)
 | .osl id=>match oget b id with
  |some (.own a _)=>some (.own a)
  |_=>none
 | .omp _=>some .mp
 |_=>none
def shsOf(a:List (Nat×Ob)):List SV->Option (List Sh)
 | []=>some []
 |c::cs=>match shOf a c,shsOf a cs with
  |some s,some ss=>some (s::ss)
  |_,_=>none
def slotSh(a:St)(t:Nat):Option (Nat×Bool×List Sh):=
 match lget a.tmps t with
 | .agg d=>(shsOf a.objs d).map λb=>(t,true,b)
 |c=>(shOf a.objs c).map λs=>(t,false,[s])
def rootOf(a:List Oper):Nat->Operand->Option (Option Nat)
 |0,_=>none
 |n+1,.tmp t=>match a.find? (λo=>match o.dst with|some d=>Nat.beq d t|none=>false)with
  |none=>some (some t)
  |some o=>match o.op with
   | .fieldAddr _ x _| .indexAddr _ x _| .nilCheck x| .move x| .assign x| .slice _ x _ _ _=>rootOf a n x
   | .load _ _=>some none
   |_=>none
 |_,_=>none
def idOf:SV->List Nat
 | .ptr id _| .bsl id _ _| .osl id| .eptr id _ _ _| .omp id| .aptr id _=>[id]
 |_=>[]
def ownAll:List (Nat×Ob)->List Nat
 | []=>[]
 |(id,.own _ _)::l=>id::ownAll l
 |_::l=>ownAll l
def Ztv(a:List Oper)(b:St)(x:Operand):List Nat:=
 match rootOf a 8 x with
 |some (some t)=>idOf (lget b.tmps t)
 |some none=>ownAll b.objs
 |none=>[]
def Zpq(a:List Oper)(b:St)(c:List Md):Nat->List Operand->List Nat
 |_,[]=>[]
 |i,x::xs=>(match mdAt c i with| .pure=>[]|_=>Ztv a b x)++Zpq a b c (i+1) xs
def wroteBy(c:FuncId->Sig)(d:TypeId->Sig)(a:List Oper)(b:St):List Oper->List Nat
 | []=>[]
 |o::r=>(match o.op with
  | .store _ x _| .mapUpdate _ x _ _=>Ztv a b x
  | .call {callee:=.builtin .copy,args:=⟨x::_⟩,.. }=>Ztv a b x
  | .call {callee:=.value (.func f),args,.. }=>Zpq a b (c f).ps 0 args.toList
  | .call {callee:=.value _,args,.. }=>Zpq a b (d o.type).ps 0 args.toList
  |_=>[])++wroteBy c d a b r
def broughtBy(d:St)(a:List (Nat×Bool×List Sh))(b:List (Nat×List Sh)):List Nat:=
 a.flatMap (λp=>match lget d.tmps p.1 with| .agg cs=>cs.flatMap idOf|c=>idOf c)++
 b.flatMap (λp=>match oget d.objs p.1 with|some (.box cs)=>cs.flatMap idOf|_=>[])
def boxSh(a:List (Nat×Ob))(id:Nat):Option (Nat×List Sh):=
 match oget a id with
 |some (.box cs)=>(shsOf a cs).map λb=>(id,b)
 |_=>none
def ownSh(a:List (Nat×Ob))(id:Nat):Option (Nat×Sh):=
 match oget a id with
 |some (.own sz _)=>some (id,.own sz)
 |some (.mp _)=>some (id,.mp)
 |some (.arr kd m _)=>some (id,.arr kd m)
 |_=>none
def Zxc(g:FuncId->Sig)(h:TypeId->Sig)(c:Code)(e:St):LoopSpec:=
 let b:=(Zxb (Zag c)).filterMap (slotSh e)
 let wr:=Zxb (wroteBy g h (opsIn c) e (opsIn c))
 let a:=wr.filterMap (boxSh e.objs)
 let f:=broughtBy e b a
 let d:=(wr.filter λid=>!hasN f id).filterMap (ownSh e.objs)
 {slots:=b,boxes:=a,owns:=d,fixed:=(e.objs.map (·.1)).filter λid=>!hasN f id&&!hasN (a.map (·.1)) id&&!hasN (d.map (·.1)) id}
def ownMs(a:List Sh):List Bool:=a.map Sh.isOwn
def Zf8(a:St):List (Nat×Bool×List Sh)->Option (List SV×List (Option Nat×Nat))
 | []=>some ([],[])
 |(t,ag,ss)::r=>match(match ag,lget a.tmps t with
   |true,.agg cs=>bif Nat.beq (lenN cs) ss.length then Za1 a.objs (128*t+95) 0 (ownMs ss) cs else none
   |false,c=>bif Nat.beq ss.length 1 then Za1 a.objs (128*t+95) 0 (ownMs ss) [c]else none
   |_,_=>none),Zf8 a r with
  |some (d,l),some (ds,ls)=>some (d++ds,l++ls)
  |_,_=>none
def Zdx(a:List (Nat×Ob)):List (Nat×List Sh)->Option (List SV×List (Option Nat×Nat))
 | []=>some ([],[])
 |(id,ss)::r=>match(match oget a id with
   |some (.box cs)=>bif Nat.beq (lenN cs) ss.length then Za1 a id 0 (ownMs ss) cs else none
   |_=>none),Zdx a r with
  |some (d,l),some (ds,ls)=>some (d++ds,(some id,id)::l++ls)
  |_,_=>none
def Zfe(a:List (Nat×Ob)):List (Nat×Sh)->Option (List SV×List (Option Nat×Nat))
 | []=>some ([],[])
 |(id,_)::r=>match(match oget a id with
   |some (.own sz rows)=>some (.slice sz rows 0)
   |some (.mp es)=>some (.mapv es)
   |some (.arr kd m ns)=>some (.arr kd m ns)
   |_=>none),Zfe a r with
  |some d,some (ds,ls)=>some (d::ds,(some id,id)::ls)
  |_,_=>none
def Zak(a:St)(b:LoopSpec):List Nat:=
 b.slots.flatMap (λp=>match lget a.tmps p.1 with| .agg cs=>Zgl (ownMs p.2.2) cs|c=>Zgl (ownMs p.2.2) [c])++
 b.boxes.flatMap (λp=>match oget a.objs p.1 with|some (.box cs)=>Zgl (ownMs p.2) cs|_=>[])
def Zd6(a:LoopSpec)(b:St):Option (List SV×List (Option Nat×Nat)):=
 match Zf8 b a.slots,Zdx b.objs a.boxes,Zfe b.objs a.owns with
 |some (d1,l1),some (d2,l2),some (d3,l3)=>some (d1++d2++d3,l1++l2++l3)
 |_,_,_=>none
def keepV(a:List Nat)(s:SV):SV:=
 bif Zas s then s else match s with
 | .ptr id off=>bif hasN a id then .ptr id off else .unk
 | .osl id=>bif hasN a id then .osl id else .unk
 | .omp id=>bif hasN a id then .omp id else .unk
 |_=>.unk
def keepL(a:List Nat):List SV->List SV
 | []=>[]
 |c::cs=>keepV a c::keepL a cs
def Zal(b:List Nat)(a:List (Nat×Ob)):List Nat->Option LL
 | []=>some []
 |id::r=>match(match oget a id with
   |some (.box c)=>some (keepL b c)
   |some (.own sz rows)=>some [.gd 0 true (.slice sz rows 0)]
   |some (.mp es)=>some [.gd 0 true (.mapv es)]
   |some (.arr kd m ns)=>some [.gd 0 true (.arr kd m ns)]
   |none=>none),Zal b a r with
  |some c,some rest=>some (c::rest)
  |_,_=>none
def keptV:SV->SV->Bool
 | .ptr id off,.ptr id' off'=>Nat.beq id id'&&Nat.beq off off'
 | .ptr _ _,_=>false
 | .osl id,.osl id'=>Nat.beq id id'
 | .osl _,_=>false
 | .omp id,.omp id'=>Nat.beq id id'
 | .omp _,_=>false
 |_,_=>true
def Zan(wr a:List Nat):Nat->List SV->List SV
 |_,[]=>[]
 |t,s::ss=>(bif hasN wr t then .unk else keepV a s)::Zan wr a (t+1) ss
def Zar:List SV->List SV->Bool
 | [],[]=>true
 |s::ss,s'::ss'=>keptV s s'&&Zar ss ss'
 |_,_=>false
def Zi4:List (Nat×Bool×List Sh)->List SV->List SV->Option (List SV×List (Nat×Ob)×List SV)
 | [],vs,tm=>some (tm,[],vs)
 |(t,ag,ss)::r,vs,tm=>match Zaw (128*t+95) 0 (ownMs ss) (takeN ss.length vs)with
  |some (cs,os)=>match Zi4 r (dropN ss.length vs) (lset tm t (match ag,cs with|false,[c]=>c|_,cs=>.agg cs))with
   |some (tm',os',vs')=>some (tm',os++os',vs')
   |none=>none
  |none=>none
def Zmc:List (Nat×List Sh)->List SV->Option (List (Nat×Ob)×List SV)
 | [],vs=>some ([],vs)
 |(id,ss)::r,vs=>match Zaw id 0 (ownMs ss) (takeN ss.length vs),Zmc r (dropN ss.length vs)with
  |some (cs,os),some (os',vs')=>some ((id,.box cs)::os++os',vs')
  |_,_=>none
def ownHA(id:Nat):SV->Option (SV×Ob)
 | .arr a m b=>some (.ptr id 0,.arr a m b)
 |v=>ownH id v
def Znp:List (Nat×Sh)->List SV->Option (List (Nat×Ob))
 | [],_=>some []
 |(id,_)::r,v::vs=>match ownHA id v,Znp r vs with
  |some (_,o),some os=>some ((id,o)::os)
  |_,_=>none
 |_::_,[]=>none
def Znq(a:List Nat):Ob->Ob
 | .box b=>.box (keepL a b)
 |o=>o
def Zmd(b:List Nat)(a:List (Nat×Ob)):List Nat->List (Nat×Ob)
 | []=>[]
 |id::r=>match oget a id with
  |some o=>(id,Znq b o)::Zmd b a r
  |none=>Zmd b a r
def Zad(a:LoopSpec):List Nat:=a.boxes.map (·.1)++a.owns.map (·.1)++a.fixed
def Zgu(a:LoopSpec)(wr:List Nat)(b:St)(d:List SV):Option St:=
 match Zi4 a.slots d (Zan wr (Zad a) 0 b.tmps)with
 |some (tm,os1,vs1)=>match Zmc a.boxes vs1 with
  |some (os2,vs2)=>match Znp a.owns vs2 with
   |some c=>some {tmps:=tm,objs:=os1++os2++c++Zmd (Zad a) b.objs a.fixed}
   |none=>none
  |none=>none
 |none=>none
def headOK(a:LoopSpec)(wr:List Nat)(b:List (Option Nat×Nat)):Bool:=
 Zbq (a.slots.map (·.1))&&a.slots.all (λp=>hasN wr p.1)&&Zbq (b.filterMap (·.1)++a.fixed)&&Zbq (b.map (·.2)++a.fixed)&&b.all (λp=>idOK p.2||(match p.1 with|some id=>Nat.beq id p.2|none=>false))&&
 a.slots.all (λp=>Nat.ble p.2.2.length 30)&&Zbq (a.slots.flatMap (λp=>(List.range p.2.2.length).map λj=>128*p.1+96+j)++
  a.boxes.flatMap (λp=>p.1::(List.range p.2.length).map λj=>p.1+1+j)++a.owns.map (·.1)++a.fixed)
inductive Ex where
 |normal
 |exit (id:Nat)
 |ret
def setP:List (Nat×Nat)->List SV->List SV
 | [],tm=>tm
 |(t,id)::r,tm=>setP r (lset tm t (.ptr id 0))
def unP(a:List (Nat×Nat))(wr:List Nat):List Nat:=wr.filter λt=>!(hasN (a.map (·.1)) t)
def cutC(a:LoopSpec)(wr:List Nat)(c:St)(run:(St->Prop)->Prop)(K:St->Prop):Prop:=
 bif (Zal (Zad a) c.objs a.fixed).isSome then
  ∃(I:ITy (Za0 a) Prop) (m:ITy (Za0 a) Nat),run (λb=>match Zd6 a (St.frzAll (Zak b a) b)with
    |none=>False
    |some (vals',ids')=>bif headOK a (unP a.ptrs wr) ids'&&Zar (Zan (unP a.ptrs wr) (Zad a) 0 (setP a.ptrs c.tmps)) (St.frzAll (Zak b a) b).tmps then
      Zal (Zad a) (St.frzAll (Zak b a) b).objs a.fixed=Zal (Zad a) c.objs a.fixed/\Zbs (Za0 a) I vals' (λp=>p)else False)/\
   allI (Za0 a) I m λd _=>match Zgu a (unP a.ptrs wr) {c with tmps:=setP a.ptrs c.tmps} d with
    |none=>False
    |some hd=>K hd
 else False
def condKey:Operand->Nat
 | .tmp t=>4000000+t
 |_=>3999999
def vc(P:Program)(h:FuncId->Sig)(j:TypeId->Sig)(L:Nat->Option LoopSpec):Code->St->(Ex->St->Prop)->Prop
 | .skip,d,Q=>Q .normal d
 | .region id ops false,d,Q=>match L (1000000+id)with
   |none=>vcOps P h j ops ops.toList d (Q .normal)
   |some f=>cutC f (ops.toList.filterMap (·.dst)) d (λK=>vcOps P h j ops ops.toList d K) (Q .normal)
 | .region id ops true,d,Q=>bif P.follows .mixedOrders&&Zfd ops then match L (1000000+id)with
   |none=>vcAny P h j ops (ops.size+1) (Array.replicate ops.size false) d (Q .normal)
   |some f=>cutC f (ops.toList.filterMap (·.dst)) d (λK=>vcAny P h j ops (ops.size+1) (Array.replicate ops.size false) d K) (Q .normal)
  else False
 | .seq a b,d,Q=>vc P h j L a d λe g=>match e with
  | .normal=>vc P h j L b g Q
  |e=>Q e g
 | .cond c x y,d,Q=>match ungd [] (ev d c)with
  | .val (.bool b)=>match L (condKey c)with
   |none=>ifB b (vc P h j L x d Q) (vc P h j L y d Q)
   |some f=>cutC f (Zag x++Zag y) d (λK=>ifB b (vc P h j L x d λe g=>match e with
     | .normal=>K g
     | .exit i=>Q (.exit i) g
     | .ret=>Q .ret g) (vc P h j L y d λe g=>match e with
     | .normal=>K g
     | .exit i=>Q (.exit i) g
     | .ret=>Q .ret g)) (Q .normal)
  |_=>False
 | .block id body,d,Q=>match L (2000000+id)with
  |none=>vc P h j L body d λe g=>match e with
   | .exit i=>bif Nat.beq i id then Q .normal g else Q (.exit i) g
   |e=>Q e g
  |some f=>cutC f (Zag body) d (λK=>vc P h j L body d λe g=>match e with
   | .normal=>K g
   | .exit i=>bif Nat.beq i id then K g else Q (.exit i) g
   | .ret=>Q .ret g) (Q .normal)
 | .loop body,st00,Q=>let f:=(L (loopKey body)).getD (Zxc h j body st00)
   let wr:=Zag body
   let d:=St.frzAll (Zak st00 f) st00
   match Zd6 f d with
   |none=>False
   |some (vals,ids)=>bif headOK f wr ids&&(Zal (Zad f) d.objs f.fixed).isSome then∃(I:ITy (Za0 f) Prop) (m:ITy (Za0 f) Nat),Zbs (Za0 f) I vals (λp=>p)/\
     allI (Za0 f) I m λn k=>match Zgu f wr d n with
      |none=>False
      |some hd=>vc P h j L body hd λe l=>match e with
       | .normal=>match Zd6 f (St.frzAll (Zak l f) l)with
        |none=>False
        |some (vals',ids')=>bif headOK f wr ids'&&Zar (Zan wr (Zad f) 0 d.tmps) (St.frzAll (Zak l f) l).tmps then
          Zal (Zad f) (St.frzAll (Zak l f) l).objs f.fixed=Zal (Zad f) d.objs f.fixed/\Zbs (Za0 f) I vals' (λp=>p)/\Zbs (Za0 f) m vals' (λo=>o<k)else False
       |e=>Q e l else False
 | .exit id,d,Q=>Q (.exit id) d
 | .ret,d,Q=>Q .ret d
 |_,_,_=>False
def arrRes(P:Program)(t:TypeId)(x:SV)(a:List (Nat×Ob)):Option SV:=
 match x with
 | .ptr id 0=>match oget a id,bigT P t with
  |some (.arr kd m ns),some (kd',m')=>bif decide (kd=kd')&&Nat.beq m m' then some (.arr kd m ns)else none
  |_,_=>none
 |_=>none
def resOf(P:Program)(a:St):ResultVar->Option SV
 | .tmp t=>match ungd [] (lget a.tmps t)with
  | .unk=>none
  |s=>some s
 | .cell t ty=>match arrRes P ty (ungd [] (lget a.tmps t)) a.objs with
  |some s=>some s
  |none=>Zug P ty (ungd [] (lget a.tmps t)) a.objs
def Znr(P:Program)(a:St):List ResultVar->Option (List SV)
 | []=>some []
 |r::rs=>match resOf P a r,Znr P a rs with
  |some s,some ss=>some (s::ss)
  |_,_=>none
def Zd7(P:Program)(a:List (Nat×Ob))(b:List TypeId):Nat->List Md->Option (List SV×List (Option Nat×Nat))
 |_,[]=>some ([],[])
 |i,.lend ms::r=>match Zf5 a (pId i) (.lend ms) (.ptr (pId i) 0),Zd7 P a b (i+1) r with
  |some (d,l),some (ds,ls)=>some (normM P (.lend ms) (b.getD i 0) d::ds,l++ls)
  |_,_=>none
 |i,_::r=>Zd7 P a b (i+1) r
def Zhd(a:List (Nat×Ob)):Nat->List Md->List Nat
 |_,[]=>[]
 |i,.lend ms::r=>frzArg a (.lend ms) (.ptr (pId i) 0)++Zhd a (i+1) r
 |i,_::r=>Zhd a (i+1) r
def Zrh(l:List (Option Nat×Nat))(a:List Nat):Bool:=
 a.all λid=>l.any λp=>(match p.1 with|some k=>Nat.beq k id|none=>false)&&Nat.beq p.2 id
def finC(P:Program)(b:Func)(a:Sig)(Q:List SV->Prop)(st0:St):Prop:=
 match Znr P st0 b.results.toList with
 |none=>False
 |some d=>let c:=St.frzAll (Zcl st0.objs a.rs 0 d++Zhd st0.objs 0 a.ps) st0
  match Znr P c b.results.toList with
  |none=>False
  |some e=>match Za3 P c.objs rId a.rs 0 b.resultTypes.toList e,Zd7 P c.objs b.params.toList 0 a.ps with
   |some (rs,l1),some (ls,l2)=>bif Zbq ((l1++l2).filterMap (·.1))&&Zbq ((l1++l2).map (·.2))&&Zrh l2 (Zb1 0 a.ps)then Q (rs++ls)else False
   |_,_=>False
def St.close(a:St)(t id b:Nat)(rows:LL):St:=
 {tmps:=lset (a.bind id (.own b rows)).tmps t (.osl id),objs:=(a.bind id (.own b rows)).objs}
def Zjr:List ResultVar->St->(St->Prop)->Prop
 | [],st,K=>K st
 | .tmp t::rs,st,K=>match lget st.tmps t with
  | .osv id (.ofNat 0) h _=>match oget st.objs id with
   |some (.own sz rows)=>bif idOK id then h<=rlen rows/\Zjr rs (st.close t id sz (rsub rows 0 h)) K else False
   |_=>False
  |_=>Zjr rs st K
 | .cell _ _::rs,st,K=>Zjr rs st K
def fin(P:Program)(a:Func)(b:Sig)(Q:List SV->Prop):Ex->St->Prop
 | .normal,st| .ret,st=>Zjr a.results.toList st (finC P a b Q)
 |_,_=>False
def start(b:Func)(c:Sig)(a:List SV):St:=
 match argsH pId c.ps 0 a with
 |some (hs,os)=>{tmps:=hs++List.replicate (b.ntmps-hs.length) .unk,objs:=os}
 |none=>{tmps:=[],objs:=[]}
def Zxd(L:Nat->Option LoopSpec)(b:Func)(c:Sig)(a:List SV):St:=
 bif (L 3000003).isSome then(start b c a).bind 6 (.own 0 [])else
 bif (L 3000002).isSome then(start b c a).bind 5 (.own 0 [])else
 bif (L 3000001).isSome then(start b c a).bind 4 (.own 0 [])else
 bif (L 3000000).isSome then(start b c a).bind 3 (.own 0 [])else start b c a
def vcF(P:Program)(e:FuncId->Sig)(f:TypeId->Sig)(L:Nat->Option LoopSpec)(a:Func)(d:Sig)(b:List SV)(Q:List SV->Prop):Prop:=
 match a.body with
 |some c=>vc P e f L c (Zxd L a d b) (fin P a d Q)
 |none=>False
def hasRF:Code->Bool
 | .rangeFunc .. =>true
 | .seq a b=>hasRF a||hasRF b
 | .block _ b=>hasRF b
 |_=>false
def front:Code->Code
 | .seq x y=>bif hasRF x then front x else .seq x (front y)
 |_=>.skip
def rfOf:Code->Code
 | .seq x y=>bif hasRF x then rfOf x else rfOf y
 |c=>c
def tlOf:Code->Code
 | .seq x y=>bif hasRF x then y else tlOf y
 |_=>.skip
def rfBack(c:Nat)(b:FuncId)(d e:Nat)(a:St)(K:St->Prop):Prop:=
 bif Nat.beq (lenN a.tmps) c then match lget a.tmps d with
 | .clo f g=>match lget a.tmps e with
   | .ptr id 0=>match oget a.objs id with
     |some (.box [.val (.int .u64 n)])=>∃rows,f=b/\g=[.ref 0 [.slice 1 rows 0]]/\Zbt rows/\0<rlen rows/\rlen rows<=100/\K {a with objs:=oput a.objs id (.box [.val (.int .u64 (ufold n rows))])}
     |_=>False
   |_=>False
 |_=>False else False
def vcB(P:Program)(g:FuncId->Sig)(h:TypeId->Sig)(L:Nat->Option LoopSpec)(a:Func)(d:Sig)(f:List SV)(Q:List SV->Prop)(i:FuncId)(j k:Nat):Prop:=
 match a.body with
 |some c=>vc P g h L (front c) (start a d f) (λe b=>match e with
   | .normal=>rfBack a.ntmps i j k b (λb=>vc P g h L (tlOf c) b (fin P a d Q))
   | .exit id=>fin P a d Q (.exit id) b
   | .ret=>fin P a d Q .ret b)
 |none=>False
def noDef(a:Array Oper):Bool:=a.toList.all λo=>match o.op with| .defer _=>false|_=>true
def rndOK:Code->Bool
 | .skip=>true
 | .region _ a _=>noDef a
 | .seq x y=>rndOK x&&rndOK y
 | .cond _ x y=>rndOK x&&rndOK y
 | .block _ b=>rndOK b
 | .exit _=>true
 | .ret=>true
 |_=>false
def zeroI:(a:List Sh)->ITy a Nat
 | []=>(0:Nat)
 |_::a=>λ_=>zeroI a
def rowD(a:Bool)(r:List SV):SV:=bif a then .agg r else match r with
 | [c]=>c
 |_=>.unk
def backAt(a:LoopSpec)(wr:List Nat)(c:St)(I:ITy (Za0 a) Prop)(b:St):Prop:=
 match Zd6 a (St.frzAll (Zak b a) b)with
 |none=>False
 |some (vals',ids')=>bif headOK a wr ids'&&Zar (Zan wr (Zad a) 0 c.tmps) (St.frzAll (Zak b a) b).tmps then
   Zal (Zad a) (St.frzAll (Zak b a) b).objs a.fixed=Zal (Zad a) c.objs a.fixed/\Zbs (Za0 a) I vals' (λp=>p)else False
def vcI1(P:Program)(j:FuncId->Sig)(l:TypeId->Sig)(m:FuncId)(e:TypeId)(a:LoopSpec)(wr:List Nat)(g:Operand)(s:Array Tmp)(b d:Code)(c:St)(K:St->Prop):Prop:=
 match ungd [] (ev c g),s.toList,a.slots with
 | .clo f cl,[p,q],[]=>match Zd6 a c with
  |some (vals,ids)=>match szT P e with
   |some z=>bif (Za2 P e||Nat.beq z 1)&&rndOK b&&rndOK d&&!(Nat.beq p q)&&Nat.blt p (lenN c.tmps)&&Nat.blt q (lenN c.tmps)&&headOK a wr ids&&(Zal (Zad a) c.objs a.fixed).isSome then
     ∃rows,f=m/\cl=[.ref 0 [.slice z rows 0]]/\rlen rows<=2147483648/\∃(I:Int->ITy (Za0 a) Prop),Zbs (Za0 a) (I 0) vals (λp=>p)/\
      (∀k:Int,0<=k->k<rlen rows->allI (Za0 a) (I k) (zeroI _) λh _=>match Zgu a wr c h with
       |none=>False
       |some hd=>Zaz P 8 e λn=>rget rows (kdn (rlen rows) k)=n/\
         vc P j l (λ_=>none) b {hd with tmps:=lset (lset hd.tmps p (.val (.int .i64 (kdn (rlen rows) k)))) q (rowD (Za2 P e) n)} λi o=>match i with
          | .normal=>vc P j l (λ_=>none) d o λi r=>match i with
           | .normal=>backAt a wr c (I (kup k)) r
           |_=>False
          |_=>False)/\
      allI (Za0 a) (I (rlen rows)) (zeroI _) λh _=>match Zgu a wr c h with
       |none=>False
       |some hd=>K hd
    else False
   |none=>False
  |none=>False
 |_,_,_=>False
def vcI(P:Program)(i:FuncId->Sig)(j:TypeId->Sig)(d:FuncId)(e:TypeId)(f:LoopSpec)(g:Operand)(h:Array Tmp)(a b:Code)(c:St)(K:St->Prop):Prop:=
 vcI1 P i j d e f (h.toList++(Zag a++Zag b)) g h a b (St.frzAll (Zak c f) c) K
def vcR(P:Program)(d:FuncId->Sig)(f:TypeId->Sig)(L:Nat->Option LoopSpec)(h:Nat->Option (FuncId×TypeId)):Code->St->(Ex->St->Prop)->Prop
 | .seq x y,st,Q=>bif hasRF x||hasRF y then vcR P d f L h x st (λe a=>match e with
   | .normal=>vcR P d f L h y a Q
   |e=>Q e a)else vc P d f L (.seq x y) st Q
 | .block id b,st,Q=>bif hasRF b then vcR P d f L h b st (λe a=>match e with
   | .exit i=>bif Nat.beq i id then Q .normal a else Q (.exit i) a
   |e=>Q e a)else vc P d f L (.block id b) st Q
 | .rangeFunc g ps assign body,st,Q=>match L (5000000+ps.toList.headD 0),h (ps.toList.headD 0)with
  |some sp,some (fid,e)=>vcI P d f fid e sp g ps assign body st (Q .normal)
  |_,_=>False
 |c,st,Q=>vc P d f L c st Q
def vcFR(P:Program)(e:FuncId->Sig)(f:TypeId->Sig)(L:Nat->Option LoopSpec)(g:Nat->Option (FuncId×TypeId))(a:Func)(d:Sig)(b:List SV)(Q:List SV->Prop):Prop:=
 match a.body with
 |some c=>vcR P e f L g c (start a d b) (fin P a d Q)
 |none=>False
structure ItT where
 caps:LL->List SV
 cnt:LL->Int
 ys:LL->Int->SV

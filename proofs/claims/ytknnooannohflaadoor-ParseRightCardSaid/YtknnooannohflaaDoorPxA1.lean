/- Abstract data without a heap. -/
import Derived.Calls
import Derived.Orders
import Derived.KernelRfl
namespace Go.Px

/- Leaves: what is computed with numbers, texts and lengths. -/
def wadd (k : IntKind) (a b : Int) : Int := k.wrap (a + b)
def wsub (k : IntKind) (a b : Int) : Int := k.wrap (a - b)
def wmul (k : IntKind) (a b : Int) : Int := k.wrap (a * b)
def wneg (k : IntKind) (a : Int) : Int := k.wrap (0 - a)
def wcv (k : IntKind) (a : Int) : Int := k.wrap a
def ieq (a b : Int) : Bool := a == b
def ine (a b : Int) : Bool := a != b
def ilt (a b : Int) : Bool := decide (a < b)
def ile (a b : Int) : Bool := decide (a ≤ b)
def igt (a b : Int) : Bool := decide (a > b)
def ige (a b : Int) : Bool := decide (a ≥ b)
def imin (a b : Int) : Int := if b < a then b else a
def imax (a b : Int) : Int := if a < b then b else a
def seq (x y : ByteArray) : Bool := x.toList == y.toList
def sne (x y : ByteArray) : Bool := !(x.toList == y.toList)
def slt (x y : ByteArray) : Bool := Op.bytesLess x.toList y.toList
def sle (x y : ByteArray) : Bool := Op.bytesLess x.toList y.toList || x.toList == y.toList
def sgt (x y : ByteArray) : Bool := !(Op.bytesLess x.toList y.toList || x.toList == y.toList)
def sge (x y : ByteArray) : Bool := !(Op.bytesLess x.toList y.toList)
def bnot (b : Bool) : Bool := !b
def bpick (p a b : Bool) : Bool := bif p then a else b
def beqB (a b : Bool) : Bool := a == b
def band (a b : Bool) : Bool := a && b
def wquo (k : IntKind) (a b : Int) : Int := k.wrap (a.tdiv b)
def wrem (a b : Int) : Int := a.tmod b
def wshl (k : IntKind) (a b : Int) : Int := k.wrap (a * 2 ^ (min b.toNat k.bits))
def wshr (k : IntKind) (a b : Int) : Int := a.fdiv (2 ^ (min b.toNat k.bits))
def wand (k : IntKind) (a b : Int) : Int := k.wrap (BitVec.ofInt k.bits a &&& BitVec.ofInt k.bits b).toNat
def wor (k : IntKind) (a b : Int) : Int := k.wrap (BitVec.ofInt k.bits a ||| BitVec.ofInt k.bits b).toNat
def wxor (k : IntKind) (a b : Int) : Int := k.wrap (BitVec.ofInt k.bits a ^^^ BitVec.ofInt k.bits b).toNat
def wnot (k : IntKind) (a : Int) : Int := wxor k (if k.signed then -1 else k.max) a
def scat (x y : ByteArray) : ByteArray := x ++ y
def sbyte (s : ByteArray) (n : Int) : Int := ((s.data.getD n.toNat 0).toNat : Int)
def ssub (s : ByteArray) (l h : Int) : ByteArray := s.extract l.toNat h.toNat
def slen (s : ByteArray) : Int := Int.ofNat s.size
def lsum (a b : Int) : Int := a + b
def kdn (n k : Int) : Int := n - 1 - k
def kup (k : Int) : Int := k + 1
def isub (a b : Int) : Int := a - b
def cre (p : Nat × Nat) : Nat := p.1
def cim (p : Nat × Nat) : Nat := p.2
def fbin (P : Program) (op : BinOp) (t : TypeId) (x y r : Value) : Prop := ∀ w' : World, (binOp op t x y).run P w' = .ok r w'
def fext (P : Program) (f : FuncId) (vs : List Value) (r : Value) : Prop := ∀ w' : World, (callFunc f vs.toArray).run P w' = .ok (.value r) w'
def fcvt (P : Program) (src dst : TypeId) (x r : Value) : Prop := ∀ w' : World, (convert src dst x).run P w' = .ok r w'

def aget (ns : List Int) (n : Int) : Int := ns.getD n.toNat 0
def aset (ns : List Int) (n : Int) (v : Int) : List Int := ns.set n.toNat v
def apick (x : Int) (j : Nat) (i v : Int) : Int := if i = Int.ofNat j then v else x
def azero (m : Nat) : List Int := List.replicate m 0
def asub (ns : List Int) (l h : Int) : List Int := (ns.take h.toNat).drop l.toNat

inductive SV where
 | val (v : Value)
 | agg (cs : List SV)
 | tup (cs : List SV)
 | slice (sz : Nat) (rows : List (List SV)) (tok : Nat)
 | mapv (es : List (ByteArray × Int))
 | ref (off : Nat) (cells : List SV)
 | clo (f : FuncId) (caps : List SV)
 | ifc (t : TypeId) (v : SV)
 | ptr (id off : Nat)
 | bsl (id off n : Nat)
 | osl (id : Nat)
 | eptr (id : Nat) (e : TypeId) (i : Int) (off : Nat)
 | osv (id : Nat) (l h c : Int)
 | omp (id : Nat)
 | arr (kd : IntKind) (m : Nat) (ns : List Int)
 | aptr (id : Nat) (i : Int)
 | asl (id : Nat) (l h : Int)
 | gd (t : Nat) (want : Bool) (v : SV)
 | unk
 deriving Inhabited

abbrev SV.int (k : IntKind) (n : Int) : SV := .val (.int k n)
abbrev SV.bool (b : Bool) : SV := .val (.bool b)
abbrev SV.str (s : ByteArray) : SV := .val (.string s)

end Go.Px

namespace Go.Px
open Go

def bnds : List SV := [.val (.string ⟨#[49]⟩), .val (.string ⟨#[50]⟩), .val (.string ⟨#[52]⟩), .val (.string ⟨#[56]⟩), .val (.string ⟨#[49, 54]⟩), .val (.string ⟨#[51, 50]⟩), .val (.string ⟨#[54, 52]⟩), .val (.string ⟨#[49, 50, 56]⟩), .val (.string ⟨#[43, 73, 110, 102]⟩)]

def pow10 : List SV := [.val (.int .u64 1), .val (.int .u64 10), .val (.int .u64 100), .val (.int .u64 1000), .val (.int .u64 10000), .val (.int .u64 100000), .val (.int .u64 1000000), .val (.int .u64 10000000), .val (.int .u64 100000000), .val (.int .u64 1000000000), .val (.int .u64 10000000000), .val (.int .u64 100000000000), .val (.int .u64 1000000000000), .val (.int .u64 10000000000000), .val (.int .u64 100000000000000), .val (.int .u64 1000000000000000), .val (.int .u64 10000000000000000), .val (.int .u64 100000000000000000), .val (.int .u64 1000000000000000000), .val (.int .u64 10000000000000000000)]

def Zbz : List (Nat × List SV) := [(2, bnds)]

end Go.Px

namespace Go.Px

def Zfn (g : Nat) : List (Nat × List SV) → SV
 | [] => .unk
 | (k, cs) :: r => bif Nat.beq k g then .ref 0 cs else Zfn g r

def ifB (b : Bool) (x y : Prop) : Prop :=
 match b with
 | true => x
 | false => y

def rlen (rows : List (List SV)) : Int := Int.ofNat rows.length
def rget (rows : List (List SV)) (n : Int) : List SV := rows.getD n.toNat []
def rsub (rows : List (List SV)) (l h : Int) : List (List SV) := (rows.take h.toNat).drop l.toNat
def rapp (xs ys : List (List SV)) : List (List SV) := xs ++ ys
def rput (rows : List (List SV)) (k : Int) (ys : List (List SV)) : List (List SV) := rows.take k.toNat ++ ys ++ rows.drop (k.toNat + ys.length)
def rset (rows : List (List SV)) (n : Int) (r : List SV) : List (List SV) := rows.set n.toNat r
def rrep (n : Int) (r : List SV) : List (List SV) := List.replicate n.toNat r
def Zdq (s : ByteArray) : List (List SV) := s.data.toList.map fun b => [.val (.int .u8 (b.toNat : Int))]
def Zfo (r : List SV) : UInt8 := match r with | [.val (.int _ n)] => UInt8.ofNat n.toNat | _ => 0
def bstr (rows : List (List SV)) : ByteArray := ⟨(rows.map Zfo).toArray⟩
def ufold (n : Int) (rows : List (List SV)) : Int := rows.reverse.foldl (fun n r => wor .u64 (wshl .u64 n 7) (wcv .u64 (wrem (match r with | [.val (.int _ x)] => x | _ => 0) 128))) n
def Zc8 (rows : List (List SV)) : Prop := ∀ r ∈ rows, ∃ n : Int, r = [.val (.int .u8 n)] ∧ 0 ≤ n ∧ n < 256
def grpN (rows : List (List SV)) : Int := (rlen rows + 10) / 11
def grpAt (rows : List (List SV)) (k : Int) : List (List SV) := (rows.drop (11 * k.toNat)).take 11
def arows (kd : IntKind) (ns : List Int) : List (List SV) := ns.map fun n => [.val (.int kd n)]
def mget (es : List (ByteArray × Int)) (k : ByteArray) : Int := ((es.find? fun e => decide (e.1 = k)).map (·.2)).getD 0
def mhas (es : List (ByteArray × Int)) (k : ByteArray) : Bool := es.any fun e => decide (e.1 = k)
def msetR (k : ByteArray) (n : Int) : List (ByteArray × Int) → List (ByteArray × Int)
 | [] => [(k, n)]
 | e :: es => if e.1 = k then (k, n) :: es else e :: msetR k n es
def mset (es : List (ByteArray × Int)) (k : ByteArray) (n : Int) : List (ByteArray × Int) := msetR k n es
def mlen (es : List (ByteArray × Int)) : Int := Int.ofNat es.length

def isIfc (s : SV) : Bool := match s with | .val .nilIface | .val (.iface _ _) | .ifc _ _ => true | _ => false
def Zlm (s : SV) : Bool := match s with | .val .nilIface => true | _ => false

inductive Ob where
 | box (cells : List SV)
 | own (sz : Nat) (rows : List (List SV))
 | mp (es : List (ByteArray × Int))
 | arr (kd : IntKind) (m : Nat) (ns : List Int)

structure St where
 tmps : List SV
 objs : List (Nat × Ob)

def lget : List SV → Nat → SV
 | [], _ => .unk
 | x :: _, 0 => x
 | _ :: xs, n + 1 => lget xs n

def lset : List SV → Nat → SV → List SV
 | [], _, _ => []
 | _ :: xs, 0, v => v :: xs
 | x :: xs, n + 1, v => x :: lset xs n v

def oget : List (Nat × Ob) → Nat → Option Ob
 | [], _ => none
 | (k, o) :: xs, n => bif Nat.beq k n then some o else oget xs n

def odel : List (Nat × Ob) → Nat → List (Nat × Ob)
 | [], _ => []
 | (k, o) :: xs, n => bif Nat.beq k n then odel xs n else (k, o) :: odel xs n

def oput : List (Nat × Ob) → Nat → Ob → List (Nat × Ob)
 | [], _, _ => []
 | (k, p) :: xs, n, o => bif Nat.beq k n then (k, o) :: oput xs n o else (k, p) :: oput xs n o

mutual
def hmap (g : SV → SV) : SV → SV
 | .agg cs => .agg (hmapL g cs)
 | .tup cs => .tup (hmapL g cs)
 | .gd t w v => .gd t w (hmap g v)
 | s => g s
def hmapL (g : SV → SV) : List SV → List SV
 | [] => []
 | c :: cs => hmap g c :: hmapL g cs
end

def Zd5 (g : SV → SV) : Ob → Ob
 | .box cs => .box (hmapL g cs)
 | o => o

def hmapO (g : SV → SV) : List (Nat × Ob) → List (Nat × Ob)
 | [] => []
 | (k, o) :: xs => (k, Zd5 g o) :: hmapO g xs

def killG (n : Nat) : SV → SV
 | .ptr id off => bif Nat.beq id n then .unk else .ptr id off
 | .bsl id off k => bif Nat.beq id n then .unk else .bsl id off k
 | .osl id => bif Nat.beq id n then .unk else .osl id
 | .eptr id e i off => bif Nat.beq id n then .unk else .eptr id e i off
 | .osv id l h c => bif Nat.beq id n then .unk else .osv id l h c
 | .omp id => bif Nat.beq id n then .unk else .omp id
 | .aptr id i => bif Nat.beq id n then .unk else .aptr id i
 | .asl id l h => bif Nat.beq id n then .unk else .asl id l h
 | s => s

def frzG (n sz : Nat) (rows : List (List SV)) : SV → SV
 | .osl id => bif Nat.beq id n then .slice sz rows 0 else .osl id
 | .eptr id e i off => bif Nat.beq id n then .unk else .eptr id e i off
 | .osv id l h c => bif Nat.beq id n then .unk else .osv id l h c
 | s => s

def opnG (n m : Nat) (len c : Int) : SV → SV
 | .osl id => bif Nat.beq id n then .osv m 0 len c else killG m (.osl id)
 | s => killG m (killG n s)

def koslG (n : Nat) : SV → SV
 | .osl id => bif Nat.beq id n then .unk else .osl id
 | s => s

def frzBG (n : Nat) (cells : List SV) : SV → SV
 | .ptr id off => bif Nat.beq id n then .ref off cells else .ptr id off
 | .bsl id off k => bif Nat.beq id n then .unk else .bsl id off k
 | s => s

def ev (st : St) : Operand → SV
 | .tmp t => lget st.tmps t
 | .const (.agg cs) => .agg (cs.toList.map .val)
 | .const (.slice none 0 0) => .slice 0 [] 1
 | .const v => .val v
 | .func f => .clo f []
 | .global g => Zfn g Zbz

def cellsOf : SV → List SV
 | .agg cs => cs
 | v => [v]

def Zim (t : Nat) : SV → SV
 | .gd t' w v => bif Nat.beq t t' then .unk else .gd t' w v
 | v => v

def Zfp (t : Nat) : List SV → List SV
 | [] => []
 | x :: xs => Zim t x :: Zfp t xs

def St.put (st : St) (d : Option Nat) (v : SV) : St :=
 match d with
 | some d => { st with tmps := lset (Zfp d st.tmps) d (Zim d v) }
 | none => st

def takeN : Nat → List SV → List SV
 | 0, _ => []
 | _, [] => []
 | n + 1, x :: xs => x :: takeN n xs

def dropN : Nat → List SV → List SV
 | 0, l => l
 | _, [] => []
 | n + 1, _ :: xs => dropN n xs

def lenN : List SV → Nat
 | [] => 0
 | _ :: xs => lenN xs + 1

def Zbs : Nat → List SV → List SV → Option (List SV)
 | 0, [], l => some l
 | 0, _ :: _, [] => none
 | 0, v :: vs, _ :: xs => (Zbs 0 vs xs).map (v :: ·)
 | _ + 1, _, [] => none
 | n + 1, vs, x :: xs => (Zbs n vs xs).map (x :: ·)

def Zbb (P : Program) (t : TypeId) : Bool :=
 match P.underlying t with
 | some (.struct _) | some (.array ..) => true
 | _ => false
def szT (P : Program) (t : TypeId) : Option Nat := (P.info? t).map (·.size)
def Zmr (P : Program) (t f : Nat) : Option Field :=
 match P.underlying t with
 | some (.struct fs) => fs[f]?
 | _ => none

def partN (P : Program) (t : TypeId) (off : Nat) (cs : List SV) : Option SV :=
 match P.underlying t, szT P t with
 | none, _ | _, none => none
 | some _, some n =>
  bif Zbb P t then
   (bif Nat.ble (off + n) (lenN cs) then some (.agg (takeN n (dropN off cs))) else none)
  else (bif Nat.ble (off + 1) (lenN cs) then some (lget cs off) else none)

def Zdr (P : Program) : Nat → TypeId → List TypeId
 | 0, _ => []
 | n + 1, t => match P.underlying t with
  | some (.struct fs) => fs.toList.flatMap fun f => Zdr P n f.type
  | some (.array m e) => (List.range m).flatMap fun _ => Zdr P n e
  | _ => [t]

def Zds : Value → Bool
 | .bool _ | .int _ _ | .float _ _ | .complex _ _ _ | .string _ => true
 | .slice none 0 0 | .pointer none | .map none | .nilFunc | .nilIface => true
 | _ => false

def Zd6 (P : Program) (t : TypeId) (v : Value) : SV :=
 match v with
 | .slice none 0 0 => match P.underlying t with
  | some (.slice e) => .slice ((szT P e).getD 0) [] 1
  | _ => .slice 0 [] 1
 | v => .val v

def zeroCells (P : Program) : List TypeId → List Value → Option (List SV)
 | [], [] => some []
 | t :: ts, v :: vs => bif Zds v then (zeroCells P ts vs).map (Zd6 P t v :: ·) else none
 | _, _ => none

def Zkd (P : Program) (t : TypeId) : Option SV :=
 match ((P.info? t).bind (·.zero) : Option Value) with
 | some (.agg cs) => (zeroCells P (Zdr P 8 t) cs.toList).map .agg
 | some v => bif Zds v then some (Zd6 P t v) else none
 | _ => none

def intOp (op : BinOp) (k : IntKind) (a b : Int) : Option Value :=
 match op with
 | .add => some (.int k (wadd k a b))
 | .sub => some (.int k (wsub k a b))
 | .mul => some (.int k (wmul k a b))
 | .eql => some (.bool (ieq a b))
 | .neq => some (.bool (ine a b))
 | .lss => some (.bool (ilt a b))
 | .leq => some (.bool (ile a b))
 | .gtr => some (.bool (igt a b))
 | .geq => some (.bool (ige a b))
 | .and => some (.int k (wand k a b))
 | .or => some (.int k (wor k a b))
 | .xor => some (.int k (wxor k a b))
 | _ => none

def strOp (op : BinOp) (x y : ByteArray) : Option Value :=
 match op with
 | .eql => some (.bool (seq x y))
 | .neq => some (.bool (sne x y))
 | .lss => some (.bool (slt x y))
 | .leq => some (.bool (sle x y))
 | .gtr => some (.bool (sgt x y))
 | .geq => some (.bool (sge x y))
 | _ => none

def ungd (gs : List (Nat × Bool)) (v : SV) : SV :=
 match v with
 | .gd t w x => bif gs.any (fun g => Nat.beq g.1 t && (g.2 == w)) then x else .unk
 | v => v

def gdst (ops : Array Oper) : Option (Nat × Bool) → Option (Nat × Bool)
 | none => none
 | some (j, w) => match (ops[j]?).bind (·.dst) with
  | some t => some (t, w)
  | none => none

def chain (st : St) : Nat → Nat × Bool → List (Nat × Bool)
 | 0, _ => []
 | n + 1, g => g :: match lget st.tmps g.1 with
  | .gd t w _ => chain st n (t, w)
  | _ => []

def pickV (x y : SV) (p : Bool) : Option SV :=
 match x, y with
 | .val (.bool a), .val (.bool b) => some (.val (.bool (bpick p a b)))
 | x, y => match p with
  | true => some x
  | false => some y

def eqA (P : Program) : Nat → TypeId → SV → SV → Option Bool
 | 0, _, _, _ => none
 | n + 1, t, x, y => match P.underlying t, x, y with
  | some .bool, .val (.bool a), .val (.bool b) => some (beqB a b)
  | some (.int _), .val (.int k a), .val (.int k' b) => bif decide (k = k') then some (ieq a b) else none
  | some .string, .val (.string a), .val (.string b) => some (seq a b)
  | some (.struct fs), .agg xs, .agg ys => bif P.stoodInHeld t then none else
    fs.toList.foldr (fun f r => bif f.name == "_" then none else
     match partN P f.type f.offset xs, partN P f.type f.offset ys, r with
     | some p, some q, some rest => (eqA P n f.type p q).map (fun e => band e rest)
     | _, _, _ => none) (some true)
  | some (.array m e), .agg xs, .agg ys => match szT P e with
   | none => none
   | some c => (List.range m).foldr (fun i r =>
     match partN P e (i * c) xs, partN P e (i * c) ys, r with
     | some p, some q, some rest => (eqA P n e p q).map (fun e => band e rest)
     | _, _, _ => none) (some true)
  | _, _, _ => none

def eqOp (P : Program) (op : BinOp) (t : TypeId) (x y : SV) : Option SV :=
 match op with
 | .eql => bif P.eqGuardType P.depth t then none else (eqA P 6 t x y).map fun b => .val (.bool b)
 | .neq => bif P.eqGuardType P.depth t then none else (eqA P 6 t x y).map fun b => .val (.bool (bnot b))
 | _ => none

def Zs2 (P : Program) (s : TypeId) (x : SV) (f : Nat) : Option SV :=
 match Zmr P s f with
 | none => none
 | some fd =>
  match szT P fd.type with
  | some (_ + 1) =>
   match x with
   | .ptr id off => some (.ptr id (off + fd.offset))
   | .ref off cs => some (.ref (off + fd.offset) cs)
   | .eptr id e i off => some (.eptr id e i (off + fd.offset))
   | _ => none
  | _ => none

def Zqh (P : Program) (t : TypeId) (x : SV) (objs : List (Nat × Ob)) : Option SV :=
 match x with
 | .ptr id off => match oget objs id with
  | some (.box cs) => partN P t off cs
  | _ => none
 | .ref off cs => partN P t off cs
 | _ => none

def Zbv : SV → Bool
 | .val (.agg _) | .val (.tuple _) => false
 | .val _ | .slice .. | .ref .. | .clo .. | .ifc .. | .ptr .. | .bsl .. | .osl .. | .eptr .. | .omp .. => true
 | _ => false

def boxL : List SV → Bool
 | [] => true
 | c :: cs => Zbv c && boxL cs

def fillN (place : Nat → Option (Nat × Nat)) (cells : List SV) : List (Nat × SV) → Option (List SV)
 | [] => some cells
 | (i, v) :: rest => match place i with
  | none => none
  | some (off, n) => bif boxL (cellsOf v) && Nat.beq (lenN (cellsOf v)) n then
    (match Zbs off (cellsOf v) cells with
    | none => none
    | some cs => fillN place cs rest) else none

def Zh3 (P : Program) (t : TypeId) (i : Nat) : Option (Nat × Nat) :=
 match P.underlying t with
 | some (.struct fs) => match fs[i]? with
  | some f => (szT P f.type).map fun n => (f.offset, n)
  | none => none
 | some (.array _ e) => (szT P e).map fun n => (i * n, n)
 | _ => none

def Zo5 (P : Program) (t : TypeId) : Bool :=
 match P.underlying t with
 | some (.struct fs) => fs.toList.all fun f => (szT P f.type).isSome
 | some (.array _ e) => (szT P e).isSome
 | _ => false

def Zo6 (P : Program) (t : TypeId) (parts : List (Nat × SV)) : Option SV :=
 bif Zo5 P t then
  (match Zkd P t with
  | some (.agg zs) => (fillN (Zh3 P t) zs parts).map .agg
  | _ => none) else none

def fixSz (P : Program) (t : TypeId) (s : SV) : SV :=
 match P.underlying t, s with
 | some (.slice e), .slice sz rows tok => .slice (bif Nat.beq sz 0 then (szT P e).getD 0 else sz) rows tok
 | _, s => s

def fixNil (P : Program) (t : TypeId) (x : Operand) (s : SV) : SV :=
 match x with
 | .const (.slice none 0 0) => fixSz P t s
 | _ => s

def quiet (P : Program) (ty : TypeId) (gv : List (Nat × Bool) → Operand → SV) (objs : List (Nat × Ob)) : Op → Option SV
 | .move x | .assign x => some (fixNil P ty x (gv [] x))
 | .pick c x y => match c, gv [] c with
  | .tmp t, .val (.bool p) => pickV (gv [(t, true)] x) (gv [(t, false)] y) p
  | _, _ => none
 | .fieldAddr s x f => Zs2 P s (gv [] x) f
 | .load t x => Zqh P t (gv [] x) objs
 | .binOp op t x y _ => match gv [] x, gv [] y with
  | .val (.int k a), .val (.int k' b) => bif decide (k = k') then (intOp op k a b).map .val else none
  | .val (.string a), .val (.string b) => (strOp op a b).map .val
  | .val (.bool a), .val (.bool b) => eqOp P op t (.val (.bool a)) (.val (.bool b))
  | .agg xs, .agg ys => eqOp P op t (.agg xs) (.agg ys)
  | _, _ => none
 | .build t parts => Zo6 P t (parts.toList.map fun p => (p.1, gv [] p.2))
 | .field t x f => match gv [] x, Zmr P t f with
  | .agg cs, some fd => partN P fd.type fd.offset cs
  | _, _ => none
 | .nilCheck x => match gv [] x with
  | .ptr id off => some (.ptr id off)
  | .ref off cs => some (.ref off cs)
  | .clo f cs => some (.clo f cs)
  | .eptr id e i off => some (.eptr id e i off)
  | _ => none
 | .lookup t x k ok => match P.underlying t, gv [] x, gv [] k with
  | some (.map kt et), .omp id, .val (.string s) => match P.underlying kt, P.underlying et, oget objs id with
   | some .string, some (.int .i64), some (.mp es) => match Zkd P et with
    | some (.val (.int .i64 0)) => some (bif ok then .tup [.val (.int .i64 (mget es s)), .val (.bool (mhas es s))] else .val (.int .i64 (mget es s)))
    | _ => none
   | _, _, _ => none
  | _, _, _ => none
 | .unOp op _ x => match op, gv [] x with
  | .not, .val (.bool b) => some (.val (.bool (bnot b)))
  | .neg, .val (.int k n) => some (.val (.int k (wneg k n)))
  | .xor, .val (.int k n) => some (.val (.int k (wnot k n)))
  | _, _ => none
 | .convert src dst x => match P.underlying src, P.underlying dst, gv [] x with
  | some (.int _), some (.int k), .val (.int _ n) => some (.val (.int k (wcv k n)))
  | some .string, some .string, .val (.string s) => some (.val (.string s))
  | _, _, _ => none
 | .extract x i => match gv [] x with
  | .tup cs => bif Nat.ble (i + 1) (lenN cs) then some (lget cs i) else none
  | _ => none
 | .call { callee := .builtin b, args := ⟨[x]⟩, argTypes := ⟨[t]⟩ } => match b, P.underlying t, gv [] x with
  | .len, some (.slice _), .slice _ rows _ => some (.val (.int .i64 (rlen rows)))
  | .len, some (.slice _), .bsl _ _ n => some (.val (.int .i64 (Int.ofNat n)))
  | .len, some (.slice _), .osl id => match oget objs id with
   | some (.own _ rows) => some (.val (.int .i64 (rlen rows)))
   | _ => none
  | .len, some (.map _ _), .omp id => match oget objs id with
   | some (.mp es) => some (.val (.int .i64 (mlen es)))
   | _ => none
  | .len, some .string, .val (.string s) => some (.val (.int .i64 (slen s)))
  | .len, some (.array n _), _ => some (.val (.int .i64 (Int.ofNat n)))
  | .real, some (.complex _), .val (.complex k re _) => some (.val (.float k re))
  | .imag, some (.complex _), .val (.complex k _ im) => some (.val (.float k im))
  | _, _, _ => none
 | .call { callee := .builtin b, args := ⟨[x, y]⟩, .. } => match b, gv [] x, gv [] y with
  | .min, .val (.int k a), .val (.int k' b) => bif decide (k = k') then some (.val (.int k (imin a b))) else none
  | .max, .val (.int k a), .val (.int k' b) => bif decide (k = k') then some (.val (.int k (imax a b))) else none
  | .complex, .val (.float k a), .val (.float k' b) => bif decide (k = k') then some (.val (.complex k a b)) else none
  | _, _, _ => none
 | _ => none

theorem Zcl (g : Nat) : ∀ l : List (Nat × List SV), Zfn g l = .unk ∨ ∃ cs, (g, cs) ∈ l ∧ Zfn g l = .ref 0 cs
 | [] => .inl rfl
 | (k, cs) :: r => by
  unfold Zfn
  cases hk : Nat.beq k g with
  | true => have := Nat.eq_of_beq_eq_true hk; subst this; exact .inr ⟨cs, by simp, rfl⟩
  | false =>
   rcases Zcl g r with h | ⟨c, h1, h2⟩
   ·exact .inl h
   ·exact .inr ⟨c, by simp [h1], h2⟩

theorem Zo7 (gs : List (Nat × Bool)) (g : Nat) (l : List (Nat × List SV)) : ungd gs (Zfn g l) = Zfn g l := by
 rcases Zcl g l with e | ⟨cs, _, e⟩ <;> rw [e] <;> rfl

end Go.Px

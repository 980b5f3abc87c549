/- Abstract data without a heap. -/
import Derived.Calls
import Derived.Orders
import Derived.KernelRfl
namespace Go.Px

/- Leaves: what is computed with numbers, texts and lengths. -/
def wadd (k : IntKind) (a b : Int) : Int := k.wrap (a + b)
def wsub (k : IntKind) (a b : Int) : Int := k.wrap (a - b)
def wmul (k : IntKind) (a b : Int) : Int := k.wrap (a * b)
def wneg (k : IntKind) (a : Int) : Int := k.wrap (0 - a)
def wcv (k : IntKind) (a : Int) : Int := k.wrap a
def ieq (a b : Int) : Bool := a == b
def ine (a b : Int) : Bool := a != b
def ilt (a b : Int) : Bool := decide (a < b)
def ile (a b : Int) : Bool := decide (a ≤ b)
def igt (a b : Int) : Bool := decide (a > b)
def ige (a b : Int) : Bool := decide (a ≥ b)
def imin (a b : Int) : Int := if b < a then b else a
def imax (a b : Int) : Int := if a < b then b else a
def seq (x y : ByteArray) : Bool := x.toList == y.toList
def sne (x y : ByteArray) : Bool := !(x.toList == y.toList)
def slt (x y : ByteArray) : Bool := Op.bytesLess x.toList y.toList
def sle (x y : ByteArray) : Bool := Op.bytesLess x.toList y.toList || x.toList == y.toList
def sgt (x y : ByteArray) : Bool := !(Op.bytesLess x.toList y.toList || x.toList == y.toList)
def sge (x y : ByteArray) : Bool := !(Op.bytesLess x.toList y.toList)
def bnot (b : Bool) : Bool := !b
def bpick (p a b : Bool) : Bool := bif p then a else b
def beqB (a b : Bool) : Bool := a == b
def band (a b : Bool) : Bool := a && b
def wquo (k : IntKind) (a b : Int) : Int := k.wrap (a.tdiv b)
def wrem (a b : Int) : Int := a.tmod b
def wshl (k : IntKind) (a b : Int) : Int := k.wrap (a * 2 ^ (min b.toNat k.bits))
def wshr (k : IntKind) (a b : Int) : Int := a.fdiv (2 ^ (min b.toNat k.bits))
def wand (k : IntKind) (a b : Int) : Int := k.wrap (BitVec.ofInt k.bits a &&& BitVec.ofInt k.bits b).toNat
def wor (k : IntKind) (a b : Int) : Int := k.wrap (BitVec.ofInt k.bits a ||| BitVec.ofInt k.bits b).toNat
def wxor (k : IntKind) (a b : Int) : Int := k.wrap (BitVec.ofInt k.bits a ^^^ BitVec.ofInt k.bits b).toNat
def wnot (k : IntKind) (a : Int) : Int := wxor k (if k.signed then -1 else k.max) a
def scat (x y : ByteArray) : ByteArray := x ++ y
def sbyte (s : ByteArray) (n : Int) : Int := ((s.data.getD n.toNat 0).toNat : Int)
def ssub (s : ByteArray) (l h : Int) : ByteArray := s.extract l.toNat h.toNat
def slen (s : ByteArray) : Int := Int.ofNat s.size
def lsum (a b : Int) : Int := a + b
def kdn (n k : Int) : Int := n - 1 - k
def kup (k : Int) : Int := k + 1
def isub (a b : Int) : Int := a - b
def cre (p : Nat × Nat) : Nat := p.1
def cim (p : Nat × Nat) : Nat := p.2
def fbin (P : Program) (op : BinOp) (t : TypeId) (x y r : Value) : Prop := ∀ w' : World, (binOp op t x y).run P w' = .ok r w'
def fext (P : Program) (f : FuncId) (vs : List Value) (r : Value) : Prop := ∀ w' : World, (callFunc f vs.toArray).run P w' = .ok (.value r) w'
def fcvt (P : Program) (src dst : TypeId) (x r : Value) : Prop := ∀ w' : World, (convert src dst x).run P w' = .ok r w'

def aget (ns : List Int) (n : Int) : Int := ns.getD n.toNat 0
def aset (ns : List Int) (n : Int) (v : Int) : List Int := ns.set n.toNat v
def apick (x : Int) (j : Nat) (i v : Int) : Int := if i = Int.ofNat j then v else x
def azero (m : Nat) : List Int := List.replicate m 0
def asub (ns : List Int) (l h : Int) : List Int := (ns.take h.toNat).drop l.toNat

inductive SV where
  | val (v : Value)
  | agg (cs : List SV)
  | tup (cs : List SV)
  | slice (sz : Nat) (rows : List (List SV)) (tok : Nat)
  | mapv (es : List (ByteArray × Int))
  | ref (off : Nat) (cells : List SV)
  | clo (f : FuncId) (caps : List SV)
  | ifc (t : TypeId) (v : SV)
  | ptr (id off : Nat)
  | bsl (id off n : Nat)
  | osl (id : Nat)
  | eptr (id : Nat) (e : TypeId) (i : Int) (off : Nat)
  | osv (id : Nat) (l h c : Int)
  | omp (id : Nat)
  | arr (kd : IntKind) (m : Nat) (ns : List Int)
  | aptr (id : Nat) (i : Int)
  | asl (id : Nat) (l h : Int)
  | gd (t : Nat) (want : Bool) (v : SV)
  | unk
  deriving Inhabited

abbrev SV.int (k : IntKind) (n : Int) : SV := .val (.int k n)
abbrev SV.bool (b : Bool) : SV := .val (.bool b)
abbrev SV.str (s : ByteArray) : SV := .val (.string s)

end Go.Px

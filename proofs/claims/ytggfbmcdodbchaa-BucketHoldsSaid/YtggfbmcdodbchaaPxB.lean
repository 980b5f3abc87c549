/- The conditions of operations, of regions, of code; what a call's contract says. -/
import Derived.Test.YtggfbmcdodbchaaPxA
import Derived.Below
namespace Go.Px
open Go.RowKit

abbrev Hp := Nat → Nat → Option Value

/-- A value, read in the part h of memory that never changes. -/
inductive PRep (h : Hp) : Value → SV → Prop
  | val (v : Value) : PRep h v (.val v)
  | agg (vs : Array Value) (cs : List SV) (hl : vs.size = cs.length)
      (hc : ∀ (i : Nat) v c, vs[i]? = some v → cs[i]? = some c → PRep h v c) : PRep h (.agg vs) (.agg cs)
  | empty (p : Option Addr) (cap sz tok : Nat) (ht : tok ≤ 1) (h1 : tok = 1 → cap = 0) (hn : p = none → cap = 0) : PRep h (.slice p 0 cap) (.slice sz [] tok)
  | slice (b off cap sz : Nat) (rows : List (List SV)) (tok : Nat) (vs : Nat → Nat → Value)
      (hpos : 0 < sz) (hz : ∀ (i : Nat) r, rows[i]? = some r → r.length = sz)
      (hh : ∀ (i : Nat) r (j : Nat) c, rows[i]? = some r → r[j]? = some c → h b (off + i * sz + j) = some (vs i j))
      (hr : ∀ (i : Nat) r (j : Nat) c, rows[i]? = some r → r[j]? = some c → PRep h (vs i j) c)
      (ht : tok ≤ 1) (h1 : tok = 1 → cap = rows.length) (hle : rows.length ≤ cap) :
      PRep h (.slice (some ⟨b, off, none⟩) rows.length cap) (.slice sz rows tok)
  | ref (b base off : Nat) (cells : List SV) (vs : Nat → Value)
      (hh : ∀ (j : Nat) c, cells[j]? = some c → h b (base + j) = some (vs j))
      (hr : ∀ (j : Nat) c, cells[j]? = some c → PRep h (vs j) c) :
      PRep h (.pointer (some ⟨b, base + off, none⟩)) (.ref off cells)
  | clo (f : FuncId) (vs : Array Value) (cs : List SV) (hl : vs.size = cs.length)
      (hc : ∀ (i : Nat) v c, vs[i]? = some v → cs[i]? = some c → PRep h v c) : PRep h (.func (.func f) #[] vs) (.clo f cs)
  | unk (v : Value) : PRep h v .unk

/-- Where an object lies. -/
structure Loc where
  blk : Nat
  off : Nat
  len : Nat
  cap : Nat
  sz : Nat
  none : Bool

/-- A value, read with the objects that are one's own. -/
inductive Rep (h : Hp) (ρ : Nat → Loc) : Value → SV → Prop
  | pure (v : Value) (s : SV) (hp : PRep h v s) : Rep h ρ v s
  | agg (vs : Array Value) (cs : List SV) (hl : vs.size = cs.length)
      (hc : ∀ (i : Nat) v c, vs[i]? = some v → cs[i]? = some c → Rep h ρ v c) : Rep h ρ (.agg vs) (.agg cs)
  | tup (vs : Array Value) (cs : List SV) (hl : vs.size = cs.length)
      (hc : ∀ (i : Nat) v c, vs[i]? = some v → cs[i]? = some c → Rep h ρ v c) : Rep h ρ (.tuple vs) (.tup cs)
  | tip0 (id : Nat) (v : Value) (sz : Nat) (rows : List (List SV)) (hn : (ρ id).none = true) (hp : PRep h v (.slice sz rows 1)) :
      Rep h ρ v (.slice sz rows (id + 2))
  | tip (id sz : Nat) (rows : List (List SV)) (hn : (ρ id).none = false) (hpos : 0 < sz) (hl : (ρ id).len = rows.length) (hs : (ρ id).sz = sz)
      (hp : PRep h (.slice (some ⟨(ρ id).blk, (ρ id).off, Option.none⟩) rows.length (ρ id).cap) (.slice sz rows 0)) :
      Rep h ρ (.slice (some ⟨(ρ id).blk, (ρ id).off, Option.none⟩) rows.length (ρ id).cap) (.slice sz rows (id + 2))
  | ptr (id off : Nat) : Rep h ρ (.pointer (some ⟨(ρ id).blk, off, Option.none⟩)) (.ptr id off)
  | bsl (id off n : Nat) : Rep h ρ (.slice (some ⟨(ρ id).blk, off, Option.none⟩) n n) (.bsl id off n)

def HSub (h : Hp) (w : World) : Prop := ∀ b o v, h b o = some v → w.cell? ⟨b, o, none⟩ = some v

/-- An object lies in memory as it is said. -/
def ObOK (h : Hp) (ρ : Nat → Loc) (w : World) (id : Nat) : Ob → Prop
  | .box cells => (ρ id).none = false ∧ (∃ cs t, w.heap[(ρ id).blk]? = some (.cells cs t (0, 0)) ∧ cs.size = cells.length ∧
      ∀ (i : Nat) v c, cs[i]? = some v → cells[i]? = some c → Rep h ρ v c ∧ v.oneCell' = true) ∧ ∀ o, h (ρ id).blk o = none
  | .tip => (ρ id).none = true ∨ (∃ cs t fz, w.heap[(ρ id).blk]? = some (.cells cs t fz) ∧ (ρ id).off + (ρ id).cap * (ρ id).sz ≤ cs.size ∧
      (∀ o, (ρ id).off + (ρ id).len * (ρ id).sz ≤ o → o < (ρ id).off + (ρ id).cap * (ρ id).sz → ¬ (fz.1 ≤ o ∧ o < fz.2))) ∧
      (∀ o, (ρ id).off + (ρ id).len * (ρ id).sz ≤ o → h (ρ id).blk o = none)

def live (objs : List (Nat × Ob)) (ρ : Nat → Loc) (id : Nat) : Prop := (∃ o, oget objs id = some o) ∧ (ρ id).none = false

/-- A slot's value: a guarded one is there if its guard said so, else nothing is. -/
def TRep (h : Hp) (ρ : Nat → Loc) (tmps : Array Value) (v : Value) : SV → Prop
  | .gd t w s => (tmps.getD t undef = .bool w ∧ Rep h ρ v s) ∨ (tmps.getD t undef ≠ .bool w ∧ v = undef)
  | s => Rep h ρ v s

/-- What an activation holds, and what it has left as it was. -/
structure FitsAt (w0 : World) (h0 : Hp) (h : Hp) (ρ : Nat → Loc) (st : St) (a : Act) (w : World) : Prop where
  size : a.tmps.size = st.tmps.length
  tm : ∀ (t : Nat) s, st.tmps[t]? = some s → TRep h ρ a.tmps (a.tmps.getD t undef) s
  df : a.defers = []
  sub : HSub h w
  obj : ∀ id o, oget st.objs id = some o → ObOK h ρ w id o
  inj : ∀ i j, live st.objs ρ i → live st.objs ρ j → i ≠ j → (ρ i).blk ≠ (ρ j).blk
  own : ∀ i, live st.objs ρ i → w0.heap.size ≤ (ρ i).blk
  ext : ∀ b, b < w0.heap.size → ∀ o, h b o = h0 b o
  bel : Below w0.heap.size w0 w

def Fits (w0 : World) (h0 : Hp) (st : St) (a : Act) (w : World) : Prop := ∃ h ρ, FitsAt w0 h0 h ρ st a w

/-- A result that is a slice comes with its spare room, if the callee hands that on. -/
def owned (T : Bool) (i : Nat) (s : SV) : SV :=
  match T, s with
  | true, .slice sz rows _ => .slice sz rows (i + 2)
  | _, s => s

/-- A result, as the caller gets it. -/
def RetRep (h : Hp) (ρ : Nat → Loc) (T : Bool) (i : Nat) (v : Value) (s : SV) : Prop :=
  match T, s with
  | true, .slice sz rows _ => Rep h ρ v (.slice sz rows (i + 2))
  | _, s => PRep h v s

/-- The values of a function's results. -/
def rets : List Value → Value
  | [v] => v
  | vs => .tuple vs.toArray

/-- A call's contract, on plain data. -/
def Ct (P : Program) (f : FuncId) (T : Bool) (args : List SV) (Q : List SV → Prop) : Prop :=
  ∀ (h : Hp) (w : World) (vs : Array Value), HSub h w → vs.size = args.length →
    (∀ (i : Nat) v s, vs[i]? = some v → args[i]? = some s → PRep h v s) →
    Calls P f vs w fun e w' => ∃ (vr : List Value) (h' : Hp) (ρ : Nat → Loc) (rs : List SV), e = .returned (rets vr) ∧ Q rs ∧
      vr.length = rs.length ∧ (∀ (i : Nat) v s, vr[i]? = some v → rs[i]? = some s → RetRep h' ρ T i v s) ∧
      (∀ (i : Nat) sz rows tok, rs[i]? = some (.slice sz rows tok) → T = true → ObOK h' ρ w' i .tip ∧ ((ρ i).none = false → w.heap.size ≤ (ρ i).blk)) ∧
      (∀ (i j : Nat) sz rows tok sz' rows' tok', rs[i]? = some (.slice sz rows tok) → rs[j]? = some (.slice sz' rows' tok') → T = true → i ≠ j → (ρ i).none = false → (ρ j).none = false → (ρ i).blk ≠ (ρ j).blk) ∧
      HSub h' w' ∧ (∀ b, b < w.heap.size → ∀ o, h' b o = h b o) ∧ Below w.heap.size w w'

/-- A cell's datum as one that anybody may hold. -/
def pureCell : SV → Option SV
  | .val (.agg _) | .val (.tuple _) => none
  | .val v => some (.val v)
  | .slice sz rows _ => some (.slice sz rows 0)
  | .ref off cs => some (.ref off cs)
  | .clo f cs => some (.clo f cs)
  | _ => none

def pureL : List SV → Option (List SV)
  | [] => some []
  | c :: cs => match pureCell c, pureL cs with
    | some c, some cs => some (c :: cs)
    | _, _ => none

def pureArg : SV → Option SV
  | .agg cs => (pureL cs).map .agg
  | s => pureCell s

/-- A nil slice gets its element's size. -/
def fixSz (P : Program) (t : TypeId) (s : SV) : SV :=
  match P.underlying t, s with
  | some (.slice e), .slice sz rows tok => .slice (bif Nat.beq sz 0 then (szT P e).getD 0 else sz) rows tok
  | _, s => s

def fixL' (P : Program) : List TypeId → List SV → List SV
  | t :: ts, c :: cs => fixSz P t c :: fixL' P ts cs
  | _, cs => cs

def normT (P : Program) (t : TypeId) (s : SV) : SV :=
  match s with
  | .agg cs => .agg (fixL' P (cellTypes P 8 t) cs)
  | s => fixSz P t s

def pureArgs (P : Program) : List TypeId → List SV → Option (List SV)
  | [], [] => some []
  | t :: ts, c :: cs => match pureArg c, pureArgs P ts cs with
    | some c, some cs => some (normT P t c :: cs)
    | _, _ => none
  | _, _ => none

/-- Cells of a variable of type t: what there are of each kind. -/
def shapeCells (P : Program) : Nat → TypeId → (List SV → Prop) → Prop
  | 0, _, _ => False
  | n + 1, t, K => match P.underlying t with
    | some .bool => ∃ b, K [.val (.bool b)]
    | some (.int k) => ∃ x : Int, K [.val (.int k x)]
    | some .string => ∃ s, K [.val (.string s)]
    | some (.slice e) => match szT P e with
      | some sz => ∃ rows, K [.slice sz rows 0]
      | none => False
    | some (.struct fs) => (fs.toList.foldr (fun f k acc => shapeCells P n f.type fun cs => k (acc ++ cs)) K) []
    | some (.array m e) => ((List.range m).foldr (fun _ k acc => shapeCells P n e fun cs => k (acc ++ cs)) K) []
    | _ => ∃ s, K [s]

def shapeV (P : Program) (t : TypeId) (K : SV → Prop) : Prop :=
  shapeCells P 8 t fun cs => bif isAggT P t then K (.agg cs) else match cs with
    | [c] => K c
    | _ => False

/-- All results of a call. -/
def shapeVs (P : Program) : List TypeId → (List SV → Prop) → Prop
  | [], K => K []
  | t :: ts, K => shapeV P t fun s => shapeVs P ts fun ss => K (s :: ss)

def St.bind (st : St) (id : Nat) (o : Ob) : St :=
  { tmps := killL id st.tmps, objs := (id, match o with | .box cs => .box (killL id cs) | .tip => .tip) :: killO id (odel st.objs id) }

/-- The results' slices with their spare room become objects of the caller's. -/
def bindTips (T : Bool) (d i : Nat) : List SV → St → St
  | [], st => st
  | .slice _ _ _ :: rs, st => bindTips T d (i + 1) rs (bif T then st.bind (16 * d + i) .tip else st)
  | _ :: rs, st => bindTips T d (i + 1) rs st

def ownedAll (T : Bool) (d i : Nat) : List SV → List SV
  | [] => []
  | r :: rs => owned T (16 * d + i) r :: ownedAll T d (i + 1) rs

def one : List SV → SV
  | [s] => s
  | ss => .tup ss

/-- A call whose contract answers for what comes behind it. -/
def Cl (P : Program) (f : FuncId) (T : Bool) (as : List SV) (K : List SV → Prop) : Prop := ∃ Q, Ct P f T as Q ∧ ∀ rs, Q rs → K rs

/-- A call of a function by its contract. -/
def callC (P : Program) (T : FuncId → Bool) (f : FuncId) (args : List SV) (dst : Option Nat) (st : St) (K : St → Prop) : Prop :=
  match P.funcs[f]? with
  | none => False
  | some fn => match pureArgs P fn.params.toList args with
    | none => False
    | some as => bif fn.body.isSome && !(fn.name == "runtime.NumGoroutine") then
        Cl P f (T f) as fun rs => shapeVs P fn.resultTypes.toList fun ss => rs = ss ∧
            match dst with
            | some d => K ((bindTips (T f) d 0 ss st).put dst (one (ownedAll (T f) d 0 ss)))
            | none => K st
      else False

/-- Operations that make or write memory, or call. -/
def loud (P : Program) : Op → Bool
  | .alloc _ | .box .. | .store .. | .buildSlice .. | .makeSlice .. | .makeFunc .. => true
  | .call { callee := .builtin .append, .. } | .call { callee := .builtin .copy, .. } | .call { callee := .value _, .. } => true
  | .convert src dst _ => match P.underlying src, P.underlying dst with
    | some .string, some (.slice _) => true
    | some (.slice _), _ => true
    | _, _ => false
  | _ => false

/-- n is one of the places from j on. -/
def caseN (n : Int) (K : Nat → Prop) : Nat → Nat → Prop
  | 0, _ => True
  | m + 1, j => (n = Int.ofNat j → K j) ∧ caseN n K m (j + 1)

/-- A place of an array of m. -/
def arrIx (m : Nat) (i : Operand) (n : Int) (K : Nat → Prop) : Prop :=
  match i with
  | .const (.int _ (.ofNat j)) => bif Nat.blt j m then K j else False
  | _ => bif Nat.ble m 16 then (0 ≤ n ∧ n < Int.ofNat m) ∧ caseN n K m 0 else False

/-- A bound of a slice expression, or what stands for it. -/
def bndOf (gv : List (Nat × Bool) → Operand → SV) (d : Int) : Option Operand → Option Int
  | none => some d
  | some x => match gv [] x with
    | .val (.int _ n) => some n
    | _ => none

/-- Operations that change nothing and read no memory, and have a value only under a condition. -/
def stillC (P : Program) (gv : List (Nat × Bool) → Operand → SV) (op : Op) (k : SV → Prop) : Prop :=
  match op with
  | .indexAddr t x i => match P.underlying t, gv [] x, gv [] i with
    | some (.slice e), .slice sz rows _, .val (.int _ n) => match szT P e with
      | some z => bif Nat.beq z sz && Nat.blt 0 z then (0 ≤ n ∧ n < rlen rows) ∧ shapeCells P 8 e (fun cs => rget rows n = cs ∧ k (.ref 0 cs)) else False
      | none => False
    | some (.array m e), .ptr id off, .val (.int _ n) => match szT P e with
      | some z => arrIx m i n fun j => k (.ptr id (off + j * z))
      | none => False
    | some (.array m e), .ref off cs, .val (.int _ n) => match szT P e with
      | some z => arrIx m i n fun j => k (.ref (off + j * z) cs)
      | none => False
    | _, _, _ => False
  | .index t x i => match P.underlying t, gv [] x, gv [] i with
    | some .string, .val (.string s), .val (.int _ n) => (0 ≤ n ∧ n < slen s) ∧ k (.val (.int .u8 (sbyte s n)))
    | some (.array m e), .agg cs, .val (.int _ n) => match szT P e with
      | some z => arrIx m i n fun j => match partN P e (j * z) cs with
        | some v => k v
        | none => False
      | none => False
    | _, _, _ => False
  | .binOp op _ x y _ => match gv [] x, gv [] y with
    | .val (.int kd a), .val (.int kd' b) => match op with
      | .quo => bif decide (kd = kd') then b ≠ 0 ∧ k (.val (.int kd (wquo kd a b))) else False
      | .rem => bif decide (kd = kd') then b ≠ 0 ∧ k (.val (.int kd (wrem a b))) else False
      | .shl => 0 ≤ b ∧ k (.val (.int kd (wshl kd a b)))
      | .shr => 0 ≤ b ∧ k (.val (.int kd (wshr kd a b)))
      | _ => False
    | .val (.string a), .val (.string b) => match op with
      | .add => slen a + slen b ≤ 9223372036854775807 ∧ k (.val (.string (scat a b)))
      | _ => False
    | _, _ => False
  | .slice t x lo hi mx => match P.underlying t, gv [] x with
    | some .string, .val (.string s) => match bndOf gv 0 lo, bndOf gv (slen s) hi, mx with
      | some l, some h, none => (0 ≤ l ∧ l ≤ h ∧ h ≤ slen s) ∧ k (.val (.string (ssub s l h)))
      | _, _, _ => False
    | some (.slice e), .slice sz rows _ => match szT P e, bndOf gv 0 lo, bndOf gv (rlen rows) hi, mx with
      | some z, some l, some h, none => bif Nat.beq z sz || Nat.beq sz 0 then (0 ≤ l ∧ l ≤ h ∧ h ≤ rlen rows) ∧ k (.slice sz (rsub rows l h) 0) else False
      | some z, some l, some h, some m => match hi, gv [] m with
        | some _, .val (.int _ mm) => bif Nat.beq z sz || Nat.beq sz 0 then (0 ≤ l ∧ l ≤ h ∧ h = mm ∧ h ≤ rlen rows) ∧ k (.slice sz (rsub rows l h) 1) else False
        | _, _ => False
      | _, _, _, _ => False
    | some (.array m e), .ptr id off => match szT P e, lo, hi, mx with
      | some 1, none, none, none => k (.bsl id off m)
      | _, _, _, _ => False
    | _, _ => False
  | _ => False

def loudC (P : Program) (T : FuncId → Bool) (o : Oper) (gv : List (Nat × Bool) → Operand → SV) (st : St) (K : St → Prop) : Prop :=
  match o.op with
  | .alloc t => match zeroSV P t, o.dst with
    | some z, some d => K ((st.bind (16 * d) (.box (cellsOf z))).put o.dst (.ptr (16 * d) 0))
    | _, _ => False
  | .box _ x => match o.dst with
    | some d => bif boxL (cellsOf (gv [] x)) then K ((st.bind (16 * d) (.box (cellsOf (gv [] x)))).put o.dst (.ptr (16 * d) 0)) else False
    | none => False
  | .store t x y => match gv [] x, szT P t with
    | .ptr id off, some n => match oget st.objs id with
      | some (.box cs) => bif boxL (cellsOf (gv [] y)) && Nat.beq (lenN (cellsOf (gv [] y))) n then
          (match spliceN off (cellsOf (gv [] y)) cs with
          | some cs' => K (({ st with objs := oput st.objs id (.box cs') } : St).put o.dst .unk)
          | none => False) else False
      | _ => False
    | _, _ => False
  | .call { callee := .value (.func f), args, .. } => callC P T f (args.toList.map (gv [])) o.dst st K
  | _ => False

/-- An operation that is carried out. -/
def exec (P : Program) (T : FuncId → Bool) (o : Oper) (gv : List (Nat × Bool) → Operand → SV) (st : St) (K : St → Prop) : Prop :=
  bif loud P o.op then loudC P T o gv st K
  else match quiet P gv st.objs o.op with
    | some v => K (st.put o.dst v)
    | none => stillC P gv o.op fun s => K (st.put o.dst s)

def fixL (t : Nat) (b : Bool) : List SV → List SV
  | [] => []
  | .gd t' w v :: xs => (bif Nat.beq t t' then (bif w == b then v else .unk) else .gd t' w v) :: fixL t b xs
  | x :: xs => x :: fixL t b xs

/-- The guard's slot is known. -/
def St.fix (st : St) (t : Nat) (b : Bool) : St := { st with tmps := lset (fixL t b st.tmps) t (.val (.bool b)) }

def aop (P : Program) (T : FuncId → Bool) (ops : Array Oper) (o : Oper) (st : St) (K : St → Prop) : Prop :=
  match o.guard with
  | none => exec P T o (fun ex x => ungd ex (ev st x)) st K
  | some g => match gdst ops (some g) with
    | none => False
    | some (t, w) => match (bif loud P o.op then none else quiet P (fun ex x => ungd (ex ++ chain st 4 (t, w)) (ev st x)) st.objs o.op) with
      | some v => K (st.put o.dst (.gd t w v))
      | none => match lget st.tmps t with
        | .val (.bool b) => bif w then ifB b (exec P T o (fun ex x => ungd ex (ev (st.fix t true) x)) (st.fix t true) K) (K ((st.fix t false).put o.dst .unk))
            else ifB b (K ((st.fix t true).put o.dst .unk)) (exec P T o (fun ex x => ungd ex (ev (st.fix t false) x)) (st.fix t false) K)
        | _ => False

def vcOps (P : Program) (T : FuncId → Bool) (ops : Array Oper) : List Oper → St → (St → Prop) → Prop
  | [], st, K => K st
  | o :: rest, st, K => aop P T ops o st fun st' => vcOps P T ops rest st' K

/- Regions whose order is open. -/

def dirEdge (i : Nat) (o : Oper) : Bool := o.after.toList.any fun e => Region.binds .any e && Nat.beq e.on i

def dstOf (ops : Array Oper) (k : Nat) : Option Nat := (ops[k]?).bind (·.dst)

def nodupB : List Nat → Bool
  | [] => true
  | x :: xs => !(xs.any fun y => Nat.beq x y) && nodupB xs

/-- What may go on in any order: each slot is written once; who reads a slot is ordered against who writes it; edges lead back. -/
def regionOK (ops : Array Oper) : Bool :=
  nodupB (ops.toList.filterMap (·.dst)) &&
  ((List.range ops.size).all fun k => match ops[k]? with
    | none => true
    | some o => (o.after.toList.all fun e => !Region.binds .any e || Nat.blt e.on k) &&
      (match o.op with | .select .. => false | _ => true) &&
      (List.range ops.size).all fun i => Nat.beq i k || dirEdge i o || (match ops[i]? with
        | none => true
        | some p => dirEdge k p || (match p.dst with
          | none => true
          | some d => !((o.looksAt ops).any fun t => Nat.beq t d))))

/-- A load's address is known, and in another block than the object's. -/
def okAddr (objs : List (Nat × Ob)) (oid : Option Nat) : SV → Bool
  | .ptr id1 _ => (match oid with | some id => !(Nat.beq id1 id) | none => true) && (match oget objs id1 with | some (.box _) => true | _ => false)
  | .ref _ (_ :: _) => true
  | .gd _ _ s => okAddr objs oid s
  | _ => false

def addrRead : Op → Option Operand
  | .load _ x => some x
  | _ => none

def unG : SV → SV
  | .gd _ _ s => s
  | s => s

/-- The box that is written, if one is; none where it is not known. -/
def storeId (st : St) (o : Oper) : Option (Option Nat) :=
  match o.op with
  | .store _ x _ => match unG (ev st x) with
    | .ptr id _ => (match oget st.objs id with | some (.box _) => some (some id) | _ => none)
    | _ => none
  | .call { callee := .builtin .append, .. } | .call { callee := .builtin .copy, .. } => none
  | _ => some none

/-- Nobody who comes behind k writes the operand. -/
def noLater (ops : Array Oper) (k : Nat) : Operand → Bool
  | .tmp t => (List.range ops.size).all fun j => match ops[j]? with
    | none => true
    | some p => !(p.dst == some t) || (!(dirEdge k p) && !(Nat.beq j k))
  | _ => true

/-- A loud operation meets nothing that may still be read. -/
def apartW (ops : Array Oper) (listed : Array Bool) (st : St) (i : Nat) (o : Oper) : Bool :=
  match storeId st o with
  | none => false
  | some oid => (List.range ops.size).all fun k => match ops[k]? with
    | none => true
    | some p => Nat.beq k i || !(listed.getD k false) || dirEdge k o || (match addrRead p.op with
      | none => true
      | some y => okAddr st.objs oid (ev st y) && noLater ops k y)

def conjAll : List Nat → (Nat → Prop) → Prop
  | [], _ => True
  | [i], f => f i
  | i :: j :: is, f => f i ∧ conjAll (j :: is) f

def vcAny (P : Program) (T : FuncId → Bool) (ops : Array Oper) : Nat → Array Bool → St → (St → Prop) → Prop
  | 0, _, _, _ => False
  | n + 1, listed, st, K => match Region.ready .any ops listed with
    | [] => K st
    | i0 :: r => match (i0 :: r).find? (fun i => match ops[i]? with | some o => !loud P o.op | none => false) with
      | some i => match ops[i]? with
        | some o => aop P T ops o st fun st' => vcAny P T ops n (listed.setIfInBounds i true) st' K
        | none => False
      | none => conjAll (i0 :: r) fun i => match ops[i]? with
        | some o => bif apartW ops listed st i o then aop P T ops o st fun st' => vcAny P T ops n (listed.setIfInBounds i true) st' K else False
        | none => False

/- Loops: which slots and boxes change, and of which shape they are. -/

inductive Sh where
  | int (k : IntKind)
  | bool
  | str
  | sl (sz : Nat)
  | tip (sz : Nat)

abbrev Sh.ty : Sh → Type
  | .int _ => Int
  | .bool => Bool
  | .str => ByteArray
  | .sl _ => List (List SV)
  | .tip _ => List (List SV)

def Sh.sv (id : Nat) : (s : Sh) → s.ty → SV
  | .int k, n => .val (.int k n)
  | .bool, b => .val (.bool b)
  | .str, s => .val (.string s)
  | .sl sz, rows => .slice sz rows 0
  | .tip sz, rows => .slice sz rows (id + 2)

/-- The value of a shape that a datum is. -/
def Sh.get (id : Nat) (s : Sh) (v : SV) : Option s.ty :=
  match s, v with
  | .int k, .val (.int k' n) => bif decide (k = k') then some n else none
  | .bool, .val (.bool b) => some b
  | .str, .val (.string x) => some x
  | .sl sz, .slice sz' rows _ => bif Nat.beq sz' sz || Nat.beq sz' 0 then some rows else none
  | .tip sz, .slice sz' rows tok => bif Nat.beq sz' sz && Nat.beq tok (id + 2) then some rows else none
  | _, _ => none

def Sh.noTip : Sh → Bool
  | .tip _ => false
  | _ => true

abbrev ITy : List Sh → Type → Type
  | [], R => R
  | s :: ss, R => s.ty → ITy ss R

/-- A function of the values that data have. -/
def applyI {R : Type} : (ss : List Sh) → List Nat → ITy ss R → List SV → (R → Prop) → Prop
  | [], _, f, [], K => K f
  | s :: ss, id :: ids, f, v :: vs, K => match s.get id v with
    | some x => applyI ss ids (f x) vs K
    | none => False
  | _, _, _, _, _ => False

/-- For all values for which the relation holds. -/
def allI : (ss : List Sh) → (ids : List Nat) → ITy ss Prop → ITy ss Nat → (List SV → Nat → Prop) → Prop
  | [], _, I, m, K => I → K [] m
  | s :: ss, id :: ids, I, m, K => ∀ x : s.ty, allI ss ids (I x) (m x) fun vs k => K (s.sv id x :: vs) k
  | _ :: _, [], _, _, _ => False

structure LoopSpec where
  slots : List (Nat × Sh) := []
  live : List Nat := []
  boxes : List (Nat × List Sh) := []
  fixed : List Nat := []

/-- A slice with its spare room gets the loop's own number for it. -/
def tipStep (t sz : Nat) (st : St) : Option St :=
  match lget st.tmps t with
  | .slice sz' rows tok => bif Nat.blt 0 sz && (Nat.beq sz' sz || Nat.beq sz' 0) then
      (match tok with
      | 0 => none
      | 1 => some (let s1 := st.bind (16 * t + 15) .tip; { s1 with tmps := lset s1.tmps t (.slice sz rows (16 * t + 15 + 2)) })
      | id + 2 => match oget st.objs id with
        | some .tip => some (let s1 := St.bind { st with objs := odel st.objs id } (16 * t + 15) .tip; { s1 with tmps := lset s1.tmps t (.slice sz rows (16 * t + 15 + 2)) })
        | _ => none) else none
  | _ => none

def tipAll : List (Nat × Sh) → St → Option St
  | [], st => some st
  | (t, .tip sz) :: r, st => (tipStep t sz st).bind (tipAll r)
  | _ :: r, st => tipAll r st

def tipIds : List (Nat × Sh) → List (Nat × Ob)
  | [] => []
  | (t, .tip _) :: r => (16 * t + 15, .tip) :: tipIds r
  | _ :: r => tipIds r

def idsOf : List (Nat × Sh) → List Nat
  | [] => []
  | (t, _) :: r => (16 * t + 15) :: idsOf r

def shapes (sp : LoopSpec) : List Sh := sp.slots.map (·.2) ++ sp.boxes.flatMap (·.2)

def allIds (sp : LoopSpec) : List Nat := idsOf sp.slots ++ (sp.boxes.flatMap (·.2)).map fun _ => 0

/-- A box's cells. -/
def boxAt (objs : List (Nat × Ob)) (id : Nat) : Option (List SV) :=
  match oget objs id with
  | some (.box cs) => some cs
  | _ => none

def boxesAt (objs : List (Nat × Ob)) : List (Nat × List Sh) → Option (List SV)
  | [] => some []
  | (id, shs) :: r => match boxAt objs id, boxesAt objs r with
    | some cs, some rest => bif Nat.beq (lenN cs) shs.length then some (cs ++ rest) else none
    | _, _ => none

def fixedAt (objs : List (Nat × Ob)) : List Nat → Option (List (List SV))
  | [] => some []
  | id :: r => match boxAt objs id, fixedAt objs r with
    | some cs, some rest => some (cs :: rest)
    | _, _ => none

/-- What stands at a loop's head: the values that change, the slots and the boxes that don't. -/
structure Head where
  vals : List SV
  live : List SV
  fixed : List (List SV)

def isTip : Option Ob → Bool
  | some .tip => true
  | _ => false

def headOK (sp : LoopSpec) (s1 : St) : Bool :=
  ((tipIds sp.slots).all fun p => isTip (oget s1.objs p.1)) && (sp.boxes.all fun p => p.2.all Sh.noTip) &&
    nodupB (sp.slots.map (·.1) ++ sp.live) && nodupB ((tipIds sp.slots).map (·.1) ++ sp.boxes.map (·.1) ++ sp.fixed)

def headOf (sp : LoopSpec) (st : St) : Option Head :=
  match tipAll sp.slots st with
  | none => none
  | some s1 => match boxesAt s1.objs sp.boxes, fixedAt s1.objs sp.fixed with
    | some cs, some fs => bif headOK sp s1 then some ⟨sp.slots.map (fun p => lget s1.tmps p.1) ++ cs, sp.live.map (lget s1.tmps), fs⟩ else none
    | _, _ => none

def setSlots : List Nat → List SV → List SV → List SV
  | t :: ts, v :: vs, l => setSlots ts vs (lset l t v)
  | _, _, l => l

def mkBoxes : List (Nat × List Sh) → List SV → List (Nat × Ob)
  | [], _ => []
  | (id, shs) :: r, vs => (id, .box (takeN shs.length vs)) :: mkBoxes r (dropN shs.length vs)

def mkFixed : List Nat → List (List SV) → List (Nat × Ob)
  | id :: r, cs :: rest => (id, .box cs) :: mkFixed r rest
  | _, _ => []

/-- The state at a loop's head. -/
def mkHead (sp : LoopSpec) (n : Nat) (vals live : List SV) (fixed : List (List SV)) : St :=
  { tmps := setSlots (sp.slots.map (·.1)) vals (setSlots sp.live live (List.replicate n .unk)),
    objs := tipIds sp.slots ++ mkBoxes sp.boxes (dropN sp.slots.length vals) ++ mkFixed sp.fixed fixed }

inductive Ex where
  | normal
  | exit (id : Nat)
  | ret

/-- The slots that code writes. -/
def writes : Code → List Nat
  | .region _ ops _ => ops.toList.filterMap (·.dst)
  | .seq a b => writes a ++ writes b
  | .cond _ a b => writes a ++ writes b
  | .block _ c | .loop c | .scope c => writes c
  | .rangeFunc _ ps a b => ps.toList ++ writes a ++ writes b
  | _ => []

def loopKey (c : Code) : Nat := (writes c).headD 0

def vc (P : Program) (T : FuncId → Bool) (L : Nat → LoopSpec) : Code → St → (Ex → St → Prop) → Prop
  | .skip, st, Q => Q .normal st
  | .region _ ops false, st, Q => vcOps P T ops ops.toList st (Q .normal)
  | .region _ ops true, st, Q => bif P.follows .mixedOrders && regionOK ops then vcAny P T ops (ops.size + 1) (Array.replicate ops.size false) st (Q .normal) else False
  | .seq a b, st, Q => vc P T L a st fun e st' => match e with
    | .normal => vc P T L b st' Q
    | e => Q e st'
  | .cond c x y, st, Q => match ungd [] (ev st c) with
    | .val (.bool b) => ifB b (vc P T L x st Q) (vc P T L y st Q)
    | _ => False
  | .block id body, st, Q => vc P T L body st fun e st' => match e with
    | .exit i => bif Nat.beq i id then Q .normal st' else Q (.exit i) st'
    | e => Q e st'
  | .loop body, st, Q => match headOf (L (loopKey body)) st with
    | none => False
    | some h => ∃ (I : ITy (shapes (L (loopKey body))) Prop) (m : ITy (shapes (L (loopKey body))) Nat),
        applyI (shapes (L (loopKey body))) (allIds (L (loopKey body))) I h.vals (fun p => p) ∧
        allI (shapes (L (loopKey body))) (allIds (L (loopKey body))) I m fun vs k =>
          vc P T L body (mkHead (L (loopKey body)) (lenN st.tmps) vs h.live h.fixed) fun e st' => match e with
            | .normal => match headOf (L (loopKey body)) st' with
              | none => False
              | some h' => bif Nat.beq (lenN st'.tmps) (lenN st.tmps) then
                  h'.live = h.live ∧ h'.fixed = h.fixed ∧ applyI (shapes (L (loopKey body))) (allIds (L (loopKey body))) I h'.vals (fun p => p) ∧ applyI (shapes (L (loopKey body))) (allIds (L (loopKey body))) m h'.vals (fun k' => k' < k) else False
            | e => Q e st'
  | .exit id, st, Q => Q (.exit id) st
  | .ret, st, Q => Q .ret st
  | _, _, _ => False

def resOf (P : Program) (st : St) : ResultVar → Option SV
  | .tmp t => match ungd [] (lget st.tmps t) with
    | .unk => none
    | s => some s
  | .cell t ty => loadOf P ty (ungd [] (lget st.tmps t)) st.objs

/-- Results that are handed on: each may be held by anybody, or is a slice with its own spare room. -/
def tipRes (T : Bool) (st : St) : List Nat → List SV → Bool
  | _, [] => true
  | seen, s :: ss => match T, s with
    | true, .slice _ _ 0 => false
    | true, .slice _ _ 1 => tipRes T st seen ss
    | true, .slice _ _ (id + 2) => (match oget st.objs id with | some .tip => true | _ => false) && !seen.contains id && tipRes T st (id :: seen) ss
    | _, s => (pureArg s).isSome && tipRes T st seen ss

def resNorm (P : Program) : List TypeId → List SV → Option (List SV)
  | [], [] => some []
  | t :: ts, c :: cs => match pureArg c, resNorm P ts cs with
    | some c, some cs => some (normT P t c :: cs)
    | _, _ => none
  | _, _ => none

def resAll (P : Program) (st : St) : List ResultVar → Option (List SV)
  | [] => some []
  | r :: rs => match resOf P st r, resAll P st rs with
    | some s, some ss => some (s :: ss)
    | _, _ => none

/-- The end of a body. -/
def finC (P : Program) (fn : Func) (T : Bool) (Q : List SV → Prop) (st : St) : Prop :=
  match resAll P st fn.results.toList with
  | none => False
  | some ss => bif tipRes T st [] ss then
      (match resNorm P fn.resultTypes.toList ss with
      | some rs => Q rs
      | none => False) else False

def fin (P : Program) (fn : Func) (T : Bool) (Q : List SV → Prop) : Ex → St → Prop
  | .normal, st | .ret, st => finC P fn T Q st
  | _, _ => False

def start (fn : Func) (args : List SV) : St := { tmps := args ++ List.replicate (fn.ntmps - args.length) .unk, objs := [] }

end Go.Px

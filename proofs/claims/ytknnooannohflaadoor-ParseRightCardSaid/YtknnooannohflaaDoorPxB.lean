/- The conditions of operations, of regions, of code; what a call's contract says. -/
import Derived.Test.YtknnooannohflaaDoorPxA1
import Derived.Below
namespace Go.Px
open Go.RowKit

abbrev Hp := Nat → Nat → Option Value

inductive PRep (h : Hp) : Value → SV → Prop
 | val (v : Value) : PRep h v (.val v)
 | agg (vs : Array Value) (cs : List SV) (hl : vs.size = cs.length)
   (hc : ∀ (i : Nat) v c, vs[i]? = some v → cs[i]? = some c → PRep h v c) : PRep h (.agg vs) (.agg cs)
 | empty (p : Option Addr) (cap sz tok : Nat) (ht : tok ≤ 1) (h1 : tok = 1 → cap = 0) (hn : p = none → cap = 0) : PRep h (.slice p 0 cap) (.slice sz [] tok)
 | slice (b off cap sz : Nat) (rows : List (List SV)) (tok : Nat) (vs : Nat → Nat → Value)
   (hpos : 0 < sz) (hz : ∀ (i : Nat) r, rows[i]? = some r → r.length = sz)
   (hh : ∀ (i : Nat) r (j : Nat) c, rows[i]? = some r → r[j]? = some c → h b (off + i * sz + j) = some (vs i j))
   (hr : ∀ (i : Nat) r (j : Nat) c, rows[i]? = some r → r[j]? = some c → PRep h (vs i j) c)
   (ho : ∀ (i : Nat) r (j : Nat) c, rows[i]? = some r → r[j]? = some c → (vs i j).oneCell' = true)
   (ht : tok ≤ 1) (h1 : tok = 1 → cap = rows.length) (hle : rows.length ≤ cap) :
   PRep h (.slice (some ⟨b, off, none⟩) rows.length cap) (.slice sz rows tok)
 | ref (b base off : Nat) (cells : List SV) (vs : Nat → Value)
   (hh : ∀ (j : Nat) c, cells[j]? = some c → h b (base + j) = some (vs j))
   (hr : ∀ (j : Nat) c, cells[j]? = some c → PRep h (vs j) c) :
   PRep h (.pointer (some ⟨b, base + off, none⟩)) (.ref off cells)
 | clo (f : FuncId) (vs : Array Value) (cs : List SV) (hl : vs.size = cs.length)
   (hc : ∀ (i : Nat) v c, vs[i]? = some v → cs[i]? = some c → PRep h v c) : PRep h (.func (.func f) #[] vs) (.clo f cs)
 | ifc (t : TypeId) (v : Value) (s : SV) (hv : PRep h v s) : PRep h (.iface t v) (.ifc t s)
 | arr (vs : Array Value) (kd : IntKind) (m : Nat) (ns : List Int) (hm : ns.length = m) (hv : vs.toList = ns.map (Value.int kd)) : PRep h (.agg vs) (.arr kd m ns)
 | unk (v : Value) : PRep h v .unk

structure Loc where
 blk : Nat
 off : Nat
 len : Nat
 cap : Nat
 sz : Nat
 none : Bool

def noLoc : Loc := ⟨0, 0, 0, 0, 0, true⟩

inductive Rep (h : Hp) (ρ : Nat → Loc) : Value → SV → Prop
 | pure (v : Value) (s : SV) (hp : PRep h v s) : Rep h ρ v s
 | agg (vs : Array Value) (cs : List SV) (hl : vs.size = cs.length)
   (hc : ∀ (i : Nat) v c, vs[i]? = some v → cs[i]? = some c → Rep h ρ v c) : Rep h ρ (.agg vs) (.agg cs)
 | tup (vs : Array Value) (cs : List SV) (hl : vs.size = cs.length)
   (hc : ∀ (i : Nat) v c, vs[i]? = some v → cs[i]? = some c → Rep h ρ v c) : Rep h ρ (.tuple vs) (.tup cs)
 | ptr (id off : Nat) : Rep h ρ (.pointer (some ⟨(ρ id).blk, off, Option.none⟩)) (.ptr id off)
 | bsl (id off n : Nat) : Rep h ρ (.slice (some ⟨(ρ id).blk, off, Option.none⟩) n n) (.bsl id off n)
 | osl0 (id : Nat) (p : Option Addr) (hn : (ρ id).none = true) : Rep h ρ (.slice p 0 0) (.osl id)
 | osl (id : Nat) (hn : (ρ id).none = false) : Rep h ρ (.slice (some ⟨(ρ id).blk, (ρ id).off, Option.none⟩) (ρ id).len (ρ id).cap) (.osl id)
 | eptr (id : Nat) (e : TypeId) (i : Int) (off : Nat) (hn : (ρ id).none = false) :
   Rep h ρ (.pointer (some ⟨(ρ id).blk, (ρ id).off + i.toNat * (ρ id).sz + off, Option.none⟩)) (.eptr id e i off)
 | osv (id : Nat) (l hh c : Int) (p : Option Addr) (h0 : 0 ≤ l) (h1 : l ≤ hh) (h2 : hh ≤ c) (hc : c = if (ρ id).none then 0 else ((ρ id).cap : Int))
   (hp : l < c → p = some ⟨(ρ id).blk, (ρ id).off + l.toNat * (ρ id).sz, Option.none⟩) : Rep h ρ (.slice p (hh - l).toNat (c - l).toNat) (.osv id l hh c)
 | omp (id : Nat) : Rep h ρ (.map (some (ρ id).blk)) (.omp id)
 | aptr (id : Nat) (i : Int) : Rep h ρ (.pointer (some ⟨(ρ id).blk, i.toNat, Option.none⟩)) (.aptr id i)
 | asl (id : Nat) (l hh : Int) (cap : Nat) : Rep h ρ (.slice (some ⟨(ρ id).blk, l.toNat, Option.none⟩) (hh - l).toNat cap) (.asl id l hh)

def HSub (h : Hp) (w : World) : Prop := ∀ b o v, h b o = some v → w.cell? ⟨b, o, none⟩ = some v

structure OwnOK (h : Hp) (w : World) (l : Loc) (sz : Nat) (rows : List (List SV)) : Prop where
 pos : 0 < sz
 hsz : l.sz = sz
 hlen : l.len = rows.length
 hcap : rows.length ≤ l.cap
 hrow : ∀ (i : Nat) r, rows[i]? = some r → r.length = sz
 hblk : ∃ cs t fz, w.heap[l.blk]? = some (.cells cs t fz) ∧ l.off + l.cap * sz ≤ cs.size ∧
  (∀ o, l.off ≤ o → o < l.off + l.cap * sz → ¬ (fz.1 ≤ o ∧ o < fz.2)) ∧
  ∀ (i : Nat) r (j : Nat) c, rows[i]? = some r → r[j]? = some c → ∃ v, cs[l.off + i * sz + j]? = some v ∧ PRep h v c ∧ v.oneCell' = true
 hh : ∀ o, h l.blk o = none
 hfz : ∀ cs t fz, w.heap[l.blk]? = some (.cells cs t fz) → fz = (0, 0) ∨ (sz = 1 ∧ cs.size ≤ fz.1)
 hcm : l.cap ≤ 9223372036854775807

def MapOK (ents : Array MapEntry) (es : List (ByteArray × Int)) : Prop :=
 ents.toList.map (fun e => (e.key, e.val)) = es.map (fun e => ((.string e.1 : Value), (.int .i64 e.2 : Value)))

def ObOK (h : Hp) (ρ : Nat → Loc) (w : World) (id : Nat) : Ob → Prop
 | .box cells => (ρ id).none = false ∧ (∃ cs t, w.heap[(ρ id).blk]? = some (.cells cs t (0, 0)) ∧ cs.size = cells.length ∧
   ∀ (i : Nat) v c, cs[i]? = some v → cells[i]? = some c → Rep h ρ v c ∧ v.oneCell' = true) ∧ ∀ o, h (ρ id).blk o = none
 | .own sz rows => ((ρ id).none = true ∧ rows = []) ∨ ((ρ id).none = false ∧ OwnOK h w (ρ id) sz rows)
 | .mp es => (ρ id).none = false ∧ (∃ ents clock, w.heap[(ρ id).blk]? = some (.map ents clock) ∧ MapOK ents es) ∧ ∀ o, h (ρ id).blk o = none
 | .arr kd m ns => (ρ id).none = false ∧ (∃ cs t, w.heap[(ρ id).blk]? = some (.cells cs t (0, 0)) ∧ ns.length = m ∧ cs.toList = ns.map (Value.int kd)) ∧ ∀ o, h (ρ id).blk o = none

def live (objs : List (Nat × Ob)) (ρ : Nat → Loc) (id : Nat) : Prop := (∃ o, oget objs id = some o) ∧ (ρ id).none = false

def TRep (h : Hp) (ρ : Nat → Loc) (tmps : Array Value) (v : Value) : SV → Prop
 | .gd t w s => (tmps.getD t undef = .bool w ∧ Rep h ρ v s) ∨ (tmps.getD t undef ≠ .bool w ∧ v = undef)
 | s => Rep h ρ v s

structure Keeps (G : Nat → Prop) (w w' : World) : Prop where
 os : w'.os = w.os
 tape : w'.tape = w.tape
 output : w'.output = w.output
 size : w.heap.size ≤ w'.heap.size
 block : ∀ k, k < w.heap.size → ¬ G k → w'.heap[k]? = w.heap[k]?

def HLe (h h' : Hp) : Prop := ∀ b o v, h b o = some v → h' b o = some v

structure Gl (h : Hp) (w : World) : Prop where
 cells : ∀ p ∈ Zbz, ∀ i c, p.2[i]? = some c → ∃ v, h p.1 i = some v ∧ PRep h v c
 size : ∀ p ∈ Zbz, 0 < p.2.length ∧ ∃ cs t fz, w.heap[p.1]? = some (.cells cs t fz) ∧ cs.size = p.2.length

structure Cx where
 w : World
 h : Hp
 G : Nat → Prop
 pin : Nat → Option Loc
 df : List Deferred := []

def idOK (id : Nat) : Bool := Nat.blt id 1048576 || !(Nat.beq (id % 128) 0 || Nat.ble 64 (id % 128))

structure FitsAt (X : Cx) (h : Hp) (ρ : Nat → Loc) (st : St) (a : Act) (w : World) : Prop where
 size : a.tmps.size = st.tmps.length
 tm : ∀ (t : Nat) s, st.tmps[t]? = some s → TRep h ρ a.tmps (a.tmps.getD t undef) s
 df : a.defers = X.df
 sub : HSub h w
 obj : ∀ id o, oget st.objs id = some o → ObOK h ρ w id o
 inj : ∀ i j, live st.objs ρ i → live st.objs ρ j → i ≠ j → (ρ i).blk ≠ (ρ j).blk
 own : ∀ i, live st.objs ρ i → X.w.heap.size ≤ (ρ i).blk ∨ X.G (ρ i).blk
 mono : HLe X.h h
 ext : ∀ b, b < X.w.heap.size → ¬ X.G b → ∀ o, X.h b o = none → h b o = none
 kp : Keeps X.G X.w w
 pin : ∀ id l, X.pin id = some l → ρ id = l ∧ idOK id = false
 gl : Gl X.h X.w ∧ ∀ p ∈ Zbz, ¬ X.G p.1

def Fits (X : Cx) (st : St) (a : Act) (w : World) : Prop := ∃ h ρ, FitsAt X h ρ st a w

/- Contracts. -/

inductive Md where
 | pure
 | own
 | lend (cells : List Bool)

def Md.noLend : Md → Bool
 | .lend _ => false
 | _ => true

structure Sig where
 ps : List Md := []
 rs : List Md := []

def mdAt : List Md → Nat → Md
 | [], _ => .pure
 | m :: _, 0 => m
 | _ :: ms, n + 1 => mdAt ms n

def pId (i : Nat) : Nat := 1048576 + 128 * i
def rId (i : Nat) : Nat := 128 * i + 64
def cId (d i : Nat) : Nat := 128 * d + 64 + i

def ownH (id : Nat) : SV → Option (SV × Ob)
 | .slice sz rows _ => some (.osl id, .own sz rows)
 | .mapv es => some (.omp id, .mp es)
 | _ => none

def stayH (ms : List Bool) : Bool := (ms.drop 64).headD false

def Zhr (id : Nat) (ms : List Bool) (j : Nat) : Nat := bif stayH ms then id + 64 + j else id + 1 + j

def Za6 (id : Nat) : Nat → List Bool → List SV → Option (List SV × List (Nat × Ob))
 | _, _, [] => some ([], [])
 | j, ms, c :: cs => match Za6 id (j + 1) ms.tail cs with
  | none => none
  | some (cs', os) => bif ms.headD false then (match ownH (Zhr id ms j) c with
    | some (hd, o) => some (hd :: cs', (Zhr id ms j, o) :: os)
    | none => none) else some (c :: cs', os)

def Zin (id : Nat) (ms : List Bool) : List Nat :=
 bif Nat.ble ms.length 64 then [] else (List.range 64).filterMap fun j => bif (ms.drop j).headD false && stayH (ms.drop j) then some (id + 64 + j) else none

def Zdu : Nat → List Md → List Nat
 | _, [] => []
 | i, .lend ms :: r => Zin (pId i) ms ++ Zdu (i + 1) r
 | i, _ :: r => Zdu (i + 1) r

def argH (id : Nat) (m : Md) (s : SV) : Option (SV × List (Nat × Ob)) :=
 match m with
 | .pure => some (s, [])
 | .own => match ownH id s with
  | some (hd, o) => some (hd, [(id, o)])
  | none => none
 | .lend ms => match s with
  | .agg cs => match Za6 id 0 ms cs with
   | some (cs', os) => some (.ptr id 0, (id, .box cs') :: os)
   | none => none
  | _ => none

def argsH (idf : Nat → Nat) (ms : List Md) : Nat → List SV → Option (List SV × List (Nat × Ob))
 | _, [] => some ([], [])
 | i, s :: ss => match argH (idf i) (mdAt ms i) s, argsH idf ms (i + 1) ss with
  | some (hd, o), some (hs, os) => some (hd :: hs, o ++ os)
  | _, _ => none

def lentH : Nat → List Md → List SV → Option (List (Nat × Ob))
 | _, [], [] => some []
 | _, [], _ :: _ => none
 | i, .lend ms :: r, s :: ss => match s, lentH (i + 1) r ss with
  | .agg cs, some os => match Za6 (pId i) 0 ms cs with
   | some (cs', os') => some ((pId i, .box cs') :: os' ++ os)
   | none => none
  | _, _ => none
 | _, .lend _ :: _, [] => none
 | i, .pure :: r, ss => lentH (i + 1) r ss
 | i, .own :: r, ss => lentH (i + 1) r ss

def endH (sg : Sig) (n : Nat) (rs : List SV) : Option (List SV × List (Nat × Ob)) :=
 match argsH rId sg.rs 0 (rs.take n), lentH 0 sg.ps (rs.drop n) with
 | some (hs, os), some os' => some (hs, os ++ os')
 | _, _ => none

structure Holds (h : Hp) (ρ : Nat → Loc) (objs : List (Nat × Ob)) (w : World) : Prop where
 sub : HSub h w
 obj : ∀ id o, (id, o) ∈ objs → ObOK h ρ w id o
 inj : ∀ i j, live objs ρ i → live objs ρ j → i ≠ j → (ρ i).blk ≠ (ρ j).blk

def Gv (objs : List (Nat × Ob)) (ρ : Nat → Loc) (b : Nat) : Prop := ∃ i, live objs ρ i ∧ (ρ i).blk = b

def Zgh (h : Hp) (ρ : Nat → Loc) (vs : List Value) (hs : List SV) : Prop :=
 vs.length = hs.length ∧ ∀ (i : Nat) v s, vs[i]? = some v → hs[i]? = some s → Rep h ρ v s

def rets : List Value → Value
 | [v] => v
 | vs => .tuple vs.toArray

def OKf (P : Program) (f : FuncId) : Prop := ∃ fn, P.funcs[f]? = some fn ∧ fn.body.isSome = true ∧ fn.name ≠ "runtime.NumGoroutine"

def Back (sg : Sig) (objs : List (Nat × Ob)) (h : Hp) (ρ : Nat → Loc) (w : World) (Q : List SV → Prop) (e : Ending) (w' : World) : Prop :=
 ∃ (vr : List Value) (h' : Hp) (ρ' : Nat → Loc) (rs hr : List SV) (objs' : List (Nat × Ob)), e = .returned (rets vr) ∧ Q rs ∧ endH sg vr.length rs = some (hr, objs') ∧
  Zgh h' ρ' vr hr ∧ Holds h' ρ' objs' w' ∧ (∀ i, live objs' ρ' i → w.heap.size ≤ (ρ' i).blk ∨ Gv objs ρ (ρ' i).blk) ∧
  ((∀ (i : Nat) ms, sg.ps[i]? = some (.lend ms) → (ρ (pId i)).none = false ∧ (ρ' (pId i)).blk = (ρ (pId i)).blk) ∧ ∀ id ∈ Zdu 0 sg.ps, ρ' id = ρ id) ∧ HLe h h' ∧
  (∀ b, b < w.heap.size → ¬ Gv objs ρ b → ∀ o, h b o = none → h' b o = none) ∧ Keeps (Gv objs ρ) w w'

def Ct (P : Program) (f : FuncId) (sg : Sig) (args : List SV) (Q : List SV → Prop) : Prop :=
 OKf P f ∧ ∀ (hs : List SV) (objs : List (Nat × Ob)), argsH pId sg.ps 0 args = some (hs, objs) →
  ∀ (h : Hp) (ρ : Nat → Loc) (w : World) (vs : Array Value), Holds h ρ objs w → Gl h w → Zgh h ρ vs.toList hs → Calls P f vs w (Back sg objs h ρ w Q)

def Zau : SV → Option SV
 | .val (.agg _) | .val (.tuple _) => none
 | .val v => some (.val v)
 | .slice sz rows _ => some (.slice sz rows 0)
 | .ref off cs => some (.ref off cs)
 | .clo f cs => some (.clo f cs)
 | .ifc t s => some (.ifc t s)
 | _ => none

def pureL : List SV → Option (List SV)
 | [] => some []
 | c :: cs => match Zau c, pureL cs with
  | some c, some cs => some (c :: cs)
  | _, _ => none

def Zdv : SV → Option SV
 | .agg cs => (pureL cs).map .agg
 | s => Zau s

def fixL' (P : Program) : List TypeId → List SV → List SV
 | t :: ts, c :: cs => fixSz P t c :: fixL' P ts cs
 | _, cs => cs

def normT (P : Program) (t : TypeId) (s : SV) : SV :=
 match s with
 | .agg cs => .agg (fixL' P (Zdr P 8 t) cs)
 | s => fixSz P t s

def Zft (objs : List (Nat × Ob)) (cid : Nat) : SV → Option (SV × List (Option Nat × Nat))
 | .osl id => match oget objs id with
  | some (.own sz rows) => some (.slice sz rows 0, [(some id, cid)])
  | _ => none
 | .omp id => match oget objs id with
  | some (.mp es) => some (.mapv es, [(some id, cid)])
  | _ => none
 | .slice sz [] 1 => some (.slice sz [] 0, [(none, cid)])
 | _ => none

def Zba (objs : List (Nat × Ob)) (cid : Nat) : Nat → List Bool → List SV → Option (List SV × List (Option Nat × Nat))
 | _, _, [] => some ([], [])
 | j, ms, c :: cs => match (bif ms.headD false then Zft objs (Zhr cid ms j) c else (Zau c).map fun c => (c, [])), Zba objs cid (j + 1) ms.tail cs with
  | some (d, l), some (ds, ls) => some (d :: ds, l ++ ls)
  | _, _ => none

def Zpd : SV → Option SV
 | .arr kd m ns => some (.arr kd m ns)
 | s => Zdv s

def Zfu (objs : List (Nat × Ob)) (cid : Nat) (m : Md) (s : SV) : Option (SV × List (Option Nat × Nat)) :=
 match m with
 | .pure => (Zpd s).map fun d => (d, [])
 | .own => Zft objs cid s
 | .lend ms => match s with
  | .ptr id 0 => match oget objs id with
   | some (.box cs) => (Zba objs cid 0 ms cs).map fun p => (.agg p.1, (some id, cid) :: p.2)
   | _ => none
  | _ => none

def datT (P : Program) (m : Md) (t : TypeId) : TypeId :=
 match m, P.underlying t with
 | .lend _, some (.pointer e) => e
 | _, _ => t

def normM (P : Program) (m : Md) (t : TypeId) (s : SV) : SV :=
 match m, s with
 | .lend _, .agg cs => .agg (fixL' P (Zdr P 8 (datT P m t)) cs)
 | _, s => normT P t s

def Zbd (P : Program) (objs : List (Nat × Ob)) (idf : Nat → Nat) (ms : List Md) : Nat → List TypeId → List SV → Option (List SV × List (Option Nat × Nat))
 | _, [], [] => some ([], [])
 | i, t :: ts, s :: ss => match Zfu objs (idf i) (mdAt ms i) s, Zbd P objs idf ms (i + 1) ts ss with
  | some (d, l), some (ds, ls) => some (normM P (mdAt ms i) t d :: ds, l ++ ls)
  | _, _ => none
 | _, _, _ => none

mutual
def Za1 : SV → Bool
 | .val _ | .slice .. | .ref .. | .clo .. | .ifc .. | .mapv _ | .arr .. => true
 | .agg cs => Zao cs
 | _ => false
def Zao : List SV → Bool
 | [] => true
 | c :: cs => Za1 c && Zao cs
end

def Za8 (P : Program) : Nat → TypeId → (List SV → Prop) → Prop
 | 0, _, _ => False
 | n + 1, t, K => match P.underlying t with
  | some .bool => ∃ b, K [.val (.bool b)]
  | some (.int k) => ∃ x : Int, K [.val (.int k x)]
  | some .string => ∃ s, K [.val (.string s)]
  | some (.slice e) => match szT P e with
   | some sz => ∃ rows, K [.slice sz rows 0]
   | none => False
  | some (.map _ _) => ∃ es, K [.mapv es]
  | some (.func _ _ _) => ∃ (f : FuncId) (cs : List SV), K [.clo f cs]
  | some (.interface _) => ∃ b : Bool, ifB b (K [.val .nilIface]) (∃ i : TypeId, K [.ifc i .unk])
  | some (.float k) => ∃ n : Nat, K [.val (.float k n)]
  | some (.complex k) => ∃ re im : Nat, K [.val (.complex k re im)]
  | some (.struct fs) => (fs.toList.foldr (fun f k acc => Za8 P n f.type fun cs => k (acc ++ cs)) K) []
  | some (.array m e) => ((List.range m).foldr (fun _ k acc => Za8 P n e fun cs => k (acc ++ cs)) K) []
  | _ => ∃ s, Za1 s = true ∧ K [s]

def bigT (P : Program) (t : TypeId) : Option (IntKind × Nat) :=
 match P.underlying t with
 | some (.array m e) => bif Nat.blt 16 m then (match P.underlying e, szT P e, szT P t with
  | some (.int kd), some 1, some n => bif Nat.beq n m then some (kd, m) else none
  | _, _, _ => none) else none
 | _ => none

def Zwe (P : Program) (t : TypeId) (K : SV → Prop) : Prop :=
 match bigT P t with
 | some (kd, m) => ∃ ns : List Int, K (.arr kd m ns)
 | none => Za8 P 8 t fun cs => bif Zbb P t then K (.agg cs) else match cs with
  | [c] => K c
  | _ => False

def Zkn (P : Program) : List TypeId → (List SV → Prop) → Prop
 | [], K => K []
 | t :: ts, K => Zwe P t fun s => Zkn P ts fun ss => K (s :: ss)

def Zm2 (P : Program) : List TypeId → (List SV → Prop) → Prop
 | [], K => K []
 | t :: ts, K => Za8 P 8 t fun cs => Zm2 P ts fun ss => K (.agg cs :: ss)

def Ztu (P : Program) (ts us : List TypeId) (K : List SV → Prop) : Prop := Zkn P ts fun a => Zm2 P us fun b => K (a ++ b)

def Zev (P : Program) (ms : List Md) : Nat → List TypeId → List TypeId
 | _, [] => []
 | i, t :: ts => match mdAt ms i with
  | .lend _ => datT P (mdAt ms i) t :: Zev P ms (i + 1) ts
  | _ => Zev P ms (i + 1) ts

def St.hmap (st : St) (g : SV → SV) : St := { tmps := hmapL g st.tmps, objs := hmapO g st.objs }

def St.drop (st : St) (id : Nat) : St := { tmps := hmapL (killG id) st.tmps, objs := hmapO (killG id) (odel st.objs id) }

def St.bind (st : St) (id : Nat) (o : Ob) : St := { tmps := (st.drop id).tmps, objs := (id, Zd5 (killG id) o) :: (st.drop id).objs }

def St.frz (st : St) (id : Nat) : St :=
 match oget st.objs id with
 | some (.own sz rows) => { tmps := hmapL (frzG id sz rows) st.tmps, objs := hmapO (frzG id sz rows) (odel st.objs id) }
 | _ => st

def St.frzAll : List Nat → St → St
 | [], st => st
 | id :: ids, st => St.frzAll ids (st.frz id)

mutual
def Zqv : SV → List Nat
 | .osl id => [id]
 | .agg cs => Zfb cs
 | .tup cs => Zfb cs
 | _ => []
def Zfb : List SV → List Nat
 | [] => []
 | c :: cs => Zqv c ++ Zfb cs
end

def Zf8 : List Bool → List SV → List Nat
 | _, [] => []
 | ms, c :: cs => bif ms.headD false then Zf8 ms.tail cs else Zqv c ++ Zf8 ms.tail cs

def Zwf (objs : List (Nat × Ob)) (m : Md) (s : SV) : List Nat :=
 match m with
 | .pure => Zqv s
 | .own => []
 | .lend ms => match s with
  | .ptr id _ => match oget objs id with
   | some (.box cs) => Zf8 ms cs
   | _ => []
  | _ => []

def Zej (objs : List (Nat × Ob)) (ms : List Md) : Nat → List SV → List Nat
 | _, [] => []
 | i, s :: ss => Zwf objs (mdAt ms i) s ++ Zej objs ms (i + 1) ss

def one : List SV → SV
 | [s] => s
 | ss => .tup ss

def Zcd : List Nat → Bool
 | [] => true
 | x :: xs => !(xs.any fun y => Nat.beq x y) && Zcd xs

def Cl (P : Program) (f : FuncId) (sg : Sig) (as : List SV) (K : List SV → Prop) : Prop := ∃ Q, Ct P f sg as Q ∧ ∀ rs, Q rs → K rs

def Zbj (ms : List Md) : List (Option Nat × Nat) → St → St
 | [], st => st
 | (none, _) :: l, st => Zbj ms l st
 | (some id, cid) :: l, st => Zbj ms l (match mdAt ms ((cid - 1048576) / 128), cid % 128 with
  | .lend _, c => bif Nat.beq c 0 || Nat.ble 64 c then { st with objs := odel st.objs id } else st.drop id
  | _, _ => st.drop id)

def Zh6 : List (Nat × Nat × Ob) → St → St
 | [], st => st
 | (id, _, o) :: l, st => Zh6 l (st.bind id o)

def Zea (cid : Nat) : List (Option Nat × Nat) → Option Nat
 | [] => none
 | (some id, c) :: l => bif Nat.beq c cid then some id else Zea cid l
 | (none, _) :: l => Zea cid l

def Zfv (ps : List (Option Nat × Nat)) (pid id : Nat) : Nat → List Bool → List SV → Option (List SV × List (Nat × Nat × Ob) × List (Nat × Ob))
 | _, _, [] => some ([], [], [])
 | j, ms, c :: cs => match Zfv ps pid id (j + 1) ms.tail cs with
  | none => none
  | some (cs', im, sx) => bif ms.headD false then
    (bif stayH ms then (match Zea (pid + 64 + j) ps, Nat.blt j 64 with
     | some k, true => (match ownH k c with
      | some (hd, o) => some (hd :: cs', im, (k, o) :: sx)
      | none => none)
     | _, _ => none)
    else match ownH (id + 1 + j) c with
     | some (hd, o) => some (hd :: cs', (id + 1 + j, pid + 1 + j, o) :: im, sx)
     | none => none)
   else some (c :: cs', im, sx)

def Zde (ps : List (Option Nat × Nat)) : Nat → List Md → List SV → Option (List (Nat × Nat × Ob) × List (Nat × Ob))
 | _, [], [] => some ([], [])
 | _, [], _ :: _ => none
 | i, .lend ms :: r, s :: ss => match s, Zea (pId i) ps, Zde ps (i + 1) r ss with
  | .agg cs, some id, some (im, bx) => match Zfv ps (pId i) id 0 ms cs with
   | some (cs', im', sx) => some (im' ++ im, (id, .box cs') :: sx ++ bx)
   | none => none
  | _, _, _ => none
 | _, .lend _ :: _, [] => none
 | i, .pure :: r, ss => Zde ps (i + 1) r ss
 | i, .own :: r, ss => Zde ps (i + 1) r ss

def Ztv (sg : Sig) (dst : Option Nat) (rs : List SV) : Option (SV × List (Nat × Nat × Ob)) :=
 match dst with
 | none => some (.unk, [])
 | some d => match argsH (cId d) sg.rs 0 rs with
  | some (hs, os) => some (one hs, os.map fun p => (p.1, rId (p.1 - cId d 0), p.2))
  | none => none

def Zcq : List SV → Bool
 | [] => true
 | .val _ :: ss => Zcq ss
 | _ :: _ => false

def callC (P : Program) (f : FuncId) (sg : Sig) (pts rts : List TypeId) (ss caps : List SV) (dst : Option Nat) (st0 st : St) (K : St → Prop) : Prop :=
 match Zbd P st.objs pId sg.ps 0 pts ss with
 | none => False
 | some (as, ps) => bif Zcd (ps.filterMap (·.1)) && Zcd (ps.map (·.2)) && Nat.ble sg.ps.length pts.length && sg.rs.all Md.noLend then
   Cl P f sg (as ++ caps) fun rs => Ztu P rts (Zev P sg.ps 0 pts) fun xs => rs = xs ∧
    bif ps.isEmpty && sg.rs.isEmpty && Zcq xs then K (st0.put dst (one xs)) else
    match Zde ps 0 sg.ps (xs.drop rts.length), Ztv sg dst (xs.take rts.length) with
    | some (im, bx), some (r, im') => bif Zcd ((im ++ im').map (·.1) ++ bx.map (·.1)) && Zcd ((im ++ im').map (·.2.1)) && (im ++ im').all (fun p => idOK p.1 && idOK p.2.1) then
      K (St.put { tmps := (Zh6 (im ++ im') (Zbj sg.ps ps st)).tmps, objs := bx ++ (Zh6 (im ++ im') (Zbj sg.ps ps st)).objs } dst r) else False
    | _, _ => False
  else False

def loud (P : Program) : Op → Bool
 | .alloc _ | .box .. | .store .. | .buildSlice .. | .makeSlice .. | .makeMap .. | .mapUpdate .. => true
 | .call { callee := .builtin .append, .. } | .call { callee := .builtin .copy, .. } | .call { callee := .builtin .clear, .. } | .call { callee := .value _, .. } => true
 | .convert src dst _ => match P.underlying src, P.underlying dst with
  | some .string, some (.slice _) => true
  | some (.slice _), some (.slice _) => true
  | _, _ => false
 | _ => false

def caseN (n : Int) (K : Nat → Prop) : Nat → Nat → Prop
 | 0, _ => True
 | m + 1, j => (n = Int.ofNat j → K j) ∧ caseN n K m (j + 1)

def arrIx (m : Nat) (i : Operand) (n : Int) (K : Nat → Prop) : Prop :=
 match i with
 | .const (.int _ (.ofNat j)) => bif Nat.blt j m then K j else False
 | _ => bif Nat.ble m 16 then (0 ≤ n ∧ n < Int.ofNat m) ∧ caseN n K m 0 else False

def bndOf (gv : List (Nat × Bool) → Operand → SV) (d : Int) : Option Operand → Option Int
 | none => some d
 | some x => match gv [] x with
  | .val (.int _ n) => some n
  | _ => none

def Ztw : Operand → Bool
 | .const (.slice none 0 0) => true
 | _ => false

def Ztx : Operand → Bool
 | .const .nilIface => true
 | _ => false

def Zio (objs : List (Nat × Ob)) : SV → Option (Nat × List (List SV))
 | .slice sz rows _ => some (sz, rows)
 | .osl id => match oget objs id with
  | some (.own sz rows) => some (sz, rows)
  | _ => none
 | _ => none

def St.val (st : St) (x : Operand) : SV := ungd [] (ev st x)

def most : Int := 2147483648

def Zce (P : Program) (e : TypeId) : Bool :=
 match P.info? e with
 | some i => Nat.ble i.bytes 8192 && Nat.blt 0 i.size && (match i.zero with | some z => Nat.beq z.cells.size i.size | none => false)
 | none => false

def Zdw (zero : List SV) (parts : List (Nat × SV)) : Nat → Nat → Option (List (List SV))
 | 0, _ => some []
 | n + 1, i => match (match parts.find? (fun p => Nat.beq p.1 i) with
     | some p => match Zdv p.2 with
      | some s => some (cellsOf s)
      | none => none
     | none => some zero), Zdw zero parts n (i + 1) with
  | some r, some rs => bif Nat.beq (lenN r) (lenN zero) then some (r :: rs) else none
  | _, _ => none

def Zfw (P : Program) (e : TypeId) : Option (List SV) :=
 match Zkd P e with
 | some z => pureL (cellsOf z)
 | none => none

def srcOK (z : Nat) : Option Nat → Bool
 | none => Nat.beq z 1
 | some z' => Nat.beq z' z || Nat.beq z' 0

def Zhs (P : Program) (st : St) (t2 : TypeId) (x : SV) : Option (Option Nat × List (List SV)) :=
 match P.underlying t2, x with
 | some (.slice _), x => (Zio st.objs x).map fun p => (some p.1, p.2)
 | some .string, .val (.string s) => some (none, Zdq s)
 | _, _ => none

def copyN (kd : IntKind) (n : Int) (rows : List (List SV)) (K : List SV → Prop) : Nat → List SV → Prop
 | 0, acc => K acc
 | m + 1, acc => (n = Int.ofNat (lenN acc) → K acc) ∧ (Int.ofNat (lenN acc) < n → ∃ x : Int, rget rows (Int.ofNat (lenN acc)) = [.val (.int kd x)] ∧ copyN kd n rows K m (acc ++ [.val (.int kd x)]))

def St.frzBox (st : St) (id : Nat) : Option St :=
 match oget st.objs id with
 | some (.box cs) => match pureL cs with
  | some cs' => some { tmps := hmapL (frzBG id cs') st.tmps, objs := hmapO (frzBG id cs') (odel st.objs id) }
  | none => none
 | _ => none

def Zty : List SV → List Nat
 | [] => []
 | .ptr id _ :: cs => id :: Zty cs
 | _ :: cs => Zty cs

def St.frzBoxes : List Nat → St → Option St
 | [], st => some st
 | id :: ids, st => match oget st.objs id with
  | some (.box cs) => match (St.frzAll (Zfb cs) st).frzBox id with
   | some st' => St.frzBoxes ids st'
   | none => none
  | _ => none

def pureOps (xs : List Operand) (st : St) : St := St.frzAll (Zfb (xs.map st.val)) st

def fres (P : Program) (t : TypeId) (R : Value → Prop) (K : SV → Prop) : Prop :=
 match P.underlying t with
 | some .bool => ∃ b, R (.bool b) ∧ K (.val (.bool b))
 | some (.int k) => ∃ x : Int, R (.int k x) ∧ K (.val (.int k x))
 | some (.float k) => ∃ n : Nat, R (.float k n) ∧ K (.val (.float k n))
 | some (.complex k) => ∃ re im : Nat, R (.complex k re im) ∧ K (.val (.complex k re im))
 | _ => False

def Zn4 (kd : IntKind) : List SV → Option (List Int)
 | [] => some []
 | .val (.int kd' x) :: cs => bif decide (kd' = kd) then (match Zn4 kd cs with | some ns => some (x :: ns) | none => none) else none
 | _ => none

def putsN (kd : IntKind) (i v : Int) : Nat → List Int → List SV
 | _, [] => []
 | j, x :: xs => .val (.int kd (apick x j i v)) :: putsN kd i v (j + 1) xs

def jmode (st : St) : Bool :=
 match oget st.objs 6 with
 | some (.own 0 []) => true
 | _ => false

def Ztz (P : Program) (o : Oper) (st : St) (K : St → Prop) : Prop :=
 match o.op with
 | .indexAddr t x i => match P.underlying t, st.val x, st.val i with
  | some (.slice e), .slice sz rows _, .val (.int _ n) => match szT P e with
   | some z => bif Nat.beq z sz && Nat.blt 0 z then (0 ≤ n ∧ n < rlen rows) ∧ Za8 P 8 e (fun cs => rget rows n = cs ∧ K (st.put o.dst (.ref 0 cs))) else False
   | none => False
  | some (.slice e), .osl id, .val (.int _ n) => match szT P e, oget st.objs id with
   | some z, some (.own sz rows) => bif Nat.beq z sz && Nat.blt 0 z then (0 ≤ n ∧ n < rlen rows) ∧ K (st.put o.dst (.eptr id e n 0)) else False
   | _, _ => False
  | some (.array m e), .ptr id off, .val (.int _ n) => match szT P e, oget st.objs id with
   | some 1, some (.arr _ m' _) => bif Nat.beq m m' && Nat.beq off 0 then (0 ≤ n ∧ n < Int.ofNat m) ∧ K (st.put o.dst (.aptr id n)) else False
   | some z, _ => bif jmode st && Nat.beq z 1 && Nat.beq off 0 then (0 ≤ n ∧ n < Int.ofNat m) ∧ K (st.put o.dst (.aptr id n)) else arrIx m i n fun j => K (st.put o.dst (.ptr id (off + j * z)))
   | none, _ => False
  | some (.array m e), .eptr id e' i' off, .val (.int _ n) => match szT P e with
   | some z => arrIx m i n fun j => K (st.put o.dst (.eptr id e' i' (off + j * z)))
   | none => False
  | some (.array m e), .ref off cs, .val (.int _ n) => match szT P e with
   | some z => arrIx m i n fun j => K (st.put o.dst (.ref (off + j * z) cs))
   | none => False
  | _, _, _ => False
 | .load t x => match st.val x with
  | .eptr id e i off => match oget st.objs id, szT P e with
   | some (.own sz rows), some z => bif Nat.beq z sz then (0 ≤ i ∧ i < rlen rows) ∧ Za8 P 8 e (fun cs => rget rows i = cs ∧ match partN P t off cs with
     | some v => K (st.put o.dst v)
     | none => False) else False
   | _, _ => False
  | .ptr id off => match oget st.objs id, bigT P t with
   | some (.arr kd m ns), some (kd', m') => bif Nat.beq m m' && Nat.beq off 0 && decide (kd = kd') then K (st.put o.dst (.arr kd m ns)) else False
   | _, _ => False
  | .aptr id n => match oget st.objs id, P.underlying t, szT P t with
   | some (.arr kd m ns), some (.int kd'), some 1 => bif decide (kd = kd') then (0 ≤ n ∧ n < Int.ofNat m) ∧ K (st.put o.dst (.val (.int kd (aget ns n)))) else False
   | some (.box cs), some (.int kd), some 1 => match Zn4 kd cs with
    | some ns => (0 ≤ n ∧ n < Int.ofNat (lenN cs)) ∧ K (st.put o.dst (.val (.int kd (aget ns n))))
    | none => False
   | _, _, _ => False
  | _ => False
 | .index t x i => match P.underlying t, st.val x, st.val i with
  | some .string, .val (.string s), .val (.int _ n) => (0 ≤ n ∧ n < slen s) ∧ K (st.put o.dst (.val (.int .u8 (sbyte s n))))
  | some (.array _ _), .arr kd m' ns, .val (.int _ n) => match bigT P t with
   | some (kd', m) => bif Nat.beq m m' && decide (kd = kd') then (0 ≤ n ∧ n < Int.ofNat m) ∧ K (st.put o.dst (.val (.int kd (aget ns n)))) else False
   | none => False
  | some (.array m e), .agg cs, .val (.int _ n) => match szT P e with
   | some z => arrIx m i n fun j => match partN P e (j * z) cs with
    | some v => K (st.put o.dst v)
    | none => False
   | none => False
  | _, _, _ => False
 | .binOp op t x y _ => match st.val x, st.val y with
  | .val (.int kd a), .val (.int kd' b) => match op with
   | .quo => bif decide (kd = kd') then b ≠ 0 ∧ K (st.put o.dst (.val (.int kd (wquo kd a b)))) else False
   | .rem => bif decide (kd = kd') then b ≠ 0 ∧ K (st.put o.dst (.val (.int kd (wrem a b)))) else False
   | .shl => 0 ≤ b ∧ K (st.put o.dst (.val (.int kd (wshl kd a b))))
   | .shr => 0 ≤ b ∧ K (st.put o.dst (.val (.int kd (wshr kd a b))))
   | _ => False
  | .val (.string a), .val (.string b) => match op with
   | .add => lsum (slen a) (slen b) ≤ 9223372036854775807 ∧ K (st.put o.dst (.val (.string (scat a b))))
   | _ => False
  | .val (.float k a), .val (.float k' b) => fres P o.type (fun r => fbin P op t (.float k a) (.float k' b) r) fun s => K (st.put o.dst s)
  | .val (.complex k a b), .val (.complex k' c d) => fres P o.type (fun r => fbin P op t (.complex k a b) (.complex k' c d) r) fun s => K (st.put o.dst s)
  | sx, _ => bif Ztw y then (match P.underlying t, Zio st.objs sx, op with
    | some (.slice _), some (_, rows), .eql => ∀ b : Bool, (b = true → rlen rows = 0) → K (st.put o.dst (.val (.bool b)))
    | some (.slice _), some (_, rows), .neq => ∀ b : Bool, (b = false → rlen rows = 0) → K (st.put o.dst (.val (.bool b)))
    | _, _, _ => False) else bif Ztx y then (match P.underlying t, op with
    | some (.interface _), .eql => isIfc sx = true ∧ K (st.put o.dst (.val (.bool (Zlm sx))))
    | some (.interface _), .neq => isIfc sx = true ∧ K (st.put o.dst (.val (.bool (!Zlm sx))))
    | _, _ => False) else False
 | .slice t x lo hi mx => match P.underlying t, (pureOps [x] st).val x with
  | some .string, .val (.string s) => match bndOf (fun _ => (pureOps [x] st).val) 0 lo, bndOf (fun _ => (pureOps [x] st).val) (slen s) hi, mx with
   | some l, some h, none => (0 ≤ l ∧ l ≤ h ∧ h ≤ slen s) ∧ K ((pureOps [x] st).put o.dst (.val (.string (ssub s l h))))
   | _, _, _ => False
  | some (.slice e), .slice sz rows _ => match szT P e, bndOf (fun _ => (pureOps [x] st).val) 0 lo, bndOf (fun _ => (pureOps [x] st).val) (rlen rows) hi, mx with
   | some z, some l, some h, none => bif Nat.beq z sz || Nat.beq sz 0 then (0 ≤ l ∧ l ≤ h ∧ h ≤ rlen rows) ∧ K ((pureOps [x] st).put o.dst (.slice sz (rsub rows l h) 0)) else False
   | some z, some l, some h, some m => match hi, (pureOps [x] st).val m with
    | some _, .val (.int _ mm) => bif Nat.beq z sz || Nat.beq sz 0 then (0 ≤ l ∧ l ≤ h ∧ h = mm ∧ h ≤ rlen rows) ∧ K ((pureOps [x] st).put o.dst (.slice sz (rsub rows l h) 1)) else False
    | _, _ => False
   | _, _, _, _ => False
  | some (.array m e), .ptr id off => match oget st.objs id with
   | some (.arr _ m' _) => match szT P e, bndOf (fun _ => (pureOps [x] st).val) 0 lo, bndOf (fun _ => (pureOps [x] st).val) (Int.ofNat m) hi, mx with
    | some 1, some l, some h, none => bif Nat.beq m m' && Nat.beq off 0 then (0 ≤ l ∧ l ≤ h ∧ h ≤ Int.ofNat m ∧ l < Int.ofNat m) ∧ K ((pureOps [x] st).put o.dst (.asl id l h)) else False
    | _, _, _, _ => False
   | _ => match szT P e, lo, hi, mx with
    | some 1, none, none, none => K (st.put o.dst (.bsl id off m))
    | _, _, _, _ => False
  | _, _ => False
 | .makeFunc (.func f) first captured => bif Nat.beq first.size 0 then
   (match St.frzBoxes (Zty (captured.toList.map st.val)) st with
   | none => False
   | some st1 => match pureL (captured.toList.map (pureOps captured.toList st1).val) with
    | some cs => K ((pureOps captured.toList st1).put o.dst (.clo f cs))
    | none => False) else False
 | .convert src dst x => match P.underlying src, P.underlying dst, st.val x with
  | some (.slice e), some .string, .asl id l h => match P.underlying e, oget st.objs id with
   | some (.int .u8), some (.arr kd m ns) => (0 ≤ l ∧ l ≤ h ∧ h ≤ Int.ofNat m) ∧ Zc8 (arows kd (asub ns l h)) ∧ K (st.put o.dst (.val (.string (bstr (arows kd (asub ns l h))))))
   | _, _ => False
  | some (.slice e), some .string, v => match P.underlying e, Zio st.objs v with
   | some (.int .u8), some (_, rows) => Zc8 rows ∧ K (st.put o.dst (.val (.string (bstr rows))))
   | _, _ => False
  | some (.int _), some (.float _), .val (.int k n) => fres P o.type (fun r => fcvt P src dst (.int k n) r) fun s => K (st.put o.dst s)
  | some (.float _), some (.int _), .val (.float k n) => fres P o.type (fun r => fcvt P src dst (.float k n) r) fun s => K (st.put o.dst s)
  | _, _, _ => False
 | _ => False

def zeroL (kd : IntKind) : Nat → List SV → Bool
 | 0, [] => true
 | m + 1, .val (.int kd' (.ofNat 0)) :: zs => decide (kd = kd') && zeroL kd m zs
 | _, _ => false

def dstOK : Option Nat → Bool
 | some d => Nat.blt d 8191
 | none => true

def Zlt : List SV → Option (List Value)
 | [] => some []
 | .val v :: xs => match Zlt xs with
  | some vs => some (v :: vs)
  | none => none
 | _ :: _ => none

def Zqw (P : Program) (o : Oper) (t : TypeId) (kd : IntKind) (m : Nat) (st : St) (K : St → Prop) : Prop :=
 match Zkd P t, o.dst with
 | some (.agg zs), some d => bif zeroL kd m zs then K ((st.bind (128 * d) (.arr kd m (azero m))).put o.dst (.ptr (128 * d) 0)) else False
 | _, _ => False

def arrOf : SV → Option (IntKind × Nat × List Int)
 | .arr kd m ns => some (kd, m, ns)
 | _ => none

def Zwg (o : Oper) (kd : IntKind) (m : Nat) (ns : List Int) (st : St) (K : St → Prop) : Prop :=
 match o.dst with
 | some d => K ((st.bind (128 * d) (.arr kd m ns)).put o.dst (.ptr (128 * d) 0))
 | none => False

def Zqx (o : Oper) (id : Nat) (i : Int) (y : SV) (st : St) (K : St → Prop) : Prop :=
 match oget st.objs id, y with
 | some (.arr kd m ns), .val (.int kd' v) => bif decide (kd = kd') then (0 ≤ i ∧ i < Int.ofNat m) ∧ K (({ st with objs := oput st.objs id (.arr kd m (aset ns i v)) } : St).put o.dst .unk) else False
 | some (.box cs), .val (.int kd v) => match Zn4 kd cs with
  | some ns => (0 ≤ i ∧ i < Int.ofNat (lenN cs)) ∧ K (({ st with objs := oput st.objs id (.box (putsN kd i v 0 ns)) } : St).put o.dst .unk)
  | none => False
 | _, _ => False

def Zwh (o : Oper) (id off : Nat) (kd : IntKind) (m n : Nat) (y : SV) (st : St) (K : St → Prop) : Prop :=
 match y with
 | .arr kd' m' ns => bif decide (kd = kd') && Nat.beq m m' && Nat.beq off 0 && Nat.beq n m then K (({ st with objs := oput st.objs id (.arr kd m ns) } : St).put o.dst .unk) else False
 | _ => False

def loudC (P : Program) (Sg : FuncId → Sig) (Sv : TypeId → Sig) (o : Oper) (st : St) (K : St → Prop) : Prop :=
 bif dstOK o.dst then match o.op with
 | .alloc t => match bigT P t with
  | some (kd, m) => Zqw P o t kd m st K
  | none => match Zkd P t, o.dst with
   | some z, some d => K ((st.bind (128 * d) (.box (cellsOf z))).put o.dst (.ptr (128 * d) 0))
   | _, _ => False
 | .box _ x => match arrOf (st.val x) with
  | some (kd, m, ns) => Zwg o kd m ns st K
  | none => match o.dst with
   | some d => bif boxL (cellsOf (st.val x)) then K ((st.bind (128 * d) (.box (cellsOf (st.val x)))).put o.dst (.ptr (128 * d) 0)) else False
   | none => False
 | .store t x y => match st.val x, szT P t with
  | .ptr id off, some n => match oget st.objs id with
   | some (.box cs) => bif boxL (cellsOf (st.val y)) && Nat.beq (lenN (cellsOf (st.val y))) n then
     (match Zbs off (cellsOf (st.val y)) cs with
     | some cs' => K (({ st with objs := oput st.objs id (.box cs') } : St).put o.dst .unk)
     | none => False) else False
   | some (.arr kd m _) => Zwh o id off kd m n (st.val y) st K
   | _ => False
  | .aptr id i, some 1 => Zqx o id i (st.val y) st K
  | .eptr id e i off, some n => match oget (pureOps [y] st).objs id, szT P e, Zdv ((pureOps [y] st).val y) with
   | some (.own sz rows), some z, some s => bif Nat.beq z sz && Nat.beq (lenN (cellsOf s)) n then
     (0 ≤ i ∧ i < rlen rows) ∧ (bif Nat.beq n z && Nat.beq off 0 then K (({ pureOps [y] st with objs := oput (pureOps [y] st).objs id (.own sz (rset rows i (cellsOf s))) } : St).put o.dst .unk)
      else Za8 P 8 e fun cs => rget rows i = cs ∧ match Zbs off (cellsOf s) cs with
       | some cs' => K (({ pureOps [y] st with objs := oput (pureOps [y] st).objs id (.own sz (rset rows i cs')) } : St).put o.dst .unk)
       | none => False) else False
   | _, _, _ => False
  | _, _ => False
 | .buildSlice t len parts => match P.underlying t, o.dst with
  | some (.slice e), some d => match Zfw P e with
   | some z => bif Zce P e && Nat.ble (len * lenN z) 16777216 && Nat.beq (lenN z) ((szT P e).getD 0) && parts.toList.all (fun p => Nat.blt p.1 len) && Zcd (parts.toList.map (·.1)) then
     (match Zdw z (parts.toList.map fun p => (p.1, (pureOps (parts.toList.map (·.2)) st).val p.2)) len 0 with
     | some rows => K (((pureOps (parts.toList.map (·.2)) st).bind (128 * d + 64) (.own (lenN z) rows)).put o.dst (.osl (128 * d + 64)))
     | none => False) else False
   | none => False
  | _, _ => False
 | .makeSlice t l c => match P.underlying t, o.dst, st.val l, st.val c with
  | some (.slice e), some d, .val (.int .i64 n), .val (.int .i64 m) => match Zfw P e with
   | some z => bif Zce P e && Nat.beq (lenN z) ((szT P e).getD 0) then
     (0 ≤ n ∧ n ≤ m ∧ m ≤ most) ∧ K ((st.bind (128 * d + 64) (.own (lenN z) (rrep n z))).put o.dst (.osl (128 * d + 64))) else False
   | none => False
  | _, _, _, _ => False
 | .makeMap t r => match P.underlying t, o.dst with
  | some (.map _ _), some d => match r.map st.val with
   | none | some (.val (.int _ _)) => K ((st.bind (128 * d + 64) (.mp [])).put o.dst (.omp (128 * d + 64)))
   | _ => False
  | _, _ => False
 | .mapUpdate t m k v => match P.underlying t, st.val m, st.val k, st.val v with
  | some (.map kt _), .omp id, .val (.string s), .val (.int .i64 n) => match P.underlying kt, oget st.objs id with
   | some .string, some (.mp es) => K (({ st with objs := oput st.objs id (.mp (mset es s n)) } : St).put o.dst .unk)
   | _, _ => False
  | _, _, _, _ => False
 | .convert src dst x => match P.underlying src, P.underlying dst, st.val x with
  | some .string, some (.slice e), .val (.string s) => match P.underlying e, o.dst with
   | some (.int .u8), some d => slen s ≤ most ∧ K ((st.bind (128 * d + 64) (.own 1 (Zdq s))).put o.dst (.osl (128 * d + 64)))
   | _, _ => False
  | some (.slice e), some (.slice _), .osl id => match P.underlying e, oget st.objs id with
   | some (.int .u8), some (.own sz rows) => bif Nat.beq src dst && Nat.beq sz 1 then 0 < rlen rows ∧ K (({ st with objs := oput st.objs id (.own 1 rows) } : St).put o.dst (.osl id)) else False
   | _, _ => False
  | _, _, _ => False
 | .call { callee := .builtin .append, args := ⟨[x, y]⟩, argTypes := ⟨[t1, t2]⟩ } => match P.underlying t1, o.dst, Zhs P st t2 (st.val y) with
  | some (.slice e), some d, some (sz', ys) => match szT P e with
   | some z => bif Zce P e && srcOK z sz' then
     (match st.val x with
     | .osl id => match oget st.objs id with
      | some (.own sz rows) => bif Nat.beq z sz then lsum (rlen rows) (rlen ys) ≤ most ∧ K (((st.drop id).bind (128 * d + 64) (.own z (rapp rows ys))).put o.dst (.osl (128 * d + 64))) else False
      | _ => False
     | .slice _ [] 1 => rlen ys ≤ most ∧ K ((st.bind (128 * d + 64) (.own z ys)).put o.dst (.osl (128 * d + 64)))
     | _ => False) else False
   | none => False
  | _, _, _ => False
 | .call { callee := .builtin .copy, args := ⟨[x, y]⟩, argTypes := ⟨[t1, t2]⟩ } => match P.underlying t1, st.val x, Zhs P st t2 (st.val y) with
  | some (.slice e), .bsl id off m, some (some _, ys) => match szT P e, oget st.objs id, P.underlying e with
   | some 1, some (.box cs), some (.int kd) => bif Nat.ble m 4 then copyN kd (imin (rlen ys) (Int.ofNat m)) ys (fun acc => match Zbs off acc cs with
     | some cs' => K (({ st with objs := oput st.objs id (.box cs') } : St).put o.dst (.val (.int .i64 (Int.ofNat (lenN acc)))))
     | none => False) m [] else False
   | _, _, _ => False
  | _, _, _ => False
 | .call { callee := .value (.func f), args, .. } => match P.funcs[f]? with
  | none => False
  | some fn => match fn.body with
   | none => match Zlt (args.toList.map st.val) with
    | some vs => fres P o.type (fun r => fext P f vs r) fun s => K (st.put o.dst s)
    | none => False
   | some _ => let ids := Zej st.objs (Sg f).ps 0 (args.toList.map st.val)
    callC P f (Sg f) fn.params.toList fn.resultTypes.toList (args.toList.map (St.frzAll ids st).val) [] o.dst st (St.frzAll ids st) K
 | .call { callee := .value (.tmp t), args, argTypes } => match st.val (.tmp t) with
  | .clo f caps => let ids := Zej st.objs (Sv o.type).ps 0 (args.toList.map st.val)
    callC P f (Sv o.type) argTypes.toList (match P.underlying o.type with | some (.tuple ts) => ts.toList | _ => [o.type]) (args.toList.map (St.frzAll ids st).val) caps o.dst st (St.frzAll ids st) K
  | _ => False
 | _ => False else False

/- Parts of own slices. -/

def vmode (st : St) : Bool :=
 match oget st.objs 3 with
 | some (.own 0 []) => true
 | _ => false

def amode (st : St) : Bool :=
 match oget st.objs 4 with
 | some (.own 0 []) => true
 | _ => false

def rows1 : List SV → List (List SV)
 | [] => []
 | c :: cs => [c] :: rows1 cs

def arrV (P : Program) (o : Oper) (t : TypeId) (x : Operand) (lo hi mx : Option Operand) (st : St) (K : St → Prop) : Prop :=
 match P.underlying t, st.val x, lo, hi, mx with
 | some (.array m e), .ref off cs, none, none, none => match szT P e with
  | some 1 => bif Nat.ble (off + m) (lenN cs) && Nat.blt 0 m && boxL (takeN m (dropN off cs)) then K (st.put o.dst (.slice 1 (rows1 (takeN m (dropN off cs))) 1)) else False
  | _ => False
 | _, _, _, _, _ => False

def St.opn (st : St) (id nid sz : Nat) (rows : List (List SV)) (c : Int) : St := { tmps := hmapL (opnG id nid (rlen rows) c) st.tmps, objs := (nid, .own sz rows) :: hmapO (opnG id nid (rlen rows) c) (odel (odel st.objs id) nid) }

def St.rows (st : St) (id sz : Nat) (rows : List (List SV)) : St := { tmps := hmapL (koslG id) st.tmps, objs := oput (hmapO (koslG id) st.objs) id (.own sz rows) }

def vbd (d s : Int) : Option Operand → Int
 | none => d
 | some _ => s

def Zqy (P : Program) (o : Oper) (t : TypeId) (lo hi mx : Option Operand) (id : Nat) (l h c : Int) (st : St) (K : St → Prop) : Prop :=
 match P.underlying t, oget st.objs id with
 | some (.slice e), some (.own sz _) => match szT P e, bndOf (fun _ => st.val) 0 lo, bndOf (fun _ => st.val) (isub h l) hi, mx with
  | some z, some x, some y, none => bif Nat.beq z sz then (0 ≤ x ∧ x ≤ y ∧ y ≤ isub c l) ∧ K (st.put o.dst (.osv id (vbd l (lsum l x) lo) (vbd h (lsum l y) hi) c)) else False
  | some z, some x, some y, some m => match hi, st.val m with
   | some _, .val (.int _ mm) => bif Nat.beq z sz then (0 ≤ x ∧ x ≤ y ∧ y ≤ mm ∧ mm ≤ isub c l) ∧ K (st.put o.dst .unk) else False
   | _, _ => False
  | _, _, _, _ => False
 | _, _ => False

def srcV (P : Program) (st : St) (t2 : TypeId) (y : SV) : Option (Option Int × Option Nat × List (List SV)) :=
 match y with
 | .osv id l h _ => match P.underlying t2, oget st.objs id with
  | some (.slice _), some (.own sz rows) => some (some (isub (rlen rows) h), some sz, rsub rows l h)
  | _, _ => none
 | y => (Zhs P st t2 y).map fun p => (none, p.1, p.2)

def sideV (s : Option Int) (K : Prop) : Prop :=
 match s with
 | none => K
 | some n => 0 ≤ n ∧ K

def appV (P : Program) (o : Oper) (t1 t2 : TypeId) (y : SV) (id : Nat) (l h c : Int) (st : St) (K : St → Prop) : Prop :=
 match P.underlying t1, o.dst, srcV P st t2 y, oget st.objs id with
 | some (.slice e), some d, some (s, sz', ys), some (.own sz rows) => match szT P e with
  | some z => bif Zce P e && srcOK z sz' && Nat.beq z sz && dstOK o.dst && idOK id then
    sideV s (h ≤ rlen rows ∧ (lsum h (rlen ys) ≤ c → K ((st.rows id sz (rput rows h ys)).put o.dst (.osv id l (lsum h (rlen ys)) c))) ∧
     (c < lsum h (rlen ys) → lsum (isub h l) (rlen ys) ≤ most ∧ K ((st.bind (128 * d + 64) (.own z (rapp (rsub rows l h) ys))).put o.dst (.osl (128 * d + 64))))) else False
  | none => False
 | _, _, _, _ => False

def appZ (P : Program) (o : Oper) (t1 : TypeId) (n : Int) (id : Nat) (l h c : Int) (st : St) (K : St → Prop) : Prop :=
 match P.underlying t1, o.dst, oget st.objs id with
 | some (.slice e), some d, some (.own sz rows) => match szT P e, Zfw P e with
  | some z, some zr => bif Zce P e && Nat.beq z sz && dstOK o.dst then
    ((0 ≤ n ∧ n ≤ most) ∧ c < lsum h n ∧ lsum (isub h l) n ≤ most) ∧
     ((h ≤ rlen rows → ∀ c' : Int, lsum (isub h l) n ≤ c' → c' ≤ 9223372036854775807 → K ((st.bind (128 * d + 64) (.own z (rapp (rsub rows l h) (rrep n zr)))).put o.dst (.osv (128 * d + 64) 0 (lsum (isub h l) n) c'))) ∧
      (rlen rows < h → ∀ c' : Int, lsum (isub h l) n ≤ c' → c' ≤ 9223372036854775807 → K ((st.bind (128 * d + 64) (.own z (rsub rows l (rlen rows)))).put o.dst (.osv (128 * d + 64) 0 (lsum (isub h l) n) c')))) else False
  | _, _ => False
 | _, _, _ => False

def copyV (P : Program) (o : Oper) (t1 t2 : TypeId) (y : SV) (id : Nat) (l h : Int) (st : St) (K : St → Prop) : Prop :=
 match P.underlying t1, P.underlying t2, oget st.objs id with
 | some (.slice e), some (.slice _), some (.own sz rows) => match szT P e with
  | some z => bif Nat.beq z sz && idOK id then
    (match y with
    | .osv id2 l2 h2 _ => match oget st.objs id2 with
     | some (.own sz2 rows2) => bif Nat.beq z sz2 then
       (l ≤ rlen rows ∧ lsum l2 (imin (isub h2 l2) (isub h l)) ≤ rlen rows2) ∧
        K ((st.rows id sz (rput rows l (rsub rows2 l2 (lsum l2 (imin (isub h2 l2) (isub h l)))))).put o.dst (.val (.int .i64 (imin (isub h2 l2) (isub h l))))) else False
     | _ => False
    | y => match Zhs P st t2 y with
     | some (sz', ys) => bif srcOK z sz' && Nat.blt 0 z then (l ≤ rlen rows ∧ rlen ys ≤ isub h l) ∧ K ((st.rows id sz (rput rows l ys)).put o.dst (.val (.int .i64 (rlen ys)))) else False
     | none => False) else False
  | none => False
 | _, _, _ => False

def Zt0 (P : Program) (o : Oper) (t : TypeId) (id : Nat) (l h : Int) (st : St) (K : St → Prop) : Prop :=
 match P.underlying t, oget st.objs id with
 | some (.slice e), some (.own sz rows) => match Zfw P e with
  | some z => bif Nat.beq (lenN z) sz && idOK id then l ≤ rlen rows ∧ K ((st.rows id sz (rput rows l (rrep (isub h l) z))).put o.dst .unk) else False
  | none => False
 | _, _ => False

def fovl (P : Program) (f : FuncId) (t : TypeId) : Prop := ∃ ts, ∀ (x y : Value) (w : World), (callFunc f #[x, y]).run P w = ((Extern.SlicesOverlaps.overlaps #[t, t] ts #[x, y]).run P w).andThen fun v w => .ok (.value v) w

def ovlV (P : Program) (o : Oper) (f : FuncId) (x : SV) (id : Nat) (st : St) (K : St → Prop) : Prop :=
 match x, oget st.objs id, P.funcs[f]? with
 | .slice _ _ _, some (.own sz _), some fn => match fn.params.toList, fn.body with
  | [t, _], none => match P.underlying t with
   | some (.slice e) => match szT P e with
    | some z => bif Nat.beq z sz && Nat.ble 2 z then fovl P f t ∧ K (st.put o.dst (.val (.bool false))) else False
    | none => False
   | _ => False
  | _, _ => False
 | _, _, _ => False

def viewC (P : Program) (o : Oper) (st : St) : Option ((St → Prop) → Prop) :=
 match o.op with
 | .slice t x lo hi mx => match st.val x with
  | .osl id => bif vmode st then (match oget st.objs id, o.dst with
   | some (.own sz rows), some d => bif Nat.blt d 8191 then some fun K => ∀ c : Int, rlen rows ≤ c → c ≤ 9223372036854775807 → Zqy P o t lo hi mx (128 * d + 65) 0 (rlen rows) c (st.opn id (128 * d + 65) sz rows c) K else none
   | _, _ => none) else none
  | .osv id l h c => some fun K => Zqy P o t lo hi mx id l h c st K
  | .ptr id _ => bif amode st then (match St.frzBoxes [id] st with
   | some st1 => some fun K => arrV P o t x lo hi mx st1 K
   | none => none) else none
  | .ref _ _ => some fun K => arrV P o t x lo hi mx st K
  | _ => none
 | .call { callee := .builtin b, args := ⟨[x]⟩, argTypes := ⟨[t]⟩ } => match b, st.val x with
  | .len, .osv _ l h _ => match P.underlying t with
   | some (.slice _) => some fun K => K (st.put o.dst (.val (.int .i64 (isub h l))))
   | _ => none
  | .cap, .osv _ l _ c => match P.underlying t with
   | some (.slice _) => some fun K => K (st.put o.dst (.val (.int .i64 (isub c l))))
   | _ => none
  | .cap, .osl id => bif vmode st then (match P.underlying t, oget st.objs id, o.dst with
   | some (.slice _), some (.own sz rows), some d => bif Nat.blt d 8191 then some fun K => ∀ c : Int, rlen rows ≤ c → c ≤ 9223372036854775807 → K ((st.opn id (128 * d + 65) sz rows c).put o.dst (.val (.int .i64 c))) else none
   | _, _, _ => none) else none
  | .clear, .osv id l h _ => some fun K => Zt0 P o t id l h st K
  | _, _ => none
 | .call { callee := .builtin b, args := ⟨[x, y]⟩, argTypes := ⟨[t1, t2]⟩ } => match b, st.val x with
  | .append, .osv id l h c => match P.underlying t2, st.val y with
   | some (.int .i64), .val (.int .i64 n) => some fun K => appZ P o t1 n id l h c st K
   | _, _ => some fun K => appV P o t1 t2 (st.val y) id l h c st K
  | .copy, .osv id l h _ => some fun K => copyV P o t1 t2 (st.val y) id l h st K
  | _, _ => none
 | .call { callee := .value (.func f), args := ⟨[x, y]⟩, .. } => match st.val y with
  | .osv id _ _ _ => some fun K => ovlV P o f (st.val x) id st K
  | _ => none
 | _ => none

def kmode (st : St) : Bool :=
 match oget st.objs 5 with
 | some (.own 0 []) => true
 | _ => false

def Zwi (o : Oper) : Bool :=
 match o.op with
 | .buildSlice .. => true
 | _ => false

def dstL : Option Nat → List Operand
 | some d => [.tmp d]
 | none => []

def exec (P : Program) (Sg : FuncId → Sig) (Sv : TypeId → Sig) (o : Oper) (gv : List (Nat × Bool) → Operand → SV) (st : St) (K : St → Prop) : Prop :=
 match viewC P o st with
 | some C => C K
 | none => bif loud P o.op then (bif kmode st && Zwi o then loudC P Sg Sv o st (fun st' => K (pureOps (dstL o.dst) st')) else loudC P Sg Sv o st K)
  else match quiet P o.type gv st.objs o.op with
   | some v => K (st.put o.dst v)
   | none => Ztz P o st K

def fixL (t : Nat) (b : Bool) : List SV → List SV
 | [] => []
 | .gd t' w v :: xs => (bif Nat.beq t t' then (bif w == b then v else .gd t' w v) else .gd t' w v) :: fixL t b xs
 | x :: xs => x :: fixL t b xs

def St.fix (st : St) (t : Nat) (b : Bool) : St := { st with tmps := lset (fixL t b st.tmps) t (.val (.bool b)) }

def skipG : Nat → St → Nat → Bool → Bool
 | 0, _, _, _ => false
 | n + 1, st, t, w => match lget st.tmps t with
  | .val (.bool b) => match w, b with
   | true, false => true
   | false, true => true
   | _, _ => false
  | .gd t2 w2 _ => skipG n st t2 w2
  | _ => false

def skipV (st : St) : SV → Bool
 | .gd t w _ => skipG 5 st t w
 | _ => false

def aopB (P : Program) (Sg : FuncId → Sig) (Sv : TypeId → Sig) (o : Oper) (t : Nat) (w b : Bool) (st : St) (K : St → Prop) : Prop :=
 bif w then ifB b (exec P Sg Sv o (fun ex x => ungd ex (ev (st.fix t true) x)) (st.fix t true) K) (K ((st.fix t false).put o.dst (.gd t w (.val (.bool true)))))
 else ifB b (K ((st.fix t true).put o.dst (.gd t w (.val (.bool true))))) (exec P Sg Sv o (fun ex x => ungd ex (ev (st.fix t false) x)) (st.fix t false) K)

def Zqz : Nat → Nat → Bool → St → (St → Prop) → (St → Prop) → Prop
 | 0, _, _, _, _, _ => False
 | n + 1, t, w, st, yes, no => match lget st.tmps t with
  | .val (.bool b) => bif w then ifB b (yes (st.fix t true)) (no (st.fix t false)) else ifB b (no (st.fix t true)) (yes (st.fix t false))
  | .gd t2 w2 (.val (.bool b)) => Zqz n t2 w2 st
    (fun st' => bif w then ifB b (yes (st'.fix t true)) (no (st'.fix t false)) else ifB b (no (st'.fix t true)) (yes (st'.fix t false))) no
  | _ => False

def aop (P : Program) (Sg : FuncId → Sig) (Sv : TypeId → Sig) (ops : Array Oper) (o : Oper) (st : St) (K : St → Prop) : Prop :=
 match o.guard with
 | none => exec P Sg Sv o (fun ex x => ungd ex (ev st x)) st K
 | some g => match gdst ops (some g) with
  | none => False
  | some (t, w) => match (bif loud P o.op then none else quiet P o.type (fun ex x => ungd (ex ++ chain st 4 (t, w)) (ev st x)) st.objs o.op) with
   | some v => K (st.put o.dst (.gd t w v))
   | none => match lget st.tmps t with
    | .val (.bool b) => aopB P Sg Sv o t w b st K
    | .gd t2 w2 (.val (.bool b)) => match lget st.tmps t2 with
     | .val (.bool b2) => bif w2 then ifB b2 (aopB P Sg Sv o t w b (st.fix t2 true) K) (K ((st.fix t2 false).put o.dst (.gd t2 w2 (.val (.bool true)))))
       else ifB b2 (K ((st.fix t2 true).put o.dst (.gd t2 w2 (.val (.bool true))))) (aopB P Sg Sv o t w b (st.fix t2 false) K)
     | .gd _ _ _ => Zqz 4 t2 w2 st (fun st' => aopB P Sg Sv o t w b st' K) (fun st' => K (st'.put o.dst (.gd t2 w2 (.val (.bool true)))))
     | _ => False
    | _ => False

def vcOps (P : Program) (Sg : FuncId → Sig) (Sv : TypeId → Sig) (ops : Array Oper) : List Oper → St → (St → Prop) → Prop
 | [], st, K => K st
 | o :: rest, st, K => aop P Sg Sv ops o st fun st' => vcOps P Sg Sv ops rest st' K

/- Regions whose order is open. -/

def Zbn (i : Nat) (o : Oper) : Bool := o.after.toList.any fun e => Region.binds .any e && Nat.beq e.on i

def dstOf (ops : Array Oper) (k : Nat) : Option Nat := (ops[k]?).bind (·.dst)

def Zht (ops : Array Oper) : Bool :=
 Zcd (ops.toList.filterMap (·.dst)) &&
 ((List.range ops.size).all fun k => match ops[k]? with
  | none => true
  | some o => (o.after.toList.all fun e => !Region.binds .any e || Nat.blt e.on k) &&
   (match o.op with | .select .. => false | _ => true) &&
   (List.range ops.size).all fun i => Nat.beq i k || Zbn i o || (match ops[i]? with
    | none => true
    | some p => Zbn k p || (match p.dst with
     | none => true
     | some d => !((o.looksAt ops).any fun t => Nat.beq t d))))

def unG : SV → SV
 | .gd _ _ s => s
 | s => s

def Zeb (objs : List (Nat × Ob)) (tids : List Nat) : SV → Bool
 | .ptr id1 _ => !(tids.any (Nat.beq id1)) && (match oget objs id1 with | some (.box _) => true | some (.arr _ _ _) => true | _ => false)
 | .aptr id1 _ => !(tids.any (Nat.beq id1)) && (match oget objs id1 with | some (.box _) => true | some (.arr _ _ _) => true | _ => false)
 | .eptr id1 _ _ _ => !(tids.any (Nat.beq id1)) && (match oget objs id1 with | some (.own _ _) => true | _ => false)
 | .osl id1 => !(tids.any (Nat.beq id1)) && (match oget objs id1 with | some (.own _ _) => true | _ => false)
 | .omp id1 => !(tids.any (Nat.beq id1)) && (match oget objs id1 with | some (.mp _) => true | _ => false)
 | .ref _ (_ :: _) => true
 | .slice _ _ _ => true
 | .gd _ _ s => Zeb objs tids s
 | _ => false

def Zb3 (P : Program) : Op → Option Operand
 | .load _ x => some x
 | .lookup _ x _ _ => some x
 | .call { callee := .builtin .len, args := ⟨[x]⟩, argTypes := ⟨[t]⟩ } => match P.underlying t with
  | some (.map _ _) => some x
  | _ => none
 | .convert src _ x => match P.underlying src with
  | some (.slice _) => some x
  | _ => none
 | _ => none

def Zhu (objs : List (Nat × Ob)) (m : Md) (s : SV) : List Nat :=
 match m with
 | .pure => []
 | .own => match s with
  | .osl id | .omp id => [id]
  | _ => []
 | .lend _ => match s with
  | .ptr id _ => id :: (match oget objs id with
   | some (.box cs) => Zfb cs ++ cs.filterMap (fun c => match c with | .omp k => some k | _ => none)
   | _ => [])
  | _ => []

def Zc5 (objs : List (Nat × Ob)) (ms : List Md) : Nat → List SV → List Nat
 | _, [] => []
 | i, s :: ss => Zhu objs (mdAt ms i) s ++ Zc5 objs ms (i + 1) ss

def touch (Sg : FuncId → Sig) (Sv : TypeId → Sig) (st : St) (o : Oper) : Option (List Nat) :=
 match o.op with
 | .store _ x _ => match st.val x with
  | .ptr id _ => some [id]
  | .eptr id _ _ _ => some [id]
  | .aptr id _ => some [id]
  | _ => none
 | .mapUpdate _ x _ _ => match st.val x with
  | .omp id => some [id]
  | _ => none
 | .call { callee := .builtin .append, args := ⟨x :: _⟩, .. } => match st.val x with
  | .osl id => some [id]
  | .osv id _ _ _ => some [id]
  | .slice _ _ _ => some []
  | _ => none
 | .call { callee := .builtin .copy, args := ⟨x :: _⟩, .. } => match st.val x with
  | .bsl id _ _ => some [id]
  | .osv id _ _ _ => some [id]
  | _ => none
 | .call { callee := .builtin .clear, args := ⟨x :: _⟩, .. } => match st.val x with
  | .osv id _ _ _ => some [id]
  | _ => none
 | .call { callee := .value (.func f), args, .. } => let ids := Zej st.objs (Sg f).ps 0 (args.toList.map st.val)
   some (Zc5 (St.frzAll ids st).objs (Sg f).ps 0 (args.toList.map (St.frzAll ids st).val))
 | .call { callee := .value _, args, .. } => let ids := Zej st.objs (Sv o.type).ps 0 (args.toList.map st.val)
   some (Zc5 (St.frzAll ids st).objs (Sv o.type).ps 0 (args.toList.map (St.frzAll ids st).val))
 | .call _ => none
 | .convert _ _ x => match st.val x with
  | .osl id => some [id]
  | _ => some []
 | _ => some []

def St.fixC : Nat → St → Nat → Bool → St
 | 0, st, t, w => st.fix t w
 | n + 1, st, t, w => match lget st.tmps t with
  | .gd t2 w2 _ => (St.fixC n st t2 w2).fix t w
  | _ => st.fix t w
def St.fixN (st : St) (t : Nat) (w : Bool) : St := St.fixC 5 st t w

def Zlu (Sg : FuncId → Sig) (Sv : TypeId → Sig) (ops : Array Oper) (st : St) (o : Oper) : Option (List Nat) :=
 match o.guard with
 | none => touch Sg Sv st o
 | some g => match gdst ops (some g) with
  | some (t, w) => touch Sg Sv (st.fixN t w) o
  | none => none

def Zpe (ops : Array Oper) (k : Nat) : Operand → Bool
 | .tmp t => (List.range ops.size).all fun j => match ops[j]? with
  | none => true
  | some p => !(p.dst == some t) || (!(Zbn k p) && !(Nat.beq j k))
 | _ => true

def isObj (objs : List (Nat × Ob)) (id : Nat) : Bool :=
 match oget objs id with
 | some _ => true
 | none => false

def Zt1 (P : Program) (Sg : FuncId → Sig) (Sv : TypeId → Sig) (ops : Array Oper) (listed : Array Bool) (st : St) (i : Nat) (o : Oper) : Bool :=
 match Zlu Sg Sv ops st o with
 | none => false
 | some tids => tids.all (isObj st.objs) && (List.range ops.size).all fun k => match ops[k]? with
  | none => true
  | some p => Nat.beq k i || !(listed.getD k false) || Zbn k o || (match Zb3 P p.op with
   | none => true
   | some y => (Zeb st.objs tids (ev st y) || skipV st (ev st y)) && Zpe ops k y)

def Zpf : List Nat → (Nat → Prop) → Prop
 | [], _ => True
 | [i], f => f i
 | i :: j :: is, f => f i ∧ Zpf (j :: is) f

def vcAny (P : Program) (Sg : FuncId → Sig) (Sv : TypeId → Sig) (ops : Array Oper) : Nat → Array Bool → St → (St → Prop) → Prop
 | 0, _, _, _ => False
 | n + 1, listed, st, K => match Region.ready .any ops listed with
  | [] => K st
  | i0 :: r => match (i0 :: r).find? (fun i => match ops[i]? with | some o => !loud P o.op | none => false) with
   | some i => match ops[i]? with
    | some o => aop P Sg Sv ops o st fun st' => vcAny P Sg Sv ops n (listed.setIfInBounds i true) st' K
    | none => False
   | none => Zpf (i0 :: r) fun i => match ops[i]? with
    | some o => bif Zt1 P Sg Sv ops listed st i o then aop P Sg Sv ops o st fun st' => vcAny P Sg Sv ops n (listed.setIfInBounds i true) st' K else False
    | none => False

/- Loops: which slots and objects change, and of which shape they are. -/

inductive Sh where
 | int (k : IntKind)
 | bool
 | str
 | sl (sz : Nat)
 | own (sz : Nat)
 | mp
 | cpx (k : FloatKind)
 | arr (kd : IntKind) (m : Nat)

abbrev Sh.ty : Sh → Type
 | .int _ => Int
 | .bool => Bool
 | .str => ByteArray
 | .sl _ => List (List SV)
 | .own _ => List (List SV)
 | .mp => List (ByteArray × Int)
 | .cpx _ => Nat × Nat
 | .arr _ _ => List Int

def Sh.sv : (s : Sh) → s.ty → SV
 | .int k, n => .val (.int k n)
 | .bool, b => .val (.bool b)
 | .str, s => .val (.string s)
 | .sl sz, rows => .slice sz rows 0
 | .own sz, rows => .slice sz rows 0
 | .mp, es => .mapv es
 | .cpx k, p => .val (.complex k (cre p) (cim p))
 | .arr kd m, ns => .arr kd m ns

def Sh.get (s : Sh) (v : SV) : Option s.ty :=
 match s, v with
 | .int k, .val (.int k' n) => bif decide (k = k') then some n else none
 | .bool, .val (.bool b) => some b
 | .str, .val (.string x) => some x
 | .sl sz, .slice sz' rows _ => bif Nat.beq sz' sz || Nat.beq sz' 0 then some rows else none
 | .own sz, .slice sz' rows _ => bif Nat.beq sz' sz || Nat.beq sz' 0 then some rows else none
 | .mp, .mapv es => some es
 | .cpx k, .val (.complex k' a b) => bif decide (k = k') then some (a, b) else none
 | .arr kd m, .arr kd' m' ns => bif decide (kd = kd') && Nat.beq m m' then some ns else none
 | _, _ => none

def Sh.isOwn : Sh → Bool
 | .own _ | .mp => true
 | _ => false

abbrev ITy : List Sh → Type → Type
 | [], R => R
 | s :: ss, R => s.ty → ITy ss R

def Zb1 {R : Type} : (ss : List Sh) → ITy ss R → List SV → (R → Prop) → Prop
 | [], f, [], K => K f
 | s :: ss, f, v :: vs, K => match s.get v with
  | some x => Zb1 ss (f x) vs K
  | none => False
 | _, _, _, _ => False

def allI : (ss : List Sh) → ITy ss Prop → ITy ss Nat → (List SV → Nat → Prop) → Prop
 | [], I, m, K => I → K [] m
 | s :: ss, I, m, K => ∀ x : s.ty, allI ss (I x) (m x) fun vs k => K (s.sv x :: vs) k

structure LoopSpec where
 slots : List (Nat × Bool × List Sh) := []
 boxes : List (Nat × List Sh) := []
 owns : List (Nat × Sh) := []
 fixed : List Nat := []
 ptrs : List (Nat × Nat) := []

def Za3 (sp : LoopSpec) : List Sh := sp.slots.flatMap (·.2.2) ++ sp.boxes.flatMap (·.2) ++ sp.owns.map (·.2)

def Zap : Code → List Nat
 | .region _ ops _ => ops.toList.filterMap (·.dst)
 | .seq a b => Zap a ++ Zap b
 | .cond _ a b => Zap a ++ Zap b
 | .block _ c | .loop c | .scope c => Zap c
 | .rangeFunc _ ps a b => ps.toList ++ Zap a ++ Zap b
 | _ => []

def Zt2 (c : Code) : Nat := (Zap c).headD 0

def opsIn : Code → List Oper
 | .region _ ops _ => ops.toList
 | .seq a b => opsIn a ++ opsIn b
 | .cond _ a b => opsIn a ++ opsIn b
 | .block _ c | .loop c | .scope c => opsIn c
 | .rangeFunc _ _ a b => opsIn a ++ opsIn b
 | _ => []

def hasN (l : List Nat) (n : Nat) : Bool := l.any (Nat.beq n)

def Zq0 : List Nat → List Nat
 | [] => []
 | x :: xs => bif hasN xs x then Zq0 xs else x :: Zq0 xs

def shOf (objs : List (Nat × Ob)) : SV → Option Sh
 | .val (.int k _) => some (.int k)
 | .val (.bool _) => some .bool
 | .val (.string _) => some .str
 | .val (.complex k _ _) => some (.cpx k)
 | .slice sz [] 1 => some (.own sz)
 | .slice sz _ _ => some (.sl sz)
 | .osl id => match oget objs id with
  | some (.own sz _) => some (.own sz)
  | _ => none
 | .omp _ => some .mp
 | _ => none

def shsOf (objs : List (Nat × Ob)) : List SV → Option (List Sh)
 | [] => some []
 | c :: cs => match shOf objs c, shsOf objs cs with
  | some s, some ss => some (s :: ss)
  | _, _ => none

def slotSh (st : St) (t : Nat) : Option (Nat × Bool × List Sh) :=
 match lget st.tmps t with
 | .agg cs => (shsOf st.objs cs).map fun ss => (t, true, ss)
 | c => (shOf st.objs c).map fun s => (t, false, [s])

def Zwj (ops : List Oper) : Nat → Operand → Option (Option Nat)
 | 0, _ => none
 | n + 1, .tmp t => match ops.find? (fun o => match o.dst with | some d => Nat.beq d t | none => false) with
  | none => some (some t)
  | some o => match o.op with
   | .fieldAddr _ x _ | .indexAddr _ x _ | .nilCheck x | .move x | .assign x | .slice _ x _ _ _ => Zwj ops n x
   | .load _ _ => some none
   | _ => none
 | _, _ => none

def idOf : SV → List Nat
 | .ptr id _ | .bsl id _ _ | .osl id | .eptr id _ _ _ | .omp id | .aptr id _ => [id]
 | _ => []

def Zt3 : List (Nat × Ob) → List Nat
 | [] => []
 | (id, .own _ _) :: l => id :: Zt3 l
 | _ :: l => Zt3 l

def Zpg (ops : List Oper) (st : St) (x : Operand) : List Nat :=
 match Zwj ops 8 x with
 | some (some t) => idOf (lget st.tmps t)
 | some none => Zt3 st.objs
 | none => []

def Zm3 (ops : List Oper) (st : St) (ms : List Md) : Nat → List Operand → List Nat
 | _, [] => []
 | i, x :: xs => (match mdAt ms i with | .pure => [] | _ => Zpg ops st x) ++ Zm3 ops st ms (i + 1) xs

def Zt4 (Sg : FuncId → Sig) (Sv : TypeId → Sig) (ops : List Oper) (st : St) : List Oper → List Nat
 | [] => []
 | o :: r => (match o.op with
  | .store _ x _ | .mapUpdate _ x _ _ => Zpg ops st x
  | .call { callee := .builtin .copy, args := ⟨x :: _⟩, .. } => Zpg ops st x
  | .call { callee := .value (.func f), args, .. } => Zm3 ops st (Sg f).ps 0 args.toList
  | .call { callee := .value _, args, .. } => Zm3 ops st (Sv o.type).ps 0 args.toList
  | _ => []) ++ Zt4 Sg Sv ops st r

def Zt5 (st : St) (slots : List (Nat × Bool × List Sh)) (boxes : List (Nat × List Sh)) : List Nat :=
 slots.flatMap (fun p => match lget st.tmps p.1 with | .agg cs => cs.flatMap idOf | c => idOf c) ++
 boxes.flatMap (fun p => match oget st.objs p.1 with | some (.box cs) => cs.flatMap idOf | _ => [])

def boxSh (objs : List (Nat × Ob)) (id : Nat) : Option (Nat × List Sh) :=
 match oget objs id with
 | some (.box cs) => (shsOf objs cs).map fun ss => (id, ss)
 | _ => none

def ownSh (objs : List (Nat × Ob)) (id : Nat) : Option (Nat × Sh) :=
 match oget objs id with
 | some (.own sz _) => some (id, .own sz)
 | some (.mp _) => some (id, .mp)
 | some (.arr kd m _) => some (id, .arr kd m)
 | _ => none

def Zq1 (Sg : FuncId → Sig) (Sv : TypeId → Sig) (body : Code) (st : St) : LoopSpec :=
 let slots := (Zq0 (Zap body)).filterMap (slotSh st)
 let wr := Zq0 (Zt4 Sg Sv (opsIn body) st (opsIn body))
 let boxes := wr.filterMap (boxSh st.objs)
 let br := Zt5 st slots boxes
 let owns := (wr.filter fun id => !hasN br id).filterMap (ownSh st.objs)
 { slots := slots, boxes := boxes, owns := owns, fixed := (st.objs.map (·.1)).filter fun id => !hasN br id && !hasN (boxes.map (·.1)) id && !hasN (owns.map (·.1)) id }

def ownMs (ss : List Sh) : List Bool := ss.map Sh.isOwn

def Zfx (st : St) : List (Nat × Bool × List Sh) → Option (List SV × List (Option Nat × Nat))
 | [] => some ([], [])
 | (t, ag, ss) :: r => match (match ag, lget st.tmps t with
   | true, .agg cs => bif Nat.beq (lenN cs) ss.length then Zba st.objs (128 * t + 95) 0 (ownMs ss) cs else none
   | false, c => bif Nat.beq ss.length 1 then Zba st.objs (128 * t + 95) 0 (ownMs ss) [c] else none
   | _, _ => none), Zfx st r with
  | some (d, l), some (ds, ls) => some (d ++ ds, l ++ ls)
  | _, _ => none

def Zdx (objs : List (Nat × Ob)) : List (Nat × List Sh) → Option (List SV × List (Option Nat × Nat))
 | [] => some ([], [])
 | (id, ss) :: r => match (match oget objs id with
   | some (.box cs) => bif Nat.beq (lenN cs) ss.length then Zba objs id 0 (ownMs ss) cs else none
   | _ => none), Zdx objs r with
  | some (d, l), some (ds, ls) => some (d ++ ds, (some id, id) :: l ++ ls)
  | _, _ => none

def Zfc (objs : List (Nat × Ob)) : List (Nat × Sh) → Option (List SV × List (Option Nat × Nat))
 | [] => some ([], [])
 | (id, _) :: r => match (match oget objs id with
   | some (.own sz rows) => some (.slice sz rows 0)
   | some (.mp es) => some (.mapv es)
   | some (.arr kd m ns) => some (.arr kd m ns)
   | _ => none), Zfc objs r with
  | some d, some (ds, ls) => some (d :: ds, (some id, id) :: ls)
  | _, _ => none

def Zaw (st : St) (sp : LoopSpec) : List Nat :=
 sp.slots.flatMap (fun p => match lget st.tmps p.1 with | .agg cs => Zf8 (ownMs p.2.2) cs | c => Zf8 (ownMs p.2.2) [c]) ++
 sp.boxes.flatMap (fun p => match oget st.objs p.1 with | some (.box cs) => Zf8 (ownMs p.2) cs | _ => [])

def Zdy (sp : LoopSpec) (st : St) : Option (List SV × List (Option Nat × Nat)) :=
 match Zfx st sp.slots, Zdx st.objs sp.boxes, Zfc st.objs sp.owns with
 | some (d1, l1), some (d2, l2), some (d3, l3) => some (d1 ++ d2 ++ d3, l1 ++ l2 ++ l3)
 | _, _, _ => none

def keepV (ids : List Nat) (s : SV) : SV :=
 bif Za1 s then s else match s with
 | .ptr id off => bif hasN ids id then .ptr id off else .unk
 | .osl id => bif hasN ids id then .osl id else .unk
 | .omp id => bif hasN ids id then .omp id else .unk
 | _ => .unk

def keepL (ids : List Nat) : List SV → List SV
 | [] => []
 | c :: cs => keepV ids c :: keepL ids cs

def Zat (ids : List Nat) (objs : List (Nat × Ob)) : List Nat → Option (List (List SV))
 | [] => some []
 | id :: r => match (match oget objs id with
   | some (.box cs) => some (keepL ids cs)
   | some (.own sz rows) => some [.gd 0 true (.slice sz rows 0)]
   | some (.mp es) => some [.gd 0 true (.mapv es)]
   | some (.arr kd m ns) => some [.gd 0 true (.arr kd m ns)]
   | none => none), Zat ids objs r with
  | some cs, some rest => some (cs :: rest)
  | _, _ => none

def keptV : SV → SV → Bool
 | .ptr id off, .ptr id' off' => Nat.beq id id' && Nat.beq off off'
 | .ptr _ _, _ => false
 | .osl id, .osl id' => Nat.beq id id'
 | .osl _, _ => false
 | .omp id, .omp id' => Nat.beq id id'
 | .omp _, _ => false
 | _, _ => true

def Zay (wr ids : List Nat) : Nat → List SV → List SV
 | _, [] => []
 | t, s :: ss => (bif hasN wr t then .unk else keepV ids s) :: Zay wr ids (t + 1) ss

def Za2 : List SV → List SV → Bool
 | [], [] => true
 | s :: ss, s' :: ss' => keptV s s' && Za2 ss ss'
 | _, _ => false

def Zko : List (Nat × Bool × List Sh) → List SV → List SV → Option (List SV × List (Nat × Ob) × List SV)
 | [], vs, tm => some (tm, [], vs)
 | (t, ag, ss) :: r, vs, tm => match Za6 (128 * t + 95) 0 (ownMs ss) (takeN ss.length vs) with
  | some (cs, os) => match Zko r (dropN ss.length vs) (lset tm t (match ag, cs with | false, [c] => c | _, cs => .agg cs)) with
   | some (tm', os', vs') => some (tm', os ++ os', vs')
   | none => none
  | none => none

def Zkp : List (Nat × List Sh) → List SV → Option (List (Nat × Ob) × List SV)
 | [], vs => some ([], vs)
 | (id, ss) :: r, vs => match Za6 id 0 (ownMs ss) (takeN ss.length vs), Zkp r (dropN ss.length vs) with
  | some (cs, os), some (os', vs') => some ((id, .box cs) :: os ++ os', vs')
  | _, _ => none

def ownHA (id : Nat) : SV → Option (SV × Ob)
 | .arr kd m ns => some (.ptr id 0, .arr kd m ns)
 | v => ownH id v

def Zlv : List (Nat × Sh) → List SV → Option (List (Nat × Ob))
 | [], _ => some []
 | (id, _) :: r, v :: vs => match ownHA id v, Zlv r vs with
  | some (_, o), some os => some ((id, o) :: os)
  | _, _ => none
 | _ :: _, [] => none

def Zlw (ids : List Nat) : Ob → Ob
 | .box cs => .box (keepL ids cs)
 | o => o

def Zkq (ids : List Nat) (objs : List (Nat × Ob)) : List Nat → List (Nat × Ob)
 | [] => []
 | id :: r => match oget objs id with
  | some o => (id, Zlw ids o) :: Zkq ids objs r
  | none => Zkq ids objs r

def Zah (sp : LoopSpec) : List Nat := sp.boxes.map (·.1) ++ sp.owns.map (·.1) ++ sp.fixed

def Zgi (sp : LoopSpec) (wr : List Nat) (st : St) (vs : List SV) : Option St :=
 match Zko sp.slots vs (Zay wr (Zah sp) 0 st.tmps) with
 | some (tm, os1, vs1) => match Zkp sp.boxes vs1 with
  | some (os2, vs2) => match Zlv sp.owns vs2 with
   | some os3 => some { tmps := tm, objs := os1 ++ os2 ++ os3 ++ Zkq (Zah sp) st.objs sp.fixed }
   | none => none
  | none => none
 | none => none

def Zci (sp : LoopSpec) (wr : List Nat) (ids : List (Option Nat × Nat)) : Bool :=
 Zcd (sp.slots.map (·.1)) && sp.slots.all (fun p => hasN wr p.1) && Zcd (ids.filterMap (·.1) ++ sp.fixed) && Zcd (ids.map (·.2) ++ sp.fixed) && ids.all (fun p => idOK p.2 || (match p.1 with | some id => Nat.beq id p.2 | none => false)) &&
 sp.slots.all (fun p => Nat.ble p.2.2.length 30) && Zcd (sp.slots.flatMap (fun p => (List.range p.2.2.length).map fun j => 128 * p.1 + 96 + j) ++
  sp.boxes.flatMap (fun p => p.1 :: (List.range p.2.length).map fun j => p.1 + 1 + j) ++ sp.owns.map (·.1) ++ sp.fixed)

inductive Ex where
 | normal
 | exit (id : Nat)
 | ret

def setP : List (Nat × Nat) → List SV → List SV
 | [], tm => tm
 | (t, id) :: r, tm => setP r (lset tm t (.ptr id 0))

def unP (ps : List (Nat × Nat)) (wr : List Nat) : List Nat := wr.filter fun t => !(hasN (ps.map (·.1)) t)

def cutC (sp : LoopSpec) (wr : List Nat) (st : St) (run : (St → Prop) → Prop) (K : St → Prop) : Prop :=
 bif (Zat (Zah sp) st.objs sp.fixed).isSome then
  ∃ (I : ITy (Za3 sp) Prop) (m : ITy (Za3 sp) Nat), run (fun st1 => match Zdy sp (St.frzAll (Zaw st1 sp) st1) with
    | none => False
    | some (vals', ids') => bif Zci sp (unP sp.ptrs wr) ids' && Za2 (Zay (unP sp.ptrs wr) (Zah sp) 0 (setP sp.ptrs st.tmps)) (St.frzAll (Zaw st1 sp) st1).tmps then
      Zat (Zah sp) (St.frzAll (Zaw st1 sp) st1).objs sp.fixed = Zat (Zah sp) st.objs sp.fixed ∧ Zb1 (Za3 sp) I vals' (fun p => p) else False) ∧
   allI (Za3 sp) I m fun vs _ => match Zgi sp (unP sp.ptrs wr) { st with tmps := setP sp.ptrs st.tmps } vs with
    | none => False
    | some hd => K hd
 else False

def Zx4 : Operand → Nat
 | .tmp t => 4000000 + t
 | _ => 3999999

def vc (P : Program) (Sg : FuncId → Sig) (Sv : TypeId → Sig) (L : Nat → Option LoopSpec) : Code → St → (Ex → St → Prop) → Prop
 | .skip, st, Q => Q .normal st
 | .region id ops false, st, Q => match L (1000000 + id) with
   | none => vcOps P Sg Sv ops ops.toList st (Q .normal)
   | some sp => cutC sp (ops.toList.filterMap (·.dst)) st (fun K => vcOps P Sg Sv ops ops.toList st K) (Q .normal)
 | .region id ops true, st, Q => bif P.follows .mixedOrders && Zht ops then match L (1000000 + id) with
   | none => vcAny P Sg Sv ops (ops.size + 1) (Array.replicate ops.size false) st (Q .normal)
   | some sp => cutC sp (ops.toList.filterMap (·.dst)) st (fun K => vcAny P Sg Sv ops (ops.size + 1) (Array.replicate ops.size false) st K) (Q .normal)
  else False
 | .seq a b, st, Q => vc P Sg Sv L a st fun e st' => match e with
  | .normal => vc P Sg Sv L b st' Q
  | e => Q e st'
 | .cond c x y, st, Q => match ungd [] (ev st c) with
  | .val (.bool b) => match L (Zx4 c) with
   | none => ifB b (vc P Sg Sv L x st Q) (vc P Sg Sv L y st Q)
   | some sp => cutC sp (Zap x ++ Zap y) st (fun K => ifB b (vc P Sg Sv L x st fun e st' => match e with
     | .normal => K st'
     | .exit i => Q (.exit i) st'
     | .ret => Q .ret st') (vc P Sg Sv L y st fun e st' => match e with
     | .normal => K st'
     | .exit i => Q (.exit i) st'
     | .ret => Q .ret st')) (Q .normal)
  | _ => False
 | .block id body, st, Q => match L (2000000 + id) with
  | none => vc P Sg Sv L body st fun e st' => match e with
   | .exit i => bif Nat.beq i id then Q .normal st' else Q (.exit i) st'
   | e => Q e st'
  | some sp => cutC sp (Zap body) st (fun K => vc P Sg Sv L body st fun e st' => match e with
   | .normal => K st'
   | .exit i => bif Nat.beq i id then K st' else Q (.exit i) st'
   | .ret => Q .ret st') (Q .normal)
 | .loop body, st00, Q => let sp := (L (Zt2 body)).getD (Zq1 Sg Sv body st00)
   let wr := Zap body
   let st := St.frzAll (Zaw st00 sp) st00
   match Zdy sp st with
   | none => False
   | some (vals, ids) => bif Zci sp wr ids && (Zat (Zah sp) st.objs sp.fixed).isSome then ∃ (I : ITy (Za3 sp) Prop) (m : ITy (Za3 sp) Nat), Zb1 (Za3 sp) I vals (fun p => p) ∧
     allI (Za3 sp) I m fun vs k => match Zgi sp wr st vs with
      | none => False
      | some hd => vc P Sg Sv L body hd fun e st1 => match e with
       | .normal => match Zdy sp (St.frzAll (Zaw st1 sp) st1) with
        | none => False
        | some (vals', ids') => bif Zci sp wr ids' && Za2 (Zay wr (Zah sp) 0 st.tmps) (St.frzAll (Zaw st1 sp) st1).tmps then
          Zat (Zah sp) (St.frzAll (Zaw st1 sp) st1).objs sp.fixed = Zat (Zah sp) st.objs sp.fixed ∧ Zb1 (Za3 sp) I vals' (fun p => p) ∧ Zb1 (Za3 sp) m vals' (fun k' => k' < k) else False
       | e => Q e st1 else False
 | .exit id, st, Q => Q (.exit id) st
 | .ret, st, Q => Q .ret st
 | _, _, _ => False

def Zwk (P : Program) (t : TypeId) (x : SV) (objs : List (Nat × Ob)) : Option SV :=
 match x with
 | .ptr id 0 => match oget objs id, bigT P t with
  | some (.arr kd m ns), some (kd', m') => bif decide (kd = kd') && Nat.beq m m' then some (.arr kd m ns) else none
  | _, _ => none
 | _ => none

def resOf (P : Program) (st : St) : ResultVar → Option SV
 | .tmp t => match ungd [] (lget st.tmps t) with
  | .unk => none
  | s => some s
 | .cell t ty => match Zwk P ty (ungd [] (lget st.tmps t)) st.objs with
  | some s => some s
  | none => Zqh P ty (ungd [] (lget st.tmps t)) st.objs

def Zlx (P : Program) (st : St) : List ResultVar → Option (List SV)
 | [] => some []
 | r :: rs => match resOf P st r, Zlx P st rs with
  | some s, some ss => some (s :: ss)
  | _, _ => none

def Zt6 : Nat → List Md → List SV
 | _, [] => []
 | i, .lend _ :: r => .ptr (pId i) 0 :: Zt6 (i + 1) r
 | i, _ :: r => Zt6 (i + 1) r

def Zec (P : Program) (objs : List (Nat × Ob)) (pts : List TypeId) : Nat → List Md → Option (List SV × List (Option Nat × Nat))
 | _, [] => some ([], [])
 | i, .lend ms :: r => match Zfu objs (pId i) (.lend ms) (.ptr (pId i) 0), Zec P objs pts (i + 1) r with
  | some (d, l), some (ds, ls) => some (normM P (.lend ms) (pts.getD i 0) d :: ds, l ++ ls)
  | _, _ => none
 | i, _ :: r => Zec P objs pts (i + 1) r

def Zkr (objs : List (Nat × Ob)) : Nat → List Md → List Nat
 | _, [] => []
 | i, .lend ms :: r => Zwf objs (.lend ms) (.ptr (pId i) 0) ++ Zkr objs (i + 1) r
 | i, _ :: r => Zkr objs (i + 1) r

def Zq2 (l : List (Option Nat × Nat)) (ids : List Nat) : Bool :=
 ids.all fun id => l.any fun p => (match p.1 with | some k => Nat.beq k id | none => false) && Nat.beq p.2 id

def finC (P : Program) (fn : Func) (sg : Sig) (Q : List SV → Prop) (st0 : St) : Prop :=
 match Zlx P st0 fn.results.toList with
 | none => False
 | some ss0 => let st := St.frzAll (Zej st0.objs sg.rs 0 ss0 ++ Zkr st0.objs 0 sg.ps) st0
  match Zlx P st fn.results.toList with
  | none => False
  | some ss => match Zbd P st.objs rId sg.rs 0 fn.resultTypes.toList ss, Zec P st.objs fn.params.toList 0 sg.ps with
   | some (rs, l1), some (ls, l2) => bif Zcd ((l1 ++ l2).filterMap (·.1)) && Zcd ((l1 ++ l2).map (·.2)) && Zq2 l2 (Zdu 0 sg.ps) then Q (rs ++ ls) else False
   | _, _ => False

def St.close (st : St) (t id sz : Nat) (rows : List (List SV)) : St :=
 { tmps := lset (st.bind id (.own sz rows)).tmps t (.osl id), objs := (st.bind id (.own sz rows)).objs }

def Zks : List ResultVar → St → (St → Prop) → Prop
 | [], st, K => K st
 | .tmp t :: rs, st, K => match lget st.tmps t with
  | .osv id (.ofNat 0) h _ => match oget st.objs id with
   | some (.own sz rows) => bif idOK id then h ≤ rlen rows ∧ Zks rs (st.close t id sz (rsub rows 0 h)) K else False
   | _ => False
  | _ => Zks rs st K
 | .cell _ _ :: rs, st, K => Zks rs st K

def fin (P : Program) (fn : Func) (sg : Sig) (Q : List SV → Prop) : Ex → St → Prop
 | .normal, st | .ret, st => Zks fn.results.toList st (finC P fn sg Q)
 | _, _ => False

def start (fn : Func) (sg : Sig) (args : List SV) : St :=
 match argsH pId sg.ps 0 args with
 | some (hs, os) => { tmps := hs ++ List.replicate (fn.ntmps - hs.length) .unk, objs := os }
 | none => { tmps := [], objs := [] }

def Zq3 (L : Nat → Option LoopSpec) (fn : Func) (sg : Sig) (args : List SV) : St :=
 bif (L 3000003).isSome then (start fn sg args).bind 6 (.own 0 []) else
 bif (L 3000002).isSome then (start fn sg args).bind 5 (.own 0 []) else
 bif (L 3000001).isSome then (start fn sg args).bind 4 (.own 0 []) else
 bif (L 3000000).isSome then (start fn sg args).bind 3 (.own 0 []) else start fn sg args

def vcF (P : Program) (Sg : FuncId → Sig) (Sv : TypeId → Sig) (L : Nat → Option LoopSpec) (fn : Func) (sg : Sig) (args : List SV) (Q : List SV → Prop) : Prop :=
 match fn.body with
 | some c => vc P Sg Sv L c (Zq3 L fn sg args) (fin P fn sg Q)
 | none => False

/- Code that goes over an iterator. -/

def hasRF : Code → Bool
 | .rangeFunc .. => true
 | .seq a b => hasRF a || hasRF b
 | .block _ b => hasRF b
 | _ => false

def front : Code → Code
 | .seq x y => bif hasRF x then front x else .seq x (front y)
 | _ => .skip

def rfOf : Code → Code
 | .seq x y => bif hasRF x then rfOf x else rfOf y
 | c => c

def tlOf : Code → Code
 | .seq x y => bif hasRF x then y else tlOf y
 | _ => .skip

def rfBack (nt : Nat) (fid : FuncId) (tf tn : Nat) (st : St) (K : St → Prop) : Prop :=
 bif Nat.beq (lenN st.tmps) nt then match lget st.tmps tf with
 | .clo f cs => match lget st.tmps tn with
   | .ptr id 0 => match oget st.objs id with
     | some (.box [.val (.int .u64 n)]) => ∃ rows, f = fid ∧ cs = [.ref 0 [.slice 1 rows 0]] ∧ Zc8 rows ∧ 0 < rlen rows ∧ rlen rows ≤ 100 ∧ K { st with objs := oput st.objs id (.box [.val (.int .u64 (ufold n rows))]) }
     | _ => False
   | _ => False
 | _ => False else False

def vcB (P : Program) (Sg : FuncId → Sig) (Sv : TypeId → Sig) (L : Nat → Option LoopSpec) (fn : Func) (sg : Sig) (args : List SV) (Q : List SV → Prop) (fid : FuncId) (tf tn : Nat) : Prop :=
 match fn.body with
 | some c => vc P Sg Sv L (front c) (start fn sg args) (fun e st => match e with
   | .normal => rfBack fn.ntmps fid tf tn st (fun st => vc P Sg Sv L (tlOf c) st (fin P fn sg Q))
   | .exit id => fin P fn sg Q (.exit id) st
   | .ret => fin P fn sg Q .ret st)
 | none => False

/- Loops over slices.Backward. -/

def noDef (ops : Array Oper) : Bool := ops.toList.all fun o => match o.op with | .defer _ => false | _ => true

def rndOK : Code → Bool
 | .skip => true
 | .region _ ops _ => noDef ops
 | .seq x y => rndOK x && rndOK y
 | .cond _ x y => rndOK x && rndOK y
 | .block _ b => rndOK b
 | .exit _ => true
 | .ret => true
 | _ => false

def zeroI : (ss : List Sh) → ITy ss Nat
 | [] => (0 : Nat)
 | _ :: ss => fun _ => zeroI ss

def rowD (ag : Bool) (r : List SV) : SV := bif ag then .agg r else match r with
 | [c] => c
 | _ => .unk

def Zt7 (sp : LoopSpec) (wr : List Nat) (st : St) (I : ITy (Za3 sp) Prop) (st1 : St) : Prop :=
 match Zdy sp (St.frzAll (Zaw st1 sp) st1) with
 | none => False
 | some (vals', ids') => bif Zci sp wr ids' && Za2 (Zay wr (Zah sp) 0 st.tmps) (St.frzAll (Zaw st1 sp) st1).tmps then
   Zat (Zah sp) (St.frzAll (Zaw st1 sp) st1).objs sp.fixed = Zat (Zah sp) st.objs sp.fixed ∧ Zb1 (Za3 sp) I vals' (fun p => p) else False

def vcI1 (P : Program) (Sg : FuncId → Sig) (Sv : TypeId → Sig) (fid : FuncId) (e : TypeId) (sp : LoopSpec) (wr : List Nat) (g : Operand) (ps : Array Tmp) (assign body : Code) (st : St) (K : St → Prop) : Prop :=
 match ungd [] (ev st g), ps.toList, sp.slots with
 | .clo f cl, [p, q], [] => match Zdy sp st with
  | some (vals, ids) => match szT P e with
   | some z => bif (Zbb P e || Nat.beq z 1) && rndOK assign && rndOK body && !(Nat.beq p q) && Nat.blt p (lenN st.tmps) && Nat.blt q (lenN st.tmps) && Zci sp wr ids && (Zat (Zah sp) st.objs sp.fixed).isSome then
     ∃ rows, f = fid ∧ cl = [.ref 0 [.slice z rows 0]] ∧ rlen rows ≤ 2147483648 ∧ ∃ (I : Int → ITy (Za3 sp) Prop), Zb1 (Za3 sp) (I 0) vals (fun p => p) ∧
      (∀ k : Int, 0 ≤ k → k < rlen rows → allI (Za3 sp) (I k) (zeroI _) fun vs _ => match Zgi sp wr st vs with
       | none => False
       | some hd => Za8 P 8 e fun cs => rget rows (kdn (rlen rows) k) = cs ∧
         vc P Sg Sv (fun _ => none) assign { hd with tmps := lset (lset hd.tmps p (.val (.int .i64 (kdn (rlen rows) k)))) q (rowD (Zbb P e) cs) } fun ex st1 => match ex with
          | .normal => vc P Sg Sv (fun _ => none) body st1 fun ex st2 => match ex with
           | .normal => Zt7 sp wr st (I (kup k)) st2
           | _ => False
          | _ => False) ∧
      allI (Za3 sp) (I (rlen rows)) (zeroI _) fun vs _ => match Zgi sp wr st vs with
       | none => False
       | some hd => K hd
    else False
   | none => False
  | none => False
 | _, _, _ => False

def vcI (P : Program) (Sg : FuncId → Sig) (Sv : TypeId → Sig) (fid : FuncId) (e : TypeId) (sp : LoopSpec) (g : Operand) (ps : Array Tmp) (assign body : Code) (st00 : St) (K : St → Prop) : Prop :=
 vcI1 P Sg Sv fid e sp (ps.toList ++ (Zap assign ++ Zap body)) g ps assign body (St.frzAll (Zaw st00 sp) st00) K

def vcR (P : Program) (Sg : FuncId → Sig) (Sv : TypeId → Sig) (L : Nat → Option LoopSpec) (It : Nat → Option (FuncId × TypeId)) : Code → St → (Ex → St → Prop) → Prop
 | .seq x y, st, Q => bif hasRF x || hasRF y then vcR P Sg Sv L It x st (fun e st' => match e with
   | .normal => vcR P Sg Sv L It y st' Q
   | e => Q e st') else vc P Sg Sv L (.seq x y) st Q
 | .block id b, st, Q => bif hasRF b then vcR P Sg Sv L It b st (fun e st' => match e with
   | .exit i => bif Nat.beq i id then Q .normal st' else Q (.exit i) st'
   | e => Q e st') else vc P Sg Sv L (.block id b) st Q
 | .rangeFunc g ps assign body, st, Q => match L (5000000 + ps.toList.headD 0), It (ps.toList.headD 0) with
  | some sp, some (fid, e) => vcI P Sg Sv fid e sp g ps assign body st (Q .normal)
  | _, _ => False
 | c, st, Q => vc P Sg Sv L c st Q

def vcFR (P : Program) (Sg : FuncId → Sig) (Sv : TypeId → Sig) (L : Nat → Option LoopSpec) (It : Nat → Option (FuncId × TypeId)) (fn : Func) (sg : Sig) (args : List SV) (Q : List SV → Prop) : Prop :=
 match fn.body with
 | some c => vcR P Sg Sv L It c (start fn sg args) (fin P fn sg Q)
 | none => False

/- Loops over iterators of the program's own. -/

structure ItT where
 caps : List (List SV) → List SV
 cnt : List (List SV) → Int
 ys : List (List SV) → Int → SV

def itGrp : ItT := ⟨fun rows => [.ref 0 [.slice 3 rows 0]], grpN, fun rows k => .slice 3 (grpAt rows k) 1⟩

def cutsR (L : Nat → Option LoopSpec) (k : Nat) : Option LoopSpec := bif Nat.blt k 2000000 then L k else none

def vcG1 (P : Program) (Sg : FuncId → Sig) (Sv : TypeId → Sig) (L : Nat → Option LoopSpec) (fid : FuncId) (it : ItT) (sp : LoopSpec) (wr : List Nat) (g : Operand) (ps : Array Tmp) (assign body : Code) (st : St) (K Kr : St → Prop) : Prop :=
 match ungd [] (ev st g), ps.toList, sp.slots with
 | .clo f cl, [q], [] => match Zdy sp st with
  | some (vals, ids) =>
   bif rndOK assign && rndOK body && Nat.blt q (lenN st.tmps) && Zci sp wr ids && (Zat (Zah sp) st.objs sp.fixed).isSome then
       f = fid ∧ ∃ rows, cl = it.caps rows ∧ ∃ (I : Int → ITy (Za3 sp) Prop) (R : ITy (Za3 sp) Prop), Zb1 (Za3 sp) (I 0) vals (fun p => p) ∧
        (∀ k : Int, 0 ≤ k → k < it.cnt rows → allI (Za3 sp) (I k) (zeroI _) fun vs _ => match Zgi sp wr st vs with
         | none => False
         | some hd => vc P Sg Sv (cutsR L) assign { hd with tmps := lset hd.tmps q (it.ys rows k) } fun ex st1 => match ex with
            | .normal => vc P Sg Sv (cutsR L) body st1 fun ex st2 => match ex with
             | .normal => Zt7 sp wr st (I (kup k)) st2
             | .ret => Zt7 sp wr st R st2
             | .exit _ => False
            | _ => False) ∧
        (allI (Za3 sp) (I (it.cnt rows)) (zeroI _) fun vs _ => match Zgi sp wr st vs with
         | none => False
         | some hd => K hd) ∧
        allI (Za3 sp) R (zeroI _) fun vs _ => match Zgi sp wr st vs with
         | none => False
         | some hd => Kr hd
    else False
  | none => False
 | _, _, _ => False

def vcG0 (P : Program) (Sg : FuncId → Sig) (Sv : TypeId → Sig) (L : Nat → Option LoopSpec) (fid : FuncId) (it : ItT) (sp : LoopSpec) (g : Operand) (ps : Array Tmp) (assign body : Code) (st00 : St) (K Kr : St → Prop) : Prop :=
 vcG1 P Sg Sv L fid it sp (ps.toList ++ (Zap assign ++ Zap body)) g ps assign body (St.frzAll (Zaw st00 sp) st00) K Kr

def vcG (P : Program) (Sg : FuncId → Sig) (Sv : TypeId → Sig) (L : Nat → Option LoopSpec) (It : Nat → Option (FuncId × ItT)) : Code → St → (Ex → St → Prop) → Prop
 | .seq x y, st, Q => bif hasRF x || hasRF y then vcG P Sg Sv L It x st (fun e st' => match e with
   | .normal => vcG P Sg Sv L It y st' Q
   | e => Q e st') else vc P Sg Sv L (.seq x y) st Q
 | .block id b, st, Q => bif hasRF b then vcG P Sg Sv L It b st (fun e st' => match e with
   | .exit i => bif Nat.beq i id then Q .normal st' else Q (.exit i) st'
   | e => Q e st') else vc P Sg Sv L (.block id b) st Q
 | .rangeFunc g ps assign body, st, Q => match L (5000000 + ps.toList.headD 0), It (ps.toList.headD 0) with
  | some sp, some (fid, it) => vcG0 P Sg Sv L fid it sp g ps assign body st (Q .normal) (Q .ret)
  | _, _ => False
 | c, st, Q => vc P Sg Sv L c st Q

def vcFG (P : Program) (Sg : FuncId → Sig) (Sv : TypeId → Sig) (L : Nat → Option LoopSpec) (It : Nat → Option (FuncId × ItT)) (fn : Func) (sg : Sig) (args : List SV) (Q : List SV → Prop) : Prop :=
 match fn.body with
 | some c => vcG P Sg Sv L It c (start fn sg args) (fin P fn sg Q)
 | none => False

end Go.Px

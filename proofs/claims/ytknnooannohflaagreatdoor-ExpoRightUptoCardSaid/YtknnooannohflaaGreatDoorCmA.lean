/- Layers 1, 11 to 14: what the functions of packages count, window, bucket, hist and comp, and of their references, do with plain data: the conditions. -/
import Derived.Test.YtknnooannohflaaGreatDoorEvA
namespace Go.Proofs.YtknnooannohflaaGreatDoor.Cmp
open Go Go.Px Go.Proofs
set_option maxRecDepth 100000
set_option linter.unusedVariables false

def SgT : FuncId → Sig := (fun f => bif Nat.beq f 183 then ⟨[], [.own]⟩ else {})
def SvT : TypeId → Sig := fun _ => {}
abbrev win3 (wd sl : Int) (cl : List (List SV)) : SV := .agg [I wd, I sl, SL 2 cl]
abbrev his10 (h0 h1 h2 h3 h4 h5 h6 h7 h8 hs : Int) : SV := .agg [I h0, I h1, I h2, I h3, I h4, I h5, I h6, I h7, I h8, I hs]
abbrev bkt2 (rm hs : Int) : SV := .agg [I rm, I hs]
abbrev cmp21 (nm : ByteArray) (ro mo wd sl : Int) (cl : List (List SV)) (h0 h1 h2 h3 h4 h5 h6 h7 h8 hs rm ha c0 c1 c2 : Int) : SV := .agg [S nm, I ro, I mo, I wd, I sl, SL 2 cl, I h0, I h1, I h2, I h3, I h4, I h5, I h6, I h7, I h8, I hs, I rm, I ha, I c0, I c1, I c2]




def holdI (n : Int) : Int := max 0 (min n 1099511627776)
def upI (a b : Int) : Int := holdI (holdI a + holdI b)
def heldP (n : Int) : Prop := 0 ≤ n ∧ n ≤ 1099511627776
instance (n : Int) : Decidable (heldP n) := inferInstanceAs (Decidable (0 ≤ n ∧ n ≤ 1099511627776))
def bktP (rm ha : Int) : Prop := 0 ≤ rm ∧ rm ≤ 2147483647 ∧ 0 ≤ ha ∧ ha ≤ rm
instance (rm ha : Int) : Decidable (bktP rm ha) := inferInstanceAs (Decidable (_ ∧ _))
def bnewR (rm ha : Int) : List SV := if bktP rm ha then [bkt2 rm ha, I 0] else [bkt2 0 0, I 1]
def takeH (rm ha n : Int) : Int := if bktP rm ha ∧ 0 ≤ n then ha - min n ha else ha
def takeB (rm ha n : Int) : Bool := decide ((bktP rm ha ∧ 0 ≤ n) ∧ n ≤ ha)
def putH (rm ha n : Int) : Int := if bktP rm ha ∧ 0 ≤ n then ha + min n (rm - ha) else ha
/-- The bound at a place of a histogram. -/
def bndI (p : Int) : Int := if p = 0 then 1 else if p = 1 then 2 else if p = 2 then 4 else if p = 3 then 8 else if p = 4 then 16 else if p = 5 then 32 else if p = 6 then 64 else if p = 7 then 128 else 0
def hplI (n : Int) : Int := if n ≤ 1 then 0 else if n ≤ 2 then 1 else if n ≤ 4 then 2 else if n ≤ 8 then 3 else if n ≤ 16 then 4 else if n ≤ 32 then 5 else if n ≤ 64 then 6 else if n ≤ 128 then 7 else 8
theorem c8 {p : Int} (h0 : 0 ≤ p) (h1 : p < 8) : p = 0 ∨ p = 1 ∨ p = 2 ∨ p = 3 ∨ p = 4 ∨ p = 5 ∨ p = 6 ∨ p = 7 := by omega
def hisP (h0 h1 h2 h3 h4 h5 h6 h7 h8 hs : Int) : Prop := heldP h0 ∧ heldP h1 ∧ heldP h2 ∧ heldP h3 ∧ heldP h4 ∧ heldP h5 ∧ heldP h6 ∧ heldP h7 ∧ heldP h8 ∧ heldP hs
instance (h0 h1 h2 h3 h4 h5 h6 h7 h8 hs : Int) : Decidable (hisP h0 h1 h2 h3 h4 h5 h6 h7 h8 hs) := inferInstanceAs (Decidable (_ ∧ _))


def hAt (h0 h1 h2 h3 h4 h5 h6 h7 h8 x : Int) : Int := if x = 0 then h0 else if x = 1 then h1 else if x = 2 then h2 else if x = 3 then h3 else if x = 4 then h4 else if x = 5 then h5 else if x = 6 then h6 else if x = 7 then h7 else h8
/-- A count of a histogram, when a number is added. -/
def hcI (n k v : Int) : Int := if hplI n = k then upI v 1 else v
def haddS (h0 h1 h2 h3 h4 h5 h6 h7 h8 hs n : Int) : SV := if hisP h0 h1 h2 h3 h4 h5 h6 h7 h8 hs ∧ 0 ≤ n then his10 (hcI n 0 h0) (hcI n 1 h1) (hcI n 2 h2) (hcI n 3 h3) (hcI n 4 h4) (hcI n 5 h5) (hcI n 6 h6) (hcI n 7 h7) (hcI n 8 h8) (upI hs n) else his10 h0 h1 h2 h3 h4 h5 h6 h7 h8 hs


abbrev cR (l : List (Int × Int)) : List (List SV) := l.map fun c => [I c.1, I c.2]
def ceAt (l : List (Int × Int)) (i : Int) : Int × Int := l.getD i.toNat (0, 0)
def timP (n : Int) : Prop := 0 ≤ n ∧ n ≤ 1099511627776
instance (n : Int) : Decidable (timP n) := inferInstanceAs (Decidable (_ ∧ _))
def cellsP (l : List (Int × Int)) : Prop := ∀ c ∈ l, heldP c.1 ∧ heldP c.2
instance (l : List (Int × Int)) : Decidable (cellsP l) := inferInstanceAs (Decidable (∀ c ∈ l, heldP c.1 ∧ heldP c.2))
def winP (wd sl : Int) (cl : List (Int × Int)) : Prop := (1 ≤ wd ∧ wd ≤ 2147483647) ∧ timP sl ∧ (1 ≤ cl.length ∧ cl.length ≤ 16) ∧ cellsP cl
instance (wd sl : Int) (cl : List (Int × Int)) : Decidable (winP wd sl cl) := inferInstanceAs (Decidable (_ ∧ _))

def wnewR (wd n a : Int) : List SV := if ((1 ≤ wd ∧ wd ≤ 2147483647) ∧ (1 ≤ n ∧ n ≤ 16)) ∧ timP a then [win3 wd (a / wd) (cR (List.replicate n.toNat (0, 0))), I 0] else [win3 0 0 [], I 1]
/-- The while that a place stands for, when the window is at a slot. -/
def kk (slot n p : Int) : Int := slot - (slot - p) % n
/-- The cells of a window that goes on to a slot. -/
def mvL (sl slot : Int) (cl : List (Int × Int)) : List (Int × Int) := (List.range cl.length).map fun p : Nat => if sl < kk slot cl.length p then (0, 0) else cl.getD p (0, 0)
def wmoveR (wd sl : Int) (cl : List (Int × Int)) (a : Int) : List SV :=
  if winP wd sl cl ∧ timP a then (if a / wd ≤ sl then [win3 wd sl (cR cl), I 0] else [win3 wd (a / wd) (cR (mvL sl (a / wd) cl)), I 0]) else [win3 wd sl (cR cl), I 1]


def getS (sl : Int) (cl : List (Int × Int)) (p : Int) : Int × Int := if (sl < p ∨ p ≤ sl - cl.length) ∨ p < 0 then (0, 0) else ceAt cl (p % cl.length)
/-- A cell, when something is counted in it. -/
def ceU (c : Int × Int) (ok : Bool) : Int × Int := if ok = true then (upI c.1 1, c.2) else (c.1, upI c.2 1)
def addL (cl : List (Int × Int)) (i : Int) (ok : Bool) : List (Int × Int) := cl.set i.toNat (ceU (ceAt cl i) ok)
/-- A window to which something is added that may be. -/
def wadS (wd sl : Int) (cl : List (Int × Int)) (a : Int) (ok : Bool) : Int × List (Int × Int) :=
  if a / wd ≤ sl then (if a / wd ≤ sl - cl.length then (sl, cl) else (sl, addL cl ((a / wd) % cl.length) ok)) else (a / wd, addL (mvL sl (a / wd) cl) ((a / wd) % cl.length) ok)
def waddR (wd sl : Int) (cl : List (Int × Int)) (a : Int) (ok : Bool) : List SV :=
  if winP wd sl cl ∧ timP a then [win3 wd (wadS wd sl cl a ok).1 (cR (wadS wd sl cl a ok).2), I 0] else [win3 wd sl (cR cl), I 1]


structure CoD where
  nm : ByteArray
  ro : Int
  mo : Int
  wd : Int
  sl : Int
  cl : List (Int × Int)
  h0 : Int
  h1 : Int
  h2 : Int
  h3 : Int
  h4 : Int
  h5 : Int
  h6 : Int
  h7 : Int
  h8 : Int
  hs : Int
  rm : Int
  ha : Int
  c0 : Int
  c1 : Int
  c2 : Int

abbrev CoD.sv (c : CoD) : SV := cmp21 c.nm c.ro c.mo c.wd c.sl (cR c.cl) c.h0 c.h1 c.h2 c.h3 c.h4 c.h5 c.h6 c.h7 c.h8 c.hs c.rm c.ha c.c0 c.c1 c.c2
structure EvD where
  s : Int
  a : Int
  k : Int
  c : ByteArray
  x : Int
  y : Int
  z : Int
abbrev EvD.sv (e : EvD) : SV := ev7 e.s e.a e.k e.c e.x e.y e.z

def CoD.his (c : CoD) : Prop := hisP c.h0 c.h1 c.h2 c.h3 c.h4 c.h5 c.h6 c.h7 c.h8 c.hs
instance (c : CoD) : Decidable c.his := inferInstanceAs (Decidable (hisP _ _ _ _ _ _ _ _ _ _))
def CoD.his0 (c : CoD) : Prop := (c.h0 = 0 ∧ c.h1 = 0 ∧ c.h2 = 0 ∧ c.h3 = 0 ∧ c.h4 = 0 ∧ c.h5 = 0 ∧ c.h6 = 0 ∧ c.h7 = 0 ∧ c.h8 = 0) ∧ c.hs = 0
instance (c : CoD) : Decidable c.his0 := inferInstanceAs (Decidable (_ ∧ _))
def CoD.bare (c : CoD) : Prop := c.wd = 0 ∧ c.sl = 0 ∧ c.cl = []
instance (c : CoD) : Decidable c.bare := inferInstanceAs (Decidable (_ ∧ _))
def CoD.roleP (c : CoD) : Prop :=
  if c.ro = 1 then ((0 ≤ c.mo ∧ c.mo ≤ 2) ∧ winP c.wd c.sl c.cl) ∧ c.his ∧ (c.rm = 0 ∧ c.ha = 0)
  else if c.ro = 2 then ((c.mo = 0 ∧ c.bare) ∧ c.his0) ∧ bktP c.rm c.ha
  else c.ro = 3 ∧ ((0 ≤ c.mo ∧ c.mo ≤ 2147483647) ∧ c.bare) ∧ c.his ∧ bktP c.rm c.ha
instance (c : CoD) : Decidable c.roleP := by unfold CoD.roleP; infer_instance
def CoD.cntP (c : CoD) : Prop := heldP c.c0 ∧ heldP c.c1 ∧ heldP c.c2
instance (c : CoD) : Decidable c.cntP := inferInstanceAs (Decidable (_ ∧ _))
def CoD.P (c : CoD) : Prop := (namB c.nm = true ∧ c.cntP) ∧ c.roleP
instance (c : CoD) : Decidable c.P := inferInstanceAs (Decidable (_ ∧ _))

def ctAt (c0 c1 c2 x : Int) : Int := if x = 0 then c0 else if x = 1 then c1 else c2

def co0 : CoD := ⟨ByteArray.mk (Array.mk []), 0, 0, 0, 0, [], 0, 0, 0, 0, 0, 0, 0, 0, 0, 0, 0, 0, 0, 0, 0⟩
/-- A new component, and why not. -/
def newC (nm : ByteArray) (ro a : Int) : CoD × Int :=
  if namB nm = false then (co0, 3) else if ¬ (1 ≤ ro ∧ ro ≤ 3) then (co0, 4) else if ¬ timP a then (co0, 5)
  else if ro = 1 then ({ co0 with nm := nm, ro := ro, wd := 10, sl := a / 10, cl := [(0, 0), (0, 0), (0, 0), (0, 0)] }, 0) else ({ co0 with nm := nm, ro := ro, rm := 10, ha := 10 }, 0)

def chkE (e : EvD) : Int := chkI e.s e.a e.k e.c e.x e.y e.z
def cfgP (ro : Int) (e : EvD) : Prop := if ro = 1 then ((1 ≤ e.x ∧ 1 ≤ e.y) ∧ e.y ≤ 16) ∧ e.z = 0 else if ro = 2 then e.y ≤ e.x ∧ e.z = 0 else e.y = 0 ∧ e.z = 0
instance (ro : Int) (e : EvD) : Decidable (cfgP ro e) := by unfold cfgP; infer_instance
/-- Why an event may not be told of a component; 0: it may. -/
def mayI (c : CoD) (e : EvD) : Int :=
  if ¬ c.P then 1 else if chkE e ≠ 0 then chkE e else if e.c ≠ c.nm then 6 else if e.k = 1 then 7 else if roleI e.k ≠ 0 ∧ roleI e.k ≠ c.ro then 8 else if e.k = 2 ∧ ¬ cfgP c.ro e then 4 else 0


def cntC (c : CoD) (i : Int) : CoD := { c with c0 := if i = 0 then upI c.c0 1 else c.c0, c1 := if i = 1 then upI c.c1 1 else c.c1, c2 := if i = 2 then upI c.c2 1 else c.c2 }
def hadC (c : CoD) (n : Int) : CoD := if c.his ∧ 0 ≤ n then { c with h0 := hcI n 0 c.h0, h1 := hcI n 1 c.h1, h2 := hcI n 2 c.h2, h3 := hcI n 3 c.h3, h4 := hcI n 4 c.h4, h5 := hcI n 5 c.h5, h6 := hcI n 6 c.h6, h7 := hcI n 7 c.h7, h8 := hcI n 8 c.h8, hs := upI c.hs n } else c
def winC (c : CoD) (e : EvD) : CoD := { c with sl := (wadS c.wd c.sl c.cl e.a (ieq e.x 0)).1, cl := (wadS c.wd c.sl c.cl e.a (ieq e.x 0)).2 }
def zer (n : Nat) : List (Int × Int) := List.replicate n (0, 0)
/-- What an event that may be told does. -/
def tellC (c : CoD) (e : EvD) : CoD :=
  if e.k = 2 then (if c.ro = 1 then { c with wd := e.x, sl := e.a / e.x, cl := zer e.y.toNat } else if c.ro = 2 then { c with rm := e.x, ha := e.y } else { c with rm := e.x, ha := e.x })
  else if e.k = 3 then cntC (hadC (winC c e) e.y) e.x
  else if e.k = 4 then (if e.x = 0 then { c with mo := e.x, sl := e.a / c.wd, cl := zer c.cl.length } else { c with mo := e.x })
  else if e.k = 5 then cntC { c with ha := takeH c.rm c.ha e.x } 0
  else if e.k = 6 then cntC c 1
  else if e.k = 7 then cntC { c with ha := putH c.rm c.ha e.x } 2
  else if e.k = 8 then cntC { c with mo := e.x, ha := takeH c.rm c.ha 1 } 0
  else if e.k = 9 then cntC (hadC c e.x) 1
  else cntC { c with mo := 0 } 2
def tellR (c : CoD) (e : EvD) : List SV := if mayI c e = 0 then [(tellC c e).sv, I 0] else [c.sv, I (mayI c e)]

/-- What is known when an event may be told. -/
structure MayOK (c : CoD) (e : EvD) : Prop where
  right : c.P
  chk : chkE e = 0
  name : e.c = c.nm
  k1 : e.k ≠ 1
  role : roleI e.k = 0 ∨ roleI e.k = c.ro
  cfg : e.k = 2 → cfgP c.ro e


/-- Where a thing that is told is counted. -/
def plcOK (c : CoD) (e : EvD) (p : Int) (d : CoD) : Prop := (p = -1 ∧ d = tellC c e) ∨ ((0 ≤ p ∧ p < 3) ∧ cntC d p = tellC c e)

def sameP (c d : CoD) : Prop := c.nm = d.nm ∧ c.ro = d.ro ∧ c.mo = d.mo ∧ c.wd = d.wd ∧ c.sl = d.sl ∧ c.cl = d.cl ∧ c.h0 = d.h0 ∧ c.h1 = d.h1 ∧ c.h2 = d.h2 ∧ c.h3 = d.h3 ∧ c.h4 = d.h4 ∧ c.h5 = d.h5 ∧ c.h6 = d.h6 ∧ c.h7 = d.h7 ∧ c.h8 = d.h8 ∧ c.hs = d.hs ∧ c.rm = d.rm ∧ c.ha = d.ha ∧ c.c0 = d.c0 ∧ c.c1 = d.c1 ∧ c.c2 = d.c2
instance (c d : CoD) : Decidable (sameP c d) := by unfold sameP; infer_instance


def tellD (c : CoD) (e : EvD) : CoD := if mayI c e = 0 then tellC c e else c

theorem P1 {c : CoD} (hn : namB c.nm = true) (hc : c.cntP) (hr : c.ro = 1) (h : ((0 ≤ c.mo ∧ c.mo ≤ 2) ∧ winP c.wd c.sl c.cl) ∧ c.his ∧ (c.rm = 0 ∧ c.ha = 0)) : c.P := ⟨⟨hn, hc⟩, by unfold CoD.roleP; rw [if_pos hr]; exact h⟩
theorem P2 {c : CoD} (hn : namB c.nm = true) (hc : c.cntP) (hr : c.ro = 2) (h : ((c.mo = 0 ∧ c.bare) ∧ c.his0) ∧ bktP c.rm c.ha) : c.P := ⟨⟨hn, hc⟩, by unfold CoD.roleP; rw [if_neg (by omega), if_pos hr]; exact h⟩
theorem P3 {c : CoD} (hn : namB c.nm = true) (hc : c.cntP) (hr : c.ro = 3) (h : ((0 ≤ c.mo ∧ c.mo ≤ 2147483647) ∧ c.bare) ∧ c.his ∧ bktP c.rm c.ha) : c.P := ⟨⟨hn, hc⟩, by unfold CoD.roleP; rw [if_neg (by omega), if_neg (by omega)]; exact ⟨hr, h⟩⟩

end Go.Proofs.YtknnooannohflaaGreatDoor.Cmp

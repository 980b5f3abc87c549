/- Layer 15: the printed conditions of state's functions and of its reference. -/
import Derived.Test.YtknnooannohflaaGreatDoorPxK
import Derived.Test.YtknnooannohflaaGreatDoorCmA
import Derived.Test.YtknnooannohflaaGreatDoorProg
import Derived.Test.YtknnooannohflaaGreatDoorDkA
import Derived.Laws.Externs
namespace Go.Proofs.YtknnooannohflaaGreatDoor.St
open Go Go.Px Go.Proofs Go.Proofs.YtknnooannohflaaGreatDoor.Cmp
set_option maxRecDepth 100000
set_option linter.unusedVariables false

abbrev st3 (rows : List (List SV)) (s a : Int) : SV := .agg [SL 21 rows, I s, I a]
def SgT : FuncId → Sig := (fun f => bif Nat.beq f 84 then ⟨[], [.own]⟩ else bif Nat.beq f 89 then ⟨[.own], [.own]⟩ else {})
def SvT : TypeId → Sig := fun _ => {}

end Go.Proofs.YtknnooannohflaaGreatDoor.St

namespace Go.Proofs.YtknnooannohflaaGreatDoor.St
open Go Go.Px Go.Proofs Go.Proofs.YtknnooannohflaaGreatDoor.Cmp
set_option maxRecDepth 100000
set_option linter.unusedVariables false

abbrev _root_.Go.Proofs.YtknnooannohflaaGreatDoor.Cmp.CoD.row (c : CoD) : List SV := [S c.nm, I c.ro, I c.mo, I c.wd, I c.sl, SL 2 (cR c.cl), I c.h0, I c.h1, I c.h2, I c.h3, I c.h4, I c.h5, I c.h6, I c.h7, I c.h8, I c.hs, I c.rm, I c.ha, I c.c0, I c.c1, I c.c2]
abbrev coR (l : List CoD) : List (List SV) := l.map CoD.row
abbrev _root_.Go.Proofs.YtknnooannohflaaGreatDoor.Cmp.EvD.row (e : EvD) : List SV := [I e.s, I e.a, I e.k, S e.c, I e.x, I e.y, I e.z]
abbrev eR (l : List EvD) : List (List SV) := l.map EvD.row
deriving instance DecidableEq for CoD
structure StD where
  cs : List CoD
  q : Int
  t : Int
deriving DecidableEq
abbrev StD.sv (d : StD) : SV := .agg [SL 21 (coR d.cs), I d.q, I d.t]

def StD.P (d : StD) : Prop := (d.cs.length ≤ 12 ∧ 0 ≤ d.q ∧ d.q ≤ 4294967296 ∧ 0 ≤ d.t ∧ d.t ≤ 1099511627776) ∧ (∀ c ∈ d.cs, c.P) ∧ srt CoD.nm d.cs
instance (d : StD) : Decidable d.P := inferInstanceAs (Decidable (_ ∧ _))
def StD.short (d : StD) : Prop := (∀ c ∈ d.cs, c.nm.size ≤ 100 ∧ c.cl.length ≤ 40) ∧ d.cs.length ≤ 20
instance (d : StD) : Decidable d.short := inferInstanceAs (Decidable (_ ∧ _))

/-- Whether an event may be applied. -/
def mayS (d : StD) (e : EvD) : Int :=
  if ¬ d.P then 1 else if chkE e ≠ 0 then chkE e else if e.s ≠ d.q + 1 then 1 else if e.a < d.t then 5
  else if e.k = 1 then (if fAt CoD.nm d.cs e.c ≠ -1 then 7 else if d.cs.length = 12 then 9 else 0)
  else if fAt CoD.nm d.cs e.c = -1 then 6 else mayI (d.cs.getD (fAt CoD.nm d.cs e.c).toNat co0) e
def nxtS (d : StD) (e : EvD) : CoD := if e.k = 1 then (newC e.c e.x e.a).1 else tellC (d.cs.getD (fAt CoD.nm d.cs e.c).toNat co0) e
def appS (d : StD) (e : EvD) : StD × Int := if mayS d e ≠ 0 then (d, mayS d e) else (⟨withB CoD.nm d.cs (nxtS d e), e.s, e.a⟩, 0)
def foldS (d : StD) : List EvD → StD × Nat × Int
  | [] => (d, 0, 0)
  | e :: l => if (appS d e).2 ≠ 0 then (d, 0, (appS d e).2) else ((foldS (appS d e).1 l).1, (foldS (appS d e).1 l).2.1 + 1, (foldS (appS d e).1 l).2.2)

end Go.Proofs.YtknnooannohflaaGreatDoor.St

namespace Go.Proofs.YtknnooannohflaaGreatDoor.St
open Go Go.Px Go.Proofs Go.Proofs.YtknnooannohflaaGreatDoor.Cmp
set_option maxRecDepth 100000
set_option linter.unusedVariables false

/-- Cells that are few. -/
def cells40 (d : StD) : Prop := ∀ c ∈ d.cs, c.cl.length ≤ 1000000

end Go.Proofs.YtknnooannohflaaGreatDoor.St

namespace Go.Proofs.YtknnooannohflaaGreatDoor.St
open Go Go.Px Go.Proofs Go.Proofs.YtknnooannohflaaGreatDoor.Cmp
set_option maxRecDepth 100000
set_option linter.unusedVariables false

/-- What an event needs that may be applied. -/
structure MayS (d : StD) (e : EvD) : Prop where
  p : d.P
  chk : chkE e = 0
  sq : e.s = d.q + 1
  tm : d.t ≤ e.a
  new : e.k = 1 → fAt CoD.nm d.cs e.c = -1 ∧ d.cs.length < 12
  old : e.k ≠ 1 → ∃ i : Nat, ∃ h : i < d.cs.length, fAt CoD.nm d.cs e.c = i ∧ d.cs[i].nm = e.c ∧ mayI d.cs[i] e = 0
end Go.Proofs.YtknnooannohflaaGreatDoor.St

namespace Go.Proofs.YtknnooannohflaaGreatDoor.St
open Go Go.Px Go.Proofs Go.Proofs.YtknnooannohflaaGreatDoor.Cmp
set_option maxRecDepth 100000
set_option linter.unusedVariables false

end Go.Proofs.YtknnooannohflaaGreatDoor.St

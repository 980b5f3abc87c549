/- Lists that are sorted by names: insertion, removal, search. -/
import Derived.Test.YtknnooannohflaaDoorEvA
import Derived.Test.YtknnooannohflaaDoorPxIK
import Derived.Test.YtknnooannohflaaDoorProg
import Derived.Laws.Externs
namespace Go.Px
set_option linter.unusedVariables false

def nlt (a b : ByteArray) : Prop := a.data.toList < b.data.toList
instance (a b : ByteArray) : Decidable (nlt a b) := inferInstanceAs (Decidable (_ < _))

section
variable {α : Type} (nm : α → ByteArray)

def srt (l : List α) : Prop := l.Pairwise fun a b => nlt (nm a) (nm b)
instance (l : List α) : Decidable (srt nm l) := inferInstanceAs (Decidable (List.Pairwise _ l))
def wout (l : List α) (s : ByteArray) : List α := l.filter fun f => decide (nm f ≠ s)
def ahd (l : List α) (s : ByteArray) : List α := l.takeWhile fun g => decide (nlt (nm g) s)
def bhd (l : List α) (s : ByteArray) : List α := l.dropWhile fun g => decide (nlt (nm g) s)
def insB (l : List α) (f : α) : List α := ahd nm l (nm f) ++ f :: bhd nm l (nm f)
def withB (l : List α) (f : α) : List α := insB nm (wout nm l (nm f)) f
def fnd (l : List α) (s : ByteArray) : Option Nat := l.findIdx? fun f => decide (nm f = s)
def fAt (l : List α) (s : ByteArray) : Int := match fnd nm l s with | some i => (i : Int) | none => -1

variable {nm} {l : List α} {s : ByteArray} {f g : α}

end

abbrev uR (l : List UInt8) : List (List SV) := l.map fun b => [U8 (b.toNat : Int)]
structure FiD where
 nm : ByteArray
 su : List UInt8
 lo : List UInt8
deriving DecidableEq
abbrev FiD.row (f : FiD) : List SV := [S f.nm, SL 1 (uR f.su), SL 1 (uR f.lo)]
abbrev fR (l : List FiD) : List (List SV) := l.map FiD.row
def FiD.len (f : FiD) : Nat := f.su.length + f.lo.length
def usedL (l : List FiD) : Nat := (l.map FiD.len).sum
structure DiD where
 fs : List FiD
 rm : Int
 st : Int
 dn : Bool
deriving DecidableEq
abbrev DiD.sv (d : DiD) : SV := .agg [SL 3 (fR d.fs), I d.rm, I d.st, B d.dn]

def fchr (b : UInt8) : Bool := decide (97 ≤ b.toNat ∧ b.toNat ≤ 122 ∨ 48 ≤ b.toNat ∧ b.toNat ≤ 57 ∨ b.toNat = 46)
def fnB (s : ByteArray) : Bool := decide (1 ≤ s.size ∧ s.size ≤ 16) && s.data.toList.all fchr

def DiD.P (d : DiD) : Prop := (d.fs.length ≤ 64 ∧ 0 ≤ d.rm ∧ d.rm ≤ 65536 ∧ -1 ≤ d.st) ∧ (usedL d.fs : Int) ≤ d.rm ∧ (∀ f ∈ d.fs, fnB f.nm = true) ∧ srt FiD.nm d.fs
instance (d : DiD) : Decidable d.P := inferInstanceAs (Decidable (_ ∧ _))

def DiD.er (d : DiD) (a b : ByteArray) : Int := if d.P then (if d.dn = true then 16 else if fnB a = true ∧ fnB b = true then 0 else 1) else 1
def DiD.get (d : DiD) (s : ByteArray) : Option FiD := d.fs.find? fun f => decide (f.nm = s)
def DiD.tick (d : DiD) : DiD := { d with st := if 0 < d.st then d.st - 1 else d.st }
def DiD.perf (d : DiD) (fs : List FiD) : DiD × Int := if d.st = 0 then ({ d with dn := true }, 16) else ({ d.tick with fs := fs }, 0)

def opCreate (d : DiD) (s : ByteArray) : DiD × Int :=
 if d.er s s ≠ 0 then (d, d.er s s) else match d.get s with
 | some _ => (d, 7)
 | none => if d.fs.length = 64 then (d, 13) else d.perf (withB FiD.nm d.fs ⟨s, [], []⟩)
def opAppend (d : DiD) (s : ByteArray) (x : List UInt8) : DiD × Int :=
 if d.er s s ≠ 0 then (d, d.er s s) else match d.get s with
 | none => (d, 14)
 | some f => if d.rm - usedL d.fs < x.length then (d, 13) else
   if d.st = 0 then ({ d with dn := true, fs := withB FiD.nm d.fs ⟨s, f.su, f.lo ++ x⟩ }, 16) else ({ d.tick with fs := withB FiD.nm d.fs ⟨s, f.su, f.lo ++ x⟩ }, 0)
def opSync (d : DiD) (s : ByteArray) : DiD × Int :=
 if d.er s s ≠ 0 then (d, d.er s s) else match d.get s with
 | none => (d, 14)
 | some f => d.perf (withB FiD.nm d.fs ⟨s, f.su ++ f.lo, []⟩)
def opRename (d : DiD) (a b : ByteArray) : DiD × Int :=
 if d.er a b ≠ 0 then (d, d.er a b) else match d.get a with
 | none => (d, 14)
 | some f => d.perf (withB FiD.nm (wout FiD.nm d.fs a) ⟨b, f.su, f.lo⟩)
def opRemove (d : DiD) (s : ByteArray) : DiD × Int :=
 if d.er s s ≠ 0 then (d, d.er s s) else match d.get s with
 | none => (d, 14)
 | some f => d.perf (wout FiD.nm d.fs s)
def opCut (d : DiD) (s : ByteArray) (n : Int) : DiD × Int :=
 if d.er s s ≠ 0 then (d, d.er s s) else match d.get s with
 | none => (d, 14)
 | some f => if n < 0 ∨ (f.len : Int) < n then (d, 1) else d.perf (withB FiD.nm d.fs ⟨s, f.su.take n.toNat, f.lo.take (n.toNat - f.su.length)⟩)
def opRead (d : DiD) (s : ByteArray) : List UInt8 × Int :=
 if d.er s s ≠ 0 then ([], d.er s s) else match d.get s with
 | none => ([], 14)
 | some f => (f.su ++ f.lo, 0)

def more (ks : List Int) (i n : Nat) : Nat := if ks = [] then 0 else min (ks.getD (i % ks.length) 0).toNat n
def wakeF (ks : List Int) (i : Nat) (f : FiD) : FiD := ⟨f.nm, f.su ++ f.lo.take (more ks i f.lo.length), []⟩
def wakeL (ks : List Int) (l : List FiD) : List FiD := l.mapIdx fun i f => wakeF ks i f
def opWake (d : DiD) (ks : List Int) (n : Int) : DiD × Int :=
 if ¬ d.P ∨ n < -1 then (d, 1) else (⟨wakeL ks d.fs, d.rm, n, false⟩, 0)


theorem Zbk {α : Type} (g : α → List SV) (l : List α) (i : Int) (h0 : 0 ≤ i) (h : i < l.length) : rget (l.map g) i = g (l[i.toNat]'(by omega)) := by
 have : i.toNat < l.length := (by omega); simp [rget, this]
theorem Zt8 (b : UInt8) : Zfo [U8 (b.toNat : Int)] = b := by simp [Zfo]
theorem Zvx (l : List UInt8) : bstr (uR l) = ⟨l.toArray⟩ := by
 unfold bstr uR; rw [List.map_map]; congr 1; rw [show (Zfo ∘ fun b : UInt8 => [U8 (b.toNat : Int)]) = id from funext fun b => Zt8 b]; simp
theorem Zm4 (l : List UInt8) : Zc8 (uR l) := by
 intro r hr; obtain ⟨b, _, rfl⟩ := List.mem_map.1 hr; have := b.toNat_lt; exact ⟨b.toNat, rfl, by omega, by omega⟩
theorem uR_len (l : List UInt8) : (uR l).length = l.length := by simp
end Go.Px

namespace Go.Proofs.YtknnooannohflaaDoor.Ins
open Go Go.Px Go.Proofs
set_option maxRecDepth 100000
set_option linter.unusedVariables false

abbrev OO : Sig := ⟨[.own], [.own]⟩
def SgT : FuncId → Sig := (fun f => bif Nat.beq f 56 then ⟨[.own], [.own]⟩ else {})
def SvT : TypeId → Sig := fun _ => {}

def isFil (r : List SV) : Prop := ∃ s l1 l2, r = [S s, SL 1 l1, SL 1 l2]


end Go.Proofs.YtknnooannohflaaDoor.Ins

namespace Go.Proofs.YtknnooannohflaaDoor.St
open Go Go.Px Go.Proofs Cmp
set_option maxRecDepth 100000
set_option linter.unusedVariables false

abbrev st3 (rows : List (List SV)) (s a : Int) : SV := .agg [SL 21 rows, I s, I a]
def SgT : FuncId → Sig := (fun f => bif Nat.beq f 51 then ⟨[], [.own]⟩ else bif Nat.beq f 56 then ⟨[.own], [.own]⟩ else {})
def SvT : TypeId → Sig := fun _ => {}

end Go.Proofs.YtknnooannohflaaDoor.St

namespace Go.Proofs.YtknnooannohflaaDoor.St
open Go Go.Px Go.Proofs Cmp
set_option maxRecDepth 100000
set_option linter.unusedVariables false

abbrev _root_.Go.Proofs.YtknnooannohflaaDoor.Cmp.CoD.row (c : CoD) : List SV := [S c.nm, I c.ro, I c.mo, I c.wd, I c.sl, SL 2 (cR c.cl), I c.h0, I c.h1, I c.h2, I c.h3, I c.h4, I c.h5, I c.h6, I c.h7, I c.h8, I c.hs, I c.rm, I c.ha, I c.c0, I c.c1, I c.c2]
abbrev coR (l : List CoD) : List (List SV) := l.map CoD.row
abbrev _root_.Go.Proofs.YtknnooannohflaaDoor.Cmp.EvD.row (e : EvD) : List SV := [I e.s, I e.a, I e.k, S e.c, I e.x, I e.y, I e.z]
abbrev eR (l : List EvD) : List (List SV) := l.map EvD.row
deriving instance DecidableEq for CoD
structure StD where
 cs : List CoD
 q : Int
 t : Int
deriving DecidableEq
abbrev StD.sv (d : StD) : SV := .agg [SL 21 (coR d.cs), I d.q, I d.t]

def StD.P (d : StD) : Prop := (d.cs.length ≤ 12 ∧ 0 ≤ d.q ∧ d.q ≤ 4294967296 ∧ 0 ≤ d.t ∧ d.t ≤ 1099511627776) ∧ (∀ c ∈ d.cs, c.P) ∧ srt CoD.nm d.cs
instance (d : StD) : Decidable d.P := inferInstanceAs (Decidable (_ ∧ _))
def StD.short (d : StD) : Prop := (∀ c ∈ d.cs, c.nm.size ≤ 100 ∧ c.cl.length ≤ 40) ∧ d.cs.length ≤ 20
instance (d : StD) : Decidable d.short := inferInstanceAs (Decidable (_ ∧ _))

def mayS (d : StD) (e : EvD) : Int :=
 if ¬ d.P then 1 else if chkE e ≠ 0 then chkE e else if e.s ≠ d.q + 1 then 1 else if e.a < d.t then 5
 else if e.k = 1 then (if fAt CoD.nm d.cs e.c ≠ -1 then 7 else if d.cs.length = 12 then 9 else 0)
 else if fAt CoD.nm d.cs e.c = -1 then 6 else mayI (d.cs.getD (fAt CoD.nm d.cs e.c).toNat co0) e
def nxtS (d : StD) (e : EvD) : CoD := if e.k = 1 then (newC e.c e.x e.a).1 else tellC (d.cs.getD (fAt CoD.nm d.cs e.c).toNat co0) e
def appS (d : StD) (e : EvD) : StD × Int := if mayS d e ≠ 0 then (d, mayS d e) else (⟨withB CoD.nm d.cs (nxtS d e), e.s, e.a⟩, 0)
def foldS (d : StD) : List EvD → StD × Nat × Int
 | [] => (d, 0, 0)
 | e :: l => if (appS d e).2 ≠ 0 then (d, 0, (appS d e).2) else ((foldS (appS d e).1 l).1, (foldS (appS d e).1 l).2.1 + 1, (foldS (appS d e).1 l).2.2)

end Go.Proofs.YtknnooannohflaaDoor.St

namespace Go.Proofs.YtknnooannohflaaDoor.St
open Go Go.Px Go.Proofs Cmp
set_option maxRecDepth 100000
set_option linter.unusedVariables false

def cells40 (d : StD) : Prop := ∀ c ∈ d.cs, c.cl.length ≤ 1000000

end Go.Proofs.YtknnooannohflaaDoor.St

namespace Go.Proofs.YtknnooannohflaaDoor.St
open Go Go.Px Go.Proofs Cmp
set_option maxRecDepth 100000
set_option linter.unusedVariables false

structure MayS (d : StD) (e : EvD) : Prop where
 p : d.P
 chk : chkE e = 0
 sq : e.s = d.q + 1
 tm : d.t ≤ e.a
 new : e.k = 1 → fAt CoD.nm d.cs e.c = -1 ∧ d.cs.length < 12
 old : e.k ≠ 1 → ∃ i : Nat, ∃ h : i < d.cs.length, fAt CoD.nm d.cs e.c = i ∧ d.cs[i].nm = e.c ∧ mayI d.cs[i] e = 0
end Go.Proofs.YtknnooannohflaaDoor.St

namespace Go.Proofs.YtknnooannohflaaDoor.St
open Go Go.Px Go.Proofs Cmp
set_option maxRecDepth 100000
set_option linter.unusedVariables false

end Go.Proofs.YtknnooannohflaaDoor.St

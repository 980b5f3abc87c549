/- Layer 26: a sample that may stand behind others, by the document; families that are right, sample by sample. -/
import Derived.Test.YtknnooannohflaaGreatDoorMzA
namespace Go.Proofs.YtknnooannohflaaGreatDoor.Met
open Go Go.Px Go.Proofs Go.Proofs.YtknnooannohflaaGreatDoor.Cmp Go.Proofs.YtknnooannohflaaGreatDoor.St
set_option maxRecDepth 100000
set_option linter.unusedVariables false

/-- A bucket may stand at place k of a group, behind samples. -/
def fitB (n : ByteArray) (l : List SmD) (x : SmD) (k : Nat) : Prop :=
  x.nm = n ++ bucN ∧ (∃ base, x.ls = base ++ [(leN, bnd k)]) ∧ (if k = 0 then lesN x.ls = 1 ∧ 0 ≤ x.v else
    (gat l (l.length - 1)).ls.length = x.ls.length ∧ x.ls.take (x.ls.length - 1) = (gat l (l.length - 1)).ls.take (x.ls.length - 1) ∧ (gat l (l.length - 1)).v ≤ x.v)
/-- A sum, or a count, may stand at place k of a group, behind a bucket. -/
def fitT (n : ByteArray) (y x : SmD) (k : Nat) : Prop :=
  x.ls = y.ls.take (y.ls.length - 1) ∧ (if k = 9 then x.nm = n ++ sumN else x.nm = n ++ couN ∧ x.v = y.v)
def fitG (n : ByteArray) (l : List SmD) (x : SmD) : Prop :=
  if l.length % 11 < 9 then fitB n l x (l.length % 11) else fitT n (gat l (l.length - 1 - (l.length % 11 - 9))) x (l.length % 11)
/-- A sample may stand behind those of a family. -/
def fitP (f : FaD) (x : SmD) : Prop := labP x.ls ∧ f.ss.length < 400 ∧ (if f.ty = 3 then fitG f.nm f.ss x else x.nm = f.nm ∧ hasB x.ls leN = false)

/-- There is a bucket where one is looked for. -/
def seesP (f : FaD) : Prop := f.ty = 3 → 9 ≤ f.ss.length % 11 → 0 < (gat f.ss (f.ss.length - 1 - (f.ss.length % 11 - 9))).ls.length

/-- A family's samples up to one. -/
def upto (f : FaD) (j : Nat) : FaD := { f with ss := f.ss.take j }
/-- Sample by sample. -/
def fitsUp (f : FaD) (j : Nat) : Prop := ∀ i : Nat, i < j → fitP (upto f i) (gat f.ss i)

theorem gat_take {l : List SmD} {i j : Nat} (h : i < j) : gat (l.take j) i = gat l i := by
  unfold gat
  rw [List.getD_eq_getElem?_getD, List.getD_eq_getElem?_getD, List.getElem?_take, if_pos h]

/-- What must be so of a family ahead of its samples, by the document. -/
def rhead (f : FaD) : Prop := namP f.nm ∧ f.hp.size ≤ 200 ∧ (1 ≤ f.ty ∧ f.ty ≤ 3) ∧ (0 < f.ss.length ∧ (f.ty = 3 → f.ss.length % 11 = 0))

/-- Sizes of what is handed over. -/
def szL (l : List LaD) : Prop := l.length ≤ 4000000000000000000 ∧ ∀ p ∈ l, p.1.size ≤ 9000000000000000000
def szF (f : FaD) : Prop := f.nm.size ≤ 9000000000000000000 ∧ f.ss.length ≤ 4000000000000000000 ∧ ∀ x ∈ f.ss, szL x.ls


theorem gat_grp {l : List SmD} {q r : Nat} (h : r < 11) : gat (grpS l q) r = gat l (11 * q + r) := by
  unfold grpS
  rw [gat_take h]
  unfold gat
  rw [List.getD_eq_getElem?_getD, List.getD_eq_getElem?_getD, List.getElem?_drop]

theorem gat_get {l : List SmD} {i : Nat} (h : i < l.length) : gat l i = l[i] := by
  unfold gat
  rw [List.getD_eq_getElem?_getD, List.getElem?_eq_getElem h]
  rfl


/-- A state that isn't too much for a look. -/
def shortS (d : StD) : Prop := d.cs.length ≤ 20 ∧ ∀ c ∈ d.cs, c.nm.size ≤ 100 ∧ c.cl.length ≤ 40

end Go.Proofs.YtknnooannohflaaGreatDoor.Met

/- Lists that are sorted by names: insertion, removal, search. -/
import Derived.Test.YtknnooannohflaaGreatDoorEvA
import Derived.Test.YtknnooannohflaaGreatDoorPxK
import Derived.Test.YtknnooannohflaaGreatDoorProg
namespace Go.Px
set_option linter.unusedVariables false

/-- A name stands ahead of another one. -/
def nlt (a b : ByteArray) : Prop := a.data.toList < b.data.toList
instance (a b : ByteArray) : Decidable (nlt a b) := inferInstanceAs (Decidable (_ < _))

theorem bless_eq : ∀ x y : List UInt8, Op.bytesLess x y = decide (x < y)
  | _, [] => by cases ‹List UInt8› <;> simp [Op.bytesLess]
  | [], b :: y => by simp [Op.bytesLess]
  | a :: x, b :: y => by
    simp only [Op.bytesLess, bless_eq x y]
    rw [Bool.eq_iff_iff]
    simp only [Bool.or_eq_true, Bool.and_eq_true, decide_eq_true_eq, beq_iff_eq, List.cons_lt_cons_iff]

theorem slt_d (a b : ByteArray) : slt a b = decide (nlt a b) := by
  unfold slt nlt; rw [ByteArray.toList_eq, ByteArray.toList_eq, bless_eq]; rfl
theorem nlt_irr (a : ByteArray) : ¬ nlt a a := List.lt_irrefl _
theorem nlt_trans {a b c : ByteArray} (h : nlt a b) (k : nlt b c) : nlt a c := List.lt_trans h k
theorem nlt_tri {a b : ByteArray} (h : ¬ nlt a b) (k : ¬ nlt b a) : a = b := by
  have : a.data.toList = b.data.toList := List.le_antisymm (List.not_lt.1 k) (List.not_lt.1 h)
  exact (toList_iff a b).1 (by rw [ByteArray.toList_eq, ByteArray.toList_eq]; exact this)
theorem nlt_asymm {a b : ByteArray} (h : nlt a b) : ¬ nlt b a := fun k => nlt_irr _ (nlt_trans h k)
theorem nle_iff {a b : ByteArray} : ¬ nlt b a ↔ nlt a b ∨ a = b :=
  ⟨fun h => by by_cases k : nlt a b; exact .inl k; exact .inr (nlt_tri k h), fun h => by rcases h with h | h; exact nlt_asymm h; rw [h]; exact nlt_irr _⟩
theorem sge_d (a b : ByteArray) : sge a b = decide (¬ nlt a b) := by
  unfold sge; rw [show Op.bytesLess a.toList b.toList = slt a b from rfl, slt_d]; simp
theorem sle_d (a b : ByteArray) : sle a b = decide (¬ nlt b a) := by
  unfold sle; rw [show Op.bytesLess a.toList b.toList = slt a b from rfl, slt_d, show (a.toList == b.toList) = seq a b from rfl, seq_d, Bool.eq_iff_iff]
  simp only [Bool.or_eq_true, decide_eq_true_eq]; exact nle_iff.symm
section
variable {α : Type} (nm : α → ByteArray)

def srt (l : List α) : Prop := l.Pairwise fun a b => nlt (nm a) (nm b)
instance (l : List α) : Decidable (srt nm l) := inferInstanceAs (Decidable (List.Pairwise _ l))
def wout (l : List α) (s : ByteArray) : List α := l.filter fun f => decide (nm f ≠ s)
def ahd (l : List α) (s : ByteArray) : List α := l.takeWhile fun g => decide (nlt (nm g) s)
def bhd (l : List α) (s : ByteArray) : List α := l.dropWhile fun g => decide (nlt (nm g) s)
def insB (l : List α) (f : α) : List α := ahd nm l (nm f) ++ f :: bhd nm l (nm f)
def withB (l : List α) (f : α) : List α := insB nm (wout nm l (nm f)) f
def fnd (l : List α) (s : ByteArray) : Option Nat := l.findIdx? fun f => decide (nm f = s)
/-- A place, -1 where there is none. -/
def fAt (l : List α) (s : ByteArray) : Int := match fnd nm l s with | some i => (i : Int) | none => -1

variable {nm} {l : List α} {s : ByteArray} {f g : α}

end

/-- Bytes as rows. -/
abbrev uR (l : List UInt8) : List (List SV) := l.map fun b => [U8 (b.toNat : Int)]
structure FiD where
  nm : ByteArray
  su : List UInt8
  lo : List UInt8
deriving DecidableEq
abbrev FiD.row (f : FiD) : List SV := [S f.nm, SL 1 (uR f.su), SL 1 (uR f.lo)]
abbrev fR (l : List FiD) : List (List SV) := l.map FiD.row
def FiD.len (f : FiD) : Nat := f.su.length + f.lo.length
def usedL (l : List FiD) : Nat := (l.map FiD.len).sum
structure DiD where
  fs : List FiD
  rm : Int
  st : Int
  dn : Bool
deriving DecidableEq
abbrev DiD.sv (d : DiD) : SV := .agg [SL 3 (fR d.fs), I d.rm, I d.st, B d.dn]

/-- Bytes that a file's name may have. -/
def fchr (b : UInt8) : Bool := decide (97 ≤ b.toNat ∧ b.toNat ≤ 122 ∨ 48 ≤ b.toNat ∧ b.toNat ≤ 57 ∨ b.toNat = 46)
def fnB (s : ByteArray) : Bool := decide (1 ≤ s.size ∧ s.size ≤ 16) && s.data.toList.all fchr

def DiD.P (d : DiD) : Prop := (d.fs.length ≤ 64 ∧ 0 ≤ d.rm ∧ d.rm ≤ 65536 ∧ -1 ≤ d.st) ∧ (usedL d.fs : Int) ≤ d.rm ∧ (∀ f ∈ d.fs, fnB f.nm = true) ∧ srt FiD.nm d.fs
instance (d : DiD) : Decidable d.P := inferInstanceAs (Decidable (_ ∧ _))

def DiD.er (d : DiD) (a b : ByteArray) : Int := if d.P then (if d.dn = true then 16 else if fnB a = true ∧ fnB b = true then 0 else 1) else 1
def DiD.get (d : DiD) (s : ByteArray) : Option FiD := d.fs.find? fun f => decide (f.nm = s)
def DiD.tick (d : DiD) : DiD := { d with st := if 0 < d.st then d.st - 1 else d.st }
/-- An operation that takes a step. -/
def DiD.perf (d : DiD) (fs : List FiD) : DiD × Int := if d.st = 0 then ({ d with dn := true }, 16) else ({ d.tick with fs := fs }, 0)

def opCreate (d : DiD) (s : ByteArray) : DiD × Int :=
  if d.er s s ≠ 0 then (d, d.er s s) else match d.get s with
  | some _ => (d, 7)
  | none => if d.fs.length = 64 then (d, 13) else d.perf (withB FiD.nm d.fs ⟨s, [], []⟩)
def opAppend (d : DiD) (s : ByteArray) (x : List UInt8) : DiD × Int :=
  if d.er s s ≠ 0 then (d, d.er s s) else match d.get s with
  | none => (d, 14)
  | some f => if d.rm - usedL d.fs < x.length then (d, 13) else
      if d.st = 0 then ({ d with dn := true, fs := withB FiD.nm d.fs ⟨s, f.su, f.lo ++ x⟩ }, 16) else ({ d.tick with fs := withB FiD.nm d.fs ⟨s, f.su, f.lo ++ x⟩ }, 0)
def opSync (d : DiD) (s : ByteArray) : DiD × Int :=
  if d.er s s ≠ 0 then (d, d.er s s) else match d.get s with
  | none => (d, 14)
  | some f => d.perf (withB FiD.nm d.fs ⟨s, f.su ++ f.lo, []⟩)
def opRename (d : DiD) (a b : ByteArray) : DiD × Int :=
  if d.er a b ≠ 0 then (d, d.er a b) else match d.get a with
  | none => (d, 14)
  | some f => d.perf (withB FiD.nm (wout FiD.nm d.fs a) ⟨b, f.su, f.lo⟩)
def opRemove (d : DiD) (s : ByteArray) : DiD × Int :=
  if d.er s s ≠ 0 then (d, d.er s s) else match d.get s with
  | none => (d, 14)
  | some f => d.perf (wout FiD.nm d.fs s)
def opCut (d : DiD) (s : ByteArray) (n : Int) : DiD × Int :=
  if d.er s s ≠ 0 then (d, d.er s s) else match d.get s with
  | none => (d, 14)
  | some f => if n < 0 ∨ (f.len : Int) < n then (d, 1) else d.perf (withB FiD.nm d.fs ⟨s, f.su.take n.toNat, f.lo.take (n.toNat - f.su.length)⟩)
def opRead (d : DiD) (s : ByteArray) : List UInt8 × Int :=
  if d.er s s ≠ 0 then ([], d.er s s) else match d.get s with
  | none => ([], 14)
  | some f => (f.su ++ f.lo, 0)

/-- How many bytes are left of those that were not synced. -/
def more (ks : List Int) (i n : Nat) : Nat := if ks = [] then 0 else min (ks.getD (i % ks.length) 0).toNat n
def wakeF (ks : List Int) (i : Nat) (f : FiD) : FiD := ⟨f.nm, f.su ++ f.lo.take (more ks i f.lo.length), []⟩
def wakeL (ks : List Int) (l : List FiD) : List FiD := l.mapIdx fun i f => wakeF ks i f
def opWake (d : DiD) (ks : List Int) (n : Int) : DiD × Int :=
  if ¬ d.P ∨ n < -1 then (d, 1) else (⟨wakeL ks d.fs, d.rm, n, false⟩, 0)


theorem rget_map {α : Type} (g : α → List SV) (l : List α) (i : Nat) (h : i < l.length) : rget (l.map g) (i : Int) = g l[i] := by simp [rget, h]
theorem rget_mapI {α : Type} (g : α → List SV) (l : List α) (i : Int) (h0 : 0 ≤ i) (h : i < l.length) : rget (l.map g) i = g (l[i.toNat]'(by omega)) := by
  have : i.toNat < l.length := by omega
  simp [rget, this]
theorem waddN (i : Nat) (h : i ≤ 9223372036854775806) : wadd .i64 (i : Int) 1 = ((i + 1 : Nat) : Int) := by
  rw [wadd_i64 (by omega) (by omega)]; omega
theorem rapp_map {α : Type} (g : α → List SV) (l m : List α) : rapp (l.map g) (m.map g) = (l ++ m).map g := by simp [rapp]
theorem stepL {a b : Nat} (h : a < b) : Nat.le (Nat.succ a) b := h
theorem ba_size (s : ByteArray) : s.size = s.data.toList.length := by rw [Array.length_toList]; rfl
theorem sbytes_u (s : ByteArray) : sbytes s = uR s.data.toList := rfl
theorem byteOf_u (b : UInt8) : byteOfRow [U8 (b.toNat : Int)] = b := by simp [byteOfRow]
theorem bstr_u (l : List UInt8) : bstr (uR l) = ⟨l.toArray⟩ := by
  unfold bstr uR
  rw [List.map_map]
  congr 1
  rw [show (byteOfRow ∘ fun b : UInt8 => [U8 (b.toNat : Int)]) = id from funext fun b => byteOf_u b]
  simp
theorem isBytes_u (l : List UInt8) : isBytes (uR l) := by
  intro r hr
  obtain ⟨b, _, rfl⟩ := List.mem_map.1 hr
  have := b.toNat_lt
  exact ⟨b.toNat, rfl, by omega, by omega⟩
theorem uR_len (l : List UInt8) : (uR l).length = l.length := by simp
theorem sbyte_u (s : ByteArray) (i : Nat) (h : i < s.size) : sbyte s (i : Int) = ((s.data.toList[i]'(by rw [← ba_size]; exact h)).toNat : Int) := by
  have h' : i < s.data.size := h
  simp [sbyte, Array.getElem?_eq_getElem h']
end Go.Px

namespace Go.Proofs.YtknnooannohflaaGreatDoor.Ins
open Go Go.Px Go.Proofs
set_option maxRecDepth 100000
set_option linter.unusedVariables false

abbrev OO : Sig := ⟨[.own], [.own]⟩
def SgT : FuncId → Sig := (fun f => bif Nat.beq f 89 then ⟨[.own], [.own]⟩ else {})
def SvT : TypeId → Sig := fun _ => {}

/-- Rows of a file's cells. -/
def isFil (r : List SV) : Prop := ∃ s l1 l2, r = [S s, SL 1 l1, SL 1 l2]


end Go.Proofs.YtknnooannohflaaGreatDoor.Ins

/- Lists that are sorted by names: insertion, removal, search. -/
import Derived.Test.YtbocfphenkidnaaGreatDoorEvA
import Derived.Test.YtbocfphenkidnaaGreatDoorPxK
import Derived.Test.YtbocfphenkidnaaGreatDoorProg
import Derived.Laws.Externs
namespace Go.Px
set_option linter.unusedVariables false

def nlt (a b : ByteArray) : Prop := a.data.toList < b.data.toList
instance (a b : ByteArray) : Decidable (nlt a b) := inferInstanceAs (Decidable (_ < _))

theorem bless_eq : ∀ x y : List UInt8, Op.bytesLess x y = decide (x < y)
 | _, [] => by cases ‹List UInt8› <;> simp [Op.bytesLess]
 | [], b :: y => by simp [Op.bytesLess]
 | a :: x, b :: y => by
  simp only [Op.bytesLess, bless_eq x y]
  rw [Bool.eq_iff_iff]
  simp only [Bool.or_eq_true, Bool.and_eq_true, decide_eq_true_eq, beq_iff_eq, List.cons_lt_cons_iff]

theorem slt_d (a b : ByteArray) : slt a b = decide (nlt a b) := by
 unfold slt nlt; rw [ByteArray.toList_eq, ByteArray.toList_eq, bless_eq]; rfl
theorem nlt_irr (a : ByteArray) : ¬ nlt a a := List.lt_irrefl _
theorem nlt_trans {a b c : ByteArray} (h : nlt a b) (k : nlt b c) : nlt a c := List.lt_trans h k
theorem nlt_tri {a b : ByteArray} (h : ¬ nlt a b) (k : ¬ nlt b a) : a = b := by
 have : a.data.toList = b.data.toList := List.le_antisymm (List.not_lt.1 k) (List.not_lt.1 h)
 exact (toList_iff a b).1 (by rw [ByteArray.toList_eq, ByteArray.toList_eq]; exact this)
theorem nlt_ne {a b : ByteArray} (h : nlt a b) : a ≠ b := fun e => nlt_irr a (by rw [← e] at h; exact h)
theorem nlt_asymm {a b : ByteArray} (h : nlt a b) : ¬ nlt b a := fun k => nlt_irr _ (nlt_trans h k)
theorem nle_iff {a b : ByteArray} : ¬ nlt b a ↔ nlt a b ∨ a = b :=
 ⟨fun h => by by_cases k : nlt a b; exact .inl k; exact .inr (nlt_tri k h), fun h => by rcases h with h | h; exact nlt_asymm h; rw [h]; exact nlt_irr _⟩
theorem sge_d (a b : ByteArray) : sge a b = decide (¬ nlt a b) := by
 unfold sge; rw [show Op.bytesLess a.toList b.toList = slt a b from rfl, slt_d]; simp
theorem sle_d (a b : ByteArray) : sle a b = decide (¬ nlt b a) := by
 unfold sle; rw [show Op.bytesLess a.toList b.toList = slt a b from rfl, slt_d, show (a.toList == b.toList) = seq a b from rfl, seq_d, Bool.eq_iff_iff]
 simp only [Bool.or_eq_true, decide_eq_true_eq]; exact nle_iff.symm
theorem sgt_d (a b : ByteArray) : sgt a b = decide (nlt b a) := by
 unfold sgt
 rw [show (Op.bytesLess a.toList b.toList || a.toList == b.toList) = sle a b from rfl, sle_d]; simp

section
variable {α : Type} (nm : α → ByteArray)

def srt (l : List α) : Prop := l.Pairwise fun a b => nlt (nm a) (nm b)
instance (l : List α) : Decidable (srt nm l) := inferInstanceAs (Decidable (List.Pairwise _ l))
def wout (l : List α) (s : ByteArray) : List α := l.filter fun f => decide (nm f ≠ s)
def ahd (l : List α) (s : ByteArray) : List α := l.takeWhile fun g => decide (nlt (nm g) s)
def bhd (l : List α) (s : ByteArray) : List α := l.dropWhile fun g => decide (nlt (nm g) s)
def insB (l : List α) (f : α) : List α := ahd nm l (nm f) ++ f :: bhd nm l (nm f)
def withB (l : List α) (f : α) : List α := insB nm (wout nm l (nm f)) f
def fnd (l : List α) (s : ByteArray) : Option Nat := l.findIdx? fun f => decide (nm f = s)
def fAt (l : List α) (s : ByteArray) : Int := match fnd nm l s with | some i => (i : Int) | none => -1

variable {nm} {l : List α} {s : ByteArray} {f g : α}

theorem fnd_some {i : Nat} : fnd nm l s = some i ↔ ∃ h : i < l.length, nm l[i] = s ∧ ∀ j (hj : j < i), nm (l[j]'(by omega)) ≠ s := by
 unfold fnd
 rw [List.findIdx?_eq_some_iff_getElem]
 simp
theorem fnd_none : fnd nm l s = none ↔ ∀ f ∈ l, nm f ≠ s := by
 unfold fnd
 rw [List.findIdx?_eq_none_iff]; simp
theorem fAt_none : fAt nm l s = -1 ↔ ∀ f ∈ l, nm f ≠ s := by
 unfold fAt
 rw [← fnd_none]
 cases h : fnd nm l s with
 | none => simp
 | some i => simp
theorem fAt_cases : fAt nm l s = -1 ∨ ∃ i : Nat, ∃ h : i < l.length, fAt nm l s = i ∧ nm l[i] = s ∧ ∀ j (hj : j < i), nm (l[j]'(by omega)) ≠ s := by
 unfold fAt
 cases h : fnd nm l s with
 | none => exact .inl rfl
 | some i => obtain ⟨h1, h2, h3⟩ := fnd_some.1 h; exact .inr ⟨i, h1, rfl, h2, h3⟩

theorem srt_get (h : srt nm l) {i j : Nat} (hi : i < j) (hj : j < l.length) : nlt (nm (l[i]'(by omega))) (nm l[j]) :=
 List.pairwise_iff_getElem.1 h i j (by omega) hj hi
theorem srt_inj (h : srt nm l) {i j : Nat} (hi : i < l.length) (hj : j < l.length) (e : nm l[i] = nm l[j]) : i = j := by
 rcases Nat.lt_trichotomy i j with k | k | k
 ·exact absurd e (nlt_ne (srt_get h k hj))
 ·exact k
 ·exact absurd e.symm (nlt_ne (srt_get h k hi))
theorem srt_mem (h : srt nm l) (hf : f ∈ l) (hg : g ∈ l) (e : nm f = nm g) : f = g := by
 obtain ⟨i, hi, rfl⟩ := List.mem_iff_getElem.1 hf
 obtain ⟨j, hj, rfl⟩ := List.mem_iff_getElem.1 hg
 have := srt_inj h hi hj e
 subst this; rfl

theorem srt_adj (h : ∀ i (hi : i + 1 < l.length), nlt (nm (l[i]'(by omega))) (nm l[i + 1])) : srt nm l := by
 unfold srt
 rw [List.pairwise_iff_getElem]
 intro i j hi hj hij
 obtain ⟨d, rfl⟩ : ∃ d, j = i + 1 + d := ⟨j - i - 1, by omega⟩
 clear hij
 induction d with
 | zero => exact h i hj
 | succ d ih => exact nlt_trans (ih (by omega)) (h (i + 1 + d) hj)

theorem srt_wout (h : srt nm l) : srt nm (wout nm l s) := List.Pairwise.sublist List.filter_sublist h
theorem mem_wout : f ∈ wout nm l s ↔ f ∈ l ∧ nm f ≠ s := by simp [wout]
theorem wout_none (h : ∀ f ∈ l, nm f ≠ s) : wout nm l s = l := by
 unfold wout; rw [List.filter_eq_self]; intro a ha; simp [h a ha]

theorem ahd_bhd (l : List α) (s : ByteArray) : ahd nm l s ++ bhd nm l s = l := List.takeWhile_append_dropWhile
theorem mem_ahd : ∀ {l : List α}, f ∈ ahd nm l s → nlt (nm f) s
 | [], h => by simp [ahd] at h
 | a :: l, h => by
  unfold ahd at h
  rw [List.takeWhile_cons] at h
  split at h
  ·rename_i ha
   rcases List.mem_cons.1 h with e | h
   ·rw [e]; simpa using ha
   ·exact mem_ahd (l := l) h
  ·simp at h
theorem bhd_head : ∀ {l : List α} {x : α} {r : List α}, bhd nm l s = x :: r → ¬ nlt (nm x) s
 | [], _, _, h => by simp [bhd] at h
 | a :: l, x, r, h => by
  unfold bhd at h
  rw [List.dropWhile_cons] at h
  split at h
  ·exact bhd_head (l := l) h
  ·rename_i hn; cases h; simpa using hn
theorem mem_bhd (h : srt nm l) (hf : f ∈ bhd nm l s) : ¬ nlt (nm f) s := by
 have hs : srt nm (bhd nm l s) := List.Pairwise.sublist (List.dropWhile_sublist _) h
 cases hb : bhd nm l s with
 | nil => rw [hb] at hf; simp at hf
 | cons x r =>
  have hx := bhd_head hb
  rw [hb] at hf hs
  rcases List.mem_cons.1 hf with e | hr
  ·rw [e]; exact hx
  ·intro k
   exact hx (nlt_trans ((List.pairwise_cons.1 hs).1 f hr) k)

theorem mem_insB : g ∈ insB nm l f ↔ g = f ∨ g ∈ l := by
 unfold insB
 constructor
 ·intro h
  rcases List.mem_append.1 h with h | h
  ·exact .inr (by rw [← ahd_bhd (nm := nm) l (nm f)]; exact List.mem_append.2 (.inl h))
  ·rcases List.mem_cons.1 h with h | h
   ·exact .inl h
   ·exact .inr (by rw [← ahd_bhd (nm := nm) l (nm f)]; exact List.mem_append.2 (.inr h))
 ·rintro (rfl | h)
  ·simp
  ·rw [← ahd_bhd (nm := nm) l (nm f)] at h
   rcases List.mem_append.1 h with h | h
   ·exact List.mem_append.2 (.inl h)
   ·exact List.mem_append.2 (.inr (List.mem_cons_of_mem _ h))
theorem mem_withB : g ∈ withB nm l f ↔ g = f ∨ (g ∈ l ∧ nm g ≠ nm f) := by
 unfold withB; rw [mem_insB, mem_wout]
theorem len_insB : (insB nm l f).length = l.length + 1 := by
 have := congrArg List.length (ahd_bhd (nm := nm) l (nm f))
 simp only [List.length_append] at this
 simp [insB]; omega

theorem srt_insB (h : srt nm l) (hn : ∀ g ∈ l, nm g ≠ nm f) : srt nm (insB nm l f) := by
 unfold insB srt
 have h' : srt nm (ahd nm l (nm f) ++ bhd nm l (nm f)) := by rw [ahd_bhd]; exact h
 obtain ⟨h1, h2, h3⟩ := List.pairwise_append.1 h'
 refine List.pairwise_append.2 ⟨h1, List.pairwise_cons.2 ⟨fun g hg => ?_, h2⟩, fun a ha b hb => ?_⟩
 ·have k := mem_bhd h hg
  rcases nle_iff.1 k with k | k
  ·exact k
  ·exact absurd k.symm (hn g (by rw [← ahd_bhd (nm := nm) l (nm f)]; exact List.mem_append.2 (.inr hg)))
 ·rcases List.mem_cons.1 hb with rfl | hb
  ·exact mem_ahd ha
  ·exact h3 a ha b hb
theorem srt_withB (h : srt nm l) : srt nm (withB nm l f) :=
 srt_insB (srt_wout h) (fun g hg => (mem_wout.1 hg).2)

theorem ahd_none {l : List α} (h : ∀ g ∈ l, ¬ nlt (nm g) s) : ahd nm l s = [] := by
 cases l with
 | nil => rfl
 | cons a l => unfold ahd; rw [List.takeWhile_cons_of_neg (by simpa using h a (by simp))]
theorem ahd_app {a b : List α} (h1 : ∀ g ∈ a, nlt (nm g) s) (h2 : ∀ g ∈ b, ¬ nlt (nm g) s) : ahd nm (a ++ b) s = a := by
 unfold ahd
 rw [List.takeWhile_append_of_pos (fun g hg => by simpa using h1 g hg)]
 rw [show List.takeWhile _ b = ahd nm b s from rfl, ahd_none h2, List.append_nil]
theorem bhd_app {a b : List α} (h1 : ∀ g ∈ a, nlt (nm g) s) (h2 : ∀ g ∈ b, ¬ nlt (nm g) s) : bhd nm (a ++ b) s = b := by
 have e := ahd_bhd (nm := nm) (a ++ b) s
 rw [ahd_app h1 h2] at e
 exact List.append_cancel_left e

theorem insB_app {a b : List α} (h1 : ∀ g ∈ a, nlt (nm g) (nm f)) (h2 : ∀ g ∈ b, ¬ nlt (nm g) (nm f)) : insB nm (a ++ b) f = a ++ f :: b := by
 unfold insB; rw [ahd_app h1 h2, bhd_app h1 h2]

theorem split_at {i : Nat} (hi : i < l.length) : l = l.take i ++ l[i] :: l.drop (i + 1) := by
 rw [List.getElem_cons_drop, List.take_append_drop]
theorem wout_split (h : srt nm l) {i : Nat} (hi : i < l.length) : wout nm l (nm l[i]) = l.take i ++ l.drop (i + 1) := by
 have e := split_at hi
 have hs := h
 rw [e] at hs
 obtain ⟨h1, h2, h3⟩ := List.pairwise_append.1 hs
 have h4 := (List.pairwise_cons.1 h2).1
 have main : ∀ (a b : List α) (x : α), (∀ y ∈ a, nlt (nm y) (nm x)) → (∀ y ∈ b, nlt (nm x) (nm y)) → wout nm (a ++ x :: b) (nm x) = a ++ b := by
  intro a b x h3 h4
  unfold wout
  rw [List.filter_append, List.filter_cons]
  simp only [ne_eq, not_true, decide_false, Bool.false_eq_true, if_false]
  rw [List.filter_eq_self.2 (fun y hy => by have := h3 y hy; simp [nlt_ne this]), List.filter_eq_self.2 (fun y hy => by have := h4 y hy; simpa using fun e : nm y = nm x => nlt_ne this e.symm)]
 have := main (l.take i) (l.drop (i + 1)) l[i] (fun y hy => h3 y hy _ List.mem_cons_self) h4
 rw [← e] at this
 exact this
theorem wout_erase (h : srt nm l) {i : Nat} (hi : i < l.length) : wout nm l (nm l[i]) = l.eraseIdx i := by
 rw [wout_split h hi, List.eraseIdx_eq_take_drop_succ]
theorem set_withB (h : srt nm l) {i : Nat} (hi : i < l.length) (e : nm f = nm l[i]) : l.set i f = withB nm l f := by
 unfold withB
 rw [e, wout_split h hi]
 have hs := h
 rw [split_at hi] at hs
 obtain ⟨h1, h2, h3⟩ := List.pairwise_append.1 hs
 have h4 := (List.pairwise_cons.1 h2).1
 rw [insB_app (fun g hg => by rw [e]; exact h3 g hg l[i] List.mem_cons_self) (fun g hg => by rw [e]; exact nlt_asymm (h4 g hg))]
 rw [List.set_eq_take_append_cons_drop]
 simp [hi]
theorem len_withB_old (h : srt nm l) {i : Nat} (hi : i < l.length) (e : nm f = nm l[i]) : (withB nm l f).length = l.length := by
 rw [← set_withB h hi e]; simp
theorem withB_new (h : ∀ g ∈ l, nm g ≠ nm f) : withB nm l f = insB nm l f := by
 unfold withB; rw [wout_none h]

theorem ahd_iff (h : srt nm l) {i : Nat} (hi : i < l.length) : i < (ahd nm l s).length ↔ nlt (nm l[i]) s := by
 constructor
 ·intro k
  have e := ahd_bhd (nm := nm) l s
  have : l[i] = (ahd nm l s)[i] := by
   have e2 : (ahd nm l s ++ bhd nm l s)[i]'(by rw [e]; exact hi) = l[i] := by simp only [e]
   rw [List.getElem_append_left k] at e2
   exact e2.symm
  rw [this]
  exact mem_ahd (List.getElem_mem k)
 ·intro k
  refine Decidable.byContradiction fun hn => ?_
  have e := ahd_bhd (nm := nm) l s
  have e2 : (ahd nm l s ++ bhd nm l s)[i]'(by rw [e]; exact hi) = l[i] := by simp only [e]
  rw [List.getElem_append_right (by omega)] at e2
  exact mem_bhd h (List.getElem_mem _) (by rw [e2]; exact k)
theorem ahd_len : (ahd nm l s).length ≤ l.length := List.Sublist.length_le (List.takeWhile_sublist _)
theorem ahd_take : ahd nm l s = l.take (ahd nm l s).length := by
 have e := ahd_bhd (nm := nm) l s
 have e2 := congrArg (List.take (ahd nm l s).length) e
 rw [List.take_left] at e2
 exact e2
theorem bhd_drop : bhd nm l s = l.drop (ahd nm l s).length := by
 have e := ahd_bhd (nm := nm) l s
 have e2 := congrArg (List.drop (ahd nm l s).length) e
 rw [List.drop_left] at e2
 exact e2
theorem insB_at (l : List α) (f : α) : insB nm l f = l.take (ahd nm l (nm f)).length ++ f :: l.drop (ahd nm l (nm f)).length := by
 unfold insB; rw [← ahd_take, ← bhd_drop]
end

abbrev uR (l : List UInt8) : List (List SV) := l.map fun b => [U8 (b.toNat : Int)]
structure FiD where
 nm : ByteArray
 su : List UInt8
 lo : List UInt8
deriving DecidableEq
abbrev FiD.row (f : FiD) : List SV := [S f.nm, SL 1 (uR f.su), SL 1 (uR f.lo)]
abbrev fR (l : List FiD) : List (List SV) := l.map FiD.row
def FiD.len (f : FiD) : Nat := f.su.length + f.lo.length
def usedL (l : List FiD) : Nat := (l.map FiD.len).sum
structure DiD where
 fs : List FiD
 rm : Int
 st : Int
 dn : Bool
deriving DecidableEq
abbrev DiD.sv (d : DiD) : SV := .agg [SL 3 (fR d.fs), I d.rm, I d.st, B d.dn]

def fchr (b : UInt8) : Bool := decide (97 ≤ b.toNat ∧ b.toNat ≤ 122 ∨ 48 ≤ b.toNat ∧ b.toNat ≤ 57 ∨ b.toNat = 46)
def fnB (s : ByteArray) : Bool := decide (1 ≤ s.size ∧ s.size ≤ 16) && s.data.toList.all fchr

def DiD.P (d : DiD) : Prop := (d.fs.length ≤ 64 ∧ 0 ≤ d.rm ∧ d.rm ≤ 65536 ∧ -1 ≤ d.st) ∧ (usedL d.fs : Int) ≤ d.rm ∧ (∀ f ∈ d.fs, fnB f.nm = true) ∧ srt FiD.nm d.fs
instance (d : DiD) : Decidable d.P := inferInstanceAs (Decidable (_ ∧ _))

def DiD.er (d : DiD) (a b : ByteArray) : Int := if d.P then (if d.dn = true then 16 else if fnB a = true ∧ fnB b = true then 0 else 1) else 1
def DiD.get (d : DiD) (s : ByteArray) : Option FiD := d.fs.find? fun f => decide (f.nm = s)
def DiD.tick (d : DiD) : DiD := { d with st := if 0 < d.st then d.st - 1 else d.st }
def DiD.perf (d : DiD) (fs : List FiD) : DiD × Int := if d.st = 0 then ({ d with dn := true }, 16) else ({ d.tick with fs := fs }, 0)

def opCreate (d : DiD) (s : ByteArray) : DiD × Int :=
 if d.er s s ≠ 0 then (d, d.er s s) else match d.get s with
 | some _ => (d, 7)
 | none => if d.fs.length = 64 then (d, 13) else d.perf (withB FiD.nm d.fs ⟨s, [], []⟩)
def opAppend (d : DiD) (s : ByteArray) (x : List UInt8) : DiD × Int :=
 if d.er s s ≠ 0 then (d, d.er s s) else match d.get s with
 | none => (d, 14)
 | some f => if d.rm - usedL d.fs < x.length then (d, 13) else
   if d.st = 0 then ({ d with dn := true, fs := withB FiD.nm d.fs ⟨s, f.su, f.lo ++ x⟩ }, 16) else ({ d.tick with fs := withB FiD.nm d.fs ⟨s, f.su, f.lo ++ x⟩ }, 0)
def opSync (d : DiD) (s : ByteArray) : DiD × Int :=
 if d.er s s ≠ 0 then (d, d.er s s) else match d.get s with
 | none => (d, 14)
 | some f => d.perf (withB FiD.nm d.fs ⟨s, f.su ++ f.lo, []⟩)
def opRename (d : DiD) (a b : ByteArray) : DiD × Int :=
 if d.er a b ≠ 0 then (d, d.er a b) else match d.get a with
 | none => (d, 14)
 | some f => d.perf (withB FiD.nm (wout FiD.nm d.fs a) ⟨b, f.su, f.lo⟩)
def opRemove (d : DiD) (s : ByteArray) : DiD × Int :=
 if d.er s s ≠ 0 then (d, d.er s s) else match d.get s with
 | none => (d, 14)
 | some f => d.perf (wout FiD.nm d.fs s)
def opCut (d : DiD) (s : ByteArray) (n : Int) : DiD × Int :=
 if d.er s s ≠ 0 then (d, d.er s s) else match d.get s with
 | none => (d, 14)
 | some f => if n < 0 ∨ (f.len : Int) < n then (d, 1) else d.perf (withB FiD.nm d.fs ⟨s, f.su.take n.toNat, f.lo.take (n.toNat - f.su.length)⟩)
def opRead (d : DiD) (s : ByteArray) : List UInt8 × Int :=
 if d.er s s ≠ 0 then ([], d.er s s) else match d.get s with
 | none => ([], 14)
 | some f => (f.su ++ f.lo, 0)

def more (ks : List Int) (i n : Nat) : Nat := if ks = [] then 0 else min (ks.getD (i % ks.length) 0).toNat n
def wakeF (ks : List Int) (i : Nat) (f : FiD) : FiD := ⟨f.nm, f.su ++ f.lo.take (more ks i f.lo.length), []⟩
def wakeL (ks : List Int) (l : List FiD) : List FiD := l.mapIdx fun i f => wakeF ks i f
def opWake (d : DiD) (ks : List Int) (n : Int) : DiD × Int :=
 if ¬ d.P ∨ n < -1 then (d, 1) else (⟨wakeL ks d.fs, d.rm, n, false⟩, 0)

theorem DiD.get_cases (d : DiD) (s : ByteArray) :
  (d.get s = none ∧ fAt FiD.nm d.fs s = -1 ∧ ∀ f ∈ d.fs, f.nm ≠ s) ∨ ∃ i : Nat, ∃ h : i < d.fs.length, fAt FiD.nm d.fs s = i ∧ d.get s = some d.fs[i] ∧ d.fs[i].nm = s := by
 rcases fAt_cases (nm := FiD.nm) (l := d.fs) (s := s) with h | ⟨i, hi, h1, h2, h3⟩
 ·refine .inl ⟨?_, h, fAt_none.1 h⟩
  unfold DiD.get
  rw [List.find?_eq_none]
  intro f hf; have := fAt_none.1 h f hf; simpa using this
 ·refine .inr ⟨i, hi, h1, ?_, h2⟩
  unfold DiD.get
  rw [List.find?_eq_some_iff_getElem]
  exact ⟨by simpa using h2, i, hi, rfl, fun j hj => by simpa using h3 j hj⟩

theorem er_zero {d : DiD} {a b : ByteArray} : d.er a b = 0 ↔ d.P ∧ d.dn = false ∧ fnB a = true ∧ fnB b = true := by
 unfold DiD.er
 by_cases h : d.P <;> by_cases k : d.dn = true <;> by_cases m : fnB a = true ∧ fnB b = true <;> simp [h, k, m]
 all_goals simp_all

theorem usedL_cons (f : FiD) (l : List FiD) : usedL (f :: l) = f.len + usedL l := by simp [usedL]
theorem usedL_app (a b : List FiD) : usedL (a ++ b) = usedL a + usedL b := by simp [usedL]
theorem usedL_insB {l : List FiD} {f : FiD} : usedL (insB FiD.nm l f) = usedL l + f.len := by
 have e := congrArg usedL (ahd_bhd (nm := FiD.nm) l f.nm)
 rw [usedL_app] at e
 rw [insB, usedL_app, usedL_cons]; omega
theorem usedL_split {l : List FiD} {i : Nat} (hi : i < l.length) : usedL l = usedL (l.take i) + l[i].len + usedL (l.drop (i + 1)) := by
 have := congrArg usedL (split_at hi)
 rw [usedL_app, usedL_cons] at this; omega
theorem usedL_wout {l : List FiD} (h : srt FiD.nm l) {i : Nat} (hi : i < l.length) : usedL (wout FiD.nm l l[i].nm) + l[i].len = usedL l := by
 rw [wout_split h hi, usedL_app, usedL_split hi]; omega
theorem usedL_wle (l : List FiD) (s : ByteArray) : usedL (wout FiD.nm l s) ≤ usedL l := by
 induction l with
 | nil => simp [wout]
 | cons a l ih =>
  unfold wout at ih ⊢
  rw [List.filter_cons]
  split
  ·rw [usedL_cons, usedL_cons]; omega
  ·rw [usedL_cons]; omega
theorem usedL_withB {l : List FiD} {f : FiD} (h : srt FiD.nm l) {i : Nat} (hi : i < l.length) (e : f.nm = l[i].nm) : usedL (withB FiD.nm l f) + l[i].len = usedL l + f.len := by
 unfold withB
 rw [usedL_insB, e]
 have := usedL_wout h hi; omega
theorem usedL_mem {l : List FiD} {f : FiD} (h : f ∈ l) : f.len ≤ usedL l := by
 obtain ⟨i, hi, rfl⟩ := List.mem_iff_getElem.1 h
 rw [usedL_split hi]; omega

theorem perf_P {d : DiD} {fs : List FiD} (h : d.P) (h1 : fs.length ≤ 64) (h2 : (usedL fs : Int) ≤ d.rm) (h3 : ∀ f ∈ fs, fnB f.nm = true) (h4 : srt FiD.nm fs) : (d.perf fs).1.P := by
 obtain ⟨⟨a1, a2, a3, a4⟩, a5, a6, a7⟩ := h
 unfold DiD.perf
 split
 ·exact ⟨⟨a1, a2, a3, a4⟩, a5, a6, a7⟩
 ·refine ⟨⟨h1, a2, a3, ?_⟩, h2, h3, h4⟩
  simp only [DiD.tick]; split <;> omega
theorem tick_P {d : DiD} {fs : List FiD} (h : d.P) (h1 : fs.length ≤ 64) (h2 : (usedL fs : Int) ≤ d.rm) (h3 : ∀ f ∈ fs, fnB f.nm = true) (h4 : srt FiD.nm fs) : ({ d.tick with fs := fs } : DiD).P := by
 obtain ⟨⟨a1, a2, a3, a4⟩, a5, a6, a7⟩ := h
 refine ⟨⟨h1, a2, a3, ?_⟩, h2, h3, h4⟩
 simp only [DiD.tick]; split <;> omega
theorem dn_P {d : DiD} {fs : List FiD} (b : Bool) (h : d.P) (h1 : fs.length ≤ 64) (h2 : (usedL fs : Int) ≤ d.rm) (h3 : ∀ f ∈ fs, fnB f.nm = true) (h4 : srt FiD.nm fs) : ({ d with dn := b, fs := fs } : DiD).P := by
 obtain ⟨⟨a1, a2, a3, a4⟩, a5, a6, a7⟩ := h
 exact ⟨⟨h1, a2, a3, a4⟩, h2, h3, h4⟩

theorem with_names {l : List FiD} {f : FiD} (h : ∀ g ∈ l, fnB g.nm = true) (hf : fnB f.nm = true) : ∀ g ∈ withB FiD.nm l f, fnB g.nm = true := by
 intro g hg
 rcases mem_withB.1 hg with rfl | ⟨hg, _⟩
 ·exact hf
 ·exact h g hg
theorem len_wout {l : List FiD} {s : ByteArray} : (wout FiD.nm l s).length ≤ l.length := List.length_filter_le _ _

theorem perf_st {d : DiD} {fs : List FiD} : (d.perf fs).1.st ≤ d.st := by
 unfold DiD.perf; split
 ·exact Int.le_refl _
 ·simp only [DiD.tick]; split <;> omega
theorem opCreate_st {d : DiD} {s : ByteArray} : (opCreate d s).1.st ≤ d.st := by
 unfold opCreate; split
 ·exact Int.le_refl _
 ·split
  ·exact Int.le_refl _
  ·split
   ·exact Int.le_refl _
   ·exact perf_st
theorem opAppend_st {d : DiD} {s : ByteArray} {x : List UInt8} : (opAppend d s x).1.st ≤ d.st := by
 unfold opAppend; split
 ·exact Int.le_refl _
 ·split
  ·exact Int.le_refl _
  ·split
   ·exact Int.le_refl _
   ·split
    ·exact Int.le_refl _
    ·simp only [DiD.tick]; split <;> omega
theorem opSync_st {d : DiD} {s : ByteArray} : (opSync d s).1.st ≤ d.st := by
 unfold opSync; split
 ·exact Int.le_refl _
 ·split
  ·exact Int.le_refl _
  ·exact perf_st
theorem opRename_st {d : DiD} {a b : ByteArray} : (opRename d a b).1.st ≤ d.st := by
 unfold opRename; split
 ·exact Int.le_refl _
 ·split
  ·exact Int.le_refl _
  ·exact perf_st
theorem opRemove_st {d : DiD} {s : ByteArray} : (opRemove d s).1.st ≤ d.st := by
 unfold opRemove; split
 ·exact Int.le_refl _
 ·split
  ·exact Int.le_refl _
  ·exact perf_st
theorem opCreate_P {d : DiD} {s : ByteArray} (h : d.P) : (opCreate d s).1.P := by
 unfold opCreate
 by_cases he : d.er s s = 0
 ·rw [if_neg (by simpa using he)]
  obtain ⟨_, _, hn, _⟩ := er_zero.1 he
  rcases d.get_cases s with ⟨h1, _, h3⟩ | ⟨i, hi, _, h1, _⟩
  ·rw [h1]
   dsimp only
   split
   ·exact h
   ·have hl : d.fs.length ≤ 64 := h.1.1
    refine perf_P h ?_ ?_ (with_names h.2.2.1 hn) (srt_withB h.2.2.2)
    ·rw [withB_new h3, len_insB]; omega
    ·rw [withB_new h3, usedL_insB]
     have := h.2.1
     simp only [FiD.len, List.length_nil]; omega
  ·rw [h1]; exact h
 ·rw [if_pos (by simpa using he)]; exact h
theorem opAppend_P {d : DiD} {s : ByteArray} {x : List UInt8} (h : d.P) : (opAppend d s x).1.P := by
 unfold opAppend
 by_cases he : d.er s s = 0
 ·rw [if_neg (by simpa using he)]
  obtain ⟨_, _, hn, _⟩ := er_zero.1 he
  rcases d.get_cases s with ⟨h1, _, _⟩ | ⟨i, hi, _, h1, h2⟩
  ·rw [h1]; exact h
  ·rw [h1]
   dsimp only
   split
   ·exact h
   ·rename_i hx
    have l1 : (withB FiD.nm d.fs ⟨s, d.fs[i].su, d.fs[i].lo ++ x⟩).length ≤ 64 := by rw [len_withB_old h.2.2.2 hi h2.symm]; exact h.1.1
    have l2 : (usedL (withB FiD.nm d.fs ⟨s, d.fs[i].su, d.fs[i].lo ++ x⟩) : Int) ≤ d.rm := by
     have := usedL_withB (f := ⟨s, d.fs[i].su, d.fs[i].lo ++ x⟩) h.2.2.2 hi h2.symm
     have e1 : (FiD.len ⟨s, d.fs[i].su, d.fs[i].lo ++ x⟩) = d.fs[i].len + x.length := by simp [FiD.len]; omega
     rw [e1] at this; omega
    split
    ·exact dn_P true h l1 l2 (with_names h.2.2.1 hn) (srt_withB h.2.2.2)
    ·exact tick_P h l1 l2 (with_names h.2.2.1 hn) (srt_withB h.2.2.2)
 ·rw [if_pos (by simpa using he)]; exact h
theorem opSync_P {d : DiD} {s : ByteArray} (h : d.P) : (opSync d s).1.P := by
 unfold opSync
 by_cases he : d.er s s = 0
 ·rw [if_neg (by simpa using he)]
  obtain ⟨_, _, hn, _⟩ := er_zero.1 he
  rcases d.get_cases s with ⟨h1, _, _⟩ | ⟨i, hi, _, h1, h2⟩
  ·rw [h1]; exact h
  ·rw [h1]
   refine perf_P h ?_ ?_ (with_names h.2.2.1 hn) (srt_withB h.2.2.2)
   ·rw [len_withB_old h.2.2.2 hi h2.symm]; exact h.1.1
   ·have := usedL_withB (f := ⟨s, d.fs[i].su ++ d.fs[i].lo, []⟩) h.2.2.2 hi h2.symm
    have e1 : (FiD.len ⟨s, d.fs[i].su ++ d.fs[i].lo, []⟩) = d.fs[i].len := by simp [FiD.len]
    have := h.2.1; omega
 ·rw [if_pos (by simpa using he)]; exact h
theorem opRename_P {d : DiD} {a b : ByteArray} (h : d.P) : (opRename d a b).1.P := by
 unfold opRename
 by_cases he : d.er a b = 0
 ·rw [if_neg (by simpa using he)]
  obtain ⟨_, _, _, hn⟩ := er_zero.1 he
  rcases d.get_cases a with ⟨h1, _, _⟩ | ⟨i, hi, _, h1, h2⟩
  ·rw [h1]; exact h
  ·rw [h1]
   have hs := srt_wout (s := a) h.2.2.2
   have hw : wout FiD.nm d.fs a = d.fs.take i ++ d.fs.drop (i + 1) := by rw [← h2]; exact wout_split h.2.2.2 hi
   have hl : (wout FiD.nm d.fs a).length + 1 = d.fs.length := by rw [hw]; simp; omega
   have hu : usedL (wout FiD.nm d.fs a) + d.fs[i].len = usedL d.fs := by rw [← h2]; exact usedL_wout h.2.2.2 hi
   have h5 := h.2.1
   have h6 := h.1.1
   refine perf_P h ?_ ?_ (with_names (fun g hg => h.2.2.1 g (mem_wout.1 hg).1) hn) (srt_withB hs)
   ·unfold withB; rw [len_insB]; have := len_wout (l := wout FiD.nm d.fs a) (s := b); show (wout FiD.nm (wout FiD.nm d.fs a) b).length + 1 ≤ 64; omega
   ·unfold withB; rw [usedL_insB]
    have := usedL_wle (wout FiD.nm d.fs a) b
    simp only [FiD.len] at hu ⊢; omega
 ·rw [if_pos (by simpa using he)]; exact h
theorem opRemove_P {d : DiD} {s : ByteArray} (h : d.P) : (opRemove d s).1.P := by
 unfold opRemove
 by_cases he : d.er s s = 0
 ·rw [if_neg (by simpa using he)]
  rcases d.get_cases s with ⟨h1, _, _⟩ | ⟨i, hi, _, h1, h2⟩
  ·rw [h1]; exact h
  ·rw [h1]
   have := len_wout (l := d.fs) (s := s)
   have := usedL_wle d.fs s
   have h5 := h.2.1
   have h6 := h.1.1
   exact perf_P h (by omega) (by omega) (fun g hg => h.2.2.1 g (mem_wout.1 hg).1) (srt_wout h.2.2.2)
 ·rw [if_pos (by simpa using he)]; exact h

theorem isub_d (a b : Int) : isub a b = a - b := rfl
theorem rget_map {α : Type} (g : α → List SV) (l : List α) (i : Nat) (h : i < l.length) : rget (l.map g) (i : Int) = g l[i] := by simp [rget, h]
theorem rget_mapI {α : Type} (g : α → List SV) (l : List α) (i : Int) (h0 : 0 ≤ i) (h : i < l.length) : rget (l.map g) i = g (l[i.toNat]'(by omega)) := by
 have : i.toNat < l.length := by omega
 simp [rget, this]
theorem waddN (i : Nat) (h : i ≤ 9223372036854775806) : wadd .i64 (i : Int) 1 = ((i + 1 : Nat) : Int) := by
 rw [wadd_i64 (by omega) (by omega)]; omega
theorem waddNN (i j : Nat) (h : i + j ≤ 9223372036854775807) : wadd .i64 (i : Int) (j : Int) = ((i + j : Nat) : Int) := by
 rw [wadd_i64 (by omega) (by omega)]; omega
theorem take_s {α : Type} (l : List α) (i : Nat) (h : i < l.length) : l.take (i + 1) = l.take i ++ [l[i]] := by
 rw [List.take_add_one, List.getElem?_eq_getElem h]; rfl
theorem rsub_map {α : Type} (g : α → List SV) (l : List α) (a b : Int) : rsub (l.map g) a b = ((l.take b.toNat).drop a.toNat).map g := by
 simp [rsub, List.map_take, List.map_drop]
theorem rset_map {α : Type} (g : α → List SV) (l : List α) (i : Nat) (x : α) : rset (l.map g) (i : Int) (g x) = (l.set i x).map g := by
 simp [rset, List.map_set]
theorem rapp_map {α : Type} (g : α → List SV) (l m : List α) : rapp (l.map g) (m.map g) = (l ++ m).map g := by simp [rapp]
theorem stepL {a b : Nat} (h : a < b) : Nat.le (Nat.succ a) b := h
theorem ifB_d {p : Prop} [Decidable p] {x y : Prop} (h1 : p → x) (h2 : ¬ p → y) : ifB (decide p) x y := by
 by_cases h : p <;> simp [ifB, h]
 ·exact h1 h
 ·exact h2 h

theorem ba_size (s : ByteArray) : s.size = s.data.toList.length := by rw [Array.length_toList]; rfl
theorem byteOf_u (b : UInt8) : byteOfRow [U8 (b.toNat : Int)] = b := by simp [byteOfRow]
theorem bstr_u (l : List UInt8) : bstr (uR l) = ⟨l.toArray⟩ := by
 unfold bstr uR
 rw [List.map_map]
 congr 1
 rw [show (byteOfRow ∘ fun b : UInt8 => [U8 (b.toNat : Int)]) = id from funext fun b => byteOf_u b]
 simp
theorem isBytes_u (l : List UInt8) : isBytes (uR l) := by
 intro r hr
 obtain ⟨b, _, rfl⟩ := List.mem_map.1 hr
 have := b.toNat_lt
 exact ⟨b.toNat, rfl, by omega, by omega⟩
theorem bstr_inj {a b : List UInt8} : bstr (uR a) = bstr (uR b) ↔ a = b := by
 rw [bstr_u, bstr_u]
 constructor
 ·intro h; simp at h; exact h
 ·rintro rfl; rfl
theorem uR_inj {a b : List UInt8} : uR a = uR b ↔ a = b := by
 constructor
 ·intro h
  have := congrArg bstr h
  exact bstr_inj.1 this
 ·rintro rfl; rfl
theorem uR_len (l : List UInt8) : (uR l).length = l.length := by simp
theorem sbyte_u (s : ByteArray) (i : Nat) (h : i < s.size) : sbyte s (i : Int) = ((s.data.toList[i]'(by rw [← ba_size]; exact h)).toNat : Int) := by
 have h' : i < s.data.size := h
 simp [sbyte, Array.getElem?_eq_getElem h']
end Go.Px

namespace Go.Proofs.YtbocfphenkidnaaGreatDoor.Ins
open Go Go.Px Go.Proofs
set_option maxRecDepth 100000
set_option linter.unusedVariables false

abbrev OO : Sig := ⟨[.own], [.own]⟩
def SgT : FuncId → Sig := (fun f => bif Nat.beq f 162 then ⟨[.own], [.own]⟩ else bif Nat.beq f 156 then ⟨[.own], [.own]⟩ else bif Nat.beq f 211 then ⟨[.own], [.own]⟩ else {})
def SvT : TypeId → Sig := fun _ => {}
theorem fdelete_nf (rows : LL) (i j : Int) (Q : List SV → Prop) (h : ∀ x, ((rlen rows) ≤ x) → (x ≤ 9223372036854775807) → (((0 : Int) ≤ i) ∧ ((i ≤ j) ∧ ((j ≤ (rlen rows)) ∧ ((rlen rows) ≤ (isub x 0))))) ∧ (ifB (ieq i j) (((rlen rows) ≤ (rlen rows)) ∧ (Q [SL 3 (rsub rows 0 (rlen rows))])) ((((0 : Int) ≤ 0) ∧ (((0 : Int) ≤ i) ∧ (i ≤ (isub x 0)))) ∧ ((((0 : Int) ≤ j) ∧ ((j ≤ (isub (rlen rows) 0)) ∧ ((isub (rlen rows) 0) ≤ (isub x 0)))) ∧ (((0 : Int) ≤ (isub (rlen rows) (rlen rows))) ∧ (((lsum 0 i) ≤ (rlen rows)) ∧ ((((lsum (lsum 0 i) (rlen (rsub rows (lsum 0 j) (rlen rows)))) ≤ x) → (((0 : Int) ≤ (isub (lsum (lsum 0 i) (rlen (rsub rows (lsum 0 j) (rlen rows)))) ((0 : Int)))) ∧ (((isub (lsum (lsum 0 i) (rlen (rsub rows (lsum 0 j) (rlen rows)))) ((0 : Int))) ≤ (isub (rlen rows) 0)) ∧ ((isub (rlen rows) 0) ≤ (isub x ((0 : Int)))))) ∧ (((lsum ((0 : Int)) (isub (lsum (lsum 0 i) (rlen (rsub rows (lsum 0 j) (rlen rows)))) ((0 : Int)))) ≤ (rlen (rput rows (lsum 0 i) (rsub rows (lsum 0 j) (rlen rows))))) ∧ (((lsum (lsum 0 i) (rlen (rsub rows (lsum 0 j) (rlen rows)))) ≤ (rlen (rput (rput rows (lsum 0 i) (rsub rows (lsum 0 j) (rlen rows))) (lsum ((0 : Int)) (isub (lsum (lsum 0 i) (rlen (rsub rows (lsum 0 j) (rlen rows)))) ((0 : Int)))) (rrep (isub (lsum ((0 : Int)) (isub (rlen rows) 0)) (lsum ((0 : Int)) (isub (lsum (lsum 0 i) (rlen (rsub rows (lsum 0 j) (rlen rows)))) ((0 : Int))))) ([S (ByteArray.mk (Array.mk [])), SL 1 [], SL 1 []]))))) ∧ (Q ([SV.slice 3 (rsub (rput (rput rows (lsum 0 i) (rsub rows (lsum 0 j) (rlen rows))) (lsum ((0 : Int)) (isub (lsum (lsum 0 i) (rlen (rsub rows (lsum 0 j) (rlen rows)))) ((0 : Int)))) (rrep (isub (lsum ((0 : Int)) (isub (rlen rows) 0)) (lsum ((0 : Int)) (isub (lsum (lsum 0 i) (rlen (rsub rows (lsum 0 j) (rlen rows)))) ((0 : Int))))) ([S (ByteArray.mk (Array.mk [])), SL 1 [], SL 1 []]))) 0 (lsum (lsum 0 i) (rlen (rsub rows (lsum 0 j) (rlen rows))))) 0]))))) ∧ ((x < (lsum (lsum 0 i) (rlen (rsub rows (lsum 0 j) (rlen rows))))) → ((lsum (isub (lsum 0 i) ((0 : Int))) (rlen (rsub rows (lsum 0 j) (rlen rows)))) ≤ ((2147483648 : Int))) ∧ (∀ x1, ((rlen (rapp (rsub rows ((0 : Int)) (lsum 0 i)) (rsub rows (lsum 0 j) (rlen rows)))) ≤ x1) → (x1 ≤ 9223372036854775807) → (((0 : Int) ≤ (rlen (rapp (rsub rows ((0 : Int)) (lsum 0 i)) (rsub rows (lsum 0 j) (rlen rows))))) ∧ (((rlen (rapp (rsub rows ((0 : Int)) (lsum 0 i)) (rsub rows (lsum 0 j) (rlen rows)))) ≤ (isub (rlen rows) 0)) ∧ ((isub (rlen rows) 0) ≤ (isub x1 0)))) ∧ (((lsum 0 (rlen (rapp (rsub rows ((0 : Int)) (lsum 0 i)) (rsub rows (lsum 0 j) (rlen rows))))) ≤ (rlen (rapp (rsub rows ((0 : Int)) (lsum 0 i)) (rsub rows (lsum 0 j) (rlen rows))))) ∧ (((rlen (rapp (rsub rows ((0 : Int)) (lsum 0 i)) (rsub rows (lsum 0 j) (rlen rows)))) ≤ (rlen (rput (rapp (rsub rows ((0 : Int)) (lsum 0 i)) (rsub rows (lsum 0 j) (rlen rows))) (lsum 0 (rlen (rapp (rsub rows ((0 : Int)) (lsum 0 i)) (rsub rows (lsum 0 j) (rlen rows))))) (rrep (isub (lsum 0 (isub (rlen rows) 0)) (lsum 0 (rlen (rapp (rsub rows ((0 : Int)) (lsum 0 i)) (rsub rows (lsum 0 j) (rlen rows)))))) ([S (ByteArray.mk (Array.mk [])), SL 1 [], SL 1 []]))))) ∧ (Q ([SV.slice 3 (rsub (rput (rapp (rsub rows ((0 : Int)) (lsum 0 i)) (rsub rows (lsum 0 j) (rlen rows))) (lsum 0 (rlen (rapp (rsub rows ((0 : Int)) (lsum 0 i)) (rsub rows (lsum 0 j) (rlen rows))))) (rrep (isub (lsum 0 (isub (rlen rows) 0)) (lsum 0 (rlen (rapp (rsub rows ((0 : Int)) (lsum 0 i)) (rsub rows (lsum 0 j) (rlen rows)))))) ([S (ByteArray.mk (Array.mk [])), SL 1 [], SL 1 []]))) 0 (rlen (rapp (rsub rows ((0 : Int)) (lsum 0 i)) (rsub rows (lsum 0 j) (rlen rows))))) 0]))))))))))))) : Ct Tryz.prog 156 ⟨[.own], [.own]⟩ [SL 3 rows, I i, I j] Q :=
 fn_of (f := 156) SgT SvT (fun k => bif Nat.beq k 3000000 then some ({} : LoopSpec) else none) Tryz.f156 Tryz.func156 (by kernel_rfl) (by kernel_rfl) h

theorem fdelf_nf (rows : LL) (f : FuncId) (cs : List SV) (Q : List SV → Prop) (h : Cl Tryz.prog 179 sP [SL 3 rows, SV.clo f cs] (fun rs => ∃ x, (rs = [I x]) ∧ (ifB (ieq x ((-1 : Int))) (Q [SL 3 rows]) (∃ Inv : Int → Int → (LL) → Prop, ∃ m : Int → Int → (LL) → Nat, (Inv x (wadd .i64 x 1) rows) ∧ (∀ x1 x2 l, (Inv x1 x2 l) → ifB (ilt x2 (rlen l)) ((((0 : Int) ≤ x2) ∧ (x2 < (rlen l))) ∧ ((((0 : Int) ≤ x2) ∧ (x2 < (rlen l))) ∧ (∃ s l1 l2, (rget l x2 = [S s, SL 1 l1, SL 1 l2]) ∧ (Cl Tryz.prog f sP ((SV.agg [S s, SL 1 l1, SL 1 l2]) :: cs) (fun rs1 => ∃ b, (rs1 = [B b]) ∧ (ifB (bnot b) ((((0 : Int) ≤ x1) ∧ (x1 < (rlen l))) ∧ ((((0 : Int) ≤ x1) ∧ (x1 < (rlen l))) ∧ ((Sm (some ([[SV.gd 0 true (SL 0 [])]]))) ∧ ((Inv (wadd .i64 x1 1) (wadd .i64 x2 1) (rset l x1 [S s, SL 1 l1, SL 1 l2])) ∧ (Nat.le (Nat.succ (m (wadd .i64 x1 1) (wadd .i64 x2 1) (rset l x1 [S s, SL 1 l1, SL 1 l2]))) (m x1 x2 l)))))) ((Sm (some ([[SV.gd 0 true (SL 0 [])]]))) ∧ ((Inv x1 (wadd .i64 x2 1) l) ∧ (Nat.le (Nat.succ (m x1 (wadd .i64 x2 1) l)) (m x1 x2 l)))))))))) (∀ x3, ((rlen l) ≤ x3) → (x3 ≤ 9223372036854775807) → (((0 : Int) ≤ x1) ∧ ((x1 ≤ (isub (rlen l) 0)) ∧ ((isub (rlen l) 0) ≤ (isub x3 0)))) ∧ (((lsum 0 x1) ≤ (rlen l)) ∧ ((((0 : Int) ≤ 0) ∧ (((0 : Int) ≤ x1) ∧ (x1 ≤ (isub x3 0)))) ∧ (((lsum 0 x1) ≤ (rlen (rput l (lsum 0 x1) (rrep (isub (rlen l) (lsum 0 x1)) ([S (ByteArray.mk (Array.mk [])), SL 1 [], SL 1 []]))))) ∧ (Q ([SV.slice 3 (rsub (rput l (lsum 0 x1) (rrep (isub (rlen l) (lsum 0 x1)) ([S (ByteArray.mk (Array.mk [])), SL 1 [], SL 1 []]))) 0 (lsum 0 x1)) 0]))))))))))) : Ct Tryz.prog 162 ⟨[.own], [.own]⟩ [SL 3 rows, .clo f cs] Q :=
 fn_of (f := 162) SgT SvT (fun k => bif Nat.beq k 3000000 then some ({} : LoopSpec) else none) Tryz.f162 Tryz.func162 (by kernel_rfl) (by kernel_rfl) h

theorem finsert_nf (rows : LL) (i : Int) (v : LL) (Q : List SV → Prop) (h : ∀ x, ((rlen rows) ≤ x) → (x ≤ 9223372036854775807) → (((0 : Int) ≤ i) ∧ ((i ≤ (isub (rlen rows) 0)) ∧ ((isub (rlen rows) 0) ≤ (isub x 0)))) ∧ (ifB (ieq (rlen v) 0) (((rlen rows) ≤ (rlen rows)) ∧ (Q [SL 3 (rsub rows 0 (rlen rows))])) (ifB (ieq i (isub (rlen rows) 0)) (((rlen rows) ≤ (rlen rows)) ∧ ((((lsum (rlen rows) (rlen v)) ≤ x) → ((lsum (rlen rows) (rlen v)) ≤ (rlen (rput rows (rlen rows) v))) ∧ (Q [SL 3 (rsub (rput rows (rlen rows) v) 0 (lsum (rlen rows) (rlen v)))])) ∧ ((x < (lsum (rlen rows) (rlen v))) → ((lsum (isub (rlen rows) 0) (rlen v)) ≤ ((2147483648 : Int))) ∧ (Q [SL 3 (rapp (rsub rows 0 (rlen rows)) v)])))) (ifB (igt (wadd .i64 (isub (rlen rows) 0) (rlen v)) (isub x 0)) ((((0 : Int) ≤ 0) ∧ (((0 : Int) ≤ i) ∧ (i ≤ (isub x 0)))) ∧ (((((0 : Int) ≤ (wsub .i64 (wadd .i64 (isub (rlen rows) 0) (rlen v)) i)) ∧ ((wsub .i64 (wadd .i64 (isub (rlen rows) 0) (rlen v)) i) ≤ ((2147483648 : Int)))) ∧ ((x < (lsum (lsum 0 i) (wsub .i64 (wadd .i64 (isub (rlen rows) 0) (rlen v)) i))) ∧ ((lsum (isub (lsum 0 i) ((0 : Int))) (wsub .i64 (wadd .i64 (isub (rlen rows) 0) (rlen v)) i)) ≤ ((2147483648 : Int))))) ∧ ((((lsum 0 i) ≤ (rlen rows)) → ∀ x1, ((lsum (isub (lsum 0 i) ((0 : Int))) (wsub .i64 (wadd .i64 (isub (rlen rows) 0) (rlen v)) i)) ≤ x1) → (x1 ≤ 9223372036854775807) → (((0 : Int) ≤ i) ∧ ((i ≤ (isub (lsum (isub (lsum 0 i) ((0 : Int))) (wsub .i64 (wadd .i64 (isub (rlen rows) 0) (rlen v)) i)) 0)) ∧ ((isub (lsum (isub (lsum 0 i) ((0 : Int))) (wsub .i64 (wadd .i64 (isub (rlen rows) 0) (rlen v)) i)) 0) ≤ (isub x1 0)))) ∧ ((((lsum 0 i) ≤ (rlen (rapp (rsub rows ((0 : Int)) (lsum 0 i)) (rrep (wsub .i64 (wadd .i64 (isub (rlen rows) 0) (rlen v)) i) ([S (ByteArray.mk (Array.mk [])), SL 1 [], SL 1 []]))))) ∧ ((rlen v) ≤ (isub (lsum (isub (lsum 0 i) ((0 : Int))) (wsub .i64 (wadd .i64 (isub (rlen rows) 0) (rlen v)) i)) (lsum 0 i)))) ∧ ((((0 : Int) ≤ (wadd .i64 i (rlen v))) ∧ (((wadd .i64 i (rlen v)) ≤ (isub (lsum (isub (lsum 0 i) ((0 : Int))) (wsub .i64 (wadd .i64 (isub (rlen rows) 0) (rlen v)) i)) 0)) ∧ ((isub (lsum (isub (lsum 0 i) ((0 : Int))) (wsub .i64 (wadd .i64 (isub (rlen rows) 0) (rlen v)) i)) 0) ≤ (isub x1 0)))) ∧ ((((0 : Int) ≤ i) ∧ ((i ≤ (isub (rlen rows) 0)) ∧ ((isub (rlen rows) 0) ≤ (isub x 0)))) ∧ ((((lsum 0 (wadd .i64 i (rlen v))) ≤ (rlen (rput (rapp (rsub rows ((0 : Int)) (lsum 0 i)) (rrep (wsub .i64 (wadd .i64 (isub (rlen rows) 0) (rlen v)) i) ([S (ByteArray.mk (Array.mk [])), SL 1 [], SL 1 []]))) (lsum 0 i) v))) ∧ ((lsum (lsum 0 i) (imin (isub (rlen rows) (lsum 0 i)) (isub (lsum (isub (lsum 0 i) ((0 : Int))) (wsub .i64 (wadd .i64 (isub (rlen rows) 0) (rlen v)) i)) (lsum 0 (wadd .i64 i (rlen v)))))) ≤ (rlen rows))) ∧ (((lsum (isub (lsum 0 i) ((0 : Int))) (wsub .i64 (wadd .i64 (isub (rlen rows) 0) (rlen v)) i)) ≤ (rlen (rput (rput (rapp (rsub rows ((0 : Int)) (lsum 0 i)) (rrep (wsub .i64 (wadd .i64 (isub (rlen rows) 0) (rlen v)) i) ([S (ByteArray.mk (Array.mk [])), SL 1 [], SL 1 []]))) (lsum 0 i) v) (lsum 0 (wadd .i64 i (rlen v))) (rsub rows (lsum 0 i) (lsum (lsum 0 i) (imin (isub (rlen rows) (lsum 0 i)) (isub (lsum (isub (lsum 0 i) ((0 : Int))) (wsub .i64 (wadd .i64 (isub (rlen rows) 0) (rlen v)) i)) (lsum 0 (wadd .i64 i (rlen v)))))))))) ∧ (Q ([SV.slice 3 (rsub (rput (rput (rapp (rsub rows ((0 : Int)) (lsum 0 i)) (rrep (wsub .i64 (wadd .i64 (isub (rlen rows) 0) (rlen v)) i) ([S (ByteArray.mk (Array.mk [])), SL 1 [], SL 1 []]))) (lsum 0 i) v) (lsum 0 (wadd .i64 i (rlen v))) (rsub rows (lsum 0 i) (lsum (lsum 0 i) (imin (isub (rlen rows) (lsum 0 i)) (isub (lsum (isub (lsum 0 i) ((0 : Int))) (wsub .i64 (wadd .i64 (isub (rlen rows) 0) (rlen v)) i)) (lsum 0 (wadd .i64 i (rlen v)))))))) 0 (lsum (isub (lsum 0 i) ((0 : Int))) (wsub .i64 (wadd .i64 (isub (rlen rows) 0) (rlen v)) i))) 0])))))))) ∧ (((rlen rows) < (lsum 0 i)) → ∀ x1, ((lsum (isub (lsum 0 i) ((0 : Int))) (wsub .i64 (wadd .i64 (isub (rlen rows) 0) (rlen v)) i)) ≤ x1) → (x1 ≤ 9223372036854775807) → (((0 : Int) ≤ i) ∧ ((i ≤ (isub (lsum (isub (lsum 0 i) ((0 : Int))) (wsub .i64 (wadd .i64 (isub (rlen rows) 0) (rlen v)) i)) 0)) ∧ ((isub (lsum (isub (lsum 0 i) ((0 : Int))) (wsub .i64 (wadd .i64 (isub (rlen rows) 0) (rlen v)) i)) 0) ≤ (isub x1 0)))) ∧ ((((lsum 0 i) ≤ (rlen (rsub rows ((0 : Int)) (rlen rows)))) ∧ ((rlen v) ≤ (isub (lsum (isub (lsum 0 i) ((0 : Int))) (wsub .i64 (wadd .i64 (isub (rlen rows) 0) (rlen v)) i)) (lsum 0 i)))) ∧ ((((0 : Int) ≤ (wadd .i64 i (rlen v))) ∧ (((wadd .i64 i (rlen v)) ≤ (isub (lsum (isub (lsum 0 i) ((0 : Int))) (wsub .i64 (wadd .i64 (isub (rlen rows) 0) (rlen v)) i)) 0)) ∧ ((isub (lsum (isub (lsum 0 i) ((0 : Int))) (wsub .i64 (wadd .i64 (isub (rlen rows) 0) (rlen v)) i)) 0) ≤ (isub x1 0)))) ∧ ((((0 : Int) ≤ i) ∧ ((i ≤ (isub (rlen rows) 0)) ∧ ((isub (rlen rows) 0) ≤ (isub x 0)))) ∧ ((((lsum 0 (wadd .i64 i (rlen v))) ≤ (rlen (rput (rsub rows ((0 : Int)) (rlen rows)) (lsum 0 i) v))) ∧ ((lsum (lsum 0 i) (imin (isub (rlen rows) (lsum 0 i)) (isub (lsum (isub (lsum 0 i) ((0 : Int))) (wsub .i64 (wadd .i64 (isub (rlen rows) 0) (rlen v)) i)) (lsum 0 (wadd .i64 i (rlen v)))))) ≤ (rlen rows))) ∧ (((lsum (isub (lsum 0 i) ((0 : Int))) (wsub .i64 (wadd .i64 (isub (rlen rows) 0) (rlen v)) i)) ≤ (rlen (rput (rput (rsub rows ((0 : Int)) (rlen rows)) (lsum 0 i) v) (lsum 0 (wadd .i64 i (rlen v))) (rsub rows (lsum 0 i) (lsum (lsum 0 i) (imin (isub (rlen rows) (lsum 0 i)) (isub (lsum (isub (lsum 0 i) ((0 : Int))) (wsub .i64 (wadd .i64 (isub (rlen rows) 0) (rlen v)) i)) (lsum 0 (wadd .i64 i (rlen v)))))))))) ∧ (Q [SV.slice 3 (rsub (rput (rput (rsub rows ((0 : Int)) (rlen rows)) (lsum 0 i) v) (lsum 0 (wadd .i64 i (rlen v))) (rsub rows (lsum 0 i) (lsum (lsum 0 i) (imin (isub (rlen rows) (lsum 0 i)) (isub (lsum (isub (lsum 0 i) ((0 : Int))) (wsub .i64 (wadd .i64 (isub (rlen rows) 0) (rlen v)) i)) (lsum 0 (wadd .i64 i (rlen v)))))))) 0 (lsum (isub (lsum 0 i) ((0 : Int))) (wsub .i64 (wadd .i64 (isub (rlen rows) 0) (rlen v)) i))) 0])))))))))) ((((0 : Int) ≤ 0) ∧ (((0 : Int) ≤ (wadd .i64 (isub (rlen rows) 0) (rlen v))) ∧ ((wadd .i64 (isub (rlen rows) 0) (rlen v)) ≤ (isub x 0)))) ∧ ((((0 : Int) ≤ (wadd .i64 i (rlen v))) ∧ (((wadd .i64 i (rlen v)) ≤ (isub (lsum 0 (wadd .i64 (isub (rlen rows) 0) (rlen v))) ((0 : Int)))) ∧ ((isub (lsum 0 (wadd .i64 (isub (rlen rows) 0) (rlen v))) ((0 : Int))) ≤ (isub x ((0 : Int)))))) ∧ ((fovl Tryz.prog 233 53) ∧ (ifB (bnot false) ((((0 : Int) ≤ (wadd .i64 i (rlen v))) ∧ (((wadd .i64 i (rlen v)) ≤ (isub (lsum 0 (wadd .i64 (isub (rlen rows) 0) (rlen v))) ((0 : Int)))) ∧ ((isub (lsum 0 (wadd .i64 (isub (rlen rows) 0) (rlen v))) ((0 : Int))) ≤ (isub x ((0 : Int)))))) ∧ ((((0 : Int) ≤ i) ∧ ((i ≤ (isub (lsum 0 (wadd .i64 (isub (rlen rows) 0) (rlen v))) ((0 : Int)))) ∧ ((isub (lsum 0 (wadd .i64 (isub (rlen rows) 0) (rlen v))) ((0 : Int))) ≤ (isub x ((0 : Int)))))) ∧ ((((lsum ((0 : Int)) (wadd .i64 i (rlen v))) ≤ (rlen rows)) ∧ ((lsum (lsum ((0 : Int)) i) (imin (isub (lsum 0 (wadd .i64 (isub (rlen rows) 0) (rlen v))) (lsum ((0 : Int)) i)) (isub (lsum 0 (wadd .i64 (isub (rlen rows) 0) (rlen v))) (lsum ((0 : Int)) (wadd .i64 i (rlen v)))))) ≤ (rlen rows))) ∧ ((((0 : Int) ≤ i) ∧ ((i ≤ (isub (lsum 0 (wadd .i64 (isub (rlen rows) 0) (rlen v))) ((0 : Int)))) ∧ ((isub (lsum 0 (wadd .i64 (isub (rlen rows) 0) (rlen v))) ((0 : Int))) ≤ (isub x ((0 : Int)))))) ∧ ((((lsum ((0 : Int)) i) ≤ (rlen (rput rows (lsum ((0 : Int)) (wadd .i64 i (rlen v))) (rsub rows (lsum ((0 : Int)) i) (lsum (lsum ((0 : Int)) i) (imin (isub (lsum 0 (wadd .i64 (isub (rlen rows) 0) (rlen v))) (lsum ((0 : Int)) i)) (isub (lsum 0 (wadd .i64 (isub (rlen rows) 0) (rlen v))) (lsum ((0 : Int)) (wadd .i64 i (rlen v)))))))))) ∧ ((rlen v) ≤ (isub (lsum 0 (wadd .i64 (isub (rlen rows) 0) (rlen v))) (lsum ((0 : Int)) i)))) ∧ (((lsum 0 (wadd .i64 (isub (rlen rows) 0) (rlen v))) ≤ (rlen (rput (rput rows (lsum ((0 : Int)) (wadd .i64 i (rlen v))) (rsub rows (lsum ((0 : Int)) i) (lsum (lsum ((0 : Int)) i) (imin (isub (lsum 0 (wadd .i64 (isub (rlen rows) 0) (rlen v))) (lsum ((0 : Int)) i)) (isub (lsum 0 (wadd .i64 (isub (rlen rows) 0) (rlen v))) (lsum ((0 : Int)) (wadd .i64 i (rlen v)))))))) (lsum ((0 : Int)) i) v))) ∧ (Q [SV.slice 3 (rsub (rput (rput rows (lsum ((0 : Int)) (wadd .i64 i (rlen v))) (rsub rows (lsum ((0 : Int)) i) (lsum (lsum ((0 : Int)) i) (imin (isub (lsum 0 (wadd .i64 (isub (rlen rows) 0) (rlen v))) (lsum ((0 : Int)) i)) (isub (lsum 0 (wadd .i64 (isub (rlen rows) 0) (rlen v))) (lsum ((0 : Int)) (wadd .i64 i (rlen v)))))))) (lsum ((0 : Int)) i) v) 0 (lsum 0 (wadd .i64 (isub (rlen rows) 0) (rlen v)))) 0]))))))) ((((0 : Int) ≤ (isub (rlen rows) 0)) ∧ (((isub (rlen rows) 0) ≤ (isub (lsum 0 (wadd .i64 (isub (rlen rows) 0) (rlen v))) ((0 : Int)))) ∧ ((isub (lsum 0 (wadd .i64 (isub (rlen rows) 0) (rlen v))) ((0 : Int))) ≤ (isub x ((0 : Int)))))) ∧ ((((lsum ((0 : Int)) (isub (rlen rows) 0)) ≤ (rlen rows)) ∧ ((rlen v) ≤ (isub (lsum 0 (wadd .i64 (isub (rlen rows) 0) (rlen v))) (lsum ((0 : Int)) (isub (rlen rows) 0))))) ∧ ((((0 : Int) ≤ i) ∧ ((i ≤ (isub (lsum 0 (wadd .i64 (isub (rlen rows) 0) (rlen v))) ((0 : Int)))) ∧ ((isub (lsum 0 (wadd .i64 (isub (rlen rows) 0) (rlen v))) ((0 : Int))) ≤ (isub x ((0 : Int)))))) ∧ False))))))))))) : Ct Tryz.prog 211 ⟨[.own], [.own]⟩ [SL 3 rows, I i, SL 3 v] Q :=
 fn_of (f := 211) SgT SvT (fun k => bif Nat.beq k 3000000 then some ({} : LoopSpec) else none) Tryz.f211 Tryz.func211 (by kernel_rfl) (by kernel_rfl) h

theorem findex_nf (rows : LL) (f : FuncId) (cs : List SV) (Q : List SV → Prop) (h : ∃ Inv : Int → Int → Prop, ∃ m : Int → Int → Nat, (Inv 0 0) ∧ (∀ x x1, (Inv x x1) → ifB (ilt x1 (rlen rows)) ((((0 : Int) ≤ x1) ∧ (x1 < (rlen rows))) ∧ (∃ s l l1, (rget rows x1 = [S s, SL 1 l, SL 1 l1]) ∧ (Cl Tryz.prog f sP ((SV.agg [S s, SL 1 l, SL 1 l1]) :: cs) (fun rs => ∃ b, (rs = [B b]) ∧ (ifB b (Q [I x1]) (((Option.some [] : Option (LL)) = Option.some []) ∧ ((Inv x (wadd .i64 x1 1)) ∧ (Nat.le (Nat.succ (m x (wadd .i64 x1 1))) (m x x1))))))))) (Q [I ((-1 : Int))]))) : Ct Tryz.prog 179 {} [SL 3 rows, .clo f cs] Q :=
 fn_of (f := 179) SgT SvT (fun _ => none) Tryz.f179 Tryz.func179 (by kernel_rfl) (by kernel_rfl) h


theorem isub_eq (a b : Int) : isub a b = a - b := rfl
theorem rput_len (R Z : List (List SV)) (k : Nat) (hk : k ≤ R.length) : (rput R k Z).length = k + Z.length + (R.length - (k + Z.length)) := by
 simp [rput]; omega
theorem rput_take (R Z : List (List SV)) (k : Nat) (hk : k ≤ R.length) : (rput R k Z).take k = R.take k := by
 simp only [rput, Int.toNat_natCast]
 rw [List.append_assoc, List.take_append_of_le_length (by simp; omega), List.take_take]
 simp
theorem rput_take2 (R Z : List (List SV)) (k : Nat) (hk : k ≤ R.length) : (rput R k Z).take (k + Z.length) = R.take k ++ Z := by
 simp only [rput, Int.toNat_natCast]
 rw [List.take_append_of_le_length (by simp; omega)]
 rw [List.take_of_length_le (by simp; omega)]
theorem rsub0 (R : List (List SV)) (k : Nat) : rsub R 0 (k : Int) = R.take k := by simp [rsub]
theorem rsubE (R : List (List SV)) (k : Nat) : rsub R (k : Int) (R.length : Int) = R.drop k := by simp [rsub]

theorem fdelete_fn (rows : List (List SV)) (i j : Nat) (hij : i ≤ j) (hj : j ≤ rows.length) : Ct Tryz.prog 156 OO [SL 3 rows, I i, I j] (fun r => r = [SL 3 (rows.take i ++ rows.drop j)]) := by
 refine fdelete_nf _ _ _ _ fun x hx hxm => ?_
 simp only [rlen_eq, lsum_eq, isub_eq, Int.zero_add, Int.sub_zero, Int.sub_self, rsubE] at hx ⊢
 refine ⟨⟨by omega, by omega, by omega, by omega⟩, ifB_intro (fun h => ⟨by omega, ?_⟩) (fun h => ⟨⟨by omega, by omega, by omega⟩, ⟨by omega, by omega, by omega⟩, by omega, by omega, fun h1 => ?_, fun h1 => ?_⟩)⟩
 ·simp at h
  have : i = j := by omega
  subst this
  rw [rsub0]
  simp
 ·have e1 : ((i : Int) + ((rows.drop j).length : Int)) = ((i + (rows.drop j).length : Nat) : Int) := by simp
  rw [e1] at h1 ⊢
  have hl1 : i + (rows.drop j).length ≤ (rput rows i (rows.drop j)).length := by rw [rput_len _ _ _ (by omega)]; omega
  refine ⟨⟨by omega, by simp; omega, by omega⟩, by omega, ?_, ?_⟩
  ·rw [rput_len _ _ _ hl1]; omega
  ·rw [rsub0, rput_take _ _ _ hl1, rput_take2 _ _ _ (by omega)]
 ·exfalso
  simp at h1
  omega

def isFil (r : List SV) : Prop := ∃ s l1 l2, r = [S s, SL 1 l1, SL 1 l2]

theorem findex_fn (rows : List (List SV)) (f : FuncId) (cs : List SV) (p : List SV → Bool) (hlen : rows.length ≤ 1000000) (hf : ∀ r ∈ rows, isFil r ∧ Ct Tryz.prog f sP (.agg r :: cs) (fun x => x = [B (p r)])) :
  Ct Tryz.prog 179 sP [SL 3 rows, .clo f cs] (fun r => ∃ x : Int, r = [I x] ∧ ((x = -1 ∧ ∀ r ∈ rows, p r = false) ∨ (0 ≤ x ∧ x < rows.length ∧ (∀ r ∈ rows.take x.toNat, p r = false) ∧ p (rget rows x) = true))) := by
 refine findex_nf _ _ _ _ ⟨fun _ x => 0 ≤ x ∧ x ≤ rows.length ∧ ∀ r ∈ rows.take x.toNat, p r = false, fun _ x => (rows.length - x).toNat, ⟨by omega, by omega, by simp⟩, ?_⟩
 rintro _ x ⟨h0, h1, hp⟩
 refine ifB_intro (fun h => ?_) (fun h => ?_)
 ·simp at h
  have hlt : x.toNat < rows.length := by omega
  have hg : rget rows x = rows[x.toNat] := by simp [rget, hlt]
  obtain ⟨⟨s, l1, l2, e⟩, hc⟩ := hf _ (List.getElem_mem hlt)
  rw [e] at hc
  refine ⟨⟨h0, by simpa using h⟩, s, l1, l2, hg.trans e, Cl.of hc ⟨_, rfl, ifB_intro (fun hb => ?_) (fun hb => ⟨rfl, ?_, ?_⟩)⟩⟩
  ·exact ⟨x, rfl, .inr ⟨h0, h, hp, by rw [hg, e]; exact hb⟩⟩
  ·have w : wadd IntKind.i64 x 1 = x + 1 := wadd_i64 (by omega) (by omega)
   rw [w]
   refine ⟨by omega, by omega, fun r hr => ?_⟩
   rw [show (x + 1).toNat = x.toNat + 1 by omega, List.take_add_one, List.getElem?_eq_getElem hlt] at hr
   rcases List.mem_append.1 hr with hr | hr
   ·exact hp r hr
   ·simp at hr; subst hr; rw [e]; exact hb
  ·have w : wadd IntKind.i64 x 1 = x + 1 := wadd_i64 (by omega) (by omega)
   rw [w]; show ((rows.length : Int) - (x + 1)).toNat + 1 ≤ ((rows.length : Int) - x).toNat; omega
 ·simp at h
  refine ⟨-1, rfl, .inl ⟨rfl, fun r hr => hp r ?_⟩⟩
  rw [show x.toNat = rows.length by omega, List.take_length]
  exact hr

theorem filter_take {rows : List (List SV)} {p : List SV → Bool} (n : Nat) (h : ∀ r ∈ rows.take n, p r = false) : (rows.take n).filter (fun r => !p r) = rows.take n := by
 rw [List.filter_eq_self]
 intro r hr
 simp [h r hr]

theorem fdelf_fn (rows : List (List SV)) (f : FuncId) (cs : List SV) (p : List SV → Bool) (hlen : rows.length ≤ 1000000) (hf : ∀ r ∈ rows, isFil r ∧ Ct Tryz.prog f sP (.agg r :: cs) (fun x => x = [B (p r)])) :
  Ct Tryz.prog 162 OO [SL 3 rows, .clo f cs] (fun r => r = [SL 3 (rows.filter fun r => !p r)]) := by
 refine fdelf_nf _ _ _ _ (Cl.ofQ (findex_fn rows f cs p hlen hf) ?_)
 rintro _ ⟨x, rfl, hx⟩
 refine ⟨x, rfl, ifB_intro (fun h => ?_) (fun h => ?_)⟩
 ·simp at h
  rcases hx with ⟨_, hx⟩ | ⟨h0, _⟩
  ·have : (rows.filter fun r => !p r) = rows := by rw [List.filter_eq_self]; intro r hr; simp [hx r hr]
   rw [this]
  ·omega
 ·simp at h
  rcases hx with ⟨h0, _⟩ | ⟨h0, h1, h2, h3⟩
  ·omega
  have hlt : x.toNat < rows.length := by omega
  have hg : rget rows x = rows[x.toNat] := by simp [rget, hlt]
  rw [hg] at h3
  have wa : ∀ y : Int, 0 ≤ y → y ≤ 1000000 → wadd IntKind.i64 y 1 = y + 1 := fun y a b => wadd_i64 (by omega) (by omega)
  refine ⟨fun x1 x2 l => l.length = rows.length ∧ 0 ≤ x1 ∧ x1 < x2 ∧ x2 ≤ rows.length ∧ l.take x1.toNat = (rows.take x2.toNat).filter (fun r => !p r) ∧ l.drop x2.toNat = rows.drop x2.toNat, fun _ x2 _ => (rows.length - x2).toNat, ?_, ?_⟩
  ·rw [wa x h0 (by omega)]
   refine ⟨rfl, h0, by omega, by omega, ?_, rfl⟩
   rw [show (x + 1).toNat = x.toNat + 1 by omega, List.take_add_one, List.getElem?_eq_getElem hlt, List.filter_append, filter_take _ h2]
   simp [h3]
  ·rintro x1 x2 l ⟨i1, i2, i3, i4, i5, i6⟩
   refine ifB_intro (fun h => ?_) (fun h => ?_)
   ·simp at h
    have hl2 : x2.toNat < rows.length := by omega
    have hgl : rget l x2 = rows[x2.toNat] := by
     have : l[x2.toNat]? = rows[x2.toNat]? := by
      have e := congrArg (fun z => z[0]?) i6
      simpa using e
     simp [rget, this, hl2]
    obtain ⟨⟨s, l1, l2, e⟩, hc⟩ := hf _ (List.getElem_mem hl2)
    rw [e] at hc
    have tk : (rows.take (x2 + 1).toNat).filter (fun r => !p r) = (rows.take x2.toNat).filter (fun r => !p r) ++ (if p rows[x2.toNat] then [] else [rows[x2.toNat]]) := by
     rw [show (x2 + 1).toNat = x2.toNat + 1 by omega, List.take_add_one, List.getElem?_eq_getElem hl2, List.filter_append]
     congr 1
     cases hp : p rows[x2.toNat] <;> simp [hp]
    have dr : ∀ l' : List (List SV), l'.drop x2.toNat = rows.drop x2.toNat → l'.drop (x2 + 1).toNat = rows.drop (x2 + 1).toNat := fun l' e => by
     rw [show (x2 + 1).toNat = x2.toNat + 1 by omega, ← List.drop_drop, ← List.drop_drop, e]
    refine ⟨⟨by omega, by simpa using h⟩, ⟨by omega, by simpa using h⟩, s, l1, l2, hgl.trans e, Cl.of hc ⟨_, rfl, ifB_intro (fun hb => ?_) (fun hb => ⟨rfl, ?_, ?_⟩)⟩⟩
    ·simp at hb
     rw [wa x2 (by omega) (by omega), wa x1 (by omega) (by omega)]
     refine ⟨⟨i2, by simp; omega⟩, ⟨i2, by simp; omega⟩, rfl, ⟨by simp [rset, i1], by omega, by omega, by omega, ?_, ?_⟩, by show ((rows.length : Int) - (x2 + 1)).toNat + 1 ≤ ((rows.length : Int) - x2).toNat; omega⟩
     ·rw [tk, ← i5, e, hb, show (x1 + 1).toNat = x1.toNat + 1 by omega]
      simp only [rset, Bool.false_eq_true, if_false]
      rw [List.take_add_one, List.getElem?_set_self (by omega), List.take_set_of_le (by omega)]
      rfl
     ·apply dr
      simp only [rset]
      rw [List.drop_set_of_lt (by omega)]
      exact i6
    ·simp at hb
     rw [wa x2 (by omega) (by omega)]
     refine ⟨i1, i2, by omega, by omega, ?_, dr l i6⟩
     rw [tk, i5, e, hb]; simp
    ·rw [wa x2 (by omega) (by omega)]
     show ((rows.length : Int) - (x2 + 1)).toNat + 1 ≤ ((rows.length : Int) - x2).toNat; omega
   ·simp at h
    intro x3 hx3 hxm3
    simp only [rlen_eq, lsum_eq, isub_eq, Int.zero_add, Int.sub_zero] at hx3 ⊢
    obtain ⟨k, rfl⟩ : ∃ k : Nat, x1 = k := ⟨x1.toNat, by omega⟩
    have hk : k ≤ l.length := by omega
    refine ⟨⟨i2, by omega, by omega⟩, by omega, ⟨by omega, i2, by omega⟩, ?_, ?_⟩
    ·rw [rput_len _ _ _ hk]; omega
    ·rw [rsub0, rput_take _ _ _ hk]
     have : x2.toNat = rows.length := by omega
     rw [this, List.take_length] at i5
     simp only [Int.toNat_natCast] at i5
     rw [i5]


theorem finsert_fn (rows : List (List SV)) (i : Nat) (r : List SV) (hi : i ≤ rows.length) (hlen : rows.length ≤ 1000000) (ho : fovl Tryz.prog 233 53) :
  Ct Tryz.prog 211 OO [SL 3 rows, I i, SL 3 [r]] (fun x => x = [SL 3 (rows.take i ++ r :: rows.drop i)]) := by
 refine finsert_nf _ _ _ _ fun x hx hxm => ?_
 have w1 : wadd IntKind.i64 (rows.length : Int) 1 = rows.length + 1 := wadd_i64 (by omega) (by omega)
 have w2 : wadd IntKind.i64 (i : Int) 1 = i + 1 := wadd_i64 (by omega) (by omega)
 have w3 : wsub IntKind.i64 ((rows.length : Int) + 1) i = rows.length + 1 - i := wsub_i64 (by omega) (by omega)
 have hone : (([r] : List (List SV)).length : Int) = 1 := rfl
 simp only [rlen_eq, lsum_eq, isub_eq, Int.zero_add, Int.sub_zero, hone, w1, w2, w3, imin_eq] at hx ⊢
 refine ⟨⟨by omega, by omega, by omega⟩, ifB_intro (fun h => ?_) (fun _ => ifB_intro (fun h => ⟨by omega, fun h1 => ⟨?_, ?_⟩, fun h1 => ⟨by omega, ?_⟩⟩) (fun h => ifB_intro (fun h1 => ?_) (fun h1 => ?_)))⟩
 ·simp at h
 ·rw [rput_len _ _ _ (Nat.le_refl _)]; simp
 ·simp at h
  have h : i = rows.length := by omega
  subst h
  rw [show ((rows.length : Int) + 1) = ((rows.length + 1 : Nat) : Int) by simp, rsub0, show rows.length + 1 = rows.length + [r].length from rfl, rput_take2 _ _ _ (Nat.le_refl _)]
  simp
 ·simp at h
  have h : i = rows.length := by omega
  subst h
  simp [rapp, rsub]
 ·simp at h h1
  have e0 : (i : Int) + ((rows.length : Int) + 1 - i) = ((rows.length + 1 : Nat) : Int) := by omega
  have e1 : rrep ((rows.length : Int) + 1 - i) ([S (ByteArray.mk (Array.mk [])), SL 1 [], SL 1 []]) = List.replicate (rows.length + 1 - i) ([S (ByteArray.mk (Array.mk [])), SL 1 [], SL 1 []]) := by unfold rrep; congr 1; omega
  have e2 : (i : Int) + min ((rows.length : Int) - i) (((rows.length + 1 : Nat) : Int) - ((i + 1 : Nat) : Int)) = rows.length := by omega
  have e3 : ((i : Int) + 1) = ((i + 1 : Nat) : Int) := by simp
  simp only [e0, e1, rsub0, e3, e2, rsubE]
  have l0 : (rapp (rows.take i) (List.replicate (rows.length + 1 - i) ([S (ByteArray.mk (Array.mk [])), SL 1 [], SL 1 []]))).length = rows.length + 1 := by simp [rapp]; omega
  have l1 : (rput (rapp (rows.take i) (List.replicate (rows.length + 1 - i) ([S (ByteArray.mk (Array.mk [])), SL 1 [], SL 1 []]))) i [r]).length = rows.length + 1 := by rw [rput_len _ _ _ (by omega), l0]; simp; omega
  have l2 : (rput (rput (rapp (rows.take i) (List.replicate (rows.length + 1 - i) ([S (ByteArray.mk (Array.mk [])), SL 1 [], SL 1 []]))) i [r]) ((i + 1 : Nat) : Int) (rows.drop i)).length = rows.length + 1 := by rw [rput_len _ _ _ (by omega), l1]; simp; omega
  refine ⟨⟨by omega, by omega, by omega⟩, ⟨⟨by omega, by omega⟩, by omega, by omega⟩, fun h2 x1 hx1 hxm1 => ⟨⟨by omega, by omega, by omega⟩, ⟨by rw [l0]; omega, by omega⟩, ⟨by omega, by omega, by omega⟩, ⟨by omega, by omega, by omega⟩, ⟨by rw [l1]; omega, by omega⟩, by rw [l2]; omega, ?_⟩, fun h2 => by omega⟩
  have t2 := rput_take2 (rput (rapp (rows.take i) (List.replicate (rows.length + 1 - i) ([S (ByteArray.mk (Array.mk [])), SL 1 [], SL 1 []]))) i [r]) (rows.drop i) (i + 1) (by rw [l1]; omega)
  rw [show (i + 1) + (rows.drop i).length = rows.length + 1 by simp; omega] at t2
  have t1 := rput_take2 (rapp (rows.take i) (List.replicate (rows.length + 1 - i) ([S (ByteArray.mk (Array.mk [])), SL 1 [], SL 1 []]))) [r] i (by rw [l0]; omega)
  rw [t2, show i + 1 = i + [r].length from rfl, t1]
  simp [rapp, hi]
 ·simp at h h1
  have hlt : i < rows.length := by omega
  have e2 : (i : Int) + min ((rows.length : Int) + 1 - i) ((rows.length : Int) + 1 - (i + 1)) = rows.length := by omega
  have e3 : ((i : Int) + 1) = ((i + 1 : Nat) : Int) := by simp
  have e4 : ((rows.length : Int) + 1) = ((rows.length + 1 : Nat) : Int) := by simp
  simp only [e2, rsubE]
  have l1 : (rput rows ((i : Int) + 1) (rows.drop i)).length = rows.length + 1 := by rw [e3, rput_len _ _ _ (by omega)]; simp; omega
  have l2 : (rput (rput rows ((i : Int) + 1) (rows.drop i)) (i : Int) [r]).length = rows.length + 1 := by rw [rput_len _ _ _ (by omega), l1]; simp; omega
  refine ⟨⟨by omega, by omega, by omega⟩, ⟨by omega, by omega, by omega⟩, ho, ifB_intro (fun _ => ⟨⟨by omega, by omega, by omega⟩, ⟨by omega, by omega, by omega⟩, ⟨by omega, by omega⟩, ⟨by omega, by omega, by omega⟩, ⟨by rw [l1]; omega, by omega⟩, by rw [l2]; omega, ?_⟩) (fun hb => by simp at hb)⟩
  rw [e4, rsub0, List.take_of_length_le (by rw [l2]; exact Nat.le_refl _)]
  have d0 : rows.drop (i + 1 + (rows.drop i).length) = [] := List.drop_eq_nil_of_le (by simp; omega)
  simp only [rput, e3, Int.toNat_natCast, d0, List.append_nil]
  rw [List.take_append_of_le_length (by simp; omega), List.take_take, Nat.min_eq_left (by omega), List.drop_append_of_le_length (by simp; omega), List.drop_of_length_le (by simp; omega)]
  simp

end Go.Proofs.YtbocfphenkidnaaGreatDoor.Ins

namespace Go.Proofs.YtbocfphenkidnaaGreatDoor.Dsk
open Go Go.Px Go.Proofs
set_option maxRecDepth 100000
set_option linter.unusedVariables false

abbrev dsk4 (rows : List (List SV)) (room steps : Int) (down : Bool) : SV := .agg [SL 3 rows, I room, I steps, B down]
abbrev fil3 (nm : ByteArray) (a b : List (List SV)) : SV := .agg [S nm, SL 1 a, SL 1 b]
abbrev do5 (k f t n : Int) (x : List (List SV)) : SV := .agg [U8 k, U8 f, U8 t, U8 n, SL 1 x]
def SgT : FuncId → Sig := (fun f => bif Nat.beq f 159 then ⟨[.own], [.own]⟩ else bif Nat.beq f 102 then ⟨[], [.own]⟩ else bif Nat.beq f 101 then ⟨[], [.own]⟩ else bif Nat.beq f 161 then ⟨[.own], [.own]⟩ else bif Nat.beq f 162 then ⟨[.own], [.own]⟩ else bif Nat.beq f 158 then ⟨[.own], [.own]⟩ else bif Nat.beq f 157 then ⟨[.own], [.own]⟩ else bif Nat.beq f 160 then ⟨[.own], [.own]⟩ else bif Nat.beq f 155 then ⟨[.own], [.own]⟩ else bif Nat.beq f 156 then ⟨[.own], [.own]⟩ else bif Nat.beq f 176 then ⟨[.own], [.own]⟩ else bif Nat.beq f 211 then ⟨[.own], [.own]⟩ else bif Nat.beq f 137 then ⟨[], [.own]⟩ else {})
def SvT : TypeId → Sig := (fun f => bif Nat.beq f 53 then ⟨[.own], [.own]⟩ else {})
theorem grow_nf (rows : LL) (n : Int) (Q : List SV → Prop) (h : ifB (ilt n 0) False (∀ x, ((rlen rows) ≤ x) → (x ≤ 9223372036854775807) → ifB (igt (wsub .i64 n (wsub .i64 x (isub (rlen rows) 0))) 0) ((((0 : Int) ≤ 0) ∧ (((0 : Int) ≤ (isub x 0)) ∧ ((isub x 0) ≤ (isub x 0)))) ∧ (((((0 : Int) ≤ (wsub .i64 n (wsub .i64 x (isub (rlen rows) 0)))) ∧ ((wsub .i64 n (wsub .i64 x (isub (rlen rows) 0))) ≤ ((2147483648 : Int)))) ∧ ((x < (lsum (lsum 0 (isub x 0)) (wsub .i64 n (wsub .i64 x (isub (rlen rows) 0))))) ∧ ((lsum (isub (lsum 0 (isub x 0)) ((0 : Int))) (wsub .i64 n (wsub .i64 x (isub (rlen rows) 0)))) ≤ ((2147483648 : Int))))) ∧ ((((lsum 0 (isub x 0)) ≤ (rlen rows)) → ∀ x1, ((lsum (isub (lsum 0 (isub x 0)) ((0 : Int))) (wsub .i64 n (wsub .i64 x (isub (rlen rows) 0)))) ≤ x1) → (x1 ≤ 9223372036854775807) → (((0 : Int) ≤ 0) ∧ (((0 : Int) ≤ (isub (rlen rows) 0)) ∧ ((isub (rlen rows) 0) ≤ (isub x1 0)))) ∧ (((lsum 0 (isub (rlen rows) 0)) ≤ (rlen (rapp (rsub rows ((0 : Int)) (lsum 0 (isub x 0))) (rrep (wsub .i64 n (wsub .i64 x (isub (rlen rows) 0))) [U8 0])))) ∧ (Q ([SV.slice 1 (rsub (rapp (rsub rows ((0 : Int)) (lsum 0 (isub x 0))) (rrep (wsub .i64 n (wsub .i64 x (isub (rlen rows) 0))) [U8 0])) 0 (lsum 0 (isub (rlen rows) 0))) 0])))) ∧ (((rlen rows) < (lsum 0 (isub x 0))) → ∀ x1, ((lsum (isub (lsum 0 (isub x 0)) ((0 : Int))) (wsub .i64 n (wsub .i64 x (isub (rlen rows) 0)))) ≤ x1) → (x1 ≤ 9223372036854775807) → (((0 : Int) ≤ 0) ∧ (((0 : Int) ≤ (isub (rlen rows) 0)) ∧ ((isub (rlen rows) 0) ≤ (isub x1 0)))) ∧ (((lsum 0 (isub (rlen rows) 0)) ≤ (rlen (rsub rows ((0 : Int)) (rlen rows)))) ∧ (Q [SV.slice 1 (rsub (rsub rows ((0 : Int)) (rlen rows)) 0 (lsum 0 (isub (rlen rows) 0))) 0])))))) (((rlen rows) ≤ (rlen rows)) ∧ (Q [SL 1 (rsub rows 0 (rlen rows))])))) : Ct Tryz.prog 176 ⟨[.own], [.own]⟩ [SL 1 rows, I n] Q :=
 fn_of (f := 176) SgT SvT (fun k => bif Nat.beq k 3000000 then some ({} : LoopSpec) else none) Tryz.f176 Tryz.func176 (by kernel_rfl) (by kernel_rfl) h

theorem concat_nf (rows : LL) (Q : List SV → Prop) (h : ∃ Inv : Int → Int → Prop, ∃ m : Int → Int → Nat, (Inv 0 0) ∧ (∀ x x1, (Inv x x1) → ifB (ilt x1 (rlen rows)) ((((0 : Int) ≤ x1) ∧ (x1 < (rlen rows))) ∧ (∃ l, (rget rows x1 = [SL 1 l]) ∧ (ifB (ilt (wadd .i64 x (rlen l)) 0) False (((Option.some [] : Option (LL)) = Option.some []) ∧ ((Inv (wadd .i64 x (rlen l)) (wadd .i64 x1 1)) ∧ (Nat.le (Nat.succ (m (wadd .i64 x (rlen l)) (wadd .i64 x1 1))) (m x x1))))))) (Cl Tryz.prog 176 (Sig.mk [Md.own] [Md.own]) ([SL 1 [], I x]) (fun rs => ∃ l, (rs = [SL 1 l]) ∧ (∃ Inv1 : (LL) → Int → Prop, ∃ m1 : (LL) → Int → Nat, (Inv1 l 0) ∧ (∀ l1 x2, (Inv1 l1 x2) → ifB (ilt x2 (rlen rows)) ((((0 : Int) ≤ x2) ∧ (x2 < (rlen rows))) ∧ (∃ l2, (rget rows x2 = [SL 1 l2]) ∧ (((lsum (rlen l1) (rlen l2)) ≤ ((2147483648 : Int))) ∧ (((Option.some [] : Option (LL)) = Option.some []) ∧ ((Inv1 (rapp l1 l2) (wadd .i64 x2 1)) ∧ (Nat.le (Nat.succ (m1 (rapp l1 l2) (wadd .i64 x2 1))) (m1 l1 x2))))))) (Q [SL 1 l1]))))))) : Ct Tryz.prog 102 ⟨[], [.own]⟩ [SL 1 rows] Q :=
 fn_of (f := 102) SgT SvT (fun _ => none) Tryz.f102 Tryz.func102 (by kernel_rfl) (by kernel_rfl) h

theorem dsize_nf (nm : ByteArray) (a b : LL) (Q : List SV → Prop) (h : Q [I (wadd .i64 (rlen a) (rlen b))]) : Ct Tryz.prog 153 {} [fil3 nm a b] Q :=
 fn_of (f := 153) SgT SvT (fun _ => none) Tryz.f153 Tryz.func153 (by kernel_rfl) (by kernel_rfl) h

theorem dused_nf (rows : LL) (room steps : Int) (down : Bool) (Q : List SV → Prop) (h : ∃ Inv : Int → Int → Prop, ∃ m : Int → Int → Nat, (Inv 0 0) ∧ (∀ x x1, (Inv x x1) → ifB (ilt x1 (rlen rows)) ((((0 : Int) ≤ x1) ∧ (x1 < (rlen rows))) ∧ (∃ s l l1, (rget rows x1 = [S s, SL 1 l, SL 1 l1]) ∧ (Cl Tryz.prog 153 sP ([SV.agg [S s, SL 1 l, SL 1 l1]]) (fun rs => ∃ x2, (rs = [I x2]) ∧ ((Sm (some ([[SL 3 rows, I room, I steps, B down]]))) ∧ ((Inv (wadd .i64 x x2) (wadd .i64 x1 1)) ∧ (Nat.le (Nat.succ (m (wadd .i64 x x2) (wadd .i64 x1 1))) (m x x1)))))))) (Q [I x]))) : Ct Tryz.prog 83 {} [dsk4 rows room steps down] Q :=
 fn_of (f := 83) SgT SvT (fun _ => none) Tryz.f83 Tryz.func83 (by kernel_rfl) (by kernel_rfl) h

theorem dlist_nf (rows : LL) (room steps : Int) (down : Bool) (Q : List SV → Prop) (h : (((0 : Int) ≤ 0) ∧ (((0 : Int) ≤ (rlen rows)) ∧ ((rlen rows) ≤ ((2147483648 : Int))))) ∧ (∃ Inv : (LL) → Int → Prop, ∃ m : (LL) → Int → Nat, (Inv (rrep 0 ([S (ByteArray.mk (Array.mk []))])) 0) ∧ (∀ l x, (Inv l x) → ifB (ilt x (rlen rows)) ((((0 : Int) ≤ x) ∧ (x < (rlen rows))) ∧ (∃ s l1 l2, (rget rows x = [S s, SL 1 l1, SL 1 l2]) ∧ (((lsum (rlen l) (rlen ([[S s]]))) ≤ ((2147483648 : Int))) ∧ ((Sm (some ([[SL 3 rows, I room, I steps, B down]]))) ∧ ((Inv (rapp l ([[S s]])) (wadd .i64 x 1)) ∧ (Nat.le (Nat.succ (m (rapp l ([[S s]])) (wadd .i64 x 1))) (m l x))))))) (Q [SL 1 l])))) : Ct Tryz.prog 97 {} [dsk4 rows room steps down] Q :=
 fn_of (f := 97) SgT SvT (fun _ => none) Tryz.f97 Tryz.func97 (by kernel_rfl) (by kernel_rfl) h

theorem dnamed_nf (s : ByteArray) (Q : List SV → Prop) (h : ifB (bpick (ilt (slen s) 1) true (igt (slen s) 16)) (Q [B false]) (∃ Inv : Bool → Int → Prop, ∃ m : Bool → Int → Nat, (Inv false 0) ∧ (∀ b x, (Inv b x) → ifB (ilt x (slen s)) ((((0 : Int) ≤ x) ∧ (x < (slen s))) ∧ (ifB (ige (sbyte s x) 97) ((((0 : Int) ≤ x) ∧ (x < (slen s))) ∧ ((((0 : Int) ≤ x) ∧ (x < (slen s))) ∧ (ifB (ige (sbyte s x) 48) ((((0 : Int) ≤ x) ∧ (x < (slen s))) ∧ (ifB (bpick (bnot (bpick true (ile (sbyte s x) 122) false)) (bnot (bpick true (ile (sbyte s x) 57) false)) false) ((((0 : Int) ≤ x) ∧ (x < (slen s))) ∧ (ifB (bpick true (ine (sbyte s x) 46) false) (Q [B false]) (((Option.some [] : Option (LL)) = Option.some []) ∧ ((Inv b (wadd .i64 x 1)) ∧ (Nat.le (Nat.succ (m b (wadd .i64 x 1))) (m b x)))))) (ifB (bpick false true false) (Q [B false]) (((Option.some [] : Option (LL)) = Option.some []) ∧ ((Inv b (wadd .i64 x 1)) ∧ (Nat.le (Nat.succ (m b (wadd .i64 x 1))) (m b x))))))) (ifB (bpick (bnot (bpick true (ile (sbyte s x) 122) false)) (bnot (bpick false true false)) false) ((((0 : Int) ≤ x) ∧ (x < (slen s))) ∧ (ifB (bpick true (ine (sbyte s x) 46) false) (Q [B false]) (((Option.some [] : Option (LL)) = Option.some []) ∧ ((Inv b (wadd .i64 x 1)) ∧ (Nat.le (Nat.succ (m b (wadd .i64 x 1))) (m b x)))))) (ifB (bpick false true false) (Q [B false]) (((Option.some [] : Option (LL)) = Option.some []) ∧ ((Inv b (wadd .i64 x 1)) ∧ (Nat.le (Nat.succ (m b (wadd .i64 x 1))) (m b x))))))))) ((((0 : Int) ≤ x) ∧ (x < (slen s))) ∧ (ifB (ige (sbyte s x) 48) ((((0 : Int) ≤ x) ∧ (x < (slen s))) ∧ (ifB (bpick (bnot (bpick false true false)) (bnot (bpick true (ile (sbyte s x) 57) false)) false) ((((0 : Int) ≤ x) ∧ (x < (slen s))) ∧ (ifB (bpick true (ine (sbyte s x) 46) false) (Q [B false]) (((Option.some [] : Option (LL)) = Option.some []) ∧ ((Inv b (wadd .i64 x 1)) ∧ (Nat.le (Nat.succ (m b (wadd .i64 x 1))) (m b x)))))) (ifB (bpick false true false) (Q [B false]) (((Option.some [] : Option (LL)) = Option.some []) ∧ ((Inv b (wadd .i64 x 1)) ∧ (Nat.le (Nat.succ (m b (wadd .i64 x 1))) (m b x))))))) (ifB (bpick (bnot (bpick false true false)) (bnot (bpick false true false)) false) ((((0 : Int) ≤ x) ∧ (x < (slen s))) ∧ (ifB (bpick true (ine (sbyte s x) 46) false) (Q [B false]) (((Option.some [] : Option (LL)) = Option.some []) ∧ ((Inv b (wadd .i64 x 1)) ∧ (Nat.le (Nat.succ (m b (wadd .i64 x 1))) (m b x)))))) (ifB (bpick false true false) (Q [B false]) (((Option.some [] : Option (LL)) = Option.some []) ∧ ((Inv b (wadd .i64 x 1)) ∧ (Nat.le (Nat.succ (m b (wadd .i64 x 1))) (m b x)))))))))) (Q [B true])))) : Ct Tryz.prog 152 {} [S s] Q :=
 fn_of (f := 152) SgT SvT (fun _ => none) Tryz.f152 Tryz.func152 (by kernel_rfl) (by kernel_rfl) h

theorem dright_nf (rows : LL) (room steps : Int) (down : Bool) (Q : List SV → Prop) (h : ifB (bpick (bpick (bpick (igt (rlen rows) 64) true (ilt room 0)) true (igt room 65536)) true (ilt steps ((-1 : Int)))) (Q [B false]) (∃ Inv : Bool → Int → Prop, ∃ m : Bool → Int → Nat, (Inv false 0) ∧ (∀ b x, (Inv b x) → ifB (ilt x (rlen rows)) ((((0 : Int) ≤ x) ∧ (x < (rlen rows))) ∧ (∃ s l l1, (rget rows x = [S s, SL 1 l, SL 1 l1]) ∧ (Cl Tryz.prog 152 sP [S s] (fun rs => ∃ b1, (rs = [B b1]) ∧ (ifB (bnot b1) (ifB (bpick true true (bpick (igt x 0) true false)) (Q [B false]) ((Sm (some ([[SL 3 rows, I room, I steps, B down]]))) ∧ ((Inv b (wadd .i64 x 1)) ∧ (Nat.le (Nat.succ (m b (wadd .i64 x 1))) (m b x))))) (ifB (igt x 0) ((((0 : Int) ≤ (wsub .i64 x 1)) ∧ ((wsub .i64 x 1) < (rlen rows))) ∧ (∃ s1 l2 l3, (rget rows (wsub .i64 x 1) = [S s1, SL 1 l2, SL 1 l3]) ∧ (ifB (bpick false true (bpick true (sge s1 s) false)) (Q [B false]) ((Sm (some ([[SL 3 rows, I room, I steps, B down]]))) ∧ ((Inv b (wadd .i64 x 1)) ∧ (Nat.le (Nat.succ (m b (wadd .i64 x 1))) (m b x))))))) (ifB (bpick false true (bpick false true false)) (Q [B false]) ((Sm (some ([[SL 3 rows, I room, I steps, B down]]))) ∧ ((Inv b (wadd .i64 x 1)) ∧ (Nat.le (Nat.succ (m b (wadd .i64 x 1))) (m b x))))))))))) (Cl Tryz.prog 83 sP ([SV.agg [SL 3 rows, I room, I steps, B down]]) (fun rs => ∃ x1, (rs = [I x1]) ∧ (Q [B (ile x1 room)])))))) : Ct Tryz.prog 82 {} [dsk4 rows room steps down] Q :=
 fn_of (f := 82) SgT SvT (fun _ => none) Tryz.f82 Tryz.func82 (by kernel_rfl) (by kernel_rfl) h

theorem dready_nf (rows : LL) (room steps : Int) (down : Bool) (names : LL) (Q : List SV → Prop) (h : Cl Tryz.prog 82 sP ([SV.agg [SL 3 rows, I room, I steps, B down]]) (fun rs => ∃ b, (rs = [B b]) ∧ (ifB (bnot b) (Q [I 1]) (ifB down (Q [I 16]) (Cl Tryz.prog 177 sP ([SL 1 names, SV.clo 178 []]) (fun rs1 => ∃ b1, (rs1 = [B b1]) ∧ (ifB b1 (Q [I 1]) (Q [I 0])))))))) : Ct Tryz.prog 104 {} [dsk4 rows room steps down, SL 1 names] Q :=
 fn_of (f := 104) SgT SvT (fun _ => none) Tryz.f104 Tryz.func104 (by kernel_rfl) (by kernel_rfl) h

theorem dready1_nf (s : ByteArray) (Q : List SV → Prop) (h : Cl Tryz.prog 152 sP [S s] (fun rs => ∃ b, (rs = [B b]) ∧ (Q [B (bnot b)]))) : Ct Tryz.prog 178 {} [S s] Q :=
 fn_of (f := 178) SgT SvT (fun _ => none) Tryz.f178 Tryz.func178 (by kernel_rfl) (by kernel_rfl) h

theorem dplace_nf (rows : LL) (room steps : Int) (down : Bool) (s : ByteArray) (Q : List SV → Prop) (h : Cl Tryz.prog 179 sP ([SL 3 rows, SV.clo 180 ([SV.ref 0 [S s]])]) (fun rs => ∃ x, (rs = [I x]) ∧ (Q [I x]))) : Ct Tryz.prog 105 {} [dsk4 rows room steps down, S s] Q :=
 fn_of (f := 105) SgT SvT (fun _ => none) Tryz.f105 Tryz.func105 (by kernel_rfl) (by kernel_rfl) h

theorem dplace1_nf (nm : ByteArray) (a b : LL) (s : ByteArray) (Q : List SV → Prop) (h : Q [B (seq nm s)]) : Ct Tryz.prog 180 {} [fil3 nm a b, .ref 0 [S s]] Q :=
 fn_of (f := 180) SgT SvT (fun _ => none) Tryz.f180 Tryz.func180 (by kernel_rfl) (by kernel_rfl) h

theorem dsplit_nf (s : ByteArray) (b : LL) (n : Int) (Q : List SV → Prop) (h : (((0 : Int) ≤ 0) ∧ (((0 : Int) ≤ n) ∧ ((n = n) ∧ (n ≤ (rlen b))))) ∧ ((((0 : Int) ≤ n) ∧ ((n ≤ (rlen b)) ∧ ((rlen b = rlen b) ∧ ((rlen b) ≤ (rlen b))))) ∧ (Q ([SV.agg [S s, SL 1 (rsub b 0 n), SL 1 (rsub b n (rlen b))]])))) : Ct Tryz.prog 103 {} [S s, SL 1 b, I n] Q :=
 fn_of (f := 103) SgT SvT (fun _ => none) Tryz.f103 Tryz.func103 (by kernel_rfl) (by kernel_rfl) h

theorem dperform_nf (rows : LL) (room steps : Int) (down : Bool) (f : FuncId) (cs : List SV) (Q : List SV → Prop) (h : ifB (ieq steps 0) (Q ([SV.agg [SL 3 rows, I room, I steps, B true], I 16])) (ifB (igt steps 0) (Cl Tryz.prog 101 sO [SL 3 rows] (fun rs => ∃ l, (rs = [SL 3 l]) ∧ (Cl Tryz.prog f (Sig.mk [Md.own] [Md.own]) ((SL 3 l) :: cs) (fun rs1 => ∃ l1, (rs1 = [SL 3 l1]) ∧ (Q ([SV.agg [SL 3 l1, I room, I (wsub .i64 steps 1), B down], I 0])))))) (Cl Tryz.prog 101 sO [SL 3 rows] (fun rs => ∃ l, (rs = [SL 3 l]) ∧ (Cl Tryz.prog f (Sig.mk [Md.own] [Md.own]) ((SL 3 l) :: cs) (fun rs1 => ∃ l1, (rs1 = [SL 3 l1]) ∧ (Q ([SV.agg [SL 3 l1, I room, I steps, B down], I 0])))))))) : Ct Tryz.prog 154 {} [dsk4 rows room steps down, .clo f cs] Q :=
 fn_of (f := 154) SgT SvT (fun _ => none) Tryz.f154 Tryz.func154 (by kernel_rfl) (by kernel_rfl) h

theorem dread_nf (rows : LL) (room steps : Int) (down : Bool) (s : ByteArray) (Q : List SV → Prop) (h : Cl Tryz.prog 104 sP ([SV.agg [SL 3 rows, I room, I steps, B down], SL 1 ([[S s]])]) (fun rs => ∃ x, (rs = [I x]) ∧ (ifB (ine x 0) (Q ([SL 1 [], I x])) (Cl Tryz.prog 105 sP ([SV.agg [SL 3 rows, I room, I steps, B down], S s]) (fun rs1 => ∃ x1, (rs1 = [I x1]) ∧ (ifB (ieq x1 ((-1 : Int))) (Q ([SL 1 [], I 14])) ((((0 : Int) ≤ x1) ∧ (x1 < (rlen rows))) ∧ (∃ s1 l l1, (rget rows x1 = [S s1, SL 1 l, SL 1 l1]) ∧ ((((0 : Int) ≤ x1) ∧ (x1 < (rlen rows))) ∧ (∃ s2 l2 l3, (rget rows x1 = [S s2, SL 1 l2, SL 1 l3]) ∧ (Cl Tryz.prog 102 sO ([SL 1 ([[SV.slice 1 l 0], [SV.slice 1 l3 0]])]) (fun rs2 => ∃ l4, (rs2 = [SL 1 l4]) ∧ (Q [SL 1 l4, I 0]))))))))))))) : Ct Tryz.prog 46 {} [dsk4 rows room steps down, S s] Q :=
 fn_of (f := 46) SgT SvT (fun _ => none) Tryz.f46 Tryz.func46 (by kernel_rfl) (by kernel_rfl) h

theorem dcreate_nf (rows : LL) (room steps : Int) (down : Bool) (s : ByteArray) (Q : List SV → Prop) (h : Cl Tryz.prog 104 sP ([SV.agg [SL 3 rows, I room, I steps, B down], SL 1 ([[S s]])]) (fun rs => ∃ x, (rs = [I x]) ∧ (ifB (ine x 0) (Q ([SV.agg [SL 3 rows, I room, I steps, B down], I x])) (Cl Tryz.prog 105 sP ([SV.agg [SL 3 rows, I room, I steps, B down], S s]) (fun rs1 => ∃ x1, (rs1 = [I x1]) ∧ (ifB (ine x1 ((-1 : Int))) (Q ([SV.agg [SL 3 rows, I room, I steps, B down], I 7])) (ifB (ieq (rlen rows) 64) (Q ([SV.agg [SL 3 rows, I room, I steps, B down], I 13])) (Cl Tryz.prog 154 sP ([SV.agg [SL 3 rows, I room, I steps, B down], SV.clo 157 ([SV.ref 0 [S s]])]) (fun rs2 => ∃ l x2, ∃ x3 b x4, (rs2 = [SV.agg [SL 3 l, I x2, I x3, B b], I x4]) ∧ (Q ([SV.agg [SL 3 l, I x2, I x3, B b], I x4]))))))))))) : Ct Tryz.prog 85 {} [dsk4 rows room steps down, S s] Q :=
 fn_of (f := 85) SgT SvT (fun _ => none) Tryz.f85 Tryz.func85 (by kernel_rfl) (by kernel_rfl) h

theorem dappend_nf (rows : LL) (room steps : Int) (down : Bool) (s : ByteArray) (x : LL) (Q : List SV → Prop) (h : Cl Tryz.prog 104 sP ([SV.agg [SL 3 rows, I room, I steps, B down], SL 1 ([[S s]])]) (fun rs => ∃ x1, (rs = [I x1]) ∧ (ifB (ine x1 0) (Q ([SV.agg [SL 3 rows, I room, I steps, B down], I x1])) (Cl Tryz.prog 105 sP ([SV.agg [SL 3 rows, I room, I steps, B down], S s]) (fun rs1 => ∃ x2, (rs1 = [I x2]) ∧ (ifB (ieq x2 ((-1 : Int))) (Q ([SV.agg [SL 3 rows, I room, I steps, B down], I 14])) (Cl Tryz.prog 83 sP ([SV.agg [SL 3 rows, I room, I steps, B down]]) (fun rs2 => ∃ x3, (rs2 = [I x3]) ∧ (ifB (igt (rlen x) (wsub .i64 room x3)) (Q ([SV.agg [SL 3 rows, I room, I steps, B down], I 13])) (Cl Tryz.prog 154 sP ([SV.agg [SL 3 rows, I room, I steps, B down], SV.clo 159 ([SV.ref 0 [I x2], SV.ref 0 [S s], SV.ref 0 [SL 1 x]])]) (fun rs3 => ∃ l x4, ∃ x5 b x6, (rs3 = [SV.agg [SL 3 l, I x4, I x5, B b], I x6]) ∧ (ifB (ieq x6 16) (Cl Tryz.prog 101 sO [SL 3 rows] (fun rs4 => ∃ l1, (rs4 = [SL 3 l1]) ∧ (Cl Tryz.prog 159 (Sig.mk [Md.own] [Md.own]) ([SL 3 l1, SV.ref 0 [I x2], SV.ref 0 [S s], SV.ref 0 [SL 1 x]]) (fun rs5 => ∃ l2, (rs5 = [SL 3 l2]) ∧ (Q ([SV.agg [SL 3 l2, I x4, I x5, B b], I x6])))))) (Q ([SV.agg [SL 3 l, I x4, I x5, B b], I x6])))))))))))))) : Ct Tryz.prog 86 {} [dsk4 rows room steps down, S s, SL 1 x] Q :=
 fn_of (f := 86) SgT SvT (fun _ => none) Tryz.f86 Tryz.func86 (by kernel_rfl) (by kernel_rfl) h

theorem dsync_nf (rows : LL) (room steps : Int) (down : Bool) (s : ByteArray) (Q : List SV → Prop) (h : Cl Tryz.prog 104 sP ([SV.agg [SL 3 rows, I room, I steps, B down], SL 1 ([[S s]])]) (fun rs => ∃ x, (rs = [I x]) ∧ (ifB (ine x 0) (Q ([SV.agg [SL 3 rows, I room, I steps, B down], I x])) (Cl Tryz.prog 105 sP ([SV.agg [SL 3 rows, I room, I steps, B down], S s]) (fun rs1 => ∃ x1, (rs1 = [I x1]) ∧ (ifB (ieq x1 ((-1 : Int))) (Q ([SV.agg [SL 3 rows, I room, I steps, B down], I 14])) (Cl Tryz.prog 154 sP ([SV.agg [SL 3 rows, I room, I steps, B down], SV.clo 160 ([SV.ref 0 [I x1], SV.ref 0 [S s]])]) (fun rs2 => ∃ l x2, ∃ x3 b x4, (rs2 = [SV.agg [SL 3 l, I x2, I x3, B b], I x4]) ∧ (Q ([SV.agg [SL 3 l, I x2, I x3, B b], I x4])))))))))) : Ct Tryz.prog 87 {} [dsk4 rows room steps down, S s] Q :=
 fn_of (f := 87) SgT SvT (fun _ => none) Tryz.f87 Tryz.func87 (by kernel_rfl) (by kernel_rfl) h

theorem drename_nf (rows : LL) (room steps : Int) (down : Bool) (s t : ByteArray) (Q : List SV → Prop) (h : Cl Tryz.prog 104 sP ([SV.agg [SL 3 rows, I room, I steps, B down], SL 1 ([[S s], [S t]])]) (fun rs => ∃ x, (rs = [I x]) ∧ (ifB (ine x 0) (Q ([SV.agg [SL 3 rows, I room, I steps, B down], I x])) (Cl Tryz.prog 105 sP ([SV.agg [SL 3 rows, I room, I steps, B down], S s]) (fun rs1 => ∃ x1, (rs1 = [I x1]) ∧ (ifB (ieq x1 ((-1 : Int))) (Q ([SV.agg [SL 3 rows, I room, I steps, B down], I 14])) (Cl Tryz.prog 154 sP ([SV.agg [SL 3 rows, I room, I steps, B down], SV.clo 161 ([SV.ref 0 [I x1], SV.ref 0 [S s], SV.ref 0 [S t]])]) (fun rs2 => ∃ l x2, ∃ x3 b x4, (rs2 = [SV.agg [SL 3 l, I x2, I x3, B b], I x4]) ∧ (Q ([SV.agg [SL 3 l, I x2, I x3, B b], I x4])))))))))) : Ct Tryz.prog 88 {} [dsk4 rows room steps down, S s, S t] Q :=
 fn_of (f := 88) SgT SvT (fun _ => none) Tryz.f88 Tryz.func88 (by kernel_rfl) (by kernel_rfl) h

theorem dremove_nf (rows : LL) (room steps : Int) (down : Bool) (s : ByteArray) (Q : List SV → Prop) (h : Cl Tryz.prog 104 sP ([SV.agg [SL 3 rows, I room, I steps, B down], SL 1 ([[S s]])]) (fun rs => ∃ x, (rs = [I x]) ∧ (ifB (ine x 0) (Q ([SV.agg [SL 3 rows, I room, I steps, B down], I x])) (Cl Tryz.prog 105 sP ([SV.agg [SL 3 rows, I room, I steps, B down], S s]) (fun rs1 => ∃ x1, (rs1 = [I x1]) ∧ (ifB (ieq x1 ((-1 : Int))) (Q ([SV.agg [SL 3 rows, I room, I steps, B down], I 14])) (Cl Tryz.prog 154 sP ([SV.agg [SL 3 rows, I room, I steps, B down], SV.clo 155 ([SV.ref 0 [I x1]])]) (fun rs2 => ∃ l x2, ∃ x3 b x4, (rs2 = [SV.agg [SL 3 l, I x2, I x3, B b], I x4]) ∧ (Q ([SV.agg [SL 3 l, I x2, I x3, B b], I x4])))))))))) : Ct Tryz.prog 84 {} [dsk4 rows room steps down, S s] Q :=
 fn_of (f := 84) SgT SvT (fun _ => none) Tryz.f84 Tryz.func84 (by kernel_rfl) (by kernel_rfl) h

theorem dapp1_nf (rows : LL) (at_ : Int) (s : ByteArray) (x : LL) (Q : List SV → Prop) (h : (((0 : Int) ≤ at_) ∧ (at_ < (rlen rows))) ∧ ((((0 : Int) ≤ at_) ∧ (at_ < (rlen rows))) ∧ (∃ s1 l l1, (rget rows at_ = [S s1, SL 1 l, SL 1 l1]) ∧ (Cl Tryz.prog 102 sO ([SL 1 ([[SV.slice 1 l 0], [SV.slice 1 l1 0], [SV.slice 1 x 0]])]) (fun rs => ∃ l2, (rs = [SL 1 l2]) ∧ (Cl Tryz.prog 103 sP [S s, SL 1 l2, I (rlen l)] (fun rs1 => ∃ s2 l3 l4, (rs1 = [SV.agg [S s2, SL 1 l3, SL 1 l4]]) ∧ ((((0 : Int) ≤ at_) ∧ (at_ < (rlen rows))) ∧ ((((0 : Int) ≤ at_) ∧ (at_ < (rlen rows))) ∧ (Q ([SL 3 (rset rows at_ [S s2, SV.slice 1 l3 0, SV.slice 1 l4 0])]))))))))))) : Ct Tryz.prog 159 ⟨[.own], [.own]⟩ [SL 3 rows, .ref 0 [I at_], .ref 0 [S s], .ref 0 [SL 1 x]] Q :=
 fn_of (f := 159) SgT SvT (fun _ => none) Tryz.f159 Tryz.func159 (by kernel_rfl) (by kernel_rfl) h

theorem dcre1_nf (rows : LL) (s : ByteArray) (Q : List SV → Prop) (h : Cl Tryz.prog 158 (Sig.mk [Md.own] [Md.own]) ([SL 3 rows, SV.agg ([S s, SL 1 [], SL 1 []])]) (fun rs => ∃ l, (rs = [SL 3 l]) ∧ (Q [SL 3 l]))) : Ct Tryz.prog 157 ⟨[.own], [.own]⟩ [SL 3 rows, .ref 0 [S s]] Q :=
 fn_of (f := 157) SgT SvT (fun _ => none) Tryz.f157 Tryz.func157 (by kernel_rfl) (by kernel_rfl) h

theorem dsyn1_nf (rows : LL) (at_ : Int) (s : ByteArray) (Q : List SV → Prop) (h : (((0 : Int) ≤ at_) ∧ (at_ < (rlen rows))) ∧ ((((0 : Int) ≤ at_) ∧ (at_ < (rlen rows))) ∧ (∃ s1 l l1, (rget rows at_ = [S s1, SL 1 l, SL 1 l1]) ∧ (Cl Tryz.prog 102 sO ([SL 1 ([[SV.slice 1 l 0], [SV.slice 1 l1 0]])]) (fun rs => ∃ l2, (rs = [SL 1 l2]) ∧ (Cl Tryz.prog 153 sP ([SV.agg [S s1, SL 1 l, SL 1 l1]]) (fun rs1 => ∃ x, (rs1 = [I x]) ∧ (Cl Tryz.prog 103 sP [S s, SL 1 l2, I x] (fun rs2 => ∃ s2 l3 l4, (rs2 = [SV.agg [S s2, SL 1 l3, SL 1 l4]]) ∧ ((((0 : Int) ≤ at_) ∧ (at_ < (rlen rows))) ∧ ((((0 : Int) ≤ at_) ∧ (at_ < (rlen rows))) ∧ (Q ([SL 3 (rset rows at_ [S s2, SV.slice 1 l3 0, SV.slice 1 l4 0])]))))))))))))) : Ct Tryz.prog 160 ⟨[.own], [.own]⟩ [SL 3 rows, .ref 0 [I at_], .ref 0 [S s]] Q :=
 fn_of (f := 160) SgT SvT (fun _ => none) Tryz.f160 Tryz.func160 (by kernel_rfl) (by kernel_rfl) h

theorem dren1_nf (rows : LL) (at_ : Int) (s t : ByteArray) (Q : List SV → Prop) (h : (((0 : Int) ≤ at_) ∧ (at_ < (rlen rows))) ∧ ((((0 : Int) ≤ at_) ∧ (at_ < (rlen rows))) ∧ (∃ s1 l l1, (rget rows at_ = [S s1, SL 1 l, SL 1 l1]) ∧ (Cl Tryz.prog 162 (Sig.mk [Md.own] [Md.own]) ([SL 3 rows, SV.clo 163 ([SV.ref 0 [S s], SV.ref 0 [S t]])]) (fun rs => ∃ l2, (rs = [SL 3 l2]) ∧ (Cl Tryz.prog 158 (Sig.mk [Md.own] [Md.own]) ([SL 3 l2, SV.agg [S t, SL 1 l, SL 1 l1]]) (fun rs1 => ∃ l3, (rs1 = [SL 3 l3]) ∧ (Q [SL 3 l3])))))))) : Ct Tryz.prog 161 ⟨[.own], [.own]⟩ [SL 3 rows, .ref 0 [I at_], .ref 0 [S s], .ref 0 [S t]] Q :=
 fn_of (f := 161) SgT SvT (fun _ => none) Tryz.f161 Tryz.func161 (by kernel_rfl) (by kernel_rfl) h

theorem dren11_nf (nm : ByteArray) (a b : LL) (s t : ByteArray) (Q : List SV → Prop) (h : Q [B (bpick (seq nm s) true (seq nm t))]) : Ct Tryz.prog 163 {} [fil3 nm a b, .ref 0 [S s], .ref 0 [S t]] Q :=
 fn_of (f := 163) SgT SvT (fun _ => none) Tryz.f163 Tryz.func163 (by kernel_rfl) (by kernel_rfl) h

theorem drem1_nf (rows : LL) (at_ : Int) (Q : List SV → Prop) (h : Cl Tryz.prog 156 (Sig.mk [Md.own] [Md.own]) [SL 3 rows, I at_, I (wadd .i64 at_ 1)] (fun rs => ∃ l, (rs = [SL 3 l]) ∧ (Q [SL 3 l]))) : Ct Tryz.prog 155 ⟨[.own], [.own]⟩ [SL 3 rows, .ref 0 [I at_]] Q :=
 fn_of (f := 155) SgT SvT (fun _ => none) Tryz.f155 Tryz.func155 (by kernel_rfl) (by kernel_rfl) h

theorem dinsert_nf (rows : LL) (nm : ByteArray) (a b : LL) (Q : List SV → Prop) (h : Cl Tryz.prog 208 sP ([SL 3 rows, S nm, SV.clo 209 []]) (fun rs => ∃ x b1, (rs = [I x, B b1]) ∧ (Cl Tryz.prog 211 (Sig.mk [Md.own] [Md.own]) ([SL 3 rows, I x, SL 3 ([[S nm, SV.slice 1 a 0, SV.slice 1 b 0]])]) (fun rs1 => ∃ l, (rs1 = [SL 3 l]) ∧ (Q [SL 3 l]))))) : Ct Tryz.prog 158 ⟨[.own], [.own]⟩ [SL 3 rows, fil3 nm a b] Q :=
 fn_of (f := 158) SgT SvT (fun _ => none) Tryz.f158 Tryz.func158 (by kernel_rfl) (by kernel_rfl) h

theorem fclone_nf (rows : LL) (Q : List SV → Prop) (h : ∀ b, ((b = true) → rlen rows = 0) → ifB b (Q ([SL 3 []])) (((lsum (rlen []) (rlen rows)) ≤ ((2147483648 : Int))) ∧ (Q ([SL 3 (rapp [] rows)])))) : Ct Tryz.prog 101 ⟨[], [.own]⟩ [SL 3 rows] Q :=
 fn_of (f := 101) SgT SvT (fun _ => none) Tryz.f101 Tryz.func101 (by kernel_rfl) (by kernel_rfl) h

theorem bsearch_nf (rows : LL) (s : ByteArray) (f : FuncId) (cs : List SV) (Q : List SV → Prop) (h : ∃ Inv : Int → Int → Prop, ∃ m : Int → Int → Nat, (Inv 0 (rlen rows)) ∧ (∀ x x1, (Inv x x1) → ifB (ilt x x1) (((0 : Int) ≤ 1) ∧ ((((0 : Int) ≤ (wcv .i64 (wshr .u64 (wcv .u64 (wadd .i64 x x1)) 1))) ∧ ((wcv .i64 (wshr .u64 (wcv .u64 (wadd .i64 x x1)) 1)) < (rlen rows))) ∧ (∃ s1 l l1, (rget rows (wcv .i64 (wshr .u64 (wcv .u64 (wadd .i64 x x1)) 1)) = [S s1, SL 1 l, SL 1 l1]) ∧ (Cl Tryz.prog f sP ((SV.agg [S s1, SL 1 l, SL 1 l1]) :: ((S s) :: cs)) (fun rs => ∃ x2, (rs = [I x2]) ∧ (ifB (ilt x2 0) (((Option.some [] : Option (LL)) = Option.some []) ∧ ((Inv (wadd .i64 (wcv .i64 (wshr .u64 (wcv .u64 (wadd .i64 x x1)) 1)) 1) x1) ∧ (Nat.le (Nat.succ (m (wadd .i64 (wcv .i64 (wshr .u64 (wcv .u64 (wadd .i64 x x1)) 1)) 1) x1)) (m x x1)))) (((Option.some [] : Option (LL)) = Option.some []) ∧ ((Inv x (wcv .i64 (wshr .u64 (wcv .u64 (wadd .i64 x x1)) 1))) ∧ (Nat.le (Nat.succ (m x (wcv .i64 (wshr .u64 (wcv .u64 (wadd .i64 x x1)) 1)))) (m x x1)))))))))) (ifB (ilt x (rlen rows)) ((((0 : Int) ≤ x) ∧ (x < (rlen rows))) ∧ (∃ s1 l l1, (rget rows x = [S s1, SL 1 l, SL 1 l1]) ∧ (Cl Tryz.prog f sP ((SV.agg [S s1, SL 1 l, SL 1 l1]) :: ((S s) :: cs)) (fun rs => ∃ x2, (rs = [I x2]) ∧ (Q [I x, B (bpick true (ieq x2 0) false)]))))) (Q [I x, B (bpick false true false)])))) : Ct Tryz.prog 208 {} [SL 3 rows, S s, .clo f cs] Q :=
 fn_of (f := 208) SgT SvT (fun _ => none) Tryz.f208 Tryz.func208 (by kernel_rfl) (by kernel_rfl) h

theorem scont_nf (rows : LL) (f : FuncId) (cs : List SV) (Q : List SV → Prop) (h : Cl Tryz.prog 216 sP [SL 1 rows, SV.clo f cs] (fun rs => ∃ x, (rs = [I x]) ∧ (Q [B (ige x 0)]))) : Ct Tryz.prog 177 {} [SL 1 rows, .clo f cs] Q :=
 fn_of (f := 177) SgT SvT (fun _ => none) Tryz.f177 Tryz.func177 (by kernel_rfl) (by kernel_rfl) h

theorem sindex_nf (rows : LL) (f : FuncId) (cs : List SV) (Q : List SV → Prop) (h : ∃ Inv : Int → Int → Prop, ∃ m : Int → Int → Nat, (Inv 0 0) ∧ (∀ x x1, (Inv x x1) → ifB (ilt x1 (rlen rows)) ((((0 : Int) ≤ x1) ∧ (x1 < (rlen rows))) ∧ (∃ s, (rget rows x1 = [S s]) ∧ (Cl Tryz.prog f sP ((S s) :: cs) (fun rs => ∃ b, (rs = [B b]) ∧ (ifB b (Q [I x1]) (((Option.some [] : Option (LL)) = Option.some []) ∧ ((Inv x (wadd .i64 x1 1)) ∧ (Nat.le (Nat.succ (m x (wadd .i64 x1 1))) (m x x1))))))))) (Q [I ((-1 : Int))]))) : Ct Tryz.prog 216 {} [SL 1 rows, .clo f cs] Q :=
 fn_of (f := 216) SgT SvT (fun _ => none) Tryz.f216 Tryz.func216 (by kernel_rfl) (by kernel_rfl) h

theorem ccompare_nf (s t : ByteArray) (Q : List SV → Prop) (h : Cl Tryz.prog 232 sP [S s] (fun rs => ∃ b, (rs = [B b]) ∧ (Cl Tryz.prog 232 sP [S t] (fun rs1 => ∃ b1, (rs1 = [B b1]) ∧ (ifB b (ifB b1 (Q [I 0]) (Q [I ((-1 : Int))])) (ifB b1 (Q [I 1]) (ifB (slt s t) (Q [I ((-1 : Int))]) (ifB (sgt s t) (Q [I 1]) (Q [I 0]))))))))) : Ct Tryz.prog 210 {} [S s, S t] Q :=
 fn_of (f := 210) SgT SvT (fun _ => none) Tryz.f210 Tryz.func210 (by kernel_rfl) (by kernel_rfl) h

theorem cnan_nf (s : ByteArray) (Q : List SV → Prop) (h : Q [B (sne s s)]) : Ct Tryz.prog 232 {} [S s] Q :=
 fn_of (f := 232) SgT SvT (fun _ => none) Tryz.f232 Tryz.func232 (by kernel_rfl) (by kernel_rfl) h

theorem dins1_nf (nm : ByteArray) (a b : LL) (s : ByteArray) (Q : List SV → Prop) (h : Cl Tryz.prog 210 sP [S nm, S s] (fun rs => ∃ x, (rs = [I x]) ∧ (Q [I x]))) : Ct Tryz.prog 209 {} [fil3 nm a b, S s] Q :=
 fn_of (f := 209) SgT SvT (fun _ => none) Tryz.f209 Tryz.func209 (by kernel_rfl) (by kernel_rfl) h


theorem qshort_nf (rows : LL) (room steps : Int) (down : Bool) (Q : List SV → Prop) (h : ifB (igt (rlen rows) 70) (ifB (bpick true true true) (Q [B false]) (∃ Inv : Bool → Int → Prop, ∃ m : Bool → Int → Nat, (Inv false 0) ∧ (∀ b x, (Inv b x) → ifB (ilt x (rlen rows)) ((((0 : Int) ≤ x) ∧ (x < (rlen rows))) ∧ (∃ s l l1, (rget rows x = [S s, SL 1 l, SL 1 l1]) ∧ (ifB (igt (slen s) 100) (Q [B false]) ((Sm (some ([[SL 3 rows, I room, I steps, B down]]))) ∧ ((Inv b (wadd .i64 x 1)) ∧ (Nat.le (Nat.succ (m b (wadd .i64 x 1))) (m b x))))))) (Q [B true])))) (Cl Tryz.prog 67 sP ([SV.agg [SL 3 rows, I room, I steps, B down]]) (fun rs => ∃ x, (rs = [I x]) ∧ (ifB (bpick false true (igt x 70000)) (Q [B false]) (∃ Inv : Bool → Int → Prop, ∃ m : Bool → Int → Nat, (Inv false 0) ∧ (∀ b x1, (Inv b x1) → ifB (ilt x1 (rlen rows)) ((((0 : Int) ≤ x1) ∧ (x1 < (rlen rows))) ∧ (∃ s l l1, (rget rows x1 = [S s, SL 1 l, SL 1 l1]) ∧ (ifB (igt (slen s) 100) (Q [B false]) ((Sm (some ([[SL 3 rows, I room, I steps, B down]]))) ∧ ((Inv b (wadd .i64 x1 1)) ∧ (Nat.le (Nat.succ (m b (wadd .i64 x1 1))) (m b x1))))))) (Q [B true]))))))) : Ct Tryz.prog 26 {} [dsk4 rows room steps down] Q :=
 fn_of (f := 26) SgT SvT (fun _ => none) Tryz.f26 Tryz.func26 (by kernel_rfl) (by kernel_rfl) h

theorem qsame_nf (rows : LL) (room steps : Int) (down : Bool) (rows2 : LL) (room2 steps2 : Int) (down2 : Bool) (Q : List SV → Prop) (h : ifB (bpick (bpick (bpick (ine (rlen rows) (rlen rows2)) true (ine room room2)) true (ine steps steps2)) true (bnot (beqB down down2))) (Q [B false]) (∃ Inv : Bool → Int → Prop, ∃ m : Bool → Int → Nat, (Inv false 0) ∧ (∀ b x, (Inv b x) → ifB (ilt x (rlen rows)) ((((0 : Int) ≤ x) ∧ (x < (rlen rows))) ∧ (∃ s l l1, (rget rows x = [S s, SL 1 l, SL 1 l1]) ∧ ((((0 : Int) ≤ x) ∧ (x < (rlen rows2))) ∧ (∃ s1 l2 l3, (rget rows2 x = [S s1, SL 1 l2, SL 1 l3]) ∧ ((ifB (sne s s1) (ifB (bpick true true true) (ifB (bpick true true true) (Q [B false]) ((Sm (some ([[SL 3 rows2, I room2, I steps2, B down2], [SL 3 rows, I room, I steps, B down]]))) ∧ ((Inv b (wadd .i64 x 1)) ∧ (Nat.le (Nat.succ (m b (wadd .i64 x 1))) (m b x))))) ((isBytes l1) ∧ ((isBytes l3) ∧ (ifB (bpick false true (sne (bstr l1) (bstr l3))) (Q [B false]) ((Sm (some ([[SL 3 rows2, I room2, I steps2, B down2], [SL 3 rows, I room, I steps, B down]]))) ∧ ((Inv b (wadd .i64 x 1)) ∧ (Nat.le (Nat.succ (m b (wadd .i64 x 1))) (m b x)))))))) ((isBytes l) ∧ ((isBytes l2) ∧ (ifB (bpick false true (sne (bstr l) (bstr l2))) (ifB (bpick true true true) (Q [B false]) ((Sm (some ([[SL 3 rows2, I room2, I steps2, B down2], [SL 3 rows, I room, I steps, B down]]))) ∧ ((Inv b (wadd .i64 x 1)) ∧ (Nat.le (Nat.succ (m b (wadd .i64 x 1))) (m b x))))) ((isBytes l1) ∧ ((isBytes l3) ∧ (ifB (bpick false true (sne (bstr l1) (bstr l3))) (Q [B false]) ((Sm (some ([[SL 3 rows2, I room2, I steps2, B down2], [SL 3 rows, I room, I steps, B down]]))) ∧ ((Inv b (wadd .i64 x 1)) ∧ (Nat.le (Nat.succ (m b (wadd .i64 x 1))) (m b x))))))))))) ∧ (ifB (sne s s1) (ifB (bpick true true true) (ifB (bpick true true true) (Q [B false]) ((Sm (some ([[SL 3 rows2, I room2, I steps2, B down2], [SL 3 rows, I room, I steps, B down]]))) ∧ ((Inv b (wadd .i64 x 1)) ∧ (Nat.le (Nat.succ (m b (wadd .i64 x 1))) (m b x))))) ((isBytes l1) ∧ ((isBytes l3) ∧ (ifB (bpick false true (sne (bstr l1) (bstr l3))) (Q [B false]) ((Sm (some ([[SL 3 rows2, I room2, I steps2, B down2], [SL 3 rows, I room, I steps, B down]]))) ∧ ((Inv b (wadd .i64 x 1)) ∧ (Nat.le (Nat.succ (m b (wadd .i64 x 1))) (m b x)))))))) ((isBytes l) ∧ ((isBytes l2) ∧ (ifB (bpick false true (sne (bstr l) (bstr l2))) (ifB (bpick true true true) (Q [B false]) ((Sm (some ([[SL 3 rows2, I room2, I steps2, B down2], [SL 3 rows, I room, I steps, B down]]))) ∧ ((Inv b (wadd .i64 x 1)) ∧ (Nat.le (Nat.succ (m b (wadd .i64 x 1))) (m b x))))) ((isBytes l1) ∧ ((isBytes l3) ∧ (ifB (bpick false true (sne (bstr l1) (bstr l3))) (Q [B false]) ((Sm (some ([[SL 3 rows2, I room2, I steps2, B down2], [SL 3 rows, I room, I steps, B down]]))) ∧ ((Inv b (wadd .i64 x 1)) ∧ (Nat.le (Nat.succ (m b (wadd .i64 x 1))) (m b x)))))))))))))))) (Q [B true])))) : Ct Tryz.prog 40 {} [dsk4 rows room steps down, dsk4 rows2 room2 steps2 down2] Q :=
 fn_of (f := 40) SgT SvT (fun _ => none) Tryz.f40 Tryz.func40 (by kernel_rfl) (by kernel_rfl) h

theorem qright_nf (rows : LL) (room steps : Int) (down : Bool) (Q : List SV → Prop) (h : ifB (bpick (bpick (bpick (igt (rlen rows) 64) true (ilt room 0)) true (igt room 65536)) true (ilt steps ((-1 : Int)))) (ifB (bpick true true true) (Q [B false]) (∃ Inv : Bool → Int → Prop, ∃ m : Bool → Int → Nat, (Inv false 0) ∧ (∀ b x, (Inv b x) → ifB (ilt x (rlen rows)) ((((0 : Int) ≤ x) ∧ (x < (rlen rows))) ∧ (∃ s l l1, (rget rows x = [S s, SL 1 l, SL 1 l1]) ∧ (Cl Tryz.prog 164 sP [S s] (fun rs => ∃ b1, (rs = [B b1]) ∧ (ifB (bnot b1) (ifB (bpick true true (bpick (igt x 0) true false)) (Q [B false]) ((Sm (some ([[SL 3 rows, I room, I steps, B down]]))) ∧ ((Inv b (wadd .i64 x 1)) ∧ (Nat.le (Nat.succ (m b (wadd .i64 x 1))) (m b x))))) (ifB (igt x 0) ((((0 : Int) ≤ x) ∧ (x < (rlen rows))) ∧ (∃ s1 l2 l3, (rget rows x = [S s1, SL 1 l2, SL 1 l3]) ∧ ((((0 : Int) ≤ (wsub .i64 x 1)) ∧ ((wsub .i64 x 1) < (rlen rows))) ∧ (∃ s2 l4 l5, (rget rows (wsub .i64 x 1) = [S s2, SL 1 l4, SL 1 l5]) ∧ (ifB (bpick false true (bpick true (sle s1 s2) false)) (Q [B false]) ((Sm (some ([[SL 3 rows, I room, I steps, B down]]))) ∧ ((Inv b (wadd .i64 x 1)) ∧ (Nat.le (Nat.succ (m b (wadd .i64 x 1))) (m b x))))))))) (ifB (bpick false true (bpick false true false)) (Q [B false]) ((Sm (some ([[SL 3 rows, I room, I steps, B down]]))) ∧ ((Inv b (wadd .i64 x 1)) ∧ (Nat.le (Nat.succ (m b (wadd .i64 x 1))) (m b x))))))))))) (Q [B true])))) (Cl Tryz.prog 67 sP ([SV.agg [SL 3 rows, I room, I steps, B down]]) (fun rs => ∃ x, (rs = [I x]) ∧ (ifB (bpick false true (igt x room)) (Q [B false]) (∃ Inv : Bool → Int → Prop, ∃ m : Bool → Int → Nat, (Inv false 0) ∧ (∀ b x1, (Inv b x1) → ifB (ilt x1 (rlen rows)) ((((0 : Int) ≤ x1) ∧ (x1 < (rlen rows))) ∧ (∃ s l l1, (rget rows x1 = [S s, SL 1 l, SL 1 l1]) ∧ (Cl Tryz.prog 164 sP [S s] (fun rs1 => ∃ b1, (rs1 = [B b1]) ∧ (ifB (bnot b1) (ifB (bpick true true (bpick (igt x1 0) true false)) (Q [B false]) ((Sm (some ([[SL 3 rows, I room, I steps, B down]]))) ∧ ((Inv b (wadd .i64 x1 1)) ∧ (Nat.le (Nat.succ (m b (wadd .i64 x1 1))) (m b x1))))) (ifB (igt x1 0) ((((0 : Int) ≤ x1) ∧ (x1 < (rlen rows))) ∧ (∃ s1 l2 l3, (rget rows x1 = [S s1, SL 1 l2, SL 1 l3]) ∧ ((((0 : Int) ≤ (wsub .i64 x1 1)) ∧ ((wsub .i64 x1 1) < (rlen rows))) ∧ (∃ s2 l4 l5, (rget rows (wsub .i64 x1 1) = [S s2, SL 1 l4, SL 1 l5]) ∧ (ifB (bpick false true (bpick true (sle s1 s2) false)) (Q [B false]) ((Sm (some ([[SL 3 rows, I room, I steps, B down]]))) ∧ ((Inv b (wadd .i64 x1 1)) ∧ (Nat.le (Nat.succ (m b (wadd .i64 x1 1))) (m b x1))))))))) (ifB (bpick false true (bpick false true false)) (Q [B false]) ((Sm (some ([[SL 3 rows, I room, I steps, B down]]))) ∧ ((Inv b (wadd .i64 x1 1)) ∧ (Nat.le (Nat.succ (m b (wadd .i64 x1 1))) (m b x1))))))))))) (Q [B true]))))))) : Ct Tryz.prog 89 {} [dsk4 rows room steps down] Q :=
 fn_of (f := 89) SgT SvT (fun _ => none) Tryz.f89 Tryz.func89 (by kernel_rfl) (by kernel_rfl) h

theorem qused_nf (rows : LL) (room steps : Int) (down : Bool) (Q : List SV → Prop) (h : ∃ Inv : Int → Int → Prop, ∃ m : Int → Int → Nat, (Inv 0 0) ∧ (∀ x x1, (Inv x x1) → ifB (ilt x1 (rlen rows)) ((((0 : Int) ≤ x1) ∧ (x1 < (rlen rows))) ∧ (∃ s l l1, (rget rows x1 = [S s, SL 1 l, SL 1 l1]) ∧ ((((0 : Int) ≤ x1) ∧ (x1 < (rlen rows))) ∧ (∃ s1 l2 l3, (rget rows x1 = [S s1, SL 1 l2, SL 1 l3]) ∧ ((Sm (some ([[SL 3 rows, I room, I steps, B down]]))) ∧ ((Inv (wadd .i64 (wadd .i64 x (rlen l)) (rlen l3)) (wadd .i64 x1 1)) ∧ (Nat.le (Nat.succ (m (wadd .i64 (wadd .i64 x (rlen l)) (rlen l3)) (wadd .i64 x1 1))) (m x x1)))))))) (Q [I x]))) : Ct Tryz.prog 67 {} [dsk4 rows room steps down] Q :=
 fn_of (f := 67) SgT SvT (fun _ => none) Tryz.f67 Tryz.func67 (by kernel_rfl) (by kernel_rfl) h

theorem qnamed_nf (s : ByteArray) (Q : List SV → Prop) (h : ifB (bpick (ilt (slen s) 1) true (igt (slen s) 16)) (Q [B false]) (∃ Inv : Bool → Int → Prop, ∃ m : Bool → Int → Nat, (Inv false 0) ∧ (∀ b x, (Inv b x) → ifB (ilt x (slen s)) ((((0 : Int) ≤ x) ∧ (x < (slen s))) ∧ (ifB (ine (sbyte s x) 46) ((((0 : Int) ≤ x) ∧ (x < (slen s))) ∧ (ifB (ilt (sbyte s x) 48) (ifB (bpick true (bpick true true true) false) ((((0 : Int) ≤ x) ∧ (x < (slen s))) ∧ (ifB (ilt (sbyte s x) 97) (ifB (bpick true (bpick true true true) false) (Q [B false]) (((Option.some [] : Option (LL)) = Option.some []) ∧ ((Inv b (wadd .i64 x 1)) ∧ (Nat.le (Nat.succ (m b (wadd .i64 x 1))) (m b x))))) ((((0 : Int) ≤ x) ∧ (x < (slen s))) ∧ (ifB (bpick true (bpick false true (igt (sbyte s x) 122)) false) (Q [B false]) (((Option.some [] : Option (LL)) = Option.some []) ∧ ((Inv b (wadd .i64 x 1)) ∧ (Nat.le (Nat.succ (m b (wadd .i64 x 1))) (m b x)))))))) (ifB (bpick false (bpick true true true) false) (Q [B false]) (((Option.some [] : Option (LL)) = Option.some []) ∧ ((Inv b (wadd .i64 x 1)) ∧ (Nat.le (Nat.succ (m b (wadd .i64 x 1))) (m b x)))))) ((((0 : Int) ≤ x) ∧ (x < (slen s))) ∧ (ifB (bpick true (bpick false true (igt (sbyte s x) 57)) false) ((((0 : Int) ≤ x) ∧ (x < (slen s))) ∧ (ifB (ilt (sbyte s x) 97) (ifB (bpick true (bpick true true true) false) (Q [B false]) (((Option.some [] : Option (LL)) = Option.some []) ∧ ((Inv b (wadd .i64 x 1)) ∧ (Nat.le (Nat.succ (m b (wadd .i64 x 1))) (m b x))))) ((((0 : Int) ≤ x) ∧ (x < (slen s))) ∧ (ifB (bpick true (bpick false true (igt (sbyte s x) 122)) false) (Q [B false]) (((Option.some [] : Option (LL)) = Option.some []) ∧ ((Inv b (wadd .i64 x 1)) ∧ (Nat.le (Nat.succ (m b (wadd .i64 x 1))) (m b x)))))))) (ifB (bpick false (bpick true true true) false) (Q [B false]) (((Option.some [] : Option (LL)) = Option.some []) ∧ ((Inv b (wadd .i64 x 1)) ∧ (Nat.le (Nat.succ (m b (wadd .i64 x 1))) (m b x))))))))) (ifB (bpick false (bpick true true true) false) ((((0 : Int) ≤ x) ∧ (x < (slen s))) ∧ (ifB (ilt (sbyte s x) 97) (ifB (bpick true (bpick true true true) false) (Q [B false]) (((Option.some [] : Option (LL)) = Option.some []) ∧ ((Inv b (wadd .i64 x 1)) ∧ (Nat.le (Nat.succ (m b (wadd .i64 x 1))) (m b x))))) ((((0 : Int) ≤ x) ∧ (x < (slen s))) ∧ (ifB (bpick true (bpick false true (igt (sbyte s x) 122)) false) (Q [B false]) (((Option.some [] : Option (LL)) = Option.some []) ∧ ((Inv b (wadd .i64 x 1)) ∧ (Nat.le (Nat.succ (m b (wadd .i64 x 1))) (m b x)))))))) (ifB (bpick false (bpick true true true) false) (Q [B false]) (((Option.some [] : Option (LL)) = Option.some []) ∧ ((Inv b (wadd .i64 x 1)) ∧ (Nat.le (Nat.succ (m b (wadd .i64 x 1))) (m b x)))))))) (Q [B true])))) : Ct Tryz.prog 164 {} [S s] Q :=
 fn_of (f := 164) SgT SvT (fun _ => none) Tryz.f164 Tryz.func164 (by kernel_rfl) (by kernel_rfl) h

theorem qfirst_nf (rows : LL) (room steps : Int) (down : Bool) (s t : ByteArray) (Q : List SV → Prop) (h : Cl Tryz.prog 89 sP ([SV.agg [SL 3 rows, I room, I steps, B down]]) (fun rs => ∃ b, (rs = [B b]) ∧ (ifB (bnot b) (Q [I 1]) (ifB down (Q [I 16]) (Cl Tryz.prog 164 sP [S s] (fun rs1 => ∃ b1, (rs1 = [B b1]) ∧ (ifB (bnot b1) (ifB (bpick true true (bnot true)) (Q [I 1]) (Q [I 0])) (Cl Tryz.prog 164 sP [S t] (fun rs2 => ∃ b2, (rs2 = [B b2]) ∧ (ifB (bpick false true (bnot b2)) (Q [I 1]) (Q [I 0]))))))))))) : Ct Tryz.prog 165 {} [dsk4 rows room steps down, S s, S t] Q :=
 fn_of (f := 165) SgT SvT (fun _ => none) Tryz.f165 Tryz.func165 (by kernel_rfl) (by kernel_rfl) h

theorem qat_nf (rows : LL) (room steps : Int) (down : Bool) (s : ByteArray) (Q : List SV → Prop) (h : ∃ Inv : Int → Int → Prop, ∃ m : Int → Int → Nat, (Inv 0 0) ∧ (∀ x x1, (Inv x x1) → ifB (ilt x1 (rlen rows)) ((((0 : Int) ≤ x1) ∧ (x1 < (rlen rows))) ∧ (∃ s1 l l1, (rget rows x1 = [S s1, SL 1 l, SL 1 l1]) ∧ (ifB (seq s1 s) (Q [I x1]) ((Sm (some ([[SL 3 rows, I room, I steps, B down]]))) ∧ ((Inv x (wadd .i64 x1 1)) ∧ (Nat.le (Nat.succ (m x (wadd .i64 x1 1))) (m x x1))))))) (Q [I ((-1 : Int))]))) : Ct Tryz.prog 90 {} [dsk4 rows room steps down, S s] Q :=
 fn_of (f := 90) SgT SvT (fun _ => none) Tryz.f90 Tryz.func90 (by kernel_rfl) (by kernel_rfl) h

theorem qall_nf (nm : ByteArray) (a b : LL) (Q : List SV → Prop) (h : ((lsum (rlen []) (rlen a)) ≤ ((2147483648 : Int))) ∧ (((lsum (rlen (rapp [] a)) (rlen b)) ≤ ((2147483648 : Int))) ∧ (Q ([SL 1 (rapp (rapp [] a) b)])))) : Ct Tryz.prog 91 {} [fil3 nm a b] Q :=
 fn_of (f := 91) SgT SvT (fun _ => none) Tryz.f91 Tryz.func91 (by kernel_rfl) (by kernel_rfl) h

theorem qstep_nf (rows : LL) (room steps : Int) (down : Bool) (Q : List SV → Prop) (h : ifB (ieq steps 0) (Q ([SV.agg [SL 3 rows, I room, I steps, B true], B false])) (ifB (igt steps 0) (Q ([SV.agg [SL 3 rows, I room, I (wsub .i64 steps 1), B down], B true])) (Q ([SV.agg [SL 3 rows, I room, I steps, B down], B true])))) : Ct Tryz.prog 166 {} [dsk4 rows room steps down] Q :=
 fn_of (f := 166) SgT SvT (fun _ => none) Tryz.f166 Tryz.func166 (by kernel_rfl) (by kernel_rfl) h

theorem qwithout_nf (rows : LL) (s : ByteArray) (Q : List SV → Prop) (h : ∃ Inv : (LL) → Int → Prop, ∃ m : (LL) → Int → Nat, (Inv [] 0) ∧ (∀ l x, (Inv l x) → ifB (ilt x (rlen rows)) ((((0 : Int) ≤ x) ∧ (x < (rlen rows))) ∧ (∃ s1 l1 l2, (rget rows x = [S s1, SL 1 l1, SL 1 l2]) ∧ (ifB (sne s1 s) ((((0 : Int) ≤ x) ∧ (x < (rlen rows))) ∧ (∃ s2 l3 l4, (rget rows x = [S s2, SL 1 l3, SL 1 l4]) ∧ (((lsum (rlen l) (rlen ([[S s2, SL 1 l3, SL 1 l4]]))) ≤ ((2147483648 : Int))) ∧ (((Option.some [] : Option (LL)) = Option.some []) ∧ ((Inv (rapp l ([[S s2, SL 1 l3, SL 1 l4]])) (wadd .i64 x 1)) ∧ (Nat.le (Nat.succ (m (rapp l ([[S s2, SL 1 l3, SL 1 l4]])) (wadd .i64 x 1))) (m l x))))))) (((Option.some [] : Option (LL)) = Option.some []) ∧ ((Inv l (wadd .i64 x 1)) ∧ (Nat.le (Nat.succ (m l (wadd .i64 x 1))) (m l x))))))) (Q [SL 3 l]))) : Ct Tryz.prog 167 {} [SL 3 rows, S s] Q :=
 fn_of (f := 167) SgT SvT (fun _ => none) Tryz.f167 Tryz.func167 (by kernel_rfl) (by kernel_rfl) h

theorem qwith_nf (rows : LL) (room steps : Int) (down : Bool) (nm : ByteArray) (a b : LL) (Q : List SV → Prop) (h : Cl Tryz.prog 167 sP [SL 3 rows, S nm] (fun rs => ∃ l, (rs = [SL 3 l]) ∧ (∃ Inv : Bool → (LL) → Int → Prop, ∃ m : Bool → (LL) → Int → Nat, (Inv false [] 0) ∧ (∀ b1 l1 x, (Inv b1 l1 x) → ifB (ilt x (rlen l)) (ifB (bnot b1) ((((0 : Int) ≤ x) ∧ (x < (rlen l))) ∧ (∃ s l2 l3, (rget l x = [S s, SL 1 l2, SL 1 l3]) ∧ (ifB (bpick true (sgt s nm) false) (((lsum (rlen l1) (rlen ([[S nm, SL 1 a, SL 1 b]]))) ≤ ((2147483648 : Int))) ∧ ((((0 : Int) ≤ x) ∧ (x < (rlen l))) ∧ (∃ s1 l4 l5, (rget l x = [S s1, SL 1 l4, SL 1 l5]) ∧ (((lsum (rlen (rapp l1 ([[S nm, SL 1 a, SL 1 b]]))) (rlen ([[S s1, SL 1 l4, SL 1 l5]]))) ≤ ((2147483648 : Int))) ∧ ((Sm (some ([[SV.slice 3 [] 1, I 0, I 0, B false], [S nm, SL 1 a, SL 1 b], [SL 3 rows, I room, I steps, B down]]))) ∧ ((Inv true (rapp (rapp l1 ([[S nm, SL 1 a, SL 1 b]])) ([[S s1, SL 1 l4, SL 1 l5]])) (wadd .i64 x 1)) ∧ (Nat.le (Nat.succ (m true (rapp (rapp l1 ([[S nm, SL 1 a, SL 1 b]])) ([[S s1, SL 1 l4, SL 1 l5]])) (wadd .i64 x 1))) (m b1 l1 x)))))))) ((((0 : Int) ≤ x) ∧ (x < (rlen l))) ∧ (∃ s1 l4 l5, (rget l x = [S s1, SL 1 l4, SL 1 l5]) ∧ (((lsum (rlen l1) (rlen ([[S s1, SL 1 l4, SL 1 l5]]))) ≤ ((2147483648 : Int))) ∧ ((Sm (some ([[SV.slice 3 [] 1, I 0, I 0, B false], [S nm, SL 1 a, SL 1 b], [SL 3 rows, I room, I steps, B down]]))) ∧ ((Inv b1 (rapp l1 ([[S s1, SL 1 l4, SL 1 l5]])) (wadd .i64 x 1)) ∧ (Nat.le (Nat.succ (m b1 (rapp l1 ([[S s1, SL 1 l4, SL 1 l5]])) (wadd .i64 x 1))) (m b1 l1 x)))))))))) (ifB (bpick false true false) (((lsum (rlen l1) (rlen ([[S nm, SL 1 a, SL 1 b]]))) ≤ ((2147483648 : Int))) ∧ ((((0 : Int) ≤ x) ∧ (x < (rlen l))) ∧ (∃ s l2 l3, (rget l x = [S s, SL 1 l2, SL 1 l3]) ∧ (((lsum (rlen (rapp l1 ([[S nm, SL 1 a, SL 1 b]]))) (rlen ([[S s, SL 1 l2, SL 1 l3]]))) ≤ ((2147483648 : Int))) ∧ ((Sm (some ([[SV.slice 3 [] 1, I 0, I 0, B false], [S nm, SL 1 a, SL 1 b], [SL 3 rows, I room, I steps, B down]]))) ∧ ((Inv true (rapp (rapp l1 ([[S nm, SL 1 a, SL 1 b]])) ([[S s, SL 1 l2, SL 1 l3]])) (wadd .i64 x 1)) ∧ (Nat.le (Nat.succ (m true (rapp (rapp l1 ([[S nm, SL 1 a, SL 1 b]])) ([[S s, SL 1 l2, SL 1 l3]])) (wadd .i64 x 1))) (m b1 l1 x)))))))) ((((0 : Int) ≤ x) ∧ (x < (rlen l))) ∧ (∃ s l2 l3, (rget l x = [S s, SL 1 l2, SL 1 l3]) ∧ (((lsum (rlen l1) (rlen ([[S s, SL 1 l2, SL 1 l3]]))) ≤ ((2147483648 : Int))) ∧ ((Sm (some ([[SV.slice 3 [] 1, I 0, I 0, B false], [S nm, SL 1 a, SL 1 b], [SL 3 rows, I room, I steps, B down]]))) ∧ ((Inv b1 (rapp l1 ([[S s, SL 1 l2, SL 1 l3]])) (wadd .i64 x 1)) ∧ (Nat.le (Nat.succ (m b1 (rapp l1 ([[S s, SL 1 l2, SL 1 l3]])) (wadd .i64 x 1))) (m b1 l1 x))))))))) (ifB (bnot b1) (((lsum (rlen l1) (rlen ([[S nm, SL 1 a, SL 1 b]]))) ≤ ((2147483648 : Int))) ∧ (Q ([SV.agg ([SL 3 (rapp l1 ([[S nm, SV.slice 1 a 0, SV.slice 1 b 0]])), I room, I steps, B down])]))) (Q ([SV.agg [SL 3 l1, I room, I steps, B down]]))))))) : Ct Tryz.prog 168 {} [dsk4 rows room steps down, fil3 nm a b] Q :=
 fn_of (f := 168) SgT SvT (fun _ => none) Tryz.f168 Tryz.func168 (by kernel_rfl) (by kernel_rfl) h

theorem qcreate_nf (rows : LL) (room steps : Int) (down : Bool) (s : ByteArray) (Q : List SV → Prop) (h : Cl Tryz.prog 165 sP ([SV.agg [SL 3 rows, I room, I steps, B down], S s, S s]) (fun rs => ∃ x, (rs = [I x]) ∧ (ifB (ine x 0) (Q ([SV.agg [SL 3 rows, I room, I steps, B down], I x])) (Cl Tryz.prog 90 sP ([SV.agg [SL 3 rows, I room, I steps, B down], S s]) (fun rs1 => ∃ x1, (rs1 = [I x1]) ∧ (ifB (ige x1 0) (Q ([SV.agg [SL 3 rows, I room, I steps, B down], I 7])) (ifB (ige (rlen rows) 64) (Q ([SV.agg [SL 3 rows, I room, I steps, B down], I 13])) (Cl Tryz.prog 166 sP ([SV.agg [SL 3 rows, I room, I steps, B down]]) (fun rs2 => ∃ l x2, ∃ x3 b b1, (rs2 = [SV.agg [SL 3 l, I x2, I x3, B b], B b1]) ∧ (ifB (bnot b1) (Q ([SV.agg [SL 3 l, I x2, I x3, B b], I 16])) (Cl Tryz.prog 168 sP ([SV.agg [SL 3 l, I x2, I x3, B b], SV.agg ([S s, SL 1 [], SL 1 []])]) (fun rs3 => ∃ l1 x4, ∃ x5 b2, (rs3 = [SV.agg [SL 3 l1, I x4, I x5, B b2]]) ∧ (Q ([SV.agg [SL 3 l1, I x4, I x5, B b2], I 0])))))))))))))) : Ct Tryz.prog 93 {} [dsk4 rows room steps down, S s] Q :=
 fn_of (f := 93) SgT SvT (fun _ => none) Tryz.f93 Tryz.func93 (by kernel_rfl) (by kernel_rfl) h

theorem qappend_nf (rows : LL) (room steps : Int) (down : Bool) (s : ByteArray) (x : LL) (Q : List SV → Prop) (h : Cl Tryz.prog 165 sP ([SV.agg [SL 3 rows, I room, I steps, B down], S s, S s]) (fun rs => ∃ x1, (rs = [I x1]) ∧ (ifB (ine x1 0) (Q ([SV.agg [SL 3 rows, I room, I steps, B down], I x1])) (Cl Tryz.prog 90 sP ([SV.agg [SL 3 rows, I room, I steps, B down], S s]) (fun rs1 => ∃ x2, (rs1 = [I x2]) ∧ (ifB (ilt x2 0) (Q ([SV.agg [SL 3 rows, I room, I steps, B down], I 14])) (Cl Tryz.prog 67 sP ([SV.agg [SL 3 rows, I room, I steps, B down]]) (fun rs2 => ∃ x3, (rs2 = [I x3]) ∧ (ifB (igt (wadd .i64 x3 (rlen x)) room) (Q ([SV.agg [SL 3 rows, I room, I steps, B down], I 13])) ((((0 : Int) ≤ x2) ∧ (x2 < (rlen rows))) ∧ (∃ s1 l l1, (rget rows x2 = [S s1, SL 1 l, SL 1 l1]) ∧ (((lsum (rlen []) (rlen l1)) ≤ ((2147483648 : Int))) ∧ (((lsum (rlen (rapp [] l1)) (rlen x)) ≤ ((2147483648 : Int))) ∧ (Cl Tryz.prog 168 sP ([SV.agg [SL 3 rows, I room, I steps, B down], SV.agg ([S s1, SL 1 l, SL 1 (rapp (rapp [] l1) x)])]) (fun rs3 => ∃ l2 x4, ∃ x5 b, (rs3 = [SV.agg [SL 3 l2, I x4, I x5, B b]]) ∧ (Cl Tryz.prog 166 sP ([SV.agg [SL 3 l2, I x4, I x5, B b]]) (fun rs4 => ∃ l3 x6, ∃ x7 b1 b2, (rs4 = [SV.agg [SL 3 l3, I x6, I x7, B b1], B b2]) ∧ (ifB (bnot b2) (Q ([SV.agg [SL 3 l3, I x6, I x7, B b1], I 16])) (Q ([SV.agg [SL 3 l3, I x6, I x7, B b1], I 0])))))))))))))))))))) : Ct Tryz.prog 94 {} [dsk4 rows room steps down, S s, SL 1 x] Q :=
 fn_of (f := 94) SgT SvT (fun _ => none) Tryz.f94 Tryz.func94 (by kernel_rfl) (by kernel_rfl) h

theorem qsync_nf (rows : LL) (room steps : Int) (down : Bool) (s : ByteArray) (Q : List SV → Prop) (h : Cl Tryz.prog 165 sP ([SV.agg [SL 3 rows, I room, I steps, B down], S s, S s]) (fun rs => ∃ x, (rs = [I x]) ∧ (ifB (ine x 0) (Q ([SV.agg [SL 3 rows, I room, I steps, B down], I x])) (Cl Tryz.prog 90 sP ([SV.agg [SL 3 rows, I room, I steps, B down], S s]) (fun rs1 => ∃ x1, (rs1 = [I x1]) ∧ (ifB (ilt x1 0) (Q ([SV.agg [SL 3 rows, I room, I steps, B down], I 14])) (Cl Tryz.prog 166 sP ([SV.agg [SL 3 rows, I room, I steps, B down]]) (fun rs2 => ∃ l x2, ∃ x3 b b1, (rs2 = [SV.agg [SL 3 l, I x2, I x3, B b], B b1]) ∧ (ifB (bnot b1) (Q ([SV.agg [SL 3 l, I x2, I x3, B b], I 16])) ((((0 : Int) ≤ x1) ∧ (x1 < (rlen l))) ∧ (∃ s1 l1 l2, (rget l x1 = [S s1, SL 1 l1, SL 1 l2]) ∧ (Cl Tryz.prog 91 sP ([SV.agg [S s1, SL 1 l1, SL 1 l2]]) (fun rs3 => ∃ l3, (rs3 = [SL 1 l3]) ∧ (Cl Tryz.prog 168 sP ([SV.agg [SL 3 l, I x2, I x3, B b], SV.agg ([S s, SL 1 l3, SL 1 []])]) (fun rs4 => ∃ l4 x4, ∃ x5 b2, (rs4 = [SV.agg [SL 3 l4, I x4, I x5, B b2]]) ∧ (Q ([SV.agg [SL 3 l4, I x4, I x5, B b2], I 0]))))))))))))))))) : Ct Tryz.prog 95 {} [dsk4 rows room steps down, S s] Q :=
 fn_of (f := 95) SgT SvT (fun _ => none) Tryz.f95 Tryz.func95 (by kernel_rfl) (by kernel_rfl) h

theorem qrename_nf (rows : LL) (room steps : Int) (down : Bool) (s t : ByteArray) (Q : List SV → Prop) (h : Cl Tryz.prog 165 sP ([SV.agg [SL 3 rows, I room, I steps, B down], S s, S t]) (fun rs => ∃ x, (rs = [I x]) ∧ (ifB (ine x 0) (Q ([SV.agg [SL 3 rows, I room, I steps, B down], I x])) (Cl Tryz.prog 90 sP ([SV.agg [SL 3 rows, I room, I steps, B down], S s]) (fun rs1 => ∃ x1, (rs1 = [I x1]) ∧ (ifB (ilt x1 0) (Q ([SV.agg [SL 3 rows, I room, I steps, B down], I 14])) (Cl Tryz.prog 166 sP ([SV.agg [SL 3 rows, I room, I steps, B down]]) (fun rs2 => ∃ l x2, ∃ x3 b b1, (rs2 = [SV.agg [SL 3 l, I x2, I x3, B b], B b1]) ∧ (ifB (bnot b1) (Q ([SV.agg [SL 3 l, I x2, I x3, B b], I 16])) ((((0 : Int) ≤ x1) ∧ (x1 < (rlen l))) ∧ (∃ s1 l1 l2, (rget l x1 = [S s1, SL 1 l1, SL 1 l2]) ∧ (Cl Tryz.prog 167 sP [SL 3 l, S s] (fun rs3 => ∃ l3, (rs3 = [SL 3 l3]) ∧ (Cl Tryz.prog 168 sP ([SV.agg [SL 3 l3, I x2, I x3, B b], SV.agg [S t, SL 1 l1, SL 1 l2]]) (fun rs4 => ∃ l4 x4, ∃ x5 b2, (rs4 = [SV.agg [SL 3 l4, I x4, I x5, B b2]]) ∧ (Q ([SV.agg [SL 3 l4, I x4, I x5, B b2], I 0]))))))))))))))))) : Ct Tryz.prog 96 {} [dsk4 rows room steps down, S s, S t] Q :=
 fn_of (f := 96) SgT SvT (fun _ => none) Tryz.f96 Tryz.func96 (by kernel_rfl) (by kernel_rfl) h

theorem qremove_nf (rows : LL) (room steps : Int) (down : Bool) (s : ByteArray) (Q : List SV → Prop) (h : Cl Tryz.prog 165 sP ([SV.agg [SL 3 rows, I room, I steps, B down], S s, S s]) (fun rs => ∃ x, (rs = [I x]) ∧ (ifB (ine x 0) (Q ([SV.agg [SL 3 rows, I room, I steps, B down], I x])) (Cl Tryz.prog 90 sP ([SV.agg [SL 3 rows, I room, I steps, B down], S s]) (fun rs1 => ∃ x1, (rs1 = [I x1]) ∧ (ifB (ilt x1 0) (Q ([SV.agg [SL 3 rows, I room, I steps, B down], I 14])) (Cl Tryz.prog 166 sP ([SV.agg [SL 3 rows, I room, I steps, B down]]) (fun rs2 => ∃ l x2, ∃ x3 b b1, (rs2 = [SV.agg [SL 3 l, I x2, I x3, B b], B b1]) ∧ (ifB (bnot b1) (Q ([SV.agg [SL 3 l, I x2, I x3, B b], I 16])) (Cl Tryz.prog 167 sP [SL 3 l, S s] (fun rs3 => ∃ l1, (rs3 = [SL 3 l1]) ∧ (Q ([SV.agg [SL 3 l1, I x2, I x3, B b], I 0]))))))))))))) : Ct Tryz.prog 92 {} [dsk4 rows room steps down, S s] Q :=
 fn_of (f := 92) SgT SvT (fun _ => none) Tryz.f92 Tryz.func92 (by kernel_rfl) (by kernel_rfl) h

end Go.Proofs.YtbocfphenkidnaaGreatDoor.Dsk

namespace Go.Proofs.YtbocfphenkidnaaGreatDoor.Dsk
open Go Go.Px Go.Proofs Ins
set_option maxRecDepth 100000
set_option linter.unusedVariables false

theorem ovl_file : fovl Tryz.prog 233 53 := by
 refine ⟨#[4], fun x y w => ?_⟩
 rw [run_callFunc_extern Tryz.func233 (by kernel_rfl) (by kernel_rfl) (by kernel_rfl) (e := Extern.SlicesOverlaps.overlaps #[53, 53] #[4]) (by kernel_rfl)]

theorem grow_fn (n : Nat) (hn : n ≤ 2147483648) : Ct Tryz.prog 176 ⟨[.own], [.own]⟩ [SL 1 [], I n] (fun r => r = [SL 1 []]) := by
 refine grow_nf _ _ _ (ifB_intro (fun h => by simp at h; omega) (fun _ x hx hxm => ?_))
 simp only [rlen_eq, List.length_nil, isub_d, lsum_eq, Int.sub_zero, Int.zero_add] at hx ⊢
 have hx : (0 : Int) ≤ x := hx
 have w : wsub .i64 (n : Int) (wsub .i64 x ((0 : Nat) : Int)) = n - x := by
  rw [wsub_i64 (a := x) (by omega) (by omega)]; rw [wsub_i64 (by omega) (by omega)]; omega
 rw [w]
 refine ifB_intro (fun h => ?_) (fun h => ⟨Int.le_refl _, by simp [rsub]⟩)
 simp at h
 refine ⟨⟨by omega, hx, by omega⟩, ⟨⟨by omega, by omega⟩, by omega, by omega⟩, fun h0 x1 h1 h2 => ⟨⟨by omega, by omega, by omega⟩, by omega, by simp [rsub]⟩, fun h0 x1 h1 h2 => ⟨⟨by omega, by omega, by omega⟩, by omega, by simp [rsub]⟩⟩

def catL : List (List UInt8) → List UInt8 := List.flatten
abbrev sR (ls : List (List UInt8)) : List (List SV) := ls.map fun l => [SL 1 (uR l)]
theorem cat_take (ls : List (List UInt8)) (i : Nat) (h : i < ls.length) : catL (ls.take (i + 1)) = catL (ls.take i) ++ ls[i] := by
 rw [take_s _ _ h]; unfold catL; rw [List.flatten_append, List.flatten_singleton]
theorem cat_le (ls : List (List UInt8)) (i : Nat) : (catL (ls.take i)).length ≤ (catL ls).length := by
 conv => rhs; rw [← List.take_append_drop i ls]
 simp only [catL, List.flatten_append, List.length_append]; omega

theorem concat_fn (ls : List (List UInt8)) (hl : ls.length ≤ 1000) (hc : (catL ls).length ≤ 2147483648) : Ct Tryz.prog 102 ⟨[], [.own]⟩ [SL 1 (sR ls)] (fun r => r = [SL 1 (uR (catL ls))]) := by
 refine concat_nf _ _ ⟨fun x y => ∃ i : Nat, y = i ∧ i ≤ ls.length ∧ x = (catL (ls.take i)).length, fun _ y => ls.length - y.toNat, ⟨0, rfl, by omega, by simp [catL]⟩, ?_⟩
 rintro _ _ ⟨i, rfl, hi, rfl⟩
 refine ifB_intro (fun h => ?_) (fun h => ?_)
 ·simp at h
  have e := cat_take ls i h
  have e2 := cat_le ls (i + 1)
  rw [e, List.length_append] at e2
  refine ⟨⟨by omega, by simpa using h⟩, uR ls[i], by rw [rget_map _ _ _ h], ?_⟩
  rw [rlen_eq, uR_len, waddNN _ _ (by omega)]
  refine ifB_intro (fun h2 => by simp at h2; omega) (fun _ => ⟨rfl, ?_, ?_⟩)
  ·rw [waddN _ (by omega)]
   exact ⟨i + 1, rfl, by omega, by rw [e, List.length_append]⟩
  ·rw [waddN _ (by omega)]; exact stepL (by simp; omega)
 ·simp at h
  have : i = ls.length := by omega
  subst this
  rw [List.take_length]
  refine Cl.of (grow_fn _ hc) ⟨_, rfl, fun l y => ∃ i : Nat, y = i ∧ i ≤ ls.length ∧ l = uR (catL (ls.take i)), fun _ y => ls.length - y.toNat, ⟨0, rfl, by omega, by simp [catL]⟩, ?_⟩
  rintro _ _ ⟨i, rfl, hi, rfl⟩
  refine ifB_intro (fun h => ?_) (fun h => ?_)
  ·simp at h
   have e := cat_take ls i h
   have e2 := cat_le ls (i + 1)
   rw [e, List.length_append] at e2
   refine ⟨⟨by omega, by simpa using h⟩, uR ls[i], by rw [rget_map _ _ _ h], by simp; omega, rfl, ?_, ?_⟩
   ·rw [waddN _ (by omega)]
    exact ⟨i + 1, rfl, by omega, by rw [e, rapp_map]⟩
   ·rw [waddN _ (by omega)]; exact stepL (by simp; omega)
  ·simp at h
   have : i = ls.length := by omega
   subst this
   rw [List.take_length]
theorem concat2 (a b : List UInt8) (h : a.length + b.length ≤ 2147483648) : Ct Tryz.prog 102 ⟨[], [.own]⟩ [SL 1 [[SL 1 (uR a)], [SL 1 (uR b)]]] (fun r => r = [SL 1 (uR (a ++ b))]) := by
 have := concat_fn [a, b] (by simp) (by simpa [catL] using h)
 simpa [catL] using this
theorem concat3 (a b c : List UInt8) (h : a.length + b.length + c.length ≤ 2147483648) : Ct Tryz.prog 102 ⟨[], [.own]⟩ [SL 1 [[SL 1 (uR a)], [SL 1 (uR b)], [SL 1 (uR c)]]] (fun r => r = [SL 1 (uR (a ++ b ++ c))]) := by
 have := concat_fn [a, b, c] (by simp) (by simp [catL]; omega)
 simpa [catL] using this

theorem dsize_fn (f : FiD) (h : f.len ≤ 72057594037927936) : Ct Tryz.prog 153 {} [.agg f.row] (fun r => r = [I f.len]) := by
 refine dsize_nf _ _ _ _ ?_
 unfold FiD.len at h ⊢
 rw [rlen_eq, rlen_eq, uR_len, uR_len, waddNN _ _ (by omega)]

def _root_.Go.Px.DiD.ok (d : DiD) : Prop := usedL d.fs ≤ 72057594037927936 ∧ d.fs.length ≤ 72057594037927936 ∧ d.st ≤ 9223372036854775807
theorem _root_.Go.Px.DiD.P.ok {d : DiD} (h : d.P) (hs : d.st ≤ 9223372036854775807) : d.ok := by
 have h1 := h.1; have h2 := h.2.1
 exact ⟨by omega, by omega, hs⟩

theorem used_take (l : List FiD) (i : Nat) (h : i < l.length) : usedL (l.take (i + 1)) = usedL (l.take i) + l[i].len := by
 rw [take_s _ _ h, usedL_app]; simp [usedL]
theorem used_le (l : List FiD) (i : Nat) : usedL (l.take i) ≤ usedL l := by
 have := congrArg usedL (List.take_append_drop i l)
 rw [usedL_app] at this; omega

theorem dused_fn (d : DiD) (h : d.ok) : Ct Tryz.prog 83 {} [d.sv] (fun r => r = [I (usedL d.fs)]) := by
 obtain ⟨h1, h2, _⟩ := h
 refine dused_nf _ _ _ _ _ ⟨fun x y => ∃ i : Nat, y = i ∧ i ≤ d.fs.length ∧ x = usedL (d.fs.take i), fun _ y => d.fs.length - y.toNat, ⟨0, rfl, by omega, by simp [usedL]⟩, ?_⟩
 rintro _ _ ⟨i, rfl, hi, rfl⟩
 refine ifB_intro (fun h => ?_) (fun h => ?_)
 ·simp at h
  have e := used_take d.fs i h
  have e2 := used_le d.fs (i + 1)
  refine ⟨⟨by omega, by simpa using h⟩, _, _, _, rget_map _ _ _ h, Cl.of (dsize_fn d.fs[i] (by have := usedL_mem (List.getElem_mem h); omega)) ⟨_, rfl, rfl, ?_, ?_⟩⟩
  ·rw [waddN _ (by omega), waddNN _ _ (by omega)]
   exact ⟨i + 1, rfl, by omega, by rw [e]⟩
  ·rw [waddN _ (by omega)]; exact stepL (by simp; omega)
 ·simp at h
  have : i = d.fs.length := by omega
  subst this
  rw [List.take_length]

theorem dlist_fn (d : DiD) (h : d.fs.length ≤ 2147483648) : Ct Tryz.prog 97 {} [d.sv] (fun r => r = [SL 1 (nR (d.fs.map FiD.nm))]) := by
 refine dlist_nf _ _ _ _ _ ⟨⟨by omega, by simp, by simp; omega⟩, fun l y => ∃ i : Nat, y = i ∧ i ≤ d.fs.length ∧ l = nR ((d.fs.take i).map FiD.nm), fun _ y => d.fs.length - y.toNat, ⟨0, rfl, by omega, by simp [rrep]⟩, ?_⟩
 rintro _ _ ⟨i, rfl, hi, rfl⟩
 refine ifB_intro (fun h => ?_) (fun h => ?_)
 ·simp at h
  refine ⟨⟨by omega, by simpa using h⟩, _, _, _, rget_map _ _ _ h, by simp; omega, rfl, ?_, ?_⟩
  ·rw [waddN _ (by omega)]
   exact ⟨i + 1, rfl, by omega, by rw [take_s _ _ h, List.map_append]; exact rapp_map _ _ [d.fs[i].nm]⟩
  ·rw [waddN _ (by omega)]; exact stepL (by simp; omega)
 ·simp at h
  have : i = d.fs.length := by omega
  subst this
  rw [List.take_length]

theorem fnB_iff {s : ByteArray} : fnB s = true ↔ (1 ≤ s.size ∧ s.size ≤ 16) ∧ ∀ i : Nat, ∀ h : i < s.size, fchr (s.data.toList[i]'(by rw [← ba_size]; exact h)) = true := by
 unfold fnB
 rw [Bool.and_eq_true, decide_eq_true_eq, List.all_eq_true]
 refine and_congr Iff.rfl ⟨fun h i hi => h _ (List.getElem_mem _), fun h b hb => ?_⟩
 obtain ⟨i, hi, rfl⟩ := List.mem_iff_getElem.1 hb
 exact h i (by rw [ba_size]; exact hi)

theorem dnamed_fn (s : ByteArray) : Ct Tryz.prog 152 {} [S s] (fun r => r = [B (fnB s)]) := by
 refine dnamed_nf _ _ (ifB_intro (fun h => ?_) (fun h => ?_))
 ·simp at h
  have : fnB s = false := by
   rw [Bool.eq_false_iff]; intro k; have := (fnB_iff.1 k).1; omega
  rw [this]
 ·simp at h
  refine ⟨fun _ y => ∃ i : Nat, y = i ∧ i ≤ s.size ∧ ∀ j : Nat, ∀ hj : j < s.size, j < i → fchr (s.data.toList[j]'(by rw [← ba_size]; exact hj)) = true, fun _ y => s.size - y.toNat, ⟨0, rfl, by omega, fun j _ hj => by omega⟩, ?_⟩
  rintro _ _ ⟨i, rfl, hi, hall⟩
  refine ifB_intro (fun h1 => ?_) (fun h1 => ?_)
  ·simp at h1
   rw [sbyte_u _ _ h1, waddN _ (by omega)]
   generalize hb : s.data.toList[i]'(by rw [← ba_size]; exact h1) = b
   have yes : fchr b = true → ∃ k : Nat, ((i + 1 : Nat) : Int) = k ∧ k ≤ s.size ∧ ∀ j : Nat, ∀ hj : j < s.size, j < k → fchr (s.data.toList[j]'(by rw [← ba_size]; exact hj)) = true := fun hf =>
    ⟨i + 1, rfl, by omega, fun j hj hjk => by
     by_cases e : j = i
     ·subst e; rw [hb]; exact hf
     ·exact hall j hj (by omega)⟩
   have no : fchr b = false → [B false] = [B (fnB s)] := fun hf => by
    have : fnB s = false := by
     rw [Bool.eq_false_iff]; intro k; have := (fnB_iff.1 k).2 i h1; rw [hb, hf] at this; cases this
    rw [this]
   have st : Nat.le (Nat.succ (s.size - ((i + 1 : Nat) : Int).toNat)) (s.size - ((i : Nat) : Int).toNat) := stepL (by simp; omega)
   have rng : (0 : Int) ≤ (i : Int) ∧ (i : Int) < slen s := ⟨by omega, by simpa using h1⟩
   have fT : ∀ {p : Prop}, (p ↔ fchr b = true) → p → fchr b = true := fun h => h.1
   have fch : fchr b = true ↔ (97 ≤ b.toNat ∧ b.toNat ≤ 122) ∨ (48 ≤ b.toNat ∧ b.toNat ≤ 57) ∨ b.toNat = 46 := by unfold fchr; rw [decide_eq_true_eq]
   have fcf : fchr b = false ↔ ¬ ((97 ≤ b.toNat ∧ b.toNat ≤ 122) ∨ (48 ≤ b.toNat ∧ b.toNat ≤ 57) ∨ b.toNat = 46) := by rw [← fch]; simp
   have fin : ∀ (g : Bool), (g = true ↔ fchr b = false) → ifB g ([B false] = [B (fnB s)]) ((some [] : Option (List (List SV))) = some [] ∧ (∃ k : Nat, ((i + 1 : Nat) : Int) = k ∧ k ≤ s.size ∧ ∀ j : Nat, ∀ hj : j < s.size, j < k → fchr (s.data.toList[j]'(by rw [← ba_size]; exact hj)) = true) ∧ Nat.le (Nat.succ (s.size - ((i + 1 : Nat) : Int).toNat)) (s.size - ((i : Nat) : Int).toNat)) := fun g hg =>
    ifB_intro (fun h => no (hg.1 h)) (fun h => ⟨rfl, yes (by cases hf : fchr b with | true => rfl | false => rw [hg.2 hf] at h; cases h), st⟩)
   refine ⟨rng, ifB_intro (fun g1 => ⟨rng, rng, ifB_intro (fun g2 => ⟨rng, ifB_intro (fun g3 => ⟨rng, fin _ ?_⟩) (fun g3 => fin _ ?_)⟩) (fun g2 => ifB_intro (fun g3 => ⟨rng, fin _ ?_⟩) (fun g3 => fin _ ?_))⟩) (fun g1 => ⟨rng, ifB_intro (fun g2 => ⟨rng, ifB_intro (fun g3 => ⟨rng, fin _ ?_⟩) (fun g3 => fin _ ?_)⟩) (fun g2 => ifB_intro (fun g3 => ⟨rng, fin _ ?_⟩) (fun g3 => fin _ ?_))⟩)⟩
   all_goals first | (simp at g1 g2 g3; done) | (simp at g1 g2 g3; rw [fcf]; first | (simp; done) | (simp; omega))
  ·simp at h1
   have : fnB s = true := fnB_iff.2 ⟨by omega, fun j hj => hall j hj (by omega)⟩
   rw [this]

theorem adj_srt {l : List FiD} (h : ∀ i : Nat, ∀ hi : i < l.length, 0 < i → nlt (l[i - 1]'(by omega)).nm l[i].nm) : srt FiD.nm l :=
 srt_adj fun i hi => by have := h (i + 1) hi (by omega); simpa using this

theorem dright_fn (d : DiD) (h : d.ok) : Ct Tryz.prog 82 {} [d.sv] (fun r => r = [B (decide d.P)]) := by
 have no : ¬ d.P → [B false] = [B (decide d.P)] := fun h => by simp [h]
 refine dright_nf _ _ _ _ _ (ifB_intro (fun h1 => no (fun p => ?_)) (fun h1 => ?_))
 ·have := p.1; simp at h1; omega
 ·simp at h1
  refine ⟨fun _ y => ∃ i : Nat, y = i ∧ i ≤ d.fs.length ∧ ∀ j : Nat, ∀ hj : j < d.fs.length, j < i → fnB d.fs[j].nm = true ∧ (0 < j → nlt (d.fs[j - 1]'(by omega)).nm d.fs[j].nm), fun _ y => d.fs.length - y.toNat, ⟨0, rfl, by omega, fun j _ hj => by omega⟩, ?_⟩
  rintro b _ ⟨i, rfl, hi, hall⟩
  refine ifB_intro (fun h2 => ?_) (fun h2 => ?_)
  ·simp at h2
   have st : Nat.le (Nat.succ (d.fs.length - ((i + 1 : Nat) : Int).toNat)) (d.fs.length - ((i : Nat) : Int).toNat) := stepL (by simp; omega)
   have nxt : fnB d.fs[i].nm = true → (0 < i → nlt (d.fs[i - 1]'(by omega)).nm d.fs[i].nm) → ∃ k : Nat, ((i + 1 : Nat) : Int) = k ∧ k ≤ d.fs.length ∧ ∀ j : Nat, ∀ hj : j < d.fs.length, j < k → fnB d.fs[j].nm = true ∧ (0 < j → nlt (d.fs[j - 1]'(by omega)).nm d.fs[j].nm) := fun a b =>
    ⟨i + 1, rfl, by omega, fun j hj hjk => by
     by_cases e : j = i
     ·subst e; exact ⟨a, b⟩
     ·exact hall j hj (by omega)⟩
   rw [waddN _ (by omega)]
   refine ⟨⟨by omega, by simpa using h2⟩, _, _, _, rget_map _ _ _ h2, Cl.of (dnamed_fn _) ⟨_, rfl, ifB_intro (fun h3 => ?_) (fun h3 => ?_)⟩⟩
   ·simp at h3
    refine ifB_intro (fun _ => no (fun p => ?_)) (fun h4 => by simp at h4)
    have := p.2.2.1 _ (List.getElem_mem h2); rw [this] at h3; cases h3
   ·simp at h3
    refine ifB_intro (fun h4 => ?_) (fun h4 => ?_)
    ·simp at h4
     have w : wsub .i64 (i : Int) 1 = ((i - 1 : Nat) : Int) := by rw [wsub_i64 (by omega) (by omega)]; omega
     rw [w]
     have hi1 : i - 1 < d.fs.length := by omega
     refine ⟨⟨by omega, by simp; omega⟩, _, _, _, rget_map _ _ _ hi1, ?_⟩
     rw [sge_d]
     refine ifB_intro (fun h5 => no (fun p => ?_)) (fun h5 => ⟨rfl, nxt h3 (fun _ => ?_), st⟩)
     ·simp at h5
      exact h5 (srt_get p.2.2.2 (by omega) h2)
     ·simp at h5; exact h5
    ·simp at h4
     refine ifB_intro (fun h5 => by simp at h5) (fun h5 => ⟨rfl, nxt h3 (fun _ => by omega), st⟩)
  ·simp at h2
   have hs : srt FiD.nm d.fs := adj_srt fun j hj => (hall j hj (by omega)).2
   have hn : ∀ f ∈ d.fs, fnB f.nm = true := fun f hf => by
    obtain ⟨j, hj, rfl⟩ := List.mem_iff_getElem.1 hf
    exact (hall j hj (by omega)).1
   refine Cl.of (dused_fn d h) ⟨_, rfl, ?_⟩
   have : ile (usedL d.fs : Int) d.rm = decide d.P := by
    rw [ile_eq, decide_eq_decide]
    exact ⟨fun k => ⟨⟨by omega, by omega, by omega, by omega⟩, k, hn, hs⟩, fun p => p.2.1⟩
   rw [this]

theorem dready1_fn (s : ByteArray) : Ct Tryz.prog 178 {} [S s] (fun r => r = [B (!fnB s)]) :=
 dready1_nf _ _ (Cl.of (dnamed_fn s) ⟨_, rfl, rfl⟩)

theorem sindex_fn (l : List ByteArray) (f : FuncId) (cs : List SV) (p : ByteArray → Bool) (hlen : l.length ≤ 1000000) (hf : ∀ s ∈ l, Ct Tryz.prog f sP (S s :: cs) (fun x => x = [B (p s)])) :
  Ct Tryz.prog 216 {} [SL 1 (nR l), .clo f cs] (fun r => ∃ x : Int, r = [I x] ∧ ((x = -1 ∧ ∀ s ∈ l, p s = false) ∨ (0 ≤ x ∧ ∃ s ∈ l, p s = true))) := by
 refine sindex_nf _ _ _ _ ⟨fun _ y => ∃ i : Nat, y = i ∧ i ≤ l.length ∧ ∀ j : Nat, ∀ hj : j < l.length, j < i → p l[j] = false, fun _ y => l.length - y.toNat, ⟨0, rfl, by omega, fun j _ hj => by omega⟩, ?_⟩
 rintro _ _ ⟨i, rfl, hi, hall⟩
 refine ifB_intro (fun h => ?_) (fun h => ?_)
 ·simp at h
  rw [waddN _ (by omega)]
  refine ⟨⟨by omega, by simpa using h⟩, _, rget_map _ _ _ h, Cl.of (hf _ (List.getElem_mem h)) ⟨_, rfl, ifB_intro (fun hb => ⟨_, rfl, .inr ⟨by omega, _, List.getElem_mem h, hb⟩⟩) (fun hb => ⟨rfl, ⟨i + 1, rfl, by omega, fun j hj hjk => ?_⟩, stepL (by simp; omega)⟩)⟩⟩
  by_cases e : j = i
  ·subst e; exact hb
  ·exact hall j hj (by omega)
 ·simp at h
  refine ⟨-1, rfl, .inl ⟨rfl, fun s hs => ?_⟩⟩
  obtain ⟨j, hj, rfl⟩ := List.mem_iff_getElem.1 hs
  exact hall j hj (by omega)

theorem scont_fn (l : List ByteArray) (f : FuncId) (cs : List SV) (p : ByteArray → Bool) (hlen : l.length ≤ 1000000) (hf : ∀ s ∈ l, Ct Tryz.prog f sP (S s :: cs) (fun x => x = [B (p s)])) :
  Ct Tryz.prog 177 {} [SL 1 (nR l), .clo f cs] (fun r => r = [B (l.any p)]) := by
 refine scont_nf _ _ _ _ (Cl.ofQ (sindex_fn l f cs p hlen hf) ?_)
 rintro _ ⟨x, rfl, hx⟩
 refine ⟨x, rfl, ?_⟩
 rcases hx with ⟨rfl, h⟩ | ⟨h0, s, hs, h⟩
 ·have : l.any p = false := by rw [List.any_eq_false]; intro s hs; simp [h s hs]
  rw [this]; simp
 ·have : l.any p = true := List.any_eq_true.2 ⟨s, hs, h⟩
  rw [this]; simp; omega

theorem dready_fn (d : DiD) (h : d.ok) (l : List ByteArray) (hl : l.length ≤ 1000) : Ct Tryz.prog 104 {} [d.sv, SL 1 (nR l)] (fun r => r = [I (if d.P then (if d.dn = true then 16 else if l.any (fun s => !fnB s) = true then 1 else 0) else 1)]) := by
 refine dready_nf _ _ _ _ _ _ (Cl.of (dright_fn d h) ⟨_, rfl, ifB_intro (fun h1 => ?_) (fun h1 => ifB_intro (fun h2 => ?_) (fun h2 => Cl.of (scont_fn l 178 [] (fun s => !fnB s) (by omega) (fun s _ => dready1_fn s)) ⟨_, rfl, ifB_intro (fun h3 => ?_) (fun h3 => ?_)⟩))⟩)
 ·simp at h1; rw [if_neg h1]
 ·simp at h1; rw [if_pos h1, if_pos h2]
 ·simp at h1; rw [if_pos h1, if_neg (by simp [h2]), if_pos h3]
 ·simp at h1; rw [if_pos h1, if_neg (by simp [h2]), if_neg (by simp [h3])]
theorem ready1 (d : DiD) (h : d.ok) (s : ByteArray) : Ct Tryz.prog 104 {} [d.sv, SL 1 [[S s]]] (fun r => r = [I (d.er s s)]) := by
 have := dready_fn d h [s] (by simp)
 have e : (if d.P then (if d.dn = true then (16 : Int) else if [s].any (fun s => !fnB s) = true then 1 else 0) else 1) = d.er s s := by
  unfold DiD.er
  cases h1 : fnB s <;> simp [h1]
 rw [e] at this
 exact this
theorem ready2 (d : DiD) (h : d.ok) (a b : ByteArray) : Ct Tryz.prog 104 {} [d.sv, SL 1 [[S a], [S b]]] (fun r => r = [I (d.er a b)]) := by
 have := dready_fn d h [a, b] (by simp)
 have e : (if d.P then (if d.dn = true then (16 : Int) else if [a, b].any (fun s => !fnB s) = true then 1 else 0) else 1) = d.er a b := by
  unfold DiD.er
  cases h1 : fnB a <;> cases h2 : fnB b <;> simp [h1, h2]
 rw [e] at this
 exact this

theorem dplace1_fn (f : FiD) (s : ByteArray) : Ct Tryz.prog 180 {} [.agg f.row, .ref 0 [S s]] (fun r => r = [B (decide (f.nm = s))]) :=
 dplace1_nf _ _ _ _ _ (by rw [seq_d])

theorem isFil_row (f : FiD) : isFil f.row := ⟨_, _, _, rfl⟩
def rnm (r : List SV) : ByteArray := match r with | .val (.string s) :: _ => s | _ => ByteArray.empty
theorem rnm_row (f : FiD) : rnm f.row = f.nm := rfl

theorem dplace_fn (d : DiD) (hl : d.fs.length ≤ 1000000) (s : ByteArray) : Ct Tryz.prog 105 {} [d.sv, S s] (fun r => r = [I (fAt FiD.nm d.fs s)]) := by
 refine dplace_nf _ _ _ _ _ _ (Cl.ofQ (findex_fn (fR d.fs) 180 [.ref 0 [S s]] (fun r => decide (rnm r = s)) (by simpa using hl) (fun r hr => ?_)) ?_)
 ·obtain ⟨f, _, rfl⟩ := List.mem_map.1 hr
  exact ⟨isFil_row f, dplace1_fn f s⟩
 ·rintro _ ⟨x, rfl, hx⟩
  refine ⟨x, rfl, ?_⟩
  have : x = fAt FiD.nm d.fs s := by
   rcases hx with ⟨rfl, h⟩ | ⟨h0, h1, h2, h3⟩
   ·refine (fAt_none.2 fun f hf => ?_).symm
    have := h f.row (List.mem_map_of_mem hf)
    exact of_decide_eq_false (this : decide (f.nm = s) = false)
   ·obtain ⟨i, rfl⟩ : ∃ i : Nat, x = i := ⟨x.toNat, by omega⟩
    have hi : i < d.fs.length := by simpa using h1
    rw [rget_map _ _ _ hi, rnm_row] at h3
    have e : fnd FiD.nm d.fs s = some i := fnd_some.2 ⟨hi, by simpa using h3, fun j hj => by
     have hj' : j < d.fs.length := by omega
     have := h2 d.fs[j].row (by
      rw [← List.map_take]
      exact List.mem_map_of_mem (List.mem_take_iff_getElem.2 ⟨j, by simp; omega, rfl⟩))
     exact of_decide_eq_false (this : decide (d.fs[j].nm = s) = false)⟩
    simp [fAt, e]
  rw [this]

theorem dsplit_fn (s : ByteArray) (l : List UInt8) (n : Nat) (h : n ≤ l.length) : Ct Tryz.prog 103 {} [S s, SL 1 (uR l), I n] (fun r => r = [.agg (FiD.row ⟨s, l.take n, l.drop n⟩)]) := by
 refine dsplit_nf _ _ _ _ ⟨⟨by omega, by omega, rfl, by simpa using h⟩, ⟨by omega, by simpa using h, rfl, Int.le_refl _⟩, ?_⟩
 rw [rsub_map, rsub_map]
 simp [FiD.row]
theorem dsplit_su (s : ByteArray) (a b : List UInt8) : Ct Tryz.prog 103 {} [S s, SL 1 (uR (a ++ b)), I (a.length : Nat)] (fun r => r = [.agg (FiD.row ⟨s, a, b⟩)]) := by
 have := dsplit_fn s (a ++ b) a.length (by simp)
 rw [List.take_left, List.drop_left] at this
 exact this
theorem dsplit_all (s : ByteArray) (a : List UInt8) : Ct Tryz.prog 103 {} [S s, SL 1 (uR a), I (a.length : Nat)] (fun r => r = [.agg (FiD.row ⟨s, a, []⟩)]) := by
 have := dsplit_su s a []
 rw [List.append_nil] at this
 exact this

theorem fclone_fn (l : List FiD) (h : l.length ≤ 2147483648) : Ct Tryz.prog 101 ⟨[], [.own]⟩ [SL 3 (fR l)] (fun r => r = [SL 3 (fR l)]) := by
 refine fclone_nf _ _ (fun b hb => ifB_intro (fun e => ?_) (fun e => ⟨by simp; omega, by simp [rapp]⟩))
 have := hb e
 have : l = [] := by
  have h2 : (fR l).length = 0 := by simp only [rlen_eq] at this; omega
  rw [List.length_map] at h2
  exact List.eq_nil_of_length_eq_zero h2
 rw [this]; rfl

theorem dperform_fn (d : DiD) (hl : d.fs.length ≤ 1000000) (h0 : -1 ≤ d.st) (hst : d.st ≤ 9223372036854775807) (f : FuncId) (cs : List SV) (l' : List FiD) (hf : d.st ≠ 0 → Ct Tryz.prog f OO (SL 3 (fR d.fs) :: cs) (fun r => r = [SL 3 (fR l')])) :
  Ct Tryz.prog 154 {} [d.sv, .clo f cs] (fun r => r = [(d.perf l').1.sv, I (d.perf l').2]) := by
 refine dperform_nf _ _ _ _ _ _ _ (ifB_intro (fun h => ?_) (fun h => ?_))
 ·simp at h
  unfold DiD.perf; rw [if_pos h]
 ·simp at h
  have e : d.perf l' = ({ d.tick with fs := l' }, 0) := by unfold DiD.perf; rw [if_neg h]
  rw [e]
  refine ifB_intro (fun h2 => Cl.of (fclone_fn d.fs (by omega)) ⟨_, rfl, Cl.of (hf h) ⟨_, rfl, ?_⟩⟩) (fun h2 => Cl.of (fclone_fn d.fs (by omega)) ⟨_, rfl, Cl.of (hf h) ⟨_, rfl, ?_⟩⟩)
  ·simp at h2
   have : wsub .i64 d.st 1 = d.st - 1 := wsub_i64 (by omega) (by omega)
   rw [this]
   simp [DiD.tick, h2, DiD.sv]
  ·simp at h2
   have : ¬ 0 < d.st := by omega
   simp [DiD.tick, this, DiD.sv]

theorem cnan_fn (s : ByteArray) : Ct Tryz.prog 232 {} [S s] (fun r => r = [B false]) := by
 refine cnan_nf _ _ ?_
 simp
theorem ccompare_fn (s t : ByteArray) : Ct Tryz.prog 210 {} [S s, S t] (fun r => r = [I (if nlt s t then -1 else if nlt t s then 1 else 0)]) := by
 refine ccompare_nf _ _ _ (Cl.of (cnan_fn s) ⟨_, rfl, Cl.of (cnan_fn t) ⟨_, rfl, ?_⟩⟩)
 show ifB (slt s t) _ _
 rw [slt_d, sgt_d]
 exact ifB_d (fun h => by rw [if_pos h]) (fun h => ifB_d (fun k => by rw [if_neg h, if_pos k]) (fun k => by rw [if_neg h, if_neg k]))
theorem dins1_fn (f : FiD) (s : ByteArray) : Ct Tryz.prog 209 {} [.agg f.row, S s] (fun r => r = [I (if nlt f.nm s then -1 else if nlt s f.nm then 1 else 0)]) :=
 dins1_nf _ _ _ _ _ (Cl.of (ccompare_fn _ _) ⟨_, rfl, rfl⟩)

theorem half {i j : Nat} (h : i + j ≤ 9223372036854775807) : wcv .i64 (wshr .u64 (wcv .u64 (wadd .i64 (i : Int) (j : Int))) 1) = (((i + j) / 2 : Nat) : Int) := by
 rw [waddNN _ _ h]
 have e1 : wcv .u64 ((i + j : Nat) : Int) = ((i + j : Nat) : Int) := by
  simp only [wcv, IntKind.wrap, IntKind.signed, IntKind.bits]; simp; omega
 rw [e1]
 have e2 : wshr .u64 ((i + j : Nat) : Int) 1 = (((i + j) / 2 : Nat) : Int) := by
  simp only [wshr, IntKind.bits]
  simp
  rw [Int.fdiv_eq_ediv_of_nonneg _ (by omega)]
 rw [e2]
 unfold wcv
 exact wrap_i64 (by omega) (by omega)

theorem bsearch_fn (l : List FiD) (hs : srt FiD.nm l) (hl : l.length ≤ 1000000) (s : ByteArray) : Ct Tryz.prog 208 {} [SL 3 (fR l), S s, .clo 209 []] (fun r => ∃ b : Bool, r = [I ((ahd FiD.nm l s).length : Nat), B b]) := by
 refine bsearch_nf _ _ _ _ _ ⟨fun x y => ∃ i j : Nat, x = i ∧ y = j ∧ i ≤ (ahd FiD.nm l s).length ∧ (ahd FiD.nm l s).length ≤ j ∧ j ≤ l.length, fun x y => y.toNat - x.toNat, ⟨0, l.length, rfl, by simp, by omega, ahd_len, by omega⟩, ?_⟩
 rintro _ _ ⟨i, j, rfl, rfl, h1, h2, h3⟩
 refine ifB_intro (fun h => ?_) (fun h => ?_)
 ·simp at h
  rw [half (by omega)]
  have hm : (i + j) / 2 < l.length := by omega
  refine ⟨by omega, ⟨by omega, by simp; omega⟩, _, _, _, rget_map _ _ _ hm, Cl.of (dins1_fn _ s) ⟨_, rfl, ifB_intro (fun h4 => ⟨rfl, ?_, ?_⟩) (fun h4 => ⟨rfl, ⟨i, (i + j) / 2, rfl, rfl, h1, ?_, by omega⟩, stepL (by simp; omega)⟩)⟩⟩
  ·rw [waddN _ (by omega)]
   refine ⟨(i + j) / 2 + 1, j, rfl, rfl, ?_, h2, h3⟩
   have : nlt l[(i + j) / 2].nm s := by
    refine Decidable.byContradiction fun hn => ?_
    rw [if_neg hn] at h4
    split at h4 <;> simp at h4
   have := (ahd_iff (s := s) hs hm).2 this
   omega
  ·rw [waddN _ (by omega)]
   exact stepL (by simp; omega)
  ·have hn : ¬ nlt l[(i + j) / 2].nm s := fun hn => by rw [if_pos hn] at h4; simp at h4
   have : ¬ ((i + j) / 2 < (ahd FiD.nm l s).length) := fun k => hn ((ahd_iff (s := s) hs hm).1 k)
   omega
 ·simp at h
  have e : i = (ahd FiD.nm l s).length := by omega
  refine ifB_intro (fun h4 => ?_) (fun h4 => ⟨_, by rw [← e]⟩)
  have h4 : i < l.length := by simpa using h4
  exact ⟨⟨by omega, by simpa using h4⟩, _, _, _, rget_map _ _ _ h4, Cl.of (dins1_fn _ s) ⟨_, rfl, _, by rw [← e]⟩⟩

theorem dinsert_fn (l : List FiD) (hs : srt FiD.nm l) (hl : l.length ≤ 1000000) (f : FiD) : Ct Tryz.prog 158 OO [SL 3 (fR l), .agg f.row] (fun r => r = [SL 3 (fR (insB FiD.nm l f))]) := by
 refine dinsert_nf _ _ _ _ _ (Cl.ofQ (bsearch_fn l hs hl f.nm) ?_)
 rintro _ ⟨b, rfl⟩
 refine ⟨_, _, rfl, Cl.of (finsert_fn (fR l) (ahd FiD.nm l f.nm).length f.row (by simpa using ahd_len) (by simpa using hl) ovl_file) ⟨_, rfl, ?_⟩⟩
 rw [insB_at]
 simp [List.map_take, List.map_drop]

theorem dren11_fn (f : FiD) (a b : ByteArray) : Ct Tryz.prog 163 {} [.agg f.row, .ref 0 [S a], .ref 0 [S b]] (fun r => r = [B (decide (f.nm = a ∨ f.nm = b))]) := by
 refine dren11_nf _ _ _ _ _ _ ?_
 rw [seq_d, seq_d]
 by_cases h1 : f.nm = a <;> by_cases h2 : f.nm = b <;> simp [h1, h2]

section
variable {d : DiD} (hp : d.P)
include hp
theorem flen {i : Nat} (hi : i < d.fs.length) : d.fs[i].len ≤ 65536 := by
 have := usedL_mem (List.getElem_mem hi); have := hp.2.1; have := hp.1.2.2.1; omega

theorem set_eq {i : Nat} (hi : i < d.fs.length) (f : FiD) (e : f.nm = d.fs[i].nm) : rset (fR d.fs) (i : Nat) f.row = fR (withB FiD.nm d.fs f) := by
 rw [rset_map, set_withB hp.2.2.2 hi e]

theorem dapp1_fn {i : Nat} (hi : i < d.fs.length) (x : List UInt8) (hx : x.length ≤ 65536) :
  Ct Tryz.prog 159 OO [SL 3 (fR d.fs), .ref 0 [I (i : Nat)], .ref 0 [S d.fs[i].nm], .ref 0 [SL 1 (uR x)]] (fun r => r = [SL 3 (fR (withB FiD.nm d.fs ⟨d.fs[i].nm, d.fs[i].su, d.fs[i].lo ++ x⟩))]) := by
 have hr : (0 : Int) ≤ (i : Nat) ∧ ((i : Nat) : Int) < rlen (fR d.fs) := ⟨by omega, by simpa using hi⟩
 have hfl := flen hp hi
 refine dapp1_nf _ _ _ _ _ ⟨hr, hr, _, _, _, rget_map _ _ _ hi, Cl.of (concat3 _ _ x (by unfold FiD.len at hfl; omega)) ⟨_, rfl, ?_⟩⟩
 rw [List.append_assoc, rlen_eq, uR_len]
 refine Cl.of (dsplit_su _ _ _) ⟨_, _, _, rfl, hr, hr, ?_⟩
 exact congrArg (fun z => [SL 3 z]) (set_eq hp hi _ rfl)
theorem dsyn1_fn {i : Nat} (hi : i < d.fs.length) :
  Ct Tryz.prog 160 OO [SL 3 (fR d.fs), .ref 0 [I (i : Nat)], .ref 0 [S d.fs[i].nm]] (fun r => r = [SL 3 (fR (withB FiD.nm d.fs ⟨d.fs[i].nm, d.fs[i].su ++ d.fs[i].lo, []⟩))]) := by
 have hr : (0 : Int) ≤ (i : Nat) ∧ ((i : Nat) : Int) < rlen (fR d.fs) := ⟨by omega, by simpa using hi⟩
 have hfl := flen hp hi
 refine dsyn1_nf _ _ _ _ ⟨hr, hr, _, _, _, rget_map _ _ _ hi, Cl.of (concat2 _ _ (by unfold FiD.len at hfl; omega)) ⟨_, rfl, Cl.of (dsize_fn _ (by omega)) ⟨_, rfl, ?_⟩⟩⟩
 have := dsplit_all d.fs[i].nm (d.fs[i].su ++ d.fs[i].lo)
 rw [show (d.fs[i].su ++ d.fs[i].lo).length = d.fs[i].len by simp [FiD.len]] at this
 refine Cl.of this ⟨_, _, _, rfl, hr, hr, ?_⟩
 exact congrArg (fun z => [SL 3 z]) (set_eq hp hi _ rfl)
theorem drem1_fn {i : Nat} (hi : i < d.fs.length) : Ct Tryz.prog 155 OO [SL 3 (fR d.fs), .ref 0 [I (i : Nat)]] (fun r => r = [SL 3 (fR (wout FiD.nm d.fs d.fs[i].nm))]) := by
 have hl := hp.1.1
 refine drem1_nf _ _ _ ?_
 rw [waddN _ (by omega)]
 refine Cl.of (fdelete_fn (fR d.fs) i (i + 1) (by omega) (by simp; omega)) ⟨_, rfl, ?_⟩
 rw [wout_split hp.2.2.2 hi]
 simp [List.map_take, List.map_drop]
theorem dcre1_fn (s : ByteArray) (hs : ∀ f ∈ d.fs, f.nm ≠ s) : Ct Tryz.prog 157 OO [SL 3 (fR d.fs), .ref 0 [S s]] (fun r => r = [SL 3 (fR (withB FiD.nm d.fs ⟨s, [], []⟩))]) := by
 have hl := hp.1.1
 refine dcre1_nf _ _ _ (Cl.of (dinsert_fn d.fs hp.2.2.2 (by omega) ⟨s, [], []⟩) ⟨_, rfl, ?_⟩)
 rw [withB_new hs]
theorem dren1_fn {i : Nat} (hi : i < d.fs.length) (b : ByteArray) :
  Ct Tryz.prog 161 OO [SL 3 (fR d.fs), .ref 0 [I (i : Nat)], .ref 0 [S d.fs[i].nm], .ref 0 [S b]] (fun r => r = [SL 3 (fR (withB FiD.nm (wout FiD.nm d.fs d.fs[i].nm) ⟨b, d.fs[i].su, d.fs[i].lo⟩))]) := by
 have hr : (0 : Int) ≤ (i : Nat) ∧ ((i : Nat) : Int) < rlen (fR d.fs) := ⟨by omega, by simpa using hi⟩
 have hl := hp.1.1
 refine dren1_nf _ _ _ _ _ ⟨hr, hr, _, _, _, rget_map _ _ _ hi, Cl.of (fdelf_fn (fR d.fs) 163 [.ref 0 [S d.fs[i].nm], .ref 0 [S b]] (fun r => decide (rnm r = d.fs[i].nm ∨ rnm r = b)) (by simp; omega) (fun r hr => ?_)) ⟨_, rfl, ?_⟩⟩
 ·obtain ⟨f, _, rfl⟩ := List.mem_map.1 hr
  exact ⟨isFil_row f, dren11_fn f _ _⟩
 ·have e : (fR d.fs).filter (fun r => !decide (rnm r = d.fs[i].nm ∨ rnm r = b)) = fR (wout FiD.nm (wout FiD.nm d.fs d.fs[i].nm) b) := by
   rw [List.filter_map]
   unfold wout
   rw [List.filter_filter]
   congr 1
   apply List.filter_congr
   intro f _
   show (!decide (f.nm = d.fs[i].nm ∨ f.nm = b)) = (decide (f.nm ≠ b) && decide (f.nm ≠ d.fs[i].nm))
   by_cases h1 : f.nm = d.fs[i].nm <;> by_cases h2 : f.nm = b <;> simp [h1, h2]
  rw [e]
  have hl2 : (wout FiD.nm (wout FiD.nm d.fs d.fs[i].nm) b).length ≤ d.fs.length := Nat.le_trans len_wout len_wout
  exact Cl.of (dinsert_fn _ (srt_wout (srt_wout hp.2.2.2)) (by omega) ⟨b, d.fs[i].su, d.fs[i].lo⟩) ⟨_, rfl, rfl⟩
end

section
variable (d : DiD) (h : d.ok)
include h

theorem dread_fn (s : ByteArray) : Ct Tryz.prog 46 {} [d.sv, S s] (fun r => r = [SL 1 (uR (opRead d s).1), I (opRead d s).2]) := by
 refine dread_nf _ _ _ _ _ _ (Cl.of (ready1 d h s) ⟨_, rfl, ifB_intro (fun h1 => ?_) (fun h1 => ?_)⟩)
 ·simp at h1; simp [opRead, h1]
 ·simp at h1
  have hp := (er_zero.1 h1).1
  have hl := hp.1.1
  refine Cl.of (dplace_fn d (by omega) s) ⟨_, rfl, ?_⟩
  rcases d.get_cases s with ⟨e1, e2, e3⟩ | ⟨i, hi, e2, e1, e3⟩
  ·rw [e2]; refine ifB_intro (fun _ => by simp [opRead, h1, e1]) (fun k => by simp at k)
  ·rw [e2]
   have hr : (0 : Int) ≤ (i : Nat) ∧ ((i : Nat) : Int) < rlen (fR d.fs) := ⟨by omega, by simpa using hi⟩
   have hfl := flen hp hi
   refine ifB_intro (fun k => by simp at k) (fun _ => ⟨hr, _, _, _, rget_map _ _ _ hi, hr, _, _, _, rget_map _ _ _ hi, Cl.of (concat2 _ _ (by unfold FiD.len at hfl; omega)) ⟨_, rfl, by simp [opRead, h1, e1]⟩⟩)

theorem dcreate_fn (s : ByteArray) : Ct Tryz.prog 85 {} [d.sv, S s] (fun r => r = [(opCreate d s).1.sv, I (opCreate d s).2]) := by
 refine dcreate_nf _ _ _ _ _ _ (Cl.of (ready1 d h s) ⟨_, rfl, ifB_intro (fun h1 => ?_) (fun h1 => ?_)⟩)
 ·simp at h1; simp [opCreate, h1]
 ·simp at h1
  have hp := (er_zero.1 h1).1
  have hl := hp.1.1
  refine Cl.of (dplace_fn d (by omega) s) ⟨_, rfl, ?_⟩
  rcases d.get_cases s with ⟨e1, e2, e3⟩ | ⟨i, hi, e2, e1, e3⟩
  ·rw [e2]
   refine ifB_intro (fun k => by simp at k) (fun _ => ifB_intro (fun k => ?_) (fun k => ?_))
   ·have k : d.fs.length = 64 := by simp at k; omega
    simp [opCreate, h1, e1, k]
   ·have k : ¬ d.fs.length = 64 := fun e => by simp [e] at k
    refine Cl.of (dperform_fn d (by omega) hp.1.2.2.2 h.2.2 157 _ _ (fun _ => dcre1_fn hp s e3)) ⟨_, _, _, _, _, rfl, ?_⟩
    simp [opCreate, h1, e1, k]
  ·rw [e2]
   refine ifB_intro (fun _ => by simp [opCreate, h1, e1]) (fun k => by simp at k)

theorem dappend_fn (s : ByteArray) (x : List UInt8) (hx : x.length ≤ 9223372036854775807) : Ct Tryz.prog 86 {} [d.sv, S s, SL 1 (uR x)] (fun r => r = [(opAppend d s x).1.sv, I (opAppend d s x).2]) := by
 refine dappend_nf _ _ _ _ _ _ _ (Cl.of (ready1 d h s) ⟨_, rfl, ifB_intro (fun h1 => ?_) (fun h1 => ?_)⟩)
 ·simp at h1; simp [opAppend, h1]
 ·simp at h1
  have hp := (er_zero.1 h1).1
  have hl := hp.1.1
  refine Cl.of (dplace_fn d (by omega) s) ⟨_, rfl, ?_⟩
  rcases d.get_cases s with ⟨e1, e2, e3⟩ | ⟨i, hi, e2, e1, e3⟩
  ·rw [e2]; refine ifB_intro (fun _ => by simp [opAppend, h1, e1]) (fun k => by simp at k)
  ·rw [e2]
   refine ifB_intro (fun k => by simp at k) (fun _ => Cl.of (dused_fn d h) ⟨_, rfl, ?_⟩)
   have hu := hp.2.1
   have hrm := hp.1.2.2.1
   have hrm0 := hp.1.2.1
   rw [wsub_i64 (by omega) (by omega), rlen_eq, uR_len]
   refine ifB_intro (fun k => ?_) (fun k => ?_)
   ·simp at k; simp [opAppend, h1, e1, k]
   ·simp at k
    have k' : ¬ d.rm - usedL d.fs < x.length := by omega
    subst e3
    have ca := dapp1_fn hp hi x (by omega)
    refine Cl.of (dperform_fn d (by omega) hp.1.2.2.2 h.2.2 159 _ _ (fun _ => ca)) ⟨_, _, _, _, _, rfl, ?_⟩
    by_cases hz : d.st = 0
    ·have : d.perf (withB FiD.nm d.fs ⟨d.fs[i].nm, d.fs[i].su, d.fs[i].lo ++ x⟩) = ({ d with dn := true }, 16) := by unfold DiD.perf; rw [if_pos hz]
     rw [this]
     refine ifB_intro (fun _ => Cl.of (fclone_fn d.fs (by omega)) ⟨_, rfl, Cl.of ca ⟨_, rfl, ?_⟩⟩) (fun k => by simp at k)
     simp [opAppend, h1, e1, k', hz]
    ·have : d.perf (withB FiD.nm d.fs ⟨d.fs[i].nm, d.fs[i].su, d.fs[i].lo ++ x⟩) = ({ d.tick with fs := withB FiD.nm d.fs ⟨d.fs[i].nm, d.fs[i].su, d.fs[i].lo ++ x⟩ }, 0) := by unfold DiD.perf; rw [if_neg hz]
     rw [this]
     refine ifB_intro (fun k => by simp at k) (fun _ => ?_)
     simp [opAppend, h1, e1, k', hz]

theorem dsync_fn (s : ByteArray) : Ct Tryz.prog 87 {} [d.sv, S s] (fun r => r = [(opSync d s).1.sv, I (opSync d s).2]) := by
 refine dsync_nf _ _ _ _ _ _ (Cl.of (ready1 d h s) ⟨_, rfl, ifB_intro (fun h1 => ?_) (fun h1 => ?_)⟩)
 ·simp at h1; simp [opSync, h1]
 ·simp at h1
  have hp := (er_zero.1 h1).1
  have hl := hp.1.1
  refine Cl.of (dplace_fn d (by omega) s) ⟨_, rfl, ?_⟩
  rcases d.get_cases s with ⟨e1, e2, e3⟩ | ⟨i, hi, e2, e1, e3⟩
  ·rw [e2]; refine ifB_intro (fun _ => by simp [opSync, h1, e1]) (fun k => by simp at k)
  ·rw [e2]
   subst e3
   refine ifB_intro (fun k => by simp at k) (fun _ => Cl.of (dperform_fn d (by omega) hp.1.2.2.2 h.2.2 160 _ _ (fun _ => dsyn1_fn hp hi)) ⟨_, _, _, _, _, rfl, ?_⟩)
   simp [opSync, h1, e1]

theorem drename_fn (a b : ByteArray) : Ct Tryz.prog 88 {} [d.sv, S a, S b] (fun r => r = [(opRename d a b).1.sv, I (opRename d a b).2]) := by
 refine drename_nf _ _ _ _ _ _ _ (Cl.of (ready2 d h a b) ⟨_, rfl, ifB_intro (fun h1 => ?_) (fun h1 => ?_)⟩)
 ·simp at h1; simp [opRename, h1]
 ·simp at h1
  have hp := (er_zero.1 h1).1
  have hl := hp.1.1
  refine Cl.of (dplace_fn d (by omega) a) ⟨_, rfl, ?_⟩
  rcases d.get_cases a with ⟨e1, e2, e3⟩ | ⟨i, hi, e2, e1, e3⟩
  ·rw [e2]; refine ifB_intro (fun _ => by simp [opRename, h1, e1]) (fun k => by simp at k)
  ·rw [e2]
   subst e3
   refine ifB_intro (fun k => by simp at k) (fun _ => Cl.of (dperform_fn d (by omega) hp.1.2.2.2 h.2.2 161 _ _ (fun _ => dren1_fn hp hi b)) ⟨_, _, _, _, _, rfl, ?_⟩)
   simp [opRename, h1, e1]

theorem dremove_fn (s : ByteArray) : Ct Tryz.prog 84 {} [d.sv, S s] (fun r => r = [(opRemove d s).1.sv, I (opRemove d s).2]) := by
 refine dremove_nf _ _ _ _ _ _ (Cl.of (ready1 d h s) ⟨_, rfl, ifB_intro (fun h1 => ?_) (fun h1 => ?_)⟩)
 ·simp at h1; simp [opRemove, h1]
 ·simp at h1
  have hp := (er_zero.1 h1).1
  have hl := hp.1.1
  refine Cl.of (dplace_fn d (by omega) s) ⟨_, rfl, ?_⟩
  rcases d.get_cases s with ⟨e1, e2, e3⟩ | ⟨i, hi, e2, e1, e3⟩
  ·rw [e2]; refine ifB_intro (fun _ => by simp [opRemove, h1, e1]) (fun k => by simp at k)
  ·rw [e2]
   subst e3
   refine ifB_intro (fun k => by simp at k) (fun _ => Cl.of (dperform_fn d (by omega) hp.1.2.2.2 h.2.2 155 _ _ (fun _ => drem1_fn hp hi)) ⟨_, _, _, _, _, rfl, ?_⟩)
   simp [opRemove, h1, e1]

end

theorem qused_fn (d : DiD) (h : d.ok) : Ct Tryz.prog 67 {} [d.sv] (fun r => r = [I (usedL d.fs)]) := by
 obtain ⟨h1, h2, _⟩ := h
 refine qused_nf _ _ _ _ _ ⟨fun x y => ∃ i : Nat, y = i ∧ i ≤ d.fs.length ∧ x = usedL (d.fs.take i), fun _ y => d.fs.length - y.toNat, ⟨0, rfl, by omega, by simp [usedL]⟩, ?_⟩
 rintro _ _ ⟨i, rfl, hi, rfl⟩
 refine ifB_intro (fun h => ?_) (fun h => ?_)
 ·simp at h
  have e := used_take d.fs i h
  have e2 := used_le d.fs (i + 1)
  have hr : (0 : Int) ≤ (i : Nat) ∧ ((i : Nat) : Int) < rlen (fR d.fs) := ⟨by omega, by simpa using h⟩
  have hm := usedL_mem (List.getElem_mem h)
  unfold FiD.len at e hm
  refine ⟨hr, _, _, _, rget_map _ _ _ h, hr, _, _, _, rget_map _ _ _ h, rfl, ?_, ?_⟩
  ·rw [waddN _ (by omega), rlen_eq, rlen_eq, uR_len, uR_len, waddNN _ _ (by omega), waddNN _ _ (by omega)]
   exact ⟨i + 1, rfl, by omega, by rw [e]; omega⟩
  ·rw [waddN _ (by omega)]; exact stepL (by simp; omega)
 ·simp at h
  have : i = d.fs.length := by omega
  subst this
  rw [List.take_length]

theorem qnamed_fn (s : ByteArray) : Ct Tryz.prog 164 {} [S s] (fun r => r = [B (fnB s)]) := by
 refine qnamed_nf _ _ (ifB_intro (fun h => ?_) (fun h => ?_))
 ·simp at h
  have : fnB s = false := by
   rw [Bool.eq_false_iff]; intro k; have := (fnB_iff.1 k).1; omega
  rw [this]
 ·simp at h
  refine ⟨fun _ y => ∃ i : Nat, y = i ∧ i ≤ s.size ∧ ∀ j : Nat, ∀ hj : j < s.size, j < i → fchr (s.data.toList[j]'(by rw [← ba_size]; exact hj)) = true, fun _ y => s.size - y.toNat, ⟨0, rfl, by omega, fun j _ hj => by omega⟩, ?_⟩
  rintro _ _ ⟨i, rfl, hi, hall⟩
  refine ifB_intro (fun h1 => ?_) (fun h1 => ?_)
  ·simp at h1
   rw [sbyte_u _ _ h1, waddN _ (by omega)]
   generalize hb : s.data.toList[i]'(by rw [← ba_size]; exact h1) = b
   have yes : fchr b = true → ∃ k : Nat, ((i + 1 : Nat) : Int) = k ∧ k ≤ s.size ∧ ∀ j : Nat, ∀ hj : j < s.size, j < k → fchr (s.data.toList[j]'(by rw [← ba_size]; exact hj)) = true := fun hf =>
    ⟨i + 1, rfl, by omega, fun j hj hjk => by
     by_cases e : j = i
     ·subst e; rw [hb]; exact hf
     ·exact hall j hj (by omega)⟩
   have no : fchr b = false → [B false] = [B (fnB s)] := fun hf => by
    have : fnB s = false := by
     rw [Bool.eq_false_iff]; intro k; have := (fnB_iff.1 k).2 i h1; rw [hb, hf] at this; cases this
    rw [this]
   have st : Nat.le (Nat.succ (s.size - ((i + 1 : Nat) : Int).toNat)) (s.size - ((i : Nat) : Int).toNat) := stepL (by simp; omega)
   have rng : (0 : Int) ≤ (i : Int) ∧ (i : Int) < slen s := ⟨by omega, by simpa using h1⟩
   have fch : fchr b = true ↔ (97 ≤ b.toNat ∧ b.toNat ≤ 122) ∨ (48 ≤ b.toNat ∧ b.toNat ≤ 57) ∨ b.toNat = 46 := by unfold fchr; rw [decide_eq_true_eq]
   have fcf : fchr b = false ↔ ¬ ((97 ≤ b.toNat ∧ b.toNat ≤ 122) ∨ (48 ≤ b.toNat ∧ b.toNat ≤ 57) ∨ b.toNat = 46) := by rw [← fch]; simp
   have fin : ∀ (g : Bool), (g = true ↔ fchr b = false) → ifB g ([B false] = [B (fnB s)]) ((some [] : Option (List (List SV))) = some [] ∧ (∃ k : Nat, ((i + 1 : Nat) : Int) = k ∧ k ≤ s.size ∧ ∀ j : Nat, ∀ hj : j < s.size, j < k → fchr (s.data.toList[j]'(by rw [← ba_size]; exact hj)) = true) ∧ Nat.le (Nat.succ (s.size - ((i + 1 : Nat) : Int).toNat)) (s.size - ((i : Nat) : Int).toNat)) := fun g hg =>
    ifB_intro (fun h => no (hg.1 h)) (fun h => ⟨rfl, yes (by cases hf : fchr b with | true => rfl | false => rw [hg.2 hf] at h; cases h), st⟩)
   refine ⟨rng, ifB_intro (fun g1 => ⟨rng, ifB_intro (fun g2 => ifB_intro (fun g3 => ⟨rng, ifB_intro (fun g4 => fin _ ?_) (fun g4 => ⟨rng, fin _ ?_⟩)⟩) (fun g3 => by simp at g3)) (fun g2 => ⟨rng, ifB_intro (fun g3 => ⟨rng, ifB_intro (fun g4 => fin _ ?_) (fun g4 => ⟨rng, fin _ ?_⟩)⟩) (fun g3 => fin _ ?_)⟩)⟩)
    (fun g1 => ifB_intro (fun g2 => by simp at g2) (fun g2 => fin _ ?_))⟩
   all_goals (rw [fcf])
   ·simp at g1 g2 g3 g4; simp; omega
   ·simp at g1 g2 g3 g4; simp; omega
   ·simp at g1 g2 g3 g4; simp; omega
   ·simp at g1 g2 g3 g4; simp; omega
   ·simp at g1 g2 g3; simp; omega
   ·simp at g1 g2; simp; omega
  ·simp at h1
   have : fnB s = true := fnB_iff.2 ⟨by omega, fun j hj => hall j hj (by omega)⟩
   rw [this]

theorem qright_fn (d : DiD) (h : d.ok) : Ct Tryz.prog 89 {} [d.sv] (fun r => r = [B (decide d.P)]) := by
 have no : ¬ d.P → [B false] = [B (decide d.P)] := fun h => by simp [h]
 refine qright_nf _ _ _ _ _ (ifB_intro (fun h1 => ifB_intro (fun _ => no (fun p => ?_)) (fun h2 => by simp at h2)) (fun h1 => Cl.of (qused_fn d h) ⟨_, rfl, ifB_intro (fun h2 => no (fun p => ?_)) (fun h2 => ?_)⟩))
 ·have := p.1; simp at h1; omega
 ·have := p.2.1; simp at h2; omega
 ·simp at h1 h2
  refine ⟨fun _ y => ∃ i : Nat, y = i ∧ i ≤ d.fs.length ∧ ∀ j : Nat, ∀ hj : j < d.fs.length, j < i → fnB d.fs[j].nm = true ∧ (0 < j → nlt (d.fs[j - 1]'(by omega)).nm d.fs[j].nm), fun _ y => d.fs.length - y.toNat, ⟨0, rfl, by omega, fun j _ hj => by omega⟩, ?_⟩
  rintro b _ ⟨i, rfl, hi, hall⟩
  refine ifB_intro (fun h2 => ?_) (fun h2 => ?_)
  ·simp at h2
   have st : Nat.le (Nat.succ (d.fs.length - ((i + 1 : Nat) : Int).toNat)) (d.fs.length - ((i : Nat) : Int).toNat) := stepL (by simp; omega)
   have nxt : fnB d.fs[i].nm = true → (0 < i → nlt (d.fs[i - 1]'(by omega)).nm d.fs[i].nm) → ∃ k : Nat, ((i + 1 : Nat) : Int) = k ∧ k ≤ d.fs.length ∧ ∀ j : Nat, ∀ hj : j < d.fs.length, j < k → fnB d.fs[j].nm = true ∧ (0 < j → nlt (d.fs[j - 1]'(by omega)).nm d.fs[j].nm) := fun a b =>
    ⟨i + 1, rfl, by omega, fun j hj hjk => by
     by_cases e : j = i
     ·subst e; exact ⟨a, b⟩
     ·exact hall j hj (by omega)⟩
   have hr : (0 : Int) ≤ (i : Nat) ∧ ((i : Nat) : Int) < rlen (fR d.fs) := ⟨by omega, by simpa using h2⟩
   rw [waddN _ (by omega)]
   refine ⟨hr, _, _, _, rget_map _ _ _ h2, Cl.of (qnamed_fn _) ⟨_, rfl, ifB_intro (fun h3 => ?_) (fun h3 => ?_)⟩⟩
   ·simp at h3
    refine ifB_intro (fun _ => no (fun p => ?_)) (fun h4 => by simp at h4)
    have := p.2.2.1 _ (List.getElem_mem h2); rw [this] at h3; cases h3
   ·simp at h3
    refine ifB_intro (fun h4 => ?_) (fun h4 => ?_)
    ·simp at h4
     have w : wsub .i64 (i : Int) 1 = ((i - 1 : Nat) : Int) := by rw [wsub_i64 (by omega) (by omega)]; omega
     rw [w]
     have hi1 : i - 1 < d.fs.length := by omega
     refine ⟨hr, _, _, _, rget_map _ _ _ h2, ⟨by omega, by simp; omega⟩, _, _, _, rget_map _ _ _ hi1, ?_⟩
     rw [sle_d]
     refine ifB_intro (fun h5 => no (fun p => ?_)) (fun h5 => ⟨rfl, nxt h3 (fun _ => ?_), st⟩)
     ·simp at h5
      exact h5 (srt_get p.2.2.2 (by omega) h2)
     ·simp at h5; exact h5
    ·simp at h4
     refine ifB_intro (fun h5 => by simp at h5) (fun h5 => ⟨rfl, nxt h3 (fun _ => by omega), st⟩)
  ·simp at h2
   have hs : srt FiD.nm d.fs := adj_srt fun j hj => (hall j hj (by omega)).2
   have hn : ∀ f ∈ d.fs, fnB f.nm = true := fun f hf => by
    obtain ⟨j, hj, rfl⟩ := List.mem_iff_getElem.1 hf
    exact (hall j hj (by omega)).1
   have : d.P := ⟨⟨by omega, by omega, by omega, by omega⟩, by omega, hn, hs⟩
   simp [this]

theorem qfirst_fn (d : DiD) (h : d.ok) (s t : ByteArray) : Ct Tryz.prog 165 {} [d.sv, S s, S t] (fun r => r = [I (d.er s t)]) := by
 refine qfirst_nf _ _ _ _ _ _ _ (Cl.of (qright_fn d h) ⟨_, rfl, ifB_intro (fun h1 => ?_) (fun h1 => ifB_intro (fun h2 => ?_) (fun h2 => Cl.of (qnamed_fn s) ⟨_, rfl, ifB_intro (fun h3 => ifB_intro (fun h4 => ?_) (fun h4 => by simp at h4)) (fun h3 => Cl.of (qnamed_fn t) ⟨_, rfl, ifB_intro (fun h4 => ?_) (fun h4 => ?_)⟩)⟩))⟩)
 ·simp at h1; simp [DiD.er, h1]
 ·simp at h1; simp [DiD.er, h1, h2]
 ·simp at h1 h3; simp [DiD.er, h1, h2, h3]
 ·simp at h1 h3 h4; simp [DiD.er, h1, h2, h3, h4]
 ·simp at h1 h3 h4; simp [DiD.er, h1, h2, h3, h4]

theorem qat_fn (d : DiD) (hl : d.fs.length ≤ 1000000) (s : ByteArray) : Ct Tryz.prog 90 {} [d.sv, S s] (fun r => r = [I (fAt FiD.nm d.fs s)]) := by
 refine qat_nf _ _ _ _ _ _ ⟨fun _ y => ∃ i : Nat, y = i ∧ i ≤ d.fs.length ∧ ∀ j : Nat, ∀ hj : j < d.fs.length, j < i → d.fs[j].nm ≠ s, fun _ y => d.fs.length - y.toNat, ⟨0, rfl, by omega, fun j _ hj => by omega⟩, ?_⟩
 rintro _ _ ⟨i, rfl, hi, hall⟩
 refine ifB_intro (fun h => ?_) (fun h => ?_)
 ·have h : i < d.fs.length := by simpa using h
  rw [waddN _ (by omega)]
  refine ⟨⟨by omega, by simpa using h⟩, _, _, _, rget_map _ _ _ h, ?_⟩
  rw [seq_d]
  refine ifB_d (fun e => ?_) (fun e => ⟨rfl, ⟨i + 1, rfl, by omega, fun j hj hjk => ?_⟩, stepL (by simp; omega)⟩)
  ·have : fnd FiD.nm d.fs s = some i := fnd_some.2 ⟨h, e, fun j hj => hall j (by omega) hj⟩
   simp [fAt, this]
  ·by_cases k : j = i
   ·subst k; exact e
   ·exact hall j hj (by omega)
 ·have h : ¬ i < d.fs.length := by simpa using h
  have : fAt FiD.nm d.fs s = -1 := fAt_none.2 fun f hf => by
   obtain ⟨j, hj, rfl⟩ := List.mem_iff_getElem.1 hf
   exact hall j hj (by omega)
  rw [this]

theorem qall_fn (nm : ByteArray) (a b : List UInt8) (h : a.length + b.length ≤ 2147483648) : Ct Tryz.prog 91 {} [fil3 nm (uR a) (uR b)] (fun r => r = [SL 1 (uR (a ++ b))]) := by
 refine qall_nf _ _ _ _ ⟨by simp; omega, by simp [rapp]; omega, by simp [rapp]⟩

def stepQ (d : DiD) : DiD × Bool := if d.st = 0 then ({ d with dn := true }, false) else (d.tick, true)
theorem qstep_fn (d : DiD) (h1 : -1 ≤ d.st) (h2 : d.st ≤ 9223372036854775807) : Ct Tryz.prog 166 {} [d.sv] (fun r => r = [(stepQ d).1.sv, B (stepQ d).2]) := by
 refine qstep_nf _ _ _ _ _ (ifB_intro (fun h => ?_) (fun h => ifB_intro (fun k => ?_) (fun k => ?_)))
 ·simp at h; simp [stepQ, h]
 ·simp at h k
  rw [wsub_i64 (by omega) (by omega)]
  simp [stepQ, h, DiD.tick, k]
 ·simp at h k
  have : ¬ 0 < d.st := by omega
  simp [stepQ, h, DiD.tick, this]

theorem qwithout_fn (l : List FiD) (hl : l.length ≤ 1000000) (s : ByteArray) : Ct Tryz.prog 167 {} [SL 3 (fR l), S s] (fun r => r = [SL 3 (fR (wout FiD.nm l s))]) := by
 refine qwithout_nf _ _ _ ⟨fun o y => ∃ i : Nat, y = i ∧ i ≤ l.length ∧ o = fR (wout FiD.nm (l.take i) s), fun _ y => l.length - y.toNat, ⟨0, rfl, by omega, rfl⟩, ?_⟩
 rintro _ _ ⟨i, rfl, hi, rfl⟩
 refine ifB_intro (fun h => ?_) (fun h => ?_)
 ·have h : i < l.length := by simpa using h
  have hr : (0 : Int) ≤ (i : Nat) ∧ ((i : Nat) : Int) < rlen (fR l) := ⟨by omega, by simpa using h⟩
  rw [waddN _ (by omega)]
  have hw : wout FiD.nm (l.take (i + 1)) s = wout FiD.nm (l.take i) s ++ wout FiD.nm [l[i]] s := by rw [take_s _ _ h]; exact List.filter_append ..
  have hlen : (wout FiD.nm (l.take i) s).length ≤ i := Nat.le_trans len_wout (by simp; omega)
  refine ⟨hr, _, _, _, rget_map _ _ _ h, ?_⟩
  rw [sne_d]
  refine ifB_intro (fun e => ⟨hr, _, _, _, rget_map _ _ _ h, by simp; omega, rfl, ⟨i + 1, rfl, by omega, ?_⟩, stepL (by simp; omega)⟩) (fun e => ⟨rfl, ⟨i + 1, rfl, by omega, ?_⟩, stepL (by simp; omega)⟩)
  ·have e : ¬ l[i].nm = s := by simpa using e
   rw [hw, show wout FiD.nm [l[i]] s = [l[i]] by simp [wout, e]]
   exact rapp_map _ _ [l[i]]
  ·have e : l[i].nm = s := by simpa using e
   rw [hw, show wout FiD.nm [l[i]] s = [] by simp [wout, e], List.append_nil]
 ·have h : ¬ i < l.length := by simpa using h
  have : i = l.length := by omega
  subst this
  rw [List.take_length]

theorem drop_take_s {α : Type} (l : List α) (p i : Nat) (h : i < l.length) (hp : p ≤ i) : (l.drop p).take (i + 1 - p) = (l.drop p).take (i - p) ++ [l[i]] := by
 rw [show i + 1 - p = (i - p) + 1 by omega, take_s _ _ (by simp; omega)]
 congr 2
 rw [List.getElem_drop]
 congr 1; omega

theorem qwith_fn (l : List FiD) (hs : srt FiD.nm l) (hl : l.length ≤ 1000000) (rm st : Int) (dn : Bool) (f : FiD) : Ct Tryz.prog 168 {} [(DiD.mk l rm st dn).sv, .agg f.row] (fun r => r = [(DiD.mk (withB FiD.nm l f) rm st dn).sv]) := by
 refine qwith_nf _ _ _ _ _ _ _ _ (Cl.of (qwithout_fn l hl f.nm) ⟨_, rfl, ?_⟩)
 have hs' : srt FiD.nm (wout FiD.nm l f.nm) := srt_wout hs
 have hn : ∀ g ∈ wout FiD.nm l f.nm, g.nm ≠ f.nm := fun g hg => (mem_wout.1 hg).2
 have hl' : (wout FiD.nm l f.nm).length ≤ 1000000 := Nat.le_trans len_wout hl
 unfold withB
 generalize wout FiD.nm l f.nm = q at hs' hn hl'
 have hp : (ahd FiD.nm q f.nm).length ≤ q.length := ahd_len
 have hpi : ∀ i, ∀ hi : i < q.length, i < (ahd FiD.nm q f.nm).length ↔ nlt q[i].nm f.nm := fun i hi => ahd_iff hs' hi
 have e0 := insB_at (nm := FiD.nm) q f
 generalize (ahd FiD.nm q f.nm).length = p at hp hpi e0
 refine ⟨fun b o y => ∃ i : Nat, y = i ∧ i ≤ q.length ∧ b = decide (p < i) ∧ o = if p < i then fR (q.take p ++ f :: (q.drop p).take (i - p)) else fR (q.take i), fun _ _ y => q.length - y.toNat, ⟨0, rfl, by omega, by simp, by simp⟩, ?_⟩
 rintro _ _ _ ⟨i, rfl, hi, rfl, rfl⟩
 refine ifB_intro (fun h => ?_) (fun h => ?_)
 ·have h : i < q.length := by simpa using h
  have hr : (0 : Int) ≤ (i : Nat) ∧ ((i : Nat) : Int) < rlen (fR q) := ⟨by omega, by simpa using h⟩
  rw [waddN _ (by omega)]
  refine ifB_intro (fun e => ?_) (fun e => ?_)
  ·have e : ¬ p < i := by simpa using e
   simp only [if_neg e]
   refine ⟨hr, _, _, _, rget_map _ _ _ h, ?_⟩
   rw [sgt_d]
   refine ifB_intro (fun k => ?_) (fun k => ?_)
   ·have k : nlt f.nm q[i].nm := by simpa using k
    have hpe : p = i := by
     have : ¬ i < p := fun z => nlt_asymm k ((hpi i h).1 z)
     omega
    refine ⟨by simp; omega, hr, _, _, _, rget_map _ _ _ h, by simp [rapp]; omega, trivial, ⟨i + 1, rfl, by omega, by simp; omega, ?_⟩, stepL (by simp; omega)⟩
    rw [if_pos (by omega), hpe, drop_take_s q i i h (by omega)]
    simp [rapp]
   ·have k : ¬ nlt f.nm q[i].nm := by simpa using k
    have hpe : i < p := (hpi i h).2 (by
     rcases nle_iff.1 k with k | k
     ·exact k
     ·exact absurd k (hn _ (List.getElem_mem h)))
    refine ⟨hr, _, _, _, rget_map _ _ _ h, by simp; omega, trivial, ⟨i + 1, rfl, by omega, by simp; omega, ?_⟩, stepL (by simp; omega)⟩
    rw [if_neg (by omega), take_s _ _ h]
    exact rapp_map _ _ [q[i]]
  ·have e : p < i := by simpa using e
   simp only [if_pos e]
   refine ifB_intro (fun k => by simp at k) (fun _ => ⟨hr, _, _, _, rget_map _ _ _ h, by simp; omega, trivial, ⟨i + 1, rfl, by omega, by simp; omega, ?_⟩, stepL (by simp; omega)⟩)
   rw [if_pos (by omega), drop_take_s q p i h (by omega)]
   simp [rapp]
 ·have h : ¬ i < q.length := by simpa using h
  have : i = q.length := by omega
  subst this
  refine ifB_intro (fun e => ?_) (fun e => ?_)
  ·have e : ¬ p < q.length := by simpa using e
   have hpe : p = q.length := by omega
   simp only [if_neg e]
   refine ⟨by simp; omega, ?_⟩
   rw [e0, hpe]
   simp [rapp]
  ·have e : p < q.length := by simpa using e
   simp only [if_pos e]
   rw [e0, List.take_of_length_le (l := q.drop p) (by simp)]

section
variable (d : DiD) (h : d.ok)
include h

theorem qcreate_fn (s : ByteArray) : Ct Tryz.prog 93 {} [d.sv, S s] (fun r => r = [(opCreate d s).1.sv, I (opCreate d s).2]) := by
 refine qcreate_nf _ _ _ _ _ _ (Cl.of (qfirst_fn d h s s) ⟨_, rfl, ifB_intro (fun h1 => ?_) (fun h1 => ?_)⟩)
 ·simp at h1; simp [opCreate, h1]
 ·simp at h1
  have hp := (er_zero.1 h1).1
  have hl := hp.1.1
  refine Cl.of (qat_fn d (by omega) s) ⟨_, rfl, ?_⟩
  rcases d.get_cases s with ⟨e1, e2, e3⟩ | ⟨i, hi, e2, e1, e3⟩
  ·rw [e2]
   refine ifB_intro (fun k => by simp at k) (fun _ => ifB_intro (fun k => ?_) (fun k => Cl.of (qstep_fn d hp.1.2.2.2 h.2.2) ⟨_, _, _, _, _, rfl, ?_⟩))
   ·have k : d.fs.length = 64 := by simp at k; omega
    simp [opCreate, h1, e1, k]
   ·have k : ¬ d.fs.length = 64 := fun e => by simp [e] at k
    by_cases hz : d.st = 0
    ·refine ifB_intro (fun _ => ?_) (fun k2 => by simp [stepQ, hz] at k2)
     simp [opCreate, h1, e1, k, DiD.perf, hz, stepQ]
    ·refine ifB_intro (fun k2 => by simp [stepQ, hz] at k2) (fun _ => ?_)
     simp only [stepQ, hz, if_false]
     refine Cl.of (qwith_fn d.fs hp.2.2.2 (by omega) d.tick.rm d.tick.st d.tick.dn ⟨s, [], []⟩) ⟨_, _, _, _, rfl, ?_⟩
     simp [opCreate, h1, e1, k, DiD.perf, hz]
  ·rw [e2]
   refine ifB_intro (fun _ => by simp [opCreate, h1, e1]) (fun k => by simp at k)

theorem qappend_fn (s : ByteArray) (x : List UInt8) (hx : x.length ≤ 4611686018427387904) : Ct Tryz.prog 94 {} [d.sv, S s, SL 1 (uR x)] (fun r => r = [(opAppend d s x).1.sv, I (opAppend d s x).2]) := by
 refine qappend_nf _ _ _ _ _ _ _ (Cl.of (qfirst_fn d h s s) ⟨_, rfl, ifB_intro (fun h1 => ?_) (fun h1 => ?_)⟩)
 ·simp at h1; simp [opAppend, h1]
 ·simp at h1
  have hp := (er_zero.1 h1).1
  have hl := hp.1.1
  refine Cl.of (qat_fn d (by omega) s) ⟨_, rfl, ?_⟩
  rcases d.get_cases s with ⟨e1, e2, e3⟩ | ⟨i, hi, e2, e1, e3⟩
  ·rw [e2]; refine ifB_intro (fun _ => by simp [opAppend, h1, e1]) (fun k => by simp at k)
  ·rw [e2]
   have hr : (0 : Int) ≤ (i : Nat) ∧ ((i : Nat) : Int) < rlen (fR d.fs) := ⟨by omega, by simpa using hi⟩
   have hfl := flen hp hi
   refine ifB_intro (fun k => by simp at k; omega) (fun _ => Cl.of (qused_fn d h) ⟨_, rfl, ?_⟩)
   have hu := hp.2.1
   have hrm := hp.1.2.2.1
   have hrm0 := hp.1.2.1
   rw [rlen_eq, uR_len, waddNN _ _ (by omega)]
   refine ifB_intro (fun k => ?_) (fun k => ⟨hr, _, _, _, rget_map _ _ _ hi, ?_⟩)
   ·have k : d.rm - usedL d.fs < x.length := by simp at k; omega
    simp [opAppend, h1, e1, k]
   ·have k' : ¬ d.rm - usedL d.fs < x.length := by simp at k; omega
    subst e3
    unfold FiD.len at hfl
    refine ⟨by simp; omega, by simp [rapp]; omega, ?_⟩
    rw [show rapp (rapp [] (uR d.fs[i].lo)) (uR x) = uR (d.fs[i].lo ++ x) by simp [rapp]]
    refine Cl.of (qwith_fn d.fs hp.2.2.2 (by omega) d.rm d.st d.dn ⟨d.fs[i].nm, d.fs[i].su, d.fs[i].lo ++ x⟩) ⟨_, _, _, _, rfl, ?_⟩
    refine Cl.of (qstep_fn (DiD.mk (withB FiD.nm d.fs ⟨d.fs[i].nm, d.fs[i].su, d.fs[i].lo ++ x⟩) d.rm d.st d.dn) hp.1.2.2.2 h.2.2) ⟨_, _, _, _, _, rfl, ?_⟩
    by_cases hz : d.st = 0
    ·refine ifB_intro (fun _ => ?_) (fun k2 => by simp [stepQ, hz] at k2)
     simp [opAppend, h1, e1, k', hz, stepQ]
    ·refine ifB_intro (fun k2 => by simp [stepQ, hz] at k2) (fun _ => ?_)
     simp [opAppend, h1, e1, k', hz, stepQ, DiD.tick]

theorem qsync_fn (s : ByteArray) : Ct Tryz.prog 95 {} [d.sv, S s] (fun r => r = [(opSync d s).1.sv, I (opSync d s).2]) := by
 refine qsync_nf _ _ _ _ _ _ (Cl.of (qfirst_fn d h s s) ⟨_, rfl, ifB_intro (fun h1 => ?_) (fun h1 => ?_)⟩)
 ·simp at h1; simp [opSync, h1]
 ·simp at h1
  have hp := (er_zero.1 h1).1
  have hl := hp.1.1
  refine Cl.of (qat_fn d (by omega) s) ⟨_, rfl, ?_⟩
  rcases d.get_cases s with ⟨e1, e2, e3⟩ | ⟨i, hi, e2, e1, e3⟩
  ·rw [e2]; refine ifB_intro (fun _ => by simp [opSync, h1, e1]) (fun k => by simp at k)
  ·rw [e2]
   subst e3
   have hr : (0 : Int) ≤ (i : Nat) ∧ ((i : Nat) : Int) < rlen (fR d.fs) := ⟨by omega, by simpa using hi⟩
   have hfl := flen hp hi
   unfold FiD.len at hfl
   refine ifB_intro (fun k => by simp at k; omega) (fun _ => Cl.of (qstep_fn d hp.1.2.2.2 h.2.2) ⟨_, _, _, _, _, rfl, ?_⟩)
   by_cases hz : d.st = 0
   ·refine ifB_intro (fun _ => ?_) (fun k2 => by simp [stepQ, hz] at k2)
    simp [opSync, h1, e1, DiD.perf, hz, stepQ]
   ·refine ifB_intro (fun k2 => by simp [stepQ, hz] at k2) (fun _ => ?_)
    simp only [stepQ, hz, if_false]
    refine ⟨hr, _, _, _, rget_map _ _ _ hi, Cl.of (qall_fn _ _ _ (by omega)) ⟨_, rfl, ?_⟩⟩
    refine Cl.of (qwith_fn d.fs hp.2.2.2 (by omega) d.tick.rm d.tick.st d.tick.dn ⟨d.fs[i].nm, d.fs[i].su ++ d.fs[i].lo, []⟩) ⟨_, _, _, _, rfl, ?_⟩
    simp [opSync, h1, e1, DiD.perf, hz]

theorem qrename_fn (a b : ByteArray) : Ct Tryz.prog 96 {} [d.sv, S a, S b] (fun r => r = [(opRename d a b).1.sv, I (opRename d a b).2]) := by
 refine qrename_nf _ _ _ _ _ _ _ (Cl.of (qfirst_fn d h a b) ⟨_, rfl, ifB_intro (fun h1 => ?_) (fun h1 => ?_)⟩)
 ·simp at h1; simp [opRename, h1]
 ·simp at h1
  have hp := (er_zero.1 h1).1
  have hl := hp.1.1
  refine Cl.of (qat_fn d (by omega) a) ⟨_, rfl, ?_⟩
  rcases d.get_cases a with ⟨e1, e2, e3⟩ | ⟨i, hi, e2, e1, e3⟩
  ·rw [e2]; refine ifB_intro (fun _ => by simp [opRename, h1, e1]) (fun k => by simp at k)
  ·rw [e2]
   subst e3
   have hr : (0 : Int) ≤ (i : Nat) ∧ ((i : Nat) : Int) < rlen (fR d.fs) := ⟨by omega, by simpa using hi⟩
   refine ifB_intro (fun k => by simp at k; omega) (fun _ => Cl.of (qstep_fn d hp.1.2.2.2 h.2.2) ⟨_, _, _, _, _, rfl, ?_⟩)
   by_cases hz : d.st = 0
   ·refine ifB_intro (fun _ => ?_) (fun k2 => by simp [stepQ, hz] at k2)
    simp [opRename, h1, e1, DiD.perf, hz, stepQ]
   ·refine ifB_intro (fun k2 => by simp [stepQ, hz] at k2) (fun _ => ?_)
    simp only [stepQ, hz, if_false]
    refine ⟨hr, _, _, _, rget_map _ _ _ hi, Cl.of (qwithout_fn d.fs (by omega) _) ⟨_, rfl, ?_⟩⟩
    have hlw : (wout FiD.nm d.fs d.fs[i].nm).length ≤ d.fs.length := len_wout
    refine Cl.of (qwith_fn (wout FiD.nm d.fs d.fs[i].nm) (srt_wout hp.2.2.2) (by omega) d.tick.rm d.tick.st d.tick.dn ⟨b, d.fs[i].su, d.fs[i].lo⟩) ⟨_, _, _, _, rfl, ?_⟩
    simp [opRename, h1, e1, DiD.perf, hz]

theorem qremove_fn (s : ByteArray) : Ct Tryz.prog 92 {} [d.sv, S s] (fun r => r = [(opRemove d s).1.sv, I (opRemove d s).2]) := by
 refine qremove_nf _ _ _ _ _ _ (Cl.of (qfirst_fn d h s s) ⟨_, rfl, ifB_intro (fun h1 => ?_) (fun h1 => ?_)⟩)
 ·simp at h1; simp [opRemove, h1]
 ·simp at h1
  have hp := (er_zero.1 h1).1
  have hl := hp.1.1
  refine Cl.of (qat_fn d (by omega) s) ⟨_, rfl, ?_⟩
  rcases d.get_cases s with ⟨e1, e2, e3⟩ | ⟨i, hi, e2, e1, e3⟩
  ·rw [e2]; refine ifB_intro (fun _ => by simp [opRemove, h1, e1]) (fun k => by simp at k)
  ·rw [e2]
   refine ifB_intro (fun k => by simp at k; omega) (fun _ => Cl.of (qstep_fn d hp.1.2.2.2 h.2.2) ⟨_, _, _, _, _, rfl, ?_⟩)
   by_cases hz : d.st = 0
   ·refine ifB_intro (fun _ => ?_) (fun k2 => by simp [stepQ, hz] at k2)
    simp [opRemove, h1, e1, DiD.perf, hz, stepQ]
   ·refine ifB_intro (fun k2 => by simp [stepQ, hz] at k2) (fun _ => ?_)
    simp only [stepQ, hz, if_false]
    refine Cl.of (qwithout_fn d.fs (by omega) _) ⟨_, rfl, ?_⟩
    simp [opRemove, h1, e1, DiD.perf, hz]

end

theorem qshort_fn (d : DiD) (h : d.fs.length ≤ 70 → d.ok) (hl : d.fs.length ≤ 9223372036854775807) : Ct Tryz.prog 26 {} [d.sv] (fun r => r = [B (decide (d.fs.length ≤ 70 ∧ usedL d.fs ≤ 70000 ∧ ∀ f ∈ d.fs, f.nm.size ≤ 100))]) := by
 refine qshort_nf _ _ _ _ _ (ifB_intro (fun h1 => ifB_intro (fun _ => ?_) (fun k => by simp at k)) (fun h1 => ?_))
 ·have : ¬ (d.fs.length ≤ 70) := by simp at h1; omega
  simp [this]
 ·have h1 : d.fs.length ≤ 70 := by simp at h1; omega
  refine Cl.of (qused_fn d (h h1)) ⟨_, rfl, ifB_intro (fun h2 => ?_) (fun h2 => ?_)⟩
  ·have : ¬ (usedL d.fs ≤ 70000) := by simp at h2; omega
   simp [this]
  ·have h2 : usedL d.fs ≤ 70000 := by simp at h2; omega
   refine ⟨fun _ y => ∃ i : Nat, y = i ∧ i ≤ d.fs.length ∧ ∀ j : Nat, ∀ hj : j < d.fs.length, j < i → d.fs[j].nm.size ≤ 100, fun _ y => d.fs.length - y.toNat, ⟨0, rfl, by omega, fun j _ hj => by omega⟩, ?_⟩
   rintro _ _ ⟨i, rfl, hi, hall⟩
   refine ifB_intro (fun k => ?_) (fun k => ?_)
   ·have k : i < d.fs.length := by simpa using k
    rw [waddN _ (by omega)]
    refine ⟨⟨by omega, by simpa using k⟩, _, _, _, rget_map _ _ _ k, ifB_intro (fun z => ?_) (fun z => ⟨rfl, ⟨i + 1, rfl, by omega, fun j hj hjk => ?_⟩, stepL (by simp; omega)⟩)⟩
    ·have z : 100 < d.fs[i].nm.size := by simp at z; omega
     have : ¬ ∀ f ∈ d.fs, f.nm.size ≤ 100 := fun q => by have := q _ (List.getElem_mem k); omega
     simp [this]
    ·by_cases e : j = i
     ·subst e; simp at z; omega
     ·exact hall j hj (by omega)
   ·have k : ¬ i < d.fs.length := by simpa using k
    have : ∀ f ∈ d.fs, f.nm.size ≤ 100 := fun f hf => by
     obtain ⟨j, hj, rfl⟩ := List.mem_iff_getElem.1 hf
     exact hall j hj (by omega)
    have : d.fs.length ≤ 70 ∧ usedL d.fs ≤ 70000 ∧ ∀ f ∈ d.fs, f.nm.size ≤ 100 := ⟨h1, h2, this⟩
    rw [decide_eq_true this]

theorem sne_u (a b : List UInt8) : sne (bstr (uR a)) (bstr (uR b)) = !decide (a = b) := by
 rw [sne_d]; congr 1; rw [decide_eq_decide]; exact bstr_inj

theorem qsame_fn (d e : DiD) (hl : d.fs.length ≤ 9223372036854775806) : Ct Tryz.prog 40 {} [d.sv, e.sv] (fun r => r = [B (decide (d = e))]) := by
 have no : ¬ d = e → [B false] = [B (decide (d = e))] := fun h => by simp [h]
 refine qsame_nf _ _ _ _ _ _ _ _ _ (ifB_intro (fun h1 => no (fun q => ?_)) (fun h1 => ?_))
 ·subst q; simp at h1
 ·simp at h1
  obtain ⟨⟨⟨hlen, hrm⟩, hst⟩, hdn⟩ := h1
  have hlen : d.fs.length = e.fs.length := by omega
  refine ⟨fun _ y => ∃ i : Nat, y = i ∧ i ≤ d.fs.length ∧ ∀ j : Nat, ∀ hj : j < d.fs.length, j < i → d.fs[j] = e.fs[j]'(by omega), fun _ y => d.fs.length - y.toNat, ⟨0, rfl, by omega, fun j _ hj => by omega⟩, ?_⟩
  rintro _ _ ⟨i, rfl, hi, hall⟩
  refine ifB_intro (fun k => ?_) (fun k => ?_)
  ·have k : i < d.fs.length := by simpa using k
   have k2 : i < e.fs.length := by omega
   rw [waddN _ (by omega)]
   have nx : d.fs[i] = e.fs[i] → ∃ m : Nat, ((i + 1 : Nat) : Int) = m ∧ m ≤ d.fs.length ∧ ∀ j : Nat, ∀ hj : j < d.fs.length, j < m → d.fs[j] = e.fs[j]'(by omega) := fun q =>
    ⟨i + 1, rfl, by omega, fun j hj hjk => by
     by_cases z : j = i
     ·subst z; exact q
     ·exact hall j hj (by omega)⟩
   have ne : ∀ {p : Prop}, ¬ d.fs[i] = e.fs[i] → [B false] = [B (decide (d = e))] := fun q => no (fun z => q (by subst z; rfl))
   refine ⟨⟨by omega, by simpa using k⟩, _, _, _, rget_map _ _ _ k, ⟨by omega, by simpa using k2⟩, _, _, _, rget_map _ _ _ k2, ?_⟩
   have key : ifB (sne d.fs[i].nm e.fs[i].nm) (ifB (bpick true true true) (ifB (bpick true true true) ([B false] = [B (decide (d = e))]) ((some [[SL 3 (fR e.fs), I e.rm, I e.st, B e.dn], [SL 3 (fR d.fs), I d.rm, I d.st, B d.dn]] = some [[SL 3 (fR e.fs), I e.rm, I e.st, B e.dn], [SL 3 (fR d.fs), I d.rm, I d.st, B d.dn]]) ∧ (∃ m : Nat, ((i + 1 : Nat) : Int) = m ∧ m ≤ d.fs.length ∧ ∀ j : Nat, ∀ hj : j < d.fs.length, j < m → d.fs[j] = e.fs[j]'(by omega)) ∧ Nat.le (Nat.succ (d.fs.length - ((i + 1 : Nat) : Int).toNat)) (d.fs.length - ((i : Nat) : Int).toNat))) (isBytes (uR d.fs[i].lo) ∧ isBytes (uR e.fs[i].lo) ∧ ifB (bpick false true (sne (bstr (uR d.fs[i].lo)) (bstr (uR e.fs[i].lo)))) ([B false] = [B (decide (d = e))]) ((some [[SL 3 (fR e.fs), I e.rm, I e.st, B e.dn], [SL 3 (fR d.fs), I d.rm, I d.st, B d.dn]] = some [[SL 3 (fR e.fs), I e.rm, I e.st, B e.dn], [SL 3 (fR d.fs), I d.rm, I d.st, B d.dn]]) ∧ (∃ m : Nat, ((i + 1 : Nat) : Int) = m ∧ m ≤ d.fs.length ∧ ∀ j : Nat, ∀ hj : j < d.fs.length, j < m → d.fs[j] = e.fs[j]'(by omega)) ∧ Nat.le (Nat.succ (d.fs.length - ((i + 1 : Nat) : Int).toNat)) (d.fs.length - ((i : Nat) : Int).toNat))))
     (isBytes (uR d.fs[i].su) ∧ isBytes (uR e.fs[i].su) ∧ ifB (bpick false true (sne (bstr (uR d.fs[i].su)) (bstr (uR e.fs[i].su)))) (ifB (bpick true true true) ([B false] = [B (decide (d = e))]) ((some [[SL 3 (fR e.fs), I e.rm, I e.st, B e.dn], [SL 3 (fR d.fs), I d.rm, I d.st, B d.dn]] = some [[SL 3 (fR e.fs), I e.rm, I e.st, B e.dn], [SL 3 (fR d.fs), I d.rm, I d.st, B d.dn]]) ∧ (∃ m : Nat, ((i + 1 : Nat) : Int) = m ∧ m ≤ d.fs.length ∧ ∀ j : Nat, ∀ hj : j < d.fs.length, j < m → d.fs[j] = e.fs[j]'(by omega)) ∧ Nat.le (Nat.succ (d.fs.length - ((i + 1 : Nat) : Int).toNat)) (d.fs.length - ((i : Nat) : Int).toNat))) (isBytes (uR d.fs[i].lo) ∧ isBytes (uR e.fs[i].lo) ∧ ifB (bpick false true (sne (bstr (uR d.fs[i].lo)) (bstr (uR e.fs[i].lo)))) ([B false] = [B (decide (d = e))]) ((some [[SL 3 (fR e.fs), I e.rm, I e.st, B e.dn], [SL 3 (fR d.fs), I d.rm, I d.st, B d.dn]] = some [[SL 3 (fR e.fs), I e.rm, I e.st, B e.dn], [SL 3 (fR d.fs), I d.rm, I d.st, B d.dn]]) ∧ (∃ m : Nat, ((i + 1 : Nat) : Int) = m ∧ m ≤ d.fs.length ∧ ∀ j : Nat, ∀ hj : j < d.fs.length, j < m → d.fs[j] = e.fs[j]'(by omega)) ∧ Nat.le (Nat.succ (d.fs.length - ((i + 1 : Nat) : Int).toNat)) (d.fs.length - ((i : Nat) : Int).toNat)))) := by
    have st : Nat.le (Nat.succ (d.fs.length - ((i + 1 : Nat) : Int).toNat)) (d.fs.length - ((i : Nat) : Int).toNat) := stepL (by simp; omega)
    rw [sne_d, sne_u, sne_u]
    refine ifB_intro (fun z1 => ifB_intro (fun _ => ifB_intro (fun _ => ne (p := True) (fun q => ?_)) (fun z => by simp at z)) (fun z => by simp at z)) (fun z1 => ⟨isBytes_u _, isBytes_u _, ifB_intro (fun z2 => ifB_intro (fun _ => ne (p := True) (fun q => ?_)) (fun z => by simp at z)) (fun z2 => ⟨isBytes_u _, isBytes_u _, ifB_intro (fun z3 => ne (p := True) (fun q => ?_)) (fun z3 => ⟨rfl, nx ?_, st⟩)⟩)⟩)
    ·simp at z1; exact z1 (by rw [q])
    ·simp at z2; exact z2 (by rw [q])
    ·simp at z3; exact z3 (by rw [q])
    ·simp at z1 z2 z3
     generalize d.fs[i] = a at z1 z2 z3
     generalize e.fs[i] = b at z1 z2 z3
     cases a; cases b; simp_all
   exact ⟨key, key⟩
  ·have k : ¬ i < d.fs.length := by simpa using k
   have : d = e := by
    have hf : d.fs = e.fs := List.ext_getElem hlen fun j h1 h2 => hall j h1 (by omega)
    cases d; cases e; simp_all
   simp [this]
end Go.Proofs.YtbocfphenkidnaaGreatDoor.Dsk

namespace Go.Px
set_option linter.unusedVariables false
set_option linter.unusedSectionVars false

def nms4 : List ByteArray := [⟨#[97]⟩, ⟨#[98]⟩, ⟨#[99]⟩, ⟨#[100]⟩]
def nm4 (n : Int) : ByteArray := nms4.getD (n.toNat % 4) ByteArray.empty
structure DoD where
 k : Int
 f : Int
 t : Int
 n : Int
 x : List UInt8
abbrev DoD.row (o : DoD) : List SV := [U8 o.k, U8 o.f, U8 o.t, U8 o.n, SL 1 (uR o.x)]
abbrev oR (l : List DoD) : List (List SV) := l.map DoD.row
def DoD.wf (o : DoD) : Prop := (0 ≤ o.k ∧ o.k ≤ 255) ∧ (0 ≤ o.f ∧ o.f ≤ 255) ∧ (0 ≤ o.t ∧ o.t ≤ 255) ∧ (0 ≤ o.n ∧ o.n ≤ 255)
def oneD (d : DiD) (o : DoD) : DiD × Int :=
 if o.k % 6 = 0 then opCreate d (nm4 o.f) else if o.k % 6 = 1 then opAppend d (nm4 o.f) o.x else if o.k % 6 = 2 then opSync d (nm4 o.f)
 else if o.k % 6 = 3 then opRename d (nm4 o.f) (nm4 o.t) else if o.k % 6 = 4 then opRemove d (nm4 o.f) else opCut d (nm4 o.f) o.n

def Steps (F H : DiD) (m : Int) (p q : DiD × Int) : Prop :=
 (p.2 ≠ 0 → p.1 = F ∧ q = (H, p.2)) ∧ (p.2 = 0 → (p.1.st = -1 ∧ p.1.dn = false) ∧ (m = 0 → q.2 = 16 ∧ q.1.dn = true) ∧ (m ≠ 0 → q = ({ p.1 with st := m - 1 }, 0)))

section
variable {F : DiD} (hs : F.st = -1) (hd : F.dn = false) {m : Int} (hm : 0 ≤ m)
include hs hd hm
end
end Go.Px

namespace Go.Px
set_option linter.unusedVariables false

section
variable {α : Type} {nm : α → ByteArray} {l : List α} {f g : α}
theorem wout_insB (h : ∀ x ∈ l, nm x ≠ nm f) : wout nm (insB nm l f) (nm f) = l := by
 have e := ahd_bhd (nm := nm) l (nm f)
 have h1 : wout nm (ahd nm l (nm f)) (nm f) = ahd nm l (nm f) := wout_none fun x hx => h x (by rw [← e]; exact List.mem_append.2 (.inl hx))
 have h2 : wout nm (bhd nm l (nm f)) (nm f) = bhd nm l (nm f) := wout_none fun x hx => h x (by rw [← e]; exact List.mem_append.2 (.inr hx))
 conv => rhs; rw [← e]
 unfold insB
 unfold wout at h1 h2 ⊢
 rw [List.filter_append, List.filter_cons]
 simp only [ne_eq, not_true, decide_false, Bool.false_eq_true, if_false]
 rw [h1, h2]
theorem wout_withB (l : List α) (f : α) : wout nm (withB nm l f) (nm f) = wout nm l (nm f) := by
 unfold withB
 exact wout_insB fun x hx => (mem_wout.1 hx).2
theorem withB_withB (e : nm f = nm g) : withB nm (withB nm l f) g = withB nm l g := by
 show insB nm (wout nm (withB nm l f) (nm g)) g = _
 rw [← e, wout_withB, e]
 rfl
end

theorem get_withB {d : DiD} {f : FiD} {l : List FiD} (hs : srt FiD.nm l) (e : d.fs = withB FiD.nm l f) : d.get f.nm = some f := by
 have hs' : srt FiD.nm d.fs := by rw [e]; exact srt_withB hs
 have hm : f ∈ d.fs := by rw [e]; exact mem_withB.2 (.inl rfl)
 rcases d.get_cases f.nm with ⟨_, _, h3⟩ | ⟨i, hi, _, h1, h2⟩
 ·exact absurd rfl (h3 f hm)
 ·rw [h1, srt_mem hs' (List.getElem_mem hi) hm h2]

section
variable {d : DiD} (h : ¬ d.P)
include h
end

theorem get_iff {d : DiD} (hs : srt FiD.nm d.fs) {s : ByteArray} {f : FiD} : d.get s = some f ↔ f ∈ d.fs ∧ f.nm = s := by
 constructor
 ·intro h
  rcases d.get_cases s with ⟨h1, _, _⟩ | ⟨i, hi, _, h1, h2⟩
  ·rw [h1] at h; cases h
  ·rw [h1] at h; cases h; exact ⟨List.getElem_mem hi, h2⟩
 ·rintro ⟨h1, rfl⟩
  rcases d.get_cases f.nm with ⟨_, _, h3⟩ | ⟨i, hi, _, h2, h3⟩
  ·exact absurd rfl (h3 f h1)
  ·rw [h2, srt_mem hs (List.getElem_mem hi) h1 h3]
theorem get_none {d : DiD} {s : ByteArray} (h : d.get s = none) : ∀ f ∈ d.fs, f.nm ≠ s := by
 rcases d.get_cases s with ⟨_, _, h3⟩ | ⟨i, hi, _, h1, h2⟩
 ·exact h3
 ·rw [h1] at h; cases h

def Lst (nm : ByteArray) (b : List UInt8) (fs : List FiD) : Prop := ∃ f ∈ fs, f.nm = nm ∧ b <+: f.su
def tch (o : DoD) (nm : ByteArray) : Prop := (3 < o.k % 6 ∧ nm4 o.f = nm) ∨ (o.k % 6 = 3 ∧ (nm4 o.f = nm ∨ nm4 o.t = nm))
instance (o : DoD) (nm : ByteArray) : Decidable (tch o nm) := inferInstanceAs (Decidable (_ ∨ _))

end Go.Px

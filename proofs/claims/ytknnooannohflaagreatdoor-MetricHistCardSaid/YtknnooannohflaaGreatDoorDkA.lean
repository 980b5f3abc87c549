/- Lists that are sorted by names: insertion, removal, search. -/
import Derived.Test.YtknnooannohflaaGreatDoorEvA
import Derived.Test.YtknnooannohflaaGreatDoorPxK
import Derived.Test.YtknnooannohflaaGreatDoorProg
namespace Go.Px
set_option linter.unusedVariables false

def nlt (a b : ByteArray) : Prop := a.data.toList < b.data.toList
instance (a b : ByteArray) : Decidable (nlt a b) := inferInstanceAs (Decidable (_ < _))

theorem bless_eq : ∀ x y : List UInt8, Op.bytesLess x y = decide (x < y)
 | _, [] => by cases ‹List UInt8› <;> simp [Op.bytesLess]
 | [], b :: y => by simp [Op.bytesLess]
 | a :: x, b :: y => by
  simp only [Op.bytesLess, bless_eq x y]
  rw [Bool.eq_iff_iff]
  simp only [Bool.or_eq_true, Bool.and_eq_true, decide_eq_true_eq, beq_iff_eq, List.cons_lt_cons_iff]

theorem slt_d (a b : ByteArray) : slt a b = decide (nlt a b) := by
 unfold slt nlt; rw [ByteArray.toList_eq, ByteArray.toList_eq, bless_eq]; rfl
theorem nlt_irr (a : ByteArray) : ¬ nlt a a := List.lt_irrefl _
theorem nlt_trans {a b c : ByteArray} (h : nlt a b) (k : nlt b c) : nlt a c := List.lt_trans h k
theorem nlt_tri {a b : ByteArray} (h : ¬ nlt a b) (k : ¬ nlt b a) : a = b := by
 have : a.data.toList = b.data.toList := List.le_antisymm (List.not_lt.1 k) (List.not_lt.1 h)
 exact (toList_iff a b).1 (by rw [ByteArray.toList_eq, ByteArray.toList_eq]; exact this)
theorem nlt_ne {a b : ByteArray} (h : nlt a b) : a ≠ b := fun e => nlt_irr a (by rw [← e] at h; exact h)
theorem nlt_asymm {a b : ByteArray} (h : nlt a b) : ¬ nlt b a := fun k => nlt_irr _ (nlt_trans h k)
theorem nle_iff {a b : ByteArray} : ¬ nlt b a ↔ nlt a b ∨ a = b :=
 ⟨fun h => by by_cases k : nlt a b; exact .inl k; exact .inr (nlt_tri k h), fun h => by rcases h with h | h; exact nlt_asymm h; rw [h]; exact nlt_irr _⟩
theorem sge_d (a b : ByteArray) : sge a b = decide (¬ nlt a b) := by
 unfold sge; rw [show Op.bytesLess a.toList b.toList = slt a b from rfl, slt_d]; simp
theorem sle_d (a b : ByteArray) : sle a b = decide (¬ nlt b a) := by
 unfold sle; rw [show Op.bytesLess a.toList b.toList = slt a b from rfl, slt_d, show (a.toList == b.toList) = seq a b from rfl, seq_d, Bool.eq_iff_iff]
 simp only [Bool.or_eq_true, decide_eq_true_eq]; exact nle_iff.symm
theorem sgt_d (a b : ByteArray) : sgt a b = decide (nlt b a) := by
 unfold sgt
 rw [show (Op.bytesLess a.toList b.toList || a.toList == b.toList) = sle a b from rfl, sle_d]; simp

section
variable {α : Type} (nm : α → ByteArray)

def srt (l : List α) : Prop := l.Pairwise fun a b => nlt (nm a) (nm b)
instance (l : List α) : Decidable (srt nm l) := inferInstanceAs (Decidable (List.Pairwise _ l))
def wout (l : List α) (s : ByteArray) : List α := l.filter fun f => decide (nm f ≠ s)
def ahd (l : List α) (s : ByteArray) : List α := l.takeWhile fun g => decide (nlt (nm g) s)
def bhd (l : List α) (s : ByteArray) : List α := l.dropWhile fun g => decide (nlt (nm g) s)
def insB (l : List α) (f : α) : List α := ahd nm l (nm f) ++ f :: bhd nm l (nm f)
def withB (l : List α) (f : α) : List α := insB nm (wout nm l (nm f)) f
def fnd (l : List α) (s : ByteArray) : Option Nat := l.findIdx? fun f => decide (nm f = s)
def fAt (l : List α) (s : ByteArray) : Int := match fnd nm l s with | some i => (i : Int) | none => -1

variable {nm} {l : List α} {s : ByteArray} {f g : α}

theorem fnd_some {i : Nat} : fnd nm l s = some i ↔ ∃ h : i < l.length, nm l[i] = s ∧ ∀ j (hj : j < i), nm (l[j]'(by omega)) ≠ s := by
 unfold fnd
 rw [List.findIdx?_eq_some_iff_getElem]
 simp
theorem fnd_none : fnd nm l s = none ↔ ∀ f ∈ l, nm f ≠ s := by
 unfold fnd
 rw [List.findIdx?_eq_none_iff]; simp
theorem fAt_none : fAt nm l s = -1 ↔ ∀ f ∈ l, nm f ≠ s := by
 unfold fAt
 rw [← fnd_none]
 cases h : fnd nm l s with
 | none => simp
 | some i => simp
theorem fAt_cases : fAt nm l s = -1 ∨ ∃ i : Nat, ∃ h : i < l.length, fAt nm l s = i ∧ nm l[i] = s ∧ ∀ j (hj : j < i), nm (l[j]'(by omega)) ≠ s := by
 unfold fAt
 cases h : fnd nm l s with
 | none => exact .inl rfl
 | some i => obtain ⟨h1, h2, h3⟩ := fnd_some.1 h; exact .inr ⟨i, h1, rfl, h2, h3⟩

theorem srt_get (h : srt nm l) {i j : Nat} (hi : i < j) (hj : j < l.length) : nlt (nm (l[i]'(by omega))) (nm l[j]) :=
 List.pairwise_iff_getElem.1 h i j (by omega) hj hi
theorem srt_inj (h : srt nm l) {i j : Nat} (hi : i < l.length) (hj : j < l.length) (e : nm l[i] = nm l[j]) : i = j := by
 rcases Nat.lt_trichotomy i j with k | k | k
 ·exact absurd e (nlt_ne (srt_get h k hj))
 ·exact k
 ·exact absurd e.symm (nlt_ne (srt_get h k hi))
theorem srt_mem (h : srt nm l) (hf : f ∈ l) (hg : g ∈ l) (e : nm f = nm g) : f = g := by
 obtain ⟨i, hi, rfl⟩ := List.mem_iff_getElem.1 hf
 obtain ⟨j, hj, rfl⟩ := List.mem_iff_getElem.1 hg
 have := srt_inj h hi hj e
 subst this; rfl

theorem srt_adj (h : ∀ i (hi : i + 1 < l.length), nlt (nm (l[i]'(by omega))) (nm l[i + 1])) : srt nm l := by
 unfold srt
 rw [List.pairwise_iff_getElem]
 intro i j hi hj hij
 obtain ⟨d, rfl⟩ : ∃ d, j = i + 1 + d := ⟨j - i - 1, by omega⟩
 clear hij
 induction d with
 | zero => exact h i hj
 | succ d ih => exact nlt_trans (ih (by omega)) (h (i + 1 + d) hj)

theorem srt_wout (h : srt nm l) : srt nm (wout nm l s) := List.Pairwise.sublist List.filter_sublist h
theorem mem_wout : f ∈ wout nm l s ↔ f ∈ l ∧ nm f ≠ s := by simp [wout]
theorem wout_none (h : ∀ f ∈ l, nm f ≠ s) : wout nm l s = l := by
 unfold wout; rw [List.filter_eq_self]; intro a ha; simp [h a ha]

theorem ahd_bhd (l : List α) (s : ByteArray) : ahd nm l s ++ bhd nm l s = l := List.takeWhile_append_dropWhile
theorem mem_ahd : ∀ {l : List α}, f ∈ ahd nm l s → nlt (nm f) s
 | [], h => by simp [ahd] at h
 | a :: l, h => by
  unfold ahd at h
  rw [List.takeWhile_cons] at h
  split at h
  ·rename_i ha
   rcases List.mem_cons.1 h with e | h
   ·rw [e]; simpa using ha
   ·exact mem_ahd (l := l) h
  ·simp at h
theorem bhd_head : ∀ {l : List α} {x : α} {r : List α}, bhd nm l s = x :: r → ¬ nlt (nm x) s
 | [], _, _, h => by simp [bhd] at h
 | a :: l, x, r, h => by
  unfold bhd at h
  rw [List.dropWhile_cons] at h
  split at h
  ·exact bhd_head (l := l) h
  ·rename_i hn; cases h; simpa using hn
theorem mem_bhd (h : srt nm l) (hf : f ∈ bhd nm l s) : ¬ nlt (nm f) s := by
 have hs : srt nm (bhd nm l s) := List.Pairwise.sublist (List.dropWhile_sublist _) h
 cases hb : bhd nm l s with
 | nil => rw [hb] at hf; simp at hf
 | cons x r =>
  have hx := bhd_head hb
  rw [hb] at hf hs
  rcases List.mem_cons.1 hf with e | hr
  ·rw [e]; exact hx
  ·intro k
   exact hx (nlt_trans ((List.pairwise_cons.1 hs).1 f hr) k)

theorem mem_insB : g ∈ insB nm l f ↔ g = f ∨ g ∈ l := by
 unfold insB
 constructor
 ·intro h
  rcases List.mem_append.1 h with h | h
  ·exact .inr (by rw [← ahd_bhd (nm := nm) l (nm f)]; exact List.mem_append.2 (.inl h))
  ·rcases List.mem_cons.1 h with h | h
   ·exact .inl h
   ·exact .inr (by rw [← ahd_bhd (nm := nm) l (nm f)]; exact List.mem_append.2 (.inr h))
 ·rintro (rfl | h)
  ·simp
  ·rw [← ahd_bhd (nm := nm) l (nm f)] at h
   rcases List.mem_append.1 h with h | h
   ·exact List.mem_append.2 (.inl h)
   ·exact List.mem_append.2 (.inr (List.mem_cons_of_mem _ h))
theorem mem_withB : g ∈ withB nm l f ↔ g = f ∨ (g ∈ l ∧ nm g ≠ nm f) := by
 unfold withB; rw [mem_insB, mem_wout]
theorem len_insB : (insB nm l f).length = l.length + 1 := by
 have := congrArg List.length (ahd_bhd (nm := nm) l (nm f))
 simp only [List.length_append] at this
 simp [insB]; omega

theorem srt_insB (h : srt nm l) (hn : ∀ g ∈ l, nm g ≠ nm f) : srt nm (insB nm l f) := by
 unfold insB srt
 have h' : srt nm (ahd nm l (nm f) ++ bhd nm l (nm f)) := by rw [ahd_bhd]; exact h
 obtain ⟨h1, h2, h3⟩ := List.pairwise_append.1 h'
 refine List.pairwise_append.2 ⟨h1, List.pairwise_cons.2 ⟨fun g hg => ?_, h2⟩, fun a ha b hb => ?_⟩
 ·have k := mem_bhd h hg
  rcases nle_iff.1 k with k | k
  ·exact k
  ·exact absurd k.symm (hn g (by rw [← ahd_bhd (nm := nm) l (nm f)]; exact List.mem_append.2 (.inr hg)))
 ·rcases List.mem_cons.1 hb with rfl | hb
  ·exact mem_ahd ha
  ·exact h3 a ha b hb
theorem srt_withB (h : srt nm l) : srt nm (withB nm l f) :=
 srt_insB (srt_wout h) (fun g hg => (mem_wout.1 hg).2)

theorem ahd_none {l : List α} (h : ∀ g ∈ l, ¬ nlt (nm g) s) : ahd nm l s = [] := by
 cases l with
 | nil => rfl
 | cons a l => unfold ahd; rw [List.takeWhile_cons_of_neg (by simpa using h a (by simp))]
theorem ahd_app {a b : List α} (h1 : ∀ g ∈ a, nlt (nm g) s) (h2 : ∀ g ∈ b, ¬ nlt (nm g) s) : ahd nm (a ++ b) s = a := by
 unfold ahd
 rw [List.takeWhile_append_of_pos (fun g hg => by simpa using h1 g hg)]
 rw [show List.takeWhile _ b = ahd nm b s from rfl, ahd_none h2, List.append_nil]
theorem bhd_app {a b : List α} (h1 : ∀ g ∈ a, nlt (nm g) s) (h2 : ∀ g ∈ b, ¬ nlt (nm g) s) : bhd nm (a ++ b) s = b := by
 have e := ahd_bhd (nm := nm) (a ++ b) s
 rw [ahd_app h1 h2] at e
 exact List.append_cancel_left e

theorem insB_app {a b : List α} (h1 : ∀ g ∈ a, nlt (nm g) (nm f)) (h2 : ∀ g ∈ b, ¬ nlt (nm g) (nm f)) : insB nm (a ++ b) f = a ++ f :: b := by
 unfold insB; rw [ahd_app h1 h2, bhd_app h1 h2]

theorem split_at {i : Nat} (hi : i < l.length) : l = l.take i ++ l[i] :: l.drop (i + 1) := by
 rw [List.getElem_cons_drop, List.take_append_drop]
theorem wout_split (h : srt nm l) {i : Nat} (hi : i < l.length) : wout nm l (nm l[i]) = l.take i ++ l.drop (i + 1) := by
 have e := split_at hi
 have hs := h
 rw [e] at hs
 obtain ⟨h1, h2, h3⟩ := List.pairwise_append.1 hs
 have h4 := (List.pairwise_cons.1 h2).1
 have main : ∀ (a b : List α) (x : α), (∀ y ∈ a, nlt (nm y) (nm x)) → (∀ y ∈ b, nlt (nm x) (nm y)) → wout nm (a ++ x :: b) (nm x) = a ++ b := by
  intro a b x h3 h4
  unfold wout
  rw [List.filter_append, List.filter_cons]
  simp only [ne_eq, not_true, decide_false, Bool.false_eq_true, if_false]
  rw [List.filter_eq_self.2 (fun y hy => by have := h3 y hy; simp [nlt_ne this]), List.filter_eq_self.2 (fun y hy => by have := h4 y hy; simpa using fun e : nm y = nm x => nlt_ne this e.symm)]
 have := main (l.take i) (l.drop (i + 1)) l[i] (fun y hy => h3 y hy _ List.mem_cons_self) h4
 rw [← e] at this
 exact this
theorem set_withB (h : srt nm l) {i : Nat} (hi : i < l.length) (e : nm f = nm l[i]) : l.set i f = withB nm l f := by
 unfold withB
 rw [e, wout_split h hi]
 have hs := h
 rw [split_at hi] at hs
 obtain ⟨h1, h2, h3⟩ := List.pairwise_append.1 hs
 have h4 := (List.pairwise_cons.1 h2).1
 rw [insB_app (fun g hg => by rw [e]; exact h3 g hg l[i] List.mem_cons_self) (fun g hg => by rw [e]; exact nlt_asymm (h4 g hg))]
 rw [List.set_eq_take_append_cons_drop]
 simp [hi]
theorem len_withB_old (h : srt nm l) {i : Nat} (hi : i < l.length) (e : nm f = nm l[i]) : (withB nm l f).length = l.length := by
 rw [← set_withB h hi e]; simp
theorem withB_new (h : ∀ g ∈ l, nm g ≠ nm f) : withB nm l f = insB nm l f := by
 unfold withB; rw [wout_none h]

theorem ahd_iff (h : srt nm l) {i : Nat} (hi : i < l.length) : i < (ahd nm l s).length ↔ nlt (nm l[i]) s := by
 constructor
 ·intro k
  have e := ahd_bhd (nm := nm) l s
  have : l[i] = (ahd nm l s)[i] := by
   have e2 : (ahd nm l s ++ bhd nm l s)[i]'(by rw [e]; exact hi) = l[i] := by simp only [e]
   rw [List.getElem_append_left k] at e2
   exact e2.symm
  rw [this]
  exact mem_ahd (List.getElem_mem k)
 ·intro k
  refine Decidable.byContradiction fun hn => ?_
  have e := ahd_bhd (nm := nm) l s
  have e2 : (ahd nm l s ++ bhd nm l s)[i]'(by rw [e]; exact hi) = l[i] := by simp only [e]
  rw [List.getElem_append_right (by omega)] at e2
  exact mem_bhd h (List.getElem_mem _) (by rw [e2]; exact k)
theorem ahd_len : (ahd nm l s).length ≤ l.length := List.Sublist.length_le (List.takeWhile_sublist _)
theorem ahd_take : ahd nm l s = l.take (ahd nm l s).length := by
 have e := ahd_bhd (nm := nm) l s
 have e2 := congrArg (List.take (ahd nm l s).length) e
 rw [List.take_left] at e2
 exact e2
theorem bhd_drop : bhd nm l s = l.drop (ahd nm l s).length := by
 have e := ahd_bhd (nm := nm) l s
 have e2 := congrArg (List.drop (ahd nm l s).length) e
 rw [List.drop_left] at e2
 exact e2
theorem insB_at (l : List α) (f : α) : insB nm l f = l.take (ahd nm l (nm f)).length ++ f :: l.drop (ahd nm l (nm f)).length := by
 unfold insB; rw [← ahd_take, ← bhd_drop]
end

abbrev uR (l : List UInt8) : List (List SV) := l.map fun b => [U8 (b.toNat : Int)]
structure FiD where
 nm : ByteArray
 su : List UInt8
 lo : List UInt8
deriving DecidableEq
abbrev FiD.row (f : FiD) : List SV := [S f.nm, SL 1 (uR f.su), SL 1 (uR f.lo)]
abbrev fR (l : List FiD) : List (List SV) := l.map FiD.row
def FiD.len (f : FiD) : Nat := f.su.length + f.lo.length
def usedL (l : List FiD) : Nat := (l.map FiD.len).sum
structure DiD where
 fs : List FiD
 rm : Int
 st : Int
 dn : Bool
deriving DecidableEq
abbrev DiD.sv (d : DiD) : SV := .agg [SL 3 (fR d.fs), I d.rm, I d.st, B d.dn]

def fchr (b : UInt8) : Bool := decide (97 ≤ b.toNat ∧ b.toNat ≤ 122 ∨ 48 ≤ b.toNat ∧ b.toNat ≤ 57 ∨ b.toNat = 46)
def fnB (s : ByteArray) : Bool := decide (1 ≤ s.size ∧ s.size ≤ 16) && s.data.toList.all fchr

def DiD.P (d : DiD) : Prop := (d.fs.length ≤ 64 ∧ 0 ≤ d.rm ∧ d.rm ≤ 65536 ∧ -1 ≤ d.st) ∧ (usedL d.fs : Int) ≤ d.rm ∧ (∀ f ∈ d.fs, fnB f.nm = true) ∧ srt FiD.nm d.fs
instance (d : DiD) : Decidable d.P := inferInstanceAs (Decidable (_ ∧ _))

def DiD.er (d : DiD) (a b : ByteArray) : Int := if d.P then (if d.dn = true then 16 else if fnB a = true ∧ fnB b = true then 0 else 1) else 1
def DiD.get (d : DiD) (s : ByteArray) : Option FiD := d.fs.find? fun f => decide (f.nm = s)
def DiD.tick (d : DiD) : DiD := { d with st := if 0 < d.st then d.st - 1 else d.st }
def DiD.perf (d : DiD) (fs : List FiD) : DiD × Int := if d.st = 0 then ({ d with dn := true }, 16) else ({ d.tick with fs := fs }, 0)

def opCreate (d : DiD) (s : ByteArray) : DiD × Int :=
 if d.er s s ≠ 0 then (d, d.er s s) else match d.get s with
 | some _ => (d, 7)
 | none => if d.fs.length = 64 then (d, 13) else d.perf (withB FiD.nm d.fs ⟨s, [], []⟩)
def opAppend (d : DiD) (s : ByteArray) (x : List UInt8) : DiD × Int :=
 if d.er s s ≠ 0 then (d, d.er s s) else match d.get s with
 | none => (d, 14)
 | some f => if d.rm - usedL d.fs < x.length then (d, 13) else
   if d.st = 0 then ({ d with dn := true, fs := withB FiD.nm d.fs ⟨s, f.su, f.lo ++ x⟩ }, 16) else ({ d.tick with fs := withB FiD.nm d.fs ⟨s, f.su, f.lo ++ x⟩ }, 0)
def opSync (d : DiD) (s : ByteArray) : DiD × Int :=
 if d.er s s ≠ 0 then (d, d.er s s) else match d.get s with
 | none => (d, 14)
 | some f => d.perf (withB FiD.nm d.fs ⟨s, f.su ++ f.lo, []⟩)
def opRename (d : DiD) (a b : ByteArray) : DiD × Int :=
 if d.er a b ≠ 0 then (d, d.er a b) else match d.get a with
 | none => (d, 14)
 | some f => d.perf (withB FiD.nm (wout FiD.nm d.fs a) ⟨b, f.su, f.lo⟩)
def opRemove (d : DiD) (s : ByteArray) : DiD × Int :=
 if d.er s s ≠ 0 then (d, d.er s s) else match d.get s with
 | none => (d, 14)
 | some f => d.perf (wout FiD.nm d.fs s)
def opCut (d : DiD) (s : ByteArray) (n : Int) : DiD × Int :=
 if d.er s s ≠ 0 then (d, d.er s s) else match d.get s with
 | none => (d, 14)
 | some f => if n < 0 ∨ (f.len : Int) < n then (d, 1) else d.perf (withB FiD.nm d.fs ⟨s, f.su.take n.toNat, f.lo.take (n.toNat - f.su.length)⟩)
def opRead (d : DiD) (s : ByteArray) : List UInt8 × Int :=
 if d.er s s ≠ 0 then ([], d.er s s) else match d.get s with
 | none => ([], 14)
 | some f => (f.su ++ f.lo, 0)

def more (ks : List Int) (i n : Nat) : Nat := if ks = [] then 0 else min (ks.getD (i % ks.length) 0).toNat n
def wakeF (ks : List Int) (i : Nat) (f : FiD) : FiD := ⟨f.nm, f.su ++ f.lo.take (more ks i f.lo.length), []⟩
def wakeL (ks : List Int) (l : List FiD) : List FiD := l.mapIdx fun i f => wakeF ks i f
def opWake (d : DiD) (ks : List Int) (n : Int) : DiD × Int :=
 if ¬ d.P ∨ n < -1 then (d, 1) else (⟨wakeL ks d.fs, d.rm, n, false⟩, 0)


theorem rget_map {α : Type} (g : α → List SV) (l : List α) (i : Nat) (h : i < l.length) : rget (l.map g) (i : Int) = g l[i] := by simp [rget, h]
theorem rget_mapI {α : Type} (g : α → List SV) (l : List α) (i : Int) (h0 : 0 ≤ i) (h : i < l.length) : rget (l.map g) i = g (l[i.toNat]'(by omega)) := by
 have : i.toNat < l.length := by omega
 simp [rget, this]
theorem waddN (i : Nat) (h : i ≤ 9223372036854775806) : wadd .i64 (i : Int) 1 = ((i + 1 : Nat) : Int) := by
 rw [wadd_i64 (by omega) (by omega)]; omega
theorem waddNN (i j : Nat) (h : i + j ≤ 9223372036854775807) : wadd .i64 (i : Int) (j : Int) = ((i + j : Nat) : Int) := by
 rw [wadd_i64 (by omega) (by omega)]; omega
theorem rapp_map {α : Type} (g : α → List SV) (l m : List α) : rapp (l.map g) (m.map g) = (l ++ m).map g := by simp [rapp]
theorem stepL {a b : Nat} (h : a < b) : Nat.le (Nat.succ a) b := h
theorem ifB_d {p : Prop} [Decidable p] {x y : Prop} (h1 : p → x) (h2 : ¬ p → y) : ifB (decide p) x y := by
 by_cases h : p <;> simp [ifB, h]
 ·exact h1 h
 ·exact h2 h

end Go.Px

namespace Go.Proofs.YtknnooannohflaaGreatDoor.Ins
open Go Go.Px Go.Proofs
set_option maxRecDepth 100000
set_option linter.unusedVariables false

abbrev OO : Sig := ⟨[.own], [.own]⟩
def SgT : FuncId → Sig := (fun f => bif Nat.beq f 89 then ⟨[.own], [.own]⟩ else {})
def SvT : TypeId → Sig := fun _ => {}
theorem cinsert_nf (rows : LL) (i : Int) (v : LL) (Q : List SV → Prop) (h : ∀ x, ((rlen rows) ≤ x) → (x ≤ 9223372036854775807) → (((0 : Int) ≤ i) ∧ (i ≤ (isub (rlen rows) 0)) ∧ (isub (rlen rows) 0) ≤ (isub x 0)) ∧ ifB (ieq (rlen v) 0) (((rlen rows) ≤ (rlen rows)) ∧ Q [SL 21 (rsub rows 0 (rlen rows))]) (ifB (ieq i (isub (rlen rows) 0)) (((rlen rows) ≤ (rlen rows)) ∧ (((lsum (rlen rows) (rlen v)) ≤ x) → ((lsum (rlen rows) (rlen v)) ≤ (rlen (rput rows (rlen rows) v))) ∧ Q [SL 21 (rsub (rput rows (rlen rows) v) 0 (lsum (rlen rows) (rlen v)))]) ∧ ((x < (lsum (rlen rows) (rlen v))) → ((lsum (isub (rlen rows) 0) (rlen v)) ≤ 2147483648) ∧ Q [SL 21 (rapp (rsub rows 0 (rlen rows)) v)])) (ifB (igt (wadd .i64 (isub (rlen rows) 0) (rlen v)) (isub x 0)) ((((0 : Int) ≤ 0) ∧ ((0 : Int) ≤ i) ∧ i ≤ (isub x 0)) ∧ ((((0 : Int) ≤ (wsub .i64 (wadd .i64 (isub (rlen rows) 0) (rlen v)) i)) ∧ (wsub .i64 (wadd .i64 (isub (rlen rows) 0) (rlen v)) i) ≤ 2147483648) ∧ (x < (lsum (lsum 0 i) (wsub .i64 (wadd .i64 (isub (rlen rows) 0) (rlen v)) i))) ∧ (lsum (isub (lsum 0 i) 0) (wsub .i64 (wadd .i64 (isub (rlen rows) 0) (rlen v)) i)) ≤ 2147483648) ∧ (((lsum 0 i) ≤ (rlen rows)) → ∀ x1, ((lsum (isub (lsum 0 i) 0) (wsub .i64 (wadd .i64 (isub (rlen rows) 0) (rlen v)) i)) ≤ x1) → (x1 ≤ 9223372036854775807) → (((0 : Int) ≤ i) ∧ (i ≤ (isub (lsum (isub (lsum 0 i) 0) (wsub .i64 (wadd .i64 (isub (rlen rows) 0) (rlen v)) i)) 0)) ∧ (isub (lsum (isub (lsum 0 i) 0) (wsub .i64 (wadd .i64 (isub (rlen rows) 0) (rlen v)) i)) 0) ≤ (isub x1 0)) ∧ (((lsum 0 i) ≤ (rlen (rapp (rsub rows 0 (lsum 0 i)) (rrep (wsub .i64 (wadd .i64 (isub (rlen rows) 0) (rlen v)) i) ([S (bA []), I 0, I 0, I 0, I 0, SL 2 [], I 0, I 0, I 0, I 0, I 0, I 0, I 0, I 0, I 0, I 0, I 0, I 0, I 0, I 0, I 0]))))) ∧ (rlen v) ≤ (isub (lsum (isub (lsum 0 i) 0) (wsub .i64 (wadd .i64 (isub (rlen rows) 0) (rlen v)) i)) (lsum 0 i))) ∧ (((0 : Int) ≤ (wadd .i64 i (rlen v))) ∧ ((wadd .i64 i (rlen v)) ≤ (isub (lsum (isub (lsum 0 i) 0) (wsub .i64 (wadd .i64 (isub (rlen rows) 0) (rlen v)) i)) 0)) ∧ (isub (lsum (isub (lsum 0 i) 0) (wsub .i64 (wadd .i64 (isub (rlen rows) 0) (rlen v)) i)) 0) ≤ (isub x1 0)) ∧ (((0 : Int) ≤ i) ∧ (i ≤ (isub (rlen rows) 0)) ∧ (isub (rlen rows) 0) ≤ (isub x 0)) ∧ (((lsum 0 (wadd .i64 i (rlen v))) ≤ (rlen (rput (rapp (rsub rows 0 (lsum 0 i)) (rrep (wsub .i64 (wadd .i64 (isub (rlen rows) 0) (rlen v)) i) ([S (bA []), I 0, I 0, I 0, I 0, SL 2 [], I 0, I 0, I 0, I 0, I 0, I 0, I 0, I 0, I 0, I 0, I 0, I 0, I 0, I 0, I 0]))) (lsum 0 i) v))) ∧ (lsum (lsum 0 i) (imin (isub (rlen rows) (lsum 0 i)) (isub (lsum (isub (lsum 0 i) 0) (wsub .i64 (wadd .i64 (isub (rlen rows) 0) (rlen v)) i)) (lsum 0 (wadd .i64 i (rlen v)))))) ≤ (rlen rows)) ∧ ((lsum (isub (lsum 0 i) 0) (wsub .i64 (wadd .i64 (isub (rlen rows) 0) (rlen v)) i)) ≤ (rlen (rput (rput (rapp (rsub rows 0 (lsum 0 i)) (rrep (wsub .i64 (wadd .i64 (isub (rlen rows) 0) (rlen v)) i) ([S (bA []), I 0, I 0, I 0, I 0, SL 2 [], I 0, I 0, I 0, I 0, I 0, I 0, I 0, I 0, I 0, I 0, I 0, I 0, I 0, I 0, I 0]))) (lsum 0 i) v) (lsum 0 (wadd .i64 i (rlen v))) (rsub rows (lsum 0 i) (lsum (lsum 0 i) (imin (isub (rlen rows) (lsum 0 i)) (isub (lsum (isub (lsum 0 i) 0) (wsub .i64 (wadd .i64 (isub (rlen rows) 0) (rlen v)) i)) (lsum 0 (wadd .i64 i (rlen v)))))))))) ∧ Q ([SV.slice 21 (rsub (rput (rput (rapp (rsub rows 0 (lsum 0 i)) (rrep (wsub .i64 (wadd .i64 (isub (rlen rows) 0) (rlen v)) i) ([S (bA []), I 0, I 0, I 0, I 0, SL 2 [], I 0, I 0, I 0, I 0, I 0, I 0, I 0, I 0, I 0, I 0, I 0, I 0, I 0, I 0, I 0]))) (lsum 0 i) v) (lsum 0 (wadd .i64 i (rlen v))) (rsub rows (lsum 0 i) (lsum (lsum 0 i) (imin (isub (rlen rows) (lsum 0 i)) (isub (lsum (isub (lsum 0 i) 0) (wsub .i64 (wadd .i64 (isub (rlen rows) 0) (rlen v)) i)) (lsum 0 (wadd .i64 i (rlen v)))))))) 0 (lsum (isub (lsum 0 i) 0) (wsub .i64 (wadd .i64 (isub (rlen rows) 0) (rlen v)) i))) 0])) ∧ (((rlen rows) < (lsum 0 i)) → ∀ x1, ((lsum (isub (lsum 0 i) 0) (wsub .i64 (wadd .i64 (isub (rlen rows) 0) (rlen v)) i)) ≤ x1) → (x1 ≤ 9223372036854775807) → (((0 : Int) ≤ i) ∧ (i ≤ (isub (lsum (isub (lsum 0 i) 0) (wsub .i64 (wadd .i64 (isub (rlen rows) 0) (rlen v)) i)) 0)) ∧ (isub (lsum (isub (lsum 0 i) 0) (wsub .i64 (wadd .i64 (isub (rlen rows) 0) (rlen v)) i)) 0) ≤ (isub x1 0)) ∧ (((lsum 0 i) ≤ (rlen (rsub rows 0 (rlen rows)))) ∧ (rlen v) ≤ (isub (lsum (isub (lsum 0 i) 0) (wsub .i64 (wadd .i64 (isub (rlen rows) 0) (rlen v)) i)) (lsum 0 i))) ∧ (((0 : Int) ≤ (wadd .i64 i (rlen v))) ∧ ((wadd .i64 i (rlen v)) ≤ (isub (lsum (isub (lsum 0 i) 0) (wsub .i64 (wadd .i64 (isub (rlen rows) 0) (rlen v)) i)) 0)) ∧ (isub (lsum (isub (lsum 0 i) 0) (wsub .i64 (wadd .i64 (isub (rlen rows) 0) (rlen v)) i)) 0) ≤ (isub x1 0)) ∧ (((0 : Int) ≤ i) ∧ (i ≤ (isub (rlen rows) 0)) ∧ (isub (rlen rows) 0) ≤ (isub x 0)) ∧ (((lsum 0 (wadd .i64 i (rlen v))) ≤ (rlen (rput (rsub rows 0 (rlen rows)) (lsum 0 i) v))) ∧ (lsum (lsum 0 i) (imin (isub (rlen rows) (lsum 0 i)) (isub (lsum (isub (lsum 0 i) 0) (wsub .i64 (wadd .i64 (isub (rlen rows) 0) (rlen v)) i)) (lsum 0 (wadd .i64 i (rlen v)))))) ≤ (rlen rows)) ∧ ((lsum (isub (lsum 0 i) 0) (wsub .i64 (wadd .i64 (isub (rlen rows) 0) (rlen v)) i)) ≤ (rlen (rput (rput (rsub rows 0 (rlen rows)) (lsum 0 i) v) (lsum 0 (wadd .i64 i (rlen v))) (rsub rows (lsum 0 i) (lsum (lsum 0 i) (imin (isub (rlen rows) (lsum 0 i)) (isub (lsum (isub (lsum 0 i) 0) (wsub .i64 (wadd .i64 (isub (rlen rows) 0) (rlen v)) i)) (lsum 0 (wadd .i64 i (rlen v)))))))))) ∧ Q [SV.slice 21 (rsub (rput (rput (rsub rows 0 (rlen rows)) (lsum 0 i) v) (lsum 0 (wadd .i64 i (rlen v))) (rsub rows (lsum 0 i) (lsum (lsum 0 i) (imin (isub (rlen rows) (lsum 0 i)) (isub (lsum (isub (lsum 0 i) 0) (wsub .i64 (wadd .i64 (isub (rlen rows) 0) (rlen v)) i)) (lsum 0 (wadd .i64 i (rlen v)))))))) 0 (lsum (isub (lsum 0 i) 0) (wsub .i64 (wadd .i64 (isub (rlen rows) 0) (rlen v)) i))) 0])) ((((0 : Int) ≤ 0) ∧ ((0 : Int) ≤ (wadd .i64 (isub (rlen rows) 0) (rlen v))) ∧ (wadd .i64 (isub (rlen rows) 0) (rlen v)) ≤ (isub x 0)) ∧ (((0 : Int) ≤ (wadd .i64 i (rlen v))) ∧ ((wadd .i64 i (rlen v)) ≤ (isub (lsum 0 (wadd .i64 (isub (rlen rows) 0) (rlen v))) 0)) ∧ (isub (lsum 0 (wadd .i64 (isub (rlen rows) 0) (rlen v))) 0) ≤ (isub x 0)) ∧ (fovl Tryz.prog 135 40) ∧ ifB (bnot false) ((((0 : Int) ≤ (wadd .i64 i (rlen v))) ∧ ((wadd .i64 i (rlen v)) ≤ (isub (lsum 0 (wadd .i64 (isub (rlen rows) 0) (rlen v))) 0)) ∧ (isub (lsum 0 (wadd .i64 (isub (rlen rows) 0) (rlen v))) 0) ≤ (isub x 0)) ∧ (((0 : Int) ≤ i) ∧ (i ≤ (isub (lsum 0 (wadd .i64 (isub (rlen rows) 0) (rlen v))) 0)) ∧ (isub (lsum 0 (wadd .i64 (isub (rlen rows) 0) (rlen v))) 0) ≤ (isub x 0)) ∧ (((lsum 0 (wadd .i64 i (rlen v))) ≤ (rlen rows)) ∧ (lsum (lsum 0 i) (imin (isub (lsum 0 (wadd .i64 (isub (rlen rows) 0) (rlen v))) (lsum 0 i)) (isub (lsum 0 (wadd .i64 (isub (rlen rows) 0) (rlen v))) (lsum 0 (wadd .i64 i (rlen v)))))) ≤ (rlen rows)) ∧ (((0 : Int) ≤ i) ∧ (i ≤ (isub (lsum 0 (wadd .i64 (isub (rlen rows) 0) (rlen v))) 0)) ∧ (isub (lsum 0 (wadd .i64 (isub (rlen rows) 0) (rlen v))) 0) ≤ (isub x 0)) ∧ (((lsum 0 i) ≤ (rlen (rput rows (lsum 0 (wadd .i64 i (rlen v))) (rsub rows (lsum 0 i) (lsum (lsum 0 i) (imin (isub (lsum 0 (wadd .i64 (isub (rlen rows) 0) (rlen v))) (lsum 0 i)) (isub (lsum 0 (wadd .i64 (isub (rlen rows) 0) (rlen v))) (lsum 0 (wadd .i64 i (rlen v)))))))))) ∧ (rlen v) ≤ (isub (lsum 0 (wadd .i64 (isub (rlen rows) 0) (rlen v))) (lsum 0 i))) ∧ ((lsum 0 (wadd .i64 (isub (rlen rows) 0) (rlen v))) ≤ (rlen (rput (rput rows (lsum 0 (wadd .i64 i (rlen v))) (rsub rows (lsum 0 i) (lsum (lsum 0 i) (imin (isub (lsum 0 (wadd .i64 (isub (rlen rows) 0) (rlen v))) (lsum 0 i)) (isub (lsum 0 (wadd .i64 (isub (rlen rows) 0) (rlen v))) (lsum 0 (wadd .i64 i (rlen v)))))))) (lsum 0 i) v))) ∧ Q [SV.slice 21 (rsub (rput (rput rows (lsum 0 (wadd .i64 i (rlen v))) (rsub rows (lsum 0 i) (lsum (lsum 0 i) (imin (isub (lsum 0 (wadd .i64 (isub (rlen rows) 0) (rlen v))) (lsum 0 i)) (isub (lsum 0 (wadd .i64 (isub (rlen rows) 0) (rlen v))) (lsum 0 (wadd .i64 i (rlen v)))))))) (lsum 0 i) v) 0 (lsum 0 (wadd .i64 (isub (rlen rows) 0) (rlen v)))) 0]) ((((0 : Int) ≤ (isub (rlen rows) 0)) ∧ ((isub (rlen rows) 0) ≤ (isub (lsum 0 (wadd .i64 (isub (rlen rows) 0) (rlen v))) 0)) ∧ (isub (lsum 0 (wadd .i64 (isub (rlen rows) 0) (rlen v))) 0) ≤ (isub x 0)) ∧ (((lsum 0 (isub (rlen rows) 0)) ≤ (rlen rows)) ∧ (rlen v) ≤ (isub (lsum 0 (wadd .i64 (isub (rlen rows) 0) (rlen v))) (lsum 0 (isub (rlen rows) 0)))) ∧ (((0 : Int) ≤ i) ∧ (i ≤ (isub (lsum 0 (wadd .i64 (isub (rlen rows) 0) (rlen v))) 0)) ∧ (isub (lsum 0 (wadd .i64 (isub (rlen rows) 0) (rlen v))) 0) ≤ (isub x 0)) ∧ False))))) : Ct Tryz.prog 89 ⟨[.own], [.own]⟩ [SL 21 rows, I i, SL 21 v] Q :=
 fn_of (f := 89) SgT SvT (fun k => bif Nat.beq k 3000000 then some ({} : LoopSpec) else none) Tryz.f89 Tryz.func89 (by kernel_rfl) (by kernel_rfl) h


theorem isub_eq (a b : Int) : isub a b = a - b := rfl
theorem rput_len (R Z : List (List SV)) (k : Nat) (hk : k ≤ R.length) : (rput R k Z).length = k + Z.length + (R.length - (k + Z.length)) := by
 simp [rput]; omega
theorem rput_take2 (R Z : List (List SV)) (k : Nat) (hk : k ≤ R.length) : (rput R k Z).take (k + Z.length) = R.take k ++ Z := by
 simp only [rput, Int.toNat_natCast]
 rw [List.take_append_of_le_length (by simp; omega)]
 rw [List.take_of_length_le (by simp; omega)]
theorem rsub0 (R : List (List SV)) (k : Nat) : rsub R 0 (k : Int) = R.take k := by simp [rsub]
theorem rsubE (R : List (List SV)) (k : Nat) : rsub R (k : Int) (R.length : Int) = R.drop k := by simp [rsub]

def isFil (r : List SV) : Prop := ∃ s l1 l2, r = [S s, SL 1 l1, SL 1 l2]


theorem cinsert_fn (rows : List (List SV)) (i : Nat) (r : List SV) (hi : i ≤ rows.length) (hlen : rows.length ≤ 1000000) (ho : fovl Tryz.prog 135 40) :
  Ct Tryz.prog 89 OO [SL 21 rows, I i, SL 21 [r]] (fun x => x = [SL 21 (rows.take i ++ r :: rows.drop i)]) := by
 refine cinsert_nf _ _ _ _ fun x hx hxm => ?_
 have w1 : wadd IntKind.i64 (rows.length : Int) 1 = rows.length + 1 := wadd_i64 (by omega) (by omega)
 have w2 : wadd IntKind.i64 (i : Int) 1 = i + 1 := wadd_i64 (by omega) (by omega)
 have w3 : wsub IntKind.i64 ((rows.length : Int) + 1) i = rows.length + 1 - i := wsub_i64 (by omega) (by omega)
 have hone : (([r] : List (List SV)).length : Int) = 1 := rfl
 simp only [rlen_eq, lsum_eq, isub_eq, Int.zero_add, Int.sub_zero, hone, w1, w2, w3, imin_eq] at hx ⊢
 refine ⟨⟨by omega, by omega, by omega⟩, ifB_intro (fun h => ?_) (fun _ => ifB_intro (fun h => ⟨by omega, fun h1 => ⟨?_, ?_⟩, fun h1 => ⟨by omega, ?_⟩⟩) (fun h => ifB_intro (fun h1 => ?_) (fun h1 => ?_)))⟩
 ·simp at h
 ·rw [rput_len _ _ _ (Nat.le_refl _)]; simp
 ·simp at h
  have h : i = rows.length := by omega
  subst h
  rw [show ((rows.length : Int) + 1) = ((rows.length + 1 : Nat) : Int) by simp, rsub0, show rows.length + 1 = rows.length + [r].length from rfl, rput_take2 _ _ _ (Nat.le_refl _)]
  simp
 ·simp at h
  have h : i = rows.length := by omega
  subst h
  simp [rapp, rsub]
 ·simp at h h1
  have e0 : (i : Int) + ((rows.length : Int) + 1 - i) = ((rows.length + 1 : Nat) : Int) := by omega
  have e1 : rrep ((rows.length : Int) + 1 - i) ([S (bA []), I 0, I 0, I 0, I 0, SL 2 [], I 0, I 0, I 0, I 0, I 0, I 0, I 0, I 0, I 0, I 0, I 0, I 0, I 0, I 0, I 0]) = List.replicate (rows.length + 1 - i) ([S (bA []), I 0, I 0, I 0, I 0, SL 2 [], I 0, I 0, I 0, I 0, I 0, I 0, I 0, I 0, I 0, I 0, I 0, I 0, I 0, I 0, I 0]) := by unfold rrep; congr 1; omega
  have e2 : (i : Int) + min ((rows.length : Int) - i) (((rows.length + 1 : Nat) : Int) - ((i + 1 : Nat) : Int)) = rows.length := by omega
  have e3 : ((i : Int) + 1) = ((i + 1 : Nat) : Int) := by simp
  simp only [e0, e1, rsub0, e3, e2, rsubE]
  have l0 : (rapp (rows.take i) (List.replicate (rows.length + 1 - i) ([S (bA []), I 0, I 0, I 0, I 0, SL 2 [], I 0, I 0, I 0, I 0, I 0, I 0, I 0, I 0, I 0, I 0, I 0, I 0, I 0, I 0, I 0]))).length = rows.length + 1 := by simp [rapp]; omega
  have l1 : (rput (rapp (rows.take i) (List.replicate (rows.length + 1 - i) ([S (bA []), I 0, I 0, I 0, I 0, SL 2 [], I 0, I 0, I 0, I 0, I 0, I 0, I 0, I 0, I 0, I 0, I 0, I 0, I 0, I 0, I 0]))) i [r]).length = rows.length + 1 := by rw [rput_len _ _ _ (by omega), l0]; simp; omega
  have l2 : (rput (rput (rapp (rows.take i) (List.replicate (rows.length + 1 - i) ([S (bA []), I 0, I 0, I 0, I 0, SL 2 [], I 0, I 0, I 0, I 0, I 0, I 0, I 0, I 0, I 0, I 0, I 0, I 0, I 0, I 0, I 0]))) i [r]) ((i + 1 : Nat) : Int) (rows.drop i)).length = rows.length + 1 := by rw [rput_len _ _ _ (by omega), l1]; simp; omega
  refine ⟨⟨by omega, by omega, by omega⟩, ⟨⟨by omega, by omega⟩, by omega, by omega⟩, fun h2 x1 hx1 hxm1 => ⟨⟨by omega, by omega, by omega⟩, ⟨by rw [l0]; omega, by omega⟩, ⟨by omega, by omega, by omega⟩, ⟨by omega, by omega, by omega⟩, ⟨by rw [l1]; omega, by omega⟩, by rw [l2]; omega, ?_⟩, fun h2 => by omega⟩
  have t2 := rput_take2 (rput (rapp (rows.take i) (List.replicate (rows.length + 1 - i) ([S (bA []), I 0, I 0, I 0, I 0, SL 2 [], I 0, I 0, I 0, I 0, I 0, I 0, I 0, I 0, I 0, I 0, I 0, I 0, I 0, I 0, I 0]))) i [r]) (rows.drop i) (i + 1) (by rw [l1]; omega)
  rw [show (i + 1) + (rows.drop i).length = rows.length + 1 by simp; omega] at t2
  have t1 := rput_take2 (rapp (rows.take i) (List.replicate (rows.length + 1 - i) ([S (bA []), I 0, I 0, I 0, I 0, SL 2 [], I 0, I 0, I 0, I 0, I 0, I 0, I 0, I 0, I 0, I 0, I 0, I 0, I 0, I 0, I 0]))) [r] i (by rw [l0]; omega)
  rw [t2, show i + 1 = i + [r].length from rfl, t1]
  simp [rapp, hi]
 ·simp at h h1
  have hlt : i < rows.length := by omega
  have e2 : (i : Int) + min ((rows.length : Int) + 1 - i) ((rows.length : Int) + 1 - (i + 1)) = rows.length := by omega
  have e3 : ((i : Int) + 1) = ((i + 1 : Nat) : Int) := by simp
  have e4 : ((rows.length : Int) + 1) = ((rows.length + 1 : Nat) : Int) := by simp
  simp only [e2, rsubE]
  have l1 : (rput rows ((i : Int) + 1) (rows.drop i)).length = rows.length + 1 := by rw [e3, rput_len _ _ _ (by omega)]; simp; omega
  have l2 : (rput (rput rows ((i : Int) + 1) (rows.drop i)) (i : Int) [r]).length = rows.length + 1 := by rw [rput_len _ _ _ (by omega), l1]; simp; omega
  refine ⟨⟨by omega, by omega, by omega⟩, ⟨by omega, by omega, by omega⟩, ho, ifB_intro (fun _ => ⟨⟨by omega, by omega, by omega⟩, ⟨by omega, by omega, by omega⟩, ⟨by omega, by omega⟩, ⟨by omega, by omega, by omega⟩, ⟨by rw [l1]; omega, by omega⟩, by rw [l2]; omega, ?_⟩) (fun hb => by simp at hb)⟩
  rw [e4, rsub0, List.take_of_length_le (by rw [l2]; exact Nat.le_refl _)]
  have d0 : rows.drop (i + 1 + (rows.drop i).length) = [] := List.drop_eq_nil_of_le (by simp; omega)
  simp only [rput, e3, Int.toNat_natCast, d0, List.append_nil]
  rw [List.take_append_of_le_length (by simp; omega), List.take_take, Nat.min_eq_left (by omega), List.drop_append_of_le_length (by simp; omega), List.drop_of_length_le (by simp; omega)]
  simp

end Go.Proofs.YtknnooannohflaaGreatDoor.Ins

/- Lists that are sorted by names: insertion, removal, search. -/
import Derived.Test.YtohmeljljamigaaNam
namespace Go.Px
set_option linter.unusedVariables false

/-- A name stands ahead of another one. -/
def nlt (a b : ByteArray) : Prop := a.data.toList < b.data.toList
instance (a b : ByteArray) : Decidable (nlt a b) := inferInstanceAs (Decidable (_ < _))

theorem bless_eq : ∀ x y : List UInt8, Op.bytesLess x y = decide (x < y)
  | _, [] => by cases ‹List UInt8› <;> simp [Op.bytesLess]
  | [], b :: y => by simp [Op.bytesLess]
  | a :: x, b :: y => by
    simp only [Op.bytesLess, bless_eq x y]
    rw [Bool.eq_iff_iff]
    simp only [Bool.or_eq_true, Bool.and_eq_true, decide_eq_true_eq, beq_iff_eq, List.cons_lt_cons_iff]

theorem slt_d (a b : ByteArray) : slt a b = decide (nlt a b) := by
  unfold slt nlt; rw [ByteArray.toList_eq, ByteArray.toList_eq, bless_eq]; rfl
theorem nlt_irr (a : ByteArray) : ¬ nlt a a := List.lt_irrefl _
theorem nlt_trans {a b c : ByteArray} (h : nlt a b) (k : nlt b c) : nlt a c := List.lt_trans h k
theorem nlt_tri {a b : ByteArray} (h : ¬ nlt a b) (k : ¬ nlt b a) : a = b := by
  have : a.data.toList = b.data.toList := List.le_antisymm (List.not_lt.1 k) (List.not_lt.1 h)
  exact (toList_iff a b).1 (by rw [ByteArray.toList_eq, ByteArray.toList_eq]; exact this)
theorem nlt_ne {a b : ByteArray} (h : nlt a b) : a ≠ b := fun e => nlt_irr a (by rw [← e] at h; exact h)
theorem nlt_asymm {a b : ByteArray} (h : nlt a b) : ¬ nlt b a := fun k => nlt_irr _ (nlt_trans h k)
theorem nle_iff {a b : ByteArray} : ¬ nlt b a ↔ nlt a b ∨ a = b :=
  ⟨fun h => by by_cases k : nlt a b; exact .inl k; exact .inr (nlt_tri k h), fun h => by rcases h with h | h; exact nlt_asymm h; rw [h]; exact nlt_irr _⟩
theorem sge_d (a b : ByteArray) : sge a b = decide (¬ nlt a b) := by
  unfold sge; rw [show Op.bytesLess a.toList b.toList = slt a b from rfl, slt_d]; simp
theorem sle_d (a b : ByteArray) : sle a b = decide (¬ nlt b a) := by
  unfold sle; rw [show Op.bytesLess a.toList b.toList = slt a b from rfl, slt_d, show (a.toList == b.toList) = seq a b from rfl, seq_d, Bool.eq_iff_iff]
  simp only [Bool.or_eq_true, decide_eq_true_eq]; exact nle_iff.symm
theorem sgt_d (a b : ByteArray) : sgt a b = decide (nlt b a) := by
  unfold sgt
  rw [show (Op.bytesLess a.toList b.toList || a.toList == b.toList) = sle a b from rfl, sle_d]; simp

section
variable {α : Type} (nm : α → ByteArray)

def srt (l : List α) : Prop := l.Pairwise fun a b => nlt (nm a) (nm b)
instance (l : List α) : Decidable (srt nm l) := inferInstanceAs (Decidable (List.Pairwise _ l))
def wout (l : List α) (s : ByteArray) : List α := l.filter fun f => decide (nm f ≠ s)
def ahd (l : List α) (s : ByteArray) : List α := l.takeWhile fun g => decide (nlt (nm g) s)
def bhd (l : List α) (s : ByteArray) : List α := l.dropWhile fun g => decide (nlt (nm g) s)
def insB (l : List α) (f : α) : List α := ahd nm l (nm f) ++ f :: bhd nm l (nm f)
def withB (l : List α) (f : α) : List α := insB nm (wout nm l (nm f)) f
def fnd (l : List α) (s : ByteArray) : Option Nat := l.findIdx? fun f => decide (nm f = s)
/-- A place, -1 where there is none. -/
def fAt (l : List α) (s : ByteArray) : Int := match fnd nm l s with | some i => (i : Int) | none => -1

variable {nm} {l : List α} {s : ByteArray} {f g : α}

theorem fnd_some {i : Nat} : fnd nm l s = some i ↔ ∃ h : i < l.length, nm l[i] = s ∧ ∀ j (hj : j < i), nm (l[j]'(by omega)) ≠ s := by
  unfold fnd
  rw [List.findIdx?_eq_some_iff_getElem]
  simp
theorem fnd_none : fnd nm l s = none ↔ ∀ f ∈ l, nm f ≠ s := by
  unfold fnd
  rw [List.findIdx?_eq_none_iff]; simp
theorem fAt_none : fAt nm l s = -1 ↔ ∀ f ∈ l, nm f ≠ s := by
  unfold fAt
  rw [← fnd_none]
  cases h : fnd nm l s with
  | none => simp
  | some i => simp
theorem fAt_cases : fAt nm l s = -1 ∨ ∃ i : Nat, ∃ h : i < l.length, fAt nm l s = i ∧ nm l[i] = s ∧ ∀ j (hj : j < i), nm (l[j]'(by omega)) ≠ s := by
  unfold fAt
  cases h : fnd nm l s with
  | none => exact .inl rfl
  | some i => obtain ⟨h1, h2, h3⟩ := fnd_some.1 h; exact .inr ⟨i, h1, rfl, h2, h3⟩

theorem srt_get (h : srt nm l) {i j : Nat} (hi : i < j) (hj : j < l.length) : nlt (nm (l[i]'(by omega))) (nm l[j]) :=
  List.pairwise_iff_getElem.1 h i j (by omega) hj hi
/-- Neighbours stand in order: all do. -/
theorem srt_adj (h : ∀ i (hi : i + 1 < l.length), nlt (nm (l[i]'(by omega))) (nm l[i + 1])) : srt nm l := by
  unfold srt
  rw [List.pairwise_iff_getElem]
  intro i j hi hj hij
  obtain ⟨d, rfl⟩ : ∃ d, j = i + 1 + d := ⟨j - i - 1, by omega⟩
  clear hij
  induction d with
  | zero => exact h i hj
  | succ d ih => exact nlt_trans (ih (by omega)) (h (i + 1 + d) hj)

theorem mem_wout : f ∈ wout nm l s ↔ f ∈ l ∧ nm f ≠ s := by simp [wout]
theorem wout_none (h : ∀ f ∈ l, nm f ≠ s) : wout nm l s = l := by
  unfold wout; rw [List.filter_eq_self]; intro a ha; simp [h a ha]

theorem ahd_bhd (l : List α) (s : ByteArray) : ahd nm l s ++ bhd nm l s = l := List.takeWhile_append_dropWhile
theorem mem_ahd : ∀ {l : List α}, f ∈ ahd nm l s → nlt (nm f) s
  | [], h => by simp [ahd] at h
  | a :: l, h => by
    unfold ahd at h
    rw [List.takeWhile_cons] at h
    split at h
    · rename_i ha
      rcases List.mem_cons.1 h with e | h
      · rw [e]; simpa using ha
      · exact mem_ahd (l := l) h
    · simp at h
theorem bhd_head : ∀ {l : List α} {x : α} {r : List α}, bhd nm l s = x :: r → ¬ nlt (nm x) s
  | [], _, _, h => by simp [bhd] at h
  | a :: l, x, r, h => by
    unfold bhd at h
    rw [List.dropWhile_cons] at h
    split at h
    · exact bhd_head (l := l) h
    · rename_i hn; cases h; simpa using hn
theorem mem_bhd (h : srt nm l) (hf : f ∈ bhd nm l s) : ¬ nlt (nm f) s := by
  have hs : srt nm (bhd nm l s) := List.Pairwise.sublist (List.dropWhile_sublist _) h
  cases hb : bhd nm l s with
  | nil => rw [hb] at hf; simp at hf
  | cons x r =>
    have hx := bhd_head hb
    rw [hb] at hf hs
    rcases List.mem_cons.1 hf with e | hr
    · rw [e]; exact hx
    · intro k
      exact hx (nlt_trans ((List.pairwise_cons.1 hs).1 f hr) k)

theorem mem_insB : g ∈ insB nm l f ↔ g = f ∨ g ∈ l := by
  unfold insB
  constructor
  · intro h
    rcases List.mem_append.1 h with h | h
    · exact .inr (by rw [← ahd_bhd (nm := nm) l (nm f)]; exact List.mem_append.2 (.inl h))
    · rcases List.mem_cons.1 h with h | h
      · exact .inl h
      · exact .inr (by rw [← ahd_bhd (nm := nm) l (nm f)]; exact List.mem_append.2 (.inr h))
  · rintro (rfl | h)
    · simp
    · rw [← ahd_bhd (nm := nm) l (nm f)] at h
      rcases List.mem_append.1 h with h | h
      · exact List.mem_append.2 (.inl h)
      · exact List.mem_append.2 (.inr (List.mem_cons_of_mem _ h))
theorem mem_withB : g ∈ withB nm l f ↔ g = f ∨ (g ∈ l ∧ nm g ≠ nm f) := by
  unfold withB; rw [mem_insB, mem_wout]
theorem len_insB : (insB nm l f).length = l.length + 1 := by
  have := congrArg List.length (ahd_bhd (nm := nm) l (nm f))
  simp only [List.length_append] at this
  simp [insB]; omega

theorem ahd_none {l : List α} (h : ∀ g ∈ l, ¬ nlt (nm g) s) : ahd nm l s = [] := by
  cases l with
  | nil => rfl
  | cons a l => unfold ahd; rw [List.takeWhile_cons_of_neg (by simpa using h a (by simp))]
theorem ahd_app {a b : List α} (h1 : ∀ g ∈ a, nlt (nm g) s) (h2 : ∀ g ∈ b, ¬ nlt (nm g) s) : ahd nm (a ++ b) s = a := by
  unfold ahd
  rw [List.takeWhile_append_of_pos (fun g hg => by simpa using h1 g hg)]
  rw [show List.takeWhile _ b = ahd nm b s from rfl, ahd_none h2, List.append_nil]
theorem bhd_app {a b : List α} (h1 : ∀ g ∈ a, nlt (nm g) s) (h2 : ∀ g ∈ b, ¬ nlt (nm g) s) : bhd nm (a ++ b) s = b := by
  have e := ahd_bhd (nm := nm) (a ++ b) s
  rw [ahd_app h1 h2] at e
  exact List.append_cancel_left e

/-- A row is laid in between. -/
theorem insB_app {a b : List α} (h1 : ∀ g ∈ a, nlt (nm g) (nm f)) (h2 : ∀ g ∈ b, ¬ nlt (nm g) (nm f)) : insB nm (a ++ b) f = a ++ f :: b := by
  unfold insB; rw [ahd_app h1 h2, bhd_app h1 h2]

theorem split_at {i : Nat} (hi : i < l.length) : l = l.take i ++ l[i] :: l.drop (i + 1) := by
  rw [List.getElem_cons_drop, List.take_append_drop]
theorem wout_split (h : srt nm l) {i : Nat} (hi : i < l.length) : wout nm l (nm l[i]) = l.take i ++ l.drop (i + 1) := by
  have e := split_at hi
  have hs := h
  rw [e] at hs
  obtain ⟨h1, h2, h3⟩ := List.pairwise_append.1 hs
  have h4 := (List.pairwise_cons.1 h2).1
  have main : ∀ (a b : List α) (x : α), (∀ y ∈ a, nlt (nm y) (nm x)) → (∀ y ∈ b, nlt (nm x) (nm y)) → wout nm (a ++ x :: b) (nm x) = a ++ b := by
    intro a b x h3 h4
    unfold wout
    rw [List.filter_append, List.filter_cons]
    simp only [ne_eq, not_true, decide_false, Bool.false_eq_true, if_false]
    rw [List.filter_eq_self.2 (fun y hy => by have := h3 y hy; simp [nlt_ne this]), List.filter_eq_self.2 (fun y hy => by have := h4 y hy; simpa using fun e : nm y = nm x => nlt_ne this e.symm)]
  have := main (l.take i) (l.drop (i + 1)) l[i] (fun y hy => h3 y hy _ List.mem_cons_self) h4
  rw [← e] at this
  exact this
/-- A row in place of the one of its name. -/
theorem set_withB (h : srt nm l) {i : Nat} (hi : i < l.length) (e : nm f = nm l[i]) : l.set i f = withB nm l f := by
  unfold withB
  rw [e, wout_split h hi]
  have hs := h
  rw [split_at hi] at hs
  obtain ⟨h1, h2, h3⟩ := List.pairwise_append.1 hs
  have h4 := (List.pairwise_cons.1 h2).1
  rw [insB_app (fun g hg => by rw [e]; exact h3 g hg l[i] List.mem_cons_self) (fun g hg => by rw [e]; exact nlt_asymm (h4 g hg))]
  rw [List.set_eq_take_append_cons_drop]
  simp [hi]
theorem len_withB_old (h : srt nm l) {i : Nat} (hi : i < l.length) (e : nm f = nm l[i]) : (withB nm l f).length = l.length := by
  rw [← set_withB h hi e]; simp
theorem withB_new (h : ∀ g ∈ l, nm g ≠ nm f) : withB nm l f = insB nm l f := by
  unfold withB; rw [wout_none h]

/-- The place where a name belongs. -/
theorem ahd_iff (h : srt nm l) {i : Nat} (hi : i < l.length) : i < (ahd nm l s).length ↔ nlt (nm l[i]) s := by
  constructor
  · intro k
    have e := ahd_bhd (nm := nm) l s
    have : l[i] = (ahd nm l s)[i] := by
      have e2 : (ahd nm l s ++ bhd nm l s)[i]'(by rw [e]; exact hi) = l[i] := by simp only [e]
      rw [List.getElem_append_left k] at e2
      exact e2.symm
    rw [this]
    exact mem_ahd (List.getElem_mem k)
  · intro k
    refine Decidable.byContradiction fun hn => ?_
    have e := ahd_bhd (nm := nm) l s
    have e2 : (ahd nm l s ++ bhd nm l s)[i]'(by rw [e]; exact hi) = l[i] := by simp only [e]
    rw [List.getElem_append_right (by omega)] at e2
    exact mem_bhd h (List.getElem_mem _) (by rw [e2]; exact k)
theorem ahd_len : (ahd nm l s).length ≤ l.length := List.Sublist.length_le (List.takeWhile_sublist _)
theorem ahd_take : ahd nm l s = l.take (ahd nm l s).length := by
  have e := ahd_bhd (nm := nm) l s
  have e2 := congrArg (List.take (ahd nm l s).length) e
  rw [List.take_left] at e2
  exact e2
theorem bhd_drop : bhd nm l s = l.drop (ahd nm l s).length := by
  have e := ahd_bhd (nm := nm) l s
  have e2 := congrArg (List.drop (ahd nm l s).length) e
  rw [List.drop_left] at e2
  exact e2
theorem insB_at (l : List α) (f : α) : insB nm l f = l.take (ahd nm l (nm f)).length ++ f :: l.drop (ahd nm l (nm f)).length := by
  unfold insB; rw [← ahd_take, ← bhd_drop]
end
end Go.Px

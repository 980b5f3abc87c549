/- Names by their places: the plain law. -/
import Derived.Test.YtbocfphenkidnaaDoorLeb
namespace Go.Px
set_option linter.unusedVariables false

theorem toList_iff (a b : ByteArray) : a.toList = b.toList ↔ a = b := by
  rw [ByteArray.toList_eq, ByteArray.toList_eq]
  constructor
  · intro h
    cases a; cases b
    simp only [Array.toList_inj] at h
    rw [h]
  · rintro rfl; rfl
theorem seq_d (a b : ByteArray) : seq a b = decide (a = b) := by
  rw [seq_eq, Bool.eq_iff_iff]; simp [toList_iff]
theorem sne_d (a b : ByteArray) : sne a b = !decide (a = b) := by
  rw [sne_eq, ← seq_eq, seq_d]

abbrev nR (l : List ByteArray) : List (List SV) := l.map fun s => [S s]
abbrev bR (l : List Int) : List (List SV) := l.map fun n => [U8 n]

def nmAt (l : List ByteArray) (i : Int) : ByteArray := l.getD i.toNat ByteArray.empty

theorem rget_nR {l : List ByteArray} {i : Int} (h0 : 0 ≤ i) (h1 : i < l.length) : rget (nR l) i = [S (nmAt l i)] := by
  have : i.toNat < l.length := by omega
  simp [rget, nmAt, this]
theorem nmAt_some {l : List ByteArray} {i : Nat} (h1 : i < l.length) : l[i]? = some (nmAt l i) := by
  simp [nmAt, h1]
theorem nmAt_mem {l : List ByteArray} {i : Int} (h0 : 0 ≤ i) (h1 : i < l.length) : nmAt l i ∈ l := by
  have : i.toNat < l.length := by omega
  simp [nmAt, this]
theorem rlen_nR (l : List ByteArray) : rlen (nR l) = (l.length : Int) := by simp
theorem rlen_bR (l : List Int) : rlen (bR l) = (l.length : Int) := by simp

/-- The place of a name, from 1 on; 0: none. -/
def plc : List ByteArray → ByteArray → Nat
  | [], _ => 0
  | a :: l, s => if a = s then 1 else if plc l s = 0 then 0 else plc l s + 1

theorem plc_zero {l : List ByteArray} {s : ByteArray} : plc l s = 0 ↔ s ∉ l := by
  induction l with
  | nil => simp [plc]
  | cons a l ih =>
    simp only [plc, List.mem_cons, not_or]
    by_cases h : a = s
    · simp [h]
    · have : ¬ s = a := fun e => h e.symm
      simp only [h, if_false, this, not_false_eq_true, true_and]
      rw [← ih]
      split <;> simp_all

theorem plc_le {l : List ByteArray} {s : ByteArray} : plc l s ≤ l.length := by
  induction l with
  | nil => simp [plc]
  | cons a l ih => simp only [plc]; split <;> (try split) <;> simp <;> omega

theorem plc_at : ∀ {l : List ByteArray} {s : ByteArray} {i : Nat}, plc l s = i + 1 → l[i]? = some s := by
  intro l
  induction l with
  | nil => intro s i h; simp [plc] at h
  | cons a l ih =>
    intro s i h
    simp only [plc] at h
    split at h
    · rename_i ha
      obtain rfl : i = 0 := by omega
      simp only [List.getElem?_cons_zero, ha]
    · split at h
      · omega
      · obtain ⟨j, rfl⟩ : ∃ j, i = j + 1 := ⟨i - 1, by omega⟩
        simpa using ih (i := j) (by omega)

theorem plc_hit : ∀ {l : List ByteArray} {s : ByteArray} {i : Nat}, l[i]? = some s → (∀ j, j < i → l[j]? ≠ some s) → plc l s = i + 1 := by
  intro l
  induction l with
  | nil => intro s i h; simp at h
  | cons a l ih =>
    intro s i h hj
    cases i with
    | zero => simp at h; simp [plc, h]
    | succ i =>
      have h0 : a ≠ s := by have := hj 0 (by omega); simpa using this
      have := ih (s := s) (i := i) (by simpa using h) (fun j hji => by have := hj (j + 1) (by omega); simpa using this)
      simp [plc, h0, this]

theorem plc_snoc (l : List ByteArray) (a s : ByteArray) : plc (l ++ [a]) s = if plc l s ≠ 0 then plc l s else if a = s then l.length + 1 else 0 := by
  induction l with
  | nil => simp [plc]
  | cons b l ih =>
    simp only [List.cons_append, plc, ih]
    by_cases h : b = s
    · simp [h]
    · simp only [h, if_false]
      by_cases h2 : plc l s = 0
      · by_cases h3 : a = s <;> simp [h2, h3]
      · simp [h2]

theorem plc_nodup {l : List ByteArray} (h : l.Nodup) {i : Nat} {s : ByteArray} (hi : l[i]? = some s) : plc l s = i + 1 := by
  refine plc_hit hi (fun j hj e => ?_)
  have hl : i < l.length := (List.getElem?_eq_some_iff.1 hi).1
  have := (List.getElem?_inj (i := j) (j := i) (by omega) h).1 (by rw [hi, e])
  omega

theorem nodup_of_plc : ∀ {l : List ByteArray}, (∀ i s, l[i]? = some s → plc l s = i + 1) → l.Nodup := by
  intro l h
  rw [List.Nodup, List.pairwise_iff_getElem]
  intro i j hi hj hij e
  have h1 := h i l[i] (List.getElem?_eq_getElem hi)
  have h2 := h j l[i] (by rw [e]; exact List.getElem?_eq_getElem hj)
  omega

/-- May they be names that were ahead? -/
def nmB (c : ByteArray) : Bool := decide (1 ≤ c.size ∧ c.size ≤ 24)
def rgtB (l : List ByteArray) : Bool := decide (l.length ≤ 32 ∧ (∀ s ∈ l, nmB s = true) ∧ l.Nodup)

theorem rgtB_iff {l : List ByteArray} : rgtB l = true ↔ l.length ≤ 32 ∧ (∀ s ∈ l, nmB s = true) ∧ l.Nodup := by simp [rgtB]

/-- What the places of names are as a table. -/
structure Plcs (l : List ByteArray) (es : List (ByteArray × Int)) : Prop where
  le : es.length ≤ l.length
  nd : es.length = l.length ↔ l.Nodup
  has : ∀ s, mhas es s = true ↔ s ∈ l
  get : ∀ s, mget es s = plc l s

theorem Plcs.nil : Plcs [] [] := ⟨by simp, by simp, by simp [mhas], by simp [mget, plc]⟩

theorem mset_new {es : List (ByteArray × Int)} {k : ByteArray} {n : Int} (h : mhas es k = false) : mset es k n = es ++ [(k, n)] := by
  unfold mset
  induction es with
  | nil => rfl
  | cons e es ih =>
    simp only [mhas, List.any_cons, Bool.or_eq_false_iff, decide_eq_false_iff_not] at h
    simp only [msetR, h.1, if_false, List.cons_append]
    rw [ih (by simpa [mhas] using h.2)]

theorem Plcs.old {l : List ByteArray} {es : List (ByteArray × Int)} (h : Plcs l es) {a : ByteArray} (ha : mhas es a = true) : Plcs (l ++ [a]) es := by
  have hm := (h.has a).1 ha
  refine ⟨by have := h.le; simp; omega, ?_, fun s => ?_, fun s => ?_⟩
  · have := h.le
    simp only [List.length_append, List.length_cons, List.length_nil]
    constructor
    · intro e; omega
    · intro hn
      rw [List.nodup_append] at hn
      exact absurd rfl (hn.2.2 a hm a (by simp))
  · rw [h.has s]; simp only [List.mem_append, List.mem_singleton]
    exact ⟨.inl, fun e => e.elim id (fun e => e ▸ hm)⟩
  · rw [h.get s, plc_snoc]
    by_cases hp : plc l s = 0
    · have : a ≠ s := fun e => (plc_zero.1 hp) (e ▸ hm)
      simp [hp, this]
    · simp [hp]

theorem Plcs.new {l : List ByteArray} {es : List (ByteArray × Int)} (h : Plcs l es) {a : ByteArray} (ha : mhas es a = false) {n : Int} (hn : n = l.length + 1) : Plcs (l ++ [a]) (mset es a n) := by
  have hm : a ∉ l := fun e => by rw [(h.has a).2 e] at ha; cases ha
  rw [mset_new ha]
  refine ⟨by have := h.le; simp; omega, ?_, fun s => ?_, fun s => ?_⟩
  · simp only [List.length_append, List.length_cons, List.length_nil, Nat.add_right_cancel_iff]
    rw [h.nd, List.nodup_append]
    simp only [List.nodup_cons, List.not_mem_nil, not_false_eq_true, List.nodup_nil, and_self, true_and, List.mem_cons, or_false]
    exact ⟨fun e => ⟨e, fun x hx b hb e2 => hm (by rw [← hb, ← e2]; exact hx)⟩, fun e => e.1⟩
  · have hs := h.has s
    simp only [mhas, List.any_append, List.any_cons, List.any_nil, Bool.or_false, Bool.or_eq_true, decide_eq_true_eq, List.mem_append, List.mem_singleton] at hs ⊢
    rw [hs]
    exact or_congr Iff.rfl ⟨fun e => e.symm, fun e => e.symm⟩
  · have hg := h.get s
    rw [plc_snoc]
    by_cases hp : plc l s = 0
    · have hns : mhas es s = false := by
        cases e : mhas es s with
        | false => rfl
        | true => exact absurd ((h.has s).1 e) (plc_zero.1 hp)
      have hf : es.find? (fun e => decide (e.1 = s)) = none := by
        rw [List.find?_eq_none]
        intro e he hd
        simp only [mhas, List.any_eq_false] at hns
        exact hns e he hd
      simp only [mget, List.find?_append, hf, Option.none_or, hp, ne_eq, not_true_eq_false, if_false]
      by_cases hs : a = s
      · subst hs; simp; omega
      · simp [hs]
    · simp only [hp, ne_eq, not_false_eq_true, if_true]
      rw [← hg]
      have hns : mhas es s = true := (h.has s).2 (by rw [plc_zero] at hp; exact Classical.not_not.1 hp)
      simp only [mhas, List.any_eq_true] at hns
      obtain ⟨x, hx, hd⟩ := hns
      simp only [mget, List.find?_append]
      cases hf : es.find? (fun e => decide (e.1 = s)) with
      | none => exact absurd hd (List.find?_eq_none.1 hf x hx)
      | some y => simp

theorem take_snoc {l : List ByteArray} {i : Nat} (h : i < l.length) : l.take (i + 1) = l.take i ++ [nmAt l i] := by
  rw [List.take_add_one, nmAt_some h]; rfl

end Go.Px

/- Layer 5: what the functions of package event, and of its reference, do with plain data. -/
import Derived.Test.YtknnooannohflaaGreatDoorPxK
import Derived.Test.YtknnooannohflaaGreatDoorProg
namespace Go.Proofs.YtknnooannohflaaGreatDoor
open Go Go.Px Go.Proofs
set_option maxRecDepth 100000
set_option linter.unusedVariables false

def SgT : FuncId → Sig := fun _ => {}
def SvT : TypeId → Sig := fun _ => {}
abbrev ev7 (s a k : Int) (c : ByteArray) (x y z : Int) : SV := .agg [I s, I a, I k, S c, I x, I y, I z]


def manyI (k : Int) : Int := if k < 1 ∨ 10 < k then 0 else if k = 2 then 3 else if k = 3 then 2 else 1
def roleI (k : Int) : Int := if k = 1 ∨ k = 2 then 0 else if k = 3 ∨ k = 4 then 1 else if k = 5 ∨ k = 6 ∨ k = 7 then 2 else if k = 8 ∨ k = 9 ∨ k = 10 then 3 else -1
def lo1 (k : Int) : Int := if k = 1 ∨ k = 8 ∨ k = 10 then 1 else 0
def hi1 (k : Int) : Int := if k = 1 then 3 else if k = 3 ∨ k = 4 then 2 else 2147483647
def hi2 (k : Int) : Int := if k = 2 ∨ k = 3 then 2147483647 else 0
def hi3 (k : Int) : Int := if k = 2 then 2147483647 else 0
def valB (k x y z : Int) : Bool := decide (lo1 k ≤ x ∧ x ≤ hi1 k ∧ 0 ≤ y ∧ y ≤ hi2 k ∧ 0 ≤ z ∧ z ≤ hi3 k)
def someB (n : Int) : Bool := decide (0 ≤ n ∧ n ≤ 2147483647)
def namB (c : ByteArray) : Bool := decide (1 ≤ c.size ∧ c.size ≤ 24)
def chkI (s a k : Int) (c : ByteArray) (x y z : Int) : Int :=
  if manyI k = 0 then 2 else if namB c = false then 3 else if valB k x y z = false then 4 else if a < 0 ∨ 1099511627776 < a then 5 else if s < 0 ∨ 4294967296 < s then 1 else 0

theorem mlt {a b : Nat} (h : a < b) : Nat.le (Nat.succ a) b := h
theorem bor_t {a b : Bool} : bpick a true b = true ↔ a = true ∨ b = true := by cases a <;> simp
theorem bor_f {a b : Bool} : bpick a true b = false ↔ a = false ∧ b = false := by cases a <;> simp
def numL (k x y z : Int) : List (List SV) := rsub [[I x], [I y], [I z]] 0 (manyI k)

/-- The number at place i. -/
def nAt (rows : List (List SV)) (i : Nat) : Int :=
  match rows[i]? with
  | some [.val (.int _ n)] => n
  | _ => 0

def Ints (rows : List (List SV)) : Prop := ∀ r ∈ rows, ∃ n : Int, r = [I n]

theorem Ints.get {rows : List (List SV)} (h : Ints rows) {i : Nat} (hi : i < rows.length) (j : Int) (hj : j = (i : Int)) : rget rows j = [I (nAt rows i)] := by
  obtain ⟨n, hn⟩ := h rows[i] (List.getElem_mem hi)
  subst hj
  have : rows[i]? = some [I n] := by rw [List.getElem?_eq_getElem hi, hn]
  simp [rget, nAt, this]

end Go.Proofs.YtknnooannohflaaGreatDoor

namespace Go.Px
set_option linter.unusedVariables false

def leb (n : Nat) : List Int := if n < 128 then [(n : Int)] else ((n % 128 + 128 : Nat) : Int) :: leb (n / 128)
termination_by n
decreasing_by omega

/-- The number that bytes are. -/
def ofB : List Int → Nat
  | [] => 0
  | x :: l => ofB l * 128 + (x % 128).toNat


theorem toList_iff (a b : ByteArray) : a.toList = b.toList ↔ a = b := by
  rw [ByteArray.toList_eq, ByteArray.toList_eq]
  constructor
  · intro h
    cases a; cases b
    simp only [Array.toList_inj] at h
    rw [h]
  · rintro rfl; rfl
theorem seq_d (a b : ByteArray) : seq a b = decide (a = b) := by
  rw [seq_eq, Bool.eq_iff_iff]; simp [toList_iff]
theorem sne_d (a b : ByteArray) : sne a b = !decide (a = b) := by
  rw [sne_eq, ← seq_eq, seq_d]

abbrev nR (l : List ByteArray) : List (List SV) := l.map fun s => [S s]
abbrev bR (l : List Int) : List (List SV) := l.map fun n => [U8 n]

def nmAt (l : List ByteArray) (i : Int) : ByteArray := l.getD i.toNat ByteArray.empty

/-- The place of a name, from 1 on; 0: none. -/
def plc : List ByteArray → ByteArray → Nat
  | [], _ => 0
  | a :: l, s => if a = s then 1 else if plc l s = 0 then 0 else plc l s + 1

theorem plc_zero {l : List ByteArray} {s : ByteArray} : plc l s = 0 ↔ s ∉ l := by
  induction l with
  | nil => simp [plc]
  | cons a l ih =>
    simp only [plc, List.mem_cons, not_or]
    by_cases h : a = s
    · simp [h]
    · have : ¬ s = a := fun e => h e.symm
      simp only [h, if_false, this, not_false_eq_true, true_and]
      rw [← ih]
      split <;> simp_all

theorem plc_snoc (l : List ByteArray) (a s : ByteArray) : plc (l ++ [a]) s = if plc l s ≠ 0 then plc l s else if a = s then l.length + 1 else 0 := by
  induction l with
  | nil => simp [plc]
  | cons b l ih =>
    simp only [List.cons_append, plc, ih]
    by_cases h : b = s
    · simp [h]
    · simp only [h, if_false]
      by_cases h2 : plc l s = 0
      · by_cases h3 : a = s <;> simp [h2, h3]
      · simp [h2]

/-- May they be names that were ahead? -/
def nmB (c : ByteArray) : Bool := decide (1 ≤ c.size ∧ c.size ≤ 24)
def rgtB (l : List ByteArray) : Bool := decide (l.length ≤ 32 ∧ (∀ s ∈ l, nmB s = true) ∧ l.Nodup)

/-- What the places of names are as a table. -/
structure Plcs (l : List ByteArray) (es : List (ByteArray × Int)) : Prop where
  le : es.length ≤ l.length
  nd : es.length = l.length ↔ l.Nodup
  has : ∀ s, mhas es s = true ↔ s ∈ l
  get : ∀ s, mget es s = plc l s

theorem Plcs.nil : Plcs [] [] := ⟨by simp, by simp, by simp [mhas], by simp [mget, plc]⟩

theorem mset_new {es : List (ByteArray × Int)} {k : ByteArray} {n : Int} (h : mhas es k = false) : mset es k n = es ++ [(k, n)] := by
  unfold mset
  induction es with
  | nil => rfl
  | cons e es ih =>
    simp only [mhas, List.any_cons, Bool.or_eq_false_iff, decide_eq_false_iff_not] at h
    simp only [msetR, h.1, if_false, List.cons_append]
    rw [ih (by simpa [mhas] using h.2)]

theorem Plcs.old {l : List ByteArray} {es : List (ByteArray × Int)} (h : Plcs l es) {a : ByteArray} (ha : mhas es a = true) : Plcs (l ++ [a]) es := by
  have hm := (h.has a).1 ha
  refine ⟨by have := h.le; simp; omega, ?_, fun s => ?_, fun s => ?_⟩
  · have := h.le
    simp only [List.length_append, List.length_cons, List.length_nil]
    constructor
    · intro e; omega
    · intro hn
      rw [List.nodup_append] at hn
      exact absurd rfl (hn.2.2 a hm a (by simp))
  · rw [h.has s]; simp only [List.mem_append, List.mem_singleton]
    exact ⟨.inl, fun e => e.elim id (fun e => e ▸ hm)⟩
  · rw [h.get s, plc_snoc]
    by_cases hp : plc l s = 0
    · have : a ≠ s := fun e => (plc_zero.1 hp) (e ▸ hm)
      simp [hp, this]
    · simp [hp]

theorem Plcs.new {l : List ByteArray} {es : List (ByteArray × Int)} (h : Plcs l es) {a : ByteArray} (ha : mhas es a = false) {n : Int} (hn : n = l.length + 1) : Plcs (l ++ [a]) (mset es a n) := by
  have hm : a ∉ l := fun e => by rw [(h.has a).2 e] at ha; cases ha
  rw [mset_new ha]
  refine ⟨by have := h.le; simp; omega, ?_, fun s => ?_, fun s => ?_⟩
  · simp only [List.length_append, List.length_cons, List.length_nil, Nat.add_right_cancel_iff]
    rw [h.nd, List.nodup_append]
    simp only [List.nodup_cons, List.not_mem_nil, not_false_eq_true, List.nodup_nil, and_self, true_and, List.mem_cons, or_false]
    exact ⟨fun e => ⟨e, fun x hx b hb e2 => hm (by rw [← hb, ← e2]; exact hx)⟩, fun e => e.1⟩
  · have hs := h.has s
    simp only [mhas, List.any_append, List.any_cons, List.any_nil, Bool.or_false, Bool.or_eq_true, decide_eq_true_eq, List.mem_append, List.mem_singleton] at hs ⊢
    rw [hs]
    exact or_congr Iff.rfl ⟨fun e => e.symm, fun e => e.symm⟩
  · have hg := h.get s
    rw [plc_snoc]
    by_cases hp : plc l s = 0
    · have hns : mhas es s = false := by
        cases e : mhas es s with
        | false => rfl
        | true => exact absurd ((h.has s).1 e) (plc_zero.1 hp)
      have hf : es.find? (fun e => decide (e.1 = s)) = none := by
        rw [List.find?_eq_none]
        intro e he hd
        simp only [mhas, List.any_eq_false] at hns
        exact hns e he hd
      simp only [mget, List.find?_append, hf, Option.none_or, hp, ne_eq, not_true_eq_false, if_false]
      by_cases hs : a = s
      · subst hs; simp; omega
      · simp [hs]
    · simp only [hp, ne_eq, not_false_eq_true, if_true]
      rw [← hg]
      have hns : mhas es s = true := (h.has s).2 (by rw [plc_zero] at hp; exact Classical.not_not.1 hp)
      simp only [mhas, List.any_eq_true] at hns
      obtain ⟨x, hx, hd⟩ := hns
      simp only [mget, List.find?_append]
      cases hf : es.find? (fun e => decide (e.1 = s)) with
      | none => exact absurd hd (List.find?_eq_none.1 hf x hx)
      | some y => simp

end Go.Px

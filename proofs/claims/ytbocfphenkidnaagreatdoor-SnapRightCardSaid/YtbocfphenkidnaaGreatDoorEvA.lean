/- Layer 5: what the functions of package event, and of its reference, do with plain data. -/
import Derived.Test.YtbocfphenkidnaaGreatDoorPxK
import Derived.Test.YtbocfphenkidnaaGreatDoorProg
namespace Go.Proofs.YtbocfphenkidnaaGreatDoor
open Go Go.Px Go.Proofs
set_option maxRecDepth 100000
set_option linter.unusedVariables false

def SgT : FuncId → Sig := fun _ => {}
def SvT : TypeId → Sig := fun _ => {}
abbrev ev7 (s a k : Int) (c : ByteArray) (x y z : Int) : SV := .agg [I s, I a, I k, S c, I x, I y, I z]

theorem named_nf (c : ByteArray) (Q : List SV → Prop) (h : Q [B (bpick (ige (slen c) 1) (ile (slen c) 24) false)]) : Ct Tryz.prog 169 {} [S c] Q :=
 fn_of (f := 169) SgT SvT (fun _ => none) Tryz.f169 Tryz.func169 (by kernel_rfl) (by kernel_rfl) h


def manyI (k : Int) : Int := if k < 1 ∨ 10 < k then 0 else if k = 2 then 3 else if k = 3 then 2 else 1
def roleI (k : Int) : Int := if k = 1 ∨ k = 2 then 0 else if k = 3 ∨ k = 4 then 1 else if k = 5 ∨ k = 6 ∨ k = 7 then 2 else if k = 8 ∨ k = 9 ∨ k = 10 then 3 else -1
def lo1 (k : Int) : Int := if k = 1 ∨ k = 8 ∨ k = 10 then 1 else 0
def hi1 (k : Int) : Int := if k = 1 then 3 else if k = 3 ∨ k = 4 then 2 else 2147483647
def hi2 (k : Int) : Int := if k = 2 ∨ k = 3 then 2147483647 else 0
def hi3 (k : Int) : Int := if k = 2 then 2147483647 else 0
def valB (k x y z : Int) : Bool := decide (lo1 k ≤ x ∧ x ≤ hi1 k ∧ 0 ≤ y ∧ y ≤ hi2 k ∧ 0 ≤ z ∧ z ≤ hi3 k)
def someB (n : Int) : Bool := decide (0 ≤ n ∧ n ≤ 2147483647)
def namB (c : ByteArray) : Bool := decide (1 ≤ c.size ∧ c.size ≤ 24)
def chkI (s a k : Int) (c : ByteArray) (x y z : Int) : Int :=
 if manyI k = 0 then 2 else if namB c = false then 3 else if valB k x y z = false then 4 else if a < 0 ∨ 1099511627776 < a then 5 else if s < 0 ∨ 4294967296 < s then 1 else 0

theorem mlt {a b : Nat} (h : a < b) : Nat.le (Nat.succ a) b := h
theorem bor_t {a b : Bool} : bpick a true b = true ↔ a = true ∨ b = true := by cases a <;> simp
theorem bor_f {a b : Bool} : bpick a true b = false ↔ a = false ∧ b = false := by cases a <;> simp
theorem named_fn (c : ByteArray) : Ct Tryz.prog 169 {} [S c] (fun r => r = [B (namB c)]) := by
 refine named_nf _ _ ?_
 have : (bpick (ige (slen c) 1) (ile (slen c) 24) false) = namB c := by
  rw [Bool.eq_iff_iff]; simp [namB]; omega
 rw [this]

theorem many0 (k : Int) : manyI k = 0 ↔ k < 1 ∨ 10 < k := by
 unfold manyI; repeat' split
 all_goals simp_all

def numL (k x y z : Int) : List (List SV) := rsub [[I x], [I y], [I z]] 0 (manyI k)

theorem many_cases (k : Int) : manyI k = 0 ∨ manyI k = 1 ∨ manyI k = 2 ∨ manyI k = 3 := by
 unfold manyI; repeat' split
 all_goals simp_all

def nAt (rows : List (List SV)) (i : Nat) : Int :=
 match rows[i]? with
 | some [.val (.int _ n)] => n
 | _ => 0

def Ints (rows : List (List SV)) : Prop := ∀ r ∈ rows, ∃ n : Int, r = [I n]

theorem Ints.get {rows : List (List SV)} (h : Ints rows) {i : Nat} (hi : i < rows.length) (j : Int) (hj : j = (i : Int)) : rget rows j = [I (nAt rows i)] := by
 obtain ⟨n, hn⟩ := h rows[i] (List.getElem_mem hi)
 subst hj
 have : rows[i]? = some [I n] := by rw [List.getElem?_eq_getElem hi, hn]
 simp [rget, nAt, this]

theorem many1 {k : Int} (h : manyI k = 1) : hi2 k = 0 ∧ hi3 k = 0 := by
 have h2 : k ≠ 2 := fun e => by subst e; simp [manyI] at h
 have h3 : k ≠ 3 := fun e => by subst e; simp [manyI] at h
 simp [hi2, hi3, h2, h3]

theorem many2 {k : Int} (h : manyI k = 2) : hi3 k = 0 := by
 have h2 : k ≠ 2 := fun e => by subst e; simp [manyI] at h
 simp [hi3, h2]

theorem chk0 {s a k : Int} {c : ByteArray} {x y z : Int} (h : chkI s a k c x y z = 0) : manyI k ≠ 0 ∧ namB c = true ∧ valB k x y z = true ∧ ¬ (a < 0 ∨ 1099511627776 < a) ∧ ¬ (s < 0 ∨ 4294967296 < s) := by
 unfold chkI at h
 split at h
 ·simp at h
 split at h
 ·simp at h
 split at h
 ·simp at h
 split at h
 ·simp at h
 split at h
 ·simp at h
 simp_all

end Go.Proofs.YtbocfphenkidnaaGreatDoor

namespace Go.Px
set_option linter.unusedVariables false

def leb (n : Nat) : List Int := if n < 128 then [(n : Int)] else ((n % 128 + 128 : Nat) : Int) :: leb (n / 128)
termination_by n
decreasing_by omega

theorem leb_lt {n : Nat} (h : n < 128) : leb n = [(n : Int)] := by rw [leb, if_pos h]
theorem leb_ge {n : Nat} (h : 128 ≤ n) : leb n = ((n % 128 + 128 : Nat) : Int) :: leb (n / 128) := by rw [leb, if_neg (by omega)]

theorem leb_pos (n : Nat) : 1 ≤ (leb n).length := by
 by_cases h : n < 128
 ·simp [leb_lt h]
 ·simp [leb_ge (Nat.le_of_not_lt h)]

theorem leb_inj : ∀ (n m : Nat) (r r' : List Int), leb n ++ r = leb m ++ r' → n = m ∧ r = r' := by
 intro n
 induction n using Nat.strongRecOn with
 | _ n ih =>
  intro m r r' e
  by_cases hn : n < 128 <;> by_cases hm : m < 128
  ·simp only [leb_lt hn, leb_lt hm, List.cons_append, List.nil_append, List.cons.injEq] at e
   exact ⟨by omega, e.2⟩
  ·simp only [leb_lt hn, leb_ge (Nat.le_of_not_lt hm), List.cons_append, List.nil_append, List.cons.injEq] at e
   omega
  ·simp only [leb_lt hm, leb_ge (Nat.le_of_not_lt hn), List.cons_append, List.nil_append, List.cons.injEq] at e
   omega
  ·simp only [leb_ge (Nat.le_of_not_lt hm), leb_ge (Nat.le_of_not_lt hn), List.cons_append, List.cons.injEq] at e
   obtain ⟨h1, h2⟩ := ih (n / 128) (by omega) _ _ _ e.2
   exact ⟨by omega, h2⟩

theorem leb_byte : ∀ (n : Nat) (x : Int), x ∈ leb n → 0 ≤ x ∧ x ≤ 255 := by
 intro n
 induction n using Nat.strongRecOn with
 | _ n ih =>
  intro x hx
  by_cases hn : n < 128
  ·simp [leb_lt hn] at hx; omega
  ·rw [leb_ge (Nat.le_of_not_lt hn)] at hx
   rcases List.mem_cons.1 hx with rfl | hx
   ·omega
   ·exact ih _ (by omega) _ hx

theorem leb_len : ∀ (k n : Nat), n < 128 ^ (k + 1) → (leb n).length ≤ k + 1
 | 0, n, h => by rw [leb_lt (by simpa using h)]; simp
 | k + 1, n, h => by
  by_cases hn : n < 128
  ·simp [leb_lt hn]
  ·rw [leb_ge (Nat.le_of_not_lt hn)]
   have h : n < 128 * 128 ^ (k + 1) := by rw [Nat.pow_succ] at h; omega
   have := leb_len k (n / 128) (Nat.div_lt_of_lt_mul h)
   simp; omega

def ofB : List Int → Nat
 | [] => 0
 | x :: l => ofB l * 128 + (x % 128).toNat

theorem ofB_leb : ∀ n : Nat, ofB (leb n) = n := by
 intro n
 induction n using Nat.strongRecOn with
 | _ n ih =>
  by_cases hn : n < 128
  ·simp [leb_lt hn, ofB]; omega
  ·rw [leb_ge (Nat.le_of_not_lt hn), ofB, ih _ (by omega)]
   omega

theorem leb_shape : ∀ n : Nat, ∃ l x, leb n = l ++ [x] ∧ 0 ≤ x ∧ x < 128 ∧ (∀ y ∈ l, 128 ≤ y ∧ y ≤ 255) ∧ (l ≠ [] → x ≠ 0) := by
 intro n
 induction n using Nat.strongRecOn with
 | _ n ih =>
  by_cases hn : n < 128
  ·exact ⟨[], n, by simp [leb_lt hn], by omega, by omega, by simp, by simp⟩
  ·obtain ⟨l, x, e, h0, h1, h2, h3⟩ := ih (n / 128) (by omega)
   refine ⟨((n % 128 + 128 : Nat) : Int) :: l, x, by rw [leb_ge (Nat.le_of_not_lt hn), e]; rfl, h0, h1, ?_, fun _ hx => ?_⟩
   ·intro y hy
    rcases List.mem_cons.1 hy with rfl | hy
    ·omega
    ·exact h2 y hy
   ·cases l with
    | nil =>
     have := ofB_leb (n / 128)
     rw [e] at this
     simp [ofB, hx] at this
     omega
    | cons y l => exact h3 (by simp) hx


theorem toList_iff (a b : ByteArray) : a.toList = b.toList ↔ a = b := by
 rw [ByteArray.toList_eq, ByteArray.toList_eq]
 constructor
 ·intro h
  cases a; cases b
  simp only [Array.toList_inj] at h
  rw [h]
 ·rintro rfl; rfl
theorem seq_d (a b : ByteArray) : seq a b = decide (a = b) := by
 rw [seq_eq, Bool.eq_iff_iff]; simp [toList_iff]
theorem sne_d (a b : ByteArray) : sne a b = !decide (a = b) := by
 rw [sne_eq, ← seq_eq, seq_d]

abbrev nR (l : List ByteArray) : List (List SV) := l.map fun s => [S s]
abbrev bR (l : List Int) : List (List SV) := l.map fun n => [U8 n]

def nmAt (l : List ByteArray) (i : Int) : ByteArray := l.getD i.toNat ByteArray.empty

theorem rget_nR {l : List ByteArray} {i : Int} (h0 : 0 ≤ i) (h1 : i < l.length) : rget (nR l) i = [S (nmAt l i)] := by
 have : i.toNat < l.length := by omega
 simp [rget, nmAt, this]
theorem nmAt_some {l : List ByteArray} {i : Nat} (h1 : i < l.length) : l[i]? = some (nmAt l i) := by
 simp [nmAt, h1]
theorem nmAt_mem {l : List ByteArray} {i : Int} (h0 : 0 ≤ i) (h1 : i < l.length) : nmAt l i ∈ l := by
 have : i.toNat < l.length := by omega
 simp [nmAt, this]
theorem rlen_bR (l : List Int) : rlen (bR l) = (l.length : Int) := by simp

def plc : List ByteArray → ByteArray → Nat
 | [], _ => 0
 | a :: l, s => if a = s then 1 else if plc l s = 0 then 0 else plc l s + 1

theorem plc_zero {l : List ByteArray} {s : ByteArray} : plc l s = 0 ↔ s ∉ l := by
 induction l with
 | nil => simp [plc]
 | cons a l ih =>
  simp only [plc, List.mem_cons, not_or]
  by_cases h : a = s
  ·simp [h]
  ·have : ¬ s = a := fun e => h e.symm
   simp only [h, if_false, this, not_false_eq_true, true_and]
   rw [← ih]
   split <;> simp_all

theorem plc_le {l : List ByteArray} {s : ByteArray} : plc l s ≤ l.length := by
 induction l with
 | nil => simp [plc]
 | cons a l ih => simp only [plc]; split <;> (try split) <;> simp <;> omega

theorem plc_at : ∀ {l : List ByteArray} {s : ByteArray} {i : Nat}, plc l s = i + 1 → l[i]? = some s := by
 intro l
 induction l with
 | nil => intro s i h; simp [plc] at h
 | cons a l ih =>
  intro s i h
  simp only [plc] at h
  split at h
  ·rename_i ha
   obtain rfl : i = 0 := by omega
   simp only [List.getElem?_cons_zero, ha]
  ·split at h
   ·omega
   ·obtain ⟨j, rfl⟩ : ∃ j, i = j + 1 := ⟨i - 1, by omega⟩
    simpa using ih (i := j) (by omega)

theorem plc_hit : ∀ {l : List ByteArray} {s : ByteArray} {i : Nat}, l[i]? = some s → (∀ j, j < i → l[j]? ≠ some s) → plc l s = i + 1 := by
 intro l
 induction l with
 | nil => intro s i h; simp at h
 | cons a l ih =>
  intro s i h hj
  cases i with
  | zero => simp at h; simp [plc, h]
  | succ i =>
   have h0 : a ≠ s := by have := hj 0 (by omega); simpa using this
   have := ih (s := s) (i := i) (by simpa using h) (fun j hji => by have := hj (j + 1) (by omega); simpa using this)
   simp [plc, h0, this]

theorem plc_snoc (l : List ByteArray) (a s : ByteArray) : plc (l ++ [a]) s = if plc l s ≠ 0 then plc l s else if a = s then l.length + 1 else 0 := by
 induction l with
 | nil => simp [plc]
 | cons b l ih =>
  simp only [List.cons_append, plc, ih]
  by_cases h : b = s
  ·simp [h]
  ·simp only [h, if_false]
   by_cases h2 : plc l s = 0
   ·by_cases h3 : a = s <;> simp [h2, h3]
   ·simp [h2]

theorem plc_nodup {l : List ByteArray} (h : l.Nodup) {i : Nat} {s : ByteArray} (hi : l[i]? = some s) : plc l s = i + 1 := by
 refine plc_hit hi (fun j hj e => ?_)
 have hl : i < l.length := (List.getElem?_eq_some_iff.1 hi).1
 have := (List.getElem?_inj (i := j) (j := i) (by omega) h).1 (by rw [hi, e])
 omega

theorem nodup_of_plc : ∀ {l : List ByteArray}, (∀ i s, l[i]? = some s → plc l s = i + 1) → l.Nodup := by
 intro l h
 rw [List.Nodup, List.pairwise_iff_getElem]
 intro i j hi hj hij e
 have h1 := h i l[i] (List.getElem?_eq_getElem hi)
 have h2 := h j l[i] (by rw [e]; exact List.getElem?_eq_getElem hj)
 omega

def nmB (c : ByteArray) : Bool := decide (1 ≤ c.size ∧ c.size ≤ 24)
def rgtB (l : List ByteArray) : Bool := decide (l.length ≤ 32 ∧ (∀ s ∈ l, nmB s = true) ∧ l.Nodup)

theorem rgtB_iff {l : List ByteArray} : rgtB l = true ↔ l.length ≤ 32 ∧ (∀ s ∈ l, nmB s = true) ∧ l.Nodup := by simp [rgtB]

structure Plcs (l : List ByteArray) (es : List (ByteArray × Int)) : Prop where
 le : es.length ≤ l.length
 nd : es.length = l.length ↔ l.Nodup
 has : ∀ s, mhas es s = true ↔ s ∈ l
 get : ∀ s, mget es s = plc l s

theorem Plcs.nil : Plcs [] [] := ⟨by simp, by simp, by simp [mhas], by simp [mget, plc]⟩

theorem mset_new {es : List (ByteArray × Int)} {k : ByteArray} {n : Int} (h : mhas es k = false) : mset es k n = es ++ [(k, n)] := by
 unfold mset
 induction es with
 | nil => rfl
 | cons e es ih =>
  simp only [mhas, List.any_cons, Bool.or_eq_false_iff, decide_eq_false_iff_not] at h
  simp only [msetR, h.1, if_false, List.cons_append]
  rw [ih (by simpa [mhas] using h.2)]

theorem Plcs.old {l : List ByteArray} {es : List (ByteArray × Int)} (h : Plcs l es) {a : ByteArray} (ha : mhas es a = true) : Plcs (l ++ [a]) es := by
 have hm := (h.has a).1 ha
 refine ⟨by have := h.le; simp; omega, ?_, fun s => ?_, fun s => ?_⟩
 ·have := h.le
  simp only [List.length_append, List.length_cons, List.length_nil]
  constructor
  ·intro e; omega
  ·intro hn
   rw [List.nodup_append] at hn
   exact absurd rfl (hn.2.2 a hm a (by simp))
 ·rw [h.has s]; simp only [List.mem_append, List.mem_singleton]
  exact ⟨.inl, fun e => e.elim id (fun e => e ▸ hm)⟩
 ·rw [h.get s, plc_snoc]
  by_cases hp : plc l s = 0
  ·have : a ≠ s := fun e => (plc_zero.1 hp) (e ▸ hm)
   simp [hp, this]
  ·simp [hp]

theorem Plcs.new {l : List ByteArray} {es : List (ByteArray × Int)} (h : Plcs l es) {a : ByteArray} (ha : mhas es a = false) {n : Int} (hn : n = l.length + 1) : Plcs (l ++ [a]) (mset es a n) := by
 have hm : a ∉ l := fun e => by rw [(h.has a).2 e] at ha; cases ha
 rw [mset_new ha]
 refine ⟨by have := h.le; simp; omega, ?_, fun s => ?_, fun s => ?_⟩
 ·simp only [List.length_append, List.length_cons, List.length_nil, Nat.add_right_cancel_iff]
  rw [h.nd, List.nodup_append]
  simp only [List.nodup_cons, List.not_mem_nil, not_false_eq_true, List.nodup_nil, and_self, true_and, List.mem_cons, or_false]
  exact ⟨fun e => ⟨e, fun x hx b hb e2 => hm (by rw [← hb, ← e2]; exact hx)⟩, fun e => e.1⟩
 ·have hs := h.has s
  simp only [mhas, List.any_append, List.any_cons, List.any_nil, Bool.or_false, Bool.or_eq_true, decide_eq_true_eq, List.mem_append, List.mem_singleton] at hs ⊢
  rw [hs]
  exact or_congr Iff.rfl ⟨fun e => e.symm, fun e => e.symm⟩
 ·have hg := h.get s
  rw [plc_snoc]
  by_cases hp : plc l s = 0
  ·have hns : mhas es s = false := by
    cases e : mhas es s with
    | false => rfl
    | true => exact absurd ((h.has s).1 e) (plc_zero.1 hp)
   have hf : es.find? (fun e => decide (e.1 = s)) = none := by
    rw [List.find?_eq_none]
    intro e he hd
    simp only [mhas, List.any_eq_false] at hns
    exact hns e he hd
   simp only [mget, List.find?_append, hf, Option.none_or, hp, ne_eq, not_true_eq_false, if_false]
   by_cases hs : a = s
   ·subst hs; simp; omega
   ·simp [hs]
  ·simp only [hp, ne_eq, not_false_eq_true, if_true]
   rw [← hg]
   have hns : mhas es s = true := (h.has s).2 (by rw [plc_zero] at hp; exact Classical.not_not.1 hp)
   simp only [mhas, List.any_eq_true] at hns
   obtain ⟨x, hx, hd⟩ := hns
   simp only [mget, List.find?_append]
   cases hf : es.find? (fun e => decide (e.1 = s)) with
   | none => exact absurd hd (List.find?_eq_none.1 hf x hx)
   | some y => simp

end Go.Px

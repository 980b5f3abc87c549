/- Layer 26: a sample that may stand behind others, by the document; families that are right, sample by sample. -/
import Derived.Test.YtknnooannohflaaGreatDoorMzA
namespace Go.Proofs.YtknnooannohflaaGreatDoor.Met
open Go Go.Px Go.Proofs Cmp Go.Proofs.YtknnooannohflaaGreatDoor.St
set_option maxRecDepth 100000
set_option linter.unusedVariables false

def fitB (n : ByteArray) (l : List SmD) (x : SmD) (k : Nat) : Prop :=
 x.nm = n ++ bucN ∧ (∃ base, x.ls = base ++ [(leN, bnd k)]) ∧ (if k = 0 then lesN x.ls = 1 ∧ 0 ≤ x.v else
  (gat l (l.length - 1)).ls.length = x.ls.length ∧ x.ls.take (x.ls.length - 1) = (gat l (l.length - 1)).ls.take (x.ls.length - 1) ∧ (gat l (l.length - 1)).v ≤ x.v)
def fitT (n : ByteArray) (y x : SmD) (k : Nat) : Prop :=
 x.ls = y.ls.take (y.ls.length - 1) ∧ (if k = 9 then x.nm = n ++ sumN else x.nm = n ++ couN ∧ x.v = y.v)
def fitG (n : ByteArray) (l : List SmD) (x : SmD) : Prop :=
 if l.length % 11 < 9 then fitB n l x (l.length % 11) else fitT n (gat l (l.length - 1 - (l.length % 11 - 9))) x (l.length % 11)
def fitP (f : FaD) (x : SmD) : Prop := labP x.ls ∧ f.ss.length < 400 ∧ (if f.ty = 3 then fitG f.nm f.ss x else x.nm = f.nm ∧ hasB x.ls leN = false)

def seesP (f : FaD) : Prop := f.ty = 3 → 9 ≤ f.ss.length % 11 → 0 < (gat f.ss (f.ss.length - 1 - (f.ss.length % 11 - 9))).ls.length

def upto (f : FaD) (j : Nat) : FaD := { f with ss := f.ss.take j }
def fitsUp (f : FaD) (j : Nat) : Prop := ∀ i : Nat, i < j → fitP (upto f i) (gat f.ss i)

theorem gat_take {l : List SmD} {i j : Nat} (h : i < j) : gat (l.take j) i = gat l i := by
 unfold gat
 rw [List.getD_eq_getElem?_getD, List.getD_eq_getElem?_getD, List.getElem?_take, if_pos h]

def rhead (f : FaD) : Prop := namP f.nm ∧ f.hp.size ≤ 200 ∧ (1 ≤ f.ty ∧ f.ty ≤ 3) ∧ (0 < f.ss.length ∧ (f.ty = 3 → f.ss.length % 11 = 0))

def szL (l : List LaD) : Prop := l.length ≤ 4000000000000000000 ∧ ∀ p ∈ l, p.1.size ≤ 9000000000000000000
def szF (f : FaD) : Prop := f.nm.size ≤ 9000000000000000000 ∧ f.ss.length ≤ 4000000000000000000 ∧ ∀ x ∈ f.ss, szL x.ls


theorem gat_grp {l : List SmD} {q r : Nat} (h : r < 11) : gat (grpS l q) r = gat l (11 * q + r) := by
 unfold grpS
 rw [gat_take h]
 unfold gat
 rw [List.getD_eq_getElem?_getD, List.getD_eq_getElem?_getD, List.getElem?_drop]

theorem lesN_snoc (l : List LaD) (v : ByteArray) : lesN (l ++ [(leN, v)]) = lesN l + 1 := by
 unfold lesN
 rw [List.filter_append, List.length_append]
 simp

theorem grp_fits {n : ByteArray} {l : List SmD} {q : Nat} (hq : 11 * q + 11 ≤ l.length) : grpP n (grpS l q) ↔ ∀ r : Nat, r < 11 → fitG n (l.take (11 * q + r)) (gat l (11 * q + r)) := by
 have hlen : (grpS l q).length = 11 := by
  unfold grpS; rw [List.length_take, List.length_drop]; omega
 have tl : ∀ r, r < 11 → (l.take (11 * q + r)).length = 11 * q + r := fun r hr => by rw [List.length_take]; omega
 have fb : ∀ r, r < 9 → (fitG n (l.take (11 * q + r)) (gat l (11 * q + r)) ↔ fitB n (l.take (11 * q + r)) (gat l (11 * q + r)) r) := fun r hr => by
  unfold fitG
  rw [tl r (by omega), show (11 * q + r) % 11 = r by omega, if_pos hr]
 have ft : ∀ r, 9 ≤ r → r < 11 → (fitG n (l.take (11 * q + r)) (gat l (11 * q + r)) ↔ fitT n (gat l (11 * q + 8)) (gat l (11 * q + r)) r) := fun r h9 hr => by
  unfold fitG
  rw [tl r hr, show (11 * q + r) % 11 = r by omega, if_neg (by omega), gat_take (by omega), show 11 * q + r - 1 - (r - 9) = 11 * q + 8 by omega]
 have pv : ∀ r, r ≠ 0 → r < 9 → gat (l.take (11 * q + r)) ((l.take (11 * q + r)).length - 1) = gat l (11 * q + (r - 1)) := fun r h0 hr => by
  rw [tl r (by omega), gat_take (by omega), show 11 * q + r - 1 = 11 * q + (r - 1) by omega]
 constructor
 ·rintro ⟨_, hg, hh, h9, h9l, h10, h10v⟩ r hr
  have G : ∀ i, i < 11 → gat (grpS l q) i = gat l (11 * q + i) := fun i hi => gat_grp hi
  rw [G 10 (by decide)] at hh h9l h10 h10v
  rw [G 9 (by decide)] at h9 h9l
  rw [G 8 (by decide)] at h10v
  have hb : ∀ i, i < 9 → (gat l (11 * q + i)).nm = n ++ bucN ∧ (gat l (11 * q + i)).ls = (gat l (11 * q + 10)).ls ++ [(leN, bnd i)] ∧ (if i = 0 then 0 else (gat l (11 * q + (i - 1))).v) ≤ (gat l (11 * q + i)).v := fun i hi => by
   have := hg i hi
   unfold bkP prv at this
   rw [G i (by omega), G 10 (by decide)] at this
   by_cases h0 : i = 0
   ·subst h0; exact this
   ·rw [if_neg h0, G (i - 1) (by omega)] at this
    rw [if_neg h0]; exact this
  by_cases h9' : r < 9
  ·rw [fb r h9']
   obtain ⟨b1, b2, b3⟩ := hb r h9'
   refine ⟨b1, ⟨_, b2⟩, ?_⟩
   by_cases h0 : r = 0
   ·rw [if_pos h0]
    rw [if_pos h0] at b3
    refine ⟨?_, b3⟩
    rw [b2, lesN_snoc, (lesN_zero _).2 hh]
   ·rw [if_neg h0, pv r h0 h9']
    rw [if_neg h0] at b3
    obtain ⟨_, c2, _⟩ := hb (r - 1) (by omega)
    refine ⟨by rw [b2, c2]; simp, ?_, b3⟩
    rw [b2, c2]
    simp
  ·rw [ft r (by omega) hr]
   obtain ⟨_, c2, _⟩ := hb 8 (by decide)
   have e8 : (gat l (11 * q + 8)).ls.take ((gat l (11 * q + 8)).ls.length - 1) = (gat l (11 * q + 10)).ls := by rw [c2]; simp
   unfold fitT
   rw [e8]
   by_cases h9 : r = 9
   ·subst h9; exact ⟨h9l, by rw [if_pos rfl]; assumption⟩
   ·obtain rfl : r = 10 := by omega
    exact ⟨rfl, by rw [if_neg (by decide)]; exact ⟨h10, h10v⟩⟩
 ·intro h
  have hB : ∀ i, i < 9 → fitB n (l.take (11 * q + i)) (gat l (11 * q + i)) i := fun i hi => (fb i hi).1 (h i (by omega))
  have hT : ∀ i, 9 ≤ i → i < 11 → fitT n (gat l (11 * q + 8)) (gat l (11 * q + i)) i := fun i h9 hi => (ft i h9 hi).1 (h i hi)
  -- the labels of all buckets begin alike
  obtain ⟨base, hbase⟩ := (hB 0 (by decide)).2.1
  have hall : ∀ i, i < 9 → (gat l (11 * q + i)).ls = base ++ [(leN, bnd i)] := by
   intro i
   induction i with
   | zero => intro _; exact hbase
   | succ i ih =>
    intro hi
    have ihh := ih (by omega)
    obtain ⟨_, ⟨b', hb'⟩, h3⟩ := hB (i + 1) hi
    rw [if_neg (by omega), pv (i + 1) (by omega) hi, show i + 1 - 1 = i by omega] at h3
    obtain ⟨h4, h5, _⟩ := h3
    rw [ihh, hb'] at h5 h4
    have hlb : b'.length = base.length := by simp at h4; omega
    have e1 : (b' ++ [(leN, bnd (i + 1))]).length - 1 = b'.length := by simp
    rw [e1] at h5
    have : b' = base := by
     rw [List.take_left] at h5
     rw [hlb, List.take_left] at h5
     exact h5
    rw [hb', this]
  have hT9 := hT 9 (by decide) (by decide)
  have hT10 := hT 10 (by decide) (by decide)
  unfold fitT at hT9 hT10
  rw [hall 8 (by decide)] at hT9 hT10
  have e8 : (base ++ [(leN, bnd 8)]).take ((base ++ [(leN, bnd 8)]).length - 1) = base := by simp
  rw [e8] at hT9 hT10
  rw [if_pos rfl] at hT9
  rw [if_neg (by decide)] at hT10
  have G : ∀ i, i < 11 → gat (grpS l q) i = gat l (11 * q + i) := fun i hi => gat_grp hi
  refine ⟨hlen, fun i hi => ?_, ?_, ?_, ?_, ?_, ?_⟩
  ·unfold bkP prv
   rw [G i (by omega), G 10 (by decide), hT10.1]
   refine ⟨(hB i hi).1, hall i hi, ?_⟩
   have h3 := (hB i hi).2.2
   by_cases h0 : i = 0
   ·rw [if_pos h0] at h3 ⊢; exact h3.2
   ·rw [if_neg h0, pv i h0 hi] at h3
    rw [if_neg h0, G (i - 1) (by omega)]
    exact h3.2.2
  ·rw [G 10 (by decide), hT10.1, ← lesN_zero]
   have h3 := (hB 0 (by decide)).2.2
   rw [if_pos rfl] at h3
   have := h3.1
   rw [hall 0 (by decide), lesN_snoc] at this
   omega
  ·rw [G 9 (by decide)]; exact hT9.2
  ·rw [G 9 (by decide), G 10 (by decide), hT9.1, hT10.1]
  ·rw [G 10 (by decide)]; exact hT10.2.1
  ·rw [G 10 (by decide), G 8 (by decide)]; exact hT10.2.2

theorem grps_fits {n : ByteArray} {l : List SmD} : grpsP n l ↔ l.length % 11 = 0 ∧ ∀ i : Nat, i < l.length → fitG n (l.take i) (gat l i) := by
 constructor
 ·intro h
  have hm : l.length % 11 = 0 := by
   refine Classical.byContradiction fun hne => ?_
   have := (h (l.length / 11) (by omega)).1
   unfold grpS at this
   rw [List.length_take, List.length_drop] at this
   omega
  refine ⟨hm, fun i hi => ?_⟩
  have := (grp_fits (q := i / 11) (by omega)).1 (h (i / 11) (by omega)) (i % 11) (by omega)
  rwa [show 11 * (i / 11) + i % 11 = i by omega] at this
 ·rintro ⟨hm, h⟩ q hq
  exact (grp_fits (by omega)).2 fun r hr => h _ (by omega)


def shortS (d : StD) : Prop := d.cs.length ≤ 20 ∧ ∀ c ∈ d.cs, c.nm.size ≤ 100 ∧ c.cl.length ≤ 40

end Go.Proofs.YtknnooannohflaaGreatDoor.Met

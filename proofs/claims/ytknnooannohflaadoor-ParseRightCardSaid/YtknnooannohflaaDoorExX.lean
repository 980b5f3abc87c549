/- Layer 27 over plain lists: what stands for a byte, a line, families. -/
import Derived.Test.YtknnooannohflaaDoorTrS
import Derived.Test.YtknnooannohflaaDoorMzA
import Derived.Lib.ItoaLen
namespace Go.Proofs.YtknnooannohflaaDoor.Exp
open Go Go.Px Go.Proofs Trm Met
set_option maxRecDepth 100000
set_option linter.unusedVariables false

def eH (c : UInt8) : Tx := if c = 10 then [92, 110] else if c = 92 then [92, 92] else [c]
def eV (c : UInt8) : Tx := if c = 34 then [92, 34] else if c = 10 then [92, 110] else if c = 92 then [92, 92] else [c]
def hlpT (l : Tx) : Tx := l.flatMap eH
def valT (l : Tx) : Tx := l.flatMap eV

theorem Zxi (c : UInt8) : ∃ u r, eH c = u :: r ∧ u ≠ 10 := by
 unfold eH
 split
 ·exact ⟨92, [110], rfl, by decide⟩
 ·split
  ·exact ⟨92, [92], rfl, by decide⟩
  ·exact ⟨c, [], rfl, by assumption⟩
theorem eV_no (c : UInt8) : 10 ∉ eV c := by
 unfold eV
 split
 ·decide
 ·split
  ·decide
  ·split
   ·decide
   ·rename_i h _; simp; exact Ne.symm h
theorem eH_no (c : UInt8) : 10 ∉ eH c := by
 unfold eH
 split
 ·decide
 ·split
  ·decide
  ·rename_i h _; simp; exact Ne.symm h
theorem Zxj (l : Tx) : 10 ∉ valT l := by
 unfold valT; rw [List.mem_flatMap]; rintro ⟨c, _, h⟩; exact eV_no c h
theorem Zxk (l : Tx) : 10 ∉ hlpT l := by
 unfold hlpT; rw [List.mem_flatMap]; rintro ⟨c, _, h⟩; exact eH_no c h

/- The backslashes that stand ahead of a place. -/
def bk (n : Nat) (c : UInt8) : Nat := if c = 92 then n + 1 else 0
def bkL (n : Nat) (l : Tx) : Nat := l.foldl bk n
def okQ : Nat → Tx → Prop
 | n, [] => n % 2 = 0
 | n, c :: l => c ≠ 10 ∧ (c = 34 → n % 2 = 1) ∧ okQ (bk n c) l
/- Labels, lines, families. -/
def labC (p : LaD) : Tx := p.1.data.toList ++ 61 :: 34 :: (valT p.2.data.toList ++ [34])
def labT : List LaD → Tx
 | [] => []
 | p :: ps => 123 :: labC p ++ ps.flatMap fun q => 44 :: labC q
def linT (x : SmD) : Tx := x.nm.data.toList ++ labT x.ls ++ (if x.ls = [] then [] else [125]) ++ 32 :: Lib.itoa x.v
def wrdT (k : Int) : Tx := if k = 1 then [99, 111, 117, 110, 116, 101, 114] else if k = 2 then [103, 97, 117, 103, 101] else [104, 105, 115, 116, 111, 103, 114, 97, 109]
def hdH (f : FaD) : Tx := 35 :: 32 :: 72 :: 69 :: 76 :: 80 :: 32 :: (f.nm.data.toList ++ 32 :: (hlpT f.hp.data.toList ++ [10]))
def hdT (f : FaD) : Tx := 35 :: 32 :: 84 :: 89 :: 80 :: 69 :: 32 :: (f.nm.data.toList ++ 32 :: (wrdT f.ty ++ [10]))
def samT (l : List SmD) : Tx := l.flatMap fun x => linT x ++ [10]
def famT (f : FaD) : Tx := hdH f ++ hdT f ++ samT f.ss
def txtT (l : List FaD) : Tx := l.flatMap famT

def nmB (c : UInt8) : Prop := c ≠ 10 ∧ c ≠ 32 ∧ c ≠ 34 ∧ c ≠ 35 ∧ c ≠ 44 ∧ c ≠ 61 ∧ c ≠ 123 ∧ c ≠ 125
def nmOK (s : ByteArray) : Prop := s.data.toList ≠ [] ∧ ∀ u ∈ s.data.toList, nmB u
def laOK (p : LaD) : Prop := nmOK p.1
def smOK (x : SmD) : Prop := nmOK x.nm ∧ ∀ p ∈ x.ls, laOK p

theorem Zvd {n : Int} {c : UInt8} (h : c ∈ Lib.itoa n) : c = 45 ∨ (48 ≤ c.toNat ∧ c.toNat ≤ 57) := by
 by_cases h0 : 0 ≤ n
 ·rw [Zuv h0] at h; exact .inr (Zol _ _ h)
 ·obtain ⟨u, rfl, hu⟩ : ∃ u : Nat, n = -(u : Int) ∧ 1 ≤ u := ⟨n.natAbs, by omega, by omega⟩
  rw [Lib.itoa_neg u hu] at h
  rcases List.mem_cons.1 h with h | h
  ·exact .inl h
  ·exact .inr (Zol _ _ h)
theorem Zsw (n : Int) : 10 ∉ Lib.itoa n := fun h => by
 rcases Zvd h with h | h
 ·revert h; decide
 ·revert h; decide
def stopT (x : Tx) : Prop := x = [] ∨ ∃ r, x = 35 :: r
def faOK (f : FaD) : Prop := nmOK f.nm ∧ (1 ≤ f.ty ∧ f.ty ≤ 3) ∧ ∀ x ∈ f.ss, smOK x
theorem wrd_no (k : Int) : 10 ∉ wrdT k := by unfold wrdT; split; · decide
                                             ·split <;> decide
/- How many lines. -/
def nlN (l : Tx) : Nat := l.count 10
theorem Zo3 {s : ByteArray} (h : nmOK s) : 10 ∉ s.data.toList := fun hm => (h.2 10 hm).1 rfl
theorem Zsx {p : LaD} (h : laOK p) : 10 ∉ labC p := by
 unfold labC; simp only [List.mem_append, List.mem_cons, List.not_mem_nil, or_false]; rintro (h1 | h1 | h1 | h1 | h1)
 ·exact Zo3 h h1
 ·revert h1; decide
 ·revert h1; decide
 ·exact Zxj _ h1
 ·revert h1; decide
theorem Zxl {l : List LaD} (h : ∀ p ∈ l, laOK p) : 10 ∉ labT l := by
 cases l with
 | nil => simp [labT]
 | cons p l =>
  simp only [labT, List.cons_append, List.mem_cons, List.mem_append, List.mem_flatMap]; rintro (h1 | h1 | ⟨q, hq, h1 | h1⟩)
  ·revert h1; decide
  ·exact Zsx (h p (by simp)) h1
  ·revert h1; decide
  ·exact Zsx (h q (by simp [hq])) h1
theorem Zxm {x : SmD} (h : smOK x) : 10 ∉ linT x := by
 unfold linT; simp only [List.mem_append, List.mem_cons]; rintro (((h1 | h1) | h1) | h1 | h1)
 ·exact Zo3 h.1 h1
 ·exact Zxl h.2 h1
 ·revert h1; split <;> decide
 ·revert h1; decide
 ·exact Zsw _ h1
def lns (l : List FaD) : Nat := (l.map fun f => 2 + f.ss.length).sum

def nmC (c : UInt8) : Prop := (97 ≤ c.toNat ∧ c.toNat ≤ 122) ∨ (65 ≤ c.toNat ∧ c.toNat ≤ 90) ∨ c.toNat = 95 ∨ (48 ≤ c.toNat ∧ c.toNat ≤ 57)
instance (c : UInt8) : Decidable (nmB c) := inferInstanceAs (Decidable (_ ∧ _ ∧ _ ∧ _ ∧ _ ∧ _ ∧ _ ∧ _))
theorem nmC_B {c : UInt8} (h : nmC c) : nmB c := by
 unfold nmC at h
 refine ⟨?_, ?_, ?_, ?_, ?_, ?_, ?_, ?_⟩ <;> (rintro rfl; revert h; decide)
theorem Zve {f : FaD} (hf : famP f) {x : SmD} (hx : x ∈ f.ss) : x.nm = f.nm ∨ x.nm = f.nm ++ bucN ∨ x.nm = f.nm ++ sumN ∨ x.nm = f.nm ++ couN := by
 obtain ⟨_, _, h⟩ := hf
 split at h
 ·obtain ⟨j, hj, rfl⟩ := List.mem_iff_getElem.1 hx; have hk := h (j / 11) (by omega); have hg : gat (grpS f.ss (j / 11)) (j % 11) = f.ss[j] := (by rw [Zob (by omega), show 11 * (j / 11) + j % 11 = j by omega, Zl7 hj]); obtain ⟨_, h1, _, h2, _, h3, _⟩ := hk; have hr : j % 11 < 9 ∨ j % 11 = 9 ∨ j % 11 = 10 := by omega
  rcases hr with hr | hr | hr
  ·have := (h1 _ hr).1; rw [hg] at this; exact .inr (.inl this)
  ·rw [hr] at hg; rw [hg] at h2; exact .inr (.inr (.inl h2))
  ·rw [hr] at hg; rw [hg] at h3; exact .inr (.inr (.inr h3))
 ·exact .inl (h x hx).1
/- How long the texts are. -/
def i64 (n : Int) : Prop := -9223372036854775808 ≤ n ∧ n ≤ 9223372036854775807
theorem Zdp (s : ByteArray) : s.data.toList.length = s.size := Array.length_toList
def rgF (f : FaD) : Prop := ∀ x ∈ f.ss, i64 x.v
end Go.Proofs.YtknnooannohflaaDoor.Exp

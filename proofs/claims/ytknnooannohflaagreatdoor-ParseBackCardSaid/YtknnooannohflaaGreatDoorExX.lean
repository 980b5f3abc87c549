/- Layer 27 over plain lists: what stands for a byte, a line, families. -/
import Derived.Test.YtknnooannohflaaGreatDoorTrS
import Derived.Test.YtknnooannohflaaGreatDoorMzA
import Derived.Lib.ItoaLen
namespace Go.Proofs.YtknnooannohflaaGreatDoor.Exp
open Go Go.Px Go.Proofs Trm Met
set_option maxRecDepth 100000
set_option linter.unusedVariables false

def eH (c : UInt8) : Tx := if c = 10 then [92, 110] else if c = 92 then [92, 92] else [c]
def eV (c : UInt8) : Tx := if c = 34 then [92, 34] else if c = 10 then [92, 110] else if c = 92 then [92, 92] else [c]
def hlpT (l : Tx) : Tx := l.flatMap eH
def valT (l : Tx) : Tx := l.flatMap eV

theorem eH_head (c : UInt8) : ∃ u r, eH c = u :: r ∧ u ≠ 10 := by
 unfold eH
 split
 ·exact ⟨92, [110], rfl, by decide⟩
 ·split
  ·exact ⟨92, [92], rfl, by decide⟩
  ·exact ⟨c, [], rfl, by assumption⟩
theorem eV_no (c : UInt8) : 10 ∉ eV c := by
 unfold eV
 split
 ·decide
 ·split
  ·decide
  ·split
   ·decide
   ·rename_i h _; simp; exact Ne.symm h
theorem eH_no (c : UInt8) : 10 ∉ eH c := by
 unfold eH
 split
 ·decide
 ·split
  ·decide
  ·rename_i h _; simp; exact Ne.symm h
theorem valT_no (l : Tx) : 10 ∉ valT l := by
 unfold valT; rw [List.mem_flatMap]; rintro ⟨c, _, h⟩; exact eV_no c h
theorem hlpT_no (l : Tx) : 10 ∉ hlpT l := by
 unfold hlpT; rw [List.mem_flatMap]; rintro ⟨c, _, h⟩; exact eH_no c h

/- The backslashes that stand ahead of a place. -/
def bk (n : Nat) (c : UInt8) : Nat := if c = 92 then n + 1 else 0
def bkL (n : Nat) (l : Tx) : Nat := l.foldl bk n
def okQ : Nat → Tx → Prop
 | n, [] => n % 2 = 0
 | n, c :: l => c ≠ 10 ∧ (c = 34 → n % 2 = 1) ∧ okQ (bk n c) l
/- Labels, lines, families. -/
def labC (p : LaD) : Tx := p.1.data.toList ++ 61 :: 34 :: (valT p.2.data.toList ++ [34])
def labT : List LaD → Tx
 | [] => []
 | p :: ps => 123 :: labC p ++ ps.flatMap fun q => 44 :: labC q
def linT (x : SmD) : Tx := x.nm.data.toList ++ labT x.ls ++ (if x.ls = [] then [] else [125]) ++ 32 :: Lib.itoa x.v
def wrdT (k : Int) : Tx := if k = 1 then [99, 111, 117, 110, 116, 101, 114] else if k = 2 then [103, 97, 117, 103, 101] else [104, 105, 115, 116, 111, 103, 114, 97, 109]
def hdH (f : FaD) : Tx := 35 :: 32 :: 72 :: 69 :: 76 :: 80 :: 32 :: (f.nm.data.toList ++ 32 :: (hlpT f.hp.data.toList ++ [10]))
def hdT (f : FaD) : Tx := 35 :: 32 :: 84 :: 89 :: 80 :: 69 :: 32 :: (f.nm.data.toList ++ 32 :: (wrdT f.ty ++ [10]))
def samT (l : List SmD) : Tx := l.flatMap fun x => linT x ++ [10]
def famT (f : FaD) : Tx := hdH f ++ hdT f ++ samT f.ss
def txtT (l : List FaD) : Tx := l.flatMap famT

theorem labT_snoc (l : List LaD) (p : LaD) : labT (l ++ [p]) = labT l ++ (if l = [] then 123 else 44) :: labC p := by
 cases l with
 | nil => simp [labT]
 | cons q l => simp [labT]

def nmB (c : UInt8) : Prop := c ≠ 10 ∧ c ≠ 32 ∧ c ≠ 34 ∧ c ≠ 35 ∧ c ≠ 44 ∧ c ≠ 61 ∧ c ≠ 123 ∧ c ≠ 125
def nmOK (s : ByteArray) : Prop := s.data.toList ≠ [] ∧ ∀ u ∈ s.data.toList, nmB u
def laOK (p : LaD) : Prop := nmOK p.1
def smOK (x : SmD) : Prop := nmOK x.nm ∧ ∀ p ∈ x.ls, laOK p

theorem itoa_dig {n : Int} {c : UInt8} (h : c ∈ Lib.itoa n) : c = 45 ∨ (48 ≤ c.toNat ∧ c.toNat ≤ 57) := by
 by_cases h0 : 0 ≤ n
 ·rw [itoa_pos h0] at h
  exact .inr (dec_dig _ _ h)
 ·obtain ⟨u, rfl, hu⟩ : ∃ u : Nat, n = -(u : Int) ∧ 1 ≤ u := ⟨n.natAbs, by omega, by omega⟩
  rw [Lib.itoa_neg u hu] at h
  rcases List.mem_cons.1 h with h | h
  ·exact .inl h
  ·exact .inr (dec_dig _ _ h)
theorem itoa_no10 (n : Int) : 10 ∉ Lib.itoa n := fun h => by
 rcases itoa_dig h with h | h
 ·revert h; decide
 ·revert h; decide
def stopT (x : Tx) : Prop := x = [] ∨ ∃ r, x = 35 :: r
def faOK (f : FaD) : Prop := nmOK f.nm ∧ (1 ≤ f.ty ∧ f.ty ≤ 3) ∧ ∀ x ∈ f.ss, smOK x
theorem wrd_no (k : Int) : 10 ∉ wrdT k := by unfold wrdT; split; · decide
                                             ·split <;> decide
/- How many lines. -/
def nlN (l : Tx) : Nat := l.count 10
theorem nm_no10 {s : ByteArray} (h : nmOK s) : 10 ∉ s.data.toList := fun hm => (h.2 10 hm).1 rfl
theorem labC_no {p : LaD} (h : laOK p) : 10 ∉ labC p := by
 unfold labC
 simp only [List.mem_append, List.mem_cons, List.not_mem_nil, or_false]
 rintro (h1 | h1 | h1 | h1 | h1)
 ·exact nm_no10 h h1
 ·revert h1; decide
 ·revert h1; decide
 ·exact valT_no _ h1
 ·revert h1; decide
theorem labT_no {l : List LaD} (h : ∀ p ∈ l, laOK p) : 10 ∉ labT l := by
 cases l with
 | nil => simp [labT]
 | cons p l =>
  simp only [labT, List.cons_append, List.mem_cons, List.mem_append, List.mem_flatMap]
  rintro (h1 | h1 | ⟨q, hq, h1 | h1⟩)
  ·revert h1; decide
  ·exact labC_no (h p (by simp)) h1
  ·revert h1; decide
  ·exact labC_no (h q (by simp [hq])) h1
theorem linT_no {x : SmD} (h : smOK x) : 10 ∉ linT x := by
 unfold linT
 simp only [List.mem_append, List.mem_cons]
 rintro (((h1 | h1) | h1) | h1 | h1)
 ·exact nm_no10 h.1 h1
 ·exact labT_no h.2 h1
 ·revert h1; split <;> decide
 ·revert h1; decide
 ·exact itoa_no10 _ h1
def lns (l : List FaD) : Nat := (l.map fun f => 2 + f.ss.length).sum

def nmC (c : UInt8) : Prop := (97 ≤ c.toNat ∧ c.toNat ≤ 122) ∨ (65 ≤ c.toNat ∧ c.toNat ≤ 90) ∨ c.toNat = 95 ∨ (48 ≤ c.toNat ∧ c.toNat ≤ 57)
instance (c : UInt8) : Decidable (nmB c) := inferInstanceAs (Decidable (_ ∧ _ ∧ _ ∧ _ ∧ _ ∧ _ ∧ _ ∧ _))
theorem nmC_B {c : UInt8} (h : nmC c) : nmB c := by
 unfold nmC at h
 refine ⟨?_, ?_, ?_, ?_, ?_, ?_, ?_, ?_⟩ <;> (rintro rfl; revert h; decide)
theorem fam_name {f : FaD} (hf : famP f) {x : SmD} (hx : x ∈ f.ss) : x.nm = f.nm ∨ x.nm = f.nm ++ bucN ∨ x.nm = f.nm ++ sumN ∨ x.nm = f.nm ++ couN := by
 obtain ⟨_, _, h⟩ := hf
 split at h
 ·obtain ⟨j, hj, rfl⟩ := List.mem_iff_getElem.1 hx
  have hk := h (j / 11) (by omega)
  have hg : gat (grpS f.ss (j / 11)) (j % 11) = f.ss[j] := by
   rw [gat_grp (by omega), show 11 * (j / 11) + j % 11 = j by omega, gat_get hj]
  obtain ⟨_, h1, _, h2, _, h3, _⟩ := hk
  have hr : j % 11 < 9 ∨ j % 11 = 9 ∨ j % 11 = 10 := by omega
  rcases hr with hr | hr | hr
  ·have := (h1 _ hr).1
   rw [hg] at this
   exact .inr (.inl this)
  ·rw [hr] at hg; rw [hg] at h2; exact .inr (.inr (.inl h2))
  ·rw [hr] at hg; rw [hg] at h3; exact .inr (.inr (.inr h3))
 ·exact .inl (h x hx).1
/- How long the texts are. -/
theorem flat_bound {α : Type} (g : α → Tx) (n : Nat) : ∀ l : List α, (∀ a ∈ l, (g a).length ≤ n) → (l.flatMap g).length ≤ l.length * n
 | [], _ => by simp
 | a :: l, h => by
  have := flat_bound g n l (fun b hb => h b (by simp [hb]))
  have := h a (by simp)
  rw [List.flatMap_cons, List.length_append, List.length_cons, Nat.succ_mul]
  omega
theorem eV_len (c : UInt8) : (eV c).length ≤ 2 := by unfold eV; split; · simp
                                                     ·split; · simp
                                                      ·split <;> simp
theorem eH_len (c : UInt8) : (eH c).length ≤ 2 := by unfold eH; split; · simp
                                                     ·split <;> simp
theorem valT_len (l : Tx) : (valT l).length ≤ l.length * 2 := flat_bound eV 2 l fun c _ => eV_len c
theorem hlpT_len (l : Tx) : (hlpT l).length ≤ l.length * 2 := flat_bound eH 2 l fun c _ => eH_len c
def i64 (n : Int) : Prop := -9223372036854775808 ≤ n ∧ n ≤ 9223372036854775807
theorem tl_size (s : ByteArray) : s.data.toList.length = s.size := Array.length_toList
theorem labC_len {p : LaD} {a b : Nat} (h1 : p.1.size ≤ a) (h2 : p.2.size ≤ b) : (labC p).length ≤ a + 2 * b + 3 := by
 have := valT_len p.2.data.toList
 rw [tl_size] at this
 unfold labC
 simp only [List.length_append, List.length_cons, List.length_nil, tl_size]
 omega
theorem labT_bound {l : List LaD} {n : Nat} (h : ∀ p ∈ l, (labC p).length ≤ n) : (labT l).length ≤ l.length * (n + 1) := by
 cases l with
 | nil => simp [labT]
 | cons p l =>
  have h1 := h p (by simp)
  have h2 := flat_bound (fun q => 44 :: labC q) (n + 1) l (fun q hq => by have := h q (by simp [hq]); simp; omega)
  simp only [labT, List.length_append, List.length_cons, Nat.succ_mul]
  omega
theorem linT_len {x : SmD} {n m : Nat} (hv : i64 x.v) (hn : x.nm.size ≤ n) (hl : (labT x.ls).length ≤ m) : (linT x).length ≤ n + m + 23 := by
 have := Lib.itoa_length_le x.v hv.1 hv.2
 unfold linT
 simp only [List.length_append, List.length_cons, tl_size]
 split <;> simp <;> omega
def rgF (f : FaD) : Prop := ∀ x ∈ f.ss, i64 x.v
theorem fam_lin {f : FaD} (hf : famP f) (hr : rgF f) : ∀ x ∈ f.ss, (linT x).length ≤ 5000 := by
 intro x hx
 have h1 : x.nm.size ≤ 71 := by
  have h0 := hf.1.1.1.2
  have ap : ∀ b : ByteArray, (f.nm ++ b).size = f.nm.size + b.size := fun b => ByteArray.size_append
  rcases fam_name hf hx with e | e | e | e
  ·rw [e]; omega
  ·rw [e, ap]; have : bucN.size = 7 := rfl; omega
  ·rw [e, ap]; have : sumN.size = 4 := rfl; omega
  ·rw [e, ap]; have : couN.size = 6 := rfl; omega
 have h2 := hf.2.1 x hx
 have h3 : (labT x.ls).length ≤ x.ls.length * (467 + 1) := labT_bound fun p hp => by
  obtain ⟨k, hk, rfl⟩ := List.mem_iff_getElem.1 hp
  have h4 := h2.2 k hk hk
  have := labC_len (p := x.ls[k]) h4.1.1.2 h4.2.1
  omega
 have h5 := h2.1
 have := linT_len (n := 71) (m := 3744) (hr x hx) h1 (by omega)
 omega
theorem fam_len {f : FaD} (hf : famP f) (hr : rgF f) : (famT f).length ≤ 2100000 := by
 have h1 := flat_bound (fun x => linT x ++ [10]) 5001 f.ss (fun x hx => by have := fam_lin hf hr x hx; simp; omega)
 have h2 := hf.1.2.2.2.2
 have h3 := hlpT_len f.hp.data.toList
 rw [tl_size] at h3
 have h4 := hf.1.2.1
 have h5 := hf.1.1.1.2
 have h6 : (wrdT f.ty).length ≤ 9 := by unfold wrdT; split; · simp
                                        ·split <;> simp
 unfold famT hdH hdT samT
 simp only [List.length_append, List.length_cons, List.length_nil, tl_size]
 have : f.ss.length * 5001 ≤ 400 * 5001 := Nat.mul_le_mul_right _ h2
 omega
theorem txt_len {l : List FaD} (h : allP l) (hr : ∀ f ∈ l, rgF f) : (txtT l).length ≤ 100000000 := by
 have h1 := flat_bound famT 2100000 l (fun f hf => by
  obtain ⟨k, hk, rfl⟩ := List.mem_iff_getElem.1 hf
  exact fam_len (h.2 k hk hk).1 (hr _ hf))
 have : l.length * 2100000 ≤ 40 * 2100000 := Nat.mul_le_mul_right _ h.1
 have e : (txtT l).length = (l.flatMap famT).length := rfl
 omega
end Go.Proofs.YtknnooannohflaaGreatDoor.Exp

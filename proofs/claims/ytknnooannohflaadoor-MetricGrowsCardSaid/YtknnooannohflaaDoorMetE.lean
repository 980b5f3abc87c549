/- Layer 26: names, labels and families that are right (but histograms). -/
import Derived.Test.YtknnooannohflaaDoorMetD
import Derived.Test.YtknnooannohflaaDoorDkA
namespace Go.Proofs.YtknnooannohflaaDoor.Met
open Go Go.Px Go.Proofs Go.Proofs.YtknnooannohflaaDoor.Cmp Go.Proofs.YtknnooannohflaaDoor.St
set_option maxRecDepth 100000
set_option linter.unusedVariables false

theorem has1_fn (p : LaD) (s : ByteArray) : Ct Tryd.prog 174 {} [.agg [S p.1, S p.2], .ref 0 [S s]] (fun r => r = [B (decide (p.1 = s))]) := by
 refine mhas1_nf _ _ _ _ ?_
 rw [seq_d]

theorem idx_fn (l : List LaD) (hl : l.length ≤ 1000000) (s : ByteArray) : Ct Tryd.prog 192 {} [SL 2 (laR l), .clo 174 [.ref 0 [S s]]] (fun r => ∃ i : Int, r = [I i] ∧ (0 ≤ i ↔ hasB l s = true)) := by
 refine midx_nf _ _ _ ⟨fun _ i => (0 ≤ i ∧ i ≤ l.length) ∧ hasB (l.take i.toNat) s = false, fun _ i => (l.length - i).toNat, ⟨by omega, by simp [hasB]⟩, ?_⟩
 rintro b i ⟨⟨i0, il⟩, hp⟩
 rw [rlen_eq, List.length_map]
 refine ifB_intro (fun hi => ?_) (fun hi => ?_)
 ·have hi : i < l.length := by simpa using hi
  have hi' : i.toNat < l.length := by omega
  refine ⟨⟨i0, hi⟩, _, _, rget_mapI (fun p : LaD => [S p.1, S p.2]) l i i0 hi, Cl.of (has1_fn l[i.toNat] s) ⟨_, rfl, ?_⟩⟩
  refine ifB_intro (fun h => ?_) (fun h => ?_)
  ·refine ⟨i, rfl, ⟨fun _ => ?_, fun _ => i0⟩⟩
   exact List.any_eq_true.2 ⟨l[i.toNat], List.getElem_mem hi', h⟩
  ·rw [wadd_i64 (by omega) (by omega)]
   refine ⟨rfl, ⟨by omega, ?_⟩, mlt (by dsimp only; omega)⟩
   rw [show (i + 1).toNat = i.toNat + 1 by omega, List.take_add_one, List.getElem?_eq_getElem hi']
   simp only [hasB, Option.toList_some, List.any_append, List.any_cons, List.any_nil, Bool.or_false, Bool.or_eq_false_iff]
   exact ⟨hp, h⟩
 ·have hi : l.length ≤ i := by simpa using hi
  rw [List.take_of_length_le (by omega)] at hp
  exact ⟨-1, rfl, ⟨fun h => absurd h (by decide), fun h => by rw [hp] at h; cases h⟩⟩

theorem has_fn (l : List LaD) (hl : l.length ≤ 1000000) (s : ByteArray) : Ct Tryd.prog 133 {} [SL 2 (laR l), S s] (fun r => r = [B (hasB l s)]) := by
 refine mhas_nf _ _ _ (Cl.ofQ (mcf_nf _ _ _ (Cl.ofQ (idx_fn l hl s) ?_)) (Q := fun r => r = [B (hasB l s)]) ?_)
 ·rintro r ⟨i, rfl, hi⟩
  refine ⟨i, rfl, ?_⟩
  cases h : hasB l s with
  | true => have := hi.2 h; simp [ige, this]
  | false => have : ¬ 0 ≤ i := fun e => by rw [hi.1 e] at h; cases h
             simp [ige, this]
 ·rintro r rfl
  exact ⟨_, rfl, rfl⟩

def badC (s : ByteArray) (x : Int) : Bool := bpick (bnot (bpick (bpick (bpick (ige (sbyte s x) 97) (ile (sbyte s x) 122) false) true (bpick (ige (sbyte s x) 65) (ile (sbyte s x) 90) false)) true (ieq (sbyte s x) 95))) (bpick (bnot (bpick (ige (sbyte s x) 48) (ile (sbyte s x) 57) false)) true (ieq x 0)) false
def namP (s : ByteArray) : Prop := (1 ≤ s.size ∧ s.size ≤ 64) ∧ ∀ i : Nat, i < s.size → badC s (i : Int) = false
instance (s : ByteArray) : Decidable (namP s) := inferInstanceAs (Decidable (_ ∧ _))

theorem mnam_fn (s : ByteArray) : Ct Tryd.prog 48 {} [S s] (fun r => r = [B (decide (namP s))]) := by
 refine mnamed_nf _ _ (ifB_intro (fun h => ?_) (fun h => ?_))
 ·have h : (s.size : Int) < 1 ∨ 64 < (s.size : Int) := by simpa [bor_t, slen] using h
  have : ¬ namP s := fun e => by have := e.1; omega
  simp [this]
 have h : 1 ≤ (s.size : Int) ∧ (s.size : Int) ≤ 64 := by simpa [bor_f, slen] using h
 refine ⟨fun _ i => (0 ≤ i ∧ i ≤ s.size) ∧ ∀ k : Nat, (k : Int) < i → badC s (k : Int) = false, fun _ i => (s.size - i).toNat, ⟨by omega, fun k hk => by omega⟩, ?_⟩
 rintro b i ⟨⟨i0, il⟩, hp⟩
 refine ifB_intro (fun hi => ?_) (fun hi => ?_)
 ·have hi : i < s.size := by simpa [slen] using hi
  refine ⟨⟨i0, hi⟩, ?_⟩
  show ifB (badC s i) _ _
  refine ifB_intro (fun hb => ?_) (fun hb => ?_)
  ·have : ¬ namP s := fun e => by
    have := e.2 i.toNat (by omega)
    rw [Int.toNat_of_nonneg i0, hb] at this; cases this
   simp [this]
  ·rw [wadd_i64 (by omega) (by omega)]
   refine ⟨rfl, ⟨by omega, fun k hk => ?_⟩, mlt (by dsimp only; omega)⟩
   by_cases e : (k : Int) = i
   ·rw [e]; exact hb
   ·exact hp k (by omega)
 ·have hi : s.size ≤ i := by simpa [slen] using hi
  have : namP s := ⟨by omega, fun k hk => hp k (by omega)⟩
  simp [this]

def labUp (l : List LaD) (n : Nat) : Prop := ∀ k : Nat, k < n → ∀ h : k < l.length, namP l[k].1 ∧ l[k].2.size ≤ 200 ∧ hasB (l.take k) l[k].1 = false
instance (l : List LaD) (n : Nat) : Decidable (labUp l n) := inferInstanceAs (Decidable (∀ k : Nat, k < n → ∀ h : k < l.length, _))
def labP (l : List LaD) : Prop := l.length ≤ 8 ∧ labUp l l.length
instance (l : List LaD) : Decidable (labP l) := inferInstanceAs (Decidable (_ ∧ _))

theorem labelled_fn (l : List LaD) : Ct Tryd.prog 80 {} [SL 2 (laR l)] (fun r => r = [B (decide (labP l))]) := by
 refine mlabelled_nf _ _ (ifB_intro (fun h => ?_) (fun h => ?_))
 ·have h : 8 < (l.length : Int) := by simpa using h
  have : ¬ labP l := fun e => by have := e.1; omega
  simp [this]
 have h : (l.length : Int) ≤ 8 := by simpa using h
 refine ⟨fun _ i => (0 ≤ i ∧ i ≤ l.length) ∧ labUp l i.toNat, fun _ i => (l.length - i).toNat, ⟨by omega, fun k hk => by simp at hk⟩, ?_⟩
 rintro b i ⟨⟨i0, il⟩, hp⟩
 rw [rlen_eq, List.length_map]
 refine ifB_intro (fun hi => ?_) (fun hi => ?_)
 ·have hi : i < l.length := by simpa using hi
  have hi' : i.toNat < l.length := by omega
  have no : ∀ {Q : Prop}, ¬ (namP l[i.toNat].1 ∧ l[i.toNat].2.size ≤ 200 ∧ hasB (l.take i.toNat) l[i.toNat].1 = false) → ([B false] : List SV) = [B (decide (labP l))] := fun hn => by
   have : ¬ labP l := fun e => hn (e.2 _ hi' hi')
   simp [this]
  refine ⟨⟨i0, hi⟩, _, _, rget_mapI (fun p : LaD => [S p.1, S p.2]) l i i0 hi, Cl.of (mnam_fn l[i.toNat].1) ⟨_, rfl, ?_⟩⟩
  refine ifB_intro (fun h1 => ?_) (fun h1 => ?_)
  ·refine no (Q := True) fun e => ?_
   have h1 : ¬ namP l[i.toNat].1 ∨ 200 < (l[i.toNat].2.size : Int) := by simpa [bor_t, slen, bnot] using h1
   rcases h1 with h1 | h1
   ·exact h1 e.1
   ·have := e.2.1; omega
  ·have h1 : namP l[i.toNat].1 ∧ (l[i.toNat].2.size : Int) ≤ 200 := by simpa [bor_f, slen, bnot] using h1
   refine ⟨⟨by decide, i0, by omega⟩, ?_⟩
   have e : rsub (laR l) 0 i = laR (l.take i.toNat) := by simp [rsub, List.map_take]
   rw [e]
   refine Cl.of (has_fn (l.take i.toNat) (by rw [List.length_take]; omega) l[i.toNat].1) ⟨_, rfl, ?_⟩
   refine ifB_intro (fun h2 => ?_) (fun h2 => ?_)
   ·exact no (Q := True) fun e => by rw [e.2.2] at h2; cases h2
   ·rw [wadd_i64 (by omega) (by omega)]
    refine ⟨rfl, ⟨by omega, fun k hk hkl => ?_⟩, mlt (by dsimp only; omega)⟩
    by_cases e : k = i.toNat
    ·subst e; exact ⟨h1.1, by omega, h2⟩
    ·exact hp k (by omega) hkl
 ·have hi : l.length ≤ i := by simpa using hi
  have : labP l := ⟨by omega, fun k hk hkl => hp k (by omega) hkl⟩
  simp [this]

def plainP (f : FaD) : Prop := namP f.nm ∧ f.hp.size ≤ 200 ∧ (f.ty = 1 ∨ f.ty = 2) ∧ (1 ≤ f.ss.length ∧ f.ss.length ≤ 400) ∧ ∀ x ∈ f.ss, labP x.ls ∧ x.nm = f.nm ∧ hasB x.ls (ByteArray.mk (Array.mk [108, 101])) = false
instance (f : FaD) : Decidable (plainP f) := inferInstanceAs (Decidable (_ ∧ _ ∧ _ ∧ _ ∧ _))

theorem right_fn (f : FaD) (h : plainP f) : Ct Tryd.prog 103 {} [.agg f.row] (fun r => r = [B true]) := by
 obtain ⟨h1, h2, h3, h4, h5⟩ := h
 refine mright_nf _ _ _ _ _ (Cl.of (mnam_fn f.nm) ⟨_, rfl, ?_⟩)
 refine ifB_intro (fun h => ?_) (fun _ => ?_)
 ·have h : ¬ namP f.nm ∨ 200 < (f.hp.size : Int) := by simpa [bor_t, slen, bnot] using h
  rcases h with h | h
  ·exact absurd h1 h
  ·omega
 refine ifB_intro (fun h => ?_) (fun _ => ?_)
 ·have h : f.ty < 1 ∨ 3 < f.ty := by simpa [bor_t] using h
  omega
 refine ifB_intro (fun h => ?_) (fun _ => ?_)
 ·have h : (f.ss.length : Int) < 1 ∨ 400 < (f.ss.length : Int) := by simpa [bor_t] using h
  omega
 refine ⟨fun _ i => 0 ≤ i ∧ i ≤ f.ss.length, fun _ i => (f.ss.length - i).toNat, by omega, ?_⟩
 rintro b i ⟨i0, il⟩
 rw [rlen_eq, List.length_map]
 refine ifB_intro (fun hi => ?_) (fun hi => ?_)
 ·have hi : i < f.ss.length := by simpa using hi
  have hi' : i.toNat < f.ss.length := by omega
  refine ⟨⟨i0, hi⟩, _, _, _, rget_mapI SmD.row f.ss i i0 hi, Cl.of (labelled_fn f.ss[i.toNat].ls) ⟨_, rfl, ifB_intro (fun h => ?_) (fun _ => ?_)⟩⟩
  ·simp [bnot, (h5 _ (List.getElem_mem hi')).1] at h
  ·rw [wadd_i64 (by omega) (by omega)]
   exact ⟨rfl, by omega, mlt (by dsimp only; omega)⟩
 refine ifB_intro (fun h => ?_) (fun _ => ?_)
 ·have h : f.ty = 3 := by simpa using h
  omega
 refine ⟨fun _ i => 0 ≤ i ∧ i ≤ f.ss.length, fun _ i => (f.ss.length - i).toNat, by omega, ?_⟩
 rintro b i ⟨i0, il⟩
 refine ifB_intro (fun hi => ?_) (fun hi => rfl)
 have hi : i < f.ss.length := by simpa using hi
 have hi' : i.toNat < f.ss.length := by omega
 have hx := h5 _ (List.getElem_mem hi')
 refine ⟨⟨i0, hi⟩, _, _, _, rget_mapI SmD.row f.ss i i0 hi, ifB_intro (fun h => ?_) (fun _ => Cl.of (has_fn f.ss[i.toNat].ls (Nat.le_trans hx.1.1 (by decide)) _) ⟨_, rfl, ifB_intro (fun h => ?_) (fun _ => ?_)⟩)⟩
 ·rw [sne_d] at h
  simp [hx.2.1] at h
 ·rw [hx.2.2] at h; cases h
 ·rw [wadd_i64 (by omega) (by omega)]
  exact ⟨rfl, by omega, mlt (by dsimp only; omega)⟩

def grow (l : List FaD) : Prop := ∀ k : Nat, ∀ h : k + 1 < l.length, sge l[k].nm l[k + 1].nm = false

theorem all_fn (l : List FaD) (hl : l.length ≤ 40) (hp : ∀ f ∈ l, plainP f) (hg : grow l) : Ct Tryd.prog 47 {} [SL 4 (faR l)] (fun r => r = [B true]) := by
 refine mall_nf _ _ (ifB_intro (fun h => ?_) (fun h => ?_))
 ·have h : 40 < (l.length : Int) := by simpa using h
  omega
 refine ⟨fun _ i => 0 ≤ i ∧ i ≤ l.length, fun _ i => (l.length - i).toNat, by omega, ?_⟩
 rintro b i ⟨i0, il⟩
 rw [rlen_eq, List.length_map]
 refine ifB_intro (fun hi => ?_) (fun hi => rfl)
 have hi : i < l.length := by simpa using hi
 have hi' : i.toNat < l.length := by omega
 refine ⟨⟨i0, hi⟩, _, _, _, _, rget_mapI FaD.row l i i0 hi, Cl.of (right_fn l[i.toNat] (hp _ (List.getElem_mem hi'))) ⟨_, rfl, ifB_intro (fun h => by cases h) (fun _ => ifB_intro (fun h => ?_) (fun _ => ?_))⟩⟩
 ·have h : 0 < i := by simpa using h
  have e1 : wsub .i64 i 1 = i - 1 := wsub_i64 (by omega) (by omega)
  rw [e1, wadd_i64 (by omega) (by omega)]
  refine ⟨by omega, _, _, _, _, rget_mapI FaD.row l (i - 1) (by omega) (by omega), ifB_intro (fun hs => ?_) (fun _ => ⟨rfl, by omega, mlt (by dsimp only; omega)⟩)⟩
  have := hg (i - 1).toNat (by omega)
  have e2 : (i - 1).toNat + 1 = i.toNat := by omega
  simp only [e2] at this
  rw [this] at hs; cases hs
 ·rw [wadd_i64 (by omega) (by omega)]
  exact ⟨rfl, by omega, mlt (by dsimp only; omega)⟩

end Go.Proofs.YtknnooannohflaaDoor.Met

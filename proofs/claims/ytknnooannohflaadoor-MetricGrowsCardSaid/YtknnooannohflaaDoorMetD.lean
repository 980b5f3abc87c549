/- Layer 26: are labels, samples, families the same; has one of some labels a name; may a text be a name. -/
import Derived.Test.YtknnooannohflaaDoorMeA
import Derived.Test.YtknnooannohflaaDoorMetN5
namespace Go.Proofs.YtknnooannohflaaDoor.Met
open Go Go.Px Go.Proofs Go.Proofs.YtknnooannohflaaDoor.Cmp Go.Proofs.YtknnooannohflaaDoor.St
set_option maxRecDepth 100000
set_option linter.unusedVariables false

theorem len_dec {α : Type} [DecidableEq α] {l m : List α} {x : Nat} (h : l.length = m.length) (hx : x < l.length) (hp : l.take x = m.take x) (he : l[x] = m[x]'(by omega)) : l.take (x + 1) = m.take (x + 1) := by
 rw [List.take_add_one, List.take_add_one, List.getElem?_eq_getElem hx, List.getElem?_eq_getElem (by omega : x < m.length), hp, he]

deriving instance DecidableEq for SmD
deriving instance DecidableEq for FaD

theorem labB (a b c d : ByteArray) : bnot (band (seq a b) (band (seq c d) true)) = !decide ((a, c) = (b, d)) := by
 rw [seq_d, seq_d]
 by_cases h1 : a = b <;> by_cases h2 : c = d <;> simp [h1, h2, bnot, band]

theorem lab_loop (x y : List LaD) (hl : x.length ≤ 1000000) (hxy : x.length = y.length) (Q : List SV → Prop) (hQ : Q [B (decide (x = y))]) :
  ∃ Inv : Bool → Int → Prop, ∃ m : Bool → Int → Nat, (Inv false 0) ∧ (∀ b : Bool, ∀ x1 : Int, (Inv b x1) → ifB (ilt x1 (rlen (laR x))) ((((0 : Int) ≤ x1) ∧ (x1 < (rlen (laR x)))) ∧ (∃ s : ByteArray, ∃ s1 : ByteArray, (rget (laR x) x1 = [S s, S s1]) ∧ ((((0 : Int) ≤ x1) ∧ (x1 < (rlen (laR y)))) ∧ (∃ s2 : ByteArray, ∃ s3 : ByteArray, (rget (laR y) x1 = [S s2, S s3]) ∧ (ifB (bnot (band (seq s s2) (band (seq s1 s3) true))) (Q [B false]) (((Option.some [] : Option (List (List SV))) = Option.some []) ∧ ((Inv b (wadd IntKind.i64 x1 1)) ∧ (Nat.le (Nat.succ (m b (wadd IntKind.i64 x1 1))) (m b x1))))))))) (Q [B true])) := by
 refine ⟨fun _ i => (0 ≤ i ∧ i ≤ x.length) ∧ x.take i.toNat = y.take i.toNat, fun _ i => (x.length - i).toNat, ⟨by omega, by simp⟩, ?_⟩
 rintro b i ⟨⟨i0, il⟩, hp⟩
 rw [rlen_eq, rlen_eq, List.length_map, List.length_map]
 refine ifB_intro (fun hi => ?_) (fun hi => ?_)
 ·have hi : i < x.length := by simpa using hi
  refine ⟨⟨i0, hi⟩, _, _, rget_mapI (fun p : LaD => [S p.1, S p.2]) x i i0 hi, ⟨i0, by omega⟩, _, _, rget_mapI (fun p : LaD => [S p.1, S p.2]) y i i0 (by omega), ?_⟩
  rw [labB]
  refine ifB_intro (fun h => ?_) (fun h => ?_)
  ·have h : ¬ (x[i.toNat]'(by omega)) = (y[i.toNat]'(by omega)) := of_decide_eq_false (by simpa only [Bool.not_eq_true'] using h)
   have hne : x ≠ y := fun e => h (by subst e; rfl)
   simpa [hne] using hQ
  ·have h : (x[i.toNat]'(by omega)) = (y[i.toNat]'(by omega)) := of_decide_eq_true (by simpa only [Bool.not_eq_false'] using h)
   rw [wadd_i64 (by omega) (by omega)]
   refine ⟨rfl, ⟨by omega, ?_⟩, mlt (by dsimp only; omega)⟩
   rw [show (i + 1).toNat = i.toNat + 1 by omega]
   exact len_dec hxy (by omega) hp h
 ·have hi : x.length ≤ i := by simpa using hi
  rw [List.take_of_length_le (by omega), List.take_of_length_le (by omega)] at hp
  simpa [hp] using hQ

theorem lab_eq_len {α : Type} [DecidableEq α] {x y : List α} (h : ¬ ((x.length : Int) = (y.length : Int))) : decide (x = y) = false := by
 have : x ≠ y := fun e => h (by rw [e])
 simp [this]

theorem rlabels_fn (x y : List LaD) (hl : x.length ≤ 1000000) : Ct Tryd.prog 27 {} [SL 2 (laR x), SL 2 (laR y)] (fun r => r = [B (decide (x = y))]) := by
 refine rlabels_nf _ _ _ (ifB_intro (fun h => ?_) (fun h => lab_loop x y hl ?_ (fun r => r = [B (decide (x = y))]) rfl))
 ·rw [lab_eq_len (by simpa [ine] using h)]
 ·have : (x.length : Int) = y.length := by simpa [ine] using h
  omega
theorem eql_fn (x y : List LaD) (hl : x.length ≤ 1000000) : Ct Tryd.prog 125 {} [SL 2 (laR x), SL 2 (laR y)] (fun r => r = [B (decide (x = y))]) := by
 refine meql_nf _ _ _ (ifB_intro (fun h => ?_) (fun h => lab_loop x y hl ?_ (fun r => r = [B (decide (x = y))]) rfl))
 ·rw [lab_eq_len (by simpa [ine] using h)]
 ·have : (x.length : Int) = y.length := by simpa [ine] using h
  omega

def SmD.ok (x : SmD) : Prop := x.ls.length ≤ 1000000
def FaD.ok (f : FaD) : Prop := f.ss.length ≤ 1000000 ∧ ∀ x ∈ f.ss, x.ok

theorem alike_fn (x y : SmD) (hx : x.ok) : Ct Tryd.prog 72 {} [.agg x.row, .agg y.row] (fun r => r = [B (decide (x = y))]) := by
 refine malike_nf _ _ _ _ _ _ _ (ifB_intro (fun h => ?_) (fun h => ?_))
 ·rw [seq_d] at h
  have h : x.nm = y.nm ∧ x.v = y.v := by
   by_cases h1 : x.nm = y.nm <;> by_cases h2 : x.v = y.v <;> simp_all [bpick, ieq]
  refine Cl.of (eql_fn x.ls y.ls hx) ⟨_, rfl, ?_⟩
  have : (x.ls = y.ls) ↔ x = y := ⟨fun e => by cases x; cases y; simp_all, fun e => by rw [e]⟩
  simp [this]
 ·have : x ≠ y := fun e => by subst e; simp [bpick, ieq] at h
  simp [this]

theorem eqfs_fn (x y : List SmD) (hl : x.length ≤ 1000000) (hx : ∀ s ∈ x, s.ok) : Ct Tryd.prog 71 {} [SL 3 (smR x), SL 3 (smR y), .clo 72 []] (fun r => r = [B (decide (x = y))]) := by
 refine meqfs_nf _ _ _ (ifB_intro (fun h => ?_) (fun h => ?_))
 ·rw [lab_eq_len (by simpa [ine] using h)]
 have hxy : x.length = y.length := by
  have : (x.length : Int) = y.length := by simpa [ine] using h
  omega
 refine ⟨fun _ i => (0 ≤ i ∧ i ≤ x.length) ∧ x.take i.toNat = y.take i.toNat, fun _ i => (x.length - i).toNat, ⟨by omega, by simp⟩, ?_⟩
 rintro b i ⟨⟨i0, il⟩, hp⟩
 rw [rlen_eq, rlen_eq, List.length_map, List.length_map]
 refine ifB_intro (fun hi => ?_) (fun hi => ?_)
 ·have hi : i < x.length := by simpa using hi
  have hi' : i.toNat < x.length := by omega
  refine ⟨⟨i0, hi⟩, _, _, _, rget_mapI SmD.row x i i0 hi, ⟨i0, by omega⟩, _, _, _, rget_mapI SmD.row y i i0 (by omega), Cl.of (alike_fn x[i.toNat] (y[i.toNat]'(by omega)) (hx _ (List.getElem_mem hi'))) ⟨_, rfl, ?_⟩⟩
  refine ifB_intro (fun h => ?_) (fun h => ?_)
  ·have h : ¬ (x[i.toNat]'(by omega)) = (y[i.toNat]'(by omega)) := by simpa using h
   have hne : x ≠ y := fun e => h (by subst e; rfl)
   simp [hne]
  ·have h : (x[i.toNat]'(by omega)) = (y[i.toNat]'(by omega)) := by simpa using h
   rw [wadd_i64 (by omega) (by omega)]
   refine ⟨rfl, ⟨by omega, ?_⟩, mlt (by dsimp only; omega)⟩
   rw [show (i + 1).toNat = i.toNat + 1 by omega]
   exact len_dec hxy (by omega) hp h
 ·have hi : x.length ≤ i := by simpa using hi
  rw [List.take_of_length_le (by omega), List.take_of_length_le (by omega)] at hp
  simp [hp]

theorem same1_fn (x y : FaD) (hx : x.ok) : Ct Tryd.prog 70 {} [.agg x.row, .agg y.row] (fun r => r = [B (decide (x = y))]) := by
 refine msame1_nf _ _ _ _ _ _ _ _ _ (ifB_intro (fun h => ?_) (fun h => ?_))
 ·rw [seq_d, seq_d] at h
  have h : x.nm = y.nm ∧ x.hp = y.hp ∧ x.ty = y.ty := by
   by_cases h1 : x.nm = y.nm <;> by_cases h2 : x.hp = y.hp <;> by_cases h3 : x.ty = y.ty <;> simp_all [bpick, ieq]
  refine Cl.of (eqfs_fn x.ss y.ss hx.1 hx.2) ⟨_, rfl, ?_⟩
  have : (x.ss = y.ss) ↔ x = y := ⟨fun e => by cases x; cases y; simp_all, fun e => by rw [e]⟩
  simp [this]
 ·have : x ≠ y := fun e => by subst e; simp [bpick, ieq] at h
  simp [this]

theorem same_fn (x y : List FaD) (hl : x.length ≤ 1000000) (hx : ∀ s ∈ x, s.ok) : Ct Tryd.prog 26 {} [SL 4 (faR x), SL 4 (faR y)] (fun r => r = [B (decide (x = y))]) := by
 refine msame_nf _ _ _ (Cl.of ?_ ⟨_, rfl, rfl⟩)
 refine meqff_nf _ _ _ (ifB_intro (fun h => ?_) (fun h => ?_))
 ·rw [lab_eq_len (by simpa [ine] using h)]
 have hxy : x.length = y.length := by
  have : (x.length : Int) = y.length := by simpa [ine] using h
  omega
 refine ⟨fun _ i => (0 ≤ i ∧ i ≤ x.length) ∧ x.take i.toNat = y.take i.toNat, fun _ i => (x.length - i).toNat, ⟨by omega, by simp⟩, ?_⟩
 rintro b i ⟨⟨i0, il⟩, hp⟩
 rw [rlen_eq, rlen_eq, List.length_map, List.length_map]
 refine ifB_intro (fun hi => ?_) (fun hi => ?_)
 ·have hi : i < x.length := by simpa using hi
  have hi' : i.toNat < x.length := by omega
  refine ⟨⟨i0, hi⟩, _, _, _, _, rget_mapI FaD.row x i i0 hi, ⟨i0, by omega⟩, _, _, _, _, rget_mapI FaD.row y i i0 (by omega), Cl.of (same1_fn x[i.toNat] (y[i.toNat]'(by omega)) (hx _ (List.getElem_mem hi'))) ⟨_, rfl, ?_⟩⟩
  refine ifB_intro (fun h => ?_) (fun h => ?_)
  ·have h : ¬ (x[i.toNat]'(by omega)) = (y[i.toNat]'(by omega)) := by simpa using h
   have hne : x ≠ y := fun e => h (by subst e; rfl)
   simp [hne]
  ·have h : (x[i.toNat]'(by omega)) = (y[i.toNat]'(by omega)) := by simpa using h
   rw [wadd_i64 (by omega) (by omega)]
   refine ⟨rfl, ⟨by omega, ?_⟩, mlt (by dsimp only; omega)⟩
   rw [show (i + 1).toNat = i.toNat + 1 by omega]
   exact len_dec hxy (by omega) hp h
 ·have hi : x.length ≤ i := by simpa using hi
  rw [List.take_of_length_le (by omega), List.take_of_length_le (by omega)] at hp
  simp [hp]

def hasB (l : List LaD) (s : ByteArray) : Bool := l.any fun p => decide (p.1 = s)

end Go.Proofs.YtknnooannohflaaDoor.Met

/- Layer 26: a sample that may stand behind others, by the document; families that are right, sample by sample. -/
import Derived.Test.YtknnooannohflaaGreatDoorMzA
namespace Go.Proofs.YtknnooannohflaaGreatDoor.Met
open Go Go.Px Go.Proofs Go.Proofs.YtknnooannohflaaGreatDoor.Cmp Go.Proofs.YtknnooannohflaaGreatDoor.St
set_option maxRecDepth 100000
set_option linter.unusedVariables false

/-- A bucket may stand at place k of a group, behind samples. -/
def fitB (n : ByteArray) (l : List SmD) (x : SmD) (k : Nat) : Prop :=
  x.nm = n ++ bucN ∧ (∃ base, x.ls = base ++ [(leN, bnd k)]) ∧ (if k = 0 then lesN x.ls = 1 ∧ 0 ≤ x.v else
    (gat l (l.length - 1)).ls.length = x.ls.length ∧ x.ls.take (x.ls.length - 1) = (gat l (l.length - 1)).ls.take (x.ls.length - 1) ∧ (gat l (l.length - 1)).v ≤ x.v)
/-- A sum, or a count, may stand at place k of a group, behind a bucket. -/
def fitT (n : ByteArray) (y x : SmD) (k : Nat) : Prop :=
  x.ls = y.ls.take (y.ls.length - 1) ∧ (if k = 9 then x.nm = n ++ sumN else x.nm = n ++ couN ∧ x.v = y.v)
def fitG (n : ByteArray) (l : List SmD) (x : SmD) : Prop :=
  if l.length % 11 < 9 then fitB n l x (l.length % 11) else fitT n (gat l (l.length - 1 - (l.length % 11 - 9))) x (l.length % 11)
/-- A sample may stand behind those of a family. -/
def fitP (f : FaD) (x : SmD) : Prop := labP x.ls ∧ f.ss.length < 400 ∧ (if f.ty = 3 then fitG f.nm f.ss x else x.nm = f.nm ∧ hasB x.ls leN = false)

/-- There is a bucket where one is looked for. -/
def seesP (f : FaD) : Prop := f.ty = 3 → 9 ≤ f.ss.length % 11 → 0 < (gat f.ss (f.ss.length - 1 - (f.ss.length % 11 - 9))).ls.length

theorem fits_fn (f : FaD) (x : SmD) (hn : f.nm.size ≤ 1000) (hl : f.ss.length ≤ 4000000000000000000) (hx : x.ls.length ≤ 4000000000000000000) (hz : ∀ p ∈ x.ls, p.1.size ≤ 9000000000000000000) (hyl : ∀ y ∈ f.ss, y.ls.length ≤ 4000000000000000000) (hs : seesP f) :
    Ct Tryz.prog 57 {} [.agg f.row, .agg x.row] (fun r => ∃ b : Bool, r = [B b] ∧ (b = true ↔ fitP f x)) := by
  have no : ¬ fitP f x → ∃ b : Bool, ([B false] : List SV) = [B b] ∧ (b = true ↔ fitP f x) := fun h => ⟨false, rfl, by simp [h]⟩
  refine rfits_nf _ _ _ _ _ _ _ _ (Cl.of (rlab_fn x.ls hx hz) ⟨_, rfl, ?_⟩)
  rw [rlen_eq, rlen_eq, List.length_map, List.length_map]
  refine ifB_intro (fun h => ?_) (fun h => ?_)
  · have h : ¬ labP x.ls ∨ 400 ≤ (f.ss.length : Int) := by simpa [bor_t, bnot] using h
    refine no fun e => ?_
    rcases h with h | h
    · exact h e.1
    · have := e.2.1; omega
  have h : labP x.ls ∧ (f.ss.length : Int) < 400 := by simpa [bor_f, bnot] using h
  obtain ⟨hlab, h400⟩ := h
  have h8 := hlab.1
  refine ifB_intro (fun h3 => ?_) (fun h3 => ?_)
  · have h3 : ¬ f.ty = 3 := by simpa using h3
    have iff : fitP f x ↔ x.nm = f.nm ∧ hasB x.ls leN = false := by
      unfold fitP
      rw [if_neg h3]
      exact ⟨fun e => e.2.2, fun e => ⟨hlab, by omega, e⟩⟩
    rw [seq_d]
    refine ifB_intro (fun h => ?_) (fun h => ?_)
    · have h : x.nm = f.nm := by simpa using h
      refine Cl.of (les_fn x.ls hx) ⟨_, rfl, _, rfl, ?_⟩
      rw [iff, ieq_eq, decide_eq_true_iff, ← lesN_zero]
      exact ⟨fun e => ⟨h, by omega⟩, fun e => by have := e.2; omega⟩
    · have h : ¬ x.nm = f.nm := by simpa using h
      exact no fun e => h (iff.1 e).1
  have h3 : f.ty = 3 := by simpa using h3
  have iff : fitP f x ↔ fitG f.nm f.ss x := by
    unfold fitP
    rw [if_pos h3]
    exact ⟨fun e => e.2.2, fun e => ⟨hlab, by omega, e⟩⟩
  have em : wrem ((f.ss.length : Nat) : Int) 11 = ((f.ss.length % 11 : Nat) : Int) := by
    show Int.tmod ((f.ss.length : Nat) : Int) 11 = _
    rw [Int.tmod_eq_emod_of_nonneg (by omega)]
    rfl
  rw [em]
  obtain ⟨k, hk⟩ : ∃ k, k = f.ss.length % 11 := ⟨_, rfl⟩
  have hk11 : k < 11 := by omega
  rw [← hk]
  refine ⟨by decide, ifB_intro (fun h9 => ?_) (fun h9 => ?_)⟩
  · have h9 : k < 9 := by
      have : (k : Int) < 9 := by simpa using h9
      omega
    have iff2 : fitP f x ↔ fitB f.nm f.ss x k := by
      rw [iff]; unfold fitG; rw [← hk, if_pos h9]
    refine ⟨by show (f.nm.size : Int) + ((7 : Nat) : Int) ≤ 9223372036854775807; omega, ifB_intro (fun h => ?_) (fun h => ?_)⟩
    · rw [sne_d] at h
      refine no fun e => ?_
      rw [iff2] at e
      obtain ⟨e1, ⟨base, e2⟩, _⟩ := e
      rcases bor_t.1 h with h | h
      · exact (by simpa using h : ¬ x.nm = scat f.nm bucN) e1
      · have h : (x.ls.length : Int) = 0 := by simpa using h
        rw [e2] at h; simp at h; omega
    rw [sne_d] at h
    obtain ⟨h1, h2⟩ := bor_f.1 h
    have hnm : x.nm = f.nm ++ bucN := (by simpa using h1 : x.nm = scat f.nm bucN)
    have hpos : 0 < x.ls.length := by
      have : ¬ (x.ls.length : Int) = 0 := by simpa using h2
      omega
    have hlt : x.ls.length - 1 < x.ls.length := by omega
    have ew : wsub .i64 ((x.ls.length : Nat) : Int) 1 = ((x.ls.length - 1 : Nat) : Int) := by rw [wsub_i64 (by omega) (by omega)]; omega
    rw [ew]
    have row := rget_mapI (fun p : LaD => [S p.1, S p.2]) x.ls ((x.ls.length - 1 : Nat) : Int) (by omega) (by omega)
    simp only [Int.toNat_natCast] at row
    refine ⟨by omega, _, _, row, Cl.of (le_fn k h9) ⟨_, rfl, ?_⟩⟩
    rw [labB]
    refine ifB_intro (fun h => ?_) (fun h => ?_)
    · refine no fun e => ?_
      obtain ⟨_, ⟨base, e2⟩, _⟩ := iff2.1 e
      obtain ⟨_, ⟨_, e3⟩, _⟩ := last_split.1 e2
      rw [e3] at h; simp at h
    have hla : x.ls[x.ls.length - 1] = (leN, bnd k) := by simpa [Prod.ext_iff] using h
    have hbase : ∃ base, x.ls = base ++ [(leN, bnd k)] := ⟨_, last_split.2 ⟨hpos, ⟨hlt, hla⟩, rfl⟩⟩
    refine ifB_intro (fun h0 => ?_) (fun h0 => ?_)
    · have h0 : k = 0 := by
        have : (k : Int) = 0 := by simpa using h0
        omega
      refine Cl.of (les_fn x.ls hx) ⟨_, rfl, _, rfl, ?_⟩
      rw [iff2]
      unfold fitB
      rw [if_pos h0]
      constructor
      · intro h
        have h : (lesN x.ls : Int) = 1 ∧ 0 ≤ x.v := by
          by_cases h5 : (lesN x.ls : Int) = 1 <;> by_cases h6 : 0 ≤ x.v <;> simp_all [bpick]
        exact ⟨hnm, hbase, by omega, h.2⟩
      · rintro ⟨_, _, h5, h6⟩
        simp [h5, h6]
    · have h0 : ¬ k = 0 := by
        have : ¬ (k : Int) = 0 := by simpa using h0
        omega
      have hfl : 0 < f.ss.length := by omega
      have ew2 : wsub .i64 ((f.ss.length : Nat) : Int) 1 = ((f.ss.length - 1 : Nat) : Int) := by rw [wsub_i64 (by omega) (by omega)]; omega
      rw [ew2]
      have rowy := rget_gat f.ss ((f.ss.length - 1 : Nat) : Int) (by omega) (by omega)
      simp only [Int.toNat_natCast] at rowy
      obtain ⟨y, hy⟩ : ∃ y, y = gat f.ss (f.ss.length - 1) := ⟨_, rfl⟩
      rw [← hy] at rowy
      have iff3 : fitP f x ↔ y.ls.length = x.ls.length ∧ x.ls.take (x.ls.length - 1) = y.ls.take (x.ls.length - 1) ∧ y.v ≤ x.v := by
        rw [iff2]; unfold fitB; rw [if_neg h0, ← hy]
        exact ⟨fun e => e.2.2, fun e => ⟨hnm, hbase, e⟩⟩
      refine ⟨by omega, _, _, _, rowy, ?_⟩
      rw [rlen_eq, List.length_map]
      refine ifB_intro (fun h => ?_) (fun h => ?_)
      · have h : y.ls.length = x.ls.length := by
          have : (y.ls.length : Int) = x.ls.length := by simpa using h
          omega
        refine ⟨by omega, by omega, ?_⟩
        have e1 : rsub (laR x.ls) 0 ((x.ls.length - 1 : Nat) : Int) = laR (x.ls.take (x.ls.length - 1)) := by simp [rsub, List.map_take]
        have e2 : rsub (laR y.ls) 0 ((x.ls.length - 1 : Nat) : Int) = laR (y.ls.take (x.ls.length - 1)) := by simp [rsub, List.map_take]
        rw [e1, e2]
        refine Cl.of (rlabels_fn _ _ (by rw [List.length_take]; omega)) ⟨_, rfl, _, rfl, ?_⟩
        rw [iff3]
        by_cases h5 : x.ls.take (x.ls.length - 1) = y.ls.take (x.ls.length - 1) <;> by_cases h6 : y.v ≤ x.v <;> simp [h, h5, h6]
      · have h : ¬ y.ls.length = x.ls.length := by
          have : ¬ (y.ls.length : Int) = x.ls.length := by simpa using h
          omega
        exact no fun e => h (iff3.1 e).1
  · have h9 : 9 ≤ k := by
      have : ¬ (k : Int) < 9 := by simpa using h9
      omega
    have hfl : 9 ≤ f.ss.length := by omega
    have ew : wsub .i64 (wsub .i64 ((f.ss.length : Nat) : Int) 1) (wsub .i64 (k : Int) 9) = ((f.ss.length - 1 - (k - 9) : Nat) : Int) := by
      rw [wsub_i64 (a := ((f.ss.length : Nat) : Int)) (by omega) (by omega), wsub_i64 (a := (k : Int)) (by omega) (by omega), wsub_i64 (by omega) (by omega)]
      omega
    rw [ew]
    have rowy := rget_gat f.ss ((f.ss.length - 1 - (k - 9) : Nat) : Int) (by omega) (by omega)
    simp only [Int.toNat_natCast] at rowy
    have hy0 := hs h3 (by omega)
    rw [← hk] at hy0
    obtain ⟨y, hy⟩ : ∃ y, y = gat f.ss (f.ss.length - 1 - (k - 9)) := ⟨_, rfl⟩
    rw [← hy] at rowy hy0
    have iff2 : fitP f x ↔ fitT f.nm y x k := by
      rw [iff]; unfold fitG; rw [← hk, if_neg (by omega), ← hy]
    have hyy : y.ls.length ≤ 4000000000000000000 := hyl y (by rw [hy]; exact gat_mem (by omega))
    have ew2 : wsub .i64 ((y.ls.length : Nat) : Int) 1 = ((y.ls.length - 1 : Nat) : Int) := by rw [wsub_i64 (by omega) (by omega)]; omega
    refine ⟨by omega, _, _, _, rowy, ?_⟩
    rw [rlen_eq, List.length_map, ew2]
    refine ⟨by omega, ?_⟩
    have e2 : rsub (laR y.ls) 0 ((y.ls.length - 1 : Nat) : Int) = laR (y.ls.take (y.ls.length - 1)) := by simp [rsub, List.map_take]
    rw [e2]
    refine Cl.of (rlabels_fn _ _ hx) ⟨_, rfl, ifB_intro (fun h => ?_) (fun h => ?_)⟩
    · have h : ¬ x.ls = y.ls.take (y.ls.length - 1) := by simpa using h
      exact no fun e => h (iff2.1 e).1
    have hls : x.ls = y.ls.take (y.ls.length - 1) := by simpa using h
    refine ifB_intro (fun h => ?_) (fun h => ?_)
    · have h : k = 9 := by
        have : (k : Int) = 9 := by simpa using h
        omega
      refine ⟨by show (f.nm.size : Int) + ((4 : Nat) : Int) ≤ 9223372036854775807; omega, _, rfl, ?_⟩
      rw [iff2]; unfold fitT
      rw [if_pos h, seq_d, decide_eq_true_iff]
      exact ⟨fun e => ⟨hls, e⟩, fun e => e.2⟩
    · have h : ¬ k = 9 := by
        have : ¬ (k : Int) = 9 := by simpa using h
        omega
      refine ⟨by show (f.nm.size : Int) + ((6 : Nat) : Int) ≤ 9223372036854775807; omega, _, rfl, ?_⟩
      rw [iff2]; unfold fitT
      rw [if_neg h, seq_d]
      constructor
      · intro e
        by_cases h5 : x.nm = scat f.nm couN
        · have h5d : decide (x.nm = scat f.nm (ByteArray.mk (Array.mk [95, 99, 111, 117, 110, 116]))) = true := decide_eq_true h5
          rw [h5d] at e
          exact ⟨hls, h5, by simpa [bpick] using e⟩
        · have h5d : decide (x.nm = scat f.nm (ByteArray.mk (Array.mk [95, 99, 111, 117, 110, 116]))) = false := decide_eq_false h5
          rw [h5d] at e
          simp [bpick] at e
      · rintro ⟨_, h5, h6⟩
        have h5d : decide (x.nm = scat f.nm (ByteArray.mk (Array.mk [95, 99, 111, 117, 110, 116]))) = true := decide_eq_true h5
        rw [h5d]
        simp [bpick, h6]

/-- A family's samples up to one. -/
def upto (f : FaD) (j : Nat) : FaD := { f with ss := f.ss.take j }
/-- Sample by sample. -/
def fitsUp (f : FaD) (j : Nat) : Prop := ∀ i : Nat, i < j → fitP (upto f i) (gat f.ss i)

theorem gat_take {l : List SmD} {i j : Nat} (h : i < j) : gat (l.take j) i = gat l i := by
  unfold gat
  rw [List.getD_eq_getElem?_getD, List.getD_eq_getElem?_getD, List.getElem?_take, if_pos h]

theorem sees_up {f : FaD} {j : Nat} (hj : j ≤ f.ss.length) (h : fitsUp f j) : seesP (upto f j) := by
  intro h3 h9
  have hl : (upto f j).ss.length = j := by show (f.ss.take j).length = j; rw [List.length_take]; omega
  have h3 : f.ty = 3 := h3
  rw [hl] at h9 ⊢
  have hg : gat (upto f j).ss (j - 1 - (j % 11 - 9)) = gat f.ss (j - 1 - (j % 11 - 9)) := gat_take (by omega)
  rw [hg]
  have := h (j - 1 - (j % 11 - 9)) (by omega)
  obtain ⟨_, _, h5⟩ := this
  rw [if_pos (show (upto f (j - 1 - (j % 11 - 9))).ty = 3 from h3)] at h5
  unfold fitG at h5
  have hl2 : (upto f (j - 1 - (j % 11 - 9))).ss.length % 11 = 8 := by
    show (f.ss.take _).length % 11 = 8
    rw [List.length_take]; omega
  rw [hl2, if_pos (by decide)] at h5
  obtain ⟨_, ⟨base, e⟩, _⟩ := h5
  rw [e]; simp

/-- What must be so of a family ahead of its samples, by the document. -/
def rhead (f : FaD) : Prop := namP f.nm ∧ f.hp.size ≤ 200 ∧ (1 ≤ f.ty ∧ f.ty ≤ 3) ∧ (0 < f.ss.length ∧ (f.ty = 3 → f.ss.length % 11 = 0))

/-- Sizes of what is handed over. -/
def szL (l : List LaD) : Prop := l.length ≤ 4000000000000000000 ∧ ∀ p ∈ l, p.1.size ≤ 9000000000000000000
def szF (f : FaD) : Prop := f.nm.size ≤ 9000000000000000000 ∧ f.ss.length ≤ 4000000000000000000 ∧ ∀ x ∈ f.ss, szL x.ls

theorem fitP_len {f : FaD} {j : Nat} (hj : j < f.ss.length) (h : fitP (upto f j) (gat f.ss j)) : j < 400 := by
  have := h.2.1
  have e : (upto f j).ss.length = j := by show (f.ss.take j).length = j; rw [List.length_take]; omega
  omega

theorem rright_fn (f : FaD) (hz : szF f) : Ct Tryz.prog 30 {} [.agg f.row] (fun r => ∃ b : Bool, r = [B b] ∧ (b = true ↔ rhead f ∧ fitsUp f f.ss.length)) := by
  have no : ¬ (rhead f ∧ fitsUp f f.ss.length) → ∃ b : Bool, ([B false] : List SV) = [B b] ∧ (b = true ↔ rhead f ∧ fitsUp f f.ss.length) := fun h => ⟨false, rfl, by simp [h]⟩
  refine rright_nf _ _ _ _ _ (Cl.of (rnam_fn f.nm hz.1) ⟨_, rfl, ifB_intro (fun h => ?_) (fun h => ?_)⟩)
  · refine no fun e => ?_
    obtain ⟨⟨e1, e2, e3, _⟩, _⟩ := e
    rcases bor_t.1 h with h | h
    · rcases bor_t.1 h with h | h
      · rcases bor_t.1 h with h | h
        · exact (by simpa using h : ¬ namP f.nm) e1
        · have h : 200 < (f.hp.size : Int) := by simpa using h
          omega
      · have h : f.ty < 1 := by simpa using h
        omega
    · have h : 3 < f.ty := by simpa using h
      omega
  obtain ⟨h, h4⟩ := bor_f.1 h
  obtain ⟨h, h3⟩ := bor_f.1 h
  obtain ⟨h1, h2⟩ := bor_f.1 h
  have h1 : namP f.nm := by simpa using h1
  have h2 : (f.hp.size : Int) ≤ 200 := by simpa using h2
  have h3 : 1 ≤ f.ty := by simpa using h3
  have h4 : f.ty ≤ 3 := by simpa using h4
  refine Cl.of (whole_fn f) ⟨_, rfl, ifB_intro (fun h => ?_) (fun h => ?_)⟩
  · have h : ¬ (0 < f.ss.length ∧ (f.ty = 3 → f.ss.length % 11 = 0)) := fun e => by rw [decide_eq_true e] at h; simp at h
    exact no fun e => h e.1.2.2.2
  have h5 : 0 < f.ss.length ∧ (f.ty = 3 → f.ss.length % 11 = 0) := by simpa using h
  have hh : rhead f := ⟨h1, by omega, ⟨h3, h4⟩, h5⟩
  refine ⟨fun _ i s s1 x1 l => (0 ≤ i ∧ i ≤ f.ss.length) ∧ s = f.nm ∧ s1 = f.hp ∧ x1 = f.ty ∧ l = smR (f.ss.take i.toNat) ∧ fitsUp f i.toNat, fun _ i _ _ _ _ => (f.ss.length - i).toNat, ⟨by omega, rfl, rfl, rfl, rfl, fun k hk => by simp at hk⟩, ?_⟩
  rintro b i _ _ _ _ ⟨⟨i0, il⟩, rfl, rfl, rfl, rfl, hp⟩
  refine ifB_intro (fun hi => ?_) (fun hi => ?_)
  · have hi : i < f.ss.length := by simpa using hi
    have hi' : i.toNat < f.ss.length := by omega
    have row := rget_gat f.ss i i0 hi
    have hm := gat_mem hi'
    have hlen : (f.ss.take i.toNat).length = i.toNat := by rw [List.length_take]; omega
    refine ⟨⟨i0, by rw [rlen_eq, List.length_map]; exact hi⟩, _, _, _, row, Cl.ofQ (fits_fn (upto f i.toNat) (gat f.ss i.toNat) (Nat.le_trans h1.1.2 (by decide)) (by show (f.ss.take i.toNat).length ≤ _; rw [hlen]; have := hz.2.1; omega) (hz.2.2 _ hm).1 (hz.2.2 _ hm).2
      (fun y hy => (hz.2.2 y (List.mem_of_mem_take hy)).1) (sees_up (by omega) hp)) ?_⟩
    rintro r ⟨b3, rfl, hb⟩
    refine ⟨b3, rfl, ifB_intro (fun h => ?_) (fun h => ?_)⟩
    · have h : b3 = false := by simpa using h
      refine no fun e => ?_
      have := hb.2 (e.2 _ hi')
      rw [h] at this; cases this
    have h : b3 = true := by simpa using h
    have hf := hb.1 h
    have h400 := fitP_len hi' hf
    have e1 : rapp (smR (f.ss.take i.toNat)) [SmD.row (gat f.ss i.toNat)] = smR (f.ss.take (i.toNat + 1)) := by
      show smR (f.ss.take i.toNat) ++ [SmD.row (gat f.ss i.toNat)] = _
      have : gat f.ss i.toNat = f.ss[i.toNat] := by
        unfold gat
        rw [List.getD_eq_getElem?_getD, List.getElem?_eq_getElem hi']
        rfl
      show List.map SmD.row (f.ss.take i.toNat) ++ [SmD.row (gat f.ss i.toNat)] = List.map SmD.row (f.ss.take (i.toNat + 1))
      rw [this, List.take_add_one, List.getElem?_eq_getElem hi', List.map_append]
      rfl
    refine ⟨⟨i0, by rw [rlen_eq, List.length_map]; exact hi⟩, _, _, _, row, ?_, rfl, ?_⟩
    · rw [rlen_eq, List.length_map, hlen]; show ((i.toNat : Nat) : Int) + 1 ≤ _; omega
    rw [wadd_i64 (by omega) (by omega)]
    refine ⟨⟨by omega, rfl, rfl, rfl, ?_, fun k hk => ?_⟩, mlt (by dsimp only; omega)⟩
    · rw [show (i + 1).toNat = i.toNat + 1 by omega]; exact e1
    · by_cases e : k = i.toNat
      · subst e; exact hf
      · exact hp k (by omega)
  · have hi : f.ss.length ≤ i := by
      have : ¬ i < (rlen (smR f.ss)) := by simpa using hi
      rw [rlen_eq, List.length_map] at this; omega
    refine ⟨true, rfl, by simp; exact ⟨hh, fun k hk => hp k (by omega)⟩⟩


theorem gat_grp {l : List SmD} {q r : Nat} (h : r < 11) : gat (grpS l q) r = gat l (11 * q + r) := by
  unfold grpS
  rw [gat_take h]
  unfold gat
  rw [List.getD_eq_getElem?_getD, List.getD_eq_getElem?_getD, List.getElem?_drop]

theorem lesN_snoc (l : List LaD) (v : ByteArray) : lesN (l ++ [(leN, v)]) = lesN l + 1 := by
  unfold lesN
  rw [List.filter_append, List.length_append]
  simp

/-- One group, sample by sample. -/
theorem grp_fits {n : ByteArray} {l : List SmD} {q : Nat} (hq : 11 * q + 11 ≤ l.length) : grpP n (grpS l q) ↔ ∀ r : Nat, r < 11 → fitG n (l.take (11 * q + r)) (gat l (11 * q + r)) := by
  have hlen : (grpS l q).length = 11 := by
    unfold grpS; rw [List.length_take, List.length_drop]; omega
  have tl : ∀ r, r < 11 → (l.take (11 * q + r)).length = 11 * q + r := fun r hr => by rw [List.length_take]; omega
  have fb : ∀ r, r < 9 → (fitG n (l.take (11 * q + r)) (gat l (11 * q + r)) ↔ fitB n (l.take (11 * q + r)) (gat l (11 * q + r)) r) := fun r hr => by
    unfold fitG
    rw [tl r (by omega), show (11 * q + r) % 11 = r by omega, if_pos hr]
  have ft : ∀ r, 9 ≤ r → r < 11 → (fitG n (l.take (11 * q + r)) (gat l (11 * q + r)) ↔ fitT n (gat l (11 * q + 8)) (gat l (11 * q + r)) r) := fun r h9 hr => by
    unfold fitG
    rw [tl r hr, show (11 * q + r) % 11 = r by omega, if_neg (by omega), gat_take (by omega), show 11 * q + r - 1 - (r - 9) = 11 * q + 8 by omega]
  have pv : ∀ r, r ≠ 0 → r < 9 → gat (l.take (11 * q + r)) ((l.take (11 * q + r)).length - 1) = gat l (11 * q + (r - 1)) := fun r h0 hr => by
    rw [tl r (by omega), gat_take (by omega), show 11 * q + r - 1 = 11 * q + (r - 1) by omega]
  constructor
  · rintro ⟨_, hg, hh, h9, h9l, h10, h10v⟩ r hr
    have G : ∀ i, i < 11 → gat (grpS l q) i = gat l (11 * q + i) := fun i hi => gat_grp hi
    rw [G 10 (by decide)] at hh h9l h10 h10v
    rw [G 9 (by decide)] at h9 h9l
    rw [G 8 (by decide)] at h10v
    have hb : ∀ i, i < 9 → (gat l (11 * q + i)).nm = n ++ bucN ∧ (gat l (11 * q + i)).ls = (gat l (11 * q + 10)).ls ++ [(leN, bnd i)] ∧ (if i = 0 then 0 else (gat l (11 * q + (i - 1))).v) ≤ (gat l (11 * q + i)).v := fun i hi => by
      have := hg i hi
      unfold bkP prv at this
      rw [G i (by omega), G 10 (by decide)] at this
      by_cases h0 : i = 0
      · subst h0; exact this
      · rw [if_neg h0, G (i - 1) (by omega)] at this
        rw [if_neg h0]; exact this
    by_cases h9' : r < 9
    · rw [fb r h9']
      obtain ⟨b1, b2, b3⟩ := hb r h9'
      refine ⟨b1, ⟨_, b2⟩, ?_⟩
      by_cases h0 : r = 0
      · rw [if_pos h0]
        rw [if_pos h0] at b3
        refine ⟨?_, b3⟩
        rw [b2, lesN_snoc, (lesN_zero _).2 hh]
      · rw [if_neg h0, pv r h0 h9']
        rw [if_neg h0] at b3
        obtain ⟨_, c2, _⟩ := hb (r - 1) (by omega)
        refine ⟨by rw [b2, c2]; simp, ?_, b3⟩
        rw [b2, c2]
        simp
    · rw [ft r (by omega) hr]
      obtain ⟨_, c2, _⟩ := hb 8 (by decide)
      have e8 : (gat l (11 * q + 8)).ls.take ((gat l (11 * q + 8)).ls.length - 1) = (gat l (11 * q + 10)).ls := by rw [c2]; simp
      unfold fitT
      rw [e8]
      by_cases h9 : r = 9
      · subst h9; exact ⟨h9l, by rw [if_pos rfl]; assumption⟩
      · obtain rfl : r = 10 := by omega
        exact ⟨rfl, by rw [if_neg (by decide)]; exact ⟨h10, h10v⟩⟩
  · intro h
    have hB : ∀ i, i < 9 → fitB n (l.take (11 * q + i)) (gat l (11 * q + i)) i := fun i hi => (fb i hi).1 (h i (by omega))
    have hT : ∀ i, 9 ≤ i → i < 11 → fitT n (gat l (11 * q + 8)) (gat l (11 * q + i)) i := fun i h9 hi => (ft i h9 hi).1 (h i hi)
    -- the labels of all buckets begin alike
    obtain ⟨base, hbase⟩ := (hB 0 (by decide)).2.1
    have hall : ∀ i, i < 9 → (gat l (11 * q + i)).ls = base ++ [(leN, bnd i)] := by
      intro i
      induction i with
      | zero => intro _; exact hbase
      | succ i ih =>
        intro hi
        have ihh := ih (by omega)
        obtain ⟨_, ⟨b', hb'⟩, h3⟩ := hB (i + 1) hi
        rw [if_neg (by omega), pv (i + 1) (by omega) hi, show i + 1 - 1 = i by omega] at h3
        obtain ⟨h4, h5, _⟩ := h3
        rw [ihh, hb'] at h5 h4
        have hlb : b'.length = base.length := by simp at h4; omega
        have e1 : (b' ++ [(leN, bnd (i + 1))]).length - 1 = b'.length := by simp
        rw [e1] at h5
        have : b' = base := by
          rw [List.take_left] at h5
          rw [hlb, List.take_left] at h5
          exact h5
        rw [hb', this]
    have hT9 := hT 9 (by decide) (by decide)
    have hT10 := hT 10 (by decide) (by decide)
    unfold fitT at hT9 hT10
    rw [hall 8 (by decide)] at hT9 hT10
    have e8 : (base ++ [(leN, bnd 8)]).take ((base ++ [(leN, bnd 8)]).length - 1) = base := by simp
    rw [e8] at hT9 hT10
    rw [if_pos rfl] at hT9
    rw [if_neg (by decide)] at hT10
    have G : ∀ i, i < 11 → gat (grpS l q) i = gat l (11 * q + i) := fun i hi => gat_grp hi
    refine ⟨hlen, fun i hi => ?_, ?_, ?_, ?_, ?_, ?_⟩
    · unfold bkP prv
      rw [G i (by omega), G 10 (by decide), hT10.1]
      refine ⟨(hB i hi).1, hall i hi, ?_⟩
      have h3 := (hB i hi).2.2
      by_cases h0 : i = 0
      · rw [if_pos h0] at h3 ⊢; exact h3.2
      · rw [if_neg h0, pv i h0 hi] at h3
        rw [if_neg h0, G (i - 1) (by omega)]
        exact h3.2.2
    · rw [G 10 (by decide), hT10.1, ← lesN_zero]
      have h3 := (hB 0 (by decide)).2.2
      rw [if_pos rfl] at h3
      have := h3.1
      rw [hall 0 (by decide), lesN_snoc] at this
      omega
    · rw [G 9 (by decide)]; exact hT9.2
    · rw [G 9 (by decide), G 10 (by decide), hT9.1, hT10.1]
    · rw [G 10 (by decide)]; exact hT10.2.1
    · rw [G 10 (by decide), G 8 (by decide)]; exact hT10.2.2

/-- All groups, sample by sample. -/
theorem grps_fits {n : ByteArray} {l : List SmD} : grpsP n l ↔ l.length % 11 = 0 ∧ ∀ i : Nat, i < l.length → fitG n (l.take i) (gat l i) := by
  constructor
  · intro h
    have hm : l.length % 11 = 0 := by
      refine Classical.byContradiction fun hne => ?_
      have := (h (l.length / 11) (by omega)).1
      unfold grpS at this
      rw [List.length_take, List.length_drop] at this
      omega
    refine ⟨hm, fun i hi => ?_⟩
    have := (grp_fits (q := i / 11) (by omega)).1 (h (i / 11) (by omega)) (i % 11) (by omega)
    rwa [show 11 * (i / 11) + i % 11 = i by omega] at this
  · rintro ⟨hm, h⟩ q hq
    exact (grp_fits (by omega)).2 fun r hr => h _ (by omega)

theorem gat_get {l : List SmD} {i : Nat} (h : i < l.length) : gat l i = l[i] := by
  unfold gat
  rw [List.getD_eq_getElem?_getD, List.getElem?_eq_getElem h]
  rfl

theorem fam_iff (f : FaD) : famP f ↔ rhead f ∧ fitsUp f f.ss.length := by
  have e : ∀ i, i < f.ss.length → (fitP (upto f i) (gat f.ss i) ↔ labP (gat f.ss i).ls ∧ i < 400 ∧ (if f.ty = 3 then fitG f.nm (f.ss.take i) (gat f.ss i) else (gat f.ss i).nm = f.nm ∧ hasB (gat f.ss i).ls leN = false)) := fun i hi => by
    unfold fitP
    have : (upto f i).ss.length = i := by show (f.ss.take i).length = i; rw [List.length_take]; omega
    rw [this]
    rfl
  constructor
  · rintro ⟨⟨h1, h2, h3, h4, h5⟩, hl, hg⟩
    refine ⟨⟨h1, h2, h3, by omega, fun ht => ?_⟩, fun i hi => ?_⟩
    · rw [if_pos ht] at hg; exact (grps_fits.1 hg).1
    · rw [e i hi]
      refine ⟨hl _ (gat_mem hi), by omega, ?_⟩
      by_cases ht : f.ty = 3
      · rw [if_pos ht] at hg ⊢
        exact (grps_fits.1 hg).2 i hi
      · rw [if_neg ht] at hg ⊢
        exact hg _ (gat_mem hi)
  · rintro ⟨⟨h1, h2, h3, h4, h5⟩, hf⟩
    have hf' := fun i hi => (e i hi).1 (hf i hi)
    have h400 := (hf' (f.ss.length - 1) (by omega)).2.1
    refine ⟨⟨h1, h2, h3, by omega, by omega⟩, fun x hx => ?_, ?_⟩
    · obtain ⟨i, hi, rfl⟩ := List.mem_iff_getElem.1 hx
      have := (hf' i hi).1
      rwa [gat_get hi] at this
    · by_cases ht : f.ty = 3
      · rw [if_pos ht]
        refine grps_fits.2 ⟨h5 ht, fun i hi => ?_⟩
        have := (hf' i hi).2.2
        rwa [if_pos ht] at this
      · rw [if_neg ht]
        intro x hx
        obtain ⟨i, hi, rfl⟩ := List.mem_iff_getElem.1 hx
        have := (hf' i hi).2.2
        rw [if_neg ht, gat_get hi] at this
        exact this

theorem rright_full (f : FaD) (hz : szF f) : Ct Tryz.prog 30 {} [.agg f.row] (fun r => r = [B (decide (famP f))]) := by
  refine (rright_fn f hz).mono ?_
  rintro r ⟨b, rfl, hb⟩
  rw [← fam_iff] at hb
  congr 2
  by_cases h : famP f
  · rw [hb.2 h, decide_eq_true h]
  · have : b = false := by
      cases b with
      | false => rfl
      | true => exact absurd (hb.1 rfl) h
    rw [this, decide_eq_false h]

theorem sle_sge (a b : ByteArray) : sle a b = sge b a := by rw [sge_d, sle_d]

theorem rall_full (l : List FaD) (hl : l.length ≤ 4000000000000000000) (hs : ∀ f ∈ l, szF f) : Ct Tryz.prog 18 {} [SL 4 (faR l)] (fun r => r = [B (decide (allP l))]) := by
  have no : ¬ allP l → ([B false] : List SV) = [B (decide (allP l))] := fun h => by simp [h]
  refine rall_nf _ _ ⟨fun _ i => (0 ≤ i ∧ i ≤ l.length) ∧ upP l i.toNat, fun _ i => (l.length - i).toNat, ⟨by omega, fun k hk => absurd hk (by simp)⟩, ?_⟩
  rintro b i ⟨⟨i0, il⟩, hp⟩
  rw [rlen_eq, List.length_map]
  refine ifB_intro (fun hi => ?_) (fun hi => ?_)
  · have hi : i < l.length := by simpa using hi
    have hi' : i.toNat < l.length := by omega
    have row := rget_mapI FaD.row l i i0 hi
    refine ⟨⟨i0, hi⟩, _, _, _, _, row, Cl.of (rright_full l[i.toNat] (hs _ (List.getElem_mem hi'))) ⟨_, rfl, ifB_intro (fun h => ?_) (fun h => ?_)⟩⟩
    · have h : ¬ famP l[i.toNat] := by simpa using h
      exact no fun e => h (e.2 _ hi' hi').1
    have hf : famP l[i.toNat] := by simpa using h
    have nx : (0 < i.toNat → sge l[i.toNat - 1].nm l[i.toNat].nm = false) → upP l (i + 1).toNat := by
      intro hg k hk hkl
      by_cases e : k = i.toNat
      · subst e; exact ⟨hf, hg⟩
      · exact hp k (by omega) hkl
    refine ifB_intro (fun h => ?_) (fun h => ?_)
    · have h : 0 < i := by simpa using h
      have e1 : wsub .i64 i 1 = i - 1 := wsub_i64 (by omega) (by omega)
      rw [e1, wadd_i64 (by omega) (by omega)]
      have e2 : (i - 1).toNat = i.toNat - 1 := by omega
      have hr := rget_mapI FaD.row l (i - 1) (by omega) (by omega)
      simp only [e2] at hr
      refine ⟨⟨i0, hi⟩, _, _, _, _, row, by omega, _, _, _, _, hr, ?_⟩
      have esw : sle l[i.toNat].nm l[i.toNat - 1].nm = sge l[i.toNat - 1].nm l[i.toNat].nm := sle_sge _ _
      rw [esw]
      refine ifB_intro (fun hs => ?_) (fun hs => ⟨rfl, ⟨by omega, nx fun _ => hs⟩, mlt (by dsimp only; omega)⟩)
      exact no fun e => by
        have := (e.2 i.toNat hi' hi').2 (by omega)
        rw [this] at hs; cases hs
    · have h : i = 0 := by
        have : ¬ 0 < i := by simpa using h
        omega
      rw [wadd_i64 (by omega) (by omega)]
      exact ⟨rfl, ⟨by omega, nx fun h0 => by omega⟩, mlt (by dsimp only; omega)⟩
  · have hi : l.length ≤ i := by simpa using hi
    have e : allP l ↔ l.length ≤ 40 := ⟨fun e => e.1, fun e => ⟨e, fun k hk hkl => hp k (by omega) hkl⟩⟩
    have : ile (l.length : Int) 40 = decide (allP l) := by
      simp only [ile_eq]
      by_cases h : l.length ≤ 40 <;> simp [e, h] <;> omega
    rw [this]


theorem rshort_fn (l : List FaD) (hl : l.length ≤ 4000000000000000000) (hs : ∀ f ∈ l, szF f) : Ct Tryz.prog 10 {} [SL 4 (faR l)] (fun r => ∃ b : Bool, r = [B b]) := by
  refine rshort_nf _ _ ⟨fun _ i => 0 ≤ i ∧ i ≤ l.length, fun _ i => (l.length - i).toNat, by omega, ?_⟩
  rintro n i ⟨i0, il⟩
  rw [rlen_eq, List.length_map]
  refine ifB_intro (fun hi => ?_) (fun hi => ⟨_, rfl⟩)
  have hi : i < l.length := by simpa using hi
  have hi' : i.toNat < l.length := by omega
  have row := rget_mapI FaD.row l i i0 hi
  obtain ⟨p, hpd⟩ : ∃ p, p = l[i.toNat] := ⟨_, rfl⟩
  have hz := hs _ (List.getElem_mem hi')
  rw [← hpd] at row hz
  have hpl := hz.2.1
  refine ⟨⟨i0, hi⟩, _, _, _, _, row, ⟨i0, hi⟩, _, _, _, _, row, ⟨i0, hi⟩, _, _, _, _, row, fun _ k => 0 ≤ k ∧ k ≤ p.ss.length, fun _ k => (p.ss.length - k).toNat, by omega, ?_⟩
  rintro n1 k ⟨k0, kl⟩
  refine ⟨⟨i0, hi⟩, _, _, _, _, row, ?_⟩
  rw [rlen_eq, List.length_map]
  refine ifB_intro (fun hk => ?_) (fun hk => ?_)
  · have hk : k < p.ss.length := by simpa using hk
    have hk' : k.toNat < p.ss.length := by omega
    have rowk := rget_mapI SmD.row p.ss k k0 hk
    obtain ⟨u, hud⟩ : ∃ u, u = p.ss[k.toNat] := ⟨_, rfl⟩
    have hul := (hz.2.2 _ (List.getElem_mem hk')).1
    rw [← hud] at rowk hul
    refine ⟨⟨i0, hi⟩, _, _, _, _, row, ⟨k0, by rw [rlen_eq, List.length_map]; exact hk⟩, _, _, _, rowk, fun _ j => 0 ≤ j ∧ j ≤ u.ls.length, fun _ j => (u.ls.length - j).toNat, by omega, ?_⟩
    rintro n2 j ⟨j0, jl⟩
    rw [rlen_eq, List.length_map]
    refine ifB_intro (fun hj => ?_) (fun hj => ?_)
    · have hj : j < u.ls.length := by simpa using hj
      have rowj := rget_mapI (fun p : LaD => [S p.1, S p.2]) u.ls j j0 hj
      rw [wadd_i64 (a := j) (by omega) (by omega)]
      exact ⟨⟨j0, hj⟩, _, _, rowj, ⟨j0, hj⟩, _, _, rowj, rfl, by omega, mlt (by dsimp only; omega)⟩
    · rw [wadd_i64 (a := k) (by omega) (by omega)]
      exact ⟨rfl, by omega, mlt (by dsimp only; omega)⟩
  · rw [wadd_i64 (a := i) (by omega) (by omega)]
    exact ⟨rfl, by omega, mlt (by dsimp only; omega)⟩

/-- A state that isn't too much for a look. -/
def shortS (d : StD) : Prop := d.cs.length ≤ 20 ∧ ∀ c ∈ d.cs, c.nm.size ≤ 100 ∧ c.cl.length ≤ 40

end Go.Proofs.YtknnooannohflaaGreatDoor.Met

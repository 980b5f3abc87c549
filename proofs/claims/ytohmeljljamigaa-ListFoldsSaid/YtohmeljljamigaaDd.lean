/- Layer 10: disks as plain data, and what is done to them. -/
import Derived.Test.YtohmeljljamigaaOrd
namespace Go.Px
set_option linter.unusedVariables false

/-- Bytes as rows. -/
abbrev uR (l : List UInt8) : List (List SV) := l.map fun b => [U8 (b.toNat : Int)]
structure FiD where
  nm : ByteArray
  su : List UInt8
  lo : List UInt8
deriving DecidableEq
abbrev FiD.row (f : FiD) : List SV := [S f.nm, SL 1 (uR f.su), SL 1 (uR f.lo)]
abbrev fR (l : List FiD) : List (List SV) := l.map FiD.row
def FiD.len (f : FiD) : Nat := f.su.length + f.lo.length
def usedL (l : List FiD) : Nat := (l.map FiD.len).sum
structure DiD where
  fs : List FiD
  rm : Int
  st : Int
  dn : Bool
deriving DecidableEq
abbrev DiD.sv (d : DiD) : SV := .agg [SL 3 (fR d.fs), I d.rm, I d.st, B d.dn]

/-- Bytes that a file's name may have. -/
def fchr (b : UInt8) : Bool := decide (97 ≤ b.toNat ∧ b.toNat ≤ 122 ∨ 48 ≤ b.toNat ∧ b.toNat ≤ 57 ∨ b.toNat = 46)
def fnB (s : ByteArray) : Bool := decide (1 ≤ s.size ∧ s.size ≤ 16) && s.data.toList.all fchr

def DiD.P (d : DiD) : Prop := (d.fs.length ≤ 64 ∧ 0 ≤ d.rm ∧ d.rm ≤ 65536 ∧ -1 ≤ d.st) ∧ (usedL d.fs : Int) ≤ d.rm ∧ (∀ f ∈ d.fs, fnB f.nm = true) ∧ srt FiD.nm d.fs
instance (d : DiD) : Decidable d.P := inferInstanceAs (Decidable (_ ∧ _))

def DiD.er (d : DiD) (a b : ByteArray) : Int := if d.P then (if d.dn = true then 16 else if fnB a = true ∧ fnB b = true then 0 else 1) else 1
def DiD.get (d : DiD) (s : ByteArray) : Option FiD := d.fs.find? fun f => decide (f.nm = s)
def DiD.tick (d : DiD) : DiD := { d with st := if 0 < d.st then d.st - 1 else d.st }
/-- An operation that takes a step. -/
def DiD.perf (d : DiD) (fs : List FiD) : DiD × Int := if d.st = 0 then ({ d with dn := true }, 16) else ({ d.tick with fs := fs }, 0)

def opCreate (d : DiD) (s : ByteArray) : DiD × Int :=
  if d.er s s ≠ 0 then (d, d.er s s) else match d.get s with
  | some _ => (d, 7)
  | none => if d.fs.length = 64 then (d, 13) else d.perf (withB FiD.nm d.fs ⟨s, [], []⟩)
def opAppend (d : DiD) (s : ByteArray) (x : List UInt8) : DiD × Int :=
  if d.er s s ≠ 0 then (d, d.er s s) else match d.get s with
  | none => (d, 14)
  | some f => if d.rm - usedL d.fs < x.length then (d, 13) else
      if d.st = 0 then ({ d with dn := true, fs := withB FiD.nm d.fs ⟨s, f.su, f.lo ++ x⟩ }, 16) else ({ d.tick with fs := withB FiD.nm d.fs ⟨s, f.su, f.lo ++ x⟩ }, 0)
def opSync (d : DiD) (s : ByteArray) : DiD × Int :=
  if d.er s s ≠ 0 then (d, d.er s s) else match d.get s with
  | none => (d, 14)
  | some f => d.perf (withB FiD.nm d.fs ⟨s, f.su ++ f.lo, []⟩)
def opRename (d : DiD) (a b : ByteArray) : DiD × Int :=
  if d.er a b ≠ 0 then (d, d.er a b) else match d.get a with
  | none => (d, 14)
  | some f => d.perf (withB FiD.nm (wout FiD.nm d.fs a) ⟨b, f.su, f.lo⟩)
def opRemove (d : DiD) (s : ByteArray) : DiD × Int :=
  if d.er s s ≠ 0 then (d, d.er s s) else match d.get s with
  | none => (d, 14)
  | some f => d.perf (wout FiD.nm d.fs s)
def opCut (d : DiD) (s : ByteArray) (n : Int) : DiD × Int :=
  if d.er s s ≠ 0 then (d, d.er s s) else match d.get s with
  | none => (d, 14)
  | some f => if n < 0 ∨ (f.len : Int) < n then (d, 1) else d.perf (withB FiD.nm d.fs ⟨s, f.su.take n.toNat, f.lo.take (n.toNat - f.su.length)⟩)
def opRead (d : DiD) (s : ByteArray) : List UInt8 × Int :=
  if d.er s s ≠ 0 then ([], d.er s s) else match d.get s with
  | none => ([], 14)
  | some f => (f.su ++ f.lo, 0)

/-- How many bytes are left of those that were not synced. -/
def more (ks : List Int) (i n : Nat) : Nat := if ks = [] then 0 else min (ks.getD (i % ks.length) 0).toNat n
def wakeF (ks : List Int) (i : Nat) (f : FiD) : FiD := ⟨f.nm, f.su ++ f.lo.take (more ks i f.lo.length), []⟩
def wakeL (ks : List Int) (l : List FiD) : List FiD := l.mapIdx fun i f => wakeF ks i f
def opWake (d : DiD) (ks : List Int) (n : Int) : DiD × Int :=
  if ¬ d.P ∨ n < -1 then (d, 1) else (⟨wakeL ks d.fs, d.rm, n, false⟩, 0)

theorem DiD.get_cases (d : DiD) (s : ByteArray) :
    (d.get s = none ∧ fAt FiD.nm d.fs s = -1 ∧ ∀ f ∈ d.fs, f.nm ≠ s) ∨ ∃ i : Nat, ∃ h : i < d.fs.length, fAt FiD.nm d.fs s = i ∧ d.get s = some d.fs[i] ∧ d.fs[i].nm = s := by
  rcases fAt_cases (nm := FiD.nm) (l := d.fs) (s := s) with h | ⟨i, hi, h1, h2, h3⟩
  · refine .inl ⟨?_, h, fAt_none.1 h⟩
    unfold DiD.get
    rw [List.find?_eq_none]
    intro f hf; have := fAt_none.1 h f hf; simpa using this
  · refine .inr ⟨i, hi, h1, ?_, h2⟩
    unfold DiD.get
    rw [List.find?_eq_some_iff_getElem]
    exact ⟨by simpa using h2, i, hi, rfl, fun j hj => by simpa using h3 j hj⟩

theorem er_zero {d : DiD} {a b : ByteArray} : d.er a b = 0 ↔ d.P ∧ d.dn = false ∧ fnB a = true ∧ fnB b = true := by
  unfold DiD.er
  by_cases h : d.P <;> by_cases k : d.dn = true <;> by_cases m : fnB a = true ∧ fnB b = true <;> simp [h, k, m]
  all_goals simp_all

theorem usedL_cons (f : FiD) (l : List FiD) : usedL (f :: l) = f.len + usedL l := by simp [usedL]
theorem usedL_app (a b : List FiD) : usedL (a ++ b) = usedL a + usedL b := by simp [usedL]
theorem usedL_nil : usedL [] = 0 := rfl
theorem usedL_insB {l : List FiD} {f : FiD} : usedL (insB FiD.nm l f) = usedL l + f.len := by
  have e := congrArg usedL (ahd_bhd (nm := FiD.nm) l f.nm)
  rw [usedL_app] at e
  rw [insB, usedL_app, usedL_cons]; omega
theorem usedL_split {l : List FiD} {i : Nat} (hi : i < l.length) : usedL l = usedL (l.take i) + l[i].len + usedL (l.drop (i + 1)) := by
  have := congrArg usedL (split_at hi)
  rw [usedL_app, usedL_cons] at this; omega
theorem usedL_wout {l : List FiD} (h : srt FiD.nm l) {i : Nat} (hi : i < l.length) : usedL (wout FiD.nm l l[i].nm) + l[i].len = usedL l := by
  rw [wout_split h hi, usedL_app, usedL_split hi]; omega
theorem usedL_wle (l : List FiD) (s : ByteArray) : usedL (wout FiD.nm l s) ≤ usedL l := by
  induction l with
  | nil => simp [wout]
  | cons a l ih =>
    unfold wout at ih ⊢
    rw [List.filter_cons]
    split
    · rw [usedL_cons, usedL_cons]; omega
    · rw [usedL_cons]; omega
theorem usedL_withB {l : List FiD} {f : FiD} (h : srt FiD.nm l) {i : Nat} (hi : i < l.length) (e : f.nm = l[i].nm) : usedL (withB FiD.nm l f) + l[i].len = usedL l + f.len := by
  unfold withB
  rw [usedL_insB, e]
  have := usedL_wout h hi; omega
theorem usedL_mem {l : List FiD} {f : FiD} (h : f ∈ l) : f.len ≤ usedL l := by
  obtain ⟨i, hi, rfl⟩ := List.mem_iff_getElem.1 h
  rw [usedL_split hi]; omega

theorem perf_P {d : DiD} {fs : List FiD} (h : d.P) (h1 : fs.length ≤ 64) (h2 : (usedL fs : Int) ≤ d.rm) (h3 : ∀ f ∈ fs, fnB f.nm = true) (h4 : srt FiD.nm fs) : (d.perf fs).1.P := by
  obtain ⟨⟨a1, a2, a3, a4⟩, a5, a6, a7⟩ := h
  unfold DiD.perf
  split
  · exact ⟨⟨a1, a2, a3, a4⟩, a5, a6, a7⟩
  · refine ⟨⟨h1, a2, a3, ?_⟩, h2, h3, h4⟩
    simp only [DiD.tick]; split <;> omega
theorem tick_P {d : DiD} {fs : List FiD} (h : d.P) (h1 : fs.length ≤ 64) (h2 : (usedL fs : Int) ≤ d.rm) (h3 : ∀ f ∈ fs, fnB f.nm = true) (h4 : srt FiD.nm fs) : ({ d.tick with fs := fs } : DiD).P := by
  obtain ⟨⟨a1, a2, a3, a4⟩, a5, a6, a7⟩ := h
  refine ⟨⟨h1, a2, a3, ?_⟩, h2, h3, h4⟩
  simp only [DiD.tick]; split <;> omega
theorem dn_P {d : DiD} {fs : List FiD} (b : Bool) (h : d.P) (h1 : fs.length ≤ 64) (h2 : (usedL fs : Int) ≤ d.rm) (h3 : ∀ f ∈ fs, fnB f.nm = true) (h4 : srt FiD.nm fs) : ({ d with dn := b, fs := fs } : DiD).P := by
  obtain ⟨⟨a1, a2, a3, a4⟩, a5, a6, a7⟩ := h
  exact ⟨⟨h1, a2, a3, a4⟩, h2, h3, h4⟩

theorem with_names {l : List FiD} {f : FiD} (h : ∀ g ∈ l, fnB g.nm = true) (hf : fnB f.nm = true) : ∀ g ∈ withB FiD.nm l f, fnB g.nm = true := by
  intro g hg
  rcases mem_withB.1 hg with rfl | ⟨hg, _⟩
  · exact hf
  · exact h g hg
theorem len_wout {l : List FiD} {s : ByteArray} : (wout FiD.nm l s).length ≤ l.length := List.length_filter_le _ _

theorem perf_st {d : DiD} {fs : List FiD} : (d.perf fs).1.st ≤ d.st := by
  unfold DiD.perf; split
  · exact Int.le_refl _
  · simp only [DiD.tick]; split <;> omega
theorem opCreate_st {d : DiD} {s : ByteArray} : (opCreate d s).1.st ≤ d.st := by
  unfold opCreate; split
  · exact Int.le_refl _
  · split
    · exact Int.le_refl _
    · split
      · exact Int.le_refl _
      · exact perf_st
theorem opAppend_st {d : DiD} {s : ByteArray} {x : List UInt8} : (opAppend d s x).1.st ≤ d.st := by
  unfold opAppend; split
  · exact Int.le_refl _
  · split
    · exact Int.le_refl _
    · split
      · exact Int.le_refl _
      · split
        · exact Int.le_refl _
        · simp only [DiD.tick]; split <;> omega
theorem opSync_st {d : DiD} {s : ByteArray} : (opSync d s).1.st ≤ d.st := by
  unfold opSync; split
  · exact Int.le_refl _
  · split
    · exact Int.le_refl _
    · exact perf_st
theorem opRename_st {d : DiD} {a b : ByteArray} : (opRename d a b).1.st ≤ d.st := by
  unfold opRename; split
  · exact Int.le_refl _
  · split
    · exact Int.le_refl _
    · exact perf_st
theorem opRemove_st {d : DiD} {s : ByteArray} : (opRemove d s).1.st ≤ d.st := by
  unfold opRemove; split
  · exact Int.le_refl _
  · split
    · exact Int.le_refl _
    · exact perf_st
theorem opCut_st {d : DiD} {s : ByteArray} {n : Int} : (opCut d s n).1.st ≤ d.st := by
  unfold opCut; split
  · exact Int.le_refl _
  · split
    · exact Int.le_refl _
    · split
      · exact Int.le_refl _
      · exact perf_st
theorem opCreate_P {d : DiD} {s : ByteArray} (h : d.P) : (opCreate d s).1.P := by
  unfold opCreate
  by_cases he : d.er s s = 0
  · rw [if_neg (by simpa using he)]
    obtain ⟨_, _, hn, _⟩ := er_zero.1 he
    rcases d.get_cases s with ⟨h1, _, h3⟩ | ⟨i, hi, _, h1, _⟩
    · rw [h1]
      dsimp only
      split
      · exact h
      · have hl : d.fs.length ≤ 64 := h.1.1
        refine perf_P h ?_ ?_ (with_names h.2.2.1 hn) (srt_withB h.2.2.2)
        · rw [withB_new h3, len_insB]; omega
        · rw [withB_new h3, usedL_insB]
          have := h.2.1
          simp only [FiD.len, List.length_nil]; omega
    · rw [h1]; exact h
  · rw [if_pos (by simpa using he)]; exact h
theorem opAppend_P {d : DiD} {s : ByteArray} {x : List UInt8} (h : d.P) : (opAppend d s x).1.P := by
  unfold opAppend
  by_cases he : d.er s s = 0
  · rw [if_neg (by simpa using he)]
    obtain ⟨_, _, hn, _⟩ := er_zero.1 he
    rcases d.get_cases s with ⟨h1, _, _⟩ | ⟨i, hi, _, h1, h2⟩
    · rw [h1]; exact h
    · rw [h1]
      dsimp only
      split
      · exact h
      · rename_i hx
        have l1 : (withB FiD.nm d.fs ⟨s, d.fs[i].su, d.fs[i].lo ++ x⟩).length ≤ 64 := by rw [len_withB_old h.2.2.2 hi h2.symm]; exact h.1.1
        have l2 : (usedL (withB FiD.nm d.fs ⟨s, d.fs[i].su, d.fs[i].lo ++ x⟩) : Int) ≤ d.rm := by
          have := usedL_withB (f := ⟨s, d.fs[i].su, d.fs[i].lo ++ x⟩) h.2.2.2 hi h2.symm
          have e1 : (FiD.len ⟨s, d.fs[i].su, d.fs[i].lo ++ x⟩) = d.fs[i].len + x.length := by simp [FiD.len]; omega
          rw [e1] at this; omega
        split
        · exact dn_P true h l1 l2 (with_names h.2.2.1 hn) (srt_withB h.2.2.2)
        · exact tick_P h l1 l2 (with_names h.2.2.1 hn) (srt_withB h.2.2.2)
  · rw [if_pos (by simpa using he)]; exact h
theorem opSync_P {d : DiD} {s : ByteArray} (h : d.P) : (opSync d s).1.P := by
  unfold opSync
  by_cases he : d.er s s = 0
  · rw [if_neg (by simpa using he)]
    obtain ⟨_, _, hn, _⟩ := er_zero.1 he
    rcases d.get_cases s with ⟨h1, _, _⟩ | ⟨i, hi, _, h1, h2⟩
    · rw [h1]; exact h
    · rw [h1]
      refine perf_P h ?_ ?_ (with_names h.2.2.1 hn) (srt_withB h.2.2.2)
      · rw [len_withB_old h.2.2.2 hi h2.symm]; exact h.1.1
      · have := usedL_withB (f := ⟨s, d.fs[i].su ++ d.fs[i].lo, []⟩) h.2.2.2 hi h2.symm
        have e1 : (FiD.len ⟨s, d.fs[i].su ++ d.fs[i].lo, []⟩) = d.fs[i].len := by simp [FiD.len]
        have := h.2.1; omega
  · rw [if_pos (by simpa using he)]; exact h
theorem opRename_P {d : DiD} {a b : ByteArray} (h : d.P) : (opRename d a b).1.P := by
  unfold opRename
  by_cases he : d.er a b = 0
  · rw [if_neg (by simpa using he)]
    obtain ⟨_, _, _, hn⟩ := er_zero.1 he
    rcases d.get_cases a with ⟨h1, _, _⟩ | ⟨i, hi, _, h1, h2⟩
    · rw [h1]; exact h
    · rw [h1]
      have hs := srt_wout (s := a) h.2.2.2
      have hw : wout FiD.nm d.fs a = d.fs.take i ++ d.fs.drop (i + 1) := by rw [← h2]; exact wout_split h.2.2.2 hi
      have hl : (wout FiD.nm d.fs a).length + 1 = d.fs.length := by rw [hw]; simp; omega
      have hu : usedL (wout FiD.nm d.fs a) + d.fs[i].len = usedL d.fs := by rw [← h2]; exact usedL_wout h.2.2.2 hi
      have h5 := h.2.1
      have h6 := h.1.1
      refine perf_P h ?_ ?_ (with_names (fun g hg => h.2.2.1 g (mem_wout.1 hg).1) hn) (srt_withB hs)
      · unfold withB; rw [len_insB]; have := len_wout (l := wout FiD.nm d.fs a) (s := b); show (wout FiD.nm (wout FiD.nm d.fs a) b).length + 1 ≤ 64; omega
      · unfold withB; rw [usedL_insB]
        have := usedL_wle (wout FiD.nm d.fs a) b
        simp only [FiD.len] at hu ⊢; omega
  · rw [if_pos (by simpa using he)]; exact h
theorem opRemove_P {d : DiD} {s : ByteArray} (h : d.P) : (opRemove d s).1.P := by
  unfold opRemove
  by_cases he : d.er s s = 0
  · rw [if_neg (by simpa using he)]
    rcases d.get_cases s with ⟨h1, _, _⟩ | ⟨i, hi, _, h1, h2⟩
    · rw [h1]; exact h
    · rw [h1]
      have := len_wout (l := d.fs) (s := s)
      have := usedL_wle d.fs s
      have h5 := h.2.1
      have h6 := h.1.1
      exact perf_P h (by omega) (by omega) (fun g hg => h.2.2.1 g (mem_wout.1 hg).1) (srt_wout h.2.2.2)
  · rw [if_pos (by simpa using he)]; exact h
theorem opCut_P {d : DiD} {s : ByteArray} {n : Int} (h : d.P) : (opCut d s n).1.P := by
  unfold opCut
  by_cases he : d.er s s = 0
  · rw [if_neg (by simpa using he)]
    obtain ⟨_, _, hn, _⟩ := er_zero.1 he
    rcases d.get_cases s with ⟨h1, _, _⟩ | ⟨i, hi, _, h1, h2⟩
    · rw [h1]; exact h
    · rw [h1]
      dsimp only
      split
      · exact h
      · refine perf_P h ?_ ?_ (with_names h.2.2.1 hn) (srt_withB h.2.2.2)
        · rw [len_withB_old h.2.2.2 hi h2.symm]; exact h.1.1
        · have := usedL_withB (f := ⟨s, d.fs[i].su.take n.toNat, d.fs[i].lo.take (n.toNat - d.fs[i].su.length)⟩) h.2.2.2 hi h2.symm
          have e1 : (FiD.len ⟨s, d.fs[i].su.take n.toNat, d.fs[i].lo.take (n.toNat - d.fs[i].su.length)⟩) ≤ d.fs[i].len := by simp [FiD.len]; omega
          have := h.2.1; omega
  · rw [if_pos (by simpa using he)]; exact h

theorem wakeL_len (ks : List Int) (l : List FiD) : (wakeL ks l).length = l.length := by simp [wakeL]
theorem wakeL_get (ks : List Int) (l : List FiD) (i : Nat) (h : i < (wakeL ks l).length) : (wakeL ks l)[i] = wakeF ks i (l[i]'(by rw [wakeL_len] at h; exact h)) := by simp [wakeL]
theorem used_mapIdx : ∀ (l : List FiD) (g : Nat → FiD → FiD), (∀ i f, (g i f).len ≤ f.len) → usedL (l.mapIdx g) ≤ usedL l
  | [], _, _ => by simp
  | a :: l, g, h => by
    rw [List.mapIdx_cons, usedL_cons, usedL_cons]
    have := used_mapIdx l (fun i => g (i + 1)) (fun i f => h (i + 1) f)
    have := h 0 a
    omega
theorem wakeF_len (ks : List Int) (i : Nat) (f : FiD) : (wakeF ks i f).len ≤ f.len := by simp [wakeF, FiD.len]; omega
theorem wakeL_used (ks : List Int) (l : List FiD) : usedL (wakeL ks l) ≤ usedL l := used_mapIdx _ _ (wakeF_len ks)
theorem wakeL_srt (ks : List Int) {l : List FiD} (h : srt FiD.nm l) : srt FiD.nm (wakeL ks l) := by
  unfold srt
  rw [List.pairwise_iff_getElem]
  intro i j hi hj hij
  rw [wakeL_get, wakeL_get]
  rw [wakeL_len] at hj
  exact srt_get h hij hj
theorem wakeL_names (ks : List Int) {l : List FiD} (h : ∀ f ∈ l, fnB f.nm = true) : ∀ f ∈ wakeL ks l, fnB f.nm = true := by
  intro f hf
  obtain ⟨i, hi, rfl⟩ := List.mem_iff_getElem.1 hf
  rw [wakeL_get]
  exact h (l[i]'(by rw [wakeL_len] at hi; exact hi)) (List.getElem_mem _)
theorem opWake_P {d : DiD} {ks : List Int} {n : Int} (h : d.P) : (opWake d ks n).1.P := by
  unfold opWake
  split
  · exact h
  · rename_i hn
    have h5 := h.2.1
    have := wakeL_used ks d.fs
    exact ⟨⟨by rw [wakeL_len]; exact h.1.1, h.1.2.1, h.1.2.2.1, by dsimp only; omega⟩, by dsimp only; omega, wakeL_names ks h.2.2.1, wakeL_srt ks h.2.2.2⟩
end Go.Px

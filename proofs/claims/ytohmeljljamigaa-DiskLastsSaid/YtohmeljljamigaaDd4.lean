/- Layer 10: what was synced lasts. -/
import Derived.Test.YtohmeljljamigaaDd3
namespace Go.Px
set_option linter.unusedVariables false

theorem nm4_ok (n : Int) : fnB (nm4 n) = true := by
  have h : ∀ k : Nat, k < 4 → fnB (nms4.getD k ByteArray.empty) = true := by decide
  exact h _ (Nat.mod_lt _ (by decide))

theorem get_iff {d : DiD} (hs : srt FiD.nm d.fs) {s : ByteArray} {f : FiD} : d.get s = some f ↔ f ∈ d.fs ∧ f.nm = s := by
  constructor
  · intro h
    rcases d.get_cases s with ⟨h1, _, _⟩ | ⟨i, hi, _, h1, h2⟩
    · rw [h1] at h; cases h
    · rw [h1] at h; cases h; exact ⟨List.getElem_mem hi, h2⟩
  · rintro ⟨h1, rfl⟩
    rcases d.get_cases f.nm with ⟨_, _, h3⟩ | ⟨i, hi, _, h2, h3⟩
    · exact absurd rfl (h3 f h1)
    · rw [h2, srt_mem hs (List.getElem_mem hi) h1 h3]
theorem get_none {d : DiD} {s : ByteArray} (h : d.get s = none) : ∀ f ∈ d.fs, f.nm ≠ s := by
  rcases d.get_cases s with ⟨_, _, h3⟩ | ⟨i, hi, _, h1, h2⟩
  · exact h3
  · rw [h1] at h; cases h

/-- A file of this name begins with these bytes, and they last. -/
def Lst (nm : ByteArray) (b : List UInt8) (fs : List FiD) : Prop := ∃ f ∈ fs, f.nm = nm ∧ b <+: f.su
def tch (o : DoD) (nm : ByteArray) : Prop := (3 < o.k % 6 ∧ nm4 o.f = nm) ∨ (o.k % 6 = 3 ∧ (nm4 o.f = nm ∨ nm4 o.t = nm))
instance (o : DoD) (nm : ByteArray) : Decidable (tch o nm) := inferInstanceAs (Decidable (_ ∨ _))

theorem lst_perf {nm : ByteArray} {b : List UInt8} {d : DiD} {fs : List FiD} (h : Lst nm b d.fs) (h2 : (d.perf fs).2 = 0 → Lst nm b fs) : Lst nm b (d.perf fs).1.fs := by
  unfold DiD.perf at h2 ⊢
  by_cases hz : d.st = 0
  · rw [if_pos hz]; exact h
  · rw [if_neg hz] at h2 ⊢; exact h2 rfl

theorem lst_one {nm : ByteArray} {b : List UInt8} {d : DiD} (hp : d.P) (h : Lst nm b d.fs) (o : DoD) (hk : 0 ≤ o.k) (ht : (oneD d o).2 = 0 → ¬ tch o nm) : Lst nm b (oneD d o).1.fs := by
  obtain ⟨f, hf, hn, hb⟩ := h
  have h : Lst nm b d.fs := ⟨f, hf, hn, hb⟩
  have hs := hp.2.2.2
  -- the file of a name is written anew
  have wr : ∀ (g g' : FiD) (a : ByteArray), d.get a = some g → g'.nm = a → (b <+: g.su → b <+: g'.su) → Lst nm b (withB FiD.nm d.fs g') := fun g g' a hg hg' hb' => by
    obtain ⟨g1, g2⟩ := (get_iff hs).1 hg
    by_cases e : nm = a
    · refine ⟨g', mem_withB.2 (.inl rfl), by rw [hg', e], hb' ?_⟩
      rw [srt_mem hs g1 hf (by rw [g2, hn, e])]; exact hb
    · exact ⟨f, mem_withB.2 (.inr ⟨hf, by rw [hn, hg']; exact e⟩), hn, hb⟩
  unfold oneD at ht ⊢
  by_cases k0 : o.k % 6 = 0
  · rw [if_pos k0] at ht ⊢
    unfold opCreate at ht ⊢
    split
    · exact h
    · cases hg : d.get (nm4 o.f) with
      | some g => exact h
      | none =>
        dsimp only
        split
        · exact h
        · refine lst_perf h fun _ => ⟨f, mem_withB.2 (.inr ⟨hf, get_none hg f hf⟩), hn, hb⟩
  rw [if_neg k0] at ht ⊢
  by_cases k1 : o.k % 6 = 1
  · rw [if_pos k1] at ht ⊢
    unfold opAppend
    split
    · exact h
    · cases hg : d.get (nm4 o.f) with
      | none => exact h
      | some g =>
        dsimp only
        split
        · exact h
        · split
          · exact wr g ⟨nm4 o.f, g.su, g.lo ++ o.x⟩ _ hg rfl (fun z => z)
          · exact wr g ⟨nm4 o.f, g.su, g.lo ++ o.x⟩ _ hg rfl (fun z => z)
  rw [if_neg k1] at ht ⊢
  by_cases k2 : o.k % 6 = 2
  · rw [if_pos k2] at ht ⊢
    unfold opSync
    split
    · exact h
    · cases hg : d.get (nm4 o.f) with
      | none => exact h
      | some g => exact lst_perf h fun _ => wr g ⟨nm4 o.f, g.su ++ g.lo, []⟩ _ hg rfl (fun z => z.trans (List.prefix_append _ _))
  rw [if_neg k2] at ht ⊢
  by_cases k3 : o.k % 6 = 3
  · rw [if_pos k3] at ht ⊢
    unfold opRename at ht ⊢
    split
    · exact h
    · rename_i he
      rw [if_neg he] at ht
      cases hg : d.get (nm4 o.f) with
      | none => exact h
      | some g =>
        rw [hg] at ht
        refine lst_perf h fun h0 => ?_
        have ht := ht h0
        have h1 : nm4 o.f ≠ nm := fun e => ht (.inr ⟨k3, .inl e⟩)
        have h2 : nm4 o.t ≠ nm := fun e => ht (.inr ⟨k3, .inr e⟩)
        exact ⟨f, mem_withB.2 (.inr ⟨mem_wout.2 ⟨hf, by rw [hn]; exact fun e => h1 e.symm⟩, by show f.nm ≠ nm4 o.t; rw [hn]; exact fun e => h2 e.symm⟩), hn, hb⟩
  rw [if_neg k3] at ht ⊢
  have k45 : 3 < o.k % 6 := by omega
  by_cases k4 : o.k % 6 = 4
  · rw [if_pos k4] at ht ⊢
    unfold opRemove at ht ⊢
    split
    · exact h
    · rename_i he
      rw [if_neg he] at ht
      cases hg : d.get (nm4 o.f) with
      | none => exact h
      | some g =>
        rw [hg] at ht
        refine lst_perf h fun h0 => ?_
        have h1 : nm4 o.f ≠ nm := fun e => ht h0 (.inl ⟨k45, e⟩)
        exact ⟨f, mem_wout.2 ⟨hf, by rw [hn]; exact fun e => h1 e.symm⟩, hn, hb⟩
  rw [if_neg k4] at ht ⊢
  unfold opCut at ht ⊢
  split
  · exact h
  · rename_i he
    rw [if_neg he] at ht
    cases hg : d.get (nm4 o.f) with
    | none => exact h
    | some g =>
      rw [hg] at ht
      dsimp only at ht ⊢
      split
      · exact h
      · rename_i hc
        rw [if_neg hc] at ht
        refine lst_perf h fun h0 => ?_
        have h1 : nm4 o.f ≠ nm := fun e => ht h0 (.inl ⟨k45, e⟩)
        exact ⟨f, mem_withB.2 (.inr ⟨hf, by show f.nm ≠ nm4 o.f; rw [hn]; exact fun e => h1 e.symm⟩), hn, hb⟩

/-- A disk without a bound of steps, and with power. -/
theorem sync_read {d : DiD} (hp : d.P) (hs : d.st = -1) (hd : d.dn = false) (n : Int) :
    (opSync d (nm4 n)).1.P ∧ (opSync d (nm4 n)).1.st = -1 ∧ (opSync d (nm4 n)).1.dn = false ∧ (opSync d (nm4 n)).2 = (opRead (opSync d (nm4 n)).1 (nm4 n)).2 ∧
      ((opSync d (nm4 n)).2 = 0 → Lst (nm4 n) (opRead (opSync d (nm4 n)).1 (nm4 n)).1 (opSync d (nm4 n)).1.fs) := by
  have he : d.er (nm4 n) (nm4 n) = 0 := er_of hp hd (nm4_ok n) (nm4_ok n)
  refine ⟨opSync_P hp, ?_⟩
  unfold opSync
  rw [if_neg (by simpa using he)]
  cases hg : d.get (nm4 n) with
  | none =>
    refine ⟨hs, hd, ?_, fun h => by simp at h⟩
    unfold opRead
    rw [if_neg (by simpa using he), hg]
  | some g =>
    have e : d.perf (withB FiD.nm d.fs ⟨nm4 n, g.su ++ g.lo, []⟩) = ({ d with fs := withB FiD.nm d.fs ⟨nm4 n, g.su ++ g.lo, []⟩ }, 0) := by
      unfold DiD.perf DiD.tick
      have h0 : ¬ 0 < d.st := by omega
      rw [if_neg (by omega)]; simp [h0]
    have hP : ({ d with fs := withB FiD.nm d.fs ⟨nm4 n, g.su ++ g.lo, []⟩ } : DiD).P := by
      have := opSync_P (s := nm4 n) hp
      unfold opSync at this
      rw [if_neg (by simpa using he), hg] at this
      dsimp only at this
      rw [e] at this
      exact this
    dsimp only
    rw [e]
    have hq : opRead { d with fs := withB FiD.nm d.fs ⟨nm4 n, g.su ++ g.lo, []⟩ } (nm4 n) = (g.su ++ g.lo, 0) := by
      unfold opRead
      rw [if_neg (by simpa using er_of hP hd (nm4_ok n) (nm4_ok n))]
      have := get_withB (d := { d with fs := withB FiD.nm d.fs ⟨nm4 n, g.su ++ g.lo, []⟩ }) (f := ⟨nm4 n, g.su ++ g.lo, []⟩) hp.2.2.2 rfl
      dsimp only at this ⊢
      rw [this]
      simp
    rw [hq]
    exact ⟨hs, hd, rfl, fun _ => ⟨_, mem_withB.2 (.inl rfl), rfl, List.prefix_refl _⟩⟩

theorem wake_read {d : DiD} (hp : d.P) (ks : List Int) {n : Int} {b : List UInt8} (h : Lst (nm4 n) b d.fs) :
    (opRead (opWake d ks (-1)).1 (nm4 n)).2 = 0 ∧ b <+: (opRead (opWake d ks (-1)).1 (nm4 n)).1 := by
  have e : opWake d ks (-1) = (⟨wakeL ks d.fs, d.rm, -1, false⟩, 0) := by unfold opWake; rw [if_neg (by simp [hp])]
  have hP : (⟨wakeL ks d.fs, d.rm, -1, false⟩ : DiD).P := by
    have := opWake_P (ks := ks) (n := -1) hp
    rw [e] at this; exact this
  obtain ⟨f, hf, hn, hb⟩ := h
  obtain ⟨i, hi, rfl⟩ := List.mem_iff_getElem.1 hf
  have hw : i < (wakeL ks d.fs).length := by rw [wakeL_len]; exact hi
  have hg : (⟨wakeL ks d.fs, d.rm, -1, false⟩ : DiD).get (nm4 n) = some (wakeF ks i d.fs[i]) := by
    refine (get_iff hP.2.2.2).2 ⟨?_, hn⟩
    have := List.getElem_mem hw
    rw [wakeL_get] at this
    exact this
  rw [e]
  unfold opRead
  rw [if_neg (by simpa using er_of hP rfl (nm4_ok n) (nm4_ok n)), hg]
  refine ⟨rfl, ?_⟩
  simp only [wakeF, List.append_nil]
  exact hb.trans (List.prefix_append _ _)
end Go.Px

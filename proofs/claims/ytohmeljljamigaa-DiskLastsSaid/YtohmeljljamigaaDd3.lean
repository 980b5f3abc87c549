/- Layer 10: two parts and at once; there and back; coming again twice. -/
import Derived.Test.YtohmeljljamigaaDd2
namespace Go.Px
set_option linter.unusedVariables false

section
variable {α : Type} {nm : α → ByteArray} {l : List α} {f g : α}
theorem wout_insB (h : ∀ x ∈ l, nm x ≠ nm f) : wout nm (insB nm l f) (nm f) = l := by
  have e := ahd_bhd (nm := nm) l (nm f)
  have h1 : wout nm (ahd nm l (nm f)) (nm f) = ahd nm l (nm f) := wout_none fun x hx => h x (by rw [← e]; exact List.mem_append.2 (.inl hx))
  have h2 : wout nm (bhd nm l (nm f)) (nm f) = bhd nm l (nm f) := wout_none fun x hx => h x (by rw [← e]; exact List.mem_append.2 (.inr hx))
  conv => rhs; rw [← e]
  unfold insB
  unfold wout at h1 h2 ⊢
  rw [List.filter_append, List.filter_cons]
  simp only [ne_eq, not_true, decide_false, Bool.false_eq_true, if_false]
  rw [h1, h2]
theorem wout_withB (l : List α) (f : α) : wout nm (withB nm l f) (nm f) = wout nm l (nm f) := by
  unfold withB
  exact wout_insB fun x hx => (mem_wout.1 hx).2
theorem withB_withB (e : nm f = nm g) : withB nm (withB nm l f) g = withB nm l g := by
  show insB nm (wout nm (withB nm l f) (nm g)) g = _
  rw [← e, wout_withB, e]
  rfl
end

theorem get_withB {d : DiD} {f : FiD} {l : List FiD} (hs : srt FiD.nm l) (e : d.fs = withB FiD.nm l f) : d.get f.nm = some f := by
  have hs' : srt FiD.nm d.fs := by rw [e]; exact srt_withB hs
  have hm : f ∈ d.fs := by rw [e]; exact mem_withB.2 (.inl rfl)
  rcases d.get_cases f.nm with ⟨_, _, h3⟩ | ⟨i, hi, _, h1, h2⟩
  · exact absurd rfl (h3 f hm)
  · rw [h1, srt_mem hs' (List.getElem_mem hi) hm h2]

theorem er_of {d : DiD} {a b : ByteArray} (h1 : d.P) (h2 : d.dn = false) (h3 : fnB a = true) (h4 : fnB b = true) : d.er a b = 0 := er_zero.2 ⟨h1, h2, h3, h4⟩

theorem append_st {d : DiD} {a : ByteArray} {x : List UInt8} (hs : d.st = -1) (he : d.er a a = 0) {f : FiD} (hg : d.get a = some f) :
    opAppend d a x = if d.rm - usedL d.fs < x.length then (d, 13) else ({ d with fs := withB FiD.nm d.fs ⟨a, f.su, f.lo ++ x⟩ }, 0) := by
  unfold opAppend
  rw [if_neg (by simpa using he), hg]
  dsimp only
  by_cases h : d.rm - usedL d.fs < x.length
  · rw [if_pos h, if_pos h]
  · rw [if_neg h, if_neg h, if_neg (by omega)]
    have : ¬ 0 < d.st := by omega
    simp [DiD.tick, this]

theorem append_joins {d : DiD} (hs : d.st = -1) (a : ByteArray) (x y : List UInt8) :
    ((opAppend d a (x ++ y)).2 = 0 → (opAppend d a x).2 = 0 ∧ (opAppend (opAppend d a x).1 a y).2 = 0 ∧ (opAppend d a (x ++ y)).1 = (opAppend (opAppend d a x).1 a y).1) ∧
    ((opAppend d a (x ++ y)).2 ≠ 0 → ¬ ((opAppend d a x).2 = 0 ∧ (opAppend (opAppend d a x).1 a y).2 = 0)) := by
  by_cases he : d.er a a = 0
  · obtain ⟨hp, hdn, hna, _⟩ := er_zero.1 he
    rcases d.get_cases a with ⟨h1, _, _⟩ | ⟨i, hi, _, h1, h2⟩
    · have e : ∀ z, opAppend d a z = (d, 14) := fun z => by unfold opAppend; rw [if_neg (by simpa using he), h1]
      rw [e, e]; simp
    · have ex := append_st (x := x) hs he h1
      have exy := append_st (x := x ++ y) hs he h1
      have hl : (x ++ y).length = x.length + y.length := List.length_append
      by_cases hx : d.rm - usedL d.fs < x.length
      · rw [ex, if_pos hx, exy, if_pos (by rw [hl]; omega)]; simp
      · have hP : ({ d with fs := withB FiD.nm d.fs ⟨a, d.fs[i].su, d.fs[i].lo ++ x⟩ } : DiD).P := by
          have := opAppend_P (s := a) (x := x) hp
          rw [ex, if_neg hx] at this; exact this
        have hq := er_of hP hdn hna hna
        have gq : ({ d with fs := withB FiD.nm d.fs ⟨a, d.fs[i].su, d.fs[i].lo ++ x⟩ } : DiD).get a = some ⟨a, d.fs[i].su, d.fs[i].lo ++ x⟩ := get_withB (f := ⟨a, d.fs[i].su, d.fs[i].lo ++ x⟩) hp.2.2.2 rfl
        have ey := append_st (d := { d with fs := withB FiD.nm d.fs ⟨a, d.fs[i].su, d.fs[i].lo ++ x⟩ }) (x := y) hs hq gq
        have hu : usedL (withB FiD.nm d.fs ⟨a, d.fs[i].su, d.fs[i].lo ++ x⟩) = usedL d.fs + x.length := by
          have := usedL_withB (f := ⟨a, d.fs[i].su, d.fs[i].lo ++ x⟩) hp.2.2.2 hi h2.symm
          have e1 : (FiD.len ⟨a, d.fs[i].su, d.fs[i].lo ++ x⟩) = d.fs[i].len + x.length := by simp [FiD.len]; omega
          omega
        rw [ex, if_neg hx, exy]
        dsimp only at ey ⊢
        rw [ey, hu]
        by_cases hy : d.rm - usedL d.fs < (x ++ y).length
        · rw [if_pos hy, if_pos (by rw [hl] at hy; omega)]; simp
        · rw [if_neg hy, if_neg (by rw [hl] at hy; omega)]
          refine ⟨fun _ => ⟨rfl, rfl, ?_⟩, fun h => absurd rfl h⟩
          dsimp only
          rw [withB_withB (nm := FiD.nm) (f := ⟨a, d.fs[i].su, d.fs[i].lo ++ x⟩) (g := ⟨a, d.fs[i].su, d.fs[i].lo ++ x ++ y⟩) rfl, List.append_assoc]
  · have e : ∀ z, opAppend d a z = (d, d.er a a) := fun z => by unfold opAppend; rw [if_pos (by simpa using he)]
    rw [e, e]; simp [he]

theorem rename_st {d : DiD} {a b : ByteArray} (hs : d.st = -1) (he : d.er a b = 0) {f : FiD} (hg : d.get a = some f) :
    opRename d a b = ({ d with fs := withB FiD.nm (wout FiD.nm d.fs a) ⟨b, f.su, f.lo⟩ }, 0) := by
  unfold opRename
  rw [if_neg (by simpa using he), hg]
  dsimp only
  unfold DiD.perf DiD.tick
  rw [if_neg (by omega)]
  have : ¬ 0 < d.st := by omega
  simp [this]
theorem read_none {d : DiD} {b : ByteArray} (h : (opRead d b).2 = 14) : d.get b = none := by
  unfold opRead at h
  by_cases he : d.er b b = 0
  · rw [if_neg (by simpa using he)] at h
    cases hg : d.get b with
    | none => rfl
    | some f => rw [hg] at h; simp at h
  · rw [if_pos (by simpa using he)] at h
    exfalso
    unfold DiD.er at h
    dsimp only at h
    split at h
    · split at h
      · simp at h
      · split at h <;> simp at h
    · simp at h

theorem rename_back {d : DiD} (hs : d.st = -1) (a b : ByteArray) (h1 : (opRename d a b).2 = 0) (h2 : (opRead d b).2 = 14) :
    opRename (opRename d a b).1 b a = (d, 0) := by
  have hn := read_none h2
  by_cases he : d.er a b = 0
  · obtain ⟨hp, hdn, hna, hnb⟩ := er_zero.1 he
    rcases d.get_cases a with ⟨g1, _, _⟩ | ⟨i, hi, _, g1, g2⟩
    · unfold opRename at h1; rw [if_neg (by simpa using he), g1] at h1; simp at h1
    · have hb : ∀ f ∈ d.fs, f.nm ≠ b := by
        rcases d.get_cases b with ⟨_, _, g3⟩ | ⟨j, hj, _, g3, _⟩
        · exact g3
        · rw [hn] at g3; cases g3
      have e1 := rename_st hs he g1
      have hP : ({ d with fs := withB FiD.nm (wout FiD.nm d.fs a) ⟨b, d.fs[i].su, d.fs[i].lo⟩ } : DiD).P := by
        have := opRename_P (a := a) (b := b) hp
        rw [e1] at this; exact this
      have hg : ({ d with fs := withB FiD.nm (wout FiD.nm d.fs a) ⟨b, d.fs[i].su, d.fs[i].lo⟩ } : DiD).get b = some ⟨b, d.fs[i].su, d.fs[i].lo⟩ := get_withB (f := ⟨b, d.fs[i].su, d.fs[i].lo⟩) (srt_wout hp.2.2.2) rfl
      rw [e1]
      dsimp only
      rw [rename_st (d := { d with fs := withB FiD.nm (wout FiD.nm d.fs a) ⟨b, d.fs[i].su, d.fs[i].lo⟩ }) hs (er_of hP hdn hnb hna) hg]
      dsimp only
      have w1 : wout FiD.nm (withB FiD.nm (wout FiD.nm d.fs a) ⟨b, d.fs[i].su, d.fs[i].lo⟩) b = wout FiD.nm d.fs a := by
        have := wout_withB (nm := FiD.nm) (wout FiD.nm d.fs a) ⟨b, d.fs[i].su, d.fs[i].lo⟩
        rw [this]
        exact wout_none fun f hf => hb f (mem_wout.1 hf).1
      rw [w1]
      have w2 : withB FiD.nm (wout FiD.nm d.fs a) ⟨a, d.fs[i].su, d.fs[i].lo⟩ = d.fs := by
        have e2 : (⟨a, d.fs[i].su, d.fs[i].lo⟩ : FiD) = d.fs[i] := by rw [← g2]
        have w3 : wout FiD.nm (wout FiD.nm d.fs a) a = wout FiD.nm d.fs a := wout_none fun f hf => (mem_wout.1 hf).2
        rw [e2]
        unfold withB
        rw [g2, w3]
        have := set_withB (f := d.fs[i]) hp.2.2.2 hi rfl
        unfold withB at this
        rw [g2] at this
        rw [← this]
        exact List.set_getElem_self hi
      rw [w2]
  · unfold opRename at h1; rw [if_pos (by simpa using he)] at h1
    exact absurd h1 he

theorem wake_twice (d : DiD) (ks : List Int) : opWake (opWake d ks (-1)).1 ks (-1) = opWake d ks (-1) := by
  by_cases h : d.P
  · have hn : ¬ (¬ d.P ∨ (-1 : Int) < -1) := by simp [h]
    have e : opWake d ks (-1) = (⟨wakeL ks d.fs, d.rm, -1, false⟩, 0) := by unfold opWake; rw [if_neg hn]
    have hP : (⟨wakeL ks d.fs, d.rm, -1, false⟩ : DiD).P := by
      have := opWake_P (ks := ks) (n := -1) h
      rw [e] at this; exact this
    rw [e]
    unfold opWake
    rw [if_neg (by simp [hP])]
    have : wakeL ks (wakeL ks d.fs) = wakeL ks d.fs := by
      refine List.ext_getElem (by simp [wakeL_len]) fun i h1 h2 => ?_
      rw [wakeL_get, wakeL_get]
      simp [wakeF]
    rw [this]
  · have e : opWake d ks (-1) = (d, 1) := by unfold opWake; rw [if_pos (.inl h)]
    rw [e]; exact e

theorem op_len {d : DiD} {p : DiD × Int} (h1 : d.P → p.1.P) (h2 : ¬ d.P → p.1 = d) (hl : d.fs.length ≤ 1000) : p.1.fs.length ≤ 1000 := by
  by_cases h : d.P
  · have := (h1 h).1.1; omega
  · rw [h2 h]; exact hl
section
variable {d : DiD} (h : ¬ d.P)
include h
theorem er_no (a b : ByteArray) : d.er a b = 1 := by unfold DiD.er; rw [if_neg h]
theorem create_no (s : ByteArray) : (opCreate d s).1 = d := by unfold opCreate; rw [er_no h]; rfl
theorem append_no (s : ByteArray) (x : List UInt8) : (opAppend d s x).1 = d := by unfold opAppend; rw [er_no h]; rfl
theorem sync_no (s : ByteArray) : (opSync d s).1 = d := by unfold opSync; rw [er_no h]; rfl
theorem rename_no (a b : ByteArray) : (opRename d a b).1 = d := by unfold opRename; rw [er_no h]; rfl
theorem remove_no (s : ByteArray) : (opRemove d s).1 = d := by unfold opRemove; rw [er_no h]; rfl
theorem cut_no (s : ByteArray) (n : Int) : (opCut d s n).1 = d := by unfold opCut; rw [er_no h]; rfl
theorem wake_no (ks : List Int) (n : Int) : (opWake d ks n).1 = d := by unfold opWake; rw [if_pos (.inl h)]
end
end Go.Px

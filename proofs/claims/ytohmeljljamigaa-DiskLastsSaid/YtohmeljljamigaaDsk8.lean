/- Layer 10: DiskSteps over plain data. -/
import Derived.Test.YtohmeljljamigaaDsk7
namespace Go.Proofs.Ytohmeljljamigaa.Dsk
open Go Go.Px Go.Proofs Go.Proofs.Ytohmeljljamigaa.Ins
set_option maxRecDepth 100000
set_option linter.unusedVariables false

theorem law5_fn (l : List DoD) (hl : l.length ≤ 9223372036854775807) (hw : ∀ o ∈ l, o.wf) (n r : Int) (hn : 0 ≤ n ∧ n ≤ 255) (hr : 0 ≤ r ∧ r ≤ 65535) :
    Ct Try.prog 5 {} [SL 5 (oR l), U8 n, .val (.int .u16 r)] (fun x => x = [B true]) := by
  have cn : wcv .i64 n = n := wrap_i64 (by omega) (by omega)
  have cr : wcv .i64 r = r := wrap_i64 (by omega) (by omega)
  refine law5_nf _ _ _ _ (Cl.of lawake_fn ⟨_, rfl, ifB_intro (fun h => by simp at h) (fun _ => ifB_intro (fun _ => rfl) (fun h60 => ?_))⟩)
  have h60 : l.length ≤ 60 := by simp at h60; omega
  rw [cn, cr]
  refine ⟨fun w y f1 r1 s1 b1 f2 r2 s2 b2 => ∃ (F H : DiD) (i k : Nat), y = i ∧ i ≤ l.length ∧ w = k ∧ k ≤ i ∧ fR F.fs = f1 ∧ F.rm = r1 ∧ F.st = s1 ∧ F.dn = b1 ∧ fR H.fs = f2 ∧ H.rm = r2 ∧ H.st = s2 ∧ H.dn = b2 ∧
      F.P ∧ H.P ∧ F.st = -1 ∧ F.dn = false ∧ H.st ≤ 255 ∧ (H.dn = false → H = { F with st := n - k } ∧ (k : Int) ≤ n), fun _ y _ _ _ _ _ _ _ _ => l.length - y.toNat, ?_, ?_⟩
  · refine ⟨⟨[], r, -1, false⟩, ⟨[], r, n, false⟩, 0, 0, rfl, by omega, rfl, by omega, rfl, rfl, rfl, rfl, rfl, rfl, rfl, rfl, ?_, ?_, rfl, rfl, by dsimp only; omega, fun _ => ⟨by simp, by omega⟩⟩
    · exact ⟨⟨by simp, by dsimp only; omega, by dsimp only; omega, by dsimp only; omega⟩, by simp [usedL]; omega, by simp, by simp [srt]⟩
    · exact ⟨⟨by simp, by dsimp only; omega, by dsimp only; omega, by dsimp only; omega⟩, by simp [usedL]; omega, by simp, by simp [srt]⟩
  rintro _ _ _ _ _ _ _ _ _ _ ⟨F, H, i, k, rfl, hi, rfl, hki, rfl, rfl, rfl, rfl, rfl, rfl, rfl, rfl, hF, hH, fs, fd, hsH, hrel⟩
  refine ifB_intro (fun hlt => ?_) (fun _ => rfl)
  have hlt : i < l.length := by simpa using hlt
  have hrg : (0 : Int) ≤ (i : Nat) ∧ ((i : Nat) : Int) < rlen (oR l) := ⟨by omega, by simpa using hlt⟩
  refine ⟨hrg, _, _, _, _, _, rget_map _ _ _ hlt, ifB_intro (fun _ => rfl) (fun hx => ?_)⟩
  have hx : l[i].x.length ≤ 100 := by simp at hx; omega
  have hwf := hw _ (List.getElem_mem hlt)
  have okF : F.ok := hF.ok (by omega)
  have okH : H.ok := hH.ok (by omega)
  have cF := lone_fn F okF l[i] hwf (by omega)
  have cH := lone_fn H okH l[i] hwf (by omega)
  have xP : (oneD F l[i]).1.P := oneD_P hF
  have yP : (oneD H l[i]).1.P := oneD_P hH
  have xst : (oneD F l[i]).1.st ≤ 255 := Int.le_trans oneD_st (by omega)
  have yst : (oneD H l[i]).1.st ≤ 255 := Int.le_trans oneD_st hsH
  refine ⟨fun e f r s b => e = (oneD F l[i]).2 ∧ f = fR (oneD F l[i]).1.fs ∧ r = (oneD F l[i]).1.rm ∧ s = (oneD F l[i]).1.st ∧ b = (oneD F l[i]).1.dn, fun _ _ _ _ _ => 0, ⟨hrg, _, _, _, _, _, rget_map _ _ _ hlt, Cl.of cF ⟨_, _, _, _, _, rfl, rfl, rfl, rfl, rfl, rfl, rfl⟩, Cl.of cF ⟨_, _, _, _, _, rfl, rfl, rfl, rfl, rfl, rfl, rfl⟩⟩, ?_⟩
  rintro _ _ _ _ _ ⟨rfl, rfl, rfl, rfl, rfl⟩
  refine ⟨fun e f r s b => e = (oneD H l[i]).2 ∧ f = fR (oneD H l[i]).1.fs ∧ r = (oneD H l[i]).1.rm ∧ s = (oneD H l[i]).1.st ∧ b = (oneD H l[i]).1.dn, fun _ _ _ _ _ => 0, ⟨hrg, _, _, _, _, _, rget_map _ _ _ hlt, Cl.of cH ⟨_, _, _, _, _, rfl, rfl, rfl, rfl, rfl, rfl, rfl⟩, Cl.of cH ⟨_, _, _, _, _, rfl, rfl, rfl, rfl, rfl, rfl, rfl⟩⟩, ?_⟩
  rintro _ _ _ _ _ ⟨rfl, rfl, rfl, rfl, rfl⟩
  refine Cl.of (dright_fn _ (xP.ok (by omega))) ⟨_, rfl, ifB_intro (fun h => by simp [xP] at h) (fun _ => Cl.of (dright_fn _ (yP.ok (by omega))) ⟨_, rfl, ifB_intro (fun h => by simp [yP] at h) (fun _ => ?_)⟩)⟩
  rw [waddN _ (by omega)]
  have dec : Nat.le (Nat.succ (l.length - ((i + 1 : Nat) : Int).toNat)) (l.length - ((i : Nat) : Int).toNat) := stepL (by simp; omega)
  have lx : (oneD F l[i]).1.fs.length ≤ 64 := xP.1.1
  have ly : (oneD H l[i]).1.fs.length ≤ 64 := yP.1.1
  -- how the disk without a bound goes on
  by_cases hdn : H.dn = true
  · -- nothing is done any more
    have e := one_down hH hdn l[i]
    have xs : (oneD F l[i]).1.st = -1 ∧ (oneD F l[i]).1.dn = false := by
      have := one_steps (m := 0) fs fd (by omega) l[i]
      by_cases h0 : (oneD F l[i]).2 = 0
      · exact (this.2 h0).1
      · rw [(this.1 h0).1]; exact ⟨fs, fd⟩
    refine ifB_intro (fun _ => ?_) (fun h => by rw [hdn] at h; cases h)
    rw [e]
    refine ifB_intro (fun h => by simp at h) (fun _ => Cl.of (qsame_fn H H (by have := hH.1.1; omega)) ⟨_, rfl, ifB_intro (fun h => by simp at h) (fun _ => ⟨rfl, ⟨(oneD F l[i]).1, H, i + 1, k, rfl, by omega, rfl, by omega, rfl, rfl, rfl, rfl, rfl, rfl, rfl, rfl, xP, hH, xs.1, xs.2, hsH, fun h => by rw [hdn] at h; cases h⟩, dec⟩)⟩)
  · have hdn : H.dn = false := by simpa using hdn
    obtain ⟨eH, hkn⟩ := hrel hdn
    have R := one_steps (m := n - k) fs fd (by omega) l[i]
    rw [← eH] at R
    refine ifB_intro (fun h => by rw [hdn] at h; cases h) (fun _ => ifB_intro (fun hne => ?_) (fun heq => ?_))
    · -- the power went
      have hne : ¬ (oneD F l[i]).2 = (oneD H l[i]).2 := by simpa using hne
      have h0 : (oneD F l[i]).2 = 0 := Decidable.byContradiction fun h => hne (by rw [(R.1 h).2])
      obtain ⟨⟨x1, x2⟩, q1, q2⟩ := R.2 h0
      have hm : n - k = 0 := Decidable.byContradiction fun h => hne (by rw [h0, q2 h])
      obtain ⟨y1, y2⟩ := q1 hm
      refine ifB_intro (fun h => ?_) (fun _ => ⟨rfl, ⟨(oneD F l[i]).1, (oneD H l[i]).1, i + 1, k, rfl, by omega, rfl, by omega, rfl, rfl, rfl, rfl, rfl, rfl, rfl, rfl, xP, yP, x1, x2, yst, fun h => by rw [y2] at h; cases h⟩, dec⟩)
      exfalso
      simp [y1, h0, y2] at h
      omega
    · have heq : (oneD F l[i]).2 = (oneD H l[i]).2 := by simpa using heq
      refine ifB_intro (fun h0 => ?_) (fun h0 => ?_)
      · have h0 : (oneD F l[i]).2 = 0 := by simpa using h0
        obtain ⟨⟨x1, x2⟩, q1, q2⟩ := R.2 h0
        have hm : n - k ≠ 0 := fun h => by have := (q1 h).1; omega
        have hq := q2 hm
        have e1 : (oneD H l[i]).1 = { (oneD F l[i]).1 with st := n - k - 1 } := by rw [hq]
        have same : (oneD F l[i]).1 = { (oneD H l[i]).1 with st := -1 } := by
          rw [e1]
          generalize (oneD F l[i]).1 = z at x1
          cases z; simp only at x1; subst x1; rfl
        refine Cl.of (qsame_fn (oneD F l[i]).1 { (oneD H l[i]).1 with st := -1 } (by omega)) ⟨_, rfl, ?_⟩
        rw [decide_eq_true same, waddN _ (by omega), wsub_i64 (by omega) (by omega)]
        refine ifB_intro (fun h => ?_) (fun _ => ⟨rfl, ⟨(oneD F l[i]).1, (oneD H l[i]).1, i + 1, k + 1, rfl, by omega, rfl, by omega, rfl, rfl, rfl, rfl, rfl, rfl, rfl, rfl, xP, yP, x1, x2, yst, fun _ => ⟨?_, by omega⟩⟩, dec⟩)
        · exfalso
          rw [e1] at h
          simp at h
          omega
        · have e9 : n - ((k + 1 : Nat) : Int) = n - k - 1 := by omega
          rw [e1, e9]
      · have h0 : ¬ (oneD F l[i]).2 = 0 := by simpa using h0
        obtain ⟨q1, q2⟩ := R.1 h0
        have e1 : (oneD H l[i]).1 = H := by rw [q2]
        rw [e1, q1]
        have same : F = { H with st := -1 } := by
          rw [eH]
          cases F; simp only at fs; subst fs; rfl
        refine Cl.of (qsame_fn F { H with st := -1 } (by have := hF.1.1; omega)) ⟨_, rfl, ?_⟩
        rw [decide_eq_true same, wsub_i64 (by omega) (by omega)]
        refine ifB_intro (fun h => ?_) (fun _ => ⟨rfl, ⟨F, H, i + 1, k, rfl, by omega, rfl, by omega, rfl, rfl, rfl, rfl, rfl, rfl, rfl, rfl, hF, hH, fs, fd, hsH, hrel⟩, dec⟩)
        exfalso
        rw [eH] at h
        simp at h
end Go.Proofs.Ytohmeljljamigaa.Dsk

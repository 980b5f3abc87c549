/- Layer 10: DiskLasts over plain data. -/
import Derived.Test.YtohmeljljamigaaDsk8
import Derived.Test.YtohmeljljamigaaDd4
namespace Go.Proofs.Ytohmeljljamigaa.Dsk
open Go Go.Px Go.Proofs Go.Proofs.Ytohmeljljamigaa.Ins
set_option maxRecDepth 100000
set_option linter.unusedVariables false

theorem law6_fn (a o : List DoD) (ha : a.length ≤ 9223372036854775807) (hwa : ∀ x ∈ a, x.wf) (ho : o.length ≤ 9223372036854775807) (hwo : ∀ x ∈ o, x.wf)
    (f n : Int) (hf : 0 ≤ f ∧ f ≤ 255) (hn : 0 ≤ n ∧ n ≤ 255) (ks : List Int) :
    Ct Try.prog 6 {} [SL 5 (oR a), SL 5 (oR o), U8 f, U8 n, SL 1 (ks.map fun k => [I k])] (fun x => x = [B true]) := by
  have cn : wcv .i64 n = n := wrap_i64 (by omega) (by omega)
  refine law6_nf _ _ _ _ _ _ (Cl.of lawake_fn ⟨_, rfl, ifB_intro (fun h => by simp at h) (fun _ => ifB_intro (fun _ => rfl) (fun hs => ?_))⟩)
  obtain ⟨⟨la, lo⟩, lk⟩ : (a.length ≤ 60 ∧ o.length ≤ 60) ∧ ks.length ≤ 9 := by simp at hs; omega
  rw [cn]
  refine ⟨fun x l r s b => ∃ (d : DiD) (i : Nat), x = i ∧ i ≤ a.length ∧ l = fR d.fs ∧ r = d.rm ∧ s = d.st ∧ b = d.dn ∧ d.P ∧ d.st = -1 ∧ d.dn = false, fun x _ _ _ _ => a.length - x.toNat, ?_, ?_⟩
  · refine ⟨⟨[], 65536, -1, false⟩, 0, rfl, by omega, rfl, rfl, rfl, rfl, ?_, rfl, rfl⟩
    exact ⟨⟨by simp, by dsimp only; omega, by dsimp only; omega, by dsimp only; omega⟩, by simp [usedL], by simp, by simp [srt]⟩
  rintro _ _ _ _ _ ⟨d, i, rfl, hi, rfl, rfl, rfl, rfl, hp, hst, hdn⟩
  have okd : d.ok := hp.ok (by omega)
  refine ifB_intro (fun hlt => ?_) (fun _ => ?_)
  · have hlt : i < a.length := by simpa using hlt
    have hrg : (0 : Int) ≤ (i : Nat) ∧ ((i : Nat) : Int) < rlen (oR a) := ⟨by omega, by simpa using hlt⟩
    refine ⟨hrg, _, _, _, _, _, rget_map _ _ _ hlt, ifB_intro (fun _ => rfl) (fun hx => ?_)⟩
    have hx : a[i].x.length ≤ 100 := by simp at hx; omega
    refine ⟨hrg, _, _, _, _, _, rget_map _ _ _ hlt, Cl.of (lone_fn d okd a[i] (hwa _ (List.getElem_mem hlt)) (by omega)) ⟨_, _, _, _, _, rfl, rfl, ?_, ?_⟩⟩
    · have xs : (oneD d a[i]).1.st = -1 ∧ (oneD d a[i]).1.dn = false := by
        have := one_steps (m := 0) hst hdn (by omega) a[i]
        by_cases h0 : (oneD d a[i]).2 = 0
        · exact (this.2 h0).1
        · rw [(this.1 h0).1]; exact ⟨hst, hdn⟩
      exact ⟨(oneD d a[i]).1, i + 1, waddN _ (by omega), by omega, rfl, rfl, rfl, rfl, oneD_P hp, xs.1, xs.2⟩
    · rw [waddN _ (by omega)]
      exact stepL (by simp; omega)
  -- the file is synced
  obtain ⟨eP, est, edn, eR, eL⟩ := sync_read hp hst hdn f
  generalize hN : nm4 f = nm at eP est edn eR eL
  have cN : Ct Try.prog 41 {} [U8 f] (fun r => r = [S nm]) := by rw [← hN]; exact lname_fn f hf.1
  have cS := dsync_fn d okd nm
  generalize opSync d nm = p at eP est edn eR eL cS
  obtain ⟨e, q⟩ := p
  dsimp only at eP est edn eR eL cS
  refine ⟨fun x l r s b => x = q ∧ l = fR e.fs ∧ r = e.rm ∧ s = e.st ∧ b = e.dn, fun _ _ _ _ _ => 0, ?_, ?_⟩
  · have c : ∀ K : List SV → Prop, K [e.sv, I q] → Cl Try.prog 32 sP [d.sv, S nm] K := fun K hK => Cl.of cS hK
    exact ⟨Cl.of cN ⟨_, rfl, c _ ⟨_, _, _, _, _, rfl, rfl, rfl, rfl, rfl, rfl, rfl⟩, c _ ⟨_, _, _, _, _, rfl, rfl, rfl, rfl, rfl, rfl, rfl⟩⟩, Cl.of cN ⟨_, rfl, c _ ⟨_, _, _, _, _, rfl, rfl, rfl, rfl, rfl, rfl, rfl⟩⟩⟩
  rintro _ _ _ _ _ ⟨rfl, rfl, rfl, rfl, rfl⟩
  refine Cl.of cN ⟨_, rfl, Cl.of (dread_fn e (eP.ok (by omega)) nm) ⟨_, _, rfl, ifB_intro (fun h => by simp [← eR] at h) (fun _ => ?_)⟩⟩
  generalize hR : (opRead e nm).1 = R at eL
  -- the operations that follow
  refine ⟨fun k x l r s b => ∃ (d : DiD) (i : Nat), x = i ∧ i ≤ o.length ∧ l = fR d.fs ∧ r = d.rm ∧ s = d.st ∧ b = d.dn ∧ d.P ∧ d.st ≤ 255 ∧ (k = true → Lst nm R d.fs), fun _ x _ _ _ _ => o.length - x.toNat, ?_, ?_⟩
  · refine ⟨{ e with st := n }, 0, rfl, by omega, rfl, rfl, rfl, rfl, ⟨⟨eP.1.1, eP.1.2.1, eP.1.2.2.1, ?_⟩, eP.2⟩, hn.2, fun h => eL (by simpa using h)⟩
    show -1 ≤ n
    omega
  rintro k _ _ _ _ _ ⟨s, i, rfl, hi, rfl, rfl, rfl, rfl, sp, sst, sL⟩
  have oks : s.ok := sp.ok (by omega)
  refine ifB_intro (fun hlt => ?_) (fun _ => ?_)
  · have hlt : i < o.length := by simpa using hlt
    have hrg : (0 : Int) ≤ (i : Nat) ∧ ((i : Nat) : Int) < rlen (oR o) := ⟨by omega, by simpa using hlt⟩
    refine ⟨hrg, _, _, _, _, _, rget_map _ _ _ hlt, ifB_intro (fun _ => rfl) (fun hx => ?_)⟩
    have hx : o[i].x.length ≤ 100 := by simp at hx; omega
    have hwf := hwo _ (List.getElem_mem hlt)
    have cO := lone_fn s oks o[i] hwf (by omega)
    have tP : (oneD s o[i]).1.P := oneD_P sp
    have tst : (oneD s o[i]).1.st ≤ 255 := Int.le_trans oneD_st sst
    have tL : (k = true) → ((oneD s o[i]).2 = 0 → ¬ tch o[i] nm) → Lst nm R (oneD s o[i]).1.fs := fun h => lst_one sp (sL h) o[i] hwf.1.1
    refine ⟨fun x l r s' b => x = (oneD s o[i]).2 ∧ l = fR (oneD s o[i]).1.fs ∧ r = (oneD s o[i]).1.rm ∧ s' = (oneD s o[i]).1.st ∧ b = (oneD s o[i]).1.dn, fun _ _ _ _ _ => 0, ⟨hrg, _, _, _, _, _, rget_map _ _ _ hlt, Cl.of cO ⟨_, _, _, _, _, rfl, rfl, rfl, rfl, rfl, rfl, rfl⟩, Cl.of cO ⟨_, _, _, _, _, rfl, rfl, rfl, rfl, rfl, rfl, rfl⟩⟩, ?_⟩
    rintro _ _ _ _ _ ⟨rfl, rfl, rfl, rfl, rfl⟩
    generalize oneD s o[i] = p at tP tst tL
    obtain ⟨t, g⟩ := p
    dsimp only at tP tst tL ⊢
    have cF := lname_fn o[i].f hwf.2.1.1
    have cT := lname_fn o[i].t hwf.2.2.1.1
    have hk : wrem o[i].k 6 = o[i].k % 6 := by unfold wrem; rw [Int.tmod_eq_emod_of_nonneg hwf.1.1]
    refine ⟨hrg, _, _, _, _, _, rget_map _ _ _ hlt, by decide, ?_⟩
    rw [hk]
    refine ⟨fun b => b = decide (g = 0 ∧ tch o[i] nm), fun _ => 0, ?_, ?_⟩
    · refine ifB_intro (fun hg => ?_) (fun hg => ⟨rfl, ?_⟩)
      · have hg : g = 0 := by simpa using hg
        refine ifB_intro (fun h3 => ?_) (fun h3 => ?_)
        · have h3 : 3 < o[i].k % 6 := by simpa using h3
          refine ⟨hrg, _, _, _, _, _, rget_map _ _ _ hlt, Cl.of cF ⟨_, rfl, Cl.of cN ⟨_, rfl, ?_⟩⟩⟩
          rw [seq_d]
          refine ifB_intro (fun e1 => ⟨rfl, ?_⟩) (fun e1 => ifB_intro (fun h4 => ?_) (fun _ => ⟨rfl, ?_⟩))
          · have e1 : nm4 o[i].f = nm := by simpa using e1
            exact (decide_eq_true (show g = 0 ∧ tch o[i] nm from ⟨hg, .inl ⟨h3, e1⟩⟩)).symm
          · exfalso; simp at h4; omega
          · have e1 : ¬ nm4 o[i].f = nm := by simpa using e1
            refine (decide_eq_false (show ¬ (g = 0 ∧ tch o[i] nm) from ?_)).symm
            rintro ⟨_, ⟨_, h⟩ | ⟨h, _⟩⟩
            · exact e1 h
            · omega
        · have h3 : ¬ 3 < o[i].k % 6 := by simpa using h3
          refine ifB_intro (fun h4 => ?_) (fun h4 => ⟨rfl, ?_⟩)
          · have h4 : o[i].k % 6 = 3 := by simpa using h4
            refine ⟨hrg, _, _, _, _, _, rget_map _ _ _ hlt, Cl.of cF ⟨_, rfl, Cl.of cN ⟨_, rfl, ?_⟩⟩⟩
            rw [seq_d]
            refine ifB_intro (fun e1 => ⟨rfl, ?_⟩) (fun e1 => ⟨hrg, _, _, _, _, _, rget_map _ _ _ hlt, Cl.of cT ⟨_, rfl, Cl.of cN ⟨_, rfl, rfl, ?_⟩⟩⟩)
            · have e1 : nm4 o[i].f = nm := by simpa using e1
              exact (decide_eq_true (show g = 0 ∧ tch o[i] nm from ⟨hg, .inr ⟨h4, .inl e1⟩⟩)).symm
            · have e1 : ¬ nm4 o[i].f = nm := by simpa using e1
              show seq _ _ = decide _
              rw [seq_d, decide_eq_decide]
              constructor
              · exact fun h => ⟨hg, .inr ⟨h4, .inr h⟩⟩
              · rintro ⟨_, ⟨h, _⟩ | ⟨_, h | h⟩⟩
                · omega
                · exact absurd h e1
                · exact h
          · have h4 : ¬ o[i].k % 6 = 3 := by simpa using h4
            refine (decide_eq_false (show ¬ (g = 0 ∧ tch o[i] nm) from ?_)).symm
            rintro ⟨_, ⟨h, _⟩ | ⟨h, _⟩⟩ <;> omega
      · have hg : ¬ g = 0 := by simpa using hg
        exact (decide_eq_false (show ¬ (g = 0 ∧ tch o[i] nm) from fun h => hg h.1)).symm
    · rintro _ rfl
      have dec : Nat.le (Nat.succ (o.length - ((i + 1 : Nat) : Int).toNat)) (o.length - ((i : Nat) : Int).toNat) := stepL (by simp; omega)
      rw [waddN _ (by omega)]
      refine ifB_intro (fun h => ⟨rfl, ⟨t, i + 1, rfl, by omega, rfl, rfl, rfl, rfl, tP, tst, fun h => by cases h⟩, dec⟩) (fun h => ⟨rfl, ⟨t, i + 1, rfl, by omega, rfl, rfl, rfl, rfl, tP, tst, fun hk => tL hk fun h0 h1 => ?_⟩, dec⟩)
      rw [decide_eq_true (show g = 0 ∧ tch o[i] nm from ⟨h0, h1⟩)] at h
      cases h
  -- the power comes back
  have wk : opWake s ks (-1) = (⟨wakeL ks s.fs, s.rm, -1, false⟩, 0) := by unfold opWake; rw [if_neg (by simp [sp])]
  have cW := dwake_fn s oks ks (-1) (by omega)
  have vP : (⟨wakeL ks s.fs, s.rm, -1, false⟩ : DiD).P := by
    have := opWake_P (ks := ks) (n := -1) sp
    rw [wk] at this; exact this
  have vL : k = true → (opRead ⟨wakeL ks s.fs, s.rm, -1, false⟩ nm).2 = 0 ∧ R <+: (opRead ⟨wakeL ks s.fs, s.rm, -1, false⟩ nm).1 := fun h => by
    have := wake_read sp ks (n := f) (b := R) (by rw [hN]; exact sL h)
    rw [wk, hN] at this; exact this
  rw [wk] at cW
  have sl := sp.1.1
  refine Cl.of cW ⟨_, _, _, _, _, rfl, ifB_intro (fun h => by simp [wakeL_len] at h) (fun _ => ?_)⟩
  refine ⟨fun x => ∃ i : Nat, x = i ∧ i ≤ s.fs.length, fun x => s.fs.length - x.toNat, ⟨0, rfl, by omega⟩, ?_⟩
  rintro _ ⟨i, rfl, hi⟩
  refine ifB_intro (fun hlt => ?_) (fun _ => ?_)
  · have hlt : i < s.fs.length := by simpa [wakeL_len] using hlt
    have hw : i < (wakeL ks s.fs).length := by rw [wakeL_len]; exact hlt
    have r1 : (0 : Int) ≤ (i : Nat) ∧ ((i : Nat) : Int) < rlen (fR s.fs) := ⟨by omega, by simpa using hlt⟩
    have r2 : (0 : Int) ≤ (i : Nat) ∧ ((i : Nat) : Int) < rlen (fR (wakeL ks s.fs)) := ⟨by omega, by simpa using hw⟩
    have hfl : s.fs[i].len ≤ usedL s.fs := usedL_mem (List.getElem_mem hlt)
    have hu := sp.2.1
    have hrm := sp.1.2.2.1
    unfold FiD.len at hfl
    have g2 := rget_map FiD.row _ _ hw
    rw [wakeL_get] at g2
    have g1 := rget_map FiD.row _ _ hlt
    generalize s.fs[i] = F at g1 g2 hfl
    refine ⟨fun s1 l5 l6 s2 l7 l8 => s1 = F.nm ∧ l5 = uR (wakeF ks i F).su ∧ l6 = [] ∧ s2 = F.nm ∧ l7 = uR F.su ∧ l8 = uR F.lo, fun _ _ _ _ _ _ => 0, ?_, ?_⟩
    · exact ⟨r2, _, _, _, g2, r1, _, _, _, g1, ⟨rfl, rfl, rfl, rfl, rfl, rfl, rfl⟩, ⟨rfl, rfl, rfl, rfl, rfl, rfl, rfl⟩⟩
    · rintro _ _ _ _ _ _ ⟨rfl, rfl, rfl, rfl, rfl, rfl⟩
      have e1 : rapp (rapp [] (uR F.su)) (uR F.lo) = uR (F.su ++ F.lo) := by simp [rapp]
      have e2 : rapp [] (uR F.su) = uR F.su := by simp [rapp]
      rw [e1, e2]
      have hm : (wakeF ks i F).su = F.su ++ F.lo.take (more ks i F.lo.length) := rfl
      have hpre : (wakeF ks i F).su = (F.su ++ F.lo).take (wakeF ks i F).su.length := by
        have : (wakeF ks i F).su <+: F.su ++ F.lo := by
          rw [hm]; exact (List.prefix_append_right_inj _).2 (List.take_prefix _ _)
        exact List.prefix_iff_eq_take.1 this
      have hl1 : F.su.length ≤ (wakeF ks i F).su.length := by rw [hm]; simp
      have hl2 : (wakeF ks i F).su.length ≤ (F.su ++ F.lo).length := by rw [hm]; simp; omega
      generalize (wakeF ks i F).su = W at hpre hl1 hl2
      refine ⟨by simp; omega, by simp; omega, ifB_intro (fun h => ?_) (fun _ => ⟨isBytes_u _, ⟨by omega, by simp, by simp at hl2 ⊢; omega⟩, ?_⟩)⟩
      · exfalso
        simp at h
        simp at hl2
        omega
      · rw [rsub_map]
        have : List.drop (Int.toNat 0) (List.take (Int.toNat (rlen (uR W))) (F.su ++ F.lo)) = W := by
          simp only [rlen_eq, List.length_map, Int.toNat_natCast, Int.toNat_zero, List.drop_zero]; exact hpre.symm
        rw [this, sne_u, waddN _ (by omega)]
        exact ⟨isBytes_u _, ifB_intro (fun h => by simp at h) (fun _ => ⟨rfl, ⟨i + 1, rfl, by omega⟩, stepL (by simp; omega)⟩)⟩
  refine ifB_intro (fun _ => rfl) (fun hk => ?_)
  have hk : k = true := by simpa using hk
  obtain ⟨v0, vp⟩ := vL hk
  refine Cl.of cN ⟨_, rfl, Cl.of (dread_fn _ (vP.ok (by show (-1 : Int) ≤ _; omega)) nm) ⟨_, _, rfl, ?_⟩⟩
  generalize opRead ⟨wakeL ks s.fs, s.rm, -1, false⟩ nm = w at v0 vp
  obtain ⟨W, x⟩ := w
  dsimp only at v0 vp ⊢
  subst v0
  have hle := vp.length_le
  refine ifB_intro (fun _ => ⟨⟨by omega, by simp, by simpa using hle⟩, ?_⟩) (fun h => ?_)
  · rw [rsub_map]
    have : List.drop (Int.toNat 0) (List.take (Int.toNat (rlen (uR R))) W) = R := by
      simp only [rlen_eq, List.length_map, Int.toNat_natCast, Int.toNat_zero, List.drop_zero]; exact (List.prefix_iff_eq_take.1 vp).symm
    rw [this]
    exact ⟨isBytes_u _, isBytes_u _, by rw [seq_d]; simp⟩
  · exfalso
    simp at h
    omega
end Go.Proofs.Ytohmeljljamigaa.Dsk

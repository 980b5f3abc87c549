/- Layer 22: the laws' contracts. -/
import Derived.Test.YtknnooannohflaaDoorTrmK
namespace Go.Proofs.YtknnooannohflaaDoor.Trm
open Go Go.Px Go.Proofs
set_option maxRecDepth 100000
set_option linter.unusedVariables false

theorem law4_fn (f : FlD) (hf : smF f) (s : ByteArray) : Ct Tryd.prog 4 {} [f.sv, S s] (fun r => r = [B true]) := by
  have hS := Short_fn f hf
  have hP := Print_fn f hf
  have hR := rRight_fn f hf
  have hT := fun (h : Rgt f) => rPrint_fn f h.1 (by have := h.2.1; omega)
  have core : ∀ (hs : s.size ≤ 100000), Cl Tryd.prog 17 sP [S s] (fun rs5 => ∃ x1 : Int, ∃ x2 : Int, ∃ x3 : Int, ∃ s3 : ByteArray, ∃ l : List (List SV), ∃ x4 : Int, (rs5 = [SV.agg [I x1, I x2, I x3, S s3, SL 5 l], I x4]) ∧ (Cl Tryd.prog 18 sP [S s] (fun rs6 => ∃ x5 : Int, ∃ x6 : Int, ∃ x7 : Int, ∃ s4 : ByteArray, ∃ l1 : List (List SV), ∃ b4 : Bool, (rs6 = [SV.agg [I x5, I x6, I x7, S s4, SL 5 l1], B b4]) ∧ (Cl Tryd.prog 19 sP ([SV.agg [I x1, I x2, I x3, S s3, SL 5 l], SV.agg [I x5, I x6, I x7, S s4, SL 5 l1]]) (fun rs7 => ∃ b5 : Bool, (rs7 = [B b5]) ∧ (([B (bpick b5 (bpick (bpick b4 (ieq x4 0) false) true (bpick (bnot b4) (ieq x4 11) false)) false)] : List SV) = [B true])))))) := fun hs => by
    refine Cl.ofQ (Parse_fn s hs) ?_
    rintro r ⟨g, e, rfl, hg⟩
    have hsg : smF g := by
      rcases hg with ⟨_, h, _⟩ | ⟨_, rfl, _⟩
      · exact sm_ok g h.1 (by have := h.2.1; omega)
      · exact smF_zero
    have hfin : ∀ k b, ((b = true ∧ Rgt k ∧ s = bA (tx k)) ∨ (b = false ∧ k = zeroF ∧ ∀ f0, Rgt f0 → s ≠ bA (tx f0))) → g = k ∧ ((b = true ∧ e = 0) ∨ (b = false ∧ e = 11)) := fun k b hk => by
      rcases hg with ⟨rfl, h1, h2⟩ | ⟨rfl, rfl, h2⟩ <;> rcases hk with ⟨rfl, k1, k2⟩ | ⟨rfl, rfl, k2⟩
      · exact ⟨tx_inj h1.1 k1.1 (bA_inj.1 (h2.symm.trans k2)), .inl ⟨rfl, rfl⟩⟩
      · exact absurd h2 (k2 g h1)
      · exact absurd k2 (h2 k k1)
      · exact ⟨rfl, .inr ⟨rfl, rfl⟩⟩
    cases g with
    | mk o a b n ks =>
      refine ⟨_, _, _, _, _, _, by rw [mk_sv], Cl.ofQ (rParse_fn s hs) ?_⟩
      rintro r ⟨k, b', rfl, hk⟩
      obtain ⟨rfl, he⟩ := hfin k b' hk
      have hE := equal_fn _ hsg (.mk o a b n ks)
      rw [mk_sv] at hE
      refine ⟨_, _, _, _, _, _, by rw [mk_sv], Cl.of hE ⟨_, rfl, ?_⟩⟩
      rw [dB_t rfl]
      rcases he with ⟨rfl, rfl⟩ | ⟨rfl, rfl⟩ <;> rfl
  cases f with
  | mk op a b nm ks =>
    rw [mk_sv] at hS hP hR hT ⊢
    refine tlaw4_nf _ _ _ _ _ _ _ (Cl.of awake_fn ⟨_, rfl, ifB_intro (fun h => by simp at h) (fun _ => Cl.ofQ hS ?_)⟩)
    rintro r ⟨sh, rfl⟩
    refine ⟨_, rfl, ifB_intro (fun _ => rfl) (fun hsz => Cl.ofQ hP ?_)⟩
    have hs : s.size ≤ 100000 := by
      simp at hsz
      have := hsz.2
      omega
    rintro r (⟨hr, rfl⟩ | ⟨hr, rfl⟩)
    · refine ⟨_, _, rfl, Cl.of hR ⟨_, rfl, ifB_intro (fun _ => ifB_intro (fun h => by simp at h) (fun _ => Cl.of (hT hr) ⟨_, rfl, ifB_intro (fun h => ?_) (fun _ => core hs)⟩)) (fun h => ?_)⟩⟩
      · rw [sne_d] at h; simp at h
      · rw [dB_t hr] at h; cases h
    · refine ⟨_, _, rfl, Cl.of hR ⟨_, rfl, ifB_intro (fun h => absurd (dB_iff.1 h) hr) (fun _ => ifB_intro (fun h => ?_) (fun _ => core hs))⟩⟩
      rw [sne_d] at h
      simp at h

theorem tx_and (f g : FlD) : tx (.mk 6 0 0 (bA []) [f, g]) = [97, 110, 100, 32, 50, 32] ++ tx f ++ [32] ++ tx g := by
  have e2 : Lib.itoa 2 = [50] := itoa1 2 (by omega)
  have h1 : wds (.mk 6 0 0 (bA []) [f, g]) = [tAnd, [50]] ++ (wds f ++ wds g) := by simp [wds, wdsL, hdW, e2]
  rw [tx, h1, jn_app (by simp) (by simp [wds_ne]), jn_app (wds_ne f) (wds_ne g)]
  simp [jn_cons, jn_one, tAnd, tx]
theorem tx_or (g : FlD) : tx (.mk 7 0 0 (bA []) [g]) = [111, 114, 32, 49, 32] ++ tx g := by
  have e2 : Lib.itoa 1 = [49] := itoa1 1 (by omega)
  have h1 : wds (.mk 7 0 0 (bA []) [g]) = [tOr, [49]] ++ wds g := by simp [wds, wdsL, hdW, e2]
  rw [tx, h1, jn_app (by simp) (wds_ne g)]
  simp [jn_cons, jn_one, tOr, tx]
theorem tx_not (f : FlD) : tx (.mk 8 0 0 (bA []) [f]) = [110, 111, 116, 32] ++ tx f := by
  have h1 : wds (.mk 8 0 0 (bA []) [f]) = [tNot] ++ wds f := by simp [wds, wdsL, hdW]
  rw [tx, h1, jn_app (by simp) (wds_ne f)]
  simp [jn_one, tNot, tx]

theorem law5_fn (f g : FlD) (hf : smF f) (hg : smF g) : Ct Tryd.prog 5 {} [f.sv, g.sv] (fun r => r = [B true]) := by
  have hSf := Short_fn f hf
  have hSg := Short_fn g hg
  have hPf := Print_fn f hf
  have hPg := Print_fn g hg
  have sm6 : smF (.mk 6 0 0 (bA []) [f, g]) := by rw [smF]; exact ⟨by decide, by simp, hf, hg, trivial⟩
  have sm7 : smF (.mk 7 0 0 (bA []) [g]) := by rw [smF]; exact ⟨by decide, by simp, hg, trivial⟩
  have sm8 : smF (.mk 8 0 0 (bA []) [f]) := by rw [smF]; exact ⟨by decide, by simp, hf, trivial⟩
  have hR6 := Right_fn _ sm6
  have hP6 := Print_fn _ sm6
  have hP7 := Print_fn _ sm7
  have hP8 := Print_fn _ sm8
  have sub : Rgt (.mk 6 0 0 (bA []) [f, g]) → Rgt f ∧ Rgt g ∧ Rgt (.mk 7 0 0 (bA []) [g]) ∧ Rgt (.mk 8 0 0 (bA []) [f]) := fun h => by
    obtain ⟨h1, h2, h3⟩ := h
    rw [okA, okL, okL] at h1
    simp only [cnt, cntL, dep, depL] at h2 h3
    refine ⟨⟨h1.2.1, by omega, by omega⟩, ⟨h1.2.2.1, by omega, by omega⟩, ⟨?_, ?_, ?_⟩, ⟨?_, ?_, ?_⟩⟩
    · rw [okA]; exact ⟨by simp [OkOne, sz0], h1.2.2.1, trivial⟩
    · simp only [cnt, cntL]; omega
    · simp only [dep, depL]; omega
    · rw [okA]; exact ⟨by simp [OkOne, sz0], h1.2.1, trivial⟩
    · simp only [cnt, cntL]; omega
    · simp only [dep, depL]; omega
  have lf : Rgt f → (tx f).length ≤ 3840 := tx_len
  have lg : Rgt g → (tx g).length ≤ 3840 := tx_len
  have t6 := tx_and f g
  have t7 := tx_or g
  have t8 := tx_not f
  generalize hF6 : FlD.mk 6 0 0 (bA []) [f, g] = F6 at *
  generalize hF7 : FlD.mk 7 0 0 (bA []) [g] = F7 at *
  generalize hF8 : FlD.mk 8 0 0 (bA []) [f] = F8 at *
  generalize htf : tx f = tf at *
  generalize htg : tx g = tg at *
  generalize hrf : Rgt f = rf at *
  generalize hrg : Rgt g = rg at *
  generalize tx F6 = t6' at *
  generalize tx F7 = t7' at *
  generalize tx F8 = t8' at *
  have e6 : F6.sv = .agg ([I 6, I ((0 : Int)), I ((0 : Int)), S (ByteArray.mk (Array.mk [])), SL 5 ([f.row, g.row])]) := by
    rw [← hF6, FlD.sv, row_mk]; rfl
  have e7 : F7.sv = .agg ([I 7, I ((0 : Int)), I ((0 : Int)), S (ByteArray.mk (Array.mk [])), SL 5 ([g.row])]) := by
    rw [← hF7, FlD.sv, row_mk]; rfl
  have e8 : F8.sv = .agg ([I 8, I ((0 : Int)), I ((0 : Int)), S (ByteArray.mk (Array.mk [])), SL 5 ([f.row])]) := by
    rw [← hF8, FlD.sv, row_mk]; rfl
  rw [e6] at hR6 hP6
  rw [e7] at hP7
  rw [e8] at hP8
  clear hF6 hF7 hF8 htf htg hrf hrg e6 e7 e8
  cases f with
  | mk op a b nm ks =>
    cases g with
    | mk op2 a2 b2 nm2 ks2 =>
      rw [mk_sv] at hSf hSg hPf hPg
      rw [row_mk] at hR6 hP6 hP8
      rw [row_mk] at hR6 hP6 hP7
      rw [mk_sv, mk_sv]
      refine tlaw5_nf _ _ _ _ _ _ _ _ _ _ _ (Cl.of awake_fn ⟨_, rfl, ifB_intro (fun h => by simp at h) (fun _ => Cl.ofQ hSf ?_)⟩)
      rintro r ⟨sh, rfl⟩
      refine ⟨_, rfl, ifB_intro (fun _ => rfl) (fun _ => Cl.ofQ hSg ?_)⟩
      rintro r ⟨sh2, rfl⟩
      refine ⟨_, rfl, ifB_intro (fun _ => rfl) (fun _ => Cl.of hR6 ⟨_, rfl, ifB_intro (fun _ => rfl) (fun h6 => ?_)⟩)⟩
      obtain ⟨r1, r2, r7, r8⟩ := sub (dB_iff.1 (by simpa only [bnot_eq, Bool.not_eq_false'] using h6))
      have r6 : Rgt F6 := dB_iff.1 (by simpa only [bnot_eq, Bool.not_eq_false'] using h6)
      have l1 := lf r1
      have l2 := lg r2
      refine Cl.ofQ hPf ?_
      rintro r (⟨_, rfl⟩ | ⟨h, _⟩)
      case inr => exact absurd r1 h
      refine ⟨_, _, rfl, Cl.ofQ hPg ?_⟩
      rintro r (⟨_, rfl⟩ | ⟨h, _⟩)
      case inr => exact absurd r2 h
      refine ⟨_, _, rfl, Cl.ofQ hP6 ?_⟩
      rintro r (⟨_, rfl⟩ | ⟨h, _⟩)
      case inr => exact absurd r6 h
      refine ⟨_, _, rfl, Cl.ofQ hP7 ?_⟩
      rintro r (⟨_, rfl⟩ | ⟨h, _⟩)
      case inr => exact absurd r7 h
      refine ⟨_, _, rfl, Cl.ofQ hP8 ?_⟩
      rintro r (⟨_, rfl⟩ | ⟨h, _⟩)
      case inr => exact absurd r8 h
      refine ⟨_, _, rfl, ifB_intro (fun _ => ?_) (fun h => by simp at h)⟩
      show lsum (slen (bA [97, 110, 100, 32, 50, 32])) (slen (bA tf)) ≤ _ ∧ lsum (slen (scat (bA [97, 110, 100, 32, 50, 32]) (bA tf))) (slen (bA [32])) ≤ _ ∧ lsum (slen (scat (scat (bA [97, 110, 100, 32, 50, 32]) (bA tf)) (bA [32]))) (slen (bA tg)) ≤ _ ∧
        ifB (seq (bA t6') (scat (scat (scat (bA [97, 110, 100, 32, 50, 32]) (bA tf)) (bA [32])) (bA tg))) (lsum (slen (bA [111, 114, 32, 49, 32])) (slen (bA tg)) ≤ _ ∧ ifB (seq (bA t7') (scat (bA [111, 114, 32, 49, 32]) (bA tg))) (lsum (slen (bA [110, 111, 116, 32])) (slen (bA tf)) ≤ _ ∧ [B (seq (bA t8') (scat (bA [110, 111, 116, 32]) (bA tf)))] = [B true]) _) _
      rw [scat_bA, scat_bA, scat_bA, scat_bA, scat_bA, t6, t7, t8, seq_d, seq_d, seq_d]
      simp only [slen_bA]
      refine ⟨by simp; omega, by simp; omega, by simp; omega, ifB_intro (fun _ => ⟨by simp; omega, ifB_intro (fun _ => ⟨by simp; omega, by simp⟩) (fun h => by simp at h)⟩) (fun h => by simp at h)⟩

theorem law6_fn (f g : FlD) (hf : smF f) (hg : smF g) (s : ByteArray) (cut : Int) (hc0 : 0 ≤ cut) (hc1 : cut ≤ 65535) : Ct Tryd.prog 6 {} [f.sv, g.sv, S s, U16 cut] (fun r => r = [B true]) := by
  have hSf := Short_fn f hf
  have hSg := Short_fn g hg
  have hPf := Print_fn f hf
  have hPg := Print_fn g hg
  have hfg := fSame_fn f g hf hg
  have hff := fun (k : FlD) (hk : smF k) => fSame_fn k f hk hf
  have lf : Rgt f → (tx f).length ≤ 3840 := tx_len
  have htl : 0 < (tx f).length := by
    rcases Nat.eq_zero_or_pos (tx f).length with h | h
    · have h0 : tx f = [] := List.eq_nil_of_length_eq_zero h
      have h1 := jn_inj (a := wds f) (b := wds f) (wds_ne f) (wds_ne f)
      exfalso
      -- the first word isn't empty
      cases hw : wds f with
      | nil => exact wds_ne f hw
      | cons w ws =>
        have hwn : w ≠ [] := by
          cases f with
          | mk op a b nm ks =>
            rw [wds] at hw
            unfold hdW at hw
            intro e
            subst e
            repeat' split at hw
            all_goals simp [tAll, tTime, tSeq, tComp, tKind, tAnd, tOr, tNot] at hw
        rw [tx, hw] at h0
        cases ws with
        | nil => rw [jn_one] at h0; exact hwn h0
        | cons v vs => rw [jn_cons] at h0; exact hwn (List.append_eq_nil_iff.1 h0).1
    · exact h
  -- a text that is read
  have fin : ∀ (hs : s.size ≤ 100000), Cl Tryd.prog 17 sP [S s] (fun rs5 => ∃ x2 : Int, ∃ x3 : Int, ∃ x4 : Int, ∃ s3 : ByteArray, ∃ l : List (List SV), ∃ x5 : Int, (rs5 = [SV.agg [I x2, I x3, I x4, S s3, SL 5 l], I x5]) ∧ (ifB (ine x5 0) (Cl Tryd.prog 19 sP ([SV.agg [I x2, I x3, I x4, S s3, SL 5 l], SV.agg ([I ((0 : Int)), I ((0 : Int)), I ((0 : Int)), S (ByteArray.mk (Array.mk [])), SL 5 []])]) (fun rs6 => ∃ b5 : Bool, (rs6 = [B b5]) ∧ (([B b5] : List SV) = [B true]))) (Cl Tryd.prog 14 sP ([SV.agg [I x2, I x3, I x4, S s3, SL 5 l]]) (fun rs6 => ∃ s4 : ByteArray, ∃ x6 : Int, (rs6 = [S s4, I x6]) ∧ (ifB (bpick (ieq x6 0) (seq s4 s) false) (Cl Tryd.prog 20 sP ([SV.agg [I x2, I x3, I x4, S s3, SL 5 l]]) (fun rs7 => ∃ b5 : Bool, (rs7 = [B b5]) ∧ (([B b5] : List SV) = [B true]))) (([B false] : List SV) = [B true])))))) := fun hs => by
    refine Cl.ofQ (Parse_fn s hs) ?_
    rintro r ⟨k, e, rfl, ⟨rfl, hk, hks⟩ | ⟨rfl, rfl, _⟩⟩
    · have hsk := sm_ok k hk.1 (by have := hk.2.1; omega)
      have hPk := Print_fn k hsk
      have hRk := Right_fn k hsk
      cases k with
      | mk o a b n ks =>
        rw [mk_sv] at hPk hRk
        refine ⟨_, _, _, _, _, _, by rw [mk_sv], ifB_intro (fun h => by simp at h) (fun _ => Cl.ofQ hPk ?_)⟩
        rintro r (⟨_, rfl⟩ | ⟨h, _⟩)
        · refine ⟨_, _, rfl, ifB_intro (fun _ => Cl.of hRk ⟨_, rfl, by rw [dB_t hk]⟩) (fun h => ?_)⟩
          rw [seq_d, hks] at h
          simp at h
        · exact absurd hk h
    · have hE := equal_fn zeroF smF_zero zeroF
      rw [sv_zero] at hE ⊢
      exact ⟨_, _, _, _, _, _, rfl, ifB_intro (fun _ => Cl.of hE ⟨_, rfl, by rw [dB_t rfl]⟩) (fun h => by simp at h)⟩
  cases f with
  | mk op a b nm ks =>
    cases hgd : g with
    | mk op2 a2 b2 nm2 ks2 =>
      rw [hgd, mk_sv] at hSg
      rw [mk_sv] at hSf hPf
      rw [mk_sv, mk_sv]
      refine tlaw6_nf _ _ _ _ _ _ _ _ _ _ _ _ _ (Cl.of awake_fn ⟨_, rfl, ifB_intro (fun h => by simp at h) (fun _ => Cl.ofQ hSf ?_)⟩)
      rintro r ⟨sh, rfl⟩
      refine ⟨_, rfl, ifB_intro (fun _ => rfl) (fun _ => Cl.ofQ hSg ?_)⟩
      rintro r ⟨sh2, rfl⟩
      refine ⟨_, rfl, ifB_intro (fun _ => rfl) (fun hsz => ?_)⟩
      have hs : s.size ≤ 100000 := by
        simp at hsz
        have := hsz.2
        omega
      refine Cl.ofQ hPf ?_
      intro r hr
      have hPg' := hPg
      rw [hgd, mk_sv] at hPg'
      have hfg' := hfg
      rw [mk_sv, hgd, mk_sv] at hfg'
      rcases hr with ⟨hrf, rfl⟩ | ⟨hrf, rfl⟩
      · have l1 := lf hrf
        refine ⟨_, _, rfl, Cl.ofQ hPg' ?_⟩
        intro r hr2
        obtain ⟨ty, ey, rfl, hy⟩ : ∃ (ty : ByteArray) (ey : Int), r = [S ty, I ey] ∧ (ey = 0 → Rgt g ∧ ty = bA (tx g)) := by
          rcases hr2 with ⟨h, rfl⟩ | ⟨h, rfl⟩
          · exact ⟨_, _, rfl, fun _ => ⟨hgd ▸ h, by rw [hgd]⟩⟩
          · exact ⟨_, _, rfl, fun e => by simp at e⟩
        refine ⟨_, _, rfl, True, 0, ifB_intro (fun _ => Cl.ofQ (Parse_fn _ (by show (bA (tx _)).size ≤ _; simp [ByteArray.size]; omega)) ?_) (fun h => by simp at h), fun _ => fin hs⟩
        rintro r ⟨k, e, rfl, ⟨rfl, hk, hks⟩ | ⟨_, _, hno⟩⟩
        case inr => exact absurd rfl (hno _ hrf)
        obtain rfl := tx_inj hrf.1 hk.1 (bA_inj.1 hks)
        have hself := hff (.mk op a b nm ks) hf
        rw [mk_sv] at hself
        refine ⟨_, _, _, _, _, _, by rw [mk_sv], fun b => b = false, fun _ => 0, ifB_intro (fun h => by simp at h) (fun _ => Cl.of hself ⟨_, rfl, ?_⟩), ?_⟩
        · rw [dB_t ⟨hrf, hrf, rfl⟩]
          refine ifB_intro (fun h => ?_) (fun _ => ifB_intro (fun he => Cl.of hfg' ⟨_, rfl, rfl, ?_⟩) (fun _ => ⟨rfl, rfl⟩))
          · rw [slen_bA] at h
            simp at h
            rw [h] at htl
            simp at htl
          · obtain ⟨hrg, rfl⟩ := hy (by simpa using he)
            rw [seq_d]
            by_cases hfe : FlD.mk op a b nm ks = .mk op2 a2 b2 nm2 ks2
            · have e1 : tx (.mk op a b nm ks) = tx g := by rw [hfe, hgd]
              rw [dB_t ⟨hrf, hgd ▸ hrg, hfe⟩, e1]
              simp
            · rw [dB_f (fun h => hfe h.2.2)]
              have : ¬ bA (tx (.mk op a b nm ks)) = bA (tx g) := fun h => hfe (by rw [← hgd]; exact tx_inj hrf.1 hrg.1 (bA_inj.1 h))
              simp [this]
        · rintro _ rfl
          refine ifB_intro (fun h => by simp at h) (fun _ => ⟨by rw [slen_bA, slen_mk]; simp; omega, ?_⟩)
          have no1 : ∀ f0, Rgt f0 → bA (tx (.mk op a b nm ks) ++ [32, 97, 108, 108]) ≠ bA (tx f0) := fun f0 hr0 e =>
            tx_no_more hrf.1 hr0.1 (v := tAll) (ws := []) (by decide) (by rw [jn_one]; exact (bA_inj.1 e).symm)
          have no2 : ∀ f0, Rgt f0 → bA (tx (.mk op a b nm ks) ++ [32]) ≠ bA (tx f0) := fun f0 hr0 e =>
            tx_no_more hrf.1 hr0.1 (v := []) (ws := []) (by decide) (by rw [jn_one]; exact (bA_inj.1 e).symm)
          show Cl Tryd.prog 17 sP [S (scat (bA _) (bA [32, 97, 108, 108]))] _
          rw [scat_bA]
          refine Cl.ofQ (Parse_fn _ (by show (bA (_ : Tx)).size ≤ _; simp [ByteArray.size]; omega)) ?_
          rintro r ⟨k1, e1, rfl, ⟨_, hk1, hks1⟩ | ⟨rfl, rfl, _⟩⟩
          case inl => exact absurd hks1 (no1 k1 hk1)
          refine ⟨_, _, _, _, _, _, by rw [sv_zero], by rw [slen_bA, slen_mk]; simp; omega, ?_⟩
          show Cl Tryd.prog 17 sP [S (scat (bA _) (bA [32]))] _
          rw [scat_bA]
          refine Cl.ofQ (Parse_fn _ (by show (bA (_ : Tx)).size ≤ _; simp [ByteArray.size]; omega)) ?_
          rintro r ⟨k2, e2, rfl, ⟨_, hk2, hks2⟩ | ⟨rfl, rfl, _⟩⟩
          case inl => exact absurd hks2 (no2 k2 hk2)
          have hcv : wcv .i64 cut = cut := wrap_i64 (by omega) (by omega)
          have hrm : ∃ m : Nat, wrem cut ((tx (.mk op a b nm ks)).length : Int) = m ∧ m < (tx (.mk op a b nm ks)).length := by
            refine ⟨(cut % ((tx (.mk op a b nm ks)).length : Int)).toNat, ?_, ?_⟩
            · show cut.tmod _ = _
              rw [Int.tmod_eq_emod_of_nonneg hc0]
              have := Int.emod_nonneg cut (show ((tx (.mk op a b nm ks)).length : Int) ≠ 0 by omega)
              omega
            · have := Int.emod_lt_of_pos cut (show (0 : Int) < (tx (.mk op a b nm ks)).length by omega)
              have := Int.emod_nonneg cut (show ((tx (.mk op a b nm ks)).length : Int) ≠ 0 by omega)
              omega
          obtain ⟨m, hm1, hm2⟩ := hrm
          refine ⟨_, _, _, _, _, _, by rw [sv_zero], by rw [slen_bA]; omega, ?_⟩
          rw [hcv, slen_bA, hm1, ssub_bA]
          refine ⟨by omega, Cl.ofQ (Parse_fn _ (by show (bA (_ : Tx)).size ≤ _; simp [ByteArray.size]; omega)) ?_⟩
          rintro r ⟨k3, e3, rfl, hk3⟩
          have hsk3 : smF k3 := by
            rcases hk3 with ⟨_, h, _⟩ | ⟨_, rfl, _⟩
            · exact sm_ok k3 h.1 (by have := h.2.1; omega)
            · exact smF_zero
          have hcut := hff k3 hsk3
          rw [mk_sv op a b nm ks] at hcut
          cases hk3d : k3 with
          | mk o3 a3 b3 n3 ks3 =>
            rw [hk3d, mk_sv] at hcut
            refine ⟨_, _, _, _, _, _, by rw [mk_sv], fun b => b = false, fun _ => 0, ifB_intro (fun h => by simp at h) (fun _ => ifB_intro (fun he => Cl.of hcut ⟨_, rfl, rfl, ?_⟩) (fun _ => ⟨rfl, rfl⟩)), ?_⟩
            · refine dB_f fun h => ?_
              rcases hk3 with ⟨_, hr3, ht3⟩ | ⟨h11, _⟩
              · have e4 : k3 = .mk op a b nm ks := by rw [hk3d]; exact h.2.2
                rw [e4] at ht3
                have := congrArg List.length (bA_inj.1 ht3)
                simp at this
                omega
              · rw [h11] at he; simp at he
            · rintro _ rfl
              exact ifB_intro (fun h => by simp at h) (fun _ => ⟨rfl, trivial⟩)
      · refine ⟨_, _, rfl, Cl.ofQ hPg' ?_⟩
        intro r hr2
        obtain ⟨ty, ey, rfl⟩ : ∃ (ty : ByteArray) (ey : Int), r = [S ty, I ey] := by
          rcases hr2 with ⟨h, rfl⟩ | ⟨h, rfl⟩
          · exact ⟨_, _, rfl⟩
          · exact ⟨_, _, rfl⟩
        exact ⟨_, _, rfl, True, 0, ifB_intro (fun h => by simp at h) (fun _ => ⟨rfl, trivial⟩), fun _ => fin hs⟩
end Go.Proofs.YtknnooannohflaaDoor.Trm

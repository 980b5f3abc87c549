/- Layer 22: a filter's words, its text, and the filter of a text. -/
import Derived.Test.YtknnooannohflaaDoorTrmG
namespace Go.Proofs.YtknnooannohflaaDoor.Trm
open Go Go.Px Go.Proofs
set_option maxRecDepth 100000
set_option linter.unusedVariables false

theorem digits_fn {n : Int} (h0 : 0 ≤ n) (h1 : n ≤ 1099511627776) : Ct Tryd.prog 94 {} [I n] (fun r => r = [S (bA (Lib.itoa n))]) :=
  tdigits_nf _ _ (Cl.of (fmt10_fn n (by omega) (by omega)) ⟨_, rfl, rfl⟩)

theorem rapp_nR (l m : List Tx) : rapp (nR l) (nR m) = nR (l ++ m) := by simp [rapp]

theorem words_fn : ∀ f : FlD, okA f → cnt f ≤ 1000 → ∀ l : List Tx, l.length + 3 * cnt f ≤ 100000 → Ct Tryd.prog 39 ⟨[.own, .pure], [.own]⟩ [SL 1 (nR l), f.sv] (fun r => r = [SL 1 (nR (l ++ wds f))]) := by
  refine FlD.ind fun op a b nm ks ih hok hc l hl => ?_
  rw [okA] at hok
  have hk := hok.1
  rw [cnt] at hc hl
  have hcl := cntL_len ks
  rw [mk_sv, wds]
  have big : ∀ m : List (List SV), m.length ≤ 3 → lsum (rlen (nR l)) (rlen m) ≤ 2147483648 := fun m hm => by
    simp; omega
  refine twords_nf _ _ _ _ _ _ _ ⟨fun l1 => l1 = nR (l ++ hdW op a b nm ks.length) ∧ (op = 6 ∨ op = 7 ∨ op = 8), fun _ => 0, ?_, ?_⟩
  · have leaf : ¬ (op = 6 ∨ op = 7 ∨ op = 8) → wdsL ks = [] := fun h => by
      have : ks.length = 0 := by unfold OkOne at hk; omega
      have : ks = [] := List.eq_nil_of_length_eq_zero this
      subst this; rfl
    refine ifB_intro (fun h => ⟨big _ (by simp), ?_⟩) (fun h1 => ifB_intro (fun h => ?_) (fun h2 => ifB_intro (fun h => ?_) (fun h3 => ifB_intro (fun h => ?_) (fun h4 => ifB_intro (fun h => ?_) (fun h5 => ifB_intro (fun h => ?_) (fun h6 => ifB_intro (fun h => ?_) (fun h7 => ?_)))))))
    · simp at h; subst h
      rw [leaf (by omega), List.append_nil]
      exact congrArg (fun x => [SL 1 x]) (rapp_nR l [tAll])
    · simp at h; subst h
      unfold OkOne at hk
      refine Cl.of (digits_fn (by omega) (by omega)) ⟨_, rfl, Cl.of (digits_fn (by omega) (by omega)) ⟨_, rfl, big _ (by simp), ?_⟩⟩
      rw [leaf (by omega), List.append_nil]
      exact congrArg (fun x => [SL 1 x]) (rapp_nR l [tTime, Lib.itoa a, Lib.itoa b])
    · simp at h; subst h
      unfold OkOne at hk
      refine Cl.of (digits_fn (by omega) (by omega)) ⟨_, rfl, Cl.of (digits_fn (by omega) (by omega)) ⟨_, rfl, big _ (by simp), ?_⟩⟩
      rw [leaf (by omega), List.append_nil]
      exact congrArg (fun x => [SL 1 x]) (rapp_nR l [tSeq, Lib.itoa a, Lib.itoa b])
    · simp at h; subst h
      unfold OkOne at hk
      refine Cl.of (spell_fn nm (by omega)) ⟨_, rfl, big _ (by simp), ?_⟩
      rw [leaf (by omega), List.append_nil]
      exact congrArg (fun x => [SL 1 x]) (rapp_nR l [tComp, Trm.spell nm])
    · simp at h; subst h
      unfold OkOne at hk
      refine Cl.of (digits_fn (by omega) (by omega)) ⟨_, rfl, big _ (by simp), ?_⟩
      rw [leaf (by omega), List.append_nil]
      exact congrArg (fun x => [SL 1 x]) (rapp_nR l [tKind, Lib.itoa a])
    · simp at h; subst h
      rw [rlen_eq, List.length_map]
      exact Cl.of (digits_fn (by omega) (by omega)) ⟨_, rfl, big _ (by simp), rfl, rapp_nR l [tAnd, Lib.itoa ks.length], by omega⟩
    · simp at h; subst h
      rw [rlen_eq, List.length_map]
      exact Cl.of (digits_fn (by omega) (by omega)) ⟨_, rfl, big _ (by simp), rfl, rapp_nR l [tOr, Lib.itoa ks.length], by omega⟩
    · simp at h1 h2 h3 h4 h5 h6 h7
      have : op = 8 := by unfold OkOne at hk; omega
      subst this
      exact ⟨big _ (by simp), rfl, rapp_nR l [tNot], by omega⟩
  · rintro l1 ⟨rfl, hop⟩
    have hhl := (hdW_len hk (by omega)).1
    refine ⟨fun l2 x => ∃ i : Nat, x = i ∧ i ≤ ks.length ∧ l2 = nR (l ++ hdW op a b nm ks.length ++ wdsL (ks.take i)), fun _ x => ks.length - x.toNat, ⟨0, rfl, by omega, by simp [wdsL]⟩, ?_⟩
    rintro _ _ ⟨i, rfl, hi, rfl⟩
    refine ifB_intro (fun hlt => ?_) (fun hge => ?_)
    · simp at hlt
      obtain ⟨op', a', b', nm', ks', e1, e2⟩ := kid_get ks i hlt
      refine ⟨by simp; omega, _, _, _, _, _, e2, ?_⟩
      have hm := List.getElem_mem hlt
      have q1 := cntL_mem hm
      have q2 := cntL_snoc ks i hlt
      have q3 := cntL_take_le ks (i + 1)
      have q4 := (wdsL_len (ks.take i) ((okL_iff _).2 fun x hx => (okL_iff _).1 hok.2 x (List.mem_of_mem_take hx)) (by omega)).1
      have hk2 := ih _ hm ((okL_iff _).1 hok.2 _ hm) (by omega) (l ++ hdW op a b nm ks.length ++ wdsL (ks.take i)) (by simp only [List.length_append]; omega)
      rw [e1, mk_sv] at hk2
      refine Cl.of hk2 ⟨_, rfl, rfl, ?_⟩
      rw [waddN i (by omega)]
      refine ⟨⟨i + 1, rfl, by omega, ?_⟩, stepL (by simp; omega)⟩
      rw [wdsL_snoc ks i hlt, e1, List.append_assoc _ (wdsL _)]
    · simp at hge
      have : i = ks.length := by omega
      subst this
      rw [List.take_length, List.append_assoc]

theorem Print_fn (f : FlD) (hsm : smF f) : Ct Tryd.prog 14 {} [f.sv] (fun r => (Rgt f ∧ r = [S (bA (tx f)), I 0]) ∨ (¬ Rgt f ∧ r = [S (bA []), I 1])) := by
  have h1 := Right_fn f hsm
  have h2 := fun (h : Rgt f) => words_fn f h.1 (by have := h.2.1; omega) [] (by have := h.2.1; simp; omega)
  cases f with
  | mk op a b nm ks =>
    rw [mk_sv] at h1 h2 ⊢
    refine tprint_nf _ _ _ _ _ _ (Cl.of h1 ⟨_, rfl, ifB_intro (fun h => ?_) (fun h => ?_)⟩)
    · refine .inr ⟨fun k => ?_, rfl⟩
      rw [dB_t k] at h; simp at h
    · have hr : Rgt (.mk op a b nm ks) := dB_iff.1 (by simpa using h)
      have hlen := tx_len hr
      have hwl := (wds_len _ hr.1 (by have := hr.2.1; omega)).1
      have := hr.2.1
      exact Cl.of (h2 hr) ⟨_, rfl, Cl.of (join_fn (wds (.mk op a b nm ks)) (by omega) (by show (tx _).length ≤ _; omega)) ⟨_, rfl, .inl ⟨hr, rfl⟩⟩⟩

/-- What Parse tells of a text. -/
def PaR (s : ByteArray) (r : List SV) : Prop :=
  ∃ (f : FlD) (e : Int), r = [f.sv, I e] ∧ ((e = 0 ∧ Rgt f ∧ s = bA (tx f)) ∨ (e = 11 ∧ f = zeroF ∧ ∀ f0, Rgt f0 → s ≠ bA (tx f0)))

theorem tx_spl {s : ByteArray} {f0 : FlD} (h : okA f0) (e : s = bA (tx f0)) : spl s.data.toList = wds f0 ++ [] := by
  rw [e, bA_list, List.append_nil]
  exact spl_jn _ (wds_ne f0) (wds_no f0 h)

theorem spl_NoS {s : ByteArray} (hs : s.size ≤ 100000) : NoS (spl s.data.toList) :=
  ⟨spl_no _, by rw [jn_spl, Array.length_toList]; exact hs⟩

theorem Parse_fn (s : ByteArray) (hs : s.size ≤ 100000) : Ct Tryd.prog 17 {} [S s] (PaR s) := by
  have h1 := filter_fn 16 1 (by omega) (by omega) (spl s.data.toList) 64 false (spl_NoS hs) (by omega) (by omega)
  have e1 : rdv (spl s.data.toList) 64 false = .agg [S s, B true, I 64, B false] := by
    have : mor (spl s.data.toList) = true := by
      cases h : spl s.data.toList with
      | nil => exact absurd h (spl_ne _)
      | cons => rfl
    show SV.agg [S (bA (jn _)), B _, _, _] = _
    rw [jn_spl, bA_of, this]
  rw [e1] at h1
  refine tparse_nf _ _ (Cl.ofQ h1 ?_)
  rintro r ⟨f, ws', n', bad', rfl, _, hsm, _, _, _, _, hC⟩
  have key : ∀ f0, Rgt f0 → s = bA (tx f0) → f = f0 ∧ ws' = [] ∧ bad' = false := fun f0 hr e => by
    obtain ⟨q1, q2, _, q4⟩ := hC f0 [] rfl hr.1 (by have := hr.2.2; omega) (by have := hr.2.1; omega) (tx_spl hr.1 e)
    exact ⟨q1, q2, q4⟩
  have hP := Print_fn f hsm
  have hf : f.sv = f.sv := rfl
  cases f with
  | mk op a b nm ks =>
    rw [mk_sv] at hP hf
    have none_end : (∀ f0, Rgt f0 → s ≠ bA (tx f0)) → PaR s [SV.agg ([I ((0 : Int)), I ((0 : Int)), I ((0 : Int)), S (ByteArray.mk (Array.mk [])), SL 5 []]), I 11] := fun h =>
      ⟨zeroF, 11, by rw [sv_zero], .inr ⟨rfl, rfl, h⟩⟩
    refine ⟨_, _, _, _, _, _, _, _, _, by rw [mk_sv], ifB_intro (fun hb => ?_) (fun hb => Cl.ofQ hP ?_)⟩
    · refine none_end fun f0 hr e => ?_
      obtain ⟨_, q2, q3⟩ := key f0 hr e
      subst q2; subst q3
      simp [mor] at hb
    · rintro r (⟨hr, rfl⟩ | ⟨hr, rfl⟩)
      · refine ⟨_, _, rfl, ifB_intro (fun hc => none_end fun f0 hr0 e => ?_) (fun hc => ?_)⟩
        · obtain ⟨q1, _⟩ := key f0 hr0 e
          rw [sne_d, q1, e] at hc
          simp at hc
        · rw [sne_d] at hc
          simp at hc
          exact ⟨_, 0, by rw [mk_sv], .inl ⟨rfl, hr, hc.symm⟩⟩
      · refine ⟨_, _, rfl, ifB_intro (fun hc => none_end fun f0 hr0 e => ?_) (fun hc => ?_)⟩
        · obtain ⟨q1, _⟩ := key f0 hr0 e
          exact hr (q1 ▸ hr0)
        · simp at hc
end Go.Proofs.YtknnooannohflaaDoor.Trm

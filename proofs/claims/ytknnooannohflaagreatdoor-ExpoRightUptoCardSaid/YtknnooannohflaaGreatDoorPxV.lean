/- The conditions of code are sound. -/
import Derived.Test.YtknnooannohflaaGreatDoorPxL
namespace Go.Px
open Go.RowKit
set_option linter.unusedVariables false

def Ex.to : Ex → Exit
  | .normal => .normal
  | .exit id => .exit id
  | .ret => .ret

/-- The same activation, seen from a later time. -/
theorem FitsAt.rebase {X : Cx} {h : Hp} {ρ : Nat → Loc} {st : St} {a : Act} {w : World} (F : FitsAt X h ρ st a w) : FitsAt { X with h := h } h ρ st a w :=
  { F with mono := HLe.refl h, ext := fun _ _ _ _ e => e, gl := ⟨F.gl.1.le F.mono, F.gl.2⟩ }

theorem FitsAt.unbase {X : Cx} {h0 h : Hp} {ρ0 ρ : Nat → Loc} {st0 st : St} {a0 a : Act} {w0 w : World} (F0 : FitsAt X h0 ρ0 st0 a0 w0) (F : FitsAt { X with h := h0 } h ρ st a w) : FitsAt X h ρ st a w :=
  { F with mono := F0.mono.trans F.mono, ext := fun b hb hg o e => F.ext b hb hg o (F0.ext b hb hg o e), gl := F0.gl }

theorem setP_pure : ∀ (ps : List (Nat × Nat)) (wr : List Nat) (tm : List SV) {t : Nat} {c : SV}, t ∉ unP ps wr → (setP ps tm)[t]? = some c → pureDat c = true → t ∉ wr ∧ tm[t]? = some c := by
  intro ps wr tm t c h1 h2 hp
  have key : ∀ (ps : List (Nat × Nat)) (tm : List SV), (setP ps tm)[t]? = some c → t ∉ ps.map (·.1) ∧ tm[t]? = some c := by
    intro ps
    induction ps with
    | nil => intro tm h; exact ⟨by simp, h⟩
    | cons p ps ih =>
      intro tm h
      obtain ⟨g1, g2⟩ := ih (lset tm p.1 (.ptr p.2 0)) h
      have hl : ∀ (l : List SV) (n i : Nat) (v : SV), (lset l n v)[i]? = some c → (i = n ∧ c = v) ∨ (i ≠ n ∧ l[i]? = some c) := by
        intro l
        induction l with
        | nil => intro n i v h; simp [lset] at h
        | cons x xs ihx =>
          intro n i v h
          cases n with
          | zero =>
            cases i with
            | zero => simp [lset] at h; exact .inl ⟨rfl, h.symm⟩
            | succ i => simp [lset] at h; exact .inr ⟨by omega, by simpa using h⟩
          | succ n =>
            cases i with
            | zero => simp [lset] at h; exact .inr ⟨by omega, by simpa using h⟩
            | succ i =>
              simp [lset] at h
              rcases ihx n i v h with ⟨e, e2⟩ | ⟨e, e2⟩
              · exact .inl ⟨by omega, e2⟩
              · exact .inr ⟨by omega, by simpa using e2⟩
      rcases hl tm p.1 t _ g2 with ⟨_, e⟩ | ⟨e1, e2⟩
      · rw [e] at hp; simp [pureDat] at hp
      · exact ⟨by simp only [List.map_cons, List.mem_cons]; rintro (e | e); exact e1 e; exact g1 e, e2⟩
  obtain ⟨g1, g2⟩ := key ps tm h2
  refine ⟨fun hm => h1 ?_, g2⟩
  unfold unP
  rw [List.mem_filter]
  refine ⟨hm, ?_⟩
  cases hh : hasN (ps.map (·.1)) t with
  | false => rfl
  | true => exact absurd (hasN_iff.1 hh) g1

/-- What stands behind a cut. -/
theorem enter_head {X : Cx} {h0 h : Hp} {ρ00 ρ : Nat → Loc} {st st1 : St} {a0 a : Act} {w0 w : World} (F0 : FitsAt X h0 ρ00 st a0 w0) {sp : LoopSpec} {wr : List Nat} (hs0 : (fixedAt (keepIds sp) st.objs sp.fixed).isSome = true)
    {vals : List SV} {ids : List (Option Nat × Nat)} (F1 : FitsAt { X with h := h0 } h ρ st1 a w) (hfr : Fr wr a0 a) (hh : headOf sp st1 = some (vals, ids)) (hok1 : headOK sp (unP sp.ptrs wr) ids = true)
    (hkept : keptTmps (keepTmps (unP sp.ptrs wr) (keepIds sp) 0 (setP sp.ptrs st.tmps)) st1.tmps = true) (hfx : fixedAt (keepIds sp) st1.objs sp.fixed = fixedAt (keepIds sp) st.objs sp.fixed) {I : ITy (shapes sp) Prop} {m : ITy (shapes sp) Nat} {K : St → Prop}
    (h2 : allI (shapes sp) I m fun vs _ => match mkHead sp (unP sp.ptrs wr) { st with tmps := setP sp.ptrs st.tmps } vs with | none => False | some hd => K hd) (hi : applyI (shapes sp) I vals (fun p => p)) :
    ∃ hd, Fits { X with h := h0 } hd a w ∧ K hd := by
  obtain ⟨vs', k, hn, hk, hm⟩ := allI_get _ I m _ _ h2 hi
  split at hk
  · exact hk.elim
  · rename_i hd hmk
    obtain ⟨g1, g2⟩ := keptTmps_get _ _ hkept
    obtain ⟨k1, k2⟩ := keepTmps_get (unP sp.ptrs wr) (keepIds sp) (setP sp.ptrs st.tmps) 0
    obtain ⟨ρ', F'⟩ := head_fits (st0 := { st with tmps := setP sp.ptrs st.tmps }) F1 hh hok1 hn (fun t s hs => by
      obtain ⟨c, hc, hcase⟩ := k2 t s hs
      rcases hcase with rfl | ⟨hnw, rfl⟩
      · exact .pure _ _ (.unk _)
      · rw [Nat.zero_add] at hnw
        rcases keepV_cases (keepIds sp) c with e | ⟨e, hcs⟩
        · rw [e]; exact .pure _ _ (.unk _)
        · have hlt : t < st1.tmps.length := by rw [g1]; exact (List.getElem?_eq_some_iff.1 hs).1
          have hkv := g2 t _ _ hs (List.getElem?_eq_getElem hlt)
          rw [e] at hkv ⊢
          rcases hcs with hp | hcs
          · obtain ⟨hnw, hc⟩ := setP_pure sp.ptrs wr st.tmps hnw hc hp
            rw [hfr t hnw]
            have ht := F0.tm t c hc
            have hr : Rep h0 ρ00 (a0.tmps.getD t undef) c := ht.out (fun t' b x e' => by subst e'; simp [pureDat] at hp)
            exact .pure _ _ ((hr.toPure hp).mono F1.mono)
          · have he := keptV_eq hkv (by
              rcases hcs with ⟨id, off, e, _⟩ | ⟨id, e, _⟩ | ⟨id, e, _⟩
              · exact .inl ⟨id, off, e⟩
              · exact .inr (.inl ⟨id, e⟩)
              · exact .inr (.inr ⟨id, e⟩))
            have ht := F1.tm t _ (List.getElem?_eq_getElem hlt)
            rw [he] at ht
            exact ht.out (fun t' b x e' => by rcases hcs with ⟨id, off, e, _⟩ | ⟨id, e, _⟩ | ⟨id, e, _⟩ <;> rw [e] at e' <;> cases e')) (by rw [g1, k1]) hs0 hfx hmk
    exact ⟨hd, ⟨h, ρ', F'⟩, hk⟩

theorem vc_sound {P : Program} (Sg : FuncId → Sig) (Sv : TypeId → Sig) (L : Nat → Option LoopSpec) : ∀ (c : Code) (X : Cx) (st : St) (a : Act) (w : World) (QA : Ex → St → Prop) (Q : Exit → Act → World → Prop),
    (∀ e st a' w, Fits X st a' w → Fr (writes c) a a' → QA e st → Q e.to a' w) → Fits X st a w → vc P Sg Sv L c st QA → c.wp P Q a w := by
  intro c
  induction c with
  | skip => intro X st a w QA Q hQ F hv; exact wp_skip (hQ .normal st a w F (Fr.refl _ _) hv)
  | region id ops draw =>
    intro X st a w QA Q hQ F hv
    cases draw with
    | true =>
      simp only [vc] at hv
      cases hok : (P.follows .mixedOrders && regionOK ops) with
      | false => simp [hok] at hv
      | true =>
        simp only [hok, cond_true] at hv
        simp only [Bool.and_eq_true] at hok
        split at hv
        · exact any_sound Sg Sv id ops hok.1 hok.2 st a w F _ hv Q (fun st a w F hf hk => hQ .normal st a w F hf hk)
        · rename_i sp _
          obtain ⟨h0, ρ0, F0⟩ := F
          have Fb := F0.rebase
          unfold cutC at hv
          cases hs0 : (fixedAt (keepIds sp) st.objs sp.fixed).isSome with
          | false => simp only [hs0, cond_false] at hv
          | true =>
            simp only [hs0, cond_true] at hv
            obtain ⟨I, m, h1, h2⟩ := hv
            refine any_sound Sg Sv id ops hok.1 hok.2 st a w ⟨_, _, Fb⟩ _ h1 Q (fun st1 a1 w1 F1 hf hk => ?_)
            split at hk
            · exact hk.elim
            · rename_i vals' ids' hhx
              cases hb : (headOK sp (unP sp.ptrs (ops.toList.filterMap (·.dst))) ids' && keptTmps (keepTmps (unP sp.ptrs (ops.toList.filterMap (·.dst))) (keepIds sp) 0 (setP sp.ptrs st.tmps)) (St.frzAll (headFrz st1 sp) st1).tmps) with
              | false => simp only [hb, cond_false] at hk
              | true =>
                simp only [hb, cond_true] at hk
                simp only [Bool.and_eq_true] at hb
                obtain ⟨hx, ρx, Fx⟩ := F1
                obtain ⟨hy, _, Fy⟩ := Fx.frzAll (headFrz st1 sp)
                obtain ⟨hd, ⟨hz, ρz, Fz⟩, hk2⟩ := enter_head F0 hs0 Fy hf hhx hb.1 hb.2 hk.1 h2 hk.2
                exact hQ .normal hd a1 w1 ⟨hz, ρz, F0.unbase Fz⟩ hf hk2
    | false =>
      simp only [vc] at hv
      split at hv
      · exact wp_region_list (vcOps_sound Sg Sv ops Q _ (writes (.region id ops false)) a (fun st a w F hf hk => hQ .normal st a w F hf hk) ops.toList st a w (fun o ho t ht => List.mem_filterMap.2 ⟨o, ho, ht⟩) (Fr.refl _ _) F hv)
      · rename_i sp _
        obtain ⟨h0, ρ0, F0⟩ := F
        have Fb := F0.rebase
        unfold cutC at hv
        cases hs0 : (fixedAt (keepIds sp) st.objs sp.fixed).isSome with
        | false => simp only [hs0, cond_false] at hv
        | true =>
          simp only [hs0, cond_true] at hv
          obtain ⟨I, m, h1, h2⟩ := hv
          refine wp_region_list (vcOps_sound Sg Sv ops Q _ (writes (.region id ops false)) a (fun st1 a1 w1 F1 hf hk => ?_) ops.toList st a w (fun o ho t ht => List.mem_filterMap.2 ⟨o, ho, ht⟩) (Fr.refl _ _) ⟨_, _, Fb⟩ h1)
          split at hk
          · exact hk.elim
          · rename_i vals' ids' hhx
            cases hb : (headOK sp (unP sp.ptrs (ops.toList.filterMap (·.dst))) ids' && keptTmps (keepTmps (unP sp.ptrs (ops.toList.filterMap (·.dst))) (keepIds sp) 0 (setP sp.ptrs st.tmps)) (St.frzAll (headFrz st1 sp) st1).tmps) with
            | false => simp only [hb, cond_false] at hk
            | true =>
              simp only [hb, cond_true] at hk
              simp only [Bool.and_eq_true] at hb
              obtain ⟨hx, ρx, Fx⟩ := F1
              obtain ⟨hy, _, Fy⟩ := Fx.frzAll (headFrz st1 sp)
              obtain ⟨hd, ⟨hz, ρz, Fz⟩, hk2⟩ := enter_head F0 hs0 Fy hf hhx hb.1 hb.2 hk.1 h2 hk.2
              exact hQ .normal hd a1 w1 ⟨hz, ρz, F0.unbase Fz⟩ hf hk2
  | seq x y ihx ihy =>
    intro X st a w QA Q hQ F hv
    refine wp_seq (ihx X st a w _ _ ?_ F hv)
    intro e st' a' w' F' hf he
    have hf1 : Fr (writes (.seq x y)) a a' := hf.mono (fun t ht => by simp [writes, ht])
    cases e with
    | normal => exact ihy X st' a' w' QA Q (fun e st2 a2 w2 F2 hf2 h2 => hQ e st2 a2 w2 F2 (hf1.trans (hf2.mono (fun t ht => by simp [writes, ht]))) h2) F' he
    | exit id => exact hQ (.exit id) st' a' w' F' hf1 he
    | ret => exact hQ .ret st' a' w' F' hf1 he
  | cond c x y ihx ihy =>
    intro X st a w QA Q hQ F hv
    simp only [vc] at hv
    split at hv
    · rename_i b hb
      obtain ⟨h, ρ, F'⟩ := F
      have r := F'.operand [] (by simp) c
      rw [hb] at r
      split at hv
      · refine wp_cond_split r.val_inv (fun e => ihx X st a w QA Q (fun e st a' w F hf => hQ e st a' w F (hf.mono (fun t ht => by simp [writes, ht]))) ⟨h, ρ, F'⟩ (by subst e; exact hv)) (fun e => ihy X st a w QA Q (fun e st a' w F hf => hQ e st a' w F (hf.mono (fun t ht => by simp [writes, ht]))) ⟨h, ρ, F'⟩ (by subst e; exact hv))
      · rename_i sp _
        have Fb := F'.rebase
        unfold cutC at hv
        cases hs0 : (fixedAt (keepIds sp) st.objs sp.fixed).isSome with
        | false => simp only [hs0, cond_false] at hv
        | true =>
          simp only [hs0, cond_true] at hv
          obtain ⟨I, m, h1, h2⟩ := hv
          have go : ∀ (e : Ex) (st1 : St) (a1 : Act) (w1 : World), Fits { X with h := h } st1 a1 w1 → Fr (writes x ++ writes y) a a1 →
              (match e with
              | .normal => (match headOf sp (St.frzAll (headFrz st1 sp) st1) with
                | none => False
                | some (vals', ids') => bif headOK sp (unP sp.ptrs (writes x ++ writes y)) ids' && keptTmps (keepTmps (unP sp.ptrs (writes x ++ writes y)) (keepIds sp) 0 (setP sp.ptrs st.tmps)) (St.frzAll (headFrz st1 sp) st1).tmps then
                    fixedAt (keepIds sp) (St.frzAll (headFrz st1 sp) st1).objs sp.fixed = fixedAt (keepIds sp) st.objs sp.fixed ∧ applyI (shapes sp) I vals' (fun p => p) else False)
              | .exit i => QA (.exit i) st1
              | .ret => QA .ret st1) → Q e.to a1 w1 := by
            intro e st1 a1 w1 F1 hf he
            have hf' : Fr (writes (.cond c x y)) a a1 := hf.mono (fun t ht => by simpa [writes] using ht)
            have back : Fits X st1 a1 w1 := by
              obtain ⟨hx, ρx, Fx⟩ := F1
              exact ⟨hx, ρx, F'.unbase Fx⟩
            cases e with
            | normal =>
              simp only [] at he
              split at he
              · exact he.elim
              · rename_i vals' ids' hhx
                cases hb : (headOK sp (unP sp.ptrs (writes x ++ writes y)) ids' && keptTmps (keepTmps (unP sp.ptrs (writes x ++ writes y)) (keepIds sp) 0 (setP sp.ptrs st.tmps)) (St.frzAll (headFrz st1 sp) st1).tmps) with
                | false => simp only [hb, cond_false] at he
                | true =>
                  simp only [hb, cond_true] at he
                  simp only [Bool.and_eq_true] at hb
                  obtain ⟨hx, ρx, Fx⟩ := F1
                  obtain ⟨hy, _, Fy⟩ := Fx.frzAll (headFrz st1 sp)
                  obtain ⟨hd, ⟨hz, ρz, Fz⟩, hk2⟩ := enter_head F' hs0 Fy hf hhx hb.1 hb.2 he.1 h2 he.2
                  exact hQ .normal hd a1 w1 ⟨hz, ρz, F'.unbase Fz⟩ hf' hk2
            | exit i => exact hQ (.exit i) st1 a1 w1 back hf' he
            | ret => exact hQ .ret st1 a1 w1 back hf' he
          refine wp_cond_split r.val_inv (fun e => ihx { X with h := h } st a w _ Q (fun e st1 a1 w1 F1 hf he => go e st1 a1 w1 F1 (hf.mono (fun t ht => by simp [ht])) he) ⟨_, _, Fb⟩ (by subst e; exact h1))
            (fun e => ihy { X with h := h } st a w _ Q (fun e st1 a1 w1 F1 hf he => go e st1 a1 w1 F1 (hf.mono (fun t ht => by simp [ht])) he) ⟨_, _, Fb⟩ (by subst e; exact h1))
    · exact hv.elim
  | block id body ih =>
    intro X st a w QA Q hQ F hv
    simp only [vc] at hv
    split at hv
    · refine wp_block (ih X st a w _ _ ?_ F hv)
      intro e st' a' w' F' hf he
      cases e with
      | normal => exact hQ .normal st' a' w' F' hf he
      | exit i =>
        simp only [Ex.to, Exit.inBlock]
        by_cases hi : i = id
        · subst hi; simp only [Nat.beq_refl, cond_true] at he; rw [if_pos rfl]; exact hQ .normal st' a' w' F' hf he
        · simp only [beq_false hi, cond_false] at he; rw [if_neg hi]; exact hQ (.exit i) st' a' w' F' hf he
      | ret => exact hQ .ret st' a' w' F' hf he
    · rename_i sp _
      obtain ⟨h0, ρ0, F0⟩ := F
      have Fb := F0.rebase
      unfold cutC at hv
      cases hs0 : (fixedAt (keepIds sp) st.objs sp.fixed).isSome with
      | false => simp only [hs0, cond_false] at hv
      | true =>
        simp only [hs0, cond_true] at hv
        obtain ⟨I, m, h1, h2⟩ := hv
        refine wp_block (ih { X with h := h0 } st a w _ _ ?_ ⟨_, _, Fb⟩ h1)
        intro e st1 a1 w1 F1 hf he
        have back : Fits X st1 a1 w1 := by
          obtain ⟨hx, ρx, Fx⟩ := F1
          exact ⟨hx, ρx, F0.unbase Fx⟩
        have out : (match headOf sp (St.frzAll (headFrz st1 sp) st1) with
            | none => False
            | some (vals', ids') => bif headOK sp (unP sp.ptrs (writes body)) ids' && keptTmps (keepTmps (unP sp.ptrs (writes body)) (keepIds sp) 0 (setP sp.ptrs st.tmps)) (St.frzAll (headFrz st1 sp) st1).tmps then
                fixedAt (keepIds sp) (St.frzAll (headFrz st1 sp) st1).objs sp.fixed = fixedAt (keepIds sp) st.objs sp.fixed ∧ applyI (shapes sp) I vals' (fun p => p) else False) → Q .normal a1 w1 := by
          intro hk
          split at hk
          · exact hk.elim
          · rename_i vals' ids' hhx
            cases hb : (headOK sp (unP sp.ptrs (writes body)) ids' && keptTmps (keepTmps (unP sp.ptrs (writes body)) (keepIds sp) 0 (setP sp.ptrs st.tmps)) (St.frzAll (headFrz st1 sp) st1).tmps) with
            | false => simp only [hb, cond_false] at hk
            | true =>
              simp only [hb, cond_true] at hk
              simp only [Bool.and_eq_true] at hb
              obtain ⟨hx, ρx, Fx⟩ := F1
              obtain ⟨hy, _, Fy⟩ := Fx.frzAll (headFrz st1 sp)
              obtain ⟨hd, ⟨hz, ρz, Fz⟩, hk2⟩ := enter_head F0 hs0 Fy hf hhx hb.1 hb.2 hk.1 h2 hk.2
              exact hQ .normal hd a1 w1 ⟨hz, ρz, F0.unbase Fz⟩ hf hk2
        cases e with
        | normal => exact out he
        | exit i =>
          simp only [Ex.to, Exit.inBlock]
          by_cases hi : i = id
          · subst hi; simp only [Nat.beq_refl, cond_true] at he; rw [if_pos rfl]; exact out he
          · simp only [beq_false hi, cond_false] at he; rw [if_neg hi]; exact hQ (.exit i) st1 a1 w1 back hf he
        | ret => exact hQ .ret st1 a1 w1 back hf he
  | exit id => intro X st a w QA Q hQ F hv; exact wp_exit (hQ (.exit id) st a w F (Fr.refl _ _) hv)
  | ret => intro X st a w QA Q hQ F hv; exact wp_ret (hQ .ret st a w F (Fr.refl _ _) hv)
  | loop body ih =>
    intro X st00 a0 w0 QA Q hQ F00 hv
    simp only [vc] at hv
    generalize (L (loopKey body)).getD (autoSpec Sg Sv body st00) = sp at hv
    obtain ⟨h00, ρ00, F00⟩ := F00
    obtain ⟨h0, _, F0⟩ := F00.frzAll (headFrz st00 sp)
    generalize St.frzAll (headFrz st00 sp) st00 = st at hv F0
    have Fb := F0.rebase
    split at hv
    · exact hv.elim
    · rename_i vals ids hhd
      cases hok : (headOK sp (writes body) ids && (fixedAt (keepIds sp) st.objs sp.fixed).isSome) with
      | false => simp only [hok, cond_false] at hv
      | true =>
        simp only [hok, cond_true] at hv
        simp only [Bool.and_eq_true] at hok
        obtain ⟨I, m, h1, h2⟩ := hv
        have enter : ∀ (st1 : St) (a : Act) (w : World) (h : Hp) (ρ : Nat → Loc) (vals : List SV) (ids : List (Option Nat × Nat)), FitsAt { X with h := h0 } h ρ st1 a w → Fr (writes body) a0 a → headOf sp st1 = some (vals, ids) → headOK sp (writes body) ids = true →
            keptTmps (keepTmps (writes body) (keepIds sp) 0 st.tmps) st1.tmps = true → fixedAt (keepIds sp) st1.objs sp.fixed = fixedAt (keepIds sp) st.objs sp.fixed → applyI (shapes sp) I vals (fun p => p) →
            ∃ k hd, applyI (shapes sp) m vals (fun k' => k' = k) ∧ Fits { X with h := h0 } hd a w ∧ vc P Sg Sv L body hd fun e st1 => match e with
              | .normal => match headOf sp (St.frzAll (headFrz st1 sp) st1) with
                | none => False
                | some (vals', ids') => bif headOK sp (writes body) ids' && keptTmps (keepTmps (writes body) (keepIds sp) 0 st.tmps) (St.frzAll (headFrz st1 sp) st1).tmps then
                    fixedAt (keepIds sp) (St.frzAll (headFrz st1 sp) st1).objs sp.fixed = fixedAt (keepIds sp) st.objs sp.fixed ∧ applyI (shapes sp) I vals' (fun p => p) ∧ applyI (shapes sp) m vals' (fun k' => k' < k) else False
              | e => QA e st1 := by
          intro st1 a w h ρ vals ids F1 hfr hh hok1 hkept hfx hi
          obtain ⟨vs', k, hn, hk, hm⟩ := allI_get _ I m _ _ h2 hi
          split at hk
          · exact hk.elim
          · rename_i hd hmk
            obtain ⟨g1, g2⟩ := keptTmps_get _ _ hkept
            obtain ⟨k1, k2⟩ := keepTmps_get (writes body) (keepIds sp) st.tmps 0
            obtain ⟨ρ', F'⟩ := head_fits F1 hh hok1 hn (fun t s hs => by
              obtain ⟨c, hc, hcase⟩ := k2 t s hs
              rcases hcase with rfl | ⟨hnw, rfl⟩
              · exact .pure _ _ (.unk _)
              · rw [Nat.zero_add] at hnw
                rcases keepV_cases (keepIds sp) c with e | ⟨e, hcs⟩
                · rw [e]; exact .pure _ _ (.unk _)
                · have hlt : t < st1.tmps.length := by rw [g1]; exact (List.getElem?_eq_some_iff.1 hs).1
                  have hkv := g2 t _ _ hs (List.getElem?_eq_getElem hlt)
                  rw [e] at hkv ⊢
                  rcases hcs with hp | hcs
                  · rw [hfr t hnw]
                    have ht := F0.tm t c hc
                    have hr : Rep h0 ρ00 (a0.tmps.getD t undef) c := ht.out (fun t' b x e' => by subst e'; simp [pureDat] at hp)
                    exact .pure _ _ ((hr.toPure hp).mono F1.mono)
                  · have he := keptV_eq hkv (by
                      rcases hcs with ⟨id, off, e, _⟩ | ⟨id, e, _⟩ | ⟨id, e, _⟩
                      · exact .inl ⟨id, off, e⟩
                      · exact .inr (.inl ⟨id, e⟩)
                      · exact .inr (.inr ⟨id, e⟩))
                    have ht := F1.tm t _ (List.getElem?_eq_getElem hlt)
                    rw [he] at ht
                    exact ht.out (fun t' b x e' => by rcases hcs with ⟨id, off, e, _⟩ | ⟨id, e, _⟩ | ⟨id, e, _⟩ <;> rw [e] at e' <;> cases e')) (by rw [g1, k1]) hok.2 hfx hmk
            exact ⟨k, hd, hm, ⟨h, ρ', F'⟩, hk⟩
        have hself : keptTmps (keepTmps (writes body) (keepIds sp) 0 st.tmps) st.tmps = true := by
          have : ∀ (l : List SV) (t : Nat), keptTmps (keepTmps (writes body) (keepIds sp) t l) l = true := by
            intro l
            induction l with
            | nil => intro t; rfl
            | cons c cs ihc =>
              intro t
              simp only [keepTmps, keptTmps, ihc, Bool.and_true]
              cases hh : hasN (writes body) t with
              | true => rfl
              | false =>
                simp only [cond_false]
                rcases keepV_cases (keepIds sp) c with e | ⟨e, _⟩
                · rw [e]; cases c <;> rfl
                · rw [e]; cases c <;> simp [keptV]
          exact this _ _
        obtain ⟨k0, hd0, _, Fh0, hb0⟩ := enter st a0 w0 h0 ρ00 vals ids Fb (Fr.refl _ _) hhd hok.1 hself rfl h1
        refine wp_loop_rel (fun k a w => Fr (writes body) a0 a ∧ ∃ hd, Fits { X with h := h0 } hd a w ∧ vc P Sg Sv L body hd fun e st1 => match e with
              | .normal => match headOf sp (St.frzAll (headFrz st1 sp) st1) with
                | none => False
                | some (vals', ids') => bif headOK sp (writes body) ids' && keptTmps (keepTmps (writes body) (keepIds sp) 0 st.tmps) (St.frzAll (headFrz st1 sp) st1).tmps then
                    fixedAt (keepIds sp) (St.frzAll (headFrz st1 sp) st1).objs sp.fixed = fixedAt (keepIds sp) st.objs sp.fixed ∧ applyI (shapes sp) I vals' (fun p => p) ∧ applyI (shapes sp) m vals' (fun k' => k' < k) else False
              | e => QA e st1) k0 ⟨Fr.refl _ _, hd0, Fh0, hb0⟩ ?_
        rintro k a w ⟨hfr, hd, F', hb'⟩
        refine ih { X with h := h0 } hd a w _ _ ?_ F' hb'
        intro e st' a' w' Fx hf he
        have hfr' := hfr.trans hf
        have back : Fits X st' a' w' := by
          obtain ⟨hx, ρx, Fx⟩ := Fx
          exact ⟨hx, ρx, F0.unbase Fx⟩
        cases e with
        | normal =>
          simp only [] at he
          split at he
          · exact he.elim
          · rename_i vals' ids' hhx
            cases hb : (headOK sp (writes body) ids' && keptTmps (keepTmps (writes body) (keepIds sp) 0 st.tmps) (St.frzAll (headFrz st' sp) st').tmps) with
            | false => simp [hb] at he
            | true =>
              simp only [hb, cond_true] at he
              simp only [Bool.and_eq_true] at hb
              obtain ⟨e1, e2, e3⟩ := he
              obtain ⟨hx, ρx, Fx⟩ := Fx
              obtain ⟨hy, _, Fy⟩ := Fx.frzAll (headFrz st' sp)
              obtain ⟨k', hd1, g1, g2, g3⟩ := enter _ a' w' hy ρx vals' ids' Fy hfr' hhx hb.1 hb.2 e1 e2
              refine ⟨k', ?_, hfr', hd1, g2, g3⟩
              obtain ⟨x, hx1, hx2⟩ := applyI_both _ m _ _ _ e3 g1
              omega
        | exit id => exact hQ (.exit id) st' a' w' back hfr' he
        | ret => exact hQ .ret st' a' w' back hfr' he
  | rangeFunc f ps x y _ _ => intro X st a w QA Q hQ F hv; exact hv.elim
  | scope c _ => intro X st a w QA Q hQ F hv; exact hv.elim
  | label l => intro X st a w QA Q hQ F hv; exact hv.elim
  | goto l => intro X st a w QA Q hQ F hv; exact hv.elim
  | refuse s => intro X st a w QA Q hQ F hv; exact hv.elim

end Go.Px

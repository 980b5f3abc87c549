/- The conditions of code are sound. -/
import Derived.Test.YtggfbmcdodbchaaPxL
namespace Go.Px
open Go.RowKit

section
variable {w0 : World} {h0 : Hp} {P : Program}

def Ex.to : Ex → Exit
  | .normal => .normal
  | .exit id => .exit id
  | .ret => .ret

theorem vc_sound (T : FuncId → Bool) (L : Nat → LoopSpec) : ∀ (c : Code) (st : St) (a : Act) (w : World) (QA : Ex → St → Prop) (Q : Exit → Act → World → Prop),
    (∀ e st a w, Fits w0 h0 st a w → QA e st → Q e.to a w) → Fits w0 h0 st a w → vc P T L c st QA → c.wp P Q a w := by
  intro c
  induction c with
  | skip => intro st a w QA Q hQ F hv; exact wp_skip (hQ .normal st a w F hv)
  | region id ops draw =>
    intro st a w QA Q hQ F hv
    cases draw with
    | true =>
      simp only [vc] at hv
      cases hok : (P.follows .mixedOrders && regionOK ops) with
      | false => simp [hok] at hv
      | true =>
        simp only [hok, cond_true] at hv
        simp only [Bool.and_eq_true] at hok
        exact any_sound T id ops hok.1 hok.2 st a w F _ hv Q (fun st a w F hk => hQ .normal st a w F hk)
    | false => exact wp_region_list (vcOps_sound T ops Q _ (fun st a w F hk => hQ .normal st a w F hk) ops.toList st a w F hv)
  | seq x y ihx ihy =>
    intro st a w QA Q hQ F hv
    refine wp_seq (ihx st a w _ _ ?_ F hv)
    intro e st' a' w' F' he
    cases e with
    | normal => exact ihy st' a' w' QA Q hQ F' he
    | exit id => exact hQ (.exit id) st' a' w' F' he
    | ret => exact hQ .ret st' a' w' F' he
  | cond c x y ihx ihy =>
    intro st a w QA Q hQ F hv
    simp only [vc] at hv
    split at hv
    · rename_i b hb
      obtain ⟨h, ρ, F'⟩ := F
      have r := F'.operand [] (by simp) c
      rw [hb] at r
      refine wp_cond_split r.val_inv (fun e => ihx st a w QA Q hQ ⟨h, ρ, F'⟩ (by subst e; exact hv)) (fun e => ihy st a w QA Q hQ ⟨h, ρ, F'⟩ (by subst e; exact hv))
    · exact hv.elim
  | block id body ih =>
    intro st a w QA Q hQ F hv
    refine wp_block (ih st a w _ _ ?_ F hv)
    intro e st' a' w' F' he
    cases e with
    | normal => exact hQ .normal st' a' w' F' he
    | exit i =>
      simp only [Ex.to, Exit.inBlock]
      by_cases hi : i = id
      · subst hi; simp only [Nat.beq_refl, cond_true] at he; rw [if_pos rfl]; exact hQ .normal st' a' w' F' he
      · simp only [beq_false hi, cond_false] at he; rw [if_neg hi]; exact hQ (.exit i) st' a' w' F' he
    | ret => exact hQ .ret st' a' w' F' he
  | exit id => intro st a w QA Q hQ F hv; exact wp_exit (hQ (.exit id) st a w F hv)
  | ret => intro st a w QA Q hQ F hv; exact wp_ret (hQ .ret st a w F hv)
  | loop body ih =>
    intro st a w QA Q hQ F hv
    simp only [vc] at hv
    generalize L (loopKey body) = sp at hv
    split at hv
    · exact hv.elim
    · rename_i hd hhd
      obtain ⟨I, m, h1, h2⟩ := hv
      have enter : ∀ (st1 : St) (a : Act) (w : World) (hd' : Head), Fits w0 h0 st1 a w → headOf sp st1 = some hd' → lenN st1.tmps = lenN st.tmps → hd'.live = hd.live → hd'.fixed = hd.fixed →
          applyI (shapes sp) (allIds sp) I hd'.vals (fun p => p) → ∃ k vs', (applyI (shapes sp) (allIds sp) m hd'.vals (fun k' => k' = k)) ∧ Fits w0 h0 (mkHead sp (lenN st.tmps) vs' hd.live hd.fixed) a w ∧
            vc P T L body (mkHead sp (lenN st.tmps) vs' hd.live hd.fixed) (fun e st' => match e with
            | .normal => match headOf sp st' with
              | none => False
              | some h' => bif Nat.beq (lenN st'.tmps) (lenN st.tmps) then h'.live = hd.live ∧ h'.fixed = hd.fixed ∧ applyI (shapes sp) (allIds sp) I h'.vals (fun p => p) ∧ applyI (shapes sp) (allIds sp) m h'.vals (fun k' => k' < k) else False
            | e => QA e st') := by
        intro st1 a w hd' ⟨h, ρ, F1⟩ hh hlen el ef hi
        obtain ⟨vs', k, hn, hk, hm⟩ := allI_get _ _ I m _ _ h2 hi
        have := head_fits F1 hh hn
        rw [el, ef, hlen] at this
        exact ⟨k, vs', hm, this, hk⟩
      obtain ⟨k0, vs0, _, F0, hb0⟩ := enter st a w hd F hhd rfl rfl rfl h1
      refine wp_loop_rel (fun k a w => ∃ vs', Fits w0 h0 (mkHead sp (lenN st.tmps) vs' hd.live hd.fixed) a w ∧ vc P T L body (mkHead sp (lenN st.tmps) vs' hd.live hd.fixed) (fun e st' => match e with
            | .normal => match headOf sp st' with
              | none => False
              | some h' => bif Nat.beq (lenN st'.tmps) (lenN st.tmps) then h'.live = hd.live ∧ h'.fixed = hd.fixed ∧ applyI (shapes sp) (allIds sp) I h'.vals (fun p => p) ∧ applyI (shapes sp) (allIds sp) m h'.vals (fun k' => k' < k) else False
            | e => QA e st')) k0 ⟨vs0, F0, hb0⟩ ?_
      rintro k a w ⟨vs', F', hb'⟩
      refine ih _ a w _ _ ?_ F' hb'
      intro e st' a' w' Fx he
      cases e with
      | normal =>
        simp only [] at he
        split at he
        · exact he.elim
        · rename_i hx hhx
          cases hb : Nat.beq (lenN st'.tmps) (lenN st.tmps) with
          | false => simp [hb] at he
          | true =>
            simp only [hb, cond_true] at he
            obtain ⟨e1, e2, e3, e4⟩ := he
            obtain ⟨k', vs1, g1, g2, g3⟩ := enter st' a' w' hx Fx hhx (Nat.eq_of_beq_eq_true hb) e1 e2 e3
            refine ⟨k', ?_, vs1, g2, g3⟩
            obtain ⟨x, hx1, hx2⟩ := applyI_both _ _ m _ _ _ e4 g1
            omega
      | exit id => exact hQ (.exit id) st' a' w' Fx he
      | ret => exact hQ .ret st' a' w' Fx he
  | rangeFunc f ps x y _ _ => intro st a w QA Q hQ F hv; exact hv.elim
  | scope c _ => intro st a w QA Q hQ F hv; exact hv.elim
  | label l => intro st a w QA Q hQ F hv; exact hv.elim
  | goto l => intro st a w QA Q hQ F hv; exact hv.elim
  | refuse s => intro st a w QA Q hQ F hv; exact hv.elim

end
end Go.Px

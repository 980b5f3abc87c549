/- The conditions of code are sound. -/
import Derived.Test.YtggfbmcdodbchaaPxR
namespace Go.Px
open Go.RowKit

section
variable {w0 : World} {h0 : Hp} {P : Program}

def Ex.to : Ex → Exit
  | .normal => .normal
  | .exit id => .exit id
  | .ret => .ret

theorem vc_sound (T : FuncId → Bool) : ∀ (c : Code) (st : St) (a : Act) (w : World) (QA : Ex → St → Prop) (Q : Exit → Act → World → Prop),
    (∀ e st a w, Fits w0 h0 st a w → QA e st → Q e.to a w) → Fits w0 h0 st a w → vc P T c st QA → c.wp P Q a w := by
  intro c
  induction c with
  | skip => intro st a w QA Q hQ F hv; exact wp_skip (hQ .normal st a w F hv)
  | region id ops draw =>
    intro st a w QA Q hQ F hv
    cases draw with
    | true =>
      simp only [vc] at hv
      cases hok : (P.follows .mixedOrders && regionOK ops) with
      | false => simp [hok] at hv
      | true =>
        simp only [hok, cond_true] at hv
        simp only [Bool.and_eq_true] at hok
        exact any_sound T id ops hok.1 hok.2 st a w F _ hv Q (fun st a w F hk => hQ .normal st a w F hk)
    | false => exact wp_region_list (vcOps_sound T ops Q _ (fun st a w F hk => hQ .normal st a w F hk) ops.toList st a w F hv)
  | seq x y ihx ihy =>
    intro st a w QA Q hQ F hv
    refine wp_seq (ihx st a w _ _ ?_ F hv)
    intro e st' a' w' F' he
    cases e with
    | normal => exact ihy st' a' w' QA Q hQ F' he
    | exit id => exact hQ (.exit id) st' a' w' F' he
    | ret => exact hQ .ret st' a' w' F' he
  | cond c x y ihx ihy =>
    intro st a w QA Q hQ F hv
    simp only [vc] at hv
    split at hv
    · rename_i b hb
      obtain ⟨h, ρ, F'⟩ := F
      have r := F'.operand [] (by simp) c
      rw [hb] at r
      refine wp_cond_split r.val_inv (fun e => ihx st a w QA Q hQ ⟨h, ρ, F'⟩ (by subst e; exact hv)) (fun e => ihy st a w QA Q hQ ⟨h, ρ, F'⟩ (by subst e; exact hv))
    · exact hv.elim
  | block id body ih =>
    intro st a w QA Q hQ F hv
    refine wp_block (ih st a w _ _ ?_ F hv)
    intro e st' a' w' F' he
    cases e with
    | normal => exact hQ .normal st' a' w' F' he
    | exit i =>
      simp only [Ex.to, Exit.inBlock]
      by_cases hi : i = id
      · subst hi; simp only [Nat.beq_refl, cond_true] at he; rw [if_pos rfl]; exact hQ .normal st' a' w' F' he
      · simp only [beq_false hi, cond_false] at he; rw [if_neg hi]; exact hQ (.exit i) st' a' w' F' he
    | ret => exact hQ .ret st' a' w' F' he
  | exit id => intro st a w QA Q hQ F hv; exact wp_exit (hQ (.exit id) st a w F hv)
  | ret => intro st a w QA Q hQ F hv; exact wp_ret (hQ .ret st a w F hv)
  | loop body _ => intro st a w QA Q hQ F hv; exact hv.elim
  | rangeFunc f ps x y _ _ => intro st a w QA Q hQ F hv; exact hv.elim
  | scope c _ => intro st a w QA Q hQ F hv; exact hv.elim
  | label l => intro st a w QA Q hQ F hv; exact hv.elim
  | goto l => intro st a w QA Q hQ F hv; exact hv.elim
  | refuse s => intro st a w QA Q hQ F hv; exact hv.elim

end
end Go.Px

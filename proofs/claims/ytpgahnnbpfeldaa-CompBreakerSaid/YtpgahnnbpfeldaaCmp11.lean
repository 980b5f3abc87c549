/- CompRight over plain data. -/
import Derived.Test.YtpgahnnbpfeldaaCmp10
namespace Go.Proofs.Ytpgahnnbpfeldaa.Cmp
open Go Go.Px Go.Proofs
set_option maxRecDepth 100000
set_option linter.unusedVariables false

def tellD (c : CoD) (e : EvD) : CoD := if mayI c e = 0 then tellC c e else c
theorem tellR_eq (c : CoD) (e : EvD) : tellR c e = [(tellD c e).sv, I (mayI c e)] := by
  unfold tellR tellD
  split
  · rename_i h; rw [h]
  · rfl
theorem addL_len (cl : List (Int × Int)) (p : Int) (ok : Bool) : (addL cl p ok).length = cl.length := by simp [addL]
theorem wadS_len (wd sl : Int) (cl : List (Int × Int)) (a : Int) (ok : Bool) : (wadS wd sl cl a ok).2.length = cl.length := by
  unfold wadS
  repeat' split
  all_goals simp [addL_len, mvL_len]
theorem cntC_cl (c : CoD) (i : Int) : (cntC c i).cl = c.cl := rfl
theorem tell_cl {c : CoD} {e : EvD} (ok : MayOK c e) : (tellC c e).cl.length ≤ c.cl.length ∨ (tellC c e).cl.length ≤ 16 := by
  unfold tellC
  split
  · rename_i hk
    split
    · rename_i hr
      have := ok.cfg hk
      unfold cfgP at this
      rw [if_pos hr] at this
      refine .inr ?_
      simp [zer]; omega
    · split <;> exact .inl (Nat.le_refl _)
  · split
    · refine .inl ?_
      rw [cntC_cl, (hadC_rest _ _).2.2.2.2.2.1]
      exact Nat.le_of_eq (wadS_len _ _ _ _ _)
    · split
      · split
        · exact .inl (by simp [zer])
        · exact .inl (Nat.le_refl _)
      · repeat' split
        all_goals first | exact .inl (Nat.le_refl _) | (refine .inl ?_; rw [cntC_cl, (hadC_rest _ _).2.2.2.2.2.1]; exact Nat.le_refl _)
theorem tellD_len {c : CoD} (e : EvD) (h : c.cl.length ≤ 40) : (tellD c e).cl.length ≤ 1000000 := by
  unfold tellD
  split
  · rename_i hm
    rcases tell_cl (may_zero.1 hm) with h1 | h1 <;> omega
  · omega

theorem law9_fn (c d : CoD) (e : EvD) (nm : ByteArray) (ro a : Int) : Ct Try.prog 9 {} [c.sv, d.sv, e.sv, S nm, I ro, I a] (fun r => r = [B true]) := by
  have ht1 : Ct Try.prog 49 {} [c.sv, e.sv] (fun r => r = [(tellD c e).sv, I (mayI c e)]) := by have := ptell_fn c e; rw [tellR_eq] at this; exact this
  have ht2 : Ct Try.prog 50 {} [c.sv, e.sv] (fun r => r = [(tellD c e).sv, I (mayI c e)]) := by have := qtell_fn c e; rw [tellR_eq] at this; exact this
  have hs : ∀ x : CoD, x.cl.length ≤ 1000000 → Ct Try.prog 48 {} [x.sv, x.sv] (fun r => r = [B true]) := fun x hx => by have := qsame_fn x x hx; rw [decide_eq_true (sameP_refl x)] at this; exact this
  refine law9_nf _ _ _ _ _ _ _ _ _ _ _ _ _ _ _ _ _ _ _ _ _ _ _ _ _ _ _ _ _ _ _ _ _ _ _ _ _ _ _ _ _ _ _ _ _ _ _ _ _ _ _ _ _ (Cl.of awake_fn ⟨_, rfl, ifB_intro (fun h => by simp at h) (fun _ => Cl.of (qshort_fn c) ⟨_, rfl, ifB_intro (fun h => ?_) (fun h => ?_)⟩)⟩)
  · exact ifB_intro (fun _ => rfl) (fun h => by simp at h)
  simp at h
  refine Cl.of (qshort_fn d) ⟨_, rfl, ifB_intro (fun _ => rfl) (fun h2 => ?_)⟩
  refine Cl.of (pnew_fn nm ro a) ⟨_, _, _, _, _, _, _, _, _, _, _, _, _, _, _, _, _, _, _, _, _, _, rfl, Cl.of (qnew_fn nm ro a) ⟨_, _, _, _, _, _, _, _, _, _, _, _, _, _, _, _, _, _, _, _, _, _, rfl, ifB_intro (fun h => by simp at h) (fun _ => ?_)⟩⟩
  refine Cl.of (hs (newC nm ro a).1 (new_len nm ro a)) ⟨_, rfl, ifB_intro (fun h => by simp at h) (fun _ => ?_)⟩
  refine Cl.of ht1 ⟨_, _, _, _, _, _, _, _, _, _, _, _, _, _, _, _, _, _, _, _, _, _, rfl, Cl.of ht2 ⟨_, _, _, _, _, _, _, _, _, _, _, _, _, _, _, _, _, _, _, _, _, _, rfl, ifB_intro (fun _ => ?_) (fun h => by simp at h)⟩⟩
  refine Cl.of (hs (tellD c e) (tellD_len e h.2)) ⟨_, rfl, ifB_intro (fun _ => ?_) (fun h => by simp at h)⟩
  refine Cl.of (pmay_fn c e) ⟨_, rfl, Cl.of (qmay_fn c e) ⟨_, rfl, ifB_intro (fun _ => ?_) (fun h => by simp at h)⟩⟩
  refine Cl.of (pright_fn c) ⟨_, rfl, Cl.of (qright_fn c) ⟨_, rfl, ifB_intro (fun _ => ?_) (fun h => by simp at h)⟩⟩
  refine Cl.of (psame_fn c d (by omega)) ⟨_, rfl, Cl.of (qsame_fn c d (by omega)) ⟨_, rfl, ?_⟩⟩
  simp

end Go.Proofs.Ytpgahnnbpfeldaa.Cmp

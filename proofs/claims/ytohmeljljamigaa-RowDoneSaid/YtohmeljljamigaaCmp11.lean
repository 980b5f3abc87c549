/- CompRight over plain data. -/
import Derived.Test.YtohmeljljamigaaCmp10
namespace Go.Proofs.Ytohmeljljamigaa.Cmp
open Go Go.Px Go.Proofs
set_option maxRecDepth 100000
set_option linter.unusedVariables false

def tellD (c : CoD) (e : EvD) : CoD := if mayI c e = 0 then tellC c e else c
theorem addL_len (cl : List (Int × Int)) (p : Int) (ok : Bool) : (addL cl p ok).length = cl.length := by simp [addL]
theorem wadS_len (wd sl : Int) (cl : List (Int × Int)) (a : Int) (ok : Bool) : (wadS wd sl cl a ok).2.length = cl.length := by
  unfold wadS
  repeat' split
  all_goals simp [addL_len, mvL_len]
theorem cntC_cl (c : CoD) (i : Int) : (cntC c i).cl = c.cl := rfl
theorem tell_cl {c : CoD} {e : EvD} (ok : MayOK c e) : (tellC c e).cl.length ≤ c.cl.length ∨ (tellC c e).cl.length ≤ 16 := by
  unfold tellC
  split
  · rename_i hk
    split
    · rename_i hr
      have := ok.cfg hk
      unfold cfgP at this
      rw [if_pos hr] at this
      refine .inr ?_
      simp [zer]; omega
    · split <;> exact .inl (Nat.le_refl _)
  · split
    · refine .inl ?_
      rw [cntC_cl, (hadC_rest _ _).2.2.2.2.2.1]
      exact Nat.le_of_eq (wadS_len _ _ _ _ _)
    · split
      · split
        · exact .inl (by simp [zer])
        · exact .inl (Nat.le_refl _)
      · repeat' split
        all_goals first | exact .inl (Nat.le_refl _) | (refine .inl ?_; rw [cntC_cl, (hadC_rest _ _).2.2.2.2.2.1]; exact Nat.le_refl _)
end Go.Proofs.Ytohmeljljamigaa.Cmp

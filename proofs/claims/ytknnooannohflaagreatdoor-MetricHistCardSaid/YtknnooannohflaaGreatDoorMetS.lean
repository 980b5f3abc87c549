/- Layer 26: the fixed answer; the third law. -/
import Derived.Test.YtknnooannohflaaGreatDoorMetR
import Derived.Test.YtknnooannohflaaGreatDoorStA
namespace Go.Proofs.YtknnooannohflaaGreatDoor.Met
open Go Go.Px Go.Proofs Cmp Go.Proofs.YtknnooannohflaaGreatDoor.St
set_option maxRecDepth 100000
set_option linter.unusedVariables false

def sA : StD := ⟨[], 0, 0⟩
def eA : EvD := ⟨1, 7, 1, bA [113], 2, 0, 0⟩
def dA : StD := (appS sA eA).1
def lA : List FaD := famsOf dA
theorem okA : (appS sA eA).2 = 0 := by decide +kernel
theorem lenA : lA.length = 6 := by decide +kernel
theorem lt0 : 0 < lA.length := by rw [lenA]; decide
theorem lt5 : 5 < lA.length := by rw [lenA]; decide
theorem plainA : ∀ f ∈ lA, plainP f := by decide +kernel
theorem growA5 : ∀ k : Fin 5, sge (lA[k.1]'(by rw [lenA]; omega)).nm (lA[k.1 + 1]'(by rw [lenA]; omega)).nm = false := by decide +kernel
theorem growA : grow lA := by
 intro k hk
 have h : k < 5 := by rw [lenA] at hk; omega
 exact growA5 ⟨k, h⟩
theorem nmA : (lA[0]'lt0).nm = fN0 := by decide +kernel
theorem ssA : (lA[0]'lt0).ss.length = 1 := by decide +kernel
theorem vA : ((lA[0]'lt0).ss[0]'(by rw [ssA]; decide)).v = 10 := by decide +kernel
theorem nm5 : (lA[5]'lt5).nm = fN7 := by decide +kernel
theorem ss5 : (lA[5]'lt5).ss.length = 3 := by decide +kernel
theorem okL : ∀ f ∈ lA, f.ok := fun f hf => fit_ok (fams_fit (d := dA) (by decide +kernel) f hf)

theorem awake_fn : Ct Tryz.prog 22 {} [] (fun r => r = [B true]) := by
 refine mawake_nf _ (Cl.of (sapply_reg sA (by decide) eA rfl) ⟨_, _, _, _, rfl, ?_⟩)
 have hp : dA.P := (app_P okA).1
 rw [okA]
 refine Cl.of (mof_fn dA (by decide +kernel)) ⟨_, _, rfl, ?_⟩
 have e1 : flOf dA = lA := by unfold flOf; rw [if_pos hp]; rfl
 have e2 : fcOf dA = 0 := by unfold fcOf; rw [if_pos hp]
 rw [e1, e2]
 have hn : (0 : Int) ≤ 0 ∧ (0 : Int) < rlen (faR lA) := by rw [rlen_eq, List.length_map, lenA]; decide
 have h5 : (0 : Int) ≤ 5 ∧ (5 : Int) < rlen (faR lA) := by rw [rlen_eq, List.length_map, lenA]; decide
 have r0 := rget_mapI FaD.row lA 0 (by decide) (by rw [lenA]; decide)
 have r5 := rget_mapI FaD.row lA 5 (by decide) (by rw [lenA]; decide)
 have x0 := rget_mapI SmD.row (lA[0]'lt0).ss 0 (by decide) (by rw [ssA]; decide)
 have hl6 : rlen (faR lA) = 6 := by rw [rlen_eq, List.length_map, lenA]; rfl
 refine ifB_yes rfl (Cl.of (all_fn lA (by rw [lenA]; decide) plainA growA) ⟨_, rfl, ifB_yes (by rw [hl6]; rfl) ?_⟩)
 refine ⟨hn, _, _, _, _, r0, ifB_yes (by rw [seq_d]; exact decide_eq_true nmA) ⟨hn, _, _, _, _, r0, ifB_yes (by rw [rlen_eq, List.length_map]; show ieq (((lA[0]'lt0).ss.length : Nat) : Int) 1 = true; rw [ssA]; rfl) ⟨hn, _, _, _, _, r0, ?_, _, _, _, x0, ifB_yes ?_ ⟨h5, _, _, _, _, r5, ifB_yes (by rw [seq_d]; exact decide_eq_true nm5) ⟨h5, _, _, _, _, r5, ifB_yes (by rw [rlen_eq, List.length_map]; show ieq (((lA[5]'lt5).ss.length : Nat) : Int) 3 = true; rw [ss5]; rfl) ?_⟩⟩⟩⟩⟩
 ·rw [rlen_eq, List.length_map]; show (0 : Int) ≤ 0 ∧ (0 : Int) < (((lA[0]'lt0).ss.length : Nat) : Int); rw [ssA]; decide
 ·show ieq ((lA[0]'lt0).ss[0]'(by rw [ssA]; decide)).v 10 = true; rw [vA]; rfl
 refine Cl.of (mnam_fn _) ⟨_, rfl, ifB_yes (by decide +kernel) (Cl.of (mnam_fn _) ⟨_, rfl, ifB_yes (by decide +kernel) ?_⟩)⟩
 refine Cl.of (same_fn lA lA (by rw [lenA]; decide) okL) ⟨_, rfl, ifB_yes (by simp) ⟨⟨by decide, by rw [hl6]; decide, Int.le_refl _⟩, ?_⟩⟩
 have e3 : rsub (faR lA) 1 (rlen (faR lA)) = faR (lA.drop 1) := by
  rw [hl6]
  have : lA.drop 1 = (lA.take 6).drop 1 := by rw [List.take_of_length_le (by rw [lenA]; exact Nat.le_refl _)]
  rw [this]; simp [rsub, List.map_take]
 rw [e3]
 refine Cl.of (same_fn lA (lA.drop 1) (by rw [lenA]; decide) okL) ⟨_, rfl, ?_⟩
 have e4 : decide (lA = lA.drop 1) = false := by
  refine decide_eq_false fun e => ?_
  have := congrArg List.length e
  rw [List.length_drop, lenA] at this
  omega
 rw [e4]; rfl

end Go.Proofs.YtknnooannohflaaGreatDoor.Met

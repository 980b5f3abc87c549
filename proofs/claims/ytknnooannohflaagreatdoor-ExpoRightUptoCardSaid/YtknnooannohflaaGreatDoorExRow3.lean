/-
  Whatever families and text are given, of bulk at most 1048576 in all, the law ExpoRight returns true; the arguments read as before. No other condition.
-/
import Derived.Test.YtknnooannohflaaGreatDoorExY
import Derived.Test.YtknnooannohflaaGreatDoorPxMC
import Derived.Test.YtknnooannohflaaGreatDoorGle
import Derived.Test.YtknnooannohflaaGreatDoorRows
import Derived.Test.YtknnooannohflaaGreatDoorCards
import Derived.Test.YtknnooannohflaaGreatDoorTie
import Derived.Lay
import Derived.SevenTiedAt
namespace Go.Proofs.YtknnooannohflaaGreatDoor
open Go Go.Px Go.Proofs Go.ChangeShapes Go.WideShapes Go.ChangeAt Go.RowKit Go.Proofs.YtknnooannohflaaGreatDoor.Exp
set_option maxRecDepth 100000

theorem expoRight_law (ss : List SV) (h : TypAllW Tryz.prog 9 Tryz.f3.params.toList ss) (hb : blkL ss ≤ 1048576) : Ct Tryz.prog 3 {} ss (fun r => r = [.val (.bool true)]) := by
  have e : Tryz.f3.params.toList = [22, 9] := by kernel_rfl
  rw [e] at h
  obtain ⟨s0, _, rfl, h0, s1, _, rfl, h1, rfl⟩ := h
  obtain ⟨l, rfl, hl, hls, hlr⟩ := Exp.typ_fas h0
  obtain ⟨s, rfl, _⟩ := Exp.typ_strW h1
  exact Exp.law3_fn l s hb hl hls hlr

mutual
theorem bulk_pos {H : Type} : ∀ d : DataW H, 1 ≤ Rows.uptoBulk d
  | .lit l => by cases l <;> simp [Rows.uptoBulk]
  | .nil => by simp [Rows.uptoBulk]
  | .ptr d => by simp [Rows.uptoBulk]
  | .slice es sp => by simp [Rows.uptoBulk]
  | .agg ps => by simp [Rows.uptoBulk]
  | .iface _ d => by simp [Rows.uptoBulk]
  | .map es => by simp [Rows.uptoBulk]
  | .held _ => by simp [Rows.uptoBulk]
end
theorem bulk_all {H : Type} : ∀ ds : List (DataW H), Rows.uptoBulkAll ds = (ds.map Rows.uptoBulk).sum
  | [] => by simp [Rows.uptoBulkAll]
  | d :: ds => by simp [Rows.uptoBulkAll, bulk_all ds]
theorem bulk_wt (H : Type) : Wt (Rows.uptoBulk (H := H)) where
  pos := bulk_pos
  str := fun b => by simp [Rows.uptoBulk]
  sl := fun es sp => by simp [Rows.uptoBulk, bulk_all]
  ag := fun es => by simp [Rows.uptoBulk, bulk_all]

theorem expoRight_lifted (os : Os) (started : os.Started) (H : Type) (enc : TypeId × Value → H) (F : Stop.Interp) :
    ReturnsInHanded {} Tryz.checked os 3 .any (fun w args => ((Rows.OpenSpec.upto Rows.expoRightSpec).pre enc Tryz.prog Tryz.f3 Rows.expoRightUptoRow.domain false w args ∧ laidMetH Tryz.prog Rows.expoRightUptoRow.laid w) ∧ sizedMet enc Tryz.prog Tryz.f3 (Rows.OpenSpec.upto Rows.expoRightSpec) false w args)
      (((Rows.OpenSpec.upto Rows.expoRightSpec).at F).post enc Tryz.prog Tryz.f3 false true false false) := by
  refine returns_cond_and (C := Tryz.checked) (k := Rows.uptoSmall) rfl (X := fun w _ => laidMetH Tryz.prog Rows.expoRightUptoRow.laid w) (fun _ _ _ hh h => h.of_heap hh) Exp.own started (by kernel_rfl) Tryz.func3
    (cond_witness (enc := enc) (C := Tryz.checked) (os := os) (k := Rows.uptoSmall) rfl (X := fun w _ => laidMetH Tryz.prog Rows.expoRightUptoRow.laid w) false (World.laidAll Tryz.prog os Rows.expoRightUptoRow.laid) #[.slice none 0 0, .string ByteArray.empty] 8 (World.laidAll_os _ _ _)
      (World.shaped_of_ZipB (by kernel_rfl) (by kernel_rfl)) (by kernel_rfl) ([.nil, .lit (.string [])], [], []) (by kernel_rfl) (by kernel_rfl) (by kernel_rfl) (by kernel_rfl)
      (by rw [MakeChecks.laidMetH_plain _ _ _ (by kernel_rfl)]; exact laidMet_laidAll _ (by kernel_rfl) (by kernel_rfl))) ?_
  intro W base args ds gs before hval hW _ hk hsz hX _
  have hN : ((ds ++ gs).map Rows.uptoBulk).sum ≤ 1048576 := by
    have h : decide (Rows.uptoBulkAll (ds ++ gs) ≤ 1048576) = true := hk
    rw [bulk_all] at h
    exact of_decide_eq_true h
  exact law_contractB (bulk_wt H) 1048576 9 Rows.expoRightSpec 4 rfl Exp.laidOut (by kernel_rfl) (by kernel_rfl) Exp.uB W base args ds gs before (fun l hl => match l, hl with | [_, _], _ => ⟨rfl, rfl, rfl⟩) hval hW hsz (gl_laid hX) hN expoRight_law

theorem expoRight_said : Rows.ExpoRightUptoSaid :=
  OpenClaim.holds_of_cond 3 Tryz.f3 rfl rfl rfl rfl rfl rfl rfl ⟨rfl, rfl, rfl, rfl, rfl⟩ rfl rfl rfl rfl rfl (by kernel_rfl) Tryz.func3 (by kernel_rfl)
    (of_decide_eq_true (by kernel_rfl)) (by unfold Func.isWrapper; first | (rw [if_pos (by decide +kernel)]; kernel_rfl) | (rw [if_neg (by decide +kernel)]; exact ⟨rfl, rfl⟩))
    (fun os started H enc _ F => expoRight_lifted os started H enc F)

theorem expoRight_wants : (Tryz.f3.params.all fun t => !(Tryz.prog.wantsStandIn t)) = true := by kernel_rfl

theorem expoRight_holds : Rows.ExpoRightUptoCardSaid :=
  Claim7.holds_tied_plain_at .later [] [.data, .data, .data, .data] true (true, "edac473f0e7d7b02c8ce2e1351e18ba367378f21f9eeebd41992edf6f5639d7d") true
    expoRight_said (fun _ h => by cases h) (by kernel_rfl) (fun _ h => by cases h) expoRightUpto_row_tie rfl ⟨rfl, rfl⟩ (by kernel_rfl) rfl
    (fun f fn hf hfn => by
      obtain rfl : f = 3 := Option.some.inj ((show Tryz.prog.funcNamed "fusebox/fuseboxlaw27.ExpoRight" = some 3 by kernel_rfl).symm.trans hf) |>.symm
      obtain rfl : fn = Tryz.f3 := (Option.some.inj (Tryz.func3.symm.trans hfn)).symm
      exact ⟨by kernel_rfl, fun j t ht => by
        have h := Array.all_eq_true_iff_forall_mem.1 expoRight_wants t (Array.mem_of_getElem? ht)
        have h2 : Tryz.prog.wantsStandIn t = false := by simpa using h
        exact h2⟩)
    (by kernel_rfl)

end Go.Proofs.YtknnooannohflaaGreatDoor

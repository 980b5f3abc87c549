/-
 Whatever two states are given, the law MetricHist returns true; the arguments read as before. No condition.
-/
import Derived.Test.YtknnooannohflaaGreatDoorMezT7
import Derived.Test.YtknnooannohflaaGreatDoorGlm
import Derived.Test.YtknnooannohflaaGreatDoorRows
import Derived.Test.YtknnooannohflaaGreatDoorCards
import Derived.Test.YtknnooannohflaaGreatDoorTie
import Derived.Lay
import Derived.SevenTiedAt
namespace Go.Proofs.YtknnooannohflaaGreatDoor
open Go Go.Px Go.Proofs Go.ChangeShapes Go.WideShapes Go.ChangeAt Go.RowKit Met
set_option maxRecDepth 100000

theorem metricHist_law (ss : List SV) (h : TypAll Tryz.prog 9 Tryz.f7.params.toList ss) : Ct Tryz.prog 7 {} ss (fun r => r = [.val (.bool true)]) := by
 have e : Tryz.f7.params.toList = [42, 42] := by kernel_rfl
 rw [e] at h
 obtain ⟨s0, _, rfl, h0, s1, _, rfl, h1, rfl⟩ := h
 obtain ⟨a, rfl, ha⟩ := St.typ_st h0
 obtain ⟨b, rfl, hb⟩ := St.typ_st h1
 exact Met.law2_fn a b ha hb

theorem metricHist_lifted (os : Os) (started : os.Started) (H : Type) (enc : TypeId × Value → H) :
  ReturnsInHanded {} Tryz.checked os 7 .any (fun w args => (Rows.metricHistSpec.pre enc Tryz.prog Tryz.f7 Rows.metricHistRow.domain false w args ∧ laidMetH Tryz.prog Rows.metricHistRow.laid w) ∧ sizedMet enc Tryz.prog Tryz.f7 (OpenSpec.ofChange Rows.metricHistSpec) false w args)
   (Rows.metricHistSpec.post enc Tryz.prog Tryz.f7 false true false false) := by
 refine returnsInHanded_of_change_and (C := Tryz.checked) (X := fun w _ => laidMetH Tryz.prog Rows.metricHistRow.laid w) (fun _ _ _ hh h => h.of_heap hh) Met.own started (by kernel_rfl) Tryz.func7
  (ChangeSpec.witness_shaped (enc := enc) (C := Tryz.checked) (os := os) (X := fun w _ => laidMetH Tryz.prog Rows.metricHistRow.laid w) false (World.laidAll Tryz.prog os Rows.metricHistRow.laid) #[.agg #[.slice none 0 0, .int .i64 0, .int .i64 0], .agg #[.slice none 0 0, .int .i64 0, .int .i64 0]] 8 (World.laidAll_os _ _ _)
   (World.shaped_of_ZipB (by kernel_rfl) (by kernel_rfl)) (by kernel_rfl) (by kernel_rfl) (by kernel_rfl)
   (by rw [MakeChecks.laidMetH_plain _ _ _ (by kernel_rfl)]; exact laidMet_laidAll _ (by kernel_rfl) (by kernel_rfl))) ?_
 intro W base args ds gs before hval hW _ _ hX _
 exact law_contract 9 Rows.metricHistSpec 4 rfl Met.laidOut (by kernel_rfl) (by kernel_rfl) Met.uB W base args ds gs before (fun l hl => match l, hl with | [_, _], _ => ⟨rfl, rfl, rfl⟩) hval hW (gl_laid hX) metricHist_law

theorem metricHist_said : Rows.MetricHistSaid :=
 OpenClaim.holds_of_wide 7 Tryz.f7 rfl rfl rfl rfl rfl rfl rfl ⟨rfl, rfl, rfl, rfl, rfl⟩ rfl rfl rfl rfl rfl (by kernel_rfl) Tryz.func7 (by kernel_rfl)
  (of_decide_eq_true (by kernel_rfl)) (by unfold Func.isWrapper; first | (rw [if_pos (by decide +kernel)]; kernel_rfl) | (rw [if_neg (by decide +kernel)]; exact ⟨rfl, rfl⟩))
  (fun os started H enc _ => metricHist_lifted os started H enc)

theorem metricHist_wants : (Tryz.f7.params.all fun t => !(Tryz.prog.wantsStandIn t)) = true := by kernel_rfl

theorem metricHist_holds : Rows.MetricHistCardSaid :=
 Claim7.holds_tied_plain_at .later [] [.data] true (true, "edac473f0e7d7b02c8ce2e1351e18ba367378f21f9eeebd41992edf6f5639d7d") true
  metricHist_said (fun _ h => by cases h) (by kernel_rfl) (fun _ h => by cases h) metricHist_row_tie rfl ⟨rfl, rfl⟩ (by kernel_rfl) rfl
  (fun f fn hf hfn => by
   obtain rfl : f = 7 := Option.some.inj ((show Tryz.prog.funcNamed "fusebox/fuseboxlaw26.MetricHist" = some 7 by kernel_rfl).symm.trans hf) |>.symm
   obtain rfl : fn = Tryz.f7 := (Option.some.inj (Tryz.func7.symm.trans hfn)).symm
   exact ⟨by kernel_rfl, fun j t ht => by
    have h := Array.all_eq_true_iff_forall_mem.1 metricHist_wants t (Array.mem_of_getElem? ht)
    have h2 : Tryz.prog.wantsStandIn t = false := by simpa using h
    exact h2⟩)
  (by kernel_rfl)

end Go.Proofs.YtknnooannohflaaGreatDoor

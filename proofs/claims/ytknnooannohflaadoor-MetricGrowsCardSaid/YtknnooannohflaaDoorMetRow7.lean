/-
 Whatever state and event are given, the law MetricGrows returns true; the arguments read as before. No condition.
-/
import Derived.Test.YtknnooannohflaaDoorMetT
import Derived.Test.YtknnooannohflaaDoorGlm
import Derived.Test.YtknnooannohflaaDoorMetS
import Derived.Test.YtknnooannohflaaDoorRows
import Derived.Test.YtknnooannohflaaDoorCards
import Derived.Test.YtknnooannohflaaDoorTie
import Derived.Lay
import Derived.SevenTiedAt
namespace Go.Proofs.YtknnooannohflaaDoor
open Go Go.Px Go.Proofs Go.ChangeShapes Go.WideShapes Go.ChangeAt Go.RowKit Go.Proofs.YtknnooannohflaaDoor.Met
set_option maxRecDepth 100000

theorem metricGrows_law (ss : List SV) (h : TypAll Tryd.prog 9 Tryd.f7.params.toList ss) : Ct Tryd.prog 7 {} ss (fun r => r = [.val (.bool true)]) := by
 have e : Tryd.f7.params.toList = [50, 52] := by kernel_rfl
 rw [e] at h
 obtain ⟨s0, _, rfl, h0, s1, _, rfl, h1, rfl⟩ := h
 obtain ⟨d, rfl, hd⟩ := St.typ_st h0
 obtain ⟨e, rfl⟩ := St.typ_ev h1
 exact Met.law7 d hd e

theorem metricGrows_lifted (os : Os) (started : os.Started) (H : Type) (enc : TypeId × Value → H) :
  ReturnsInHanded {} Tryd.checked os 7 .any (fun w args => (Rows.metricGrowsSpec.pre enc Tryd.prog Tryd.f7 Rows.metricGrowsRow.domain false w args ∧ laidMetH Tryd.prog Rows.metricGrowsRow.laid w) ∧ sizedMet enc Tryd.prog Tryd.f7 (OpenSpec.ofChange Rows.metricGrowsSpec) false w args)
   (Rows.metricGrowsSpec.post enc Tryd.prog Tryd.f7 false true false false) := by
 refine returnsInHanded_of_change_and (C := Tryd.checked) (X := fun w _ => laidMetH Tryd.prog Rows.metricGrowsRow.laid w) (fun _ _ _ hh h => h.of_heap hh) Met.own started (by kernel_rfl) Tryd.func7
  (ChangeSpec.witness_shaped (enc := enc) (C := Tryd.checked) (os := os) (X := fun w _ => laidMetH Tryd.prog Rows.metricGrowsRow.laid w) false (World.laidAll Tryd.prog os Rows.metricGrowsRow.laid) #[.agg #[.slice none 0 0, .int .i64 0, .int .i64 0], .agg #[.int .i64 0, .int .i64 0, .int .i64 0, .string ByteArray.empty, .int .i64 0, .int .i64 0, .int .i64 0]] 8 (World.laidAll_os _ _ _)
   (World.shaped_of_ZipB (by kernel_rfl) (by kernel_rfl)) (by kernel_rfl) (by kernel_rfl) (by kernel_rfl)
   (by rw [MakeChecks.laidMetH_plain _ _ _ (by kernel_rfl)]; exact laidMet_laidAll _ (by kernel_rfl) (by kernel_rfl))) ?_
 intro W base args ds gs before hval hW _ _ hX _
 exact law_contract 9 Rows.metricGrowsSpec 4 rfl Met.laidOut (by kernel_rfl) (by kernel_rfl) Met.uB W base args ds gs before (fun l hl => match l, hl with | [_, _], _ => ⟨rfl, rfl, rfl⟩) hval hW (gl_laid hX) metricGrows_law

theorem metricGrows_said : Rows.MetricGrowsSaid :=
 OpenClaim.holds_of_wide 7 Tryd.f7 rfl rfl rfl rfl rfl rfl rfl ⟨rfl, rfl, rfl, rfl, rfl⟩ rfl rfl rfl rfl rfl (by kernel_rfl) Tryd.func7 (by kernel_rfl)
  (of_decide_eq_true (by kernel_rfl)) (by unfold Func.isWrapper; first | (rw [if_pos (by decide +kernel)]; kernel_rfl) | (rw [if_neg (by decide +kernel)]; exact ⟨rfl, rfl⟩))
  (fun os started H enc _ => metricGrows_lifted os started H enc)

theorem metricGrows_wants : (Tryd.f7.params.all fun t => !(Tryd.prog.wantsStandIn t)) = true := by kernel_rfl

theorem metricGrows_holds : Rows.MetricGrowsCardSaid :=
 Claim7.holds_tied_plain_at .later [] [.data] true (true, "f5b5aa3336f33e16ce779869ba4af6fb98236fc0309cc450d5ee9021ef0a4f50") true
  metricGrows_said (fun _ h => by cases h) (by kernel_rfl) (fun _ h => by cases h) metricGrows_row_tie rfl ⟨rfl, rfl⟩ (by kernel_rfl) rfl
  (fun f fn hf hfn => by
   obtain rfl : f = 7 := Option.some.inj ((show Tryd.prog.funcNamed "fusebox/fuseboxlaw26.MetricGrows" = some 7 by kernel_rfl).symm.trans hf) |>.symm
   obtain rfl : fn = Tryd.f7 := (Option.some.inj (Tryd.func7.symm.trans hfn)).symm
   exact ⟨by kernel_rfl, fun j t ht => by
    have h := Array.all_eq_true_iff_forall_mem.1 metricGrows_wants t (Array.mem_of_getElem? ht)
    have h2 : Tryd.prog.wantsStandIn t = false := by simpa using h
    exact h2⟩)
  (by kernel_rfl)

end Go.Proofs.YtknnooannohflaaDoor

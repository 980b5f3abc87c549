/-
 Whatever families, state, name and labels are given, the law MetricRight returns true; the arguments read as before. No condition.
-/
import Derived.Test.YtknnooannohflaaGreatDoorMezT
import Derived.Test.YtknnooannohflaaGreatDoorGlm
import Derived.Test.YtknnooannohflaaGreatDoorRows
import Derived.Test.YtknnooannohflaaGreatDoorCards
import Derived.Test.YtknnooannohflaaGreatDoorTie
import Derived.Lay
import Derived.SevenTiedAt
namespace Go.Proofs.YtknnooannohflaaGreatDoor
open Go Go.Px Go.Proofs Go.ChangeShapes Go.WideShapes Go.ChangeAt Go.RowKit Met
set_option maxRecDepth 100000

theorem metricRight_law (ss : List SV) (h : TypAllW Tryz.prog 9 Tryz.f6.params.toList ss) : Ct Tryz.prog 6 {} ss (fun r => r = [.val (.bool true)]) := by
 have e : Tryz.f6.params.toList = [22, 22, 42, 9, 30] := by kernel_rfl
 rw [e] at h
 obtain ⟨s0, _, rfl, h0, s1, _, rfl, h1, s2, _, rfl, h2, s3, _, rfl, h3, s4, _, rfl, h4, rfl⟩ := h
 obtain ⟨l, rfl, hl, hls⟩ := Met.typ_fas h0
 obtain ⟨m, rfl, hm, hms⟩ := Met.typ_fas h1
 obtain ⟨d, rfl, hd⟩ := St.typ_st (typV_of_W h2)
 obtain ⟨nm, rfl, hn⟩ := Met.typ_strW h3
 obtain ⟨ls, rfl, hz⟩ := Met.typ_lsW h4
 exact Met.law1_fn l m d nm ls hl hm hls hms hd (by omega) hz

theorem metricRight_lifted (os : Os) (started : os.Started) (H : Type) (enc : TypeId × Value → H) :
  ReturnsInHanded {} Tryz.checked os 6 .any (fun w args => (Rows.metricRightSpec.pre enc Tryz.prog Tryz.f6 Rows.metricRightRow.domain false w args ∧ laidMetH Tryz.prog Rows.metricRightRow.laid w) ∧ sizedMet enc Tryz.prog Tryz.f6 (OpenSpec.ofChange Rows.metricRightSpec) false w args)
   (Rows.metricRightSpec.post enc Tryz.prog Tryz.f6 false true false false) := by
 refine returnsInHanded_of_change_and (C := Tryz.checked) (X := fun w _ => laidMetH Tryz.prog Rows.metricRightRow.laid w) (fun _ _ _ hh h => h.of_heap hh) Met.own started (by kernel_rfl) Tryz.func6
  (ChangeSpec.witness_shaped (enc := enc) (C := Tryz.checked) (os := os) (X := fun w _ => laidMetH Tryz.prog Rows.metricRightRow.laid w) false (World.laidAll Tryz.prog os Rows.metricRightRow.laid) #[.slice none 0 0, .slice none 0 0, .agg #[.slice none 0 0, .int .i64 0, .int .i64 0], .string ByteArray.empty, .slice none 0 0] 8 (World.laidAll_os _ _ _)
   (World.shaped_of_ZipB (by kernel_rfl) (by kernel_rfl)) (by kernel_rfl) (by kernel_rfl) (by kernel_rfl)
   (by rw [MakeChecks.laidMetH_plain _ _ _ (by kernel_rfl)]; exact laidMet_laidAll _ (by kernel_rfl) (by kernel_rfl))) ?_
 intro W base args ds gs before hval hW _ hsz hX _
 exact law_contractW 9 Rows.metricRightSpec 4 rfl Met.laidOut (by kernel_rfl) (by kernel_rfl) Met.uB W base args ds gs before (fun l hl => match l, hl with | [_, _, _, _, _], _ => ⟨rfl, rfl, rfl⟩) hval hW hsz (gl_laid hX) metricRight_law

theorem metricRight_said : Rows.MetricRightSaid :=
 OpenClaim.holds_of_wide 6 Tryz.f6 rfl rfl rfl rfl rfl rfl rfl ⟨rfl, rfl, rfl, rfl, rfl⟩ rfl rfl rfl rfl rfl (by kernel_rfl) Tryz.func6 (by kernel_rfl)
  (of_decide_eq_true (by kernel_rfl)) (by unfold Func.isWrapper; first | (rw [if_pos (by decide +kernel)]; kernel_rfl) | (rw [if_neg (by decide +kernel)]; exact ⟨rfl, rfl⟩))
  (fun os started H enc _ => metricRight_lifted os started H enc)

theorem metricRight_wants : (Tryz.f6.params.all fun t => !(Tryz.prog.wantsStandIn t)) = true := by kernel_rfl

theorem metricRight_holds : Rows.MetricRightCardSaid :=
 Claim7.holds_tied_plain_at .later [] [.data] true (true, "edac473f0e7d7b02c8ce2e1351e18ba367378f21f9eeebd41992edf6f5639d7d") true
  metricRight_said (fun _ h => by cases h) (by kernel_rfl) (fun _ h => by cases h) metricRight_row_tie rfl ⟨rfl, rfl⟩ (by kernel_rfl) rfl
  (fun f fn hf hfn => by
   obtain rfl : f = 6 := Option.some.inj ((show Tryz.prog.funcNamed "fusebox/fuseboxlaw26.MetricRight" = some 6 by kernel_rfl).symm.trans hf) |>.symm
   obtain rfl : fn = Tryz.f6 := (Option.some.inj (Tryz.func6.symm.trans hfn)).symm
   exact ⟨by kernel_rfl, fun j t ht => by
    have h := Array.all_eq_true_iff_forall_mem.1 metricRight_wants t (Array.mem_of_getElem? ht)
    have h2 : Tryz.prog.wantsStandIn t = false := by simpa using h
    exact h2⟩)
  (by kernel_rfl)

end Go.Proofs.YtknnooannohflaaGreatDoor

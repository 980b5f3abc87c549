/-
 Whatever families and text are given, the law ParseBack returns true; the arguments read as before. No condition.
-/
import Derived.Test.YtknnooannohflaaGreatDoorPsK1
import Derived.Test.YtknnooannohflaaGreatDoorExY
import Derived.Test.YtknnooannohflaaGreatDoorGlp
import Derived.Test.YtknnooannohflaaGreatDoorRows
import Derived.Test.YtknnooannohflaaGreatDoorCards
import Derived.Test.YtknnooannohflaaGreatDoorTie
import Derived.Lay
import Derived.SevenTiedAt
namespace Go.Proofs.YtknnooannohflaaGreatDoor
open Go Go.Px Go.Proofs Go.ChangeShapes Go.WideShapes Go.ChangeAt Go.RowKit Exp
set_option maxRecDepth 100000

theorem parseBack_law (ss : List SV) (h : TypAllW Tryz.prog 9 Tryz.f8.params.toList ss) : Ct Tryz.prog 8 {} ss (fun r => r = [.val (.bool true)]) := by
 have e : Tryz.f8.params.toList = [22, 9] := by kernel_rfl
 rw [e] at h
 obtain ⟨s0, _, rfl, h0, s1, _, rfl, h1, rfl⟩ := h
 obtain ⟨l, rfl, hl, hls, hlr⟩ := Exp.typ_fas h0
 obtain ⟨b, rfl, hb⟩ := Exp.typ_strW h1
 exact Prs.law8_fn l b hl hls hlr

theorem parseBack_lifted (os : Os) (started : os.Started) (H : Type) (enc : TypeId × Value → H) :
  ReturnsInHanded {} Tryz.checked os 8 .any (fun w args => (Rows.parseBackSpec.pre enc Tryz.prog Tryz.f8 Rows.parseBackRow.domain false w args ∧ laidMetH Tryz.prog Rows.parseBackRow.laid w) ∧ sizedMet enc Tryz.prog Tryz.f8 (OpenSpec.ofChange Rows.parseBackSpec) false w args)
   (Rows.parseBackSpec.post enc Tryz.prog Tryz.f8 false true false false) := by
 refine returnsInHanded_of_change_and (C := Tryz.checked) (X := fun w _ => laidMetH Tryz.prog Rows.parseBackRow.laid w) (fun _ _ _ hh h => h.of_heap hh) Exp.own started (by kernel_rfl) Tryz.func8
  (ChangeSpec.witness_shaped (enc := enc) (C := Tryz.checked) (os := os) (X := fun w _ => laidMetH Tryz.prog Rows.parseBackRow.laid w) false (World.laidAll Tryz.prog os Rows.parseBackRow.laid) #[.slice none 0 0, .string ByteArray.empty] 8 (World.laidAll_os _ _ _)
   (World.shaped_of_ZipB (by kernel_rfl) (by kernel_rfl)) (by kernel_rfl) (by kernel_rfl) (by kernel_rfl)
   (by rw [MakeChecks.laidMetH_plain _ _ _ (by kernel_rfl)]; exact laidMet_laidAll _ (by kernel_rfl) (by kernel_rfl))) ?_
 intro W base args ds gs before hval hW _ hsz hX _
 exact law_contractW 9 Rows.parseBackSpec 4 rfl Exp.laidOut (by kernel_rfl) (by kernel_rfl) Exp.uB W base args ds gs before (fun l hl => match l, hl with | [_, _], _ => ⟨rfl, rfl, rfl⟩) hval hW hsz (gl_laid hX) parseBack_law

theorem parseBack_said : Rows.ParseBackSaid :=
 OpenClaim.holds_of_wide 8 Tryz.f8 rfl rfl rfl rfl rfl rfl rfl ⟨rfl, rfl, rfl, rfl, rfl⟩ rfl rfl rfl rfl rfl (by kernel_rfl) Tryz.func8 (by kernel_rfl)
  (of_decide_eq_true (by kernel_rfl)) (by unfold Func.isWrapper; first | (rw [if_pos (by decide +kernel)]; kernel_rfl) | (rw [if_neg (by decide +kernel)]; exact ⟨rfl, rfl⟩))
  (fun os started H enc _ => parseBack_lifted os started H enc)

theorem parseBack_wants : (Tryz.f8.params.all fun t => !(Tryz.prog.wantsStandIn t)) = true := by kernel_rfl

theorem parseBack_holds : Rows.ParseBackCardSaid :=
 Claim7.holds_tied_plain_at .later [] [.data, .data, .data, .data, .data] true (true, "edac473f0e7d7b02c8ce2e1351e18ba367378f21f9eeebd41992edf6f5639d7d") true
  parseBack_said (fun _ h => by cases h) (by kernel_rfl) (fun _ h => by cases h) parseBack_row_tie rfl ⟨rfl, rfl⟩ (by kernel_rfl) rfl
  (fun f fn hf hfn => by
   obtain rfl : f = 8 := Option.some.inj ((show Tryz.prog.funcNamed "fusebox/fuseboxlaw28.ParseBack" = some 8 by kernel_rfl).symm.trans hf) |>.symm
   obtain rfl : fn = Tryz.f8 := (Option.some.inj (Tryz.func8.symm.trans hfn)).symm
   exact ⟨by kernel_rfl, fun j t ht => by
    have h := Array.all_eq_true_iff_forall_mem.1 parseBack_wants t (Array.mem_of_getElem? ht)
    have h2 : Tryz.prog.wantsStandIn t = false := by simpa using h
    exact h2⟩)
  (by kernel_rfl)

end Go.Proofs.YtknnooannohflaaGreatDoor

/-
 Whatever text is given, the law ParseRight returns true; the arguments read as before. No condition.
-/
import Derived.Test.YtknnooannohflaaDoorXrS
import Derived.Test.YtknnooannohflaaDoorXrT
import Derived.Test.YtknnooannohflaaDoorGlp
import Derived.Test.YtknnooannohflaaDoorRows
import Derived.Test.YtknnooannohflaaDoorCards
import Derived.Test.YtknnooannohflaaDoorTie
import Derived.Lay
import Derived.SevenTiedAt
namespace Go.Proofs.YtknnooannohflaaDoor
open Go Go.Px Go.Proofs Go.ChangeShapes Go.WideShapes Go.ChangeAt Go.RowKit Prs
set_option maxRecDepth 100000

theorem parseRight_law (ss : List SV) (h : Zl8 Tryd.prog 6 Tryd.f3.params.toList ss) : Ct Tryd.prog 3 {} ss (fun r => r = [.val (.bool true)]) := by
 have e : Tryd.f3.params.toList = [9] := (by kernel_rfl); rw [e] at h; obtain ⟨s0, _, rfl, h0, rfl⟩ := h; obtain ⟨b, rfl⟩ := Prs.typ_strW h0; exact Prs.law3_all b

theorem parseRight_lifted (os : Os) (started : os.Started) (H : Type) (enc : TypeId × Value → H) :
  ReturnsInHanded {} Tryd.checked os 3 .any (fun w args => (Rows.parseRightSpec.pre enc Tryd.prog Tryd.f3 Rows.parseRightRow.domain false w args ∧ laidMetH Tryd.prog Rows.parseRightRow.laid w) ∧ sizedMet enc Tryd.prog Tryd.f3 (OpenSpec.ofChange Rows.parseRightSpec) false w args)
   (Rows.parseRightSpec.post enc Tryd.prog Tryd.f3 false true false false) := by
 refine returnsInHanded_of_change_and (C := Tryd.checked) (X := fun w _ => laidMetH Tryd.prog Rows.parseRightRow.laid w) (fun _ _ _ hh h => h.of_heap hh) Prs.own started (by kernel_rfl) Tryd.func3
  (ChangeSpec.witness_shaped (enc := enc) (C := Tryd.checked) (os := os) (X := fun w _ => laidMetH Tryd.prog Rows.parseRightRow.laid w) false (World.laidAll Tryd.prog os Rows.parseRightRow.laid) #[.string ByteArray.empty] 8 (World.laidAll_os _ _ _)
   (World.shaped_of_ZipB (by kernel_rfl) (by kernel_rfl)) (by kernel_rfl) (by kernel_rfl) (by kernel_rfl)
   (by rw [MakeChecks.laidMetH_plain _ _ _ (by kernel_rfl)]; exact laidMet_laidAll _ (by kernel_rfl) (by kernel_rfl))) ?_
 intro W base args ds gs before hval hW _ hsz hX _; exact Zl9 6 Rows.parseRightSpec 4 rfl Prs.laidOut (by kernel_rfl) (by kernel_rfl) Prs.uB W base args ds gs before (fun l hl => match l, hl with | [_], _ => ⟨rfl, rfl, rfl⟩) hval hW hsz (Zww hX) parseRight_law

theorem parseRight_said : Rows.ParseRightSaid :=
 OpenClaim.holds_of_wide 3 Tryd.f3 rfl rfl rfl rfl rfl rfl rfl ⟨rfl, rfl, rfl, rfl, rfl⟩ rfl rfl rfl rfl rfl (by kernel_rfl) Tryd.func3 (by kernel_rfl)
  (of_decide_eq_true (by kernel_rfl)) (by unfold Func.isWrapper; first | (rw [if_pos (by decide +kernel)]; kernel_rfl) | (rw [if_neg (by decide +kernel)]; exact ⟨rfl, rfl⟩))
  (fun os started H enc _ => parseRight_lifted os started H enc)

theorem parseRight_wants : (Tryd.f3.params.all fun t => !(Tryd.prog.wantsStandIn t)) = true := by kernel_rfl

theorem parseRight_holds : Rows.ParseRightCardSaid :=
 Claim7.holds_tied_plain_at .later [] [.data] true (true, "f5b5aa3336f33e16ce779869ba4af6fb98236fc0309cc450d5ee9021ef0a4f50") true
  parseRight_said (fun _ h => by cases h) (by kernel_rfl) (fun _ h => by cases h) parseRight_row_tie rfl ⟨rfl, rfl⟩ (by kernel_rfl) rfl
  (fun f fn hf hfn => by
   obtain rfl : f = 3 := Option.some.inj ((show Tryd.prog.funcNamed "fusebox/fuseboxlaw28.ParseRight" = some 3 by kernel_rfl).symm.trans hf) |>.symm
   obtain rfl : fn = Tryd.f3 := (Option.some.inj (Tryd.func3.symm.trans hfn)).symm
   exact ⟨by kernel_rfl, fun j t ht => by
    have h := Array.all_eq_true_iff_forall_mem.1 parseRight_wants t (Array.mem_of_getElem? ht); have h2 : Tryd.prog.wantsStandIn t = false := by simpa using h
    exact h2⟩)
  (by kernel_rfl)

end Go.Proofs.YtknnooannohflaaDoor

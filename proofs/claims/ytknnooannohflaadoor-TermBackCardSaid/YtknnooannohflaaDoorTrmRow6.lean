/-
  Whatever filters, text and number are given, the law TermBack returns true; the arguments read as before. No condition.
-/
import Derived.Test.YtknnooannohflaaDoorTrmT
import Derived.Test.YtknnooannohflaaDoorGlt
import Derived.Test.YtknnooannohflaaDoorRows
import Derived.Test.YtknnooannohflaaDoorCards
import Derived.Test.YtknnooannohflaaDoorTie
import Derived.Lay
import Derived.SevenTiedAt
namespace Go.Proofs.YtknnooannohflaaDoor
open Go Go.Px Go.Proofs Go.ChangeShapes Go.WideShapes Go.ChangeAt Go.RowKit Go.Proofs.YtknnooannohflaaDoor.Trm
set_option maxRecDepth 100000

theorem termBack_law (ss : List SV) (h : TypAllI Tryd.prog  Tryd.f6.params.toList ss) : Ct Tryd.prog 6 {} ss (fun r => r = [.val (.bool true)]) := by
  have e : Tryd.f6.params.toList = [35, 35, 9, 46] := by kernel_rfl
  rw [e] at h
  obtain ⟨s0, _, rfl, h0, s1, _, rfl, h1, s2, _, rfl, h2, s3, _, rfl, h3, rfl⟩ := h
  obtain ⟨f, rfl, hf⟩ := Trm.typ_flt h0
  obtain ⟨g, rfl, hg⟩ := Trm.typ_flt h1
  obtain ⟨t, rfl⟩ := Trm.typ_str h2
  obtain ⟨x, rfl, hx⟩ := Trm.typ_u16 h3
  exact Trm.law6_fn f g hf hg t x hx.1 hx.2

theorem termBack_lifted (os : Os) (started : os.Started) (H : Type) (enc : TypeId × Value → H) :
    ReturnsInHanded {} Tryd.checked os 6 .any (fun w args => (Rows.termBackSpec.pre enc Tryd.prog Tryd.f6 Rows.termBackRow.domain false w args ∧ laidMetH Tryd.prog Rows.termBackRow.laid w) ∧ sizedMet enc Tryd.prog Tryd.f6 (OpenSpec.ofChange Rows.termBackSpec) false w args)
      (Rows.termBackSpec.post enc Tryd.prog Tryd.f6 false true false false) := by
  refine returnsInHanded_of_change_and (C := Tryd.checked) (X := fun w _ => laidMetH Tryd.prog Rows.termBackRow.laid w) (fun _ _ _ hh h => h.of_heap hh) Trm.own started (by kernel_rfl) Tryd.func6
    (ChangeSpec.witness_shaped (enc := enc) (C := Tryd.checked) (os := os) (X := fun w _ => laidMetH Tryd.prog Rows.termBackRow.laid w) false (World.laidAll Tryd.prog os Rows.termBackRow.laid) #[.agg #[.int .i64 0, .int .i64 0, .int .i64 0, .string ByteArray.empty, .slice none 0 0], .agg #[.int .i64 0, .int .i64 0, .int .i64 0, .string ByteArray.empty, .slice none 0 0], .string ByteArray.empty, .int .u16 0] 8 (World.laidAll_os _ _ _)
      (World.shaped_of_ZipB (by kernel_rfl) (by kernel_rfl)) (by kernel_rfl) (by kernel_rfl) (by kernel_rfl)
      (by rw [MakeChecks.laidMetH_plain _ _ _ (by kernel_rfl)]; exact laidMet_laidAll _ (by kernel_rfl) (by kernel_rfl))) ?_
  intro W base args ds gs before hval hW _ hsz hX _
  exact law_contractI Trm.S0 Trm.hS0 Rows.termBackSpec 4 rfl Trm.laidOut (by kernel_rfl) (by kernel_rfl) Trm.uB W base args ds gs before (fun l hl => match l, hl with | [_, _, _, _], _ => ⟨rfl, rfl, rfl⟩) hval hW hsz (gl_laid hX) termBack_law

theorem termBack_said : Rows.TermBackSaid :=
  OpenClaim.holds_of_wide 6 Tryd.f6 rfl rfl rfl rfl rfl rfl rfl ⟨rfl, rfl, rfl, rfl, rfl⟩ rfl rfl rfl rfl rfl (by kernel_rfl) Tryd.func6 (by kernel_rfl)
    (of_decide_eq_true (by kernel_rfl)) (by unfold Func.isWrapper; first | (rw [if_pos (by decide +kernel)]; kernel_rfl) | (rw [if_neg (by decide +kernel)]; exact ⟨rfl, rfl⟩))
    (fun os started H enc _ => termBack_lifted os started H enc)

theorem termBack_wants : (Tryd.f6.params.all fun t => !(Tryd.prog.wantsStandIn t)) = true := by kernel_rfl

theorem termBack_holds : Rows.TermBackCardSaid :=
  Claim7.holds_tied_plain_at .later [] [.data, .data, .data, .sentinel, .sentinel] true (true, "f5b5aa3336f33e16ce779869ba4af6fb98236fc0309cc450d5ee9021ef0a4f50") true
    termBack_said (fun _ h => by cases h) (by kernel_rfl) (fun _ h => by cases h) termBack_row_tie rfl ⟨rfl, rfl⟩ (by kernel_rfl) rfl
    (fun f fn hf hfn => by
      obtain rfl : f = 6 := Option.some.inj ((show Tryd.prog.funcNamed "fusebox/fuseboxlaw22.TermBack" = some 6 by kernel_rfl).symm.trans hf) |>.symm
      obtain rfl : fn = Tryd.f6 := (Option.some.inj (Tryd.func6.symm.trans hfn)).symm
      exact ⟨by kernel_rfl, fun j t ht => by
        have h := Array.all_eq_true_iff_forall_mem.1 termBack_wants t (Array.mem_of_getElem? ht)
        have h2 : Tryd.prog.wantsStandIn t = false := by simpa using h
        exact h2⟩)
    (by kernel_rfl)

end Go.Proofs.YtknnooannohflaaDoor

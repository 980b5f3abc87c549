/-
  Whatever numbers, context, events and bytes are given, the law SegmentRight returns true; the arguments read as before. No condition.
-/
import Derived.Test.YtbocfphenkidnaaGreatDoorSgrT
import Derived.Test.YtbocfphenkidnaaGreatDoorGlz
import Derived.Test.YtbocfphenkidnaaGreatDoorRows
import Derived.Test.YtbocfphenkidnaaGreatDoorCards
import Derived.Test.YtbocfphenkidnaaGreatDoorTie
import Derived.Lay
import Derived.SevenTiedAt
namespace Go.Proofs.YtbocfphenkidnaaGreatDoor
open Go Go.Px Go.Proofs Go.ChangeShapes Go.WideShapes Go.ChangeAt Go.RowKit Go.Proofs.YtbocfphenkidnaaGreatDoor.Seg Go.Proofs.YtbocfphenkidnaaGreatDoor.Sgr
set_option maxRecDepth 100000

theorem segmentRight_law (ss : List SV) (h : TypAll Tryz.prog 6 Tryz.f3.params.toList ss) : Ct Tryz.prog 3 {} ss (fun r => r = [.val (.bool true)]) := by
  have e : Tryz.f3.params.toList = [2, 24, 25, 3, 4, 26] := by kernel_rfl
  rw [e] at h
  obtain ⟨s0, _, rfl, h0, s1, _, rfl, h1, s2, _, rfl, h2, s3, _, rfl, h3, s4, _, rfl, h4, s5, _, rfl, h5, rfl⟩ := h
  obtain ⟨n, rfl⟩ := Seg.typ_i64 h0
  obtain ⟨cs, ca, ns, rfl, hn⟩ := Seg.typ_ctx h1
  obtain ⟨l, rfl, hl⟩ := Seg.typ_evs h2
  obtain ⟨many, rfl, _, hmany⟩ := Seg.typ_int h3
  obtain ⟨sl, rfl⟩ := Seg.typ_bool h4
  obtain ⟨b, rfl, hb⟩ := Seg.typ_bytes h5
  exact Sgr.law3_fn n cs ca ns l many sl b hn hl hmany hb

theorem segmentRight_lifted (os : Os) (started : os.Started) (H : Type) (enc : TypeId × Value → H) :
    ReturnsInHanded {} Tryz.checked os 3 .any (fun w args => (Rows.segmentRightSpec.pre enc Tryz.prog Tryz.f3 Rows.segmentRightRow.domain false w args ∧ laidMetH Tryz.prog Rows.segmentRightRow.laid w) ∧ sizedMet enc Tryz.prog Tryz.f3 (OpenSpec.ofChange Rows.segmentRightSpec) false w args)
      (Rows.segmentRightSpec.post enc Tryz.prog Tryz.f3 false true false false) := by
  refine returnsInHanded_of_change_and (C := Tryz.checked) (X := fun w _ => laidMetH Tryz.prog Rows.segmentRightRow.laid w) (fun _ _ _ hh h => h.of_heap hh) Seg.own started (by kernel_rfl) Tryz.func3
    (ChangeSpec.witness_shaped (enc := enc) (C := Tryz.checked) (os := os) (X := fun w _ => laidMetH Tryz.prog Rows.segmentRightRow.laid w) false (World.laidAll Tryz.prog os Rows.segmentRightRow.laid) #[.int .i64 0, .agg #[.int .i64 0, .int .i64 0, .slice none 0 0], .slice none 0 0, .int .i64 0, .bool false, .slice none 0 0] 8 (World.laidAll_os _ _ _)
      (World.shaped_of_ZipB (by kernel_rfl) (by kernel_rfl)) (by kernel_rfl) (by kernel_rfl) (by kernel_rfl)
      (by rw [MakeChecks.laidMetH_plain _ _ _ (by kernel_rfl)]; exact laidMet_laidAll _ (by kernel_rfl) (by kernel_rfl))) ?_
  intro W base args ds gs before hval hW _ _ hX _
  exact law_contract 6 Rows.segmentRightSpec 4 rfl Seg.laidOut (by kernel_rfl) (by kernel_rfl) Seg.u4 W base args ds gs before (fun l hl => match l, hl with | [_, _, _, _, _, _], _ => ⟨rfl, rfl, rfl⟩) hval hW (gl_laid (l := Rows.segmentRightRow.laid) (by kernel_rfl) (by simp [Rows.segmentRightRow]) hX) segmentRight_law

theorem segmentRight_said : Rows.SegmentRightSaid :=
  OpenClaim.holds_of_wide 3 Tryz.f3 rfl rfl rfl rfl rfl rfl rfl ⟨rfl, rfl, rfl, rfl, rfl⟩ rfl rfl rfl rfl rfl (by kernel_rfl) Tryz.func3 (by kernel_rfl)
    (of_decide_eq_true (by kernel_rfl)) (by unfold Func.isWrapper; first | (rw [if_pos (by decide +kernel)]; kernel_rfl) | (rw [if_neg (by decide +kernel)]; exact ⟨rfl, rfl⟩))
    (fun os started H enc _ => segmentRight_lifted os started H enc)

theorem segmentRight_wants : (Tryz.f3.params.all fun t => !(Tryz.prog.wantsStandIn t)) = true := by kernel_rfl

theorem segmentRight_holds : Rows.SegmentRightCardSaid :=
  Claim7.holds_tied_plain_at .later [] [.data, .data, .data] true (true, "96948d75cde322ef8d19ffed346770dc2a0662f5d83998f76be1e3f675a3addf") false
    segmentRight_said (fun _ h => by cases h) (by kernel_rfl) (fun _ h => by cases h) segmentRight_row_tie rfl ⟨rfl, rfl⟩ (by kernel_rfl) rfl
    (fun f fn hf hfn => by
      obtain rfl : f = 3 := Option.some.inj ((show Tryz.prog.funcNamed "fusebox/fuseboxlaw09.SegmentRight" = some 3 by kernel_rfl).symm.trans hf) |>.symm
      obtain rfl : fn = Tryz.f3 := (Option.some.inj (Tryz.func3.symm.trans hfn)).symm
      exact ⟨by kernel_rfl, fun j t ht => by
        have h := Array.all_eq_true_iff_forall_mem.1 segmentRight_wants t (Array.mem_of_getElem? ht)
        have h2 : Tryz.prog.wantsStandIn t = false := by simpa using h
        exact h2⟩)
    (by kernel_rfl)

end Go.Proofs.YtbocfphenkidnaaGreatDoor

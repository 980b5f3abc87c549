/-
  Whatever number, context, events, place and bytes are given, the law SegmentCut returns true; the arguments read as before. No condition.
-/
import Derived.Test.YtbocfphenkidnaaDoorSgT
import Derived.Test.YtbocfphenkidnaaDoorRows
import Derived.Test.YtbocfphenkidnaaDoorCards
import Derived.Test.YtbocfphenkidnaaDoorTie
import Derived.Lay
import Derived.SevenTiedAt
namespace Go.Proofs.YtbocfphenkidnaaDoor
open Go Go.Px Go.Proofs Go.ChangeShapes Go.WideShapes Go.ChangeAt Go.RowKit Go.Proofs.YtbocfphenkidnaaDoor.Seg
set_option maxRecDepth 100000

theorem segmentCut_law (ss : List SV) (h : TypAll Tryd.prog 6 Tryd.f4.params.toList ss) : Ct Tryd.prog 4 {} ss (fun r => r = [.val (.bool true)]) := by
  have e : Tryd.f4.params.toList = [2, 24, 25, 4, 41, 26] := by kernel_rfl
  rw [e] at h
  obtain ⟨s0, _, rfl, h0, s1, _, rfl, h1, s2, _, rfl, h2, s3, _, rfl, h3, s4, _, rfl, h4, s5, _, rfl, h5, rfl⟩ := h
  obtain ⟨n, rfl⟩ := Seg.typ_i64 h0
  obtain ⟨cs, ca, ns, rfl, hn⟩ := Seg.typ_ctx h1
  obtain ⟨l, rfl, hl⟩ := Seg.typ_evs h2
  obtain ⟨sl, rfl⟩ := Seg.typ_bool h3
  obtain ⟨x, rfl, hx0, hx1⟩ := Seg.typ_u16 h4
  obtain ⟨b, rfl, hb⟩ := Seg.typ_bytes h5
  exact law4_fn n cs ca ns l sl x b hn hl hx0 hx1 hb

theorem segmentCut_lifted (os : Os) (started : os.Started) (H : Type) (enc : TypeId × Value → H) :
    ReturnsInHanded {} Tryd.checked os 4 .any (fun w args => (Rows.segmentCutSpec.pre enc Tryd.prog Tryd.f4 Rows.segmentCutRow.domain false w args ∧ laidMetH Tryd.prog Rows.segmentCutRow.laid w) ∧ sizedMet enc Tryd.prog Tryd.f4 (OpenSpec.ofChange Rows.segmentCutSpec) false w args)
      (Rows.segmentCutSpec.post enc Tryd.prog Tryd.f4 false true false false) := by
  refine returnsInHanded_of_change_and (C := Tryd.checked) (X := fun w _ => laidMetH Tryd.prog Rows.segmentCutRow.laid w) (fun _ _ _ hh h => h.of_heap hh) Seg.own started (by kernel_rfl) Tryd.func4
    (ChangeSpec.witness_shaped (enc := enc) (C := Tryd.checked) (os := os) (X := fun w _ => laidMetH Tryd.prog Rows.segmentCutRow.laid w) false (World.laidAll Tryd.prog os Rows.segmentCutRow.laid) #[.int .i64 0, .agg #[.int .i64 0, .int .i64 0, .slice none 0 0], .slice none 0 0, .bool false, .int .u16 0, .slice none 0 0] 8 (World.laidAll_os _ _ _)
      (World.shaped_of_ZipB (by kernel_rfl) (by kernel_rfl)) (by kernel_rfl) (by kernel_rfl) (by kernel_rfl)
      (by rw [MakeChecks.laidMetH_plain _ _ _ (by kernel_rfl)]; exact laidMet_laidAll _ (by kernel_rfl) (by kernel_rfl))) ?_
  intro W base args ds gs before hval hW _ _ _ _
  exact law_contract 6 Rows.segmentCutSpec 4 rfl Seg.laidOut (by kernel_rfl) (by kernel_rfl) Seg.u4 W base args ds gs before (fun l hl => match l, hl with | [_, _, _, _, _, _], _ => ⟨rfl, rfl, rfl⟩) hval hW segmentCut_law

theorem segmentCut_said : Rows.SegmentCutSaid :=
  OpenClaim.holds_of_wide 4 Tryd.f4 rfl rfl rfl rfl rfl rfl rfl ⟨rfl, rfl, rfl, rfl, rfl⟩ rfl rfl rfl rfl rfl (by kernel_rfl) Tryd.func4 (by kernel_rfl)
    (of_decide_eq_true (by kernel_rfl)) (by unfold Func.isWrapper; first | (rw [if_pos (by decide +kernel)]; kernel_rfl) | (rw [if_neg (by decide +kernel)]; exact ⟨rfl, rfl⟩))
    (fun os started H enc _ => segmentCut_lifted os started H enc)

theorem segmentCut_wants : (Tryd.f4.params.all fun t => !(Tryd.prog.wantsStandIn t)) = true := by kernel_rfl

theorem segmentCut_holds : Rows.SegmentCutCardSaid :=
  Claim7.holds_tied_plain_at .later [] [.data, .data, .data] true (true, "2ce1dd086277ec164c27731effaf4c1c4f87c026ca5eed494ea06e3ae3e83e96") false
    segmentCut_said (fun _ h => by cases h) (by kernel_rfl) (fun _ h => by cases h) segmentCut_row_tie rfl ⟨rfl, rfl⟩ (by kernel_rfl) rfl
    (fun f fn hf hfn => by
      obtain rfl : f = 4 := Option.some.inj ((show Tryd.prog.funcNamed "fusebox/fuseboxlaw09.SegmentCut" = some 4 by kernel_rfl).symm.trans hf) |>.symm
      obtain rfl : fn = Tryd.f4 := (Option.some.inj (Tryd.func4.symm.trans hfn)).symm
      exact ⟨by kernel_rfl, fun j t ht => by
        have h := Array.all_eq_true_iff_forall_mem.1 segmentCut_wants t (Array.mem_of_getElem? ht)
        have h2 : Tryd.prog.wantsStandIn t = false := by simpa using h
        exact h2⟩)
    (by kernel_rfl)

end Go.Proofs.YtbocfphenkidnaaDoor

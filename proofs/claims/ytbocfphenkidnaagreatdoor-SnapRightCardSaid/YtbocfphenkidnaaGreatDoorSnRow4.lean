/-
 Whatever disk, state, number, name and bytes are given, the law SnapRight returns true; the arguments read as before. No condition.
-/
import Derived.Test.YtbocfphenkidnaaGreatDoorSnT
import Derived.Test.YtbocfphenkidnaaGreatDoorGlz
import Derived.Test.YtbocfphenkidnaaGreatDoorSnF
import Derived.Test.YtbocfphenkidnaaGreatDoorRows
import Derived.Test.YtbocfphenkidnaaGreatDoorCards
import Derived.Test.YtbocfphenkidnaaGreatDoorTie
import Derived.Lay
import Derived.SevenTiedAt
namespace Go.Proofs.YtbocfphenkidnaaGreatDoor
open Go Go.Px Go.Proofs Go.ChangeShapes Go.WideShapes Go.ChangeAt Go.RowKit Snp
set_option maxRecDepth 100000

theorem snapRight_law (ss : List SV) (h : TypAllW Tryz.prog 9 Tryz.f4.params.toList ss) : Ct Tryz.prog 4 {} ss (fun r => r = [.val (.bool true)]) := by
 have e : Tryz.f4.params.toList = [55, 58, 2, 9, 26] := by kernel_rfl
 rw [e] at h
 obtain ⟨s0, _, rfl, h0, s1, _, rfl, h1, s2, _, rfl, h2, s3, _, rfl, h3, s4, _, rfl, h4, rfl⟩ := h
 obtain ⟨d, rfl, hd⟩ := Dsk.typ_dskW h0
 obtain ⟨s, rfl, hs⟩ := St.typ_st (typV_of_W h1)
 obtain ⟨q, rfl⟩ := Snp.typ_q (typV_of_W h2)
 obtain ⟨nm, rfl⟩ := Dsk.typ_strW h3
 obtain ⟨l, rfl, _⟩ := Dsk.typ_byW h4
 rw [Snp.uR_bR]
 exact Snp.law4_fn d hd s hs q nm _ (Snp.iU_byts l)

theorem snapRight_lifted (os : Os) (started : os.Started) (H : Type) (enc : TypeId × Value → H) :
  ReturnsInHanded {} Tryz.checked os 4 .any (fun w args => (Rows.snapRightSpec.pre enc Tryz.prog Tryz.f4 Rows.snapRightRow.domain false w args ∧ laidMetH Tryz.prog Rows.snapRightRow.laid w) ∧ sizedMet enc Tryz.prog Tryz.f4 (OpenSpec.ofChange Rows.snapRightSpec) false w args)
   (Rows.snapRightSpec.post enc Tryz.prog Tryz.f4 false true false false) := by
 refine returnsInHanded_of_change_and (C := Tryz.checked) (X := fun w _ => laidMetH Tryz.prog Rows.snapRightRow.laid w) (fun _ _ _ hh h => h.of_heap hh) Snp.own started (by kernel_rfl) Tryz.func4
  (ChangeSpec.witness_shaped (enc := enc) (C := Tryz.checked) (os := os) (X := fun w _ => laidMetH Tryz.prog Rows.snapRightRow.laid w) false (World.laidAll Tryz.prog os Rows.snapRightRow.laid) #[.agg #[.slice none 0 0, .int .i64 0, .int .i64 0, .bool false], .agg #[.slice none 0 0, .int .i64 0, .int .i64 0], .int .i64 0, .string ByteArray.empty, .slice none 0 0] 8 (World.laidAll_os _ _ _)
   (World.shaped_of_ZipB (by kernel_rfl) (by kernel_rfl)) (by kernel_rfl) (by kernel_rfl) (by kernel_rfl)
   (by rw [MakeChecks.laidMetH_plain _ _ _ (by kernel_rfl)]; exact laidMet_laidAll _ (by kernel_rfl) (by kernel_rfl))) ?_
 intro W base args ds gs before hval hW _ hsz hX _
 exact law_contractW 9 Rows.snapRightSpec 4 rfl Snp.laidOut (by kernel_rfl) (by kernel_rfl) Snp.uB W base args ds gs before (fun l hl => match l, hl with | [_, _, _, _, _], _ => ⟨rfl, rfl, rfl⟩) hval hW hsz (gl_laid (l := Rows.snapRightRow.laid) (by kernel_rfl) (by simp [Rows.snapRightRow]) hX) snapRight_law

theorem snapRight_said : Rows.SnapRightSaid :=
 OpenClaim.holds_of_wide 4 Tryz.f4 rfl rfl rfl rfl rfl rfl rfl ⟨rfl, rfl, rfl, rfl, rfl⟩ rfl rfl rfl rfl rfl (by kernel_rfl) Tryz.func4 (by kernel_rfl)
  (of_decide_eq_true (by kernel_rfl)) (by unfold Func.isWrapper; first | (rw [if_pos (by decide +kernel)]; kernel_rfl) | (rw [if_neg (by decide +kernel)]; exact ⟨rfl, rfl⟩))
  (fun os started H enc _ => snapRight_lifted os started H enc)

theorem snapRight_wants : (Tryz.f4.params.all fun t => !(Tryz.prog.wantsStandIn t)) = true := by kernel_rfl

theorem snapRight_holds : Rows.SnapRightCardSaid :=
 Claim7.holds_tied_plain_at .later [] [.data, .data, .data] true (true, "96948d75cde322ef8d19ffed346770dc2a0662f5d83998f76be1e3f675a3addf") false
  snapRight_said (fun _ h => by cases h) (by kernel_rfl) (fun _ h => by cases h) snapRight_row_tie rfl ⟨rfl, rfl⟩ (by kernel_rfl) rfl
  (fun f fn hf hfn => by
   obtain rfl : f = 4 := Option.some.inj ((show Tryz.prog.funcNamed "fusebox/fuseboxlaw17.SnapRight" = some 4 by kernel_rfl).symm.trans hf) |>.symm
   obtain rfl : fn = Tryz.f4 := (Option.some.inj (Tryz.func4.symm.trans hfn)).symm
   exact ⟨by kernel_rfl, fun j t ht => by
    have h := Array.all_eq_true_iff_forall_mem.1 snapRight_wants t (Array.mem_of_getElem? ht)
    have h2 : Tryz.prog.wantsStandIn t = false := by simpa using h
    exact h2⟩)
  (by kernel_rfl)

end Go.Proofs.YtbocfphenkidnaaGreatDoor

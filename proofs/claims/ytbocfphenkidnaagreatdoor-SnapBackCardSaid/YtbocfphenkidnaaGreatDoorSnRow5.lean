/-
  Whatever states, place and bytes are given, the law SnapBack returns true; the arguments read as before. No condition.
-/
import Derived.Test.YtbocfphenkidnaaGreatDoorSnT
import Derived.Test.YtbocfphenkidnaaGreatDoorGlz
import Derived.Test.YtbocfphenkidnaaGreatDoorSnG
import Derived.Test.YtbocfphenkidnaaGreatDoorRows
import Derived.Test.YtbocfphenkidnaaGreatDoorCards
import Derived.Test.YtbocfphenkidnaaGreatDoorTie
import Derived.Lay
import Derived.SevenTiedAt
namespace Go.Proofs.YtbocfphenkidnaaGreatDoor
open Go Go.Px Go.Proofs Go.ChangeShapes Go.WideShapes Go.ChangeAt Go.RowKit Go.Proofs.YtbocfphenkidnaaGreatDoor.Snp
set_option maxRecDepth 100000

theorem snapBack_law (ss : List SV) (h : TypAll Tryz.prog 9 Tryz.f5.params.toList ss) : Ct Tryz.prog 5 {} ss (fun r => r = [.val (.bool true)]) := by
  have e : Tryz.f5.params.toList = [58, 58, 78, 79] := by kernel_rfl
  rw [e] at h
  obtain ⟨s0, _, rfl, h0, s1, _, rfl, h1, s2, _, rfl, h2, s3, _, rfl, h3, rfl⟩ := h
  obtain ⟨s, rfl, hs⟩ := St.typ_st h0
  obtain ⟨t, rfl, ht⟩ := St.typ_st h1
  obtain ⟨x, rfl, hx⟩ := Snp.typ_u16v h2
  obtain ⟨a, b, c, d, rfl, ha, hb, hc, hd⟩ := Snp.typ_four h3
  exact Snp.law5_fn s t hs ht x a b c d hx ha hb hc hd

theorem snapBack_lifted (os : Os) (started : os.Started) (H : Type) (enc : TypeId × Value → H) :
    ReturnsInHanded {} Tryz.checked os 5 .any (fun w args => (Rows.snapBackSpec.pre enc Tryz.prog Tryz.f5 Rows.snapBackRow.domain false w args ∧ laidMetH Tryz.prog Rows.snapBackRow.laid w) ∧ sizedMet enc Tryz.prog Tryz.f5 (OpenSpec.ofChange Rows.snapBackSpec) false w args)
      (Rows.snapBackSpec.post enc Tryz.prog Tryz.f5 false true false false) := by
  refine returnsInHanded_of_change_and (C := Tryz.checked) (X := fun w _ => laidMetH Tryz.prog Rows.snapBackRow.laid w) (fun _ _ _ hh h => h.of_heap hh) Snp.own started (by kernel_rfl) Tryz.func5
    (ChangeSpec.witness_shaped (enc := enc) (C := Tryz.checked) (os := os) (X := fun w _ => laidMetH Tryz.prog Rows.snapBackRow.laid w) false (World.laidAll Tryz.prog os Rows.snapBackRow.laid) #[.agg #[.slice none 0 0, .int .i64 0, .int .i64 0], .agg #[.slice none 0 0, .int .i64 0, .int .i64 0], .int .u16 0, .agg #[.int .u8 0, .int .u8 0, .int .u8 0, .int .u8 0]] 8 (World.laidAll_os _ _ _)
      (World.shaped_of_ZipB (by kernel_rfl) (by kernel_rfl)) (by kernel_rfl) (by kernel_rfl) (by kernel_rfl)
      (by rw [MakeChecks.laidMetH_plain _ _ _ (by kernel_rfl)]; exact laidMet_laidAll _ (by kernel_rfl) (by kernel_rfl))) ?_
  intro W base args ds gs before hval hW _ _ hX _
  exact law_contract 9 Rows.snapBackSpec 4 rfl Snp.laidOut (by kernel_rfl) (by kernel_rfl) Snp.uB W base args ds gs before (fun l hl => match l, hl with | [_, _, _, _], _ => ⟨rfl, rfl, rfl⟩) hval hW (gl_laid (l := Rows.snapBackRow.laid) (by kernel_rfl) (by simp [Rows.snapBackRow]) hX) snapBack_law

theorem snapBack_said : Rows.SnapBackSaid :=
  OpenClaim.holds_of_wide 5 Tryz.f5 rfl rfl rfl rfl rfl rfl rfl ⟨rfl, rfl, rfl, rfl, rfl⟩ rfl rfl rfl rfl rfl (by kernel_rfl) Tryz.func5 (by kernel_rfl)
    (of_decide_eq_true (by kernel_rfl)) (by unfold Func.isWrapper; first | (rw [if_pos (by decide +kernel)]; kernel_rfl) | (rw [if_neg (by decide +kernel)]; exact ⟨rfl, rfl⟩))
    (fun os started H enc _ => snapBack_lifted os started H enc)

theorem snapBack_wants : (Tryz.f5.params.all fun t => !(Tryz.prog.wantsStandIn t)) = true := by kernel_rfl

theorem snapBack_holds : Rows.SnapBackCardSaid :=
  Claim7.holds_tied_plain_at .later [] [.data, .data, .data] true (true, "96948d75cde322ef8d19ffed346770dc2a0662f5d83998f76be1e3f675a3addf") false
    snapBack_said (fun _ h => by cases h) (by kernel_rfl) (fun _ h => by cases h) snapBack_row_tie rfl ⟨rfl, rfl⟩ (by kernel_rfl) rfl
    (fun f fn hf hfn => by
      obtain rfl : f = 5 := Option.some.inj ((show Tryz.prog.funcNamed "fusebox/fuseboxlaw17.SnapBack" = some 5 by kernel_rfl).symm.trans hf) |>.symm
      obtain rfl : fn = Tryz.f5 := (Option.some.inj (Tryz.func5.symm.trans hfn)).symm
      exact ⟨by kernel_rfl, fun j t ht => by
        have h := Array.all_eq_true_iff_forall_mem.1 snapBack_wants t (Array.mem_of_getElem? ht)
        have h2 : Tryz.prog.wantsStandIn t = false := by simpa using h
        exact h2⟩)
    (by kernel_rfl)

end Go.Proofs.YtbocfphenkidnaaGreatDoor

/-
  Whatever bucket and list of numbers are given, the law BucketHolds returns true; the arguments read as before. No condition.
-/
import Derived.Test.YtggfbmcdodbchaaHold
import Derived.Test.YtggfbmcdodbchaaBktRows
import Derived.Test.YtggfbmcdodbchaaRows
import Derived.ProofKit
namespace Go.Proofs.Ytggfbmcdodbchaa
open Go Go.Px Go.Proofs Go.ChangeShapes Go.WideShapes Go.ChangeAt Go.RowKit
set_option maxRecDepth 100000

theorem wf_i32 {a : Int} (h : (Lit.int .i32 a).wf = true) : -2147483648 ≤ a ∧ a ≤ 2147483647 := by
  simp [Lit.wf, IntKind.min, IntKind.max, IntKind.signed, IntKind.bits] at h
  omega

theorem rget_mem {rows : List (List SV)} {i : Int} (h0 : 0 ≤ i) (h1 : i < rlen rows) : rget rows i ∈ rows := by
  have h2 : i.toNat < rows.length := by
    have : rlen rows = (rows.length : Int) := rfl
    omega
  unfold rget
  rw [List.getD_eq_getElem?_getD, List.getElem?_eq_getElem h2]
  exact List.getElem_mem h2

theorem typ_i32s {s : SV} (ht : TypV Try.prog 4 33 s) : ∃ rows, s = .slice 1 rows 0 ∧ ∀ i : Int, 0 ≤ i → i < rlen rows → ∃ n : Int, rget rows i = [SV.int .i32 n] ∧ -2147483648 ≤ n ∧ n ≤ 2147483647 := by
  obtain ⟨ss, h1, _, h3⟩ := ht
  have h3 := h3 (by kernel_rfl)
  obtain ⟨rows, e, _, hx⟩ : ∃ rows : List (List SV), ss = [.slice 1 rows 0] ∧ rows.length ≤ maxLen ∧ ∀ r ∈ rows, ∃ x : Int, r = [.val (.int .i32 x)] ∧ (Lit.int .i32 x).wf = true := h1
  subst h3
  simp at e
  refine ⟨rows, e, fun i h0 h1 => ?_⟩
  obtain ⟨n, en, hn⟩ := hx _ (rget_mem h0 h1)
  exact ⟨n, en, wf_i32 hn⟩

theorem bucketHolds_law (ss : List SV) (h : TypAll Try.prog 4 Try.f4.params.toList ss) : Ct Try.prog 4 false ss (fun r => r = [.val (.bool true)]) := by
  rw [Try.params4] at h
  obtain ⟨s0, _, rfl, h0, s1, _, rfl, h1, rfl⟩ := h
  obtain ⟨br, bh, rfl, _, _⟩ := typ_bk h0
  obtain ⟨rows, rfl, hrows⟩ := typ_i32s h1
  exact law4_fn br bh rows hrows

theorem bucketHolds_lifted (os : Os) (started : os.Started) (H : Type) (enc : TypeId × Value → H) :
    ReturnsInHanded {} Try.checked os 4 .any (Rows.bucketHoldsSpec.pre6 enc Try.prog Try.f4 Rows.bucketHoldsRow.domain false) (Rows.bucketHoldsSpec.post enc Try.prog Try.f4 false true false false) := by
  refine returnsInHanded_of_change (C := Try.checked) own started (by kernel_rfl) Try.func4
    (ChangeSpec.witness6 (enc := enc) (C := Try.checked) false ⟨#[], #[.agg #[.int .i64 0, .int .i64 0], .slice none 0 0], []⟩ 8 (by kernel_rfl) (by kernel_rfl) (by kernel_rfl) (by kernel_rfl)) ?_
  intro W base args ds gs before hval hW _ _
  exact law_contract 4 Rows.bucketHoldsSpec 4 rfl laidOut (by kernel_rfl) (by kernel_rfl) Try.underlying4 W base args ds gs before (fun l hl => match l, hl with | [_, _], _ => ⟨rfl, rfl, rfl⟩) hval hW bucketHolds_law

theorem bucketHolds_holds : Rows.BucketHoldsSaid :=
  OpenClaim.holds_of_wide 4 Try.f4 rfl rfl rfl rfl rfl rfl rfl ⟨rfl, rfl, rfl, rfl, rfl⟩ rfl rfl rfl rfl rfl (by kernel_rfl) Try.func4 (by kernel_rfl)
    (of_decide_eq_true (by kernel_rfl)) (by unfold Func.isWrapper; first | (rw [if_pos (by decide +kernel)]; kernel_rfl) | (rw [if_neg (by decide +kernel)]; exact ⟨rfl, rfl⟩))
    (fun os started H enc _ => bucketHolds_lifted os started H enc)

end Go.Proofs.Ytggfbmcdodbchaa

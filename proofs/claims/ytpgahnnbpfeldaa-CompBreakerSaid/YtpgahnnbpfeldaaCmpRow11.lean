/-
  Whatever outcomes, steps, times and trip are given, the law CompBreaker returns true; the arguments read as before. No condition.
-/
import Derived.Test.YtpgahnnbpfeldaaCmpT
import Derived.Test.YtpgahnnbpfeldaaCmp18
import Derived.Test.YtpgahnnbpfeldaaRows
namespace Go.Proofs.Ytpgahnnbpfeldaa
open Go Go.Px Go.Proofs Go.ChangeShapes Go.WideShapes Go.ChangeAt Go.RowKit Go.Proofs.Ytpgahnnbpfeldaa.Cmp
set_option maxRecDepth 100000

theorem u5c : Try.prog.underlying 5 = some (.int .u8) := by kernel_rfl
theorem u38c : Try.prog.underlying 38 = some (.slice 5) := by kernel_rfl

theorem wf_u8c {a : Int} (h : (Lit.int .u8 a).wf = true) : 0 ≤ a ∧ a ≤ 255 := by
  simp [Lit.wf, IntKind.min, IntKind.max, IntKind.signed, IntKind.bits] at h
  omega

theorem rows_uR : ∀ (rows : List (List SV)), (∀ r ∈ rows, ∃ n : Int, r = [U8 n] ∧ 0 ≤ n ∧ n ≤ 255) → ∃ l : List Int, rows = uR l ∧ ∀ x ∈ l, 0 ≤ x ∧ x ≤ 255
  | [], _ => ⟨[], rfl, fun x hx => by cases hx⟩
  | r :: rows, h => by
    obtain ⟨n, rfl, hn⟩ := h r (by simp)
    obtain ⟨l, rfl, hl⟩ := rows_uR rows (fun r hr => h r (by simp [hr]))
    refine ⟨n :: l, rfl, fun x hx => ?_⟩
    rcases List.mem_cons.1 hx with rfl | hx
    · exact hn
    · exact hl x hx

theorem typ_u8c {s : SV} (ht : TypV Try.prog 6 5 s) : ∃ x : Int, s = U8 x ∧ 0 ≤ x ∧ x ≤ 255 := by
  obtain ⟨ss, h1, _, h3⟩ := ht
  have h3 := h3 (by simp [isAggT])
  simp only [Typ, u5c] at h1
  obtain ⟨x, e, hx⟩ := h1
  subst h3
  simp at e
  exact ⟨x, e, wf_u8c hx⟩

theorem typ_bytesc {s : SV} (ht : TypV Try.prog 6 38 s) : ∃ l : List Int, s = SL 1 (uR l) ∧ ∀ x ∈ l, 0 ≤ x ∧ x ≤ 255 := by
  obtain ⟨ss, h1, _, h3⟩ := ht
  have h3 := h3 (by simp [isAggT])
  simp only [Typ, u38c, u5c] at h1
  obtain ⟨rows, e, hlen, hr⟩ := h1
  subst h3
  simp at e
  have hz : Try.prog.cellsOf 5 = 1 := by kernel_rfl
  obtain ⟨l, rfl, hl⟩ := rows_uR rows (fun r hm => by obtain ⟨x, hx, hw⟩ := hr r hm; exact ⟨x, hx, wf_u8c hw⟩)
  exact ⟨l, by rw [e, hz], hl⟩

theorem compBreaker_law (ss : List SV) (h : TypAll Try.prog 6 Try.f11.params.toList ss) : Ct Try.prog 11 {} ss (fun r => r = [.val (.bool true)]) := by
  have e : Try.f11.params.toList = [38, 38, 38, 5] := by kernel_rfl
  rw [e] at h
  obtain ⟨s0, _, rfl, h0, s1, _, rfl, h1, s2, _, rfl, h2, s3, _, rfl, h3, rfl⟩ := h
  obtain ⟨l1, rfl, b1⟩ := typ_bytesc h0
  obtain ⟨l2, rfl, b2⟩ := typ_bytesc h1
  obtain ⟨l3, rfl, b3⟩ := typ_bytesc h2
  obtain ⟨t, rfl, bt⟩ := typ_u8c h3
  exact law11_fn l1 l2 l3 t b1 b2 b3 bt

theorem compBreaker_lifted (os : Os) (started : os.Started) (H : Type) (enc : TypeId × Value → H) :
    ReturnsInHanded {} Try.checked os 11 .any (Rows.compBreakerSpec.pre6 enc Try.prog Try.f11 Rows.compBreakerRow.domain false) (Rows.compBreakerSpec.post enc Try.prog Try.f11 false true false false) := by
  refine returnsInHanded_of_change (C := Try.checked) Cmp.own started (by kernel_rfl) Try.func11
    (ChangeSpec.witness6 (enc := enc) (C := Try.checked) false ⟨#[], #[.slice none 0 0, .slice none 0 0, .slice none 0 0, .int .u8 0], []⟩ 8 (by kernel_rfl) (by kernel_rfl) (by kernel_rfl) (by kernel_rfl)) ?_
  intro W base args ds gs before hval hW _ _
  exact law_contract 6 Rows.compBreakerSpec 4 rfl Cmp.laidOut (by kernel_rfl) (by kernel_rfl) Cmp.u4 W base args ds gs before (fun l hl => match l, hl with | [_, _, _, _], _ => ⟨rfl, rfl, rfl⟩) hval hW compBreaker_law

theorem compBreaker_holds : Rows.CompBreakerSaid :=
  OpenClaim.holds_of_wide 11 Try.f11 rfl rfl rfl rfl rfl rfl rfl ⟨rfl, rfl, rfl, rfl, rfl⟩ rfl rfl rfl rfl rfl (by kernel_rfl) Try.func11 (by kernel_rfl)
    (of_decide_eq_true (by kernel_rfl)) (by unfold Func.isWrapper; first | (rw [if_pos (by decide +kernel)]; kernel_rfl) | (rw [if_neg (by decide +kernel)]; exact ⟨rfl, rfl⟩))
    (fun os started H enc _ => compBreaker_lifted os started H enc)

end Go.Proofs.Ytpgahnnbpfeldaa

/-
  Whatever component and events are given, the law CompCounts returns true; the arguments read as before. No condition.
-/
import Derived.Test.YtpgahnnbpfeldaaCmpT
import Derived.Test.YtpgahnnbpfeldaaCmp13
import Derived.Test.YtpgahnnbpfeldaaRows
namespace Go.Proofs.Ytpgahnnbpfeldaa
open Go Go.Px Go.Proofs Go.ChangeShapes Go.WideShapes Go.ChangeAt Go.RowKit Go.Proofs.Ytpgahnnbpfeldaa.Cmp
set_option maxRecDepth 100000

theorem u52c : Try.prog.underlying 52 = some (.slice 23) := by kernel_rfl

theorem rows_evR : ∀ (rows : List (List SV)), (∀ r ∈ rows, ∃ e : Cmp.EvD, r = [I e.s, I e.a, I e.k, S e.c, I e.x, I e.y, I e.z]) → ∃ es : List Cmp.EvD, rows = evR es
  | [], _ => ⟨[], rfl⟩
  | r :: rows, h => by
    obtain ⟨e, rfl⟩ := h r (by simp)
    obtain ⟨l, rfl⟩ := rows_evR rows (fun r hr => h r (by simp [hr]))
    exact ⟨e :: l, rfl⟩

theorem typ_evsC {s : SV} (ht : TypV Try.prog 6 52 s) : ∃ es : List Cmp.EvD, s = SL 7 (evR es) := by
  obtain ⟨ss, h1, _, h3⟩ := ht
  have h3 := h3 (by simp [isAggT])
  have h1 : ∃ rows, ss = [.slice (Try.prog.cellsOf 23) rows 0] ∧ rows.length ≤ maxLen ∧ ∀ r ∈ rows, Typ Try.prog 5 23 r := by
    rw [Typ] at h1
    simp only [u52c] at h1
    exact h1
  obtain ⟨rows, e, hlen, hr⟩ := h1
  subst h3
  simp at e
  have hz : Try.prog.cellsOf 23 = 7 := by kernel_rfl
  obtain ⟨es, rfl⟩ := rows_evR rows (fun r hm => by
    have h1 : splits (fun f s => Typ Try.prog 4 f s) [2, 2, 3, 9, 2, 2, 2] r := by
      have e : Typ Try.prog 5 23 r = splits (fun f s => Typ Try.prog 4 f s) [2, 2, 3, 9, 2, 2, 2] r := by kernel_rfl
      rw [← e]; exact hr r hm
    simp only [splits, Typ, Cmp.u2, Cmp.u3, Cmp.u9] at h1
    obtain ⟨_, _, rfl, ⟨sq, rfl, _⟩, _, _, rfl, ⟨a, rfl, _⟩, _, _, rfl, ⟨k, rfl, _⟩, _, _, rfl, ⟨c, rfl, _⟩, _, _, rfl, ⟨x, rfl, _⟩, _, _, rfl, ⟨y, rfl, _⟩, _, _, rfl, ⟨z, rfl, _⟩, rfl⟩ := h1
    exact ⟨⟨sq, a, k, c, x, y, z⟩, rfl⟩)
  exact ⟨es, by rw [e, hz]⟩

theorem compCounts_law (ss : List SV) (h : TypAll Try.prog 6 Try.f10.params.toList ss) : Ct Try.prog 10 {} ss (fun r => r = [.val (.bool true)]) := by
  have e : Try.f10.params.toList = [79, 52] := by kernel_rfl
  rw [e] at h
  obtain ⟨s0, _, rfl, h0, s1, _, rfl, h1, rfl⟩ := h
  obtain ⟨c, rfl⟩ := typ_cmp h0
  obtain ⟨es, rfl⟩ := typ_evsC h1
  exact law10_fn c es

theorem compCounts_lifted (os : Os) (started : os.Started) (H : Type) (enc : TypeId × Value → H) :
    ReturnsInHanded {} Try.checked os 10 .any (Rows.compCountsSpec.pre6 enc Try.prog Try.f10 Rows.compCountsRow.domain false) (Rows.compCountsSpec.post enc Try.prog Try.f10 false true false false) := by
  refine returnsInHanded_of_change (C := Try.checked) Cmp.own started (by kernel_rfl) Try.func10
    (ChangeSpec.witness6 (enc := enc) (C := Try.checked) false ⟨#[], #[.agg #[.string ByteArray.empty, .int .i64 0, .int .i64 0, .int .i64 0, .int .i64 0, .slice none 0 0, .int .i64 0, .int .i64 0, .int .i64 0, .int .i64 0, .int .i64 0, .int .i64 0, .int .i64 0, .int .i64 0, .int .i64 0, .int .i64 0, .int .i64 0, .int .i64 0, .int .i64 0, .int .i64 0, .int .i64 0], .slice none 0 0], []⟩ 8 (by kernel_rfl) (by kernel_rfl) (by kernel_rfl) (by kernel_rfl)) ?_
  intro W base args ds gs before hval hW _ _
  exact law_contract 6 Rows.compCountsSpec 4 rfl Cmp.laidOut (by kernel_rfl) (by kernel_rfl) Cmp.u4 W base args ds gs before (fun l hl => match l, hl with | [_, _], _ => ⟨rfl, rfl, rfl⟩) hval hW compCounts_law

theorem compCounts_holds : Rows.CompCountsSaid :=
  OpenClaim.holds_of_wide 10 Try.f10 rfl rfl rfl rfl rfl rfl rfl ⟨rfl, rfl, rfl, rfl, rfl⟩ rfl rfl rfl rfl rfl (by kernel_rfl) Try.func10 (by kernel_rfl)
    (of_decide_eq_true (by kernel_rfl)) (by unfold Func.isWrapper; first | (rw [if_pos (by decide +kernel)]; kernel_rfl) | (rw [if_neg (by decide +kernel)]; exact ⟨rfl, rfl⟩))
    (fun os started H enc _ => compCounts_lifted os started H enc)

end Go.Proofs.Ytpgahnnbpfeldaa

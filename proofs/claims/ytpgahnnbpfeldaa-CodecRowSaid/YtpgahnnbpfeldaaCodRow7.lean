/-
  Whatever events are given, the law CodecRow returns true; the arguments read as before. No condition.
-/
import Derived.Test.YtpgahnnbpfeldaaCod10
import Derived.Test.YtpgahnnbpfeldaaCodT
import Derived.Test.YtpgahnnbpfeldaaRows
namespace Go.Proofs.Ytpgahnnbpfeldaa
open Go Go.Px Go.Proofs Go.ChangeShapes Go.WideShapes Go.ChangeAt Go.RowKit Go.Proofs.Ytpgahnnbpfeldaa.Cod
set_option maxRecDepth 100000

theorem u52 : Try.prog.underlying 52 = some (.slice 23) := by kernel_rfl

theorem rows_eR : ∀ (rows : List (List SV)), (∀ r ∈ rows, ∃ e : EvD, r = e.row) → ∃ es : List EvD, rows = eR es
  | [], _ => ⟨[], rfl⟩
  | r :: rows, h => by
    obtain ⟨e, rfl⟩ := h r (by simp)
    obtain ⟨l, rfl⟩ := rows_eR rows (fun r hr => h r (by simp [hr]))
    exact ⟨e :: l, rfl⟩

theorem typ_evs {s : SV} (ht : TypV Try.prog 6 52 s) : ∃ es : List EvD, s = SL 7 (eR es) ∧ es.length ≤ 9223372036854775807 := by
  obtain ⟨ss, h1, _, h3⟩ := ht
  have h3 := h3 (by simp [isAggT])
  have h1 : ∃ rows, ss = [.slice (Try.prog.cellsOf 23) rows 0] ∧ rows.length ≤ maxLen ∧ ∀ r ∈ rows, Typ Try.prog 5 23 r := by
    rw [Typ] at h1
    simp only [u52] at h1
    exact h1
  obtain ⟨rows, e, hlen, hr⟩ := h1
  subst h3
  simp at e
  have hz : Try.prog.cellsOf 23 = 7 := by kernel_rfl
  obtain ⟨es, rfl⟩ := rows_eR rows (fun r hm => by
    have h1 : splits (fun f s => Typ Try.prog 4 f s) [2, 2, 3, 9, 2, 2, 2] r := by
      have e : Typ Try.prog 5 23 r = splits (fun f s => Typ Try.prog 4 f s) [2, 2, 3, 9, 2, 2, 2] r := by kernel_rfl
      rw [← e]; exact hr r hm
    simp only [splits, Typ, Cod.u2, Cod.u3, Cod.u9] at h1
    obtain ⟨_, _, rfl, ⟨sq, rfl, _⟩, _, _, rfl, ⟨a, rfl, _⟩, _, _, rfl, ⟨k, rfl, _⟩, _, _, rfl, ⟨c, rfl, _⟩, _, _, rfl, ⟨x, rfl, _⟩, _, _, rfl, ⟨y, rfl, _⟩, _, _, rfl, ⟨z, rfl, _⟩, rfl⟩ := h1
    exact ⟨⟨sq, a, k, c, x, y, z⟩, rfl⟩)
  rw [Cod.maxLen_eq] at hlen
  exact ⟨es, by rw [e, hz], by simpa using hlen⟩

theorem codecRow_law (ss : List SV) (h : TypAll Try.prog 6 Try.f7.params.toList ss) : Ct Try.prog 7 {} ss (fun r => r = [.val (.bool true)]) := by
  have e : Try.f7.params.toList = [52] := by kernel_rfl
  rw [e] at h
  obtain ⟨s0, _, rfl, h0, rfl⟩ := h
  obtain ⟨es, rfl, hl⟩ := typ_evs h0
  exact law7_fn es hl

theorem codecRow_lifted (os : Os) (started : os.Started) (H : Type) (enc : TypeId × Value → H) :
    ReturnsInHanded {} Try.checked os 7 .any (Rows.codecRowSpec.pre6 enc Try.prog Try.f7 Rows.codecRowRow.domain false) (Rows.codecRowSpec.post enc Try.prog Try.f7 false true false false) := by
  refine returnsInHanded_of_change (C := Try.checked) Cod.own started (by kernel_rfl) Try.func7
    (ChangeSpec.witness6 (enc := enc) (C := Try.checked) false ⟨#[], #[.slice none 0 0], []⟩ 8 (by kernel_rfl) (by kernel_rfl) (by kernel_rfl) (by kernel_rfl)) ?_
  intro W base args ds gs before hval hW _ _
  exact law_contract 6 Rows.codecRowSpec 4 rfl Cod.laidOut (by kernel_rfl) (by kernel_rfl) Cod.u4 W base args ds gs before (fun l hl => match l, hl with | [_], _ => ⟨rfl, rfl, rfl⟩) hval hW codecRow_law

theorem codecRow_holds : Rows.CodecRowSaid :=
  OpenClaim.holds_of_wide 7 Try.f7 rfl rfl rfl rfl rfl rfl rfl ⟨rfl, rfl, rfl, rfl, rfl⟩ rfl rfl rfl rfl rfl (by kernel_rfl) Try.func7 (by kernel_rfl)
    (of_decide_eq_true (by kernel_rfl)) (by unfold Func.isWrapper; first | (rw [if_pos (by decide +kernel)]; kernel_rfl) | (rw [if_neg (by decide +kernel)]; exact ⟨rfl, rfl⟩))
    (fun os started H enc _ => codecRow_lifted os started H enc)

end Go.Proofs.Ytpgahnnbpfeldaa

/- The readings of the arguments of layer 7's laws. -/
import Derived.Test.YtpgahnnbpfeldaaCod9
import Derived.ProofKit
namespace Go.Proofs.Ytpgahnnbpfeldaa.Cod
open Go Go.Px Go.Proofs Go.ChangeShapes Go.WideShapes Go.ChangeAt Go.RowKit
set_option maxRecDepth 100000

theorem own : ownKnob Try.prog.godebug = none := by kernel_rfl
theorem laidOut : laidOutB Try.prog = true := by kernel_rfl

theorem u2 : Try.prog.underlying 2 = some (.int .i64) := by kernel_rfl
theorem u3 : Try.prog.underlying 3 = some (.int .i64) := by kernel_rfl
theorem u4 : Try.prog.underlying 4 = some .bool := by kernel_rfl
theorem u5 : Try.prog.underlying 5 = some (.int .u8) := by kernel_rfl
theorem u9 : Try.prog.underlying 9 = some .string := by kernel_rfl
theorem u35 : Try.prog.underlying 35 = some (.slice 9) := by kernel_rfl
theorem u38 : Try.prog.underlying 38 = some (.slice 5) := by kernel_rfl

theorem maxLen_eq : maxLen = 9223372036854775807 := rfl

theorem rows_nR : ∀ (rows : List (List SV)), (∀ r ∈ rows, ∃ s : ByteArray, r = [S s]) → ∃ l : List ByteArray, rows = nR l
  | [], _ => ⟨[], rfl⟩
  | r :: rows, h => by
    obtain ⟨s, rfl⟩ := h r (by simp)
    obtain ⟨l, rfl⟩ := rows_nR rows (fun r hr => h r (by simp [hr]))
    exact ⟨s :: l, rfl⟩

theorem rows_bR : ∀ (rows : List (List SV)), (∀ r ∈ rows, ∃ n : Int, r = [U8 n] ∧ 0 ≤ n ∧ n ≤ 255) → ∃ l : List Int, rows = bR l ∧ Byts l
  | [], _ => ⟨[], rfl, fun x hx => by cases hx⟩
  | r :: rows, h => by
    obtain ⟨n, rfl, hn⟩ := h r (by simp)
    obtain ⟨l, rfl, hl⟩ := rows_bR rows (fun r hr => h r (by simp [hr]))
    refine ⟨n :: l, rfl, fun x hx => ?_⟩
    rcases List.mem_cons.1 hx with rfl | hx
    · exact hn
    · exact hl x hx

theorem typ_u8 {s : SV} (ht : TypV Try.prog 6 5 s) : ∃ x : Int, s = U8 x ∧ 0 ≤ x ∧ x ≤ 255 := by
  obtain ⟨ss, h1, _, h3⟩ := ht
  have h3 := h3 (by simp [isAggT])
  simp only [Typ, u5] at h1
  obtain ⟨x, e, hx⟩ := h1
  subst h3
  simp at e
  exact ⟨x, e, wf_u8 hx⟩

theorem typ_bytes {s : SV} (ht : TypV Try.prog 6 38 s) : ∃ l : List Int, s = SL 1 (bR l) ∧ Byts l := by
  obtain ⟨ss, h1, _, h3⟩ := ht
  have h3 := h3 (by simp [isAggT])
  simp only [Typ, u38, u5] at h1
  obtain ⟨rows, e, _, hr⟩ := h1
  subst h3
  simp at e
  have hz : Try.prog.cellsOf 5 = 1 := by kernel_rfl
  obtain ⟨l, rfl, hl⟩ := rows_bR rows (fun r hm => by obtain ⟨x, hx, hw⟩ := hr r hm; exact ⟨x, hx, wf_u8 hw⟩)
  exact ⟨l, by rw [e, hz], hl⟩

theorem typ_ev {s : SV} (ht : TypV Try.prog 6 23 s) : ∃ e : EvD, s = e.sv := by
  obtain ⟨ss, h1, h2, _⟩ := ht
  have h2 := h2 (by kernel_rfl)
  have h1 : splits (fun f s => Typ Try.prog 5 f s) [2, 2, 3, 9, 2, 2, 2] ss := by
    have e : Typ Try.prog 6 23 ss = splits (fun f s => Typ Try.prog 5 f s) [2, 2, 3, 9, 2, 2, 2] ss := by kernel_rfl
    rw [← e]; exact h1
  simp only [splits, Typ, u2, u3, u9] at h1
  obtain ⟨_, _, rfl, ⟨sq, rfl, _⟩, _, _, rfl, ⟨a, rfl, _⟩, _, _, rfl, ⟨k, rfl, _⟩, _, _, rfl, ⟨c, rfl, _⟩, _, _, rfl, ⟨x, rfl, _⟩, _, _, rfl, ⟨y, rfl, _⟩, _, _, rfl, ⟨z, rfl, _⟩, rfl⟩ := h1
  exact ⟨⟨sq, a, k, c, x, y, z⟩, h2⟩

theorem typ_ctx {s : SV} (ht : TypV Try.prog 6 37 s) : ∃ (cs ca : Int) (l : List ByteArray), s = cx3 cs ca (nR l) ∧ l.length ≤ 9223372036854775807 := by
  obtain ⟨ss, h1, h2, _⟩ := ht
  have h2 := h2 (by kernel_rfl)
  have h1 : splits (fun f s => Typ Try.prog 5 f s) [2, 2, 35] ss := by
    have e : Typ Try.prog 6 37 ss = splits (fun f s => Typ Try.prog 5 f s) [2, 2, 35] ss := by kernel_rfl
    rw [← e]; exact h1
  simp only [splits, Typ, u2, u35, u9] at h1
  obtain ⟨_, _, rfl, ⟨sq, rfl, _⟩, _, _, rfl, ⟨a, rfl, _⟩, _, _, rfl, ⟨rows, rfl, hlen, hr⟩, rfl⟩ := h1
  have hz : Try.prog.cellsOf 9 = 1 := by kernel_rfl
  obtain ⟨l, rfl⟩ := rows_nR rows (fun r hm => by obtain ⟨x, hx, _⟩ := hr r hm; exact ⟨x, hx⟩)
  refine ⟨sq, a, l, by rw [h2, hz]; rfl, ?_⟩
  rw [maxLen_eq] at hlen
  simpa using hlen

end Go.Proofs.Ytpgahnnbpfeldaa.Cod

/- The readings of the arguments of layer 10's laws. -/
import Derived.Test.YtohmeljljamigaaDsk8
import Derived.ProofKit
namespace Go.Proofs.Ytohmeljljamigaa.Dsk
open Go Go.Px Go.Proofs Go.ChangeShapes Go.WideShapes Go.ChangeAt Go.RowKit
set_option maxRecDepth 100000

theorem own : ownKnob Try.prog.godebug = none := by kernel_rfl
theorem laidOut : laidOutB Try.prog = true := by kernel_rfl
theorem u3 : Try.prog.underlying 3 = some (.int .i64) := by kernel_rfl
theorem u4 : Try.prog.underlying 4 = some .bool := by kernel_rfl
theorem u5 : Try.prog.underlying 5 = some (.int .u8) := by kernel_rfl
theorem u9 : Try.prog.underlying 9 = some .string := by kernel_rfl
theorem u25 : Try.prog.underlying 25 = some (.slice 5) := by kernel_rfl
theorem u26 : Try.prog.underlying 26 = some (.slice 3) := by kernel_rfl
theorem u54 : Try.prog.underlying 54 = some (.slice 57) := by kernel_rfl
theorem u55 : Try.prog.underlying 55 = some (.int .u16) := by kernel_rfl
theorem c5 : Try.prog.cellsOf 5 = 1 := by kernel_rfl
theorem c57 : Try.prog.cellsOf 57 = 5 := by kernel_rfl
theorem e57 (ss : List SV) : Typ Try.prog 5 57 ss = splits (fun f s => Typ Try.prog 4 f s) [5, 5, 5, 5, 25] ss := by kernel_rfl
theorem maxLen_eq : maxLen = 9223372036854775807 := rfl

theorem rows_map {α : Type} {f : α → List SV} {Q : α → Prop} : ∀ (rows : List (List SV)), (∀ r ∈ rows, ∃ a, r = f a ∧ Q a) → ∃ l : List α, rows = l.map f ∧ ∀ a ∈ l, Q a
  | [], _ => ⟨[], rfl, by simp⟩
  | r :: rows, h => by
    obtain ⟨a, rfl, ha⟩ := h r (by simp)
    obtain ⟨l, rfl, hl⟩ := rows_map rows (fun r hr => h r (by simp [hr]))
    refine ⟨a :: l, rfl, fun b hb => ?_⟩
    rcases List.mem_cons.1 hb with rfl | hb
    · exact ha
    · exact hl b hb

theorem typ_u8s {n : Nat} {ss : List SV} (h : Typ Try.prog (n + 1) 5 ss) : ∃ x : Int, ss = [U8 x] ∧ 0 ≤ x ∧ x ≤ 255 := by
  simp only [Typ, u5] at h
  obtain ⟨x, h, hw⟩ := h
  exact ⟨x, h, wf_u8 hw⟩
theorem typ_bys {n : Nat} {ss : List SV} (h : Typ Try.prog (n + 2) 25 ss) : ∃ l : List UInt8, ss = [SL 1 (uR l)] ∧ l.length ≤ 9223372036854775807 := by
  unfold Typ at h
  rw [u25] at h
  obtain ⟨rows, rfl, hl, hr⟩ := h
  obtain ⟨l, rfl, _⟩ := rows_map (f := fun b : UInt8 => [U8 (b.toNat : Int)]) (Q := fun _ => True) rows (fun r hm => by
    obtain ⟨x, rfl, h0, h1⟩ := typ_u8s (hr r hm)
    refine ⟨UInt8.ofNat x.toNat, ?_, trivial⟩
    have : (UInt8.ofNat x.toNat).toNat = x.toNat := by
      rw [UInt8.toNat_ofNat']; omega
    rw [this]
    have : ((x.toNat : Nat) : Int) = x := by omega
    rw [this])
  exact ⟨l, by rw [c5], by rw [maxLen_eq] at hl; simpa using hl⟩
theorem typ_do {ss : List SV} (h : Typ Try.prog 5 57 ss) : ∃ o : DoD, ss = o.row ∧ o.wf ∧ o.x.length ≤ 9223372036854775807 := by
  rw [e57] at h
  simp only [splits] at h
  obtain ⟨_, _, rfl, h0, _, _, rfl, h1, _, _, rfl, h2, _, _, rfl, h3, _, _, rfl, h4, rfl⟩ := h
  obtain ⟨k, rfl, a0, a1⟩ := typ_u8s h0
  obtain ⟨f, rfl, b0, b1⟩ := typ_u8s h1
  obtain ⟨t, rfl, d0, d1⟩ := typ_u8s h2
  obtain ⟨n, rfl, g0, g1⟩ := typ_u8s h3
  obtain ⟨x, rfl, hx⟩ := typ_bys h4
  exact ⟨⟨k, f, t, n, x⟩, rfl, ⟨⟨a0, a1⟩, ⟨b0, b1⟩, ⟨d0, d1⟩, g0, g1⟩, hx⟩
theorem typ_dos {s : SV} (ht : TypV Try.prog 6 54 s) : ∃ l : List DoD, s = SL 5 (oR l) ∧ l.length ≤ 9223372036854775807 ∧ ∀ o ∈ l, o.wf := by
  obtain ⟨ss, h1, _, h3⟩ := ht
  have h3 := h3 (by simp [isAggT])
  subst h3
  unfold Typ at h1
  rw [u54] at h1
  obtain ⟨rows, e, hl, hr⟩ := h1
  obtain ⟨l, rfl, hq⟩ := rows_map (f := DoD.row) (Q := fun o => o.wf) rows (fun r hm => by
    obtain ⟨o, e, hw, _⟩ := typ_do (hr r hm)
    exact ⟨o, e, hw⟩)
  refine ⟨l, ?_, by rw [maxLen_eq] at hl; simpa using hl, hq⟩
  rw [c57] at e
  simpa using e
theorem typ_u8 {s : SV} (ht : TypV Try.prog 6 5 s) : ∃ x : Int, s = U8 x ∧ 0 ≤ x ∧ x ≤ 255 := by
  obtain ⟨ss, h1, _, h3⟩ := ht
  have h3 := h3 (by simp [isAggT])
  subst h3
  obtain ⟨x, e, hx⟩ := typ_u8s h1
  exact ⟨x, by simpa using e, hx⟩
theorem typ_u16 {s : SV} (ht : TypV Try.prog 6 55 s) : ∃ x : Int, s = .val (.int .u16 x) ∧ 0 ≤ x ∧ x ≤ 65535 := by
  obtain ⟨ss, h1, _, h3⟩ := ht
  have h3 := h3 (by simp [isAggT])
  subst h3
  simp only [Typ, u55] at h1
  obtain ⟨x, e, hx⟩ := h1
  refine ⟨x, by simpa using e, ?_⟩
  simp [Lit.wf, IntKind.min, IntKind.max, IntKind.signed, IntKind.bits] at hx
  omega
end Go.Proofs.Ytohmeljljamigaa.Dsk

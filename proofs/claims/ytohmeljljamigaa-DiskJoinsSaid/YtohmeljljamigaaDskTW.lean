/- The readings of the arguments of layer 10's laws, with the sizes that a machine has room for. -/
import Derived.Test.YtohmeljljamigaaPxM
import Derived.Test.YtohmeljljamigaaDsk10
import Derived.ProofKit
namespace Go.Proofs.Ytohmeljljamigaa.Dsk
open Go Go.Px Go.Proofs Go.ChangeShapes Go.WideShapes Go.ChangeAt Go.RowKit
set_option maxRecDepth 100000

theorem ownW : ownKnob Try.prog.godebug = none := by kernel_rfl
theorem laidOutW : laidOutB Try.prog = true := by kernel_rfl
theorem w3 : Try.prog.underlying 3 = some (.int .i64) := by kernel_rfl
theorem w4 : Try.prog.underlying 4 = some .bool := by kernel_rfl
theorem w5 : Try.prog.underlying 5 = some (.int .u8) := by kernel_rfl
theorem w9 : Try.prog.underlying 9 = some .string := by kernel_rfl
theorem w22 : Try.prog.underlying 22 = some (.slice 42) := by kernel_rfl
theorem w25 : Try.prog.underlying 25 = some (.slice 5) := by kernel_rfl
theorem w26 : Try.prog.underlying 26 = some (.slice 3) := by kernel_rfl
theorem c3 : Try.prog.cellsOf 3 = 1 := by kernel_rfl
theorem c5W : Try.prog.cellsOf 5 = 1 := by kernel_rfl
theorem c42 : Try.prog.cellsOf 42 = 3 := by kernel_rfl
theorem b3 : bndL Try.prog 3 = 140737488351232 := by kernel_rfl
theorem b5 : bndL Try.prog 5 = 140737488351232 := by kernel_rfl
theorem b42 : bndL Try.prog 42 = 140737488351232 := by kernel_rfl
theorem e24W (ss : List SV) : TypW Try.prog 6 24 ss = splits (fun f s => TypW Try.prog 5 f s) [22, 3, 3, 4] ss := by kernel_rfl
theorem e42W (ss : List SV) : TypW Try.prog 4 42 ss = splits (fun f s => TypW Try.prog 3 f s) [9, 25, 25] ss := by kernel_rfl

theorem rows_mapW {α : Type} {f : α → List SV} {Q : α → Prop} : ∀ (rows : List (List SV)), (∀ r ∈ rows, ∃ a, r = f a ∧ Q a) → ∃ l : List α, rows = l.map f ∧ ∀ a ∈ l, Q a
  | [], _ => ⟨[], rfl, by simp⟩
  | r :: rows, h => by
    obtain ⟨a, rfl, ha⟩ := h r (by simp)
    obtain ⟨l, rfl, hl⟩ := rows_mapW rows (fun r hr => h r (by simp [hr]))
    refine ⟨a :: l, rfl, fun b hb => ?_⟩
    rcases List.mem_cons.1 hb with rfl | hb
    · exact ha
    · exact hl b hb
theorem typ_u8sW {n : Nat} {ss : List SV} (h : TypW Try.prog (n + 1) 5 ss) : ∃ x : Int, ss = [U8 x] ∧ 0 ≤ x ∧ x ≤ 255 := by
  simp only [TypW, w5] at h
  obtain ⟨x, h, hw⟩ := h
  exact ⟨x, h, wf_u8 hw⟩
theorem typ_i64sW {n : Nat} {ss : List SV} (h : TypW Try.prog (n + 1) 3 ss) : ∃ x : Int, ss = [I x] ∧ -9223372036854775808 ≤ x ∧ x ≤ 9223372036854775807 := by
  simp only [TypW, w3] at h
  obtain ⟨x, h, hw⟩ := h
  exact ⟨x, h, wf_i64 hw⟩
theorem typ_bysW {n : Nat} {ss : List SV} (h : TypW Try.prog (n + 2) 25 ss) : ∃ l : List UInt8, ss = [SL 1 (uR l)] ∧ l.length ≤ 140737488351232 := by
  unfold TypW at h
  rw [w25] at h
  obtain ⟨rows, rfl, hl, hr⟩ := h
  obtain ⟨l, rfl, _⟩ := rows_mapW (f := fun b : UInt8 => [U8 (b.toNat : Int)]) (Q := fun _ => True) rows (fun r hm => by
    obtain ⟨x, rfl, h0, h1⟩ := typ_u8sW (hr r hm)
    refine ⟨UInt8.ofNat x.toNat, ?_, trivial⟩
    have : (UInt8.ofNat x.toNat).toNat = x.toNat := by
      rw [UInt8.toNat_ofNat']; omega
    rw [this]
    have : ((x.toNat : Nat) : Int) = x := by omega
    rw [this])
  exact ⟨l, by rw [c5W], by rw [b5] at hl; simpa using hl⟩
theorem typ_intsW {n : Nat} {ss : List SV} (h : TypW Try.prog (n + 2) 26 ss) : ∃ l : List Int, ss = [SL 1 (l.map fun k => [I k])] ∧ l.length ≤ 140737488351232 := by
  unfold TypW at h
  rw [w26] at h
  obtain ⟨rows, rfl, hl, hr⟩ := h
  obtain ⟨l, rfl, _⟩ := rows_mapW (f := fun k : Int => [I k]) (Q := fun _ => True) rows (fun r hm => by
    obtain ⟨x, rfl, _⟩ := typ_i64sW (hr r hm)
    exact ⟨x, rfl, trivial⟩)
  exact ⟨l, by rw [c3], by rw [b3] at hl; simpa using hl⟩
theorem typ_filW {ss : List SV} (h : TypW Try.prog 4 42 ss) : ∃ f : FiD, ss = f.row ∧ f.su.length ≤ 140737488351232 ∧ f.lo.length ≤ 140737488351232 := by
  rw [e42W] at h
  simp only [splits] at h
  obtain ⟨_, _, rfl, h0, _, _, rfl, h1, _, _, rfl, h2, rfl⟩ := h
  simp only [TypW, w9] at h0
  obtain ⟨s, rfl, _⟩ := h0
  obtain ⟨a, rfl, ha⟩ := typ_bysW h1
  obtain ⟨b, rfl, hb⟩ := typ_bysW h2
  exact ⟨⟨s, a, b⟩, rfl, ha, hb⟩
theorem typ_dskW {s : SV} (ht : TypVW Try.prog 6 24 s) : ∃ d : DiD, s = d.sv ∧ DiD.Sz d := by
  obtain ⟨ss, h1, h2, _⟩ := ht
  have h2 := h2 (by kernel_rfl)
  rw [e24W] at h1
  simp only [splits] at h1
  obtain ⟨z0, _, rfl, h0, _, _, rfl, h3, _, _, rfl, h4, _, _, rfl, h5, rfl⟩ := h1
  have h0 : ∃ rows, z0 = [SV.slice (Try.prog.cellsOf 42) rows 0] ∧ rows.length ≤ bndL Try.prog 42 ∧ ∀ r ∈ rows, TypW Try.prog 4 42 r := by
    unfold TypW at h0; rw [w22] at h0; exact h0
  obtain ⟨rows, rfl, hl, hr⟩ := h0
  obtain ⟨fs, rfl, hq⟩ := rows_mapW (f := FiD.row) (Q := fun f => f.su.length ≤ 140737488351232 ∧ f.lo.length ≤ 140737488351232) rows (fun r hm => by
    obtain ⟨f, e, ha, hb⟩ := typ_filW (hr r hm)
    exact ⟨f, e, ha, hb⟩)
  obtain ⟨rm, rfl, _⟩ := typ_i64sW h3
  obtain ⟨st, rfl, _, hst⟩ := typ_i64sW h4
  simp only [TypW, w4] at h5
  obtain ⟨b, rfl⟩ := h5
  refine ⟨⟨fs, rm, st, b⟩, by rw [h2, c42]; rfl, by rw [b42] at hl; simpa using hl, hq, hst⟩
theorem typ_byW {s : SV} (ht : TypVW Try.prog 6 25 s) : ∃ l : List UInt8, s = SL 1 (uR l) ∧ l.length ≤ 140737488351232 := by
  obtain ⟨ss, h1, _, h3⟩ := ht
  have h3 := h3 (by simp [isAggT])
  subst h3
  obtain ⟨l, e, hl⟩ := typ_bysW h1
  exact ⟨l, by simpa using e, hl⟩
theorem typ_intW {s : SV} (ht : TypVW Try.prog 6 26 s) : ∃ l : List Int, s = SL 1 (l.map fun k => [I k]) ∧ l.length ≤ 140737488351232 := by
  obtain ⟨ss, h1, _, h3⟩ := ht
  have h3 := h3 (by simp [isAggT])
  subst h3
  obtain ⟨l, e, hl⟩ := typ_intsW h1
  exact ⟨l, by simpa using e, hl⟩
theorem typ_strW {s : SV} (ht : TypVW Try.prog 6 9 s) : ∃ b : ByteArray, s = S b := by
  obtain ⟨ss, h1, _, h3⟩ := ht
  have h3 := h3 (by simp [isAggT])
  subst h3
  simp only [TypW, w9] at h1
  obtain ⟨b, e, _⟩ := h1
  exact ⟨b, by simpa using e⟩
theorem typ_i64W {s : SV} (ht : TypVW Try.prog 6 3 s) : ∃ x : Int, s = I x := by
  obtain ⟨ss, h1, _, h3⟩ := ht
  have h3 := h3 (by simp [isAggT])
  subst h3
  obtain ⟨x, e, _⟩ := typ_i64sW h1
  exact ⟨x, by simpa using e⟩
end Go.Proofs.Ytohmeljljamigaa.Dsk

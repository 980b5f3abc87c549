/- The readings of the arguments of layer 15's laws. -/
import Derived.Test.YtohmeljljamigaaSt13
import Derived.ProofKit
namespace Go.Proofs.Ytohmeljljamigaa.St
open Go Go.Px Go.Proofs Go.ChangeShapes Go.WideShapes Go.ChangeAt Go.RowKit Go.Proofs.Ytohmeljljamigaa.Cmp
set_option maxRecDepth 100000

theorem own : ownKnob Try.prog.godebug = none := by kernel_rfl
theorem laidOut : laidOutB Try.prog = true := by kernel_rfl
theorem u2 : Try.prog.underlying 2 = some (.int .i64) := by kernel_rfl
theorem u3 : Try.prog.underlying 3 = some (.int .i64) := by kernel_rfl
theorem u4 : Try.prog.underlying 4 = some .bool := by kernel_rfl
theorem u5 : Try.prog.underlying 5 = some (.int .u8) := by kernel_rfl
theorem u9 : Try.prog.underlying 9 = some .string := by kernel_rfl
theorem u62 : Try.prog.underlying 62 = some (.slice 93) := by kernel_rfl
theorem u65 : Try.prog.underlying 65 = some (.slice 73) := by kernel_rfl
theorem c73 : Try.prog.cellsOf 73 = 7 := by kernel_rfl
theorem c93 : Try.prog.cellsOf 93 = 21 := by kernel_rfl
theorem e85 (ss : List SV) : Typ Try.prog 6 85 ss = splits (fun f s => Typ Try.prog 5 f s) [2, 2, 83] ss := by kernel_rfl
theorem e83 (ss : List SV) : Typ Try.prog 5 83 ss = ∃ rows, ss = [.slice (Try.prog.cellsOf 158) rows 0] ∧ rows.length ≤ maxLen ∧ ∀ r ∈ rows, Typ Try.prog 4 158 r := by kernel_rfl
theorem eCell (ss : List SV) : Typ Try.prog 4 158 ss = splits (fun f s => Typ Try.prog 3 f s) [2, 2] ss := by kernel_rfl
theorem e88 (ss : List SV) : Typ Try.prog 6 88 ss = splits (fun f s => Typ Try.prog 5 f s) [86, 2] ss := by kernel_rfl
theorem e86 (ss : List SV) : Typ Try.prog 5 86 ss = splits (fun f s => Typ Try.prog 4 f s) [2, 2, 2, 2, 2, 2, 2, 2, 2] ss := by kernel_rfl
theorem e90 (ss : List SV) : Typ Try.prog 6 90 ss = splits (fun f s => Typ Try.prog 5 f s) [2, 2] ss := by kernel_rfl
theorem e91 (ss : List SV) : Typ Try.prog 6 91 ss = splits (fun f s => Typ Try.prog 5 f s) [2, 2, 2] ss := by kernel_rfl
theorem e93 (ss : List SV) : Typ Try.prog 7 93 ss = splits (fun f s => Typ Try.prog 6 f s) [9, 3, 2, 85, 88, 90, 91] ss := by kernel_rfl
theorem e64 (ss : List SV) : Typ Try.prog 9 64 ss = splits (fun f s => Typ Try.prog 8 f s) [62, 2, 2] ss := by kernel_rfl
theorem e73 (n : Nat) (ss : List SV) : Typ Try.prog (n + 1) 73 ss = splits (fun f s => Typ Try.prog n f s) [2, 2, 3, 9, 2, 2, 2] ss := by kernel_rfl
theorem maxLen_eq : maxLen = 9223372036854775807 := rfl

theorem rows_cR : ∀ (rows : List (List SV)), (∀ r ∈ rows, ∃ a b : Int, r = [I a, I b]) → ∃ l : List (Int × Int), rows = cR l
  | [], _ => ⟨[], rfl⟩
  | r :: rows, h => by
    obtain ⟨a, b, rfl⟩ := h r (by simp)
    obtain ⟨l, rfl⟩ := rows_cR rows (fun r hr => h r (by simp [hr]))
    exact ⟨(a, b) :: l, rfl⟩
theorem rows_map {α : Type} {f : α → List SV} : ∀ (rows : List (List SV)), (∀ r ∈ rows, ∃ a, r = f a) → ∃ l : List α, rows = l.map f
  | [], _ => ⟨[], rfl⟩
  | r :: rows, h => by
    obtain ⟨a, rfl⟩ := h r (by simp)
    obtain ⟨l, rfl⟩ := rows_map rows (fun r hr => h r (by simp [hr]))
    exact ⟨a :: l, rfl⟩

theorem int_of {n : Nat} {ss : List SV} (h : Typ Try.prog (n + 1) 2 ss) : ∃ x : Int, ss = [I x] := by
  simp only [Typ, u2] at h
  obtain ⟨x, h, _⟩ := h
  exact ⟨x, h⟩

theorem typ_comp {ss : List SV} (h1 : Typ Try.prog 7 93 ss) : ∃ c : CoD, ss = c.row := by
  rw [e93] at h1
  simp only [splits, e85, e88, e86, e90, e91] at h1
  obtain ⟨_, _, rfl, t0, _, _, rfl, t1, _, _, rfl, t2, _, _, rfl, ⟨_, _, rfl, w0, _, _, rfl, w1, _, _, rfl, w2, rfl⟩, _, _, rfl, ⟨_, _, rfl, ⟨_, _, rfl, p0, _, _, rfl, p1, _, _, rfl, p2, _, _, rfl, p3, _, _, rfl, p4, _, _, rfl, p5, _, _, rfl, p6, _, _, rfl, p7, _, _, rfl, p8, rfl⟩, _, _, rfl, ps, rfl⟩, _, _, rfl, ⟨_, _, rfl, b0, _, _, rfl, b1, rfl⟩, _, _, rfl, ⟨_, _, rfl, c0, _, _, rfl, c1, _, _, rfl, c2, rfl⟩, rfl⟩ := h1
  simp only [Typ, u9] at t0
  simp only [Typ, u3] at t1
  rw [e83] at w2
  obtain ⟨nm, rfl, _⟩ := t0
  obtain ⟨ro, rfl, _⟩ := t1
  obtain ⟨mo, rfl⟩ := int_of t2
  obtain ⟨wd, rfl⟩ := int_of w0
  obtain ⟨sl, rfl⟩ := int_of w1
  obtain ⟨rows, rfl, _, hr⟩ := w2
  obtain ⟨h0, rfl⟩ := int_of p0
  obtain ⟨g1, rfl⟩ := int_of p1
  obtain ⟨h2', rfl⟩ := int_of p2
  obtain ⟨h3, rfl⟩ := int_of p3
  obtain ⟨h4, rfl⟩ := int_of p4
  obtain ⟨h5, rfl⟩ := int_of p5
  obtain ⟨h6, rfl⟩ := int_of p6
  obtain ⟨h7, rfl⟩ := int_of p7
  obtain ⟨h8, rfl⟩ := int_of p8
  obtain ⟨hs, rfl⟩ := int_of ps
  obtain ⟨rm, rfl⟩ := int_of b0
  obtain ⟨ha, rfl⟩ := int_of b1
  obtain ⟨k0, rfl⟩ := int_of c0
  obtain ⟨k1, rfl⟩ := int_of c1
  obtain ⟨k2, rfl⟩ := int_of c2
  have hz : Try.prog.cellsOf 158 = 2 := by kernel_rfl
  obtain ⟨l, rfl⟩ := rows_cR rows (fun r hm => by
    have := hr r hm
    rw [eCell] at this
    simp only [splits] at this
    obtain ⟨_, _, rfl, q0, _, _, rfl, q1, rfl⟩ := this
    obtain ⟨a, rfl⟩ := int_of q0
    obtain ⟨b, rfl⟩ := int_of q1
    exact ⟨a, b, rfl⟩)
  exact ⟨⟨nm, ro, mo, wd, sl, l, h0, g1, h2', h3, h4, h5, h6, h7, h8, hs, rm, ha, k0, k1, k2⟩, by rw [hz]; rfl⟩

theorem typ_st {s : SV} (ht : TypV Try.prog 9 64 s) : ∃ d : StD, s = d.sv ∧ d.cs.length ≤ 9223372036854775807 := by
  obtain ⟨ss, h1, h2, _⟩ := ht
  have h2 := h2 (by kernel_rfl)
  rw [e64] at h1
  simp only [splits] at h1
  obtain ⟨z0, _, rfl, h0, _, _, rfl, h3, _, _, rfl, h4, rfl⟩ := h1
  have h0 : ∃ rows, z0 = [SV.slice (Try.prog.cellsOf 93) rows 0] ∧ rows.length ≤ maxLen ∧ ∀ r ∈ rows, Typ Try.prog 7 93 r := by
    unfold Typ at h0; rw [u62] at h0; exact h0
  obtain ⟨rows, rfl, hl, hr⟩ := h0
  obtain ⟨cs, rfl⟩ := rows_map (f := CoD.row) rows (fun r hm => typ_comp (hr r hm))
  obtain ⟨q, rfl⟩ := int_of h3
  obtain ⟨t, rfl⟩ := int_of h4
  exact ⟨⟨cs, q, t⟩, by rw [h2, c93]; rfl, by rw [maxLen_eq] at hl; simpa using hl⟩

theorem typ_evr {n : Nat} {ss : List SV} (h1 : Typ Try.prog (n + 2) 73 ss) : ∃ e : EvD, ss = e.row := by
  rw [e73] at h1
  simp only [splits, Typ, u2, u3, u9] at h1
  obtain ⟨_, _, rfl, ⟨sq, rfl, _⟩, _, _, rfl, ⟨a, rfl, _⟩, _, _, rfl, ⟨k, rfl, _⟩, _, _, rfl, ⟨c, rfl, _⟩, _, _, rfl, ⟨x, rfl, _⟩, _, _, rfl, ⟨y, rfl, _⟩, _, _, rfl, ⟨z, rfl, _⟩, rfl⟩ := h1
  exact ⟨⟨sq, a, k, c, x, y, z⟩, rfl⟩

theorem typ_ev {s : SV} (ht : TypV Try.prog 9 73 s) : ∃ e : EvD, s = e.sv := by
  obtain ⟨ss, h1, h2, _⟩ := ht
  have h2 := h2 (by kernel_rfl)
  obtain ⟨e, rfl⟩ := typ_evr h1
  exact ⟨e, h2⟩

theorem typ_evs {s : SV} (ht : TypV Try.prog 9 65 s) : ∃ l : List EvD, s = SL 7 (eR l) ∧ l.length ≤ 9223372036854775807 := by
  obtain ⟨ss, h1, _, h3⟩ := ht
  have h3 := h3 (by simp [isAggT])
  subst h3
  unfold Typ at h1
  rw [u65] at h1
  obtain ⟨rows, e, hl, hr⟩ := h1
  obtain ⟨l, rfl⟩ := rows_map (f := EvD.row) rows (fun r hm => typ_evr (hr r hm))
  refine ⟨l, ?_, by rw [maxLen_eq] at hl; simpa using hl⟩
  rw [c73] at e
  simpa using e

theorem typ_str {s : SV} (ht : TypV Try.prog 9 9 s) : ∃ b : ByteArray, s = S b := by
  obtain ⟨ss, h1, _, h3⟩ := ht
  have h3 := h3 (by simp [isAggT])
  subst h3
  simp only [Typ, u9] at h1
  obtain ⟨b, e, _⟩ := h1
  simp at e
  exact ⟨b, e⟩

theorem typ_u8 {s : SV} (ht : TypV Try.prog 9 5 s) : ∃ x : Int, s = U8 x ∧ 0 ≤ x ∧ x ≤ 255 := by
  obtain ⟨ss, h1, _, h3⟩ := ht
  have h3 := h3 (by simp [isAggT])
  subst h3
  simp only [Typ, u5] at h1
  obtain ⟨x, e, hw⟩ := h1
  exact ⟨x, by simpa using e, wf_u8 hw⟩
end Go.Proofs.Ytohmeljljamigaa.St

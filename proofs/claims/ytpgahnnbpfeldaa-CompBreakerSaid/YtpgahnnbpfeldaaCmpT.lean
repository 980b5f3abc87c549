/- The readings of the arguments of layer 14's laws. -/
import Derived.Test.YtpgahnnbpfeldaaCmp11
import Derived.ProofKit
namespace Go.Proofs.Ytpgahnnbpfeldaa.Cmp
open Go Go.Px Go.Proofs Go.ChangeShapes Go.WideShapes Go.ChangeAt Go.RowKit
set_option maxRecDepth 100000

theorem own : ownKnob Try.prog.godebug = none := by kernel_rfl
theorem laidOut : laidOutB Try.prog = true := by kernel_rfl
theorem u2 : Try.prog.underlying 2 = some (.int .i64) := by kernel_rfl
theorem u3 : Try.prog.underlying 3 = some (.int .i64) := by kernel_rfl
theorem u4 : Try.prog.underlying 4 = some .bool := by kernel_rfl
theorem u9 : Try.prog.underlying 9 = some .string := by kernel_rfl
theorem u69 : Try.prog.underlying 69 = some (.slice 98) := by kernel_rfl
theorem e71 (ss : List SV) : Typ Try.prog 5 71 ss = splits (fun f s => Typ Try.prog 4 f s) [2, 2, 69] ss := by kernel_rfl
theorem e69 (ss : List SV) : Typ Try.prog 4 69 ss = ∃ rows, ss = [.slice (Try.prog.cellsOf 98) rows 0] ∧ rows.length ≤ maxLen ∧ ∀ r ∈ rows, Typ Try.prog 3 98 r := by kernel_rfl
theorem e98 (ss : List SV) : Typ Try.prog 3 98 ss = splits (fun f s => Typ Try.prog 2 f s) [2, 2] ss := by kernel_rfl
theorem e74 (ss : List SV) : Typ Try.prog 5 74 ss = splits (fun f s => Typ Try.prog 4 f s) [72, 2] ss := by kernel_rfl
theorem e72 (ss : List SV) : Typ Try.prog 4 72 ss = splits (fun f s => Typ Try.prog 3 f s) [2, 2, 2, 2, 2, 2, 2, 2, 2] ss := by kernel_rfl
theorem e76 (ss : List SV) : Typ Try.prog 5 76 ss = splits (fun f s => Typ Try.prog 4 f s) [2, 2] ss := by kernel_rfl
theorem e77 (ss : List SV) : Typ Try.prog 5 77 ss = splits (fun f s => Typ Try.prog 4 f s) [2, 2, 2] ss := by kernel_rfl

theorem rows_cR : ∀ (rows : List (List SV)), (∀ r ∈ rows, ∃ a b : Int, r = [I a, I b]) → ∃ l : List (Int × Int), rows = cR l
  | [], _ => ⟨[], rfl⟩
  | r :: rows, h => by
    obtain ⟨a, b, rfl⟩ := h r (by simp)
    obtain ⟨l, rfl⟩ := rows_cR rows (fun r hr => h r (by simp [hr]))
    exact ⟨(a, b) :: l, rfl⟩

theorem int_of {n : Nat} {ss : List SV} (h : Typ Try.prog (n + 1) 2 ss) : ∃ x : Int, ss = [I x] := by
  simp only [Typ, u2] at h
  obtain ⟨x, h, _⟩ := h
  exact ⟨x, h⟩

theorem typ_cmp {s : SV} (ht : TypV Try.prog 6 79 s) : ∃ c : CoD, s = c.sv := by
  obtain ⟨ss, h1, h2, _⟩ := ht
  have h2 := h2 (by kernel_rfl)
  have h1 : splits (fun f s => Typ Try.prog 5 f s) [9, 3, 2, 71, 74, 76, 77] ss := by
    have e : Typ Try.prog 6 79 ss = splits (fun f s => Typ Try.prog 5 f s) [9, 3, 2, 71, 74, 76, 77] ss := by kernel_rfl
    rw [← e]; exact h1
  simp only [splits, e71, e74, e72, e76, e77] at h1
  obtain ⟨_, _, rfl, t0, _, _, rfl, t1, _, _, rfl, t2, _, _, rfl, ⟨_, _, rfl, w0, _, _, rfl, w1, _, _, rfl, w2, rfl⟩, _, _, rfl, ⟨_, _, rfl, ⟨_, _, rfl, p0, _, _, rfl, p1, _, _, rfl, p2, _, _, rfl, p3, _, _, rfl, p4, _, _, rfl, p5, _, _, rfl, p6, _, _, rfl, p7, _, _, rfl, p8, rfl⟩, _, _, rfl, ps, rfl⟩, _, _, rfl, ⟨_, _, rfl, b0, _, _, rfl, b1, rfl⟩, _, _, rfl, ⟨_, _, rfl, c0, _, _, rfl, c1, _, _, rfl, c2, rfl⟩, rfl⟩ := h1
  simp only [Typ, u9] at t0
  simp only [Typ, u3] at t1
  rw [e69] at w2
  obtain ⟨nm, rfl, _⟩ := t0
  obtain ⟨ro, rfl, _⟩ := t1
  obtain ⟨mo, rfl⟩ := int_of t2
  obtain ⟨wd, rfl⟩ := int_of w0
  obtain ⟨sl, rfl⟩ := int_of w1
  obtain ⟨rows, rfl, _, hr⟩ := w2
  obtain ⟨h0, rfl⟩ := int_of p0
  obtain ⟨g1, rfl⟩ := int_of p1
  obtain ⟨h2', rfl⟩ := int_of p2
  obtain ⟨h3, rfl⟩ := int_of p3
  obtain ⟨h4, rfl⟩ := int_of p4
  obtain ⟨h5, rfl⟩ := int_of p5
  obtain ⟨h6, rfl⟩ := int_of p6
  obtain ⟨h7, rfl⟩ := int_of p7
  obtain ⟨h8, rfl⟩ := int_of p8
  obtain ⟨hs, rfl⟩ := int_of ps
  obtain ⟨rm, rfl⟩ := int_of b0
  obtain ⟨ha, rfl⟩ := int_of b1
  obtain ⟨k0, rfl⟩ := int_of c0
  obtain ⟨k1, rfl⟩ := int_of c1
  obtain ⟨k2, rfl⟩ := int_of c2
  have hz : Try.prog.cellsOf 98 = 2 := by kernel_rfl
  obtain ⟨l, rfl⟩ := rows_cR rows (fun r hm => by
    have := hr r hm
    rw [e98] at this
    simp only [splits] at this
    obtain ⟨_, _, rfl, q0, _, _, rfl, q1, rfl⟩ := this
    obtain ⟨a, rfl⟩ := int_of q0
    obtain ⟨b, rfl⟩ := int_of q1
    exact ⟨a, b, rfl⟩)
  refine ⟨⟨nm, ro, mo, wd, sl, l, h0, g1, h2', h3, h4, h5, h6, h7, h8, hs, rm, ha, k0, k1, k2⟩, ?_⟩
  rw [h2, hz]
  rfl

theorem typ_ev {s : SV} (ht : TypV Try.prog 6 23 s) : ∃ e : EvD, s = e.sv := by
  obtain ⟨ss, h1, h2, _⟩ := ht
  have h2 := h2 (by kernel_rfl)
  have h1 : splits (fun f s => Typ Try.prog 5 f s) [2, 2, 3, 9, 2, 2, 2] ss := by
    have e : Typ Try.prog 6 23 ss = splits (fun f s => Typ Try.prog 5 f s) [2, 2, 3, 9, 2, 2, 2] ss := by kernel_rfl
    rw [← e]; exact h1
  simp only [splits, Typ, u2, u3, u9] at h1
  obtain ⟨_, _, rfl, ⟨sq, rfl, _⟩, _, _, rfl, ⟨a, rfl, _⟩, _, _, rfl, ⟨k, rfl, _⟩, _, _, rfl, ⟨c, rfl, _⟩, _, _, rfl, ⟨x, rfl, _⟩, _, _, rfl, ⟨y, rfl, _⟩, _, _, rfl, ⟨z, rfl, _⟩, rfl⟩ := h1
  exact ⟨⟨sq, a, k, c, x, y, z⟩, h2⟩
theorem typ_str {s : SV} (ht : TypV Try.prog 6 9 s) : ∃ b : ByteArray, s = S b := by
  obtain ⟨ss, h1, _, h3⟩ := ht
  have h3 := h3 (by simp [isAggT])
  subst h3
  simp only [Typ, u9] at h1
  obtain ⟨b, e, _⟩ := h1
  simp at e
  exact ⟨b, e⟩
theorem typ_i3 {s : SV} (ht : TypV Try.prog 6 3 s) : ∃ x : Int, s = I x := by
  obtain ⟨ss, h1, _, h3⟩ := ht
  have h3 := h3 (by simp [isAggT])
  subst h3
  simp only [Typ, u3] at h1
  obtain ⟨b, e, _⟩ := h1
  simp at e
  exact ⟨b, e⟩
theorem typ_i2 {s : SV} (ht : TypV Try.prog 6 2 s) : ∃ x : Int, s = I x := by
  obtain ⟨ss, h1, _, h3⟩ := ht
  have h3 := h3 (by simp [isAggT])
  subst h3
  simp only [Typ, u2] at h1
  obtain ⟨b, e, _⟩ := h1
  simp at e
  exact ⟨b, e⟩

end Go.Proofs.Ytpgahnnbpfeldaa.Cmp

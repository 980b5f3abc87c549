/- The readings of the arguments of layer 15's laws. -/
import Derived.Test.YtknnooannohflaaGreatDoorStA
import Derived.ProofKit
namespace Go.Proofs.YtknnooannohflaaGreatDoor.St
open Go Go.Px Go.Proofs Go.ChangeShapes Go.WideShapes Go.ChangeAt Go.RowKit Cmp
set_option maxRecDepth 100000

theorem u2 : Tryz.prog.underlying 2 = some (.int .i64) := by kernel_rfl
theorem u3 : Tryz.prog.underlying 3 = some (.int .i64) := by kernel_rfl
theorem u4 : Tryz.prog.underlying 4 = some .bool := by kernel_rfl
theorem u9 : Tryz.prog.underlying 9 = some .string := by kernel_rfl
theorem u62 : Tryz.prog.underlying 40 = some (.slice 62) := by kernel_rfl
theorem c93 : Tryz.prog.cellsOf 62 = 21 := by kernel_rfl
theorem e85 (ss : List SV) : Typ Tryz.prog 6 54 ss = splits (fun f s => Typ Tryz.prog 5 f s) [2, 2, 52] ss := by kernel_rfl
theorem e83 (ss : List SV) : Typ Tryz.prog 5 52 ss = ∃ rows, ss = [.slice (Tryz.prog.cellsOf 162) rows 0] ∧ rows.length ≤ maxLen ∧ ∀ r ∈ rows, Typ Tryz.prog 4 162 r := by kernel_rfl
theorem eCell (ss : List SV) : Typ Tryz.prog 4 162 ss = splits (fun f s => Typ Tryz.prog 3 f s) [2, 2] ss := by kernel_rfl
theorem e88 (ss : List SV) : Typ Tryz.prog 6 57 ss = splits (fun f s => Typ Tryz.prog 5 f s) [55, 2] ss := by kernel_rfl
theorem e86 (ss : List SV) : Typ Tryz.prog 5 55 ss = splits (fun f s => Typ Tryz.prog 4 f s) [2, 2, 2, 2, 2, 2, 2, 2, 2] ss := by kernel_rfl
theorem e90 (ss : List SV) : Typ Tryz.prog 6 59 ss = splits (fun f s => Typ Tryz.prog 5 f s) [2, 2] ss := by kernel_rfl
theorem e91 (ss : List SV) : Typ Tryz.prog 6 60 ss = splits (fun f s => Typ Tryz.prog 5 f s) [2, 2, 2] ss := by kernel_rfl
theorem e93 (ss : List SV) : Typ Tryz.prog 7 62 ss = splits (fun f s => Typ Tryz.prog 6 f s) [9, 3, 2, 54, 57, 59, 60] ss := by kernel_rfl
theorem e64 (ss : List SV) : Typ Tryz.prog 9 42 ss = splits (fun f s => Typ Tryz.prog 8 f s) [40, 2, 2] ss := by kernel_rfl
theorem maxLen_eq : maxLen = 9223372036854775807 := rfl

theorem rows_cR : ∀ (rows : List (List SV)), (∀ r ∈ rows, ∃ a b : Int, r = [I a, I b]) → ∃ l : List (Int × Int), rows = cR l
 | [], _ => ⟨[], rfl⟩
 | r :: rows, h => by
  obtain ⟨a, b, rfl⟩ := h r (by simp)
  obtain ⟨l, rfl⟩ := rows_cR rows (fun r hr => h r (by simp [hr]))
  exact ⟨(a, b) :: l, rfl⟩
theorem rows_map {α : Type} {f : α → List SV} : ∀ (rows : List (List SV)), (∀ r ∈ rows, ∃ a, r = f a) → ∃ l : List α, rows = l.map f
 | [], _ => ⟨[], rfl⟩
 | r :: rows, h => by
  obtain ⟨a, rfl⟩ := h r (by simp)
  obtain ⟨l, rfl⟩ := rows_map rows (fun r hr => h r (by simp [hr]))
  exact ⟨a :: l, rfl⟩

theorem int_of {n : Nat} {ss : List SV} (h : Typ Tryz.prog (n + 1) 2 ss) : ∃ x : Int, ss = [I x] := by
 simp only [Typ, u2] at h
 obtain ⟨x, h, _⟩ := h
 exact ⟨x, h⟩

theorem typ_comp {ss : List SV} (h1 : Typ Tryz.prog 7 62 ss) : ∃ c : CoD, ss = c.row := by
 rw [e93] at h1
 simp only [splits, e85, e88, e86, e90, e91] at h1
 obtain ⟨_, _, rfl, t0, _, _, rfl, t1, _, _, rfl, t2, _, _, rfl, ⟨_, _, rfl, w0, _, _, rfl, w1, _, _, rfl, w2, rfl⟩, _, _, rfl, ⟨_, _, rfl, ⟨_, _, rfl, p0, _, _, rfl, p1, _, _, rfl, p2, _, _, rfl, p3, _, _, rfl, p4, _, _, rfl, p5, _, _, rfl, p6, _, _, rfl, p7, _, _, rfl, p8, rfl⟩, _, _, rfl, ps, rfl⟩, _, _, rfl, ⟨_, _, rfl, b0, _, _, rfl, b1, rfl⟩, _, _, rfl, ⟨_, _, rfl, c0, _, _, rfl, c1, _, _, rfl, c2, rfl⟩, rfl⟩ := h1
 simp only [Typ, u9] at t0
 simp only [Typ, u3] at t1
 rw [e83] at w2
 obtain ⟨nm, rfl, _⟩ := t0
 obtain ⟨ro, rfl, _⟩ := t1
 obtain ⟨mo, rfl⟩ := int_of t2
 obtain ⟨wd, rfl⟩ := int_of w0
 obtain ⟨sl, rfl⟩ := int_of w1
 obtain ⟨rows, rfl, _, hr⟩ := w2
 obtain ⟨h0, rfl⟩ := int_of p0
 obtain ⟨g1, rfl⟩ := int_of p1
 obtain ⟨h2', rfl⟩ := int_of p2
 obtain ⟨h3, rfl⟩ := int_of p3
 obtain ⟨h4, rfl⟩ := int_of p4
 obtain ⟨h5, rfl⟩ := int_of p5
 obtain ⟨h6, rfl⟩ := int_of p6
 obtain ⟨h7, rfl⟩ := int_of p7
 obtain ⟨h8, rfl⟩ := int_of p8
 obtain ⟨hs, rfl⟩ := int_of ps
 obtain ⟨rm, rfl⟩ := int_of b0
 obtain ⟨ha, rfl⟩ := int_of b1
 obtain ⟨k0, rfl⟩ := int_of c0
 obtain ⟨k1, rfl⟩ := int_of c1
 obtain ⟨k2, rfl⟩ := int_of c2
 have hz : Tryz.prog.cellsOf 162 = 2 := by kernel_rfl
 obtain ⟨l, rfl⟩ := rows_cR rows (fun r hm => by
  have := hr r hm
  rw [eCell] at this
  simp only [splits] at this
  obtain ⟨_, _, rfl, q0, _, _, rfl, q1, rfl⟩ := this
  obtain ⟨a, rfl⟩ := int_of q0
  obtain ⟨b, rfl⟩ := int_of q1
  exact ⟨a, b, rfl⟩)
 exact ⟨⟨nm, ro, mo, wd, sl, l, h0, g1, h2', h3, h4, h5, h6, h7, h8, hs, rm, ha, k0, k1, k2⟩, by rw [hz]; rfl⟩

theorem typ_st {s : SV} (ht : TypV Tryz.prog 9 42 s) : ∃ d : StD, s = d.sv ∧ d.cs.length ≤ 9223372036854775807 := by
 obtain ⟨ss, h1, h2, _⟩ := ht
 have h2 := h2 (by kernel_rfl)
 rw [e64] at h1
 simp only [splits] at h1
 obtain ⟨z0, _, rfl, h0, _, _, rfl, h3, _, _, rfl, h4, rfl⟩ := h1
 have h0 : ∃ rows, z0 = [SV.slice (Tryz.prog.cellsOf 62) rows 0] ∧ rows.length ≤ maxLen ∧ ∀ r ∈ rows, Typ Tryz.prog 7 62 r := by
  unfold Typ at h0; rw [u62] at h0; exact h0
 obtain ⟨rows, rfl, hl, hr⟩ := h0
 obtain ⟨cs, rfl⟩ := rows_map (f := CoD.row) rows (fun r hm => typ_comp (hr r hm))
 obtain ⟨q, rfl⟩ := int_of h3
 obtain ⟨t, rfl⟩ := int_of h4
 exact ⟨⟨cs, q, t⟩, by rw [h2, c93]; rfl, by rw [maxLen_eq] at hl; simpa using hl⟩

end Go.Proofs.YtknnooannohflaaGreatDoor.St

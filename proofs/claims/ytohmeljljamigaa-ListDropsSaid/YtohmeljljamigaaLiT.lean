/- The readings of the arguments of layer 18's laws. -/
import Derived.Test.YtohmeljljamigaaStT
import Derived.Test.YtohmeljljamigaaLi19
namespace Go.Proofs.Ytohmeljljamigaa.Li
open Go Go.Px Go.Proofs Go.ChangeShapes Go.WideShapes Go.ChangeAt Go.RowKit Go.Proofs.Ytohmeljljamigaa.Cmp Go.Proofs.Ytohmeljljamigaa.St
set_option maxRecDepth 100000

theorem e100 (ss : List SV) : Typ Try.prog 10 100 ss = splits (fun f s => Typ Try.prog 9 f s) [65, 64, 2, 4] ss := by kernel_rfl
theorem int_b {n : Nat} {ss : List SV} (h : Typ Try.prog (n + 1) 2 ss) : ∃ x : Int, ss = [I x] ∧ -9223372036854775808 ≤ x ∧ x ≤ 9223372036854775807 := by
  simp only [Typ, St.u2] at h
  obtain ⟨x, h, hw⟩ := h
  exact ⟨x, h, wf_i64 hw⟩
theorem st_of {ss : List SV} (h1 : Typ Try.prog 9 64 ss) : ∃ d : StD, ss = [SL 21 (coR d.cs), I d.q, I d.t] ∧ d.cs.length ≤ 9223372036854775807 := by
  rw [e64] at h1
  simp only [splits] at h1
  obtain ⟨z0, _, rfl, h0, _, _, rfl, h3, _, _, rfl, h4, rfl⟩ := h1
  have h0 : ∃ rows, z0 = [SV.slice (Try.prog.cellsOf 93) rows 0] ∧ rows.length ≤ maxLen ∧ ∀ r ∈ rows, Typ Try.prog 7 93 r := by
    unfold Typ at h0; rw [u62] at h0; exact h0
  obtain ⟨rows, rfl, hl, hr⟩ := h0
  obtain ⟨cs, rfl⟩ := St.rows_map (f := CoD.row) rows (fun r hm => typ_comp (hr r hm))
  obtain ⟨q, rfl⟩ := St.int_of h3
  obtain ⟨t, rfl⟩ := St.int_of h4
  exact ⟨⟨cs, q, t⟩, by rw [c93]; rfl, by rw [St.maxLen_eq] at hl; simpa using hl⟩
theorem evs_of {ss : List SV} (h1 : Typ Try.prog 9 65 ss) : ∃ l : List EvD, ss = [SL 7 (eR l)] ∧ l.length ≤ 9223372036854775807 := by
  unfold Typ at h1
  rw [u65] at h1
  obtain ⟨rows, e, hl, hr⟩ := h1
  obtain ⟨l, rfl⟩ := St.rows_map (f := EvD.row) rows (fun r hm => typ_evr (hr r hm))
  refine ⟨l, ?_, by rw [St.maxLen_eq] at hl; simpa using hl⟩
  rw [c73] at e
  exact e
theorem typ_li {s : SV} (ht : TypV Try.prog 10 100 s) : ∃ l : LiD, s = l.sv ∧ l.ev.length ≤ 9223372036854775807 ∧ l.s.cs.length ≤ 9223372036854775807 ∧ l.fr ≤ 9223372036854775807 := by
  obtain ⟨ss, h1, h2, _⟩ := ht
  have h2 := h2 (by kernel_rfl)
  rw [e100] at h1
  simp only [splits] at h1
  obtain ⟨_, _, rfl, h0, _, _, rfl, h3, _, _, rfl, h4, _, _, rfl, h5, rfl⟩ := h1
  obtain ⟨ev, rfl, hl⟩ := evs_of h0
  obtain ⟨d, rfl, hd⟩ := st_of h3
  obtain ⟨fr, rfl, _, hf⟩ := int_b h4
  simp only [Typ, St.u4] at h5
  obtain ⟨b, rfl⟩ := h5
  exact ⟨⟨ev, d, fr, b⟩, h2, hl, hd, hf⟩
theorem typ_ev10 {s : SV} (ht : TypV Try.prog 10 73 s) : ∃ e : EvD, s = e.sv := by
  obtain ⟨ss, h1, h2, _⟩ := ht
  have h2 := h2 (by kernel_rfl)
  obtain ⟨e, rfl⟩ := typ_evr h1
  exact ⟨e, h2⟩
theorem typ_i2 {s : SV} (ht : TypV Try.prog 10 2 s) : ∃ x : Int, s = I x ∧ -9223372036854775808 ≤ x ∧ x ≤ 9223372036854775807 := by
  obtain ⟨ss, h1, _, h3⟩ := ht
  have h3 := h3 (by simp [isAggT])
  subst h3
  obtain ⟨x, e, h⟩ := int_b h1
  exact ⟨x, by simpa using e, h⟩
end Go.Proofs.Ytohmeljljamigaa.Li

/- Layer 10: DiskJoins over plain data. -/
import Derived.Test.YtohmeljljamigaaDsk9
namespace Go.Proofs.Ytohmeljljamigaa.Dsk
open Go Go.Px Go.Proofs Go.Proofs.Ytohmeljljamigaa.Ins
set_option maxRecDepth 100000
set_option linter.unusedVariables false

theorem ok_res {d : DiD} {p : DiD × Int} (h : d.ok) (h1 : d.P → p.1.P) (h2 : ¬ d.P → p.1 = d) (h3 : p.1.st ≤ 9223372036854775807) : p.1.ok := by
  by_cases hp : d.P
  · exact (h1 hp).ok h3
  · rw [h2 hp]; exact h

theorem law3_fn (d : DiD) (hz : DiD.Sz d) (s t : ByteArray) (x y : List UInt8) (ks : List Int) (hx : x.length ≤ 140737488351232) (hy : y.length ≤ 140737488351232) (hk : ks.length ≤ 140737488351232) :
    Ct Try.prog 3 {} [d.sv, S s, S t, SL 1 (uR x), SL 1 (uR y), SL 1 (ks.map fun k => [I k])] (fun r => r = [B true]) := by
  refine law3_nf _ _ _ _ _ _ _ _ _ _ (Cl.of lawake_fn ⟨_, rfl, ifB_intro (fun h => by simp at h) (fun _ => Cl.of (qshort_fn d (Sz.ok hz) (by have := hz.1; omega)) ⟨_, rfl, ifB_intro (fun _ => rfl) (fun h => ?_)⟩)⟩)
  simp at h
  obtain ⟨⟨⟨⟨⟨⟨⟨hlen, hu, hnm⟩, hs⟩, ht⟩, hx'⟩, hy'⟩, hk'⟩, hst⟩ := h
  have hok := Sz.ok hz hlen
  have sm : ∀ p : DiD × Int, (d.P → p.1.P) → (¬ d.P → p.1 = d) → p.1.fs.length ≤ 9223372036854775806 := fun p h1 h2 => by have := op_len h1 h2 (by omega); omega
  have A := append_joins hst s x y
  have cE : ∀ K : List SV → Prop, K [(opAppend d s (x ++ y)).1.sv, I (opAppend d s (x ++ y)).2] → Cl Try.prog 18 sP [d.sv, S s, SL 1 (rapp (rapp [] (uR x)) (uR y))] K := fun K hK => by
    rw [show rapp (rapp [] (uR x)) (uR y) = uR (x ++ y) by simp [rapp]]
    exact Cl.of (dappend_fn d hok s (x ++ y) (by simp; omega)) hK
  refine ⟨fun e f r st b => e = (opAppend d s (x ++ y)).2 ∧ f = fR (opAppend d s (x ++ y)).1.fs ∧ r = (opAppend d s (x ++ y)).1.rm ∧ st = (opAppend d s (x ++ y)).1.st ∧ b = (opAppend d s (x ++ y)).1.dn, fun _ _ _ _ _ => 0, ?_, ?_⟩
  · have hA : lsum (rlen ([] : List (List SV))) (rlen (uR x)) ≤ 2147483648 := by simp; omega
    have hB : lsum (rlen (rapp [] (uR x))) (rlen (uR y)) ≤ 2147483648 := by simp [rapp]; omega
    repeat' apply And.intro
    all_goals first | exact hA | exact hB | exact cE _ ⟨_, _, _, _, _, rfl, rfl, rfl, rfl, rfl, rfl, rfl⟩
  rintro _ _ _ _ _ ⟨rfl, rfl, rfl, rfl, rfl⟩
  have okq : (opAppend d s x).1.ok := ok_res hok opAppend_P (fun h => append_no h s x) (by have := opAppend_st (d := d) (s := s) (x := x); omega)
  refine Cl.of (dappend_fn d hok s x (by omega)) ⟨_, _, _, _, _, rfl, Cl.of (dappend_fn _ okq s y (by omega)) ⟨_, _, _, _, _, rfl, fun b => b = false, fun _ => 0, ?_, ?_⟩⟩
  · refine ifB_intro (fun h => ?_) (fun h => ?_)
    · have h : (opAppend d s (x ++ y)).2 = 0 := by simpa using h
      obtain ⟨a1, a2, a3⟩ := A.1 h
      refine ifB_intro (fun k => by simp [a1, a2] at k) (fun _ => Cl.of (qsame_fn _ _ (sm _ opAppend_P (fun h => append_no h s (x ++ y)))) ⟨_, rfl, rfl, ?_⟩)
      rw [decide_eq_true a3]
      simp [h]
    · have h : (opAppend d s (x ++ y)).2 ≠ 0 := by simpa using h
      have := A.2 h
      refine ⟨rfl, ?_⟩
      simp at this ⊢
      exact fun _ => this
  · rintro _ rfl
    refine ifB_intro (fun h => by cases h) (fun _ => Cl.of (dread_fn d hok t) ⟨_, _, rfl, Cl.of (drename_fn d hok s t) ⟨_, _, _, _, _, rfl, ?_⟩⟩)
    have okw : (opWake d ks (-1)).1.ok := ok_res hok opWake_P (fun h => wake_no h ks (-1)) (by
      unfold opWake; split
      · show d.st ≤ _; omega
      · show (-1 : Int) ≤ _; omega)
    have wk : ∀ K : List SV → Prop, K [B true] → Cl Try.prog 22 sP [d.sv, SL 1 (ks.map fun k => [I k]), I (-1 : Int)] (fun rs => ∃ l x17 x18 b9 x19, rs = [.agg [SL 3 l, I x17, I x18, B b9], I x19] ∧
        Cl Try.prog 22 sP [.agg [SL 3 l, I x17, I x18, B b9], SL 1 (ks.map fun k => [I k]), I (-1 : Int)] (fun rs9 => ∃ l7 x20 x21 b10 x22, rs9 = [.agg [SL 3 l7, I x20, I x21, B b10], I x22] ∧
          ifB (ieq x19 x22) (Cl Try.prog 19 sP [.agg [SL 3 l, I x17, I x18, B b9], .agg [SL 3 l7, I x20, I x21, B b10]] (fun rs10 => ∃ b11, rs10 = [B b11] ∧ K [B b11])) (K [B false]))) := fun K hK => by
      refine Cl.of (dwake_fn d hok ks (-1) (by omega)) ⟨_, _, _, _, _, rfl, Cl.of (dwake_fn _ okw ks (-1) (by omega)) ⟨_, _, _, _, _, rfl, ?_⟩⟩
      have e := wake_twice d ks
      rw [e]
      refine ifB_intro (fun _ => Cl.of (qsame_fn _ _ (sm _ opWake_P (fun h => wake_no h ks (-1)))) ⟨_, rfl, ?_⟩) (fun k => by simp at k)
      simpa using hK
    refine ifB_intro (fun h => ?_) (fun _ => wk (fun r => r = [B true]) rfl)
    have h : (opRename d s t).2 = 0 ∧ (opRead d t).2 = 14 := by simpa using h
    have back := rename_back hst s t h.1 h.2
    have okr : (opRename d s t).1.ok := ok_res hok opRename_P (fun h => rename_no h s t) (by have := opRename_st (d := d) (a := s) (b := t); omega)
    refine Cl.of (drename_fn _ okr t s) ⟨_, _, _, _, _, rfl, ?_⟩
    rw [back]
    refine ifB_intro (fun k => by simp at k) (fun _ => Cl.of (qsame_fn d d (by omega)) ⟨_, rfl, ifB_intro (fun k => by simp at k) (fun _ => wk (fun r => r = [B true]) rfl)⟩)
end Go.Proofs.Ytohmeljljamigaa.Dsk

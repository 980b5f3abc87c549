/- Layer 10: DiskRight and DiskJoins over plain data. -/
import Derived.Test.YtohmeljljamigaaDsk7
import Derived.Test.YtohmeljljamigaaDd3
namespace Go.Proofs.Ytohmeljljamigaa.Dsk
open Go Go.Px Go.Proofs Go.Proofs.Ytohmeljljamigaa.Ins
set_option maxRecDepth 100000
set_option linter.unusedVariables false

/-- As much as a machine has room for. -/
def DiD.Sz (d : DiD) : Prop := d.fs.length ≤ 140737488351232 ∧ (∀ f ∈ d.fs, f.su.length ≤ 140737488351232 ∧ f.lo.length ≤ 140737488351232) ∧ d.st ≤ 9223372036854775807
theorem Sz.ok {d : DiD} (h : DiD.Sz d) (hl : d.fs.length ≤ 70) : d.ok := by
  obtain ⟨_, h2, h3⟩ := h
  have : ∀ l : List FiD, (∀ f ∈ l, f.su.length ≤ 140737488351232 ∧ f.lo.length ≤ 140737488351232) → usedL l ≤ l.length * 281474976702464 := by
    intro l
    induction l with
    | nil => intro _; simp [usedL]
    | cons a l ih =>
      intro h
      have := ih (fun f hf => h f (by simp [hf]))
      have := h a (by simp)
      rw [usedL_cons]
      simp only [FiD.len, List.length_cons]; omega
  have := this d.fs h2
  exact ⟨by omega, by omega, h3⟩

theorem law4_fn (d : DiD) (hz : DiD.Sz d) (s t : ByteArray) (x : List UInt8) (n : Int) (ks : List Int) (st : Int) (hx : x.length ≤ 140737488351232) (hk : ks.length ≤ 140737488351232) :
    Ct Try.prog 4 {} [d.sv, S s, S t, SL 1 (uR x), I n, SL 1 (ks.map fun k => [I k]), I st] (fun r => r = [B true]) := by
  refine law4_nf _ _ _ _ _ _ _ _ _ _ _ (Cl.of lawake_fn ⟨_, rfl, ifB_intro (fun h => by simp at h) (fun _ => Cl.of (qshort_fn d (Sz.ok hz) (by have := hz.1; omega)) ⟨_, rfl, ifB_intro (fun _ => rfl) (fun h => ?_)⟩)⟩)
  simp at h
  obtain ⟨⟨⟨⟨⟨hlen, hu, hnm⟩, hs⟩, ht⟩, hx'⟩, hk'⟩ := h
  have hok := Sz.ok hz hlen
  have sm : ∀ p : DiD × Int, (d.P → p.1.P) → (¬ d.P → p.1 = d) → p.1.fs.length ≤ 9223372036854775806 := fun p h1 h2 => by have := op_len h1 h2 (by omega); omega
  refine Cl.of (dlist_fn d (by omega)) ⟨_, rfl, Cl.of (dright_fn d hok) ⟨_, rfl, Cl.of (qright_fn d hok) ⟨_, rfl, ifB_intro (fun h => by simp at h) (fun _ => Cl.of (dused_fn d hok) ⟨_, rfl, Cl.of (qused_fn d hok) ⟨_, rfl, ifB_intro (fun h => by simp at h) (fun _ => ?_)⟩⟩)⟩⟩⟩
  refine ⟨fun _ y => ∃ i : Nat, y = i ∧ i ≤ d.fs.length, fun _ y => d.fs.length - y.toNat, ⟨0, rfl, by omega⟩, ?_⟩
  rintro _ _ ⟨i, rfl, hi⟩
  refine ifB_intro (fun h => ?_) (fun h => ?_)
  · have h : i < d.fs.length := by simpa using h
    have hg : rget (nR (d.fs.map FiD.nm)) (i : Nat) = [S d.fs[i].nm] := by
      rw [rget_map (fun s : ByteArray => [S s]) (d.fs.map FiD.nm) i (by simpa using h)]
      simp
    refine ⟨⟨by omega, by simpa using h⟩, _, hg, ⟨by omega, by simpa using h⟩, _, _, _, rget_map _ _ _ h, ?_⟩
    rw [sne_d, waddN _ (by omega)]
    exact ifB_intro (fun k => by simp at k) (fun _ => ⟨rfl, ⟨i + 1, rfl, by omega⟩, stepL (by simp; omega)⟩)
  · refine Cl.of (dread_fn d hok s) ⟨_, _, rfl, Cl.of (qread_fn d hok s) ⟨_, _, rfl, ifB_intro (fun k => by simp at k) (fun _ => ⟨isBytes_u _, isBytes_u _, ?_⟩)⟩⟩
    rw [sne_u]
    refine ifB_intro (fun k => by simp at k) (fun _ => ?_)
    refine Cl.of (dcreate_fn d hok s) ⟨_, _, _, _, _, rfl, Cl.of (qcreate_fn d hok s) ⟨_, _, _, _, _, rfl, ifB_intro (fun k => by simp at k) (fun _ => Cl.of (qsame_fn _ _ (sm _ opCreate_P (fun h => create_no h s))) ⟨_, rfl, ifB_intro (fun k => by simp at k) (fun _ => ?_)⟩)⟩⟩
    refine Cl.of (dappend_fn d hok s x (by omega)) ⟨_, _, _, _, _, rfl, Cl.of (qappend_fn d hok s x (by omega)) ⟨_, _, _, _, _, rfl, ifB_intro (fun k => by simp at k) (fun _ => Cl.of (qsame_fn _ _ (sm _ opAppend_P (fun h => append_no h s x))) ⟨_, rfl, ifB_intro (fun k => by simp at k) (fun _ => ?_)⟩)⟩⟩
    refine Cl.of (dsync_fn d hok s) ⟨_, _, _, _, _, rfl, Cl.of (qsync_fn d hok s) ⟨_, _, _, _, _, rfl, ifB_intro (fun k => by simp at k) (fun _ => Cl.of (qsame_fn _ _ (sm _ opSync_P (fun h => sync_no h s))) ⟨_, rfl, ifB_intro (fun k => by simp at k) (fun _ => ?_)⟩)⟩⟩
    refine Cl.of (drename_fn d hok s t) ⟨_, _, _, _, _, rfl, Cl.of (qrename_fn d hok s t) ⟨_, _, _, _, _, rfl, ifB_intro (fun k => by simp at k) (fun _ => Cl.of (qsame_fn _ _ (sm _ opRename_P (fun h => rename_no h s t))) ⟨_, rfl, ifB_intro (fun k => by simp at k) (fun _ => ?_)⟩)⟩⟩
    refine Cl.of (dremove_fn d hok s) ⟨_, _, _, _, _, rfl, Cl.of (qremove_fn d hok s) ⟨_, _, _, _, _, rfl, ifB_intro (fun k => by simp at k) (fun _ => Cl.of (qsame_fn _ _ (sm _ opRemove_P (fun h => remove_no h s))) ⟨_, rfl, ifB_intro (fun k => by simp at k) (fun _ => ?_)⟩)⟩⟩
    refine Cl.of (dcut_fn d hok s n) ⟨_, _, _, _, _, rfl, Cl.of (qcut_fn d hok s n) ⟨_, _, _, _, _, rfl, ifB_intro (fun k => by simp at k) (fun _ => Cl.of (qsame_fn _ _ (sm _ opCut_P (fun h => cut_no h s n))) ⟨_, rfl, ifB_intro (fun k => by simp at k) (fun _ => ?_)⟩)⟩⟩
    refine Cl.of (dwake_fn d hok ks st (by omega)) ⟨_, _, _, _, _, rfl, Cl.of (qwake_fn d hok ks st (by omega)) ⟨_, _, _, _, _, rfl, ?_⟩⟩
    refine ifB_intro (fun _ => Cl.of (qsame_fn _ _ (sm _ opWake_P (fun h => wake_no h ks st))) ⟨_, rfl, by simp⟩) (fun k => by simp at k)
end Go.Proofs.Ytohmeljljamigaa.Dsk

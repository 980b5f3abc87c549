/- Layer 10: the fixed answer, one operation of a law. -/
import Derived.Test.YtohmeljljamigaaDskLN
import Derived.Test.YtohmeljljamigaaDsk6
import Derived.Test.YtohmeljljamigaaDd2
namespace Go.Proofs.Ytohmeljljamigaa.Dsk
open Go Go.Px Go.Proofs Go.Proofs.Ytohmeljljamigaa.Ins
set_option maxRecDepth 100000
set_option linter.unusedVariables false

def nb : ByteArray := ⟨#[98]⟩
def hello : List UInt8 := [104, 101, 108, 108, 111]
def wide : List UInt8 := [119, 105, 100, 101]
def aw1 : DiD × Int := opCreate ⟨[], 20, -1, false⟩ nb
def aw2 : DiD × Int := opAppend aw1.1 nb hello
def aw3 : DiD × Int := opSync aw2.1 nb
def aw4 : DiD × Int := opAppend aw3.1 nb wide
def aw5 : DiD × Int := opWake aw4.1 [3] 7
def aw6 : List UInt8 × Int := opRead aw5.1 nb
def aw7 : DiD × Int := opAppend aw5.1 nb (List.replicate 13 0)

theorem ok_of {d : DiD} (h : usedL d.fs ≤ 1000 ∧ d.fs.length ≤ 1000 ∧ d.st ≤ 1000) : d.ok := ⟨by omega, by omega, by omega⟩
theorem ok0 : (⟨[], 20, -1, false⟩ : DiD).ok := ok_of (by decide)
theorem ok1 : aw1.1.ok := ok_of (by decide +kernel)
theorem ok2 : aw2.1.ok := ok_of (by decide +kernel)
theorem ok3 : aw3.1.ok := ok_of (by decide +kernel)
theorem ok4 : aw4.1.ok := ok_of (by decide +kernel)
theorem ok5 : aw5.1.ok := ok_of (by decide +kernel)

theorem lawake_fn : Ct Try.prog 16 {} [] (fun r => r = [B true]) := by
  refine lawake_nf _ ?_
  refine Cl.of (dcreate_fn _ ok0 nb) ⟨_, _, _, _, _, rfl, by decide, ?_⟩
  refine Cl.of (dappend_fn _ ok1 nb hello (by decide)) ⟨_, _, _, _, _, rfl, ?_⟩
  refine Cl.of (dsync_fn _ ok2 nb) ⟨_, _, _, _, _, rfl, by decide, ?_⟩
  refine Cl.of (dappend_fn _ ok3 nb wide (by decide)) ⟨_, _, _, _, _, rfl, ?_⟩
  refine Cl.of (dwake_fn _ ok4 [3] 7 (by decide)) ⟨_, _, _, _, _, rfl, ?_⟩
  refine Cl.of (dread_fn _ ok5 nb) ⟨_, _, rfl, fun x => x = 13, fun _ => 0, ?_, ?_⟩
  · have h7 : ∀ K : List SV → Prop, K [aw7.1.sv, I aw7.2] → Cl Try.prog 18 sP [aw5.1.sv, S (ByteArray.mk (Array.mk [98])), SL 1 (rrep 13 [U8 (0 : Int)])] K := fun K hK =>
      Cl.of (dappend_fn _ ok5 nb (List.replicate 13 0) (by decide)) hK
    have e7 : aw7.2 = 13 := by decide +kernel
    have r : (0 : Int) ≤ 13 ∧ (13 : Int) ≤ 13 ∧ (13 : Int) ≤ 2147483648 := by decide
    exact ⟨⟨r, h7 _ ⟨_, _, _, _, _, rfl, rfl, e7⟩, h7 _ ⟨_, _, _, _, _, rfl, rfl, e7⟩⟩, r, h7 _ ⟨_, _, _, _, _, rfl, rfl, e7⟩⟩
  · rintro _ rfl
    have e1 : aw1.2 = 0 := by decide +kernel
    have e2 : aw2.2 = 0 := by decide +kernel
    have e3 : aw3.2 = 0 := by decide +kernel
    have e4 : aw4.2 = 0 := by decide +kernel
    have e5 : aw5.2 = 0 := by decide +kernel
    have e6 : aw6.2 = 0 := by decide +kernel
    have e61 : aw6.1 = [104, 101, 108, 108, 111, 119, 105, 100] := by decide +kernel
    have s5 : aw5.1.st = 7 := by decide +kernel
    have u5 : usedL aw5.1.fs = 8 := by decide +kernel
    have p5 : aw5.1.P := by decide +kernel
    have l5 : aw5.1.fs.length = 1 := by decide +kernel
    change ifB (bpick (bpick (bpick (bpick (bpick (bpick (ieq aw1.2 0) (ieq aw2.2 0) false) (ieq aw3.2 0) false) (ieq aw4.2 0) false) (ieq aw5.2 0) false) (ieq aw6.2 0) false) (ieq 13 13) false) _ _
    rw [e1, e2, e3, e4, e5, e6]
    refine ifB_intro (fun _ => ⟨isBytes_u _, ?_⟩) (fun h => by simp at h)
    change ifB (bpick (seq (bstr (uR aw6.1)) _) (ieq aw5.1.st 7) false) _ _
    rw [e61, bstr_u, seq_d, s5]
    refine ifB_intro (fun _ => Cl.of (dused_fn _ ok5) ⟨_, rfl, ?_⟩) (fun h => by simp at h)
    change ifB (ieq (usedL aw5.1.fs : Nat) 8) _ _
    rw [u5]
    refine ifB_intro (fun _ => Cl.of (dright_fn _ ok5) ⟨_, rfl, ?_⟩) (fun h => by simp at h)
    change ifB (decide aw5.1.P) _ _
    refine ifB_intro (fun _ => Cl.of (dlist_fn aw5.1 (by rw [l5]; decide)) ⟨_, rfl, ?_⟩) (fun h => by simp [p5] at h)
    change [B (ieq (rlen (nR (aw5.1.fs.map FiD.nm))) 1)] = _
    simp [l5]

theorem lname_fn (n : Int) (h0 : 0 ≤ n) : Ct Try.prog 41 {} [U8 n] (fun r => r = [S (nm4 n)]) := by
  have hm : wrem n 4 = ((n.toNat % 4 : Nat) : Int) := by
    unfold wrem; rw [Int.tmod_eq_emod_of_nonneg h0]; omega
  have hlt : n.toNat % 4 < nms4.length := Nat.mod_lt _ (by decide)
  refine lname_nf _ _ ?_
  rw [hm]
  have hr : (0 : Int) ≤ ((n.toNat % 4 : Nat) : Int) ∧ ((n.toNat % 4 : Nat) : Int) < rlen (nR nms4) := ⟨by omega, by simp [nms4]; omega⟩
  have hg : rget (nms4.map fun s : ByteArray => [S s]) ((n.toNat % 4 : Nat) : Int) = [S nms4[n.toNat % 4]] := rget_map _ nms4 _ hlt
  refine ⟨by decide, hr, hr, nms4[n.toNat % 4], hg, ?_⟩
  simp [nm4, hlt]

theorem lone_fn (d : DiD) (h : d.ok) (o : DoD) (hw : o.wf) (hx : o.x.length ≤ 9223372036854775807) : Ct Try.prog 40 {} [d.sv, .agg o.row] (fun r => r = [(oneD d o).1.sv, I (oneD d o).2]) := by
  obtain ⟨⟨k0, k1⟩, ⟨f0, _⟩, ⟨t0, _⟩, n0, n1⟩ := hw
  have hk : wrem o.k 6 = o.k % 6 := by unfold wrem; rw [Int.tmod_eq_emod_of_nonneg k0]
  have hn : wcv .i64 o.n = o.n := by unfold wcv; exact wrap_i64 (by omega) (by omega)
  refine lone_nf _ _ _ _ _ _ _ _ _ _ ⟨by decide, ?_⟩
  rw [hk, hn]
  unfold oneD
  refine ifB_intro (fun h1 => ?_) (fun h1 => ?_)
  · have h1 : o.k % 6 = 0 := by simpa using h1
    rw [if_pos h1]
    exact Cl.of (lname_fn _ f0) ⟨_, rfl, Cl.of (dcreate_fn d h _) ⟨_, _, _, _, _, rfl, rfl⟩⟩
  · have h1 : ¬ o.k % 6 = 0 := by simpa using h1
    rw [if_neg h1]
    refine ifB_intro (fun h2 => ?_) (fun h2 => ?_)
    · have h2 : o.k % 6 = 1 := by simpa using h2
      rw [if_pos h2]
      exact Cl.of (lname_fn _ f0) ⟨_, rfl, Cl.of (dappend_fn d h _ _ hx) ⟨_, _, _, _, _, rfl, rfl⟩⟩
    · have h2 : ¬ o.k % 6 = 1 := by simpa using h2
      rw [if_neg h2]
      refine ifB_intro (fun h3 => ?_) (fun h3 => ?_)
      · have h3 : o.k % 6 = 2 := by simpa using h3
        rw [if_pos h3]
        exact Cl.of (lname_fn _ f0) ⟨_, rfl, Cl.of (dsync_fn d h _) ⟨_, _, _, _, _, rfl, rfl⟩⟩
      · have h3 : ¬ o.k % 6 = 2 := by simpa using h3
        rw [if_neg h3]
        refine ifB_intro (fun h4 => ?_) (fun h4 => ?_)
        · have h4 : o.k % 6 = 3 := by simpa using h4
          rw [if_pos h4]
          exact Cl.of (lname_fn _ f0) ⟨_, rfl, Cl.of (lname_fn _ t0) ⟨_, rfl, Cl.of (drename_fn d h _ _) ⟨_, _, _, _, _, rfl, rfl⟩⟩⟩
        · have h4 : ¬ o.k % 6 = 3 := by simpa using h4
          rw [if_neg h4]
          refine ifB_intro (fun h5 => ?_) (fun h5 => ?_)
          · have h5 : o.k % 6 = 4 := by simpa using h5
            rw [if_pos h5]
            exact Cl.of (lname_fn _ f0) ⟨_, rfl, Cl.of (dremove_fn d h _) ⟨_, _, _, _, _, rfl, rfl⟩⟩
          · have h5 : ¬ o.k % 6 = 4 := by simpa using h5
            rw [if_neg h5]
            exact Cl.of (lname_fn _ f0) ⟨_, rfl, Cl.of (dcut_fn d h _ _) ⟨_, _, _, _, _, rfl, rfl⟩⟩
end Go.Proofs.Ytohmeljljamigaa.Dsk

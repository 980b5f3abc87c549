/- Layer 10: operations out of the laws, with and without a bound of steps. -/
import Derived.Test.YtohmeljljamigaaGen
namespace Go.Px
set_option linter.unusedVariables false
set_option linter.unusedSectionVars false

def nms4 : List ByteArray := [⟨#[97]⟩, ⟨#[98]⟩, ⟨#[99]⟩, ⟨#[100]⟩]
def nm4 (n : Int) : ByteArray := nms4.getD (n.toNat % 4) ByteArray.empty
structure DoD where
  k : Int
  f : Int
  t : Int
  n : Int
  x : List UInt8
abbrev DoD.row (o : DoD) : List SV := [U8 o.k, U8 o.f, U8 o.t, U8 o.n, SL 1 (uR o.x)]
abbrev oR (l : List DoD) : List (List SV) := l.map DoD.row
def DoD.wf (o : DoD) : Prop := (0 ≤ o.k ∧ o.k ≤ 255) ∧ (0 ≤ o.f ∧ o.f ≤ 255) ∧ (0 ≤ o.t ∧ o.t ≤ 255) ∧ (0 ≤ o.n ∧ o.n ≤ 255)
def oneD (d : DiD) (o : DoD) : DiD × Int :=
  if o.k % 6 = 0 then opCreate d (nm4 o.f) else if o.k % 6 = 1 then opAppend d (nm4 o.f) o.x else if o.k % 6 = 2 then opSync d (nm4 o.f)
  else if o.k % 6 = 3 then opRename d (nm4 o.f) (nm4 o.t) else if o.k % 6 = 4 then opRemove d (nm4 o.f) else opCut d (nm4 o.f) o.n

theorem oneD_P {d : DiD} {o : DoD} (h : d.P) : (oneD d o).1.P := by
  unfold oneD
  repeat' split
  · exact opCreate_P h
  · exact opAppend_P h
  · exact opSync_P h
  · exact opRename_P h
  · exact opRemove_P h
  · exact opCut_P h
theorem oneD_st {d : DiD} {o : DoD} : (oneD d o).1.st ≤ d.st := by
  unfold oneD
  repeat' split
  · exact opCreate_st
  · exact opAppend_st
  · exact opSync_st
  · exact opRename_st
  · exact opRemove_st
  · exact opCut_st

/-- What is done to a disk without a bound, and to the same one with so many steps left. -/
def Steps (F H : DiD) (m : Int) (p q : DiD × Int) : Prop :=
  (p.2 ≠ 0 → p.1 = F ∧ q = (H, p.2)) ∧ (p.2 = 0 → (p.1.st = -1 ∧ p.1.dn = false) ∧ (m = 0 → q.2 = 16 ∧ q.1.dn = true) ∧ (m ≠ 0 → q = ({ p.1 with st := m - 1 }, 0)))

section
variable {F : DiD} (hs : F.st = -1) (hd : F.dn = false) {m : Int} (hm : 0 ≤ m)
include hs hd hm
theorem er_held (a b : ByteArray) : ({ F with st := m } : DiD).er a b = F.er a b := by
  unfold DiD.er
  have : ({ F with st := m } : DiD).P ↔ F.P := by
    unfold DiD.P
    simp only [hs]
    constructor
    · rintro ⟨⟨a, b, c, _⟩, e⟩; exact ⟨⟨a, b, c, by omega⟩, e⟩
    · rintro ⟨⟨a, b, c, _⟩, e⟩; exact ⟨⟨a, b, c, by omega⟩, e⟩
  by_cases h : F.P
  · rw [if_pos h, if_pos (this.2 h)]
  · rw [if_neg h, if_neg (fun k => h (this.1 k))]
theorem steps_err {k : Int} (hk : k ≠ 0) : Steps F { F with st := m } m (F, k) ({ F with st := m }, k) :=
  ⟨fun _ => ⟨rfl, rfl⟩, fun h => absurd h hk⟩
theorem steps_perf (fs : List FiD) : Steps F { F with st := m } m (F.perf fs) (({ F with st := m } : DiD).perf fs) := by
  have e1 : F.perf fs = ({ F with fs := fs }, 0) := by
    unfold DiD.perf DiD.tick
    rw [if_neg (by omega)]
    have : ¬ 0 < F.st := by omega
    rw [if_neg this]
  rw [e1]
  refine ⟨fun h => absurd rfl h, fun _ => ⟨⟨hs, hd⟩, fun h0 => ?_, fun h0 => ?_⟩⟩
  · unfold DiD.perf; rw [if_pos h0]; exact ⟨rfl, rfl⟩
  · unfold DiD.perf DiD.tick
    rw [if_neg h0]
    have : 0 < m := by omega
    simp [this]
theorem one_steps (o : DoD) : Steps F { F with st := m } m (oneD F o) (oneD { F with st := m } o) := by
  have hg : ∀ s, ({ F with st := m } : DiD).get s = F.get s := fun s => rfl
  unfold oneD
  split
  · unfold opCreate
    rw [er_held hs hd hm, hg]
    split
    · rename_i h; exact steps_err hs hd hm h
    · split
      · exact steps_err hs hd hm (by decide)
      · split
        · exact steps_err hs hd hm (by decide)
        · exact steps_perf hs hd hm _
  split
  · unfold opAppend
    rw [er_held hs hd hm, hg]
    split
    · rename_i h; exact steps_err hs hd hm h
    · split
      · exact steps_err hs hd hm (by decide)
      · rename_i f _
        by_cases hx : F.rm - usedL F.fs < o.x.length
        · rw [if_pos hx, if_pos hx]; exact steps_err hs hd hm (by decide)
        · rw [if_neg hx, if_neg hx, if_neg (by omega)]
          have ht : ¬ 0 < F.st := by omega
          refine ⟨fun h => absurd rfl h, fun _ => ⟨⟨by simp [DiD.tick, hs], hd⟩, fun h0 => ?_, fun h0 => ?_⟩⟩
          · rw [if_pos h0]; exact ⟨rfl, rfl⟩
          · have : 0 < m := by omega
            rw [if_neg h0]
            simp [DiD.tick, this]
  split
  · unfold opSync
    rw [er_held hs hd hm, hg]
    split
    · rename_i h; exact steps_err hs hd hm h
    · split
      · exact steps_err hs hd hm (by decide)
      · exact steps_perf hs hd hm _
  split
  · unfold opRename
    rw [er_held hs hd hm, hg]
    split
    · rename_i h; exact steps_err hs hd hm h
    · split
      · exact steps_err hs hd hm (by decide)
      · exact steps_perf hs hd hm _
  split
  · unfold opRemove
    rw [er_held hs hd hm, hg]
    split
    · rename_i h; exact steps_err hs hd hm h
    · split
      · exact steps_err hs hd hm (by decide)
      · exact steps_perf hs hd hm _
  · unfold opCut
    rw [er_held hs hd hm, hg]
    split
    · rename_i h; exact steps_err hs hd hm h
    · split
      · exact steps_err hs hd hm (by decide)
      · split
        · exact steps_err hs hd hm (by decide)
        · exact steps_perf hs hd hm _
end
/-- Nothing is done to a disk that is down. -/
theorem one_down {H : DiD} (hp : H.P) (hd : H.dn = true) (o : DoD) : oneD H o = (H, 16) := by
  have er : ∀ a b, H.er a b = 16 := fun a b => by unfold DiD.er; rw [if_pos hp, if_pos hd]
  unfold oneD opCreate opAppend opSync opRename opRemove opCut
  simp only [er]
  simp
end Go.Px

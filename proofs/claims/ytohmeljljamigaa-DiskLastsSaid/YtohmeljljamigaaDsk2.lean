/- Layer 10: the operations of package disk, over plain data. -/
import Derived.Test.YtohmeljljamigaaDsk1
namespace Go.Proofs.Ytohmeljljamigaa.Dsk
open Go Go.Px Go.Proofs Go.Proofs.Ytohmeljljamigaa.Ins
set_option maxRecDepth 100000
set_option linter.unusedVariables false

theorem dready1_fn (s : ByteArray) : Ct Try.prog 143 {} [S s] (fun r => r = [B (!fnB s)]) :=
  dready1_nf _ _ (Cl.of (dnamed_fn s) ⟨_, rfl, rfl⟩)

theorem sindex_fn (l : List ByteArray) (f : FuncId) (cs : List SV) (p : ByteArray → Bool) (hlen : l.length ≤ 1000000) (hf : ∀ s ∈ l, Ct Try.prog f sP (S s :: cs) (fun x => x = [B (p s)])) :
    Ct Try.prog 189 {} [SL 1 (nR l), .clo f cs] (fun r => ∃ x : Int, r = [I x] ∧ ((x = -1 ∧ ∀ s ∈ l, p s = false) ∨ (0 ≤ x ∧ ∃ s ∈ l, p s = true))) := by
  refine sindex_nf _ _ _ _ ⟨fun _ y => ∃ i : Nat, y = i ∧ i ≤ l.length ∧ ∀ j : Nat, ∀ hj : j < l.length, j < i → p l[j] = false, fun _ y => l.length - y.toNat, ⟨0, rfl, by omega, fun j _ hj => by omega⟩, ?_⟩
  rintro _ _ ⟨i, rfl, hi, hall⟩
  refine ifB_intro (fun h => ?_) (fun h => ?_)
  · simp at h
    rw [waddN _ (by omega)]
    refine ⟨⟨by omega, by simpa using h⟩, _, rget_map _ _ _ h, Cl.of (hf _ (List.getElem_mem h)) ⟨_, rfl, ifB_intro (fun hb => ⟨_, rfl, .inr ⟨by omega, _, List.getElem_mem h, hb⟩⟩) (fun hb => ⟨rfl, ⟨i + 1, rfl, by omega, fun j hj hjk => ?_⟩, stepL (by simp; omega)⟩)⟩⟩
    by_cases e : j = i
    · subst e; exact hb
    · exact hall j hj (by omega)
  · simp at h
    refine ⟨-1, rfl, .inl ⟨rfl, fun s hs => ?_⟩⟩
    obtain ⟨j, hj, rfl⟩ := List.mem_iff_getElem.1 hs
    exact hall j hj (by omega)

theorem scont_fn (l : List ByteArray) (f : FuncId) (cs : List SV) (p : ByteArray → Bool) (hlen : l.length ≤ 1000000) (hf : ∀ s ∈ l, Ct Try.prog f sP (S s :: cs) (fun x => x = [B (p s)])) :
    Ct Try.prog 142 {} [SL 1 (nR l), .clo f cs] (fun r => r = [B (l.any p)]) := by
  refine scont_nf _ _ _ _ (Cl.ofQ (sindex_fn l f cs p hlen hf) ?_)
  rintro _ ⟨x, rfl, hx⟩
  refine ⟨x, rfl, ?_⟩
  rcases hx with ⟨rfl, h⟩ | ⟨h0, s, hs, h⟩
  · have : l.any p = false := by rw [List.any_eq_false]; intro s hs; simp [h s hs]
    rw [this]; simp
  · have : l.any p = true := List.any_eq_true.2 ⟨s, hs, h⟩
    rw [this]; simp; omega

theorem dready_fn (d : DiD) (h : d.ok) (l : List ByteArray) (hl : l.length ≤ 1000) : Ct Try.prog 77 {} [d.sv, SL 1 (nR l)] (fun r => r = [I (if d.P then (if d.dn = true then 16 else if l.any (fun s => !fnB s) = true then 1 else 0) else 1)]) := by
  refine dready_nf _ _ _ _ _ _ (Cl.of (dright_fn d h) ⟨_, rfl, ifB_intro (fun h1 => ?_) (fun h1 => ifB_intro (fun h2 => ?_) (fun h2 => Cl.of (scont_fn l 143 [] (fun s => !fnB s) (by omega) (fun s _ => dready1_fn s)) ⟨_, rfl, ifB_intro (fun h3 => ?_) (fun h3 => ?_)⟩))⟩)
  · simp at h1; rw [if_neg h1]
  · simp at h1; rw [if_pos h1, if_pos h2]
  · simp at h1; rw [if_pos h1, if_neg (by simp [h2]), if_pos h3]
  · simp at h1; rw [if_pos h1, if_neg (by simp [h2]), if_neg (by simp [h3])]
theorem ready1 (d : DiD) (h : d.ok) (s : ByteArray) : Ct Try.prog 77 {} [d.sv, SL 1 [[S s]]] (fun r => r = [I (d.er s s)]) := by
  have := dready_fn d h [s] (by simp)
  have e : (if d.P then (if d.dn = true then (16 : Int) else if [s].any (fun s => !fnB s) = true then 1 else 0) else 1) = d.er s s := by
    unfold DiD.er
    cases h1 : fnB s <;> simp [h1]
  rw [e] at this
  exact this
theorem ready2 (d : DiD) (h : d.ok) (a b : ByteArray) : Ct Try.prog 77 {} [d.sv, SL 1 [[S a], [S b]]] (fun r => r = [I (d.er a b)]) := by
  have := dready_fn d h [a, b] (by simp)
  have e : (if d.P then (if d.dn = true then (16 : Int) else if [a, b].any (fun s => !fnB s) = true then 1 else 0) else 1) = d.er a b := by
    unfold DiD.er
    cases h1 : fnB a <;> cases h2 : fnB b <;> simp [h1, h2]
  rw [e] at this
  exact this

theorem dplace1_fn (f : FiD) (s : ByteArray) : Ct Try.prog 145 {} [.agg f.row, .ref 0 [S s]] (fun r => r = [B (decide (f.nm = s))]) :=
  dplace1_nf _ _ _ _ _ (by rw [seq_d])

theorem isFil_row (f : FiD) : isFil f.row := ⟨_, _, _, rfl⟩
/-- A row's name. -/
def rnm (r : List SV) : ByteArray := match r with | .val (.string s) :: _ => s | _ => ByteArray.empty
theorem rnm_row (f : FiD) : rnm f.row = f.nm := rfl

theorem dplace_fn (d : DiD) (hl : d.fs.length ≤ 1000000) (s : ByteArray) : Ct Try.prog 78 {} [d.sv, S s] (fun r => r = [I (fAt FiD.nm d.fs s)]) := by
  refine dplace_nf _ _ _ _ _ _ (Cl.ofQ (findex_fn (fR d.fs) 145 [.ref 0 [S s]] (fun r => decide (rnm r = s)) (by simpa using hl) (fun r hr => ?_)) ?_)
  · obtain ⟨f, _, rfl⟩ := List.mem_map.1 hr
    exact ⟨isFil_row f, dplace1_fn f s⟩
  · rintro _ ⟨x, rfl, hx⟩
    refine ⟨x, rfl, ?_⟩
    have : x = fAt FiD.nm d.fs s := by
      rcases hx with ⟨rfl, h⟩ | ⟨h0, h1, h2, h3⟩
      · refine (fAt_none.2 fun f hf => ?_).symm
        have := h f.row (List.mem_map_of_mem hf)
        exact of_decide_eq_false (this : decide (f.nm = s) = false)
      · obtain ⟨i, rfl⟩ : ∃ i : Nat, x = i := ⟨x.toNat, by omega⟩
        have hi : i < d.fs.length := by simpa using h1
        rw [rget_map _ _ _ hi, rnm_row] at h3
        have e : fnd FiD.nm d.fs s = some i := fnd_some.2 ⟨hi, by simpa using h3, fun j hj => by
          have hj' : j < d.fs.length := by omega
          have := h2 d.fs[j].row (by
            rw [← List.map_take]
            exact List.mem_map_of_mem (List.mem_take_iff_getElem.2 ⟨j, by simp; omega, rfl⟩))
          exact of_decide_eq_false (this : decide (d.fs[j].nm = s) = false)⟩
        simp [fAt, e]
    rw [this]

theorem dsplit_fn (s : ByteArray) (l : List UInt8) (n : Nat) (h : n ≤ l.length) : Ct Try.prog 80 {} [S s, SL 1 (uR l), I n] (fun r => r = [.agg (FiD.row ⟨s, l.take n, l.drop n⟩)]) := by
  refine dsplit_nf _ _ _ _ ⟨⟨by omega, by omega, rfl, by simpa using h⟩, ⟨by omega, by simpa using h, rfl, Int.le_refl _⟩, ?_⟩
  rw [rsub_map, rsub_map]
  simp [FiD.row]
theorem dsplit_su (s : ByteArray) (a b : List UInt8) : Ct Try.prog 80 {} [S s, SL 1 (uR (a ++ b)), I (a.length : Nat)] (fun r => r = [.agg (FiD.row ⟨s, a, b⟩)]) := by
  have := dsplit_fn s (a ++ b) a.length (by simp)
  rw [List.take_left, List.drop_left] at this
  exact this
theorem dsplit_all (s : ByteArray) (a : List UInt8) : Ct Try.prog 80 {} [S s, SL 1 (uR a), I (a.length : Nat)] (fun r => r = [.agg (FiD.row ⟨s, a, []⟩)]) := by
  have := dsplit_su s a []
  rw [List.append_nil] at this
  exact this

theorem fclone_fn (l : List FiD) (h : l.length ≤ 2147483648) : Ct Try.prog 83 ⟨[], [.own]⟩ [SL 3 (fR l)] (fun r => r = [SL 3 (fR l)]) := by
  refine fclone_nf _ _ (fun b hb => ifB_intro (fun e => ?_) (fun e => ⟨by simp; omega, by simp [rapp]⟩))
  have := hb e
  have : l = [] := by
    have h2 : (fR l).length = 0 := by simp only [rlen_eq] at this; omega
    rw [List.length_map] at h2
    exact List.eq_nil_of_length_eq_zero h2
  rw [this]; rfl

/-- What an operation does with files. -/
theorem dperform_fn (d : DiD) (hl : d.fs.length ≤ 1000000) (h0 : -1 ≤ d.st) (hst : d.st ≤ 9223372036854775807) (f : FuncId) (cs : List SV) (l' : List FiD) (hf : d.st ≠ 0 → Ct Try.prog f OO (SL 3 (fR d.fs) :: cs) (fun r => r = [SL 3 (fR l')])) :
    Ct Try.prog 82 {} [d.sv, .clo f cs] (fun r => r = [(d.perf l').1.sv, I (d.perf l').2]) := by
  refine dperform_nf _ _ _ _ _ _ _ (ifB_intro (fun h => ?_) (fun h => ?_))
  · simp at h
    unfold DiD.perf; rw [if_pos h]
  · simp at h
    have e : d.perf l' = ({ d.tick with fs := l' }, 0) := by unfold DiD.perf; rw [if_neg h]
    rw [e]
    refine ifB_intro (fun h2 => Cl.of (fclone_fn d.fs (by omega)) ⟨_, rfl, Cl.of (hf h) ⟨_, rfl, ?_⟩⟩) (fun h2 => Cl.of (fclone_fn d.fs (by omega)) ⟨_, rfl, Cl.of (hf h) ⟨_, rfl, ?_⟩⟩)
    · simp at h2
      have : wsub .i64 d.st 1 = d.st - 1 := wsub_i64 (by omega) (by omega)
      rw [this]
      simp [DiD.tick, h2, DiD.sv]
    · simp at h2
      have : ¬ 0 < d.st := by omega
      simp [DiD.tick, this, DiD.sv]
end Go.Proofs.Ytohmeljljamigaa.Dsk

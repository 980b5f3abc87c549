/- Layer 10: the reference's functions, over plain data. -/
import Derived.Test.YtohmeljljamigaaDskQN
import Derived.Test.YtohmeljljamigaaDsk4
namespace Go.Proofs.Ytohmeljljamigaa.Dsk
open Go Go.Px Go.Proofs Go.Proofs.Ytohmeljljamigaa.Ins
set_option maxRecDepth 100000
set_option linter.unusedVariables false

theorem qused_fn (d : DiD) (h : d.ok) : Ct Try.prog 27 {} [d.sv] (fun r => r = [I (usedL d.fs)]) := by
  obtain ⟨h1, h2, _⟩ := h
  refine qused_nf _ _ _ _ _ ⟨fun x y => ∃ i : Nat, y = i ∧ i ≤ d.fs.length ∧ x = usedL (d.fs.take i), fun _ y => d.fs.length - y.toNat, ⟨0, rfl, by omega, by simp [usedL]⟩, ?_⟩
  rintro _ _ ⟨i, rfl, hi, rfl⟩
  refine ifB_intro (fun h => ?_) (fun h => ?_)
  · simp at h
    have e := used_take d.fs i h
    have e2 := used_le d.fs (i + 1)
    have hr : (0 : Int) ≤ (i : Nat) ∧ ((i : Nat) : Int) < rlen (fR d.fs) := ⟨by omega, by simpa using h⟩
    have hm := usedL_mem (List.getElem_mem h)
    unfold FiD.len at e hm
    refine ⟨hr, _, _, _, rget_map _ _ _ h, hr, _, _, _, rget_map _ _ _ h, rfl, ?_, ?_⟩
    · rw [waddN _ (by omega), rlen_eq, rlen_eq, uR_len, uR_len, waddNN _ _ (by omega), waddNN _ _ (by omega)]
      exact ⟨i + 1, rfl, by omega, by rw [e]; omega⟩
    · rw [waddN _ (by omega)]; exact stepL (by simp; omega)
  · simp at h
    have : i = d.fs.length := by omega
    subst this
    rw [List.take_length]

theorem qnamed_fn (s : ByteArray) : Ct Try.prog 89 {} [S s] (fun r => r = [B (fnB s)]) := by
  refine qnamed_nf _ _ (ifB_intro (fun h => ?_) (fun h => ?_))
  · simp at h
    have : fnB s = false := by
      rw [Bool.eq_false_iff]; intro k; have := (fnB_iff.1 k).1; omega
    rw [this]
  · simp at h
    refine ⟨fun _ y => ∃ i : Nat, y = i ∧ i ≤ s.size ∧ ∀ j : Nat, ∀ hj : j < s.size, j < i → fchr (s.data.toList[j]'(by rw [← ba_size]; exact hj)) = true, fun _ y => s.size - y.toNat, ⟨0, rfl, by omega, fun j _ hj => by omega⟩, ?_⟩
    rintro _ _ ⟨i, rfl, hi, hall⟩
    refine ifB_intro (fun h1 => ?_) (fun h1 => ?_)
    · simp at h1
      rw [sbyte_u _ _ h1, waddN _ (by omega)]
      generalize hb : s.data.toList[i]'(by rw [← ba_size]; exact h1) = b
      have yes : fchr b = true → ∃ k : Nat, ((i + 1 : Nat) : Int) = k ∧ k ≤ s.size ∧ ∀ j : Nat, ∀ hj : j < s.size, j < k → fchr (s.data.toList[j]'(by rw [← ba_size]; exact hj)) = true := fun hf =>
        ⟨i + 1, rfl, by omega, fun j hj hjk => by
          by_cases e : j = i
          · subst e; rw [hb]; exact hf
          · exact hall j hj (by omega)⟩
      have no : fchr b = false → [B false] = [B (fnB s)] := fun hf => by
        have : fnB s = false := by
          rw [Bool.eq_false_iff]; intro k; have := (fnB_iff.1 k).2 i h1; rw [hb, hf] at this; cases this
        rw [this]
      have st : Nat.le (Nat.succ (s.size - ((i + 1 : Nat) : Int).toNat)) (s.size - ((i : Nat) : Int).toNat) := stepL (by simp; omega)
      have rng : (0 : Int) ≤ (i : Int) ∧ (i : Int) < slen s := ⟨by omega, by simpa using h1⟩
      have fch : fchr b = true ↔ (97 ≤ b.toNat ∧ b.toNat ≤ 122) ∨ (48 ≤ b.toNat ∧ b.toNat ≤ 57) ∨ b.toNat = 46 := by unfold fchr; rw [decide_eq_true_eq]
      have fcf : fchr b = false ↔ ¬ ((97 ≤ b.toNat ∧ b.toNat ≤ 122) ∨ (48 ≤ b.toNat ∧ b.toNat ≤ 57) ∨ b.toNat = 46) := by rw [← fch]; simp
      have fin : ∀ (g : Bool), (g = true ↔ fchr b = false) → ifB g ([B false] = [B (fnB s)]) ((some [] : Option (List (List SV))) = some [] ∧ (∃ k : Nat, ((i + 1 : Nat) : Int) = k ∧ k ≤ s.size ∧ ∀ j : Nat, ∀ hj : j < s.size, j < k → fchr (s.data.toList[j]'(by rw [← ba_size]; exact hj)) = true) ∧ Nat.le (Nat.succ (s.size - ((i + 1 : Nat) : Int).toNat)) (s.size - ((i : Nat) : Int).toNat)) := fun g hg =>
        ifB_intro (fun h => no (hg.1 h)) (fun h => ⟨rfl, yes (by cases hf : fchr b with | true => rfl | false => rw [hg.2 hf] at h; cases h), st⟩)
      refine ⟨rng, ifB_intro (fun g1 => ⟨rng, ifB_intro (fun g2 => ifB_intro (fun g3 => ⟨rng, ifB_intro (fun g4 => fin _ ?_) (fun g4 => ⟨rng, fin _ ?_⟩)⟩) (fun g3 => by simp at g3)) (fun g2 => ⟨rng, ifB_intro (fun g3 => ⟨rng, ifB_intro (fun g4 => fin _ ?_) (fun g4 => ⟨rng, fin _ ?_⟩)⟩) (fun g3 => fin _ ?_)⟩)⟩)
        (fun g1 => ifB_intro (fun g2 => by simp at g2) (fun g2 => fin _ ?_))⟩
      all_goals (rw [fcf])
      · simp at g1 g2 g3 g4; simp; omega
      · simp at g1 g2 g3 g4; simp; omega
      · simp at g1 g2 g3 g4; simp; omega
      · simp at g1 g2 g3 g4; simp; omega
      · simp at g1 g2 g3; simp; omega
      · simp at g1 g2; simp; omega
    · simp at h1
      have : fnB s = true := fnB_iff.2 ⟨by omega, fun j hj => hall j hj (by omega)⟩
      rw [this]

theorem qright_fn (d : DiD) (h : d.ok) : Ct Try.prog 25 {} [d.sv] (fun r => r = [B (decide d.P)]) := by
  have no : ¬ d.P → [B false] = [B (decide d.P)] := fun h => by simp [h]
  refine qright_nf _ _ _ _ _ (ifB_intro (fun h1 => ifB_intro (fun _ => no (fun p => ?_)) (fun h2 => by simp at h2)) (fun h1 => Cl.of (qused_fn d h) ⟨_, rfl, ifB_intro (fun h2 => no (fun p => ?_)) (fun h2 => ?_)⟩))
  · have := p.1; simp at h1; omega
  · have := p.2.1; simp at h2; omega
  · simp at h1 h2
    refine ⟨fun _ y => ∃ i : Nat, y = i ∧ i ≤ d.fs.length ∧ ∀ j : Nat, ∀ hj : j < d.fs.length, j < i → fnB d.fs[j].nm = true ∧ (0 < j → nlt (d.fs[j - 1]'(by omega)).nm d.fs[j].nm), fun _ y => d.fs.length - y.toNat, ⟨0, rfl, by omega, fun j _ hj => by omega⟩, ?_⟩
    rintro b _ ⟨i, rfl, hi, hall⟩
    refine ifB_intro (fun h2 => ?_) (fun h2 => ?_)
    · simp at h2
      have st : Nat.le (Nat.succ (d.fs.length - ((i + 1 : Nat) : Int).toNat)) (d.fs.length - ((i : Nat) : Int).toNat) := stepL (by simp; omega)
      have nxt : fnB d.fs[i].nm = true → (0 < i → nlt (d.fs[i - 1]'(by omega)).nm d.fs[i].nm) → ∃ k : Nat, ((i + 1 : Nat) : Int) = k ∧ k ≤ d.fs.length ∧ ∀ j : Nat, ∀ hj : j < d.fs.length, j < k → fnB d.fs[j].nm = true ∧ (0 < j → nlt (d.fs[j - 1]'(by omega)).nm d.fs[j].nm) := fun a b =>
        ⟨i + 1, rfl, by omega, fun j hj hjk => by
          by_cases e : j = i
          · subst e; exact ⟨a, b⟩
          · exact hall j hj (by omega)⟩
      have hr : (0 : Int) ≤ (i : Nat) ∧ ((i : Nat) : Int) < rlen (fR d.fs) := ⟨by omega, by simpa using h2⟩
      rw [waddN _ (by omega)]
      refine ⟨hr, _, _, _, rget_map _ _ _ h2, Cl.of (qnamed_fn _) ⟨_, rfl, ifB_intro (fun h3 => ?_) (fun h3 => ?_)⟩⟩
      · simp at h3
        refine ifB_intro (fun _ => no (fun p => ?_)) (fun h4 => by simp at h4)
        have := p.2.2.1 _ (List.getElem_mem h2); rw [this] at h3; cases h3
      · simp at h3
        refine ifB_intro (fun h4 => ?_) (fun h4 => ?_)
        · simp at h4
          have w : wsub .i64 (i : Int) 1 = ((i - 1 : Nat) : Int) := by rw [wsub_i64 (by omega) (by omega)]; omega
          rw [w]
          have hi1 : i - 1 < d.fs.length := by omega
          refine ⟨hr, _, _, _, rget_map _ _ _ h2, ⟨by omega, by simp; omega⟩, _, _, _, rget_map _ _ _ hi1, ?_⟩
          rw [sle_d]
          refine ifB_intro (fun h5 => no (fun p => ?_)) (fun h5 => ⟨rfl, nxt h3 (fun _ => ?_), st⟩)
          · simp at h5
            exact h5 (srt_get p.2.2.2 (by omega) h2)
          · simp at h5; exact h5
        · simp at h4
          refine ifB_intro (fun h5 => by simp at h5) (fun h5 => ⟨rfl, nxt h3 (fun _ => by omega), st⟩)
    · simp at h2
      have hs : srt FiD.nm d.fs := adj_srt fun j hj => (hall j hj (by omega)).2
      have hn : ∀ f ∈ d.fs, fnB f.nm = true := fun f hf => by
        obtain ⟨j, hj, rfl⟩ := List.mem_iff_getElem.1 hf
        exact (hall j hj (by omega)).1
      have : d.P := ⟨⟨by omega, by omega, by omega, by omega⟩, by omega, hn, hs⟩
      simp [this]

theorem qfirst_fn (d : DiD) (h : d.ok) (s t : ByteArray) : Ct Try.prog 91 {} [d.sv, S s, S t] (fun r => r = [I (d.er s t)]) := by
  refine qfirst_nf _ _ _ _ _ _ _ (Cl.of (qright_fn d h) ⟨_, rfl, ifB_intro (fun h1 => ?_) (fun h1 => ifB_intro (fun h2 => ?_) (fun h2 => Cl.of (qnamed_fn s) ⟨_, rfl, ifB_intro (fun h3 => ifB_intro (fun h4 => ?_) (fun h4 => by simp at h4)) (fun h3 => Cl.of (qnamed_fn t) ⟨_, rfl, ifB_intro (fun h4 => ?_) (fun h4 => ?_)⟩)⟩))⟩)
  · simp at h1; simp [DiD.er, h1]
  · simp at h1; simp [DiD.er, h1, h2]
  · simp at h1 h3; simp [DiD.er, h1, h2, h3]
  · simp at h1 h3 h4; simp [DiD.er, h1, h2, h3, h4]
  · simp at h1 h3 h4; simp [DiD.er, h1, h2, h3, h4]

theorem qat_fn (d : DiD) (hl : d.fs.length ≤ 1000000) (s : ByteArray) : Ct Try.prog 92 {} [d.sv, S s] (fun r => r = [I (fAt FiD.nm d.fs s)]) := by
  refine qat_nf _ _ _ _ _ _ ⟨fun _ y => ∃ i : Nat, y = i ∧ i ≤ d.fs.length ∧ ∀ j : Nat, ∀ hj : j < d.fs.length, j < i → d.fs[j].nm ≠ s, fun _ y => d.fs.length - y.toNat, ⟨0, rfl, by omega, fun j _ hj => by omega⟩, ?_⟩
  rintro _ _ ⟨i, rfl, hi, hall⟩
  refine ifB_intro (fun h => ?_) (fun h => ?_)
  · have h : i < d.fs.length := by simpa using h
    rw [waddN _ (by omega)]
    refine ⟨⟨by omega, by simpa using h⟩, _, _, _, rget_map _ _ _ h, ?_⟩
    rw [seq_d]
    refine ifB_d (fun e => ?_) (fun e => ⟨rfl, ⟨i + 1, rfl, by omega, fun j hj hjk => ?_⟩, stepL (by simp; omega)⟩)
    · have : fnd FiD.nm d.fs s = some i := fnd_some.2 ⟨h, e, fun j hj => hall j (by omega) hj⟩
      simp [fAt, this]
    · by_cases k : j = i
      · subst k; exact e
      · exact hall j hj (by omega)
  · have h : ¬ i < d.fs.length := by simpa using h
    have : fAt FiD.nm d.fs s = -1 := fAt_none.2 fun f hf => by
      obtain ⟨j, hj, rfl⟩ := List.mem_iff_getElem.1 hf
      exact hall j hj (by omega)
    rw [this]

theorem qall_fn (nm : ByteArray) (a b : List UInt8) (h : a.length + b.length ≤ 2147483648) : Ct Try.prog 93 {} [fil3 nm (uR a) (uR b)] (fun r => r = [SL 1 (uR (a ++ b))]) := by
  refine qall_nf _ _ _ _ ⟨by simp; omega, by simp [rapp]; omega, by simp [rapp]⟩

def stepQ (d : DiD) : DiD × Bool := if d.st = 0 then ({ d with dn := true }, false) else (d.tick, true)
theorem qstep_fn (d : DiD) (h1 : -1 ≤ d.st) (h2 : d.st ≤ 9223372036854775807) : Ct Try.prog 95 {} [d.sv] (fun r => r = [(stepQ d).1.sv, B (stepQ d).2]) := by
  refine qstep_nf _ _ _ _ _ (ifB_intro (fun h => ?_) (fun h => ifB_intro (fun k => ?_) (fun k => ?_)))
  · simp at h; simp [stepQ, h]
  · simp at h k
    rw [wsub_i64 (by omega) (by omega)]
    simp [stepQ, h, DiD.tick, k]
  · simp at h k
    have : ¬ 0 < d.st := by omega
    simp [stepQ, h, DiD.tick, this]

theorem qwithout_fn (l : List FiD) (hl : l.length ≤ 1000000) (s : ByteArray) : Ct Try.prog 98 {} [SL 3 (fR l), S s] (fun r => r = [SL 3 (fR (wout FiD.nm l s))]) := by
  refine qwithout_nf _ _ _ ⟨fun o y => ∃ i : Nat, y = i ∧ i ≤ l.length ∧ o = fR (wout FiD.nm (l.take i) s), fun _ y => l.length - y.toNat, ⟨0, rfl, by omega, rfl⟩, ?_⟩
  rintro _ _ ⟨i, rfl, hi, rfl⟩
  refine ifB_intro (fun h => ?_) (fun h => ?_)
  · have h : i < l.length := by simpa using h
    have hr : (0 : Int) ≤ (i : Nat) ∧ ((i : Nat) : Int) < rlen (fR l) := ⟨by omega, by simpa using h⟩
    rw [waddN _ (by omega)]
    have hw : wout FiD.nm (l.take (i + 1)) s = wout FiD.nm (l.take i) s ++ wout FiD.nm [l[i]] s := by rw [take_s _ _ h]; exact List.filter_append ..
    have hlen : (wout FiD.nm (l.take i) s).length ≤ i := Nat.le_trans len_wout (by simp; omega)
    refine ⟨hr, _, _, _, rget_map _ _ _ h, ?_⟩
    rw [sne_d]
    refine ifB_intro (fun e => ⟨hr, _, _, _, rget_map _ _ _ h, by simp; omega, rfl, ⟨i + 1, rfl, by omega, ?_⟩, stepL (by simp; omega)⟩) (fun e => ⟨rfl, ⟨i + 1, rfl, by omega, ?_⟩, stepL (by simp; omega)⟩)
    · have e : ¬ l[i].nm = s := by simpa using e
      rw [hw, show wout FiD.nm [l[i]] s = [l[i]] by simp [wout, e]]
      exact rapp_map _ _ [l[i]]
    · have e : l[i].nm = s := by simpa using e
      rw [hw, show wout FiD.nm [l[i]] s = [] by simp [wout, e], List.append_nil]
  · have h : ¬ i < l.length := by simpa using h
    have : i = l.length := by omega
    subst this
    rw [List.take_length]

theorem drop_take_s {α : Type} (l : List α) (p i : Nat) (h : i < l.length) (hp : p ≤ i) : (l.drop p).take (i + 1 - p) = (l.drop p).take (i - p) ++ [l[i]] := by
  rw [show i + 1 - p = (i - p) + 1 by omega, take_s _ _ (by simp; omega)]
  congr 2
  rw [List.getElem_drop]
  congr 1; omega

theorem qwith_fn (l : List FiD) (hs : srt FiD.nm l) (hl : l.length ≤ 1000000) (rm st : Int) (dn : Bool) (f : FiD) : Ct Try.prog 96 {} [(DiD.mk l rm st dn).sv, .agg f.row] (fun r => r = [(DiD.mk (withB FiD.nm l f) rm st dn).sv]) := by
  refine qwith_nf _ _ _ _ _ _ _ _ (Cl.of (qwithout_fn l hl f.nm) ⟨_, rfl, ?_⟩)
  have hs' : srt FiD.nm (wout FiD.nm l f.nm) := srt_wout hs
  have hn : ∀ g ∈ wout FiD.nm l f.nm, g.nm ≠ f.nm := fun g hg => (mem_wout.1 hg).2
  have hl' : (wout FiD.nm l f.nm).length ≤ 1000000 := Nat.le_trans len_wout hl
  unfold withB
  generalize wout FiD.nm l f.nm = q at hs' hn hl'
  have hp : (ahd FiD.nm q f.nm).length ≤ q.length := ahd_len
  have hpi : ∀ i, ∀ hi : i < q.length, i < (ahd FiD.nm q f.nm).length ↔ nlt q[i].nm f.nm := fun i hi => ahd_iff hs' hi
  have e0 := insB_at (nm := FiD.nm) q f
  generalize (ahd FiD.nm q f.nm).length = p at hp hpi e0
  refine ⟨fun b o y => ∃ i : Nat, y = i ∧ i ≤ q.length ∧ b = decide (p < i) ∧ o = if p < i then fR (q.take p ++ f :: (q.drop p).take (i - p)) else fR (q.take i), fun _ _ y => q.length - y.toNat, ⟨0, rfl, by omega, by simp, by simp⟩, ?_⟩
  rintro _ _ _ ⟨i, rfl, hi, rfl, rfl⟩
  refine ifB_intro (fun h => ?_) (fun h => ?_)
  · have h : i < q.length := by simpa using h
    have hr : (0 : Int) ≤ (i : Nat) ∧ ((i : Nat) : Int) < rlen (fR q) := ⟨by omega, by simpa using h⟩
    rw [waddN _ (by omega)]
    refine ifB_intro (fun e => ?_) (fun e => ?_)
    · have e : ¬ p < i := by simpa using e
      simp only [if_neg e]
      refine ⟨hr, _, _, _, rget_map _ _ _ h, ?_⟩
      rw [sgt_d]
      refine ifB_intro (fun k => ?_) (fun k => ?_)
      · have k : nlt f.nm q[i].nm := by simpa using k
        have hpe : p = i := by
          have : ¬ i < p := fun z => nlt_asymm k ((hpi i h).1 z)
          omega
        refine ⟨by simp; omega, hr, _, _, _, rget_map _ _ _ h, by simp [rapp]; omega, trivial, ⟨i + 1, rfl, by omega, by simp; omega, ?_⟩, stepL (by simp; omega)⟩
        rw [if_pos (by omega), hpe, drop_take_s q i i h (by omega)]
        simp [rapp]
      · have k : ¬ nlt f.nm q[i].nm := by simpa using k
        have hpe : i < p := (hpi i h).2 (by
          rcases nle_iff.1 k with k | k
          · exact k
          · exact absurd k (hn _ (List.getElem_mem h)))
        refine ⟨hr, _, _, _, rget_map _ _ _ h, by simp; omega, trivial, ⟨i + 1, rfl, by omega, by simp; omega, ?_⟩, stepL (by simp; omega)⟩
        rw [if_neg (by omega), take_s _ _ h]
        exact rapp_map _ _ [q[i]]
    · have e : p < i := by simpa using e
      simp only [if_pos e]
      refine ifB_intro (fun k => by simp at k) (fun _ => ⟨hr, _, _, _, rget_map _ _ _ h, by simp; omega, trivial, ⟨i + 1, rfl, by omega, by simp; omega, ?_⟩, stepL (by simp; omega)⟩)
      rw [if_pos (by omega), drop_take_s q p i h (by omega)]
      simp [rapp]
  · have h : ¬ i < q.length := by simpa using h
    have : i = q.length := by omega
    subst this
    refine ifB_intro (fun e => ?_) (fun e => ?_)
    · have e : ¬ p < q.length := by simpa using e
      have hpe : p = q.length := by omega
      simp only [if_neg e]
      refine ⟨by simp; omega, ?_⟩
      rw [e0, hpe]
      simp [rapp]
    · have e : p < q.length := by simpa using e
      simp only [if_pos e]
      rw [e0, List.take_of_length_le (l := q.drop p) (by simp)]
end Go.Proofs.Ytohmeljljamigaa.Dsk

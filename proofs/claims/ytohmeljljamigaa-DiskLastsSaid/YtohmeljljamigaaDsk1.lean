/- Layer 10: what the functions of package disk do, over plain data. -/
import Derived.Test.YtohmeljljamigaaDskN
import Derived.Test.YtohmeljljamigaaIns2
import Derived.Test.YtohmeljljamigaaGen
import Derived.Laws.Externs
namespace Go.Proofs.Ytohmeljljamigaa.Dsk
open Go Go.Px Go.Proofs Go.Proofs.Ytohmeljljamigaa.Ins
set_option maxRecDepth 100000
set_option linter.unusedVariables false

theorem ovl_file : fovl Try.prog 190 22 := by
  refine ⟨#[4], fun x y w => ?_⟩
  rw [run_callFunc_extern Try.func190 (by kernel_rfl) (by kernel_rfl) (by kernel_rfl) (e := Extern.SlicesOverlaps.overlaps #[22, 22] #[4]) (by kernel_rfl)]

theorem grow_fn (n : Nat) (hn : n ≤ 2147483648) : Ct Try.prog 146 ⟨[.own], [.own]⟩ [SL 1 [], I n] (fun r => r = [SL 1 []]) := by
  refine grow_nf _ _ _ (ifB_intro (fun h => by simp at h; omega) (fun _ x hx hxm => ?_))
  simp only [rlen_eq, List.length_nil, isub_d, lsum_eq, Int.sub_zero, Int.zero_add] at hx ⊢
  have hx : (0 : Int) ≤ x := hx
  have w : wsub .i64 (n : Int) (wsub .i64 x ((0 : Nat) : Int)) = n - x := by
    rw [wsub_i64 (a := x) (by omega) (by omega)]; rw [wsub_i64 (by omega) (by omega)]; omega
  rw [w]
  refine ifB_intro (fun h => ?_) (fun h => ⟨Int.le_refl _, by simp [rsub]⟩)
  simp at h
  refine ⟨⟨by omega, hx, by omega⟩, ⟨⟨by omega, by omega⟩, by omega, by omega⟩, fun h0 x1 h1 h2 => ⟨⟨by omega, by omega, by omega⟩, by omega, by simp [rsub]⟩, fun h0 x1 h1 h2 => ⟨⟨by omega, by omega, by omega⟩, by omega, by simp [rsub]⟩⟩

def catL : List (List UInt8) → List UInt8 := List.flatten
abbrev sR (ls : List (List UInt8)) : List (List SV) := ls.map fun l => [SL 1 (uR l)]
theorem cat_take (ls : List (List UInt8)) (i : Nat) (h : i < ls.length) : catL (ls.take (i + 1)) = catL (ls.take i) ++ ls[i] := by
  rw [take_s _ _ h]; unfold catL; rw [List.flatten_append, List.flatten_singleton]
theorem cat_le (ls : List (List UInt8)) (i : Nat) : (catL (ls.take i)).length ≤ (catL ls).length := by
  conv => rhs; rw [← List.take_append_drop i ls]
  simp only [catL, List.flatten_append, List.length_append]; omega

theorem concat_fn (ls : List (List UInt8)) (hl : ls.length ≤ 1000) (hc : (catL ls).length ≤ 2147483648) : Ct Try.prog 81 ⟨[], [.own]⟩ [SL 1 (sR ls)] (fun r => r = [SL 1 (uR (catL ls))]) := by
  refine concat_nf _ _ ⟨fun x y => ∃ i : Nat, y = i ∧ i ≤ ls.length ∧ x = (catL (ls.take i)).length, fun _ y => ls.length - y.toNat, ⟨0, rfl, by omega, by simp [catL]⟩, ?_⟩
  rintro _ _ ⟨i, rfl, hi, rfl⟩
  refine ifB_intro (fun h => ?_) (fun h => ?_)
  · simp at h
    have e := cat_take ls i h
    have e2 := cat_le ls (i + 1)
    rw [e, List.length_append] at e2
    refine ⟨⟨by omega, by simpa using h⟩, uR ls[i], by rw [rget_map _ _ _ h], ?_⟩
    rw [rlen_eq, uR_len, waddNN _ _ (by omega)]
    refine ifB_intro (fun h2 => by simp at h2; omega) (fun _ => ⟨rfl, ?_, ?_⟩)
    · rw [waddN _ (by omega)]
      exact ⟨i + 1, rfl, by omega, by rw [e, List.length_append]⟩
    · rw [waddN _ (by omega)]; exact stepL (by simp; omega)
  · simp at h
    have : i = ls.length := by omega
    subst this
    rw [List.take_length]
    refine Cl.of (grow_fn _ hc) ⟨_, rfl, fun l y => ∃ i : Nat, y = i ∧ i ≤ ls.length ∧ l = uR (catL (ls.take i)), fun _ y => ls.length - y.toNat, ⟨0, rfl, by omega, by simp [catL]⟩, ?_⟩
    rintro _ _ ⟨i, rfl, hi, rfl⟩
    refine ifB_intro (fun h => ?_) (fun h => ?_)
    · simp at h
      have e := cat_take ls i h
      have e2 := cat_le ls (i + 1)
      rw [e, List.length_append] at e2
      refine ⟨⟨by omega, by simpa using h⟩, uR ls[i], by rw [rget_map _ _ _ h], by simp; omega, rfl, ?_, ?_⟩
      · rw [waddN _ (by omega)]
        exact ⟨i + 1, rfl, by omega, by rw [e, rapp_map]⟩
      · rw [waddN _ (by omega)]; exact stepL (by simp; omega)
    · simp at h
      have : i = ls.length := by omega
      subst this
      rw [List.take_length]
theorem concat2 (a b : List UInt8) (h : a.length + b.length ≤ 2147483648) : Ct Try.prog 81 ⟨[], [.own]⟩ [SL 1 [[SL 1 (uR a)], [SL 1 (uR b)]]] (fun r => r = [SL 1 (uR (a ++ b))]) := by
  have := concat_fn [a, b] (by simp) (by simpa [catL] using h)
  simpa [catL] using this
theorem concat3 (a b c : List UInt8) (h : a.length + b.length + c.length ≤ 2147483648) : Ct Try.prog 81 ⟨[], [.own]⟩ [SL 1 [[SL 1 (uR a)], [SL 1 (uR b)], [SL 1 (uR c)]]] (fun r => r = [SL 1 (uR (a ++ b ++ c))]) := by
  have := concat_fn [a, b, c] (by simp) (by simp [catL]; omega)
  simpa [catL] using this

theorem dsize_fn (f : FiD) (h : f.len ≤ 72057594037927936) : Ct Try.prog 90 {} [.agg f.row] (fun r => r = [I f.len]) := by
  refine dsize_nf _ _ _ _ ?_
  unfold FiD.len at h ⊢
  rw [rlen_eq, rlen_eq, uR_len, uR_len, waddNN _ _ (by omega)]

/-- Sizes that are no bother. -/
def _root_.Go.Px.DiD.ok (d : DiD) : Prop := usedL d.fs ≤ 72057594037927936 ∧ d.fs.length ≤ 72057594037927936 ∧ d.st ≤ 9223372036854775807
theorem _root_.Go.Px.DiD.P.ok {d : DiD} (h : d.P) (hs : d.st ≤ 9223372036854775807) : d.ok := by
  have h1 := h.1; have h2 := h.2.1
  exact ⟨by omega, by omega, hs⟩

theorem used_take (l : List FiD) (i : Nat) (h : i < l.length) : usedL (l.take (i + 1)) = usedL (l.take i) + l[i].len := by
  rw [take_s _ _ h, usedL_app]; simp [usedL]
theorem used_le (l : List FiD) (i : Nat) : usedL (l.take i) ≤ usedL l := by
  have := congrArg usedL (List.take_append_drop i l)
  rw [usedL_app] at this; omega

theorem dused_fn (d : DiD) (h : d.ok) : Ct Try.prog 26 {} [d.sv] (fun r => r = [I (usedL d.fs)]) := by
  obtain ⟨h1, h2, _⟩ := h
  refine dused_nf _ _ _ _ _ ⟨fun x y => ∃ i : Nat, y = i ∧ i ≤ d.fs.length ∧ x = usedL (d.fs.take i), fun _ y => d.fs.length - y.toNat, ⟨0, rfl, by omega, by simp [usedL]⟩, ?_⟩
  rintro _ _ ⟨i, rfl, hi, rfl⟩
  refine ifB_intro (fun h => ?_) (fun h => ?_)
  · simp at h
    have e := used_take d.fs i h
    have e2 := used_le d.fs (i + 1)
    refine ⟨⟨by omega, by simpa using h⟩, _, _, _, rget_map _ _ _ h, Cl.of (dsize_fn d.fs[i] (by have := usedL_mem (List.getElem_mem h); omega)) ⟨_, rfl, rfl, ?_, ?_⟩⟩
    · rw [waddN _ (by omega), waddNN _ _ (by omega)]
      exact ⟨i + 1, rfl, by omega, by rw [e]⟩
    · rw [waddN _ (by omega)]; exact stepL (by simp; omega)
  · simp at h
    have : i = d.fs.length := by omega
    subst this
    rw [List.take_length]

theorem dlist_fn (d : DiD) (h : d.fs.length ≤ 2147483648) : Ct Try.prog 23 {} [d.sv] (fun r => r = [SL 1 (nR (d.fs.map FiD.nm))]) := by
  refine dlist_nf _ _ _ _ _ ⟨⟨by omega, by simp, by simp; omega⟩, fun l y => ∃ i : Nat, y = i ∧ i ≤ d.fs.length ∧ l = nR ((d.fs.take i).map FiD.nm), fun _ y => d.fs.length - y.toNat, ⟨0, rfl, by omega, by simp [rrep]⟩, ?_⟩
  rintro _ _ ⟨i, rfl, hi, rfl⟩
  refine ifB_intro (fun h => ?_) (fun h => ?_)
  · simp at h
    refine ⟨⟨by omega, by simpa using h⟩, _, _, _, rget_map _ _ _ h, by simp; omega, rfl, ?_, ?_⟩
    · rw [waddN _ (by omega)]
      exact ⟨i + 1, rfl, by omega, by rw [take_s _ _ h, List.map_append]; exact rapp_map _ _ [d.fs[i].nm]⟩
    · rw [waddN _ (by omega)]; exact stepL (by simp; omega)
  · simp at h
    have : i = d.fs.length := by omega
    subst this
    rw [List.take_length]

theorem fnB_iff {s : ByteArray} : fnB s = true ↔ (1 ≤ s.size ∧ s.size ≤ 16) ∧ ∀ i : Nat, ∀ h : i < s.size, fchr (s.data.toList[i]'(by rw [← ba_size]; exact h)) = true := by
  unfold fnB
  rw [Bool.and_eq_true, decide_eq_true_eq, List.all_eq_true]
  refine and_congr Iff.rfl ⟨fun h i hi => h _ (List.getElem_mem _), fun h b hb => ?_⟩
  obtain ⟨i, hi, rfl⟩ := List.mem_iff_getElem.1 hb
  exact h i (by rw [ba_size]; exact hi)

theorem dnamed_fn (s : ByteArray) : Ct Try.prog 88 {} [S s] (fun r => r = [B (fnB s)]) := by
  refine dnamed_nf _ _ (ifB_intro (fun h => ?_) (fun h => ?_))
  · simp at h
    have : fnB s = false := by
      rw [Bool.eq_false_iff]; intro k; have := (fnB_iff.1 k).1; omega
    rw [this]
  · simp at h
    refine ⟨fun _ y => ∃ i : Nat, y = i ∧ i ≤ s.size ∧ ∀ j : Nat, ∀ hj : j < s.size, j < i → fchr (s.data.toList[j]'(by rw [← ba_size]; exact hj)) = true, fun _ y => s.size - y.toNat, ⟨0, rfl, by omega, fun j _ hj => by omega⟩, ?_⟩
    rintro _ _ ⟨i, rfl, hi, hall⟩
    refine ifB_intro (fun h1 => ?_) (fun h1 => ?_)
    · simp at h1
      rw [sbyte_u _ _ h1, waddN _ (by omega)]
      generalize hb : s.data.toList[i]'(by rw [← ba_size]; exact h1) = b
      have yes : fchr b = true → ∃ k : Nat, ((i + 1 : Nat) : Int) = k ∧ k ≤ s.size ∧ ∀ j : Nat, ∀ hj : j < s.size, j < k → fchr (s.data.toList[j]'(by rw [← ba_size]; exact hj)) = true := fun hf =>
        ⟨i + 1, rfl, by omega, fun j hj hjk => by
          by_cases e : j = i
          · subst e; rw [hb]; exact hf
          · exact hall j hj (by omega)⟩
      have no : fchr b = false → [B false] = [B (fnB s)] := fun hf => by
        have : fnB s = false := by
          rw [Bool.eq_false_iff]; intro k; have := (fnB_iff.1 k).2 i h1; rw [hb, hf] at this; cases this
        rw [this]
      have st : Nat.le (Nat.succ (s.size - ((i + 1 : Nat) : Int).toNat)) (s.size - ((i : Nat) : Int).toNat) := stepL (by simp; omega)
      have rng : (0 : Int) ≤ (i : Int) ∧ (i : Int) < slen s := ⟨by omega, by simpa using h1⟩
      have fT : ∀ {p : Prop}, (p ↔ fchr b = true) → p → fchr b = true := fun h => h.1
      have fch : fchr b = true ↔ (97 ≤ b.toNat ∧ b.toNat ≤ 122) ∨ (48 ≤ b.toNat ∧ b.toNat ≤ 57) ∨ b.toNat = 46 := by unfold fchr; rw [decide_eq_true_eq]
      have fcf : fchr b = false ↔ ¬ ((97 ≤ b.toNat ∧ b.toNat ≤ 122) ∨ (48 ≤ b.toNat ∧ b.toNat ≤ 57) ∨ b.toNat = 46) := by rw [← fch]; simp
      have fin : ∀ (g : Bool), (g = true ↔ fchr b = false) → ifB g ([B false] = [B (fnB s)]) ((some [] : Option (List (List SV))) = some [] ∧ (∃ k : Nat, ((i + 1 : Nat) : Int) = k ∧ k ≤ s.size ∧ ∀ j : Nat, ∀ hj : j < s.size, j < k → fchr (s.data.toList[j]'(by rw [← ba_size]; exact hj)) = true) ∧ Nat.le (Nat.succ (s.size - ((i + 1 : Nat) : Int).toNat)) (s.size - ((i : Nat) : Int).toNat)) := fun g hg =>
        ifB_intro (fun h => no (hg.1 h)) (fun h => ⟨rfl, yes (by cases hf : fchr b with | true => rfl | false => rw [hg.2 hf] at h; cases h), st⟩)
      refine ⟨rng, ifB_intro (fun g1 => ⟨rng, rng, ifB_intro (fun g2 => ⟨rng, ifB_intro (fun g3 => ⟨rng, fin _ ?_⟩) (fun g3 => fin _ ?_)⟩) (fun g2 => ifB_intro (fun g3 => ⟨rng, fin _ ?_⟩) (fun g3 => fin _ ?_))⟩) (fun g1 => ⟨rng, ifB_intro (fun g2 => ⟨rng, ifB_intro (fun g3 => ⟨rng, fin _ ?_⟩) (fun g3 => fin _ ?_)⟩) (fun g2 => ifB_intro (fun g3 => ⟨rng, fin _ ?_⟩) (fun g3 => fin _ ?_))⟩)⟩
      all_goals first | (simp at g1 g2 g3; done) | (simp at g1 g2 g3; rw [fcf]; first | (simp; done) | (simp; omega))
    · simp at h1
      have : fnB s = true := fnB_iff.2 ⟨by omega, fun j hj => hall j hj (by omega)⟩
      rw [this]

theorem adj_srt {l : List FiD} (h : ∀ i : Nat, ∀ hi : i < l.length, 0 < i → nlt (l[i - 1]'(by omega)).nm l[i].nm) : srt FiD.nm l :=
  srt_adj fun i hi => by have := h (i + 1) hi (by omega); simpa using this

theorem dright_fn (d : DiD) (h : d.ok) : Ct Try.prog 24 {} [d.sv] (fun r => r = [B (decide d.P)]) := by
  have no : ¬ d.P → [B false] = [B (decide d.P)] := fun h => by simp [h]
  refine dright_nf _ _ _ _ _ (ifB_intro (fun h1 => no (fun p => ?_)) (fun h1 => ?_))
  · have := p.1; simp at h1; omega
  · simp at h1
    refine ⟨fun _ y => ∃ i : Nat, y = i ∧ i ≤ d.fs.length ∧ ∀ j : Nat, ∀ hj : j < d.fs.length, j < i → fnB d.fs[j].nm = true ∧ (0 < j → nlt (d.fs[j - 1]'(by omega)).nm d.fs[j].nm), fun _ y => d.fs.length - y.toNat, ⟨0, rfl, by omega, fun j _ hj => by omega⟩, ?_⟩
    rintro b _ ⟨i, rfl, hi, hall⟩
    refine ifB_intro (fun h2 => ?_) (fun h2 => ?_)
    · simp at h2
      have st : Nat.le (Nat.succ (d.fs.length - ((i + 1 : Nat) : Int).toNat)) (d.fs.length - ((i : Nat) : Int).toNat) := stepL (by simp; omega)
      have nxt : fnB d.fs[i].nm = true → (0 < i → nlt (d.fs[i - 1]'(by omega)).nm d.fs[i].nm) → ∃ k : Nat, ((i + 1 : Nat) : Int) = k ∧ k ≤ d.fs.length ∧ ∀ j : Nat, ∀ hj : j < d.fs.length, j < k → fnB d.fs[j].nm = true ∧ (0 < j → nlt (d.fs[j - 1]'(by omega)).nm d.fs[j].nm) := fun a b =>
        ⟨i + 1, rfl, by omega, fun j hj hjk => by
          by_cases e : j = i
          · subst e; exact ⟨a, b⟩
          · exact hall j hj (by omega)⟩
      rw [waddN _ (by omega)]
      refine ⟨⟨by omega, by simpa using h2⟩, _, _, _, rget_map _ _ _ h2, Cl.of (dnamed_fn _) ⟨_, rfl, ifB_intro (fun h3 => ?_) (fun h3 => ?_)⟩⟩
      · simp at h3
        refine ifB_intro (fun _ => no (fun p => ?_)) (fun h4 => by simp at h4)
        have := p.2.2.1 _ (List.getElem_mem h2); rw [this] at h3; cases h3
      · simp at h3
        refine ifB_intro (fun h4 => ?_) (fun h4 => ?_)
        · simp at h4
          have w : wsub .i64 (i : Int) 1 = ((i - 1 : Nat) : Int) := by rw [wsub_i64 (by omega) (by omega)]; omega
          rw [w]
          have hi1 : i - 1 < d.fs.length := by omega
          refine ⟨⟨by omega, by simp; omega⟩, _, _, _, rget_map _ _ _ hi1, ?_⟩
          rw [sge_d]
          refine ifB_intro (fun h5 => no (fun p => ?_)) (fun h5 => ⟨rfl, nxt h3 (fun _ => ?_), st⟩)
          · simp at h5
            exact h5 (srt_get p.2.2.2 (by omega) h2)
          · simp at h5; exact h5
        · simp at h4
          refine ifB_intro (fun h5 => by simp at h5) (fun h5 => ⟨rfl, nxt h3 (fun _ => by omega), st⟩)
    · simp at h2
      have hs : srt FiD.nm d.fs := adj_srt fun j hj => (hall j hj (by omega)).2
      have hn : ∀ f ∈ d.fs, fnB f.nm = true := fun f hf => by
        obtain ⟨j, hj, rfl⟩ := List.mem_iff_getElem.1 hf
        exact (hall j hj (by omega)).1
      refine Cl.of (dused_fn d h) ⟨_, rfl, ?_⟩
      have : ile (usedL d.fs : Int) d.rm = decide d.P := by
        rw [ile_eq, decide_eq_decide]
        exact ⟨fun k => ⟨⟨by omega, by omega, by omega, by omega⟩, k, hn, hs⟩, fun p => p.2.1⟩
      rw [this]
end Go.Proofs.Ytohmeljljamigaa.Dsk

/- slices.Insert, Delete, DeleteFunc at elements of several cells: what they come to. -/
import Derived.Test.YtohmeljljamigaaInsN
namespace Go.Proofs.Ytohmeljljamigaa.Ins
open Go Go.Px Go.Proofs
set_option maxRecDepth 100000
set_option linter.unusedVariables false

theorem isub_eq (a b : Int) : isub a b = a - b := rfl
theorem rput_len (R Z : List (List SV)) (k : Nat) (hk : k ≤ R.length) : (rput R k Z).length = k + Z.length + (R.length - (k + Z.length)) := by
  simp [rput]; omega
theorem rput_take (R Z : List (List SV)) (k : Nat) (hk : k ≤ R.length) : (rput R k Z).take k = R.take k := by
  simp only [rput, Int.toNat_natCast]
  rw [List.append_assoc, List.take_append_of_le_length (by simp; omega), List.take_take]
  simp
theorem rput_take2 (R Z : List (List SV)) (k : Nat) (hk : k ≤ R.length) : (rput R k Z).take (k + Z.length) = R.take k ++ Z := by
  simp only [rput, Int.toNat_natCast]
  rw [List.take_append_of_le_length (by simp; omega)]
  rw [List.take_of_length_le (by simp; omega)]
theorem rsub0 (R : List (List SV)) (k : Nat) : rsub R 0 (k : Int) = R.take k := by simp [rsub]
theorem rsubE (R : List (List SV)) (k : Nat) : rsub R (k : Int) (R.length : Int) = R.drop k := by simp [rsub]

theorem fdelete_fn (rows : List (List SV)) (i j : Nat) (hij : i ≤ j) (hj : j ≤ rows.length) : Ct Try.prog 100 OO [SL 3 rows, I i, I j] (fun r => r = [SL 3 (rows.take i ++ rows.drop j)]) := by
  refine fdelete_nf _ _ _ _ fun x hx hxm => ?_
  simp only [rlen_eq, lsum_eq, isub_eq, Int.zero_add, Int.sub_zero, Int.sub_self, rsubE] at hx ⊢
  refine ⟨⟨by omega, by omega, by omega, by omega⟩, ifB_intro (fun h => ⟨by omega, ?_⟩) (fun h => ⟨⟨by omega, by omega, by omega⟩, ⟨by omega, by omega, by omega⟩, by omega, by omega, fun h1 => ?_, fun h1 => ?_⟩)⟩
  · simp at h
    have : i = j := by omega
    subst this
    rw [rsub0]
    simp
  · have e1 : ((i : Int) + ((rows.drop j).length : Int)) = ((i + (rows.drop j).length : Nat) : Int) := by simp
    rw [e1] at h1 ⊢
    have hl1 : i + (rows.drop j).length ≤ (rput rows i (rows.drop j)).length := by rw [rput_len _ _ _ (by omega)]; omega
    refine ⟨⟨by omega, by simp; omega, by omega⟩, by omega, ?_, ?_⟩
    · rw [rput_len _ _ _ hl1]; omega
    · rw [rsub0, rput_take _ _ _ hl1, rput_take2 _ _ _ (by omega)]
  · exfalso
    simp at h1
    omega

/-- Rows of a file's cells. -/
def isFil (r : List SV) : Prop := ∃ s l1 l2, r = [S s, SL 1 l1, SL 1 l2]

theorem findex_fn (rows : List (List SV)) (f : FuncId) (cs : List SV) (p : List SV → Bool) (hlen : rows.length ≤ 1000000) (hf : ∀ r ∈ rows, isFil r ∧ Ct Try.prog f sP (.agg r :: cs) (fun x => x = [B (p r)])) :
    Ct Try.prog 144 sP [SL 3 rows, .clo f cs] (fun r => ∃ x : Int, r = [I x] ∧ ((x = -1 ∧ ∀ r ∈ rows, p r = false) ∨ (0 ≤ x ∧ x < rows.length ∧ (∀ r ∈ rows.take x.toNat, p r = false) ∧ p (rget rows x) = true))) := by
  refine findex_nf _ _ _ _ ⟨fun _ x => 0 ≤ x ∧ x ≤ rows.length ∧ ∀ r ∈ rows.take x.toNat, p r = false, fun _ x => (rows.length - x).toNat, ⟨by omega, by omega, by simp⟩, ?_⟩
  rintro _ x ⟨h0, h1, hp⟩
  refine ifB_intro (fun h => ?_) (fun h => ?_)
  · simp at h
    have hlt : x.toNat < rows.length := by omega
    have hg : rget rows x = rows[x.toNat] := by simp [rget, hlt]
    obtain ⟨⟨s, l1, l2, e⟩, hc⟩ := hf _ (List.getElem_mem hlt)
    rw [e] at hc
    refine ⟨⟨h0, by simpa using h⟩, s, l1, l2, hg.trans e, Cl.of hc ⟨_, rfl, ifB_intro (fun hb => ?_) (fun hb => ⟨rfl, ?_, ?_⟩)⟩⟩
    · exact ⟨x, rfl, .inr ⟨h0, h, hp, by rw [hg, e]; exact hb⟩⟩
    · have w : wadd IntKind.i64 x 1 = x + 1 := wadd_i64 (by omega) (by omega)
      rw [w]
      refine ⟨by omega, by omega, fun r hr => ?_⟩
      rw [show (x + 1).toNat = x.toNat + 1 by omega, List.take_add_one, List.getElem?_eq_getElem hlt] at hr
      rcases List.mem_append.1 hr with hr | hr
      · exact hp r hr
      · simp at hr; subst hr; rw [e]; exact hb
    · have w : wadd IntKind.i64 x 1 = x + 1 := wadd_i64 (by omega) (by omega)
      rw [w]; show ((rows.length : Int) - (x + 1)).toNat + 1 ≤ ((rows.length : Int) - x).toNat; omega
  · simp at h
    refine ⟨-1, rfl, .inl ⟨rfl, fun r hr => hp r ?_⟩⟩
    rw [show x.toNat = rows.length by omega, List.take_length]
    exact hr

theorem filter_take {rows : List (List SV)} {p : List SV → Bool} (n : Nat) (h : ∀ r ∈ rows.take n, p r = false) : (rows.take n).filter (fun r => !p r) = rows.take n := by
  rw [List.filter_eq_self]
  intro r hr
  simp [h r hr]

theorem fdelf_fn (rows : List (List SV)) (f : FuncId) (cs : List SV) (p : List SV → Bool) (hlen : rows.length ≤ 1000000) (hf : ∀ r ∈ rows, isFil r ∧ Ct Try.prog f sP (.agg r :: cs) (fun x => x = [B (p r)])) :
    Ct Try.prog 85 OO [SL 3 rows, .clo f cs] (fun r => r = [SL 3 (rows.filter fun r => !p r)]) := by
  refine fdelf_nf _ _ _ _ (Cl.ofQ (findex_fn rows f cs p hlen hf) ?_)
  rintro _ ⟨x, rfl, hx⟩
  refine ⟨x, rfl, ifB_intro (fun h => ?_) (fun h => ?_)⟩
  · simp at h
    rcases hx with ⟨_, hx⟩ | ⟨h0, _⟩
    · have : (rows.filter fun r => !p r) = rows := by rw [List.filter_eq_self]; intro r hr; simp [hx r hr]
      rw [this]
    · omega
  · simp at h
    rcases hx with ⟨h0, _⟩ | ⟨h0, h1, h2, h3⟩
    · omega
    have hlt : x.toNat < rows.length := by omega
    have hg : rget rows x = rows[x.toNat] := by simp [rget, hlt]
    rw [hg] at h3
    have wa : ∀ y : Int, 0 ≤ y → y ≤ 1000000 → wadd IntKind.i64 y 1 = y + 1 := fun y a b => wadd_i64 (by omega) (by omega)
    refine ⟨fun x1 x2 l => l.length = rows.length ∧ 0 ≤ x1 ∧ x1 < x2 ∧ x2 ≤ rows.length ∧ l.take x1.toNat = (rows.take x2.toNat).filter (fun r => !p r) ∧ l.drop x2.toNat = rows.drop x2.toNat, fun _ x2 _ => (rows.length - x2).toNat, ?_, ?_⟩
    · rw [wa x h0 (by omega)]
      refine ⟨rfl, h0, by omega, by omega, ?_, rfl⟩
      rw [show (x + 1).toNat = x.toNat + 1 by omega, List.take_add_one, List.getElem?_eq_getElem hlt, List.filter_append, filter_take _ h2]
      simp [h3]
    · rintro x1 x2 l ⟨i1, i2, i3, i4, i5, i6⟩
      refine ifB_intro (fun h => ?_) (fun h => ?_)
      · simp at h
        have hl2 : x2.toNat < rows.length := by omega
        have hgl : rget l x2 = rows[x2.toNat] := by
          have : l[x2.toNat]? = rows[x2.toNat]? := by
            have e := congrArg (fun z => z[0]?) i6
            simpa using e
          simp [rget, this, hl2]
        obtain ⟨⟨s, l1, l2, e⟩, hc⟩ := hf _ (List.getElem_mem hl2)
        rw [e] at hc
        have tk : (rows.take (x2 + 1).toNat).filter (fun r => !p r) = (rows.take x2.toNat).filter (fun r => !p r) ++ (if p rows[x2.toNat] then [] else [rows[x2.toNat]]) := by
          rw [show (x2 + 1).toNat = x2.toNat + 1 by omega, List.take_add_one, List.getElem?_eq_getElem hl2, List.filter_append]
          congr 1
          cases hp : p rows[x2.toNat] <;> simp [hp]
        have dr : ∀ l' : List (List SV), l'.drop x2.toNat = rows.drop x2.toNat → l'.drop (x2 + 1).toNat = rows.drop (x2 + 1).toNat := fun l' e => by
          rw [show (x2 + 1).toNat = x2.toNat + 1 by omega, ← List.drop_drop, ← List.drop_drop, e]
        refine ⟨⟨by omega, by simpa using h⟩, ⟨by omega, by simpa using h⟩, s, l1, l2, hgl.trans e, Cl.of hc ⟨_, rfl, ifB_intro (fun hb => ?_) (fun hb => ⟨rfl, ?_, ?_⟩)⟩⟩
        · simp at hb
          rw [wa x2 (by omega) (by omega), wa x1 (by omega) (by omega)]
          refine ⟨⟨i2, by simp; omega⟩, ⟨i2, by simp; omega⟩, rfl, ⟨by simp [rset, i1], by omega, by omega, by omega, ?_, ?_⟩, by show ((rows.length : Int) - (x2 + 1)).toNat + 1 ≤ ((rows.length : Int) - x2).toNat; omega⟩
          · rw [tk, ← i5, e, hb, show (x1 + 1).toNat = x1.toNat + 1 by omega]
            simp only [rset, Bool.false_eq_true, if_false]
            rw [List.take_add_one, List.getElem?_set_self (by omega), List.take_set_of_le (by omega)]
            rfl
          · apply dr
            simp only [rset]
            rw [List.drop_set_of_lt (by omega)]
            exact i6
        · simp at hb
          rw [wa x2 (by omega) (by omega)]
          refine ⟨i1, i2, by omega, by omega, ?_, dr l i6⟩
          rw [tk, i5, e, hb]; simp
        · rw [wa x2 (by omega) (by omega)]
          show ((rows.length : Int) - (x2 + 1)).toNat + 1 ≤ ((rows.length : Int) - x2).toNat; omega
      · simp at h
        intro x3 hx3 hxm3
        simp only [rlen_eq, lsum_eq, isub_eq, Int.zero_add, Int.sub_zero] at hx3 ⊢
        obtain ⟨k, rfl⟩ : ∃ k : Nat, x1 = k := ⟨x1.toNat, by omega⟩
        have hk : k ≤ l.length := by omega
        refine ⟨⟨i2, by omega, by omega⟩, by omega, ⟨by omega, i2, by omega⟩, ?_, ?_⟩
        · rw [rput_len _ _ _ hk]; omega
        · rw [rsub0, rput_take _ _ _ hk]
          have : x2.toNat = rows.length := by omega
          rw [this, List.take_length] at i5
          simp only [Int.toNat_natCast] at i5
          rw [i5]

end Go.Proofs.Ytohmeljljamigaa.Ins

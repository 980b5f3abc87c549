/- Layer 11: the answers of the functions of package window, and of its reference. -/
import Derived.Test.YtohmeljljamigaaCmp2
namespace Go.Proofs.Ytohmeljljamigaa.Cmp
open Go Go.Px Go.Proofs
set_option maxRecDepth 100000
set_option linter.unusedVariables false

abbrev cR (l : List (Int × Int)) : List (List SV) := l.map fun c => [I c.1, I c.2]
def ceAt (l : List (Int × Int)) (i : Int) : Int × Int := l.getD i.toNat (0, 0)
theorem rget_cR {l : List (Int × Int)} {i : Int} (h0 : 0 ≤ i) (h1 : i < l.length) : rget (cR l) i = [I (ceAt l i).1, I (ceAt l i).2] := by
  have : i.toNat < l.length := by omega
  simp [rget, ceAt, this]
theorem ceAt_mem {l : List (Int × Int)} {i : Int} (h0 : 0 ≤ i) (h1 : i < l.length) : ceAt l i ∈ l := by
  have : i.toNat < l.length := by omega
  simp [ceAt, this]
theorem rlen_cR (l : List (Int × Int)) : rlen (cR l) = (l.length : Int) := by simp
theorem rset_cR (l : List (Int × Int)) (i a b : Int) : rset (cR l) i [I a, I b] = cR (l.set i.toNat (a, b)) := by
  simp [rset, cR, List.map_set]

def timP (n : Int) : Prop := 0 ≤ n ∧ n ≤ 1099511627776
instance (n : Int) : Decidable (timP n) := inferInstanceAs (Decidable (_ ∧ _))
def cellsP (l : List (Int × Int)) : Prop := ∀ c ∈ l, heldP c.1 ∧ heldP c.2
instance (l : List (Int × Int)) : Decidable (cellsP l) := inferInstanceAs (Decidable (∀ c ∈ l, heldP c.1 ∧ heldP c.2))
def winP (wd sl : Int) (cl : List (Int × Int)) : Prop := (1 ≤ wd ∧ wd ≤ 2147483647) ∧ timP sl ∧ (1 ≤ cl.length ∧ cl.length ≤ 16) ∧ cellsP cl
instance (wd sl : Int) (cl : List (Int × Int)) : Decidable (winP wd sl cl) := inferInstanceAs (Decidable (_ ∧ _))

theorem timely_fn (n : Int) : Ct Try.prog 174 {} [I n] (fun r => r = [B (decide (timP n))]) := by
  refine timely_nf _ _ ?_
  have : bpick (ige n 0) (ile n 1099511627776) false = decide (timP n) := by
    rw [Bool.eq_iff_iff, decide_eq_true_eq]; unfold timP; simp
  rw [this]
theorem rtime_fn (n : Int) : Ct Try.prog 163 {} [I n] (fun r => r = [B (decide (timP n))]) := by
  refine rtime_nf _ _ ?_
  have : bpick (ige n 0) (ile n 1099511627776) false = decide (timP n) := by
    rw [Bool.eq_iff_iff, decide_eq_true_eq]; unfold timP; simp
  rw [this]

theorem wheld_fn (n : Int) : Ct Try.prog 192 {} [I n] (fun r => r = [B (decide (heldP n))]) := by
  refine wheld_nf _ _ (Cl.of (hold_fn n) ⟨_, rfl, ?_⟩)
  have : ieq n (holdI n) = decide (heldP n) := by
    rw [Bool.eq_iff_iff, decide_eq_true_eq, ← hold_held]; simp [eq_comm]
  rw [this]
theorem wwrong_fn (n m : Int) : Ct Try.prog 193 {} [.agg [I n, I m], .ref 0 [.clo 192 []]] (fun r => r = [B (!decide (heldP n ∧ heldP m))]) := by
  refine wwrong_nf _ _ _ _ _ (Cl.of (wheld_fn n) ⟨_, rfl, ifB_intro (fun h => ?_) (fun h => ?_)⟩)
  · simp at h; simp [h]
  · simp at h
    refine Cl.of (wheld_fn m) ⟨_, rfl, ?_⟩
    simp [h]

theorem ccont_fn (l : List (Int × Int)) (hl : l.length ≤ 1000000) : Ct Try.prog 194 {} [SL 2 (cR l), .clo 193 [.ref 0 [.clo 192 []]]] (fun r => r = [B (!decide (cellsP l))]) := by
  have A : Ct Try.prog 211 {} [SL 2 (cR l), .clo 193 [.ref 0 [.clo 192 []]]] (fun r => ∃ x : Int, r = [I x] ∧ (0 ≤ x ↔ ¬ cellsP l)) := by
    refine cindex_nf _ _ _ _ ⟨fun _ x => 0 ≤ x ∧ x ≤ l.length ∧ ∀ i : Nat, i < x.toNat → heldP (l.getD i (0, 0)).1 ∧ heldP (l.getD i (0, 0)).2, fun _ x => (l.length - x).toNat, ⟨by omega, by omega, by simp⟩, ?_⟩
    rintro _ x ⟨h0, h1, hp⟩
    refine ifB_intro (fun h => ?_) (fun h => ?_)
    · simp at h
      have w : wadd IntKind.i64 x 1 = x + 1 := wadd_i64 (by omega) (by omega)
      refine ⟨⟨h0, by simpa using h⟩, _, _, rget_cR h0 h, Cl.of (wwrong_fn _ _) ⟨_, rfl, ifB_intro (fun hb => ?_) (fun hb => ⟨rfl, ?_, ?_⟩)⟩⟩
      · simp only [Bool.not_eq_true', decide_eq_false_iff_not] at hb
        exact ⟨x, rfl, fun _ ha => hb (ha _ (ceAt_mem h0 h)), fun _ => h0⟩
      · simp only [Bool.not_eq_false', decide_eq_true_eq] at hb
        rw [w]
        refine ⟨by omega, by omega, fun i hi => ?_⟩
        by_cases hix : i < x.toNat
        · exact hp i hix
        · obtain rfl : i = x.toNat := by omega
          exact hb
      · rw [w]; exact mlt (by dsimp only; omega)
    · simp at h
      refine ⟨-1, rfl, fun h => by omega, fun hn => absurd (fun c hc => ?_) hn⟩
      obtain ⟨i, hi, rfl⟩ := List.getElem_of_mem hc
      have := hp i (by omega)
      simpa [hi] using this
  refine ccont_nf _ _ _ _ (Cl.ofQ A ?_)
  rintro r ⟨x, rfl, hx⟩
  refine ⟨_, rfl, ?_⟩
  have : ige x 0 = !decide (cellsP l) := by
    rw [Bool.eq_iff_iff]; simp [hx]
  rw [this]

theorem wright_fn (wd sl : Int) (cl : List (Int × Int)) : Ct Try.prog 151 {} [win3 wd sl (cR cl)] (fun r => r = [B (decide (winP wd sl cl))]) := by
  have no : ¬ winP wd sl cl → [B false] = [B (decide (winP wd sl cl))] := fun h => by simp [h]
  refine wright_nf _ _ _ _ (ifB_intro (fun h => ?_) (fun h => ?_))
  · simp only [bor_t, ilt_eq, igt_eq, decide_eq_true_eq] at h
    exact no (fun hh => by have := hh.1; omega)
  · simp only [bor_f, ilt_eq, igt_eq, decide_eq_false_iff_not] at h
    refine Cl.of (timely_fn sl) ⟨_, rfl, ifB_intro (fun h1 => ?_) (fun h1 => ifB_intro (fun h2 => ?_) (fun h2 => ?_))⟩
    · simp at h1
      exact no (fun hh => h1 hh.2.1)
    · simp only [bor_t, ilt_eq, igt_eq, decide_eq_true_eq, rlen_cR] at h2
      exact no (fun hh => by have := hh.2.2.1; omega)
    · simp at h1
      simp only [bor_f, ilt_eq, igt_eq, decide_eq_false_iff_not, rlen_cR] at h2
      refine Cl.of (ccont_fn cl (by omega)) ⟨_, rfl, ?_⟩
      have : bnot (!decide (cellsP cl)) = decide (winP wd sl cl) := by
        rw [bnot_eq, Bool.not_not]
        exact decide_eq_decide.2 ⟨fun hh => ⟨by omega, h1, by omega, hh⟩, fun hh => hh.2.2.2⟩
      rw [this]

theorem rwright_loop (wd sl : Int) (cl : List (Int × Int)) (h : 1 ≤ wd ∧ wd ≤ 2147483647) (h1 : timP sl) (h2 : 1 ≤ cl.length ∧ cl.length ≤ 16) {FX : Prop} (hFX : FX) :
    ∃ Inv : Bool → Int → Prop, ∃ m : Bool → Int → Nat, (Inv false 0) ∧ (∀ b1 : Bool, ∀ x : Int, (Inv b1 x) → ifB (ilt x (rlen (cR cl))) ((((0 : Int) ≤ x) ∧ (x < (rlen (cR cl)))) ∧ (∃ x1 : Int, ∃ x2 : Int, (rget (cR cl) x = [I x1, I x2]) ∧ (ifB (bpick (bpick (bpick (ilt x1 0) true (igt x1 1099511627776)) true (ilt x2 0)) true (igt x2 1099511627776)) ([B false] = [B (decide (winP wd sl cl))]) (FX ∧ ((Inv b1 (wadd IntKind.i64 x 1)) ∧ (Nat.le (Nat.succ (m b1 (wadd IntKind.i64 x 1))) (m b1 x))))))) ([B true] = [B (decide (winP wd sl cl))])) := by
  refine ⟨fun _ x => 0 ≤ x ∧ x ≤ cl.length ∧ ∀ i : Nat, i < x.toNat → heldP (cl.getD i (0, 0)).1 ∧ heldP (cl.getD i (0, 0)).2, fun _ x => (cl.length - x).toNat, ⟨by omega, by omega, by simp⟩, ?_⟩
  rintro _ x ⟨h0, hx, hp⟩
  refine ifB_intro (fun h3 => ?_) (fun h3 => ?_)
  · simp at h3
    have w : wadd IntKind.i64 x 1 = x + 1 := wadd_i64 (by omega) (by omega)
    rw [w]
    refine ⟨⟨h0, by simpa using h3⟩, _, _, rget_cR h0 h3, ifB_intro (fun hb => ?_) (fun hb => ⟨hFX, ⟨by omega, by omega, fun i hi => ?_⟩, mlt (by dsimp only; omega)⟩)⟩
    · simp only [bor_t, ilt_eq, igt_eq, decide_eq_true_eq] at hb
      have : ¬ winP wd sl cl := fun hh => by
        have := hh.2.2.2 _ (ceAt_mem h0 h3)
        unfold heldP at this
        omega
      simp [this]
    · simp only [bor_f, ilt_eq, igt_eq, decide_eq_false_iff_not] at hb
      by_cases hix : i < x.toNat
      · exact hp i hix
      · obtain rfl : i = x.toNat := by omega
        have : heldP (ceAt cl x).1 ∧ heldP (ceAt cl x).2 := by unfold heldP; omega
        exact this
  · simp at h3
    have : winP wd sl cl := ⟨h, h1, h2, fun c hc => by
      obtain ⟨i, hi, rfl⟩ := List.getElem_of_mem hc
      have := hp i (by omega)
      simpa [hi] using this⟩
    simp [this]

theorem rwright_fn (wd sl : Int) (cl : List (Int × Int)) : Ct Try.prog 155 {} [win3 wd sl (cR cl)] (fun r => r = [B (decide (winP wd sl cl))]) := by
  have no : ¬ winP wd sl cl → [B false] = [B (decide (winP wd sl cl))] := fun h => by simp [h]
  refine rwright_nf _ _ _ _ (ifB_intro (fun h => ?_) (fun h => ?_))
  · refine ifB_intro (fun _ => no (fun hh => ?_)) (fun h2 => by simp at h2)
    simp only [bor_t, ilt_eq, igt_eq, decide_eq_true_eq] at h
    have := hh.1
    omega
  · simp only [bor_f, ilt_eq, igt_eq, decide_eq_false_iff_not] at h
    refine Cl.of (rtime_fn sl) ⟨_, rfl, ifB_intro (fun h1 => no (fun hh => ?_)) (fun h1 => ?_)⟩
    · simp only [bor_t, bnot_eq, Bool.not_eq_true', decide_eq_false_iff_not, ilt_eq, igt_eq, decide_eq_true_eq, rlen_cR, Bool.false_eq_true, false_or] at h1
      have := hh.2.2.1
      rcases h1 with (h1 | h1) | h1
      · exact h1 hh.2.1
      · omega
      · omega
    · simp only [bor_f, bnot_eq, Bool.not_eq_false', decide_eq_true_eq, ilt_eq, igt_eq, decide_eq_false_iff_not, rlen_cR, true_and] at h1
      exact rwright_loop wd sl cl (by omega) h1.1.1 (by omega) rfl

theorem quo_nn {a b : Int} (h0 : 0 ≤ a) (h1 : a ≤ 9223372036854775807) (hb : 1 ≤ b) : wquo .i64 a b = a / b ∧ 0 ≤ a / b ∧ a / b ≤ a := by
  have e1 : 0 ≤ a / b := Int.ediv_nonneg h0 (by omega)
  have e2 : a / b ≤ a := Int.ediv_le_self b h0
  refine ⟨?_, e1, e2⟩
  unfold wquo
  rw [Int.tdiv_eq_ediv_of_nonneg h0]
  exact wrap_i64 (by omega) (by omega)

def wnewR (wd n a : Int) : List SV := if ((1 ≤ wd ∧ wd ≤ 2147483647) ∧ (1 ≤ n ∧ n ≤ 16)) ∧ timP a then [win3 wd (a / wd) (cR (List.replicate n.toNat (0, 0))), I 0] else [win3 0 0 [], I 1]
theorem rrep_cR (n : Int) : rrep n [I 0, I 0] = cR (List.replicate n.toNat (0, 0)) := by simp [rrep, cR]
theorem wnew_fn (wd n a : Int) : Ct Try.prog 121 {} [I wd, I n, I a] (fun r => r = wnewR wd n a) := by
  refine wnew_nf _ _ _ _ (ifB_intro (fun h => ?_) (fun h => ?_))
  · simp only [bor_t, ilt_eq, igt_eq, decide_eq_true_eq] at h
    have : ¬ (((1 ≤ wd ∧ wd ≤ 2147483647) ∧ (1 ≤ n ∧ n ≤ 16)) ∧ timP a) := fun hh => by omega
    simp [wnewR, this]
  · simp only [bor_f, ilt_eq, igt_eq, decide_eq_false_iff_not] at h
    refine Cl.of (timely_fn a) ⟨_, rfl, ifB_intro (fun h1 => ?_) (fun h1 => ?_)⟩
    · simp at h1
      simp [wnewR, h1]
    · simp at h1
      have h1' := h1
      unfold timP at h1'
      have hh : ((1 ≤ wd ∧ wd ≤ 2147483647) ∧ (1 ≤ n ∧ n ≤ 16)) ∧ timP a := ⟨by omega, h1⟩
      refine ⟨by omega, ⟨by omega, by omega, by omega⟩, ?_⟩
      rw [(quo_nn (by omega) (by omega) (by omega)).1, rrep_cR]
      simp [wnewR, hh]
theorem cclone_fn (rows : List (List SV)) (h : rows.length ≤ 2147483648) : Ct Try.prog 176 ⟨[], [.own]⟩ [SL 2 rows] (fun r => r = [SL 2 rows]) := by
  refine cclone_nf _ _ (fun b hb => ifB_intro (fun e => ?_) (fun e => ⟨?_, ?_⟩))
  · have := hb e
    have : rows = [] := by simpa using this
    rw [this]
  · simp; omega
  · simp [rapp]

/-- The while that a place stands for, when the window is at a slot. -/
def kk (slot n p : Int) : Int := slot - (slot - p) % n
theorem kk_range {slot n p : Int} (h : 1 ≤ n) : slot - n < kk slot n p ∧ kk slot n p ≤ slot := by
  unfold kk
  have h1 := Int.emod_nonneg (slot - p) (show n ≠ 0 by omega)
  have h2 := Int.emod_lt_of_pos (slot - p) (show 0 < n by omega)
  omega
theorem kk_eq {slot n p x : Int} (h : 1 ≤ n) (hn : n ≤ 16) (p0 : 0 ≤ p) (pn : p < n) (x0 : slot - n < x) (x1 : x ≤ slot) : kk slot n p = x ↔ p = x % n := by
  unfold kk
  have hc : n = 1 ∨ n = 2 ∨ n = 3 ∨ n = 4 ∨ n = 5 ∨ n = 6 ∨ n = 7 ∨ n = 8 ∨ n = 9 ∨ n = 10 ∨ n = 11 ∨ n = 12 ∨ n = 13 ∨ n = 14 ∨ n = 15 ∨ n = 16 := by omega
  rcases hc with rfl | rfl | rfl | rfl | rfl | rfl | rfl | rfl | rfl | rfl | rfl | rfl | rfl | rfl | rfl | rfl <;> omega

/-- The cells of a window that goes on to a slot. -/
def mvL (sl slot : Int) (cl : List (Int × Int)) : List (Int × Int) := (List.range cl.length).map fun p : Nat => if sl < kk slot cl.length p then (0, 0) else cl.getD p (0, 0)
theorem mvL_len (sl slot : Int) (cl : List (Int × Int)) : (mvL sl slot cl).length = cl.length := by simp [mvL]

theorem map_range_set {n : Nat} {f f' : Nat → Int × Int} {i : Nat} {v : Int × Int} (hi : i < n) (h : ∀ p, p < n → f' p = if p = i then v else f p) : (List.range n).map f' = ((List.range n).map f).set i v := by
  apply List.ext_getElem
  · simp
  · intro p h1 h2
    simp at h1
    rw [List.getElem_set]
    simp only [List.getElem_map, List.getElem_range]
    rw [h p h1]
    by_cases e : p = i
    · simp [e]
    · rw [if_neg e, if_neg (fun e' => e e'.symm)]

def wmoveR (wd sl : Int) (cl : List (Int × Int)) (a : Int) : List SV :=
  if winP wd sl cl ∧ timP a then (if a / wd ≤ sl then [win3 wd sl (cR cl), I 0] else [win3 wd (a / wd) (cR (mvL sl (a / wd) cl)), I 0]) else [win3 wd sl (cR cl), I 1]

theorem wmove_fn (wd sl : Int) (cl : List (Int × Int)) (a : Int) : Ct Try.prog 175 {} [win3 wd sl (cR cl), I a] (fun r => r = wmoveR wd sl cl a) := by
  refine wmove_nf _ _ _ _ _ (Cl.of (wright_fn wd sl cl) ⟨_, rfl, ifB_intro (fun h => ?_) (fun h => ?_)⟩)
  · simp at h; simp [wmoveR, h]
  · simp at h
    refine Cl.of (timely_fn a) ⟨_, rfl, ifB_intro (fun h1 => ?_) (fun h1 => ?_)⟩
    · simp at h1; simp [wmoveR, h1]
    · simp at h1
      have hw := h
      have ha := h1
      unfold winP at hw
      unfold timP at hw ha
      obtain ⟨q1, q2, q3⟩ := quo_nn (a := a) (b := wd) (by omega) (by omega) (by omega)
      rw [q1]
      refine ⟨by omega, ifB_intro (fun h2 => ?_) (fun h2 => ?_)⟩
      · simp at h2; simp [wmoveR, h, h1, h2]
      · simp at h2
        have h2' : ¬ a / wd ≤ sl := by omega
        refine Cl.of (cclone_fn _ (by simp; omega)) ⟨_, rfl, ?_⟩
        generalize hslot : a / wd = slot at *
        have hlen : (1 : Int) ≤ cl.length ∧ (cl.length : Int) ≤ 16 := by omega
        rw [rlen_cR, wadd_i64 (by omega) (by omega), wsub_i64 (by omega) (by omega), wadd_i64 (by omega) (by omega), imax_eq]
        generalize hlo : max (sl + 1) (slot - cl.length + 1) = lo
        have hlo1 : lo ≤ slot := by omega
        have hlo2 : sl < lo := by omega
        have hlo3 : slot - cl.length < lo := by omega
        have hlo4 : 0 ≤ lo := by omega
        refine ⟨fun x l1 => lo ≤ x ∧ x ≤ slot + 1 ∧ l1 = cR ((List.range cl.length).map fun p : Nat => if lo ≤ kk slot cl.length p ∧ kk slot cl.length p < x then (0, 0) else cl.getD p (0, 0)), fun x _ => (slot + 1 - x).toNat, ⟨by omega, by omega, ?_⟩, ?_⟩
        · congr 1
          apply List.ext_getElem
          · simp
          · intro p p1 p2
            simp only [List.getElem_map, List.getElem_range]
            rw [if_neg (by omega)]
            simp [p1]
        · rintro x _ ⟨g1, g2, rfl⟩
          refine ifB_intro (fun g3 => ?_) (fun g3 => ?_)
          · simp at g3
            have m1 : wrem x cl.length = x % cl.length := by unfold wrem; exact Int.tmod_eq_emod_of_nonneg (by omega)
            have m2 := Int.emod_nonneg x (show (cl.length : Int) ≠ 0 by omega)
            have m3 := Int.emod_lt_of_pos x (show (0 : Int) < cl.length by omega)
            rw [m1, wadd_i64 (by omega) (by omega), rset_cR]
            refine ⟨by omega, ⟨by omega, by simp; omega⟩, ⟨by omega, by simp; omega⟩, rfl, ⟨by omega, by omega, ?_⟩, mlt (by dsimp only; omega)⟩
            congr 1
            symm
            refine map_range_set (by omega) (fun p hp => ?_)
            have hk := kk_eq (slot := slot) (n := cl.length) (p := p) (x := x) (by omega) (by omega) (by omega) (by omega) (by omega) (by omega)
            by_cases e : p = (x % cl.length).toNat
            · have e' : kk slot cl.length p = x := hk.2 (by omega)
              rw [if_pos e, if_pos (by omega)]
            · have e' : ¬ kk slot cl.length p = x := fun hh => e (by have := hk.1 hh; omega)
              rw [if_neg e]
              by_cases c : lo ≤ kk slot cl.length p ∧ kk slot cl.length p < x
              · rw [if_pos c, if_pos (by omega)]
              · rw [if_neg c, if_neg (by omega)]
          · simp at g3
            obtain rfl : x = slot + 1 := by omega
            have : ((List.range cl.length).map fun p : Nat => if lo ≤ kk slot cl.length p ∧ kk slot cl.length p < slot + 1 then ((0, 0) : Int × Int) else cl.getD p (0, 0)) = mvL sl slot cl := by
              unfold mvL
              apply List.map_congr_left
              intro p hp
              have hr := kk_range (slot := slot) (n := cl.length) (p := p) (by omega)
              by_cases c : sl < kk slot cl.length p
              · rw [if_pos c, if_pos (by omega)]
              · rw [if_neg c, if_neg (by omega)]
            rw [this]
            simp only [wmoveR]
            rw [if_pos ⟨h, h1⟩, hslot, if_neg h2']

end Go.Proofs.Ytohmeljljamigaa.Cmp

/- Layer 11: windows that go on, and are added to; the document's answers. -/
import Derived.Test.YtohmeljljamigaaCmp3
namespace Go.Proofs.Ytohmeljljamigaa.Cmp
open Go Go.Px Go.Proofs
set_option maxRecDepth 100000
set_option linter.unusedVariables false

theorem rem_nn {x n : Int} (h0 : 0 ≤ x) (hn : 1 ≤ n) : wrem x n = x % n ∧ 0 ≤ x % n ∧ x % n < n := by
  refine ⟨?_, Int.emod_nonneg x (by omega), Int.emod_lt_of_pos x (by omega)⟩
  unfold wrem; exact Int.tmod_eq_emod_of_nonneg h0

def getS (sl : Int) (cl : List (Int × Int)) (p : Int) : Int × Int := if (sl < p ∨ p ≤ sl - cl.length) ∨ p < 0 then (0, 0) else ceAt cl (p % cl.length)
/-- A cell, when something is counted in it. -/
def ceU (c : Int × Int) (ok : Bool) : Int × Int := if ok = true then (upI c.1 1, c.2) else (c.1, upI c.2 1)
def addL (cl : List (Int × Int)) (i : Int) (ok : Bool) : List (Int × Int) := cl.set i.toNat (ceU (ceAt cl i) ok)
/-- A window to which something is added that may be. -/
def wadS (wd sl : Int) (cl : List (Int × Int)) (a : Int) (ok : Bool) : Int × List (Int × Int) :=
  if a / wd ≤ sl then (if a / wd ≤ sl - cl.length then (sl, cl) else (sl, addL cl ((a / wd) % cl.length) ok)) else (a / wd, addL (mvL sl (a / wd) cl) ((a / wd) % cl.length) ok)
def waddR (wd sl : Int) (cl : List (Int × Int)) (a : Int) (ok : Bool) : List SV :=
  if winP wd sl cl ∧ timP a then [win3 wd (wadS wd sl cl a ok).1 (cR (wadS wd sl cl a ok).2), I 0] else [win3 wd sl (cR cl), I 1]

theorem mv_shape {wd sl : Int} {cl : List (Int × Int)} {a : Int} (h : winP wd sl cl ∧ timP a) : ∃ (s2 : Int) (l2 : List (Int × Int)), wmoveR wd sl cl a = [win3 wd s2 (cR l2), I 0] ∧ l2.length = cl.length ∧ a / wd ≤ s2 ∧ 0 ≤ s2 ∧ s2 ≤ 1099511627776 ∧
    ∀ ok, wadS wd sl cl a ok = if a / wd ≤ s2 - cl.length then (s2, l2) else (s2, addL l2 ((a / wd) % cl.length) ok) := by
  have hw := h.1
  have ha := h.2
  unfold winP at hw
  unfold timP at hw ha
  obtain ⟨q1, q2, q3⟩ := quo_nn (a := a) (b := wd) (by omega) (by omega) (by omega)
  unfold wmoveR
  rw [if_pos h]
  by_cases c : a / wd ≤ sl
  · rw [if_pos c]
    exact ⟨_, _, rfl, rfl, c, by omega, by omega, fun ok => by unfold wadS; rw [if_pos c]⟩
  · rw [if_neg c]
    exact ⟨_, _, rfl, mvL_len _ _ _, by omega, by omega, by omega, fun ok => by unfold wadS; rw [if_neg c, if_neg (by omega)]⟩

theorem wadd_fn (wd sl : Int) (cl : List (Int × Int)) (a : Int) (ok : Bool) : Ct Try.prog 124 {} [win3 wd sl (cR cl), I a, B ok] (fun r => r = waddR wd sl cl a ok) := by
  have hm := wmove_fn wd sl cl a
  by_cases h : winP wd sl cl ∧ timP a
  · obtain ⟨s2, l2, e, hl, hs, s0, s1, hS⟩ := mv_shape h
    rw [e] at hm
    have hw := h.1
    have ha := h.2
    unfold winP at hw
    unfold timP at hw ha
    obtain ⟨q1, q2, q3⟩ := quo_nn (a := a) (b := wd) (by omega) (by omega) (by omega)
    refine wadd1_nf _ _ _ _ _ _ (Cl.of hm ⟨_, _, _, _, rfl, ifB_intro (fun h => by simp at h) (fun _ => ⟨by omega, ?_⟩)⟩)
    obtain ⟨m1, m2, m3⟩ := rem_nn (x := a / wd) (n := cl.length) (by omega) (by omega)
    rw [q1, rlen_cR, hl, wsub_i64 (by omega) (by omega), m1]
    unfold waddR
    rw [if_pos h, hS]
    refine ifB_intro (fun h2 => ?_) (fun h2 => ?_)
    · simp at h2; rw [if_pos h2]
    · simp at h2
      rw [if_neg (by omega)]
      refine Cl.of (cclone_fn _ (by simp; omega)) ⟨_, rfl, by omega, ⟨m2, by simp; omega⟩, ?_⟩
      have hi : (0 : Int) ≤ (a / wd) % cl.length ∧ (a / wd) % cl.length < rlen (cR l2) := ⟨m2, by simp; omega⟩
      have hg := rget_cR (l := l2) m2 (by omega)
      refine ifB_intro (fun h3 => ?_) (fun h3 => ?_)
      · refine ⟨hi, _, _, hg, Cl.of (up_fn _ _) ⟨_, rfl, hi, _, _, hg, ?_⟩⟩
        rw [rset_cR]
        simp [addL, ceU, h3]
      · refine ⟨hi, _, _, hg, Cl.of (up_fn _ _) ⟨_, rfl, hi, _, _, hg, ?_⟩⟩
        rw [rset_cR]
        simp [addL, ceU, h3]
  · have e : wmoveR wd sl cl a = [win3 wd sl (cR cl), I 1] := by unfold wmoveR; rw [if_neg h]
    rw [e] at hm
    refine wadd1_nf _ _ _ _ _ _ (Cl.of hm ⟨_, _, _, _, rfl, ifB_intro (fun _ => ?_) (fun h => by simp at h)⟩)
    unfold waddR; rw [if_neg h]

theorem csame_loop (l m : List (Int × Int)) (hlm : l.length = m.length) (hl : l.length ≤ 1000000) {FX : Prop} (hFX : FX) {Qf Qt : Prop} (hf : ¬ l = m → Qf) (ht : l = m → Qt) :
    ∃ Inv : Bool → Int → Prop, ∃ mm : Bool → Int → Nat, (Inv false 0) ∧ (∀ b : Bool, ∀ x : Int, (Inv b x) → ifB (ilt x (rlen (cR l))) ((((0 : Int) ≤ x) ∧ (x < (rlen (cR l)))) ∧ (∃ x1 : Int, ∃ x2 : Int, (rget (cR l) x = [I x1, I x2]) ∧ ((((0 : Int) ≤ x) ∧ (x < (rlen (cR m)))) ∧ (∃ x3 : Int, ∃ x4 : Int, (rget (cR m) x = [I x3, I x4]) ∧ (ifB (bnot (band (ieq x1 x3) (band (ieq x2 x4) true))) Qf (FX ∧ ((Inv b (wadd IntKind.i64 x 1)) ∧ (Nat.le (Nat.succ (mm b (wadd IntKind.i64 x 1))) (mm b x))))))))) Qt) := by
  refine ⟨fun _ x => 0 ≤ x ∧ x ≤ l.length ∧ ∀ i : Nat, i < x.toNat → l[i]? = m[i]?, fun _ x => (l.length - x).toNat, ⟨by omega, by omega, by simp⟩, ?_⟩
  rintro _ x ⟨h0, h1, hp⟩
  refine ifB_intro (fun h => ?_) (fun h => ?_)
  · simp at h
    rw [wadd_i64 (by omega) (by omega)]
    have k1 : x.toNat < l.length := by omega
    have k2 : x.toNat < m.length := by omega
    refine ⟨⟨h0, by simpa using h⟩, _, _, rget_cR h0 h, ⟨h0, by simp; omega⟩, _, _, rget_cR h0 (by omega), ifB_intro (fun hb => hf (fun e => ?_)) (fun hb => ⟨hFX, ⟨by omega, by omega, fun i hi => ?_⟩, mlt (by dsimp only; omega)⟩)⟩
    · subst e
      simp at hb
    · by_cases hix : i < x.toNat
      · exact hp i hix
      · obtain rfl : i = x.toNat := by omega
        simp [ceAt, k1, k2] at hb
        rw [List.getElem?_eq_getElem k1, List.getElem?_eq_getElem k2]
        exact congrArg some (Prod.ext hb.1 hb.2)
  · simp at h
    refine ht (List.ext_getElem? (fun i => ?_))
    by_cases hi : i < l.length
    · exact hp i (by omega)
    · rw [List.getElem?_eq_none (by omega), List.getElem?_eq_none (by omega)]

theorem rwsame_fn (wd sl : Int) (cl : List (Int × Int)) (wd2 sl2 : Int) (cl2 : List (Int × Int)) (hl : cl.length ≤ 1000000) : Ct Try.prog 158 {} [win3 wd sl (cR cl), win3 wd2 sl2 (cR cl2)] (fun r => r = [B (decide (wd = wd2 ∧ sl = sl2 ∧ cl = cl2))]) := by
  refine rwsame_nf _ _ _ _ _ _ _ (ifB_intro (fun h => ?_) (fun h => ?_))
  · simp only [bor_t, ine_eq, Bool.not_eq_true', decide_eq_false_iff_not, rlen_cR] at h
    have : ¬ (wd = wd2 ∧ sl = sl2 ∧ cl = cl2) := by
      rintro ⟨rfl, rfl, rfl⟩
      simp at h
    simp [this]
  · simp only [bor_f, ine_eq, Bool.not_eq_false', decide_eq_true_eq, rlen_cR] at h
    exact csame_loop cl cl2 (by omega) hl rfl (fun hn => by simp [hn]) (fun hn => by simp [h, hn])

theorem cequal_fn (l m : List (Int × Int)) (hl : l.length ≤ 1000000) : Ct Try.prog 119 {} [SL 2 (cR l), SL 2 (cR m)] (fun r => r = [B (decide (l = m))]) := by
  refine cequal_nf _ _ _ (ifB_intro (fun h => ?_) (fun h => ?_))
  · simp at h
    have : ¬ l = m := fun e => by subst e; omega
    simp [this]
  · simp at h
    exact csame_loop l m (by omega) hl rfl (fun hn => by simp [hn]) (fun hn => by simp [hn])

theorem bare_fn (wd sl : Int) (cl : List (Int × Int)) : Ct Try.prog 153 {} [win3 wd sl (cR cl)] (fun r => r = [B (decide (wd = 0 ∧ sl = 0 ∧ cl = []))]) := by
  refine bare_nf _ _ _ _ ?_
  have : bpick (bpick (ieq wd 0) (ieq sl 0) false) (ieq (rlen (cR cl)) 0) false = decide (wd = 0 ∧ sl = 0 ∧ cl = []) := by
    rw [Bool.eq_iff_iff]; simp [and_assoc]
  rw [this]

end Go.Proofs.Ytohmeljljamigaa.Cmp

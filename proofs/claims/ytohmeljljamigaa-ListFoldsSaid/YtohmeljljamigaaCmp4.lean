/- Layer 11: windows that go on, and are added to; the document's answers. -/
import Derived.Test.YtohmeljljamigaaCmp3
namespace Go.Proofs.Ytohmeljljamigaa.Cmp
open Go Go.Px Go.Proofs
set_option maxRecDepth 100000
set_option linter.unusedVariables false

theorem rem_nn {x n : Int} (h0 : 0 ≤ x) (hn : 1 ≤ n) : wrem x n = x % n ∧ 0 ≤ x % n ∧ x % n < n := by
  refine ⟨?_, Int.emod_nonneg x (by omega), Int.emod_lt_of_pos x (by omega)⟩
  unfold wrem; exact Int.tmod_eq_emod_of_nonneg h0

def getS (sl : Int) (cl : List (Int × Int)) (p : Int) : Int × Int := if (sl < p ∨ p ≤ sl - cl.length) ∨ p < 0 then (0, 0) else ceAt cl (p % cl.length)
theorem rwget_fn (wd sl : Int) (cl : List (Int × Int)) (p : Int) (h1 : 1 ≤ cl.length) (h2 : cl.length ≤ 16) (hs : 0 ≤ sl) (hs2 : sl ≤ 1099511627776) : Ct Try.prog 213 {} [win3 wd sl (cR cl), I p] (fun r => r = [.agg [I (getS sl cl p).1, I (getS sl cl p).2]]) := by
  refine rwget_nf _ _ _ _ _ ?_
  rw [rlen_cR, wsub_i64 (by omega) (by omega)]
  refine ifB_intro (fun h => ?_) (fun h => ?_)
  · simp only [bor_t, igt_eq, ile_eq, ilt_eq, decide_eq_true_eq] at h
    simp [getS, h]
  · simp only [bor_f, igt_eq, ile_eq, ilt_eq, decide_eq_false_iff_not] at h
    obtain ⟨m1, m2, m3⟩ := rem_nn (x := p) (n := cl.length) (by omega) (by omega)
    rw [m1]
    refine ⟨by omega, ⟨m2, m3⟩, _, _, rget_cR m2 m3, ?_⟩
    have : ¬ ((sl < p ∨ p ≤ sl - cl.length) ∨ p < 0) := by omega
    simp [getS, this]

theorem getD_ceAt (l : List (Int × Int)) (p : Nat) (i : Int) (h : i = p) : l.getD p (0, 0) = ceAt l i := by
  subst h; simp [ceAt]

theorem rwmove_fn (wd sl : Int) (cl : List (Int × Int)) (a : Int) : Ct Try.prog 198 {} [win3 wd sl (cR cl), I a] (fun r => r = wmoveR wd sl cl a) := by
  refine rwmove_nf _ _ _ _ _ (Cl.of (rwright_fn wd sl cl) ⟨_, rfl, ifB_intro (fun h => ?_) (fun h => ?_)⟩)
  · simp at h; simp [wmoveR, h]
  · simp at h
    refine Cl.of (rtime_fn a) ⟨_, rfl, ifB_intro (fun h1 => ?_) (fun h1 => ?_)⟩
    · simp at h1; simp [wmoveR, h1]
    · simp at h1
      have hw := h
      have ha := h1
      unfold winP at hw
      unfold timP at hw ha
      obtain ⟨q1, q2, q3⟩ := quo_nn (a := a) (b := wd) (by omega) (by omega) (by omega)
      rw [q1]
      refine ⟨by omega, ifB_intro (fun h2 => ?_) (fun h2 => ?_)⟩
      · simp at h2; simp [wmoveR, h, h1, h2]
      · simp at h2
        have h2' : ¬ a / wd ≤ sl := by omega
        generalize hslot : a / wd = slot at *
        have hlen : (1 : Int) ≤ cl.length ∧ (cl.length : Int) ≤ 16 := by omega
        rw [rlen_cR]
        refine ⟨⟨by omega, by omega, by omega⟩, ?_⟩
        refine ⟨fun x l => 0 ≤ x ∧ x ≤ cl.length ∧ l = cR ((List.range cl.length).map fun p : Nat => if slot - x < kk slot cl.length p then (if sl < kk slot cl.length p then (0, 0) else cl.getD p (0, 0)) else (0, 0)), fun x _ => (cl.length - x).toNat, ⟨by omega, by omega, ?_⟩, ?_⟩
        · rw [rrep_cR]
          congr 1
          apply List.ext_getElem
          · simp
          · intro p p1 p2
            have hr := kk_range (slot := slot) (n := cl.length) (p := p) (by omega)
            simp only [List.getElem_map, List.getElem_range, List.getElem_replicate]
            rw [if_neg (by omega)]
        · rintro x _ ⟨g1, g2, rfl⟩
          have setp : ∀ (i : Int) (v : Int × Int), 0 ≤ i → i < cl.length → x < cl.length → i = (slot - x) % cl.length → v = (if sl < slot - x then (0, 0) else ceAt cl i) →
              (((List.range cl.length).map fun p : Nat => if slot - x < kk slot cl.length p then (if sl < kk slot cl.length p then ((0, 0) : Int × Int) else cl.getD p (0, 0)) else (0, 0)).set i.toNat v) = (List.range cl.length).map fun p : Nat => if slot - (x + 1) < kk slot cl.length p then (if sl < kk slot cl.length p then (0, 0) else cl.getD p (0, 0)) else (0, 0) := by
            intro i v i0 i1 hx hi hv
            symm
            refine map_range_set (by omega) (fun p hp => ?_)
            have hk := kk_eq (slot := slot) (n := cl.length) (p := p) (x := slot - x) (by omega) (by omega) (by omega) (by omega) (by omega) (by omega)
            by_cases e : p = i.toNat
            · have e' : kk slot cl.length p = slot - x := hk.2 (by omega)
              rw [if_pos e, if_pos (by omega), e', hv]
              rw [getD_ceAt cl p i (by omega)]
            · have e' : ¬ kk slot cl.length p = slot - x := fun hh => e (by have := hk.1 hh; omega)
              rw [if_neg e]
              by_cases c : slot - x < kk slot cl.length p
              · rw [if_pos c, if_pos (by omega)]
              · rw [if_neg c, if_neg (by omega)]
          refine ifB_intro (fun g3 => ?_) (fun g3 => ?_)
          · simp at g3
            rw [wsub_i64 (by omega) (by omega), wadd_i64 (a := x) (b := 1) (by omega) (by omega)]
            refine ifB_intro (fun g4 => ?_) (fun g4 => ?_)
            · simp at g4
              obtain ⟨m1, m2, m3⟩ := rem_nn (x := slot - x) (n := cl.length) (by omega) (by omega)
              rw [m1]
              refine ⟨by omega, Cl.of (rwget_fn wd sl cl _ (by omega) (by omega) (by omega) (by omega)) ⟨_, _, rfl, ⟨m2, by simp; omega⟩, ⟨m2, by simp; omega⟩, rfl, ⟨by omega, by omega, ?_⟩, mlt (by dsimp only; omega)⟩⟩
              rw [rset_cR, setp _ _ m2 m3 g3 rfl ?_]
              unfold getS
              by_cases c : sl < slot - x
              · rw [if_pos (by omega), if_pos c]
              · rw [if_neg (by omega), if_neg c]
            · simp at g4
              rw [wadd_i64 (a := slot - x) (by omega) (by omega)]
              obtain ⟨m1, m2, m3⟩ := rem_nn (x := slot - x + cl.length) (n := cl.length) (by omega) (by omega)
              rw [m1]
              refine ⟨by omega, by omega, ⟨m2, m3⟩, _, _, rget_cR m2 m3, ⟨m2, by rw [rlen_cR, List.length_map, List.length_range]; omega⟩, ⟨m2, by rw [rlen_cR, List.length_map, List.length_range]; omega⟩, rfl, ⟨by omega, by omega, ?_⟩, mlt (by dsimp only; omega)⟩
              have em : (slot - x + cl.length) % (cl.length : Int) = (slot - x) % cl.length := by simp
              rw [rset_cR, setp _ _ m2 m3 g3 em ?_]
              rw [if_neg (by omega)]
          · simp at g3
            obtain rfl : x = cl.length := by omega
            have : ((List.range cl.length).map fun p : Nat => if slot - cl.length < kk slot cl.length p then (if sl < kk slot cl.length p then ((0, 0) : Int × Int) else cl.getD p (0, 0)) else (0, 0)) = mvL sl slot cl := by
              unfold mvL
              apply List.map_congr_left
              intro p hp
              have hr := kk_range (slot := slot) (n := cl.length) (p := p) (by omega)
              rw [if_pos hr.1]
            rw [this]
            simp only [wmoveR]
            rw [if_pos ⟨h, h1⟩, hslot, if_neg h2']

/-- A cell, when something is counted in it. -/
def ceU (c : Int × Int) (ok : Bool) : Int × Int := if ok = true then (upI c.1 1, c.2) else (c.1, upI c.2 1)
def addL (cl : List (Int × Int)) (i : Int) (ok : Bool) : List (Int × Int) := cl.set i.toNat (ceU (ceAt cl i) ok)
/-- A window to which something is added that may be. -/
def wadS (wd sl : Int) (cl : List (Int × Int)) (a : Int) (ok : Bool) : Int × List (Int × Int) :=
  if a / wd ≤ sl then (if a / wd ≤ sl - cl.length then (sl, cl) else (sl, addL cl ((a / wd) % cl.length) ok)) else (a / wd, addL (mvL sl (a / wd) cl) ((a / wd) % cl.length) ok)
def waddR (wd sl : Int) (cl : List (Int × Int)) (a : Int) (ok : Bool) : List SV :=
  if winP wd sl cl ∧ timP a then [win3 wd (wadS wd sl cl a ok).1 (cR (wadS wd sl cl a ok).2), I 0] else [win3 wd sl (cR cl), I 1]

theorem mv_shape {wd sl : Int} {cl : List (Int × Int)} {a : Int} (h : winP wd sl cl ∧ timP a) : ∃ (s2 : Int) (l2 : List (Int × Int)), wmoveR wd sl cl a = [win3 wd s2 (cR l2), I 0] ∧ l2.length = cl.length ∧ a / wd ≤ s2 ∧ 0 ≤ s2 ∧ s2 ≤ 1099511627776 ∧
    ∀ ok, wadS wd sl cl a ok = if a / wd ≤ s2 - cl.length then (s2, l2) else (s2, addL l2 ((a / wd) % cl.length) ok) := by
  have hw := h.1
  have ha := h.2
  unfold winP at hw
  unfold timP at hw ha
  obtain ⟨q1, q2, q3⟩ := quo_nn (a := a) (b := wd) (by omega) (by omega) (by omega)
  unfold wmoveR
  rw [if_pos h]
  by_cases c : a / wd ≤ sl
  · rw [if_pos c]
    exact ⟨_, _, rfl, rfl, c, by omega, by omega, fun ok => by unfold wadS; rw [if_pos c]⟩
  · rw [if_neg c]
    exact ⟨_, _, rfl, mvL_len _ _ _, by omega, by omega, by omega, fun ok => by unfold wadS; rw [if_neg c, if_neg (by omega)]⟩

theorem wadd_fn (wd sl : Int) (cl : List (Int × Int)) (a : Int) (ok : Bool) : Ct Try.prog 124 {} [win3 wd sl (cR cl), I a, B ok] (fun r => r = waddR wd sl cl a ok) := by
  have hm := wmove_fn wd sl cl a
  by_cases h : winP wd sl cl ∧ timP a
  · obtain ⟨s2, l2, e, hl, hs, s0, s1, hS⟩ := mv_shape h
    rw [e] at hm
    have hw := h.1
    have ha := h.2
    unfold winP at hw
    unfold timP at hw ha
    obtain ⟨q1, q2, q3⟩ := quo_nn (a := a) (b := wd) (by omega) (by omega) (by omega)
    refine wadd1_nf _ _ _ _ _ _ (Cl.of hm ⟨_, _, _, _, rfl, ifB_intro (fun h => by simp at h) (fun _ => ⟨by omega, ?_⟩)⟩)
    obtain ⟨m1, m2, m3⟩ := rem_nn (x := a / wd) (n := cl.length) (by omega) (by omega)
    rw [q1, rlen_cR, hl, wsub_i64 (by omega) (by omega), m1]
    unfold waddR
    rw [if_pos h, hS]
    refine ifB_intro (fun h2 => ?_) (fun h2 => ?_)
    · simp at h2; rw [if_pos h2]
    · simp at h2
      rw [if_neg (by omega)]
      refine Cl.of (cclone_fn _ (by simp; omega)) ⟨_, rfl, by omega, ⟨m2, by simp; omega⟩, ?_⟩
      have hi : (0 : Int) ≤ (a / wd) % cl.length ∧ (a / wd) % cl.length < rlen (cR l2) := ⟨m2, by simp; omega⟩
      have hg := rget_cR (l := l2) m2 (by omega)
      refine ifB_intro (fun h3 => ?_) (fun h3 => ?_)
      · refine ⟨hi, _, _, hg, Cl.of (up_fn _ _) ⟨_, rfl, hi, _, _, hg, ?_⟩⟩
        rw [rset_cR]
        simp [addL, ceU, h3]
      · refine ⟨hi, _, _, hg, Cl.of (up_fn _ _) ⟨_, rfl, hi, _, _, hg, ?_⟩⟩
        rw [rset_cR]
        simp [addL, ceU, h3]
  · have e : wmoveR wd sl cl a = [win3 wd sl (cR cl), I 1] := by unfold wmoveR; rw [if_neg h]
    rw [e] at hm
    refine wadd1_nf _ _ _ _ _ _ (Cl.of hm ⟨_, _, _, _, rfl, ifB_intro (fun _ => ?_) (fun h => by simp at h)⟩)
    unfold waddR; rw [if_neg h]

theorem rwadd_fn (wd sl : Int) (cl : List (Int × Int)) (a : Int) (ok : Bool) : Ct Try.prog 165 {} [win3 wd sl (cR cl), I a, B ok] (fun r => r = waddR wd sl cl a ok) := by
  have hm := rwmove_fn wd sl cl a
  by_cases h : winP wd sl cl ∧ timP a
  · obtain ⟨s2, l2, e, hl, hs, s0, s1, hS⟩ := mv_shape h
    rw [e] at hm
    have hw := h.1
    have ha := h.2
    unfold winP at hw
    unfold timP at hw ha
    obtain ⟨q1, q2, q3⟩ := quo_nn (a := a) (b := wd) (by omega) (by omega) (by omega)
    refine rwadd_nf _ _ _ _ _ _ (Cl.of hm ⟨_, _, _, _, rfl, ifB_intro (fun h => by simp at h) (fun _ => ⟨by omega, ?_⟩)⟩)
    obtain ⟨m1, m2, m3⟩ := rem_nn (x := a / wd) (n := cl.length) (by omega) (by omega)
    have e0 : rapp [] (cR l2) = cR l2 := by simp [rapp]
    rw [q1, e0, rlen_cR, hl, wsub_i64 (by omega) (by omega), m1]
    unfold waddR
    rw [if_pos h, hS]
    refine ifB_intro (fun h2 => ?_) (fun h2 => ?_)
    · simp at h2; rw [if_pos h2]
    · simp at h2
      rw [if_neg (by omega)]
      refine ⟨by simp; omega, ?_⟩
      have hi : (0 : Int) ≤ (a / wd) % cl.length ∧ (a / wd) % cl.length < cl.length := ⟨m2, m3⟩
      have hg := rget_cR (l := l2) m2 (by omega)
      refine ifB_intro (fun h3 => ?_) (fun h3 => ?_)
      · refine ⟨by omega, by omega, hi, hi, _, _, hg, Cl.of (rup_fn _ _) ⟨_, rfl, hi, hi, _, _, hg, ?_⟩⟩
        rw [rset_cR]
        simp [addL, ceU, h3]
      · refine ⟨by omega, by omega, hi, hi, _, _, hg, Cl.of (rup_fn _ _) ⟨_, rfl, hi, hi, _, _, hg, ?_⟩⟩
        rw [rset_cR]
        simp [addL, ceU, h3]
  · have e : wmoveR wd sl cl a = [win3 wd sl (cR cl), I 1] := by unfold wmoveR; rw [if_neg h]
    rw [e] at hm
    refine rwadd_nf _ _ _ _ _ _ (Cl.of hm ⟨_, _, _, _, rfl, ifB_intro (fun _ => ?_) (fun h => by simp at h)⟩)
    unfold waddR; rw [if_neg h]

theorem csame_loop (l m : List (Int × Int)) (hlm : l.length = m.length) (hl : l.length ≤ 1000000) {FX : Prop} (hFX : FX) {Qf Qt : Prop} (hf : ¬ l = m → Qf) (ht : l = m → Qt) :
    ∃ Inv : Bool → Int → Prop, ∃ mm : Bool → Int → Nat, (Inv false 0) ∧ (∀ b : Bool, ∀ x : Int, (Inv b x) → ifB (ilt x (rlen (cR l))) ((((0 : Int) ≤ x) ∧ (x < (rlen (cR l)))) ∧ (∃ x1 : Int, ∃ x2 : Int, (rget (cR l) x = [I x1, I x2]) ∧ ((((0 : Int) ≤ x) ∧ (x < (rlen (cR m)))) ∧ (∃ x3 : Int, ∃ x4 : Int, (rget (cR m) x = [I x3, I x4]) ∧ (ifB (bnot (band (ieq x1 x3) (band (ieq x2 x4) true))) Qf (FX ∧ ((Inv b (wadd IntKind.i64 x 1)) ∧ (Nat.le (Nat.succ (mm b (wadd IntKind.i64 x 1))) (mm b x))))))))) Qt) := by
  refine ⟨fun _ x => 0 ≤ x ∧ x ≤ l.length ∧ ∀ i : Nat, i < x.toNat → l[i]? = m[i]?, fun _ x => (l.length - x).toNat, ⟨by omega, by omega, by simp⟩, ?_⟩
  rintro _ x ⟨h0, h1, hp⟩
  refine ifB_intro (fun h => ?_) (fun h => ?_)
  · simp at h
    rw [wadd_i64 (by omega) (by omega)]
    have k1 : x.toNat < l.length := by omega
    have k2 : x.toNat < m.length := by omega
    refine ⟨⟨h0, by simpa using h⟩, _, _, rget_cR h0 h, ⟨h0, by simp; omega⟩, _, _, rget_cR h0 (by omega), ifB_intro (fun hb => hf (fun e => ?_)) (fun hb => ⟨hFX, ⟨by omega, by omega, fun i hi => ?_⟩, mlt (by dsimp only; omega)⟩)⟩
    · subst e
      simp at hb
    · by_cases hix : i < x.toNat
      · exact hp i hix
      · obtain rfl : i = x.toNat := by omega
        simp [ceAt, k1, k2] at hb
        rw [List.getElem?_eq_getElem k1, List.getElem?_eq_getElem k2]
        exact congrArg some (Prod.ext hb.1 hb.2)
  · simp at h
    refine ht (List.ext_getElem? (fun i => ?_))
    by_cases hi : i < l.length
    · exact hp i (by omega)
    · rw [List.getElem?_eq_none (by omega), List.getElem?_eq_none (by omega)]

theorem rwsame_fn (wd sl : Int) (cl : List (Int × Int)) (wd2 sl2 : Int) (cl2 : List (Int × Int)) (hl : cl.length ≤ 1000000) : Ct Try.prog 158 {} [win3 wd sl (cR cl), win3 wd2 sl2 (cR cl2)] (fun r => r = [B (decide (wd = wd2 ∧ sl = sl2 ∧ cl = cl2))]) := by
  refine rwsame_nf _ _ _ _ _ _ _ (ifB_intro (fun h => ?_) (fun h => ?_))
  · simp only [bor_t, ine_eq, Bool.not_eq_true', decide_eq_false_iff_not, rlen_cR] at h
    have : ¬ (wd = wd2 ∧ sl = sl2 ∧ cl = cl2) := by
      rintro ⟨rfl, rfl, rfl⟩
      simp at h
    simp [this]
  · simp only [bor_f, ine_eq, Bool.not_eq_false', decide_eq_true_eq, rlen_cR] at h
    exact csame_loop cl cl2 (by omega) hl rfl (fun hn => by simp [hn]) (fun hn => by simp [h, hn])

theorem cequal_fn (l m : List (Int × Int)) (hl : l.length ≤ 1000000) : Ct Try.prog 119 {} [SL 2 (cR l), SL 2 (cR m)] (fun r => r = [B (decide (l = m))]) := by
  refine cequal_nf _ _ _ (ifB_intro (fun h => ?_) (fun h => ?_))
  · simp at h
    have : ¬ l = m := fun e => by subst e; omega
    simp [this]
  · simp at h
    exact csame_loop l m (by omega) hl rfl (fun hn => by simp [hn]) (fun hn => by simp [hn])

theorem bare_fn (wd sl : Int) (cl : List (Int × Int)) : Ct Try.prog 153 {} [win3 wd sl (cR cl)] (fun r => r = [B (decide (wd = 0 ∧ sl = 0 ∧ cl = []))]) := by
  refine bare_nf _ _ _ _ ?_
  have : bpick (bpick (ieq wd 0) (ieq sl 0) false) (ieq (rlen (cR cl)) 0) false = decide (wd = 0 ∧ sl = 0 ∧ cl = []) := by
    rw [Bool.eq_iff_iff]; simp [and_assoc]
  rw [this]

end Go.Proofs.Ytohmeljljamigaa.Cmp

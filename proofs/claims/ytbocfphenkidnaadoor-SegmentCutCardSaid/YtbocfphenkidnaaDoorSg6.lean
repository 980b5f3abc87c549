/- Layer 9: bytes are those of one segment; a reading goes as far as they are. -/
import Derived.Test.YtbocfphenkidnaaDoorSg5
namespace Go.Proofs.YtbocfphenkidnaaDoor.Seg
open Go Go.Px Go.Proofs Go.Proofs.YtbocfphenkidnaaDoor.Cod
set_option maxRecDepth 100000
set_option linter.unusedVariables false

theorem fr_inj {k k' : Int} {p p' t t' : List Int} (h : fr k p ++ t = fr k' p' ++ t') : k = k' ∧ p = p' ∧ t = t' := by
  have h0 := h
  rw [fr_cons, fr_cons] at h
  simp only [List.cons.injEq, true_and] at h
  obtain ⟨h1, rfl, h2⟩ := h
  have h3 := (List.append_inj h2 (by omega)).1
  subst h3
  exact ⟨rfl, rfl, List.append_cancel_left h0⟩

theorem hdP_inj {n s a n' s' a' : Int} (h : headOK n s a) (h' : headOK n' s' a') (e : hdP n s a = hdP n' s' a') : n = n' ∧ s = s' ∧ a = a' := by
  obtain ⟨h1, h2⟩ := h
  obtain ⟨h3, h4⟩ := h'
  unfold ctxOK at h2 h4
  have e := List.append_cancel_left e
  obtain ⟨e1, e⟩ := leb_inj _ _ _ _ e
  obtain ⟨e2, e⟩ := leb_inj _ _ _ _ e
  obtain ⟨e3, _⟩ := leb_inj _ _ [] [] (by simpa using e)
  omega

theorem fin3_app : ∀ (p q : List EvD) (s a : Int) (m : List ByteArray), fin3 s a m (p ++ q) = fin3 (fin3 s a m p).1 (fin3 s a m p).2.1 (fin3 s a m p).2.2 q
  | [], q, s, a, m => rfl
  | x :: p, q, s, a, m => fin3_app p q x.s x.a _
theorem recL_app : ∀ (p q : List EvD) (s a : Int) (m : List ByteArray), recL s a m (p ++ q) = recL s a m p ++ recL (fin3 s a m p).1 (fin3 s a m p).2.1 (fin3 s a m p).2.2 q
  | [], q, s, a, m => rfl
  | x :: p, q, s, a, m => by simp [recL, recL_app p q, fin3]
theorem okL_app : ∀ (p q : List EvD) (s a : Int) (m : List ByteArray), okL s a m (p ++ q) → okL (fin3 s a m p).1 (fin3 s a m p).2.1 (fin3 s a m p).2.2 q
  | [], q, s, a, m, h => h
  | x :: p, q, s, a, m, h => okL_app p q x.s x.a _ h.2

theorem recL_cmp : ∀ (p q : List EvD) (s a : Int) (m : List ByteArray) (x y : List Int), okL s a m p → okL s a m q → recL s a m p ++ x = recL s a m q ++ y →
    (∃ u, q = p ++ u ∧ x = recL (fin3 s a m p).1 (fin3 s a m p).2.1 (fin3 s a m p).2.2 u ++ y) ∨ (∃ u, p = q ++ u ∧ y = recL (fin3 s a m q).1 (fin3 s a m q).2.1 (fin3 s a m q).2.2 u ++ x)
  | [], q, s, a, m, x, y, _, _, h => .inl ⟨q, rfl, h⟩
  | e :: p, [], s, a, m, x, y, _, _, h => .inr ⟨e :: p, rfl, h.symm⟩
  | e :: p, e' :: q, s, a, m, x, y, h1, h2, h => by
    simp only [recL, List.append_assoc] at h
    obtain ⟨_, h3, h4⟩ := fr_inj h
    obtain ⟨rfl, _⟩ := enc_inj (r := []) (r' := []) h1.1 h2.1 (by rw [h3])
    rcases recL_cmp p q _ _ _ x y h1.2 h2.2 h4 with ⟨u, rfl, hu⟩ | ⟨u, rfl, hu⟩
    · exact .inl ⟨u, rfl, hu⟩
    · exact .inr ⟨u, rfl, hu⟩

/-- What was read is a beginning of it. -/
def Beg (d t : Sc) : Prop := d = sc0 ∨ (d.num ≠ 0 ∧ d.num = t.num ∧ d.bs = t.bs ∧ d.ba = t.ba ∧ (∃ u, t.ev = d.ev ++ u ∧ (d.sl = true → u = [])) ∧ (d.sl = true → t.sl = true))

def slx (d : Sc) : List Int := if d.sl = true then fr 3 (slP d.ev.length d.s d.a) else []
theorem segL_pos {d : Sc} (h : d.num ≠ 0) : segL d = fr 1 (hdP d.num d.bs d.ba) ++ (recL d.bs d.ba [] d.ev ++ slx d) := by unfold segL; rw [if_neg h]; rfl

theorem seg_cmp {d t : Sc} (hd : ScOK d) (ht : ScOK t) {x y : List Int} (h : segL d ++ x = segL t ++ y) : Beg d t ∨ Beg t d := by
  by_cases h1 : d.num = 0
  · exact .inl (.inl (hd.zero h1))
  by_cases h2 : t.num = 0
  · exact .inr (.inl (ht.zero h2))
  rw [segL_pos h1, segL_pos h2] at h
  simp only [List.append_assoc] at h
  obtain ⟨_, h3, h4⟩ := fr_inj h
  obtain ⟨e1, e2, e3⟩ := hdP_inj (hd.head h1) (ht.head h2) h3
  have o1 := hd.evs h1
  have o2 := ht.evs h2
  rw [e2, e3] at h4 o1
  rcases recL_cmp _ _ _ _ _ _ _ o1 o2 h4 with ⟨u, hu, hx⟩ | ⟨u, hu, hx⟩
  · cases hs : d.sl with
    | false => exact .inl (.inr ⟨h1, e1, e2, e3, ⟨u, hu, fun e => by rw [hs] at e; cases e⟩, fun e => by rw [hs] at e; cases e⟩)
    | true =>
      have hu0 : u = [] := by
        cases u with
        | nil => rfl
        | cons e u =>
          simp only [slx, hs, if_true, recL, List.append_assoc] at hx
          have := (fr_inj hx).1
          omega
      subst hu0
      cases hs2 : t.sl with
      | true => exact .inl (.inr ⟨h1, e1, e2, e3, ⟨[], hu, fun _ => rfl⟩, fun _ => hs2⟩)
      | false => exact .inr (.inr ⟨h2, e1.symm, e2.symm, e3.symm, ⟨[], by simpa using hu.symm, fun _ => rfl⟩, fun e => by rw [hs2] at e; cases e⟩)
  · cases hs : t.sl with
    | false => exact .inr (.inr ⟨h2, e1.symm, e2.symm, e3.symm, ⟨u, hu, fun e => by rw [hs] at e; cases e⟩, fun e => by rw [hs] at e; cases e⟩)
    | true =>
      have hu0 : u = [] := by
        cases u with
        | nil => rfl
        | cons e u =>
          simp only [slx, hs, if_true, recL, List.append_assoc] at hx
          have := (fr_inj hx).1
          omega
      subst hu0
      cases hs2 : d.sl with
      | true => exact .inl (.inr ⟨h1, e1, e2, e3, ⟨[], by simpa using hu.symm, fun _ => rfl⟩, fun _ => hs⟩)
      | false => exact .inl (.inr ⟨h1, e1, e2, e3, ⟨[], by simpa using hu.symm, fun _ => rfl⟩, fun e => by rw [hs2] at e; cases e⟩)

theorem Sc.eq {d t : Sc} (hd : ScOK d) (ht : ScOK t) (h0 : d.num ≠ 0) (h1 : d.num = t.num) (h2 : d.bs = t.bs) (h3 : d.ba = t.ba) (h4 : d.ev = t.ev) (h5 : d.sl = t.sl) : d = t := by
  have f1 := hd.fin h0
  have f2 := ht.fin (h1 ▸ h0)
  rw [h2, h3, h4, ← f2] at f1
  obtain ⟨n, bs, ba, ev, s, a, m, sl⟩ := d
  obtain ⟨n', bs', ba', ev', s', a', m', sl'⟩ := t
  simp only at h1 h2 h3 h4 h5 f1
  simp only [Prod.mk.injEq] at f1
  obtain ⟨g1, g2, g3⟩ := f1
  subst h1 h2 h3 h4 h5 g1 g2 g3
  rfl

theorem okL_seq : ∀ (l : List EvD) (s a : Int) (m : List ByteArray), okL s a m l → s + l.length ≤ (fin3 s a m l).1
  | [], s, _, _, _ => by simp [fin3]
  | e :: l, s, a, m, h => by
    have h1 := okL_seq l e.s e.a _ h.2
    have h2 := h.1.seq
    simp only [fin3, List.length_cons]
    omega

/-- As much as the other one has, or the next frame is to be taken. -/
theorem Beg.next {d t : Sc} (hd : ScOK d) (ht : ScOK t) (h : Beg d t) : d = t ∨ (d.sl = false ∧ ∃ k p r, segL t = segL d ++ (fr k p ++ r) ∧ (1 ≤ k ∧ k ≤ 3) ∧ p.length ≤ 200 ∧ ¬ TakeO d k p false d) := by
  rcases h with rfl | ⟨h0, h1, h2, h3, ⟨u, hu, hs⟩, hl⟩
  · by_cases hn : t.num = 0
    · exact .inl (ht.zero hn).symm
    have hh := ht.head hn
    have hh' := hh
    unfold headOK ctxOK at hh'
    have := hdP_len (n := t.num) (s := t.bs) (a := t.ba) (by omega) (by omega) (by omega)
    refine .inr ⟨rfl, 1, _, _, by rw [segL_pos hn]; rfl, by omega, by omega, ?_⟩
    intro tk
    cases tk with
    | no g1 g2 g3 => exact g1 rfl rfl rfl _ _ _ hh rfl
  · have hn : t.num ≠ 0 := h1 ▸ h0
    have o := ht.evs hn
    have hf := hd.fin h0
    rw [h2, h3] at hf
    have e1 : (fin3 t.bs t.ba [] d.ev).1 = d.s := by rw [← hf]
    have e2 : (fin3 t.bs t.ba [] d.ev).2.1 = d.a := by rw [← hf]
    have e3 : (fin3 t.bs t.ba [] d.ev).2.2 = d.m := by rw [← hf]
    have hsT : segL t = fr 1 (hdP d.num d.bs d.ba) ++ (recL d.bs d.ba [] d.ev ++ (recL d.s d.a d.m u ++ slx t)) := by
      rw [segL_pos hn, h1, h2, h3, hu, recL_app, e1, e2, e3]; simp
    cases u with
    | cons e u =>
      have hsl : d.sl = false := by
        cases h : d.sl with
        | false => rfl
        | true => exact absurd (hs h) (by simp)
      rw [hu] at o
      have o := okL_app _ _ _ _ _ o
      rw [e1, e2, e3] at o
      have := encL_len o.1
      refine .inr ⟨hsl, 2, encL d.s d.a d.m e, recL e.s e.a (bhdN d.m e.c) u ++ slx t, ?_, by omega, by omega, ?_⟩
      · rw [hsT, segL_pos h0]; simp [recL, slx, hsl]
      · intro tk
        cases tk with
        | no g1 g2 g3 => exact g2 hsl h0 rfl e o.1 rfl
    | nil =>
      have hev : d.ev = t.ev := by simpa using hu.symm
      by_cases hsl : d.sl = t.sl
      · exact .inl (Sc.eq hd ht h0 h1 h2 h3 hev hsl)
      have hs1 : d.sl = false := by
        cases h : d.sl with
        | false => rfl
        | true => exact absurd (h.trans (hl h).symm) hsl
      have hs2 : t.sl = true := by
        cases h : t.sl with
        | true => rfl
        | false => exact absurd (hs1.trans h.symm) hsl
      have hft := ht.fin hn
      rw [← hev, ← hf] at hft
      simp only [Prod.mk.injEq] at hft
      obtain ⟨f1, f2, _⟩ := hft
      have hc := hd.ctx h0
      unfold ctxOK at hc
      have hle : (slP d.ev.length d.s d.a).length ≤ 200 := by
        have b2 : (leb d.s.toNat).length ≤ 10 := leb_small (by omega)
        have b3 : (leb d.a.toNat).length ≤ 10 := leb_small (by omega)
        have hq := okL_seq _ _ _ _ (hd.evs h0)
        rw [← hd.fin h0] at hq
        have hh := (hd.head h0).2
        unfold ctxOK at hh
        have b1 : (leb (d.ev.length : Int).toNat).length ≤ 10 := leb_small (by omega)
        simp [slP] at b1 ⊢
        omega
      refine .inr ⟨hs1, 3, slP d.ev.length d.s d.a, [], ?_, by omega, hle, ?_⟩
      · rw [hsT, segL_pos h0]; simp [recL, slx, hs1, hs2, hev, f1, f2]
      · intro tk
        cases tk with
        | no g1 g2 g3 => exact g3 hs1 h0 rfl rfl

theorem Beg.len {d t : Sc} (hd : ScOK d) (ht : ScOK t) (h : Beg d t) : (segL d).length ≤ (segL t).length ∧ ((segL d).length = (segL t).length → d = t) := by
  rcases h.next hd ht with rfl | ⟨_, k, p, r, h1, _, _, _⟩
  · exact ⟨Nat.le_refl _, fun _ => rfl⟩
  · rw [h1]
    simp only [List.length_append, fr_len]
    exact ⟨by omega, fun h => by omega⟩

/-- A reading goes as far as there is something to be read. -/
theorem RdO.far {l : List Int} {d t : Sc} {st : Int} (h : RdO l d st) (ht : ScOK t) (hp : segL t <+: l) : Beg t d := by
  obtain ⟨x, hx⟩ := h.pre
  obtain ⟨y, hy⟩ := hp
  rcases seg_cmp h.ok ht (hx.trans hy.symm) with hb | hb
  · rcases hb.next h.ok ht with rfl | ⟨hs, k, p, r, h1, h2, h3, h4⟩
    · by_cases hn : d.num = 0
      · exact .inl (h.ok.zero hn)
      · exact .inr ⟨hn, rfl, rfl, rfl, ⟨[], by simp, fun _ => rfl⟩, id⟩
    · exfalso
      have hdr : l.drop (segL d).length = fr k p ++ (r ++ y) := by
        rw [← hy, h1]; simp
      have hx := h.ext
      rw [hdr, nextR_fr h2 h3] at hx
      rcases hx with ⟨w, k', p', n, hw, e, _⟩ | ⟨k', p', n, e, tk, _⟩
      · simp only [Prod.mk.injEq] at e
        exact hw e.1.symm
      · simp only [Prod.mk.injEq, true_and] at e
        obtain ⟨rfl, rfl, _⟩ := e
        exact h4 tk
  · exact hb

theorem RdO.whole {d t : Sc} {st : Int} (h : RdO (segL t) d st) (ht : ScOK t) : d = t ∧ st = endW 1 t.sl := by
  have hb := h.far ht (List.prefix_refl _)
  have hl := hb.len ht h.ok
  have hle := h.pre.length_le
  have e := hl.2 (by omega)
  subst e
  refine ⟨rfl, ?_⟩
  have hx := h.ext
  rw [List.drop_length] at hx
  rcases hx with ⟨w, k', p', n, hw, e, hst⟩ | ⟨k', p', n, e, tk, _⟩
  · simp only [nextR, if_true, Prod.mk.injEq] at e
    rw [hst, ← e.1]
  · simp [nextR] at e

theorem nextR_end {r : List Int} {k n : Int} {p : List Int} (h : nextR r = (1, k, p, n)) : r = [] := by
  unfold nextR at h
  split at h
  · assumption
  · repeat' split at h
    all_goals simp at h

/-- Bytes that end well are those of what was read. -/
theorem RdO.ends {l : List Int} {d : Sc} {st : Int} (h : RdO l d st) (hs : st = 1 ∨ st = 4) : l = segL d ∧ (st = 4 ↔ d.sl = true) := by
  rcases h.ext with ⟨w, k, p, n, hw, e, hst⟩ | ⟨k, p, n, e, tk, hst⟩
  · have hw1 : w = 1 := by
      unfold endW at hst
      split at hst
      · assumption
      · split at hst <;> omega
    subst hw1
    have hd := nextR_end e
    obtain ⟨x, hx⟩ := h.pre
    have : x = [] := by rw [← hx] at hd; simpa using hd
    subst this
    refine ⟨by simpa using hx.symm, ?_⟩
    rw [hst]
    cases d.sl <;> simp [endW]
  · omega

theorem RdO.st4 {l : List Int} {d : Sc} {st : Int} (h : RdO l d st) (hs : d.sl = false) : st ≠ 4 := by
  rcases h.ext with ⟨w, k, p, n, hw, e, hst⟩ | ⟨k, p, n, e, tk, hst⟩
  · rw [hst, hs]
    unfold endW
    split
    · simp
    · split <;> omega
  · omega

/-- A segment's bytes, cut. -/
theorem RdO.cut {t d : Sc} {j : Nat} {st : Int} (ht : ScOK t) (hj : j < (segL t).length) (h : RdO ((segL t).take j) d st) : Beg d t ∧ (segL d).length ≤ j ∧ d.sl = false ∧ ((st = 1 ∧ (segL d).length = j) ∨ st = 2) := by
  have hlj : ((segL t).take j).length = j := by simp; omega
  have hle := h.pre.length_le
  rw [hlj] at hle
  obtain ⟨x, hx⟩ := h.pre
  have hb : Beg d t := by
    rcases seg_cmp h.ok ht (x := x ++ (segL t).drop j) (y := []) (by rw [← List.append_assoc, hx]; simp) with hb | hb
    · exact hb
    · have := (hb.len ht h.ok).1
      omega
  refine ⟨hb, hle, ?_⟩
  rcases hb.next h.ok ht with e | ⟨hs, k, p, r, h1, h2, h3, h4⟩
  · subst e; omega
  refine ⟨hs, ?_⟩
  have hdr : ((segL t).take j).drop (segL d).length = (fr k p ++ r).take (j - (segL d).length) := by
    rw [List.drop_take, h1]; simp
  have hx := h.ext
  rw [hdr] at hx
  by_cases h0 : (segL d).length = j
  · left
    have e0 : j - (segL d).length = 0 := by omega
    rw [e0] at hx
    rcases hx with ⟨w, k', p', n, hw, e, hst⟩ | ⟨k', p', n, e, tk, _⟩
    · simp only [List.take_zero, nextR, if_true, Prod.mk.injEq] at e
      rw [hst, ← e.1, hs]
      exact ⟨rfl, h0⟩
    · simp [nextR] at e
  · right
    by_cases h7 : j - (segL d).length < p.length + 7
    · have e2 : (fr k p ++ r).take (j - (segL d).length) = (fr k p).take (j - (segL d).length) := by
        rw [List.take_append_of_le_length (by rw [fr_len]; omega)]
      rw [e2, nextR_cut h3 (by omega) h7] at hx
      rcases hx with ⟨w, k', p', n, hw, e, hst⟩ | ⟨k', p', n, e, tk, _⟩
      · simp only [Prod.mk.injEq] at e
        rw [hst, ← e.1, hs]
        rfl
      · simp at e
    · exfalso
      have e2 : (fr k p ++ r).take (j - (segL d).length) = fr k p ++ r.take (j - (segL d).length - (p.length + 7)) := by
        rw [List.take_append, List.take_of_length_le (by rw [fr_len]; omega), fr_len]
      rw [e2, nextR_fr h2 h3] at hx
      rcases hx with ⟨w, k', p', n, hw, e, _⟩ | ⟨k', p', n, e, tk, _⟩
      · simp only [Prod.mk.injEq] at e
        exact hw e.1.symm
      · simp only [Prod.mk.injEq, true_and] at e
        obtain ⟨rfl, rfl, _⟩ := e
        exact h4 tk

theorem mkS_ok {n s a : Int} {l : List EvD} (sl : Bool) (h : headOK n s a) (ho : okL s a [] l) : ScOK (mkS n s a l sl) := by
  have hn : n ≠ 0 := by have := h.1; omega
  exact ⟨fun e => absurd e hn, fun _ => h, fun _ => ho, fun _ => rfl⟩

end Go.Proofs.YtbocfphenkidnaaDoor.Seg

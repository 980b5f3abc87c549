/- Layer 9: a segment is read: what the loop comes to. -/
import Derived.Test.YtbocfphenkidnaaDoorSg3
namespace Go.Proofs.YtbocfphenkidnaaDoor.Seg
open Go Go.Px Go.Proofs Go.Proofs.YtbocfphenkidnaaDoor.Cod
set_option maxRecDepth 100000
set_option linter.unusedVariables false

def recL : Int → Int → List ByteArray → List EvD → List Int
  | _, _, _, [] => []
  | s, a, m, e :: l => fr 2 (encL s a m e) ++ recL e.s e.a (bhdN m e.c) l
def okL : Int → Int → List ByteArray → List EvD → Prop
  | _, _, _, [] => True
  | s, a, m, e :: l => EncOK s a m e ∧ okL e.s e.a (bhdN m e.c) l
def fin3 : Int → Int → List ByteArray → List EvD → Int × Int × List ByteArray
  | s, a, m, [] => (s, a, m)
  | _, _, m, e :: l => fin3 e.s e.a (bhdN m e.c) l

theorem fin3_snoc : ∀ (l : List EvD) (s a : Int) (m : List ByteArray) (e : EvD), fin3 s a m (l ++ [e]) = (e.s, e.a, bhdN (fin3 s a m l).2.2 e.c)
  | [], s, a, m, e => rfl
  | x :: l, s, a, m, e => fin3_snoc l x.s x.a (bhdN m x.c) e
theorem recL_snoc : ∀ (l : List EvD) (s a : Int) (m : List ByteArray) (e : EvD), recL s a m (l ++ [e]) = recL s a m l ++ fr 2 (encL (fin3 s a m l).1 (fin3 s a m l).2.1 (fin3 s a m l).2.2 e)
  | [], s, a, m, e => by simp [recL, fin3]
  | x :: l, s, a, m, e => by simp [recL, fin3, recL_snoc l]
theorem okL_snoc : ∀ (l : List EvD) (s a : Int) (m : List ByteArray) (e : EvD), okL s a m (l ++ [e]) ↔ okL s a m l ∧ EncOK (fin3 s a m l).1 (fin3 s a m l).2.1 (fin3 s a m l).2.2 e
  | [], s, a, m, e => by simp [okL, fin3]
  | x :: l, s, a, m, e => by simp [okL, fin3, okL_snoc l, and_assoc]
theorem recL_len : ∀ (l : List EvD) (s a : Int) (m : List ByteArray), 7 * l.length ≤ (recL s a m l).length
  | [], _, _, _ => by simp
  | x :: l, s, a, m => by
    have := recL_len l x.s x.a (bhdN m x.c)
    simp only [recL, List.length_append, fr_len, List.length_cons]
    omega

def segL (d : Sc) : List Int := if d.num = 0 then [] else fr 1 (hdP d.num d.bs d.ba) ++ (recL d.bs d.ba [] d.ev ++ (if d.sl = true then fr 3 (slP d.ev.length d.s d.a) else []))
def sc0 : Sc := ⟨0, 0, 0, [], 0, 0, [], false⟩

/-- What a scanner has is right. -/
structure ScOK (d : Sc) : Prop where
  zero : d.num = 0 → d = sc0
  head : d.num ≠ 0 → headOK d.num d.bs d.ba
  evs : d.num ≠ 0 → okL d.bs d.ba [] d.ev
  fin : d.num ≠ 0 → (d.s, d.a, d.m) = fin3 d.bs d.ba [] d.ev

theorem okL_ctx : ∀ (l : List EvD) (s a : Int) (m : List ByteArray), ctxOK s a → okL s a m l → ctxOK (fin3 s a m l).1 (fin3 s a m l).2.1
  | [], _, _, _, h, _ => h
  | e :: l, s, a, m, h, ⟨h1, h2⟩ => by
    refine okL_ctx l e.s e.a (bhdN m e.c) ?_ h2
    obtain ⟨_, _, _, h3, h4⟩ := chkE_zero h1.chk
    exact ⟨h4.1, h4.2, h3.1, h3.2⟩

theorem ScOK.ctx {d : Sc} (h : ScOK d) (hn : d.num ≠ 0) : ctxOK d.s d.a := by
  have h1 := okL_ctx d.ev d.bs d.ba [] (h.head hn).2 (h.evs hn)
  rw [← h.fin hn] at h1
  exact h1

theorem TakeO.ok {d d' : Sc} {k : Int} {p : List Int} {b : Bool} (t : TakeO d k p b d') (h : ScOK d) (hb : b = true) : ScOK d' ∧ segL d' = segL d ++ fr k p ∧ d'.num ≠ 0 := by
  cases t with
  | head n s a hs hn hk ok hp =>
    have h0 := h.zero hn
    have hn' : n ≠ 0 := by have := ok.1; omega
    refine ⟨⟨fun e => absurd e hn', fun _ => ok, fun _ => by rw [h0]; trivial, fun _ => by rw [h0]; rfl⟩, ?_, hn'⟩
    subst hk hp
    simp only [segL, hn, if_true, if_neg hn', List.nil_append]
    rw [h0]
    simp [sc0, recL]
  | record e hs hn hk ok hp =>
    have hf := h.fin hn
    have e1 : (fin3 d.bs d.ba [] d.ev).1 = d.s := by rw [← hf]
    have e2 : (fin3 d.bs d.ba [] d.ev).2.1 = d.a := by rw [← hf]
    have e3 : (fin3 d.bs d.ba [] d.ev).2.2 = d.m := by rw [← hf]
    refine ⟨⟨fun e => absurd e hn, h.head, fun _ => (okL_snoc _ _ _ _ _).2 ⟨h.evs hn, by rw [e1, e2, e3]; exact ok⟩, fun _ => by rw [fin3_snoc, e3]⟩, ?_, hn⟩
    subst hk hp
    simp only [segL, if_neg hn, hs, recL_snoc, e1, e2, e3]
    simp
  | last hs hn hk hp =>
    refine ⟨⟨fun e => absurd e hn, h.head, h.evs, h.fin⟩, ?_, hn⟩
    subst hk hp
    simp only [segL, if_neg hn, hs]
    simp
  | no => cases hb

/-- A frame that stands there whole. -/
theorem nextR_whole {r : List Int} (hb : Byts r) {k n : Int} {p : List Int} (h : nextR r = (0, k, p, n)) : (1 ≤ k ∧ k ≤ 3) ∧ p.length ≤ 200 ∧ n = p.length + 7 ∧ ∃ t, r = fr k p ++ t := by
  unfold nextR at h
  split at h
  · cases h
  rename_i h1
  split at h
  · cases h
  rename_i h2
  split at h
  · cases h
  rename_i h3
  split at h
  · cases h
  rename_i h4
  split at h
  · cases h
  rename_i h5
  split at h
  · rename_i h6
    have r0 := byAt_range hb (i := 0) (by omega) (by omega)
    have r1 := byAt_range hb (i := 1) (by omega) (by omega)
    obtain ⟨x, y, z, q, rfl⟩ : ∃ x y z q, r = x :: y :: z :: q := by
      match r, h2 with
      | x :: y :: z :: q, _ => exact ⟨x, y, z, q, rfl⟩
      | [], h2 => simp at h2
      | [_], h2 => simp at h2
      | [_, _], h2 => simp at h2
    have e0 : byAt (x :: y :: z :: q) 0 = x := rfl
    have e1 : byAt (x :: y :: z :: q) 1 = y := rfl
    have e2 : byAt (x :: y :: z :: q) 2 = z := rfl
    rw [e0] at h h3 h4 h6 r0
    rw [e1] at h h3 h4 h6 r1
    rw [e2] at h h5
    have hx : x = 0 := by omega
    rw [hx] at h h3 h4 h6
    have ht : (256 * 0 + y).toNat = y.toNat := by omega
    rw [ht] at h h6
    simp only [List.take_succ_cons, List.drop_succ_cons, List.drop_zero, Prod.mk.injEq, true_and] at h
    obtain ⟨g1, g2, g3⟩ := h
    have hl : (q.take y.toNat).length = y.toNat := by simp at h4 ⊢; omega
    have hy : ((q.take y.toNat).length : Int) = y := by omega
    rw [← g1, ← g2, ← g3]
    refine ⟨by omega, by omega, by omega, (x :: y :: z :: q).drop (y.toNat + 7), ?_⟩
    have : fr z (q.take y.toNat) = (x :: y :: z :: q).take (y.toNat + 7) := by
      rw [hx, ← h6, fr, hy]; rfl
    rw [this, List.take_append_drop]
  · cases h

theorem fr_cons (k : Int) (p t : List Int) : fr k p ++ t = 0 :: (p.length : Int) :: k :: (p ++ (s4 (sumL (0 :: (p.length : Int) :: k :: p) 0) ++ t)) := by simp [fr, sealB]

theorem nextR_fr {k : Int} {p : List Int} (hk : 1 ≤ k ∧ k ≤ 3) (hp : p.length ≤ 200) (t : List Int) : nextR (fr k p ++ t) = (0, k, p, (p.length : Int) + 7) := by
  have hlen : (fr k p ++ t).length = p.length + 7 + t.length := by simp [fr_len]
  have h0 : byAt (fr k p ++ t) 0 = 0 := by rw [fr_cons]; rfl
  have h1 : byAt (fr k p ++ t) 1 = p.length := by rw [fr_cons]; rfl
  have h2 : byAt (fr k p ++ t) 2 = k := by rw [fr_cons]; rfl
  have hne : fr k p ++ t ≠ [] := by rw [fr_cons]; simp
  have hn : (256 * 0 + (p.length : Int)).toNat = p.length := by omega
  unfold nextR
  rw [h0, h1, h2, hn, if_neg hne, if_neg (by omega), if_neg (by omega), if_neg (by omega), if_neg (by omega)]
  have e1 : (fr k p ++ t).take (p.length + 3) = 0 :: (p.length : Int) :: k :: p := by
    rw [fr_cons]; simp
  have e2 : (fr k p ++ t).take (p.length + 7) = fr k p := by
    rw [List.take_append_of_le_length (by rw [fr_len]; omega), List.take_of_length_le (by rw [fr_len]; omega)]
  rw [e1, e2, if_pos (show sealB (0 :: (p.length : Int) :: k :: p) = fr k p from rfl)]
  simp

theorem nextR_cut {k : Int} {p : List Int} (hp : p.length ≤ 200) {j : Nat} (h0 : 0 < j) (h1 : j < p.length + 7) : nextR ((fr k p).take j) = (2, 0, [], 0) := by
  have hlen : ((fr k p).take j).length = j := by rw [List.length_take, fr_len]; omega
  have hne : (fr k p).take j ≠ [] := by intro e; rw [e] at hlen; simp at hlen; omega
  unfold nextR
  rw [if_neg hne]
  by_cases h7 : ((fr k p).take j).length < 7
  · rw [if_pos h7]
  · rw [if_neg h7]
    have e0 : byAt ((fr k p).take j) 0 = 0 ∧ byAt ((fr k p).take j) 1 = p.length := by
      have := fr_cons k p []
      rw [List.append_nil] at this
      rw [this]
      match j, h7, hlen with
      | j + 2, _, _ => exact ⟨rfl, rfl⟩
      | 1, h7, hlen => omega
      | 0, h7, hlen => omega
    rw [e0.1, e0.2, if_neg (by omega), if_pos (by omega)]

abbrev scanS (d : Sc) (st sz : Int) : SV := .agg [I d.num, I d.bs, I d.ba, SL 1 [], SL 7 (evR d.ev), I d.s, I d.a, SL 1 (nR d.m), I st, I sz]

/-- A segment has been read. -/
structure RdO (l : List Int) (d : Sc) (st : Int) : Prop where
  ok : ScOK d
  pre : segL d <+: l
  ext : (∃ w k p n, w ≠ 0 ∧ nextR (l.drop (segL d).length) = (w, k, p, n) ∧ st = endW w d.sl) ∨ (∃ k p n, nextR (l.drop (segL d).length) = (0, k, p, n) ∧ TakeO d k p false d ∧ st = 3)

theorem sread_fn (l : List Int) (hb : Byts l) (hl : l.length ≤ 100000) : Ct Tryd.prog 8 {} [SL 1 (bR l)] (fun r => ∃ d st, r = [scanS d st (segL d).length] ∧ RdO l d st) := by
  refine sread_nf _ _ ⟨fun x x1 x2 q q1 x3 x4 q2 x5 x6 b => ∃ d : Sc, SV.agg [I x, I x1, I x2, SL 1 q, SL 7 q1, I x3, I x4, SL 1 q2, I x5, I x6, B b] = d.sv 0 (segL d).length ∧ ScOK d ∧ segL d <+: l,
    fun _ _ _ _ _ _ _ _ _ x6 _ => (l.length - x6).toNat, ⟨sc0, rfl, ⟨fun _ => rfl, fun h => absurd rfl h, fun h => absurd rfl h, fun h => absurd rfl h⟩, List.nil_prefix⟩, ?_⟩
  rintro x x1 x2 q q1 x3 x4 q2 x5 x6 b ⟨d, hd, hok, hpre⟩
  have h6 : x6 = (segL d).length := by have hd' := hd; simp at hd'; exact hd'.2.2.2.2.2.2.2.2.2.1
  subst h6
  obtain ⟨t, ht⟩ := hpre
  have hlt : (segL d).length + t.length = l.length := by rw [← ht]; simp
  have hev : 7 * d.ev.length ≤ (segL d).length := by
    by_cases hn : d.num = 0
    · rw [hok.zero hn]; simp [sc0]
    · have := recL_len d.ev d.bs d.ba []
      simp only [segL, if_neg hn, List.length_append]; omega
  have hdt : l.drop (segL d).length = t := by rw [← ht]; simp
  have hnx : nextF l (segL d).length = nextR t := by
    unfold nextF
    rw [if_neg (by omega), Int.toNat_natCast, hdt]
  have hbt : Byts t := hb.sub fun x hx => by rw [← ht]; exact List.mem_append.2 (.inr hx)
  refine Cl.of (fnext_fn l _ hb (by omega)) ?_
  rw [hnx, hd]
  obtain ⟨w, k, p, n, hw⟩ : ∃ w k p n, nextR t = (w, k, p, n) := ⟨_, _, _, _, rfl⟩
  rw [hw]
  refine ⟨w, k, bR p, n, rfl, ifB_intro (fun hc => ?_) (fun hc => ?_)⟩
  · simp at hc
    exact Cl.of (sends_fn d 0 _ w) ⟨_, _, _, _, _, _, _, _, _, _, _, _, rfl, d, endW w d.sl, rfl, hok, ⟨t, ht⟩, .inl ⟨w, k, p, n, hc, by rw [hdt]; exact hw, rfl⟩⟩
  · simp at hc
    subst hc
    obtain ⟨hk, hp, hn, t', ht'⟩ := nextR_whole hbt hw
    have hbp : Byts p := hbt.sub fun x hx => by
      rw [ht', fr_cons]
      simp [hx]
    refine Cl.ofQ (stake_fn d 0 (segL d).length k p hbp (by omega) (by omega) hok.ctx) ?_
    rintro r ⟨b', d', rfl, tk⟩
    refine ⟨_, _, _, _, _, _, _, _, _, _, _, _, rfl, ifB_intro (fun hb' => ?_) (fun hb' => ?_)⟩
    · simp at hb'
      subst hb'
      have hdd : d' = d := by cases tk; rfl
      subst hdd
      exact Cl.of (sends_fn d' 0 _ 0) ⟨_, _, _, _, _, _, _, _, _, _, _, _, rfl, d', 3, rfl, hok, ⟨t, ht⟩, .inr ⟨k, p, n, by rw [hdt]; exact hw, tk, rfl⟩⟩
    · simp at hb'
      subst hb'
      obtain ⟨g1, g2, g3⟩ := tk.ok hok rfl
      have hfl : (fr k p).length = p.length + 7 := fr_len _ _
      have hll : (segL d').length = (segL d).length + (p.length + 7) := by rw [g2, List.length_append, hfl]
      have hle : (segL d').length ≤ l.length := by rw [hll]; have := congrArg List.length ht'; simp [fr_len] at this; omega
      have wn : wadd IntKind.i64 ((segL d).length : Int) n = (segL d').length := by
        rw [wadd_i64 (by omega) (by omega), hll, hn]; omega
      rw [wn]
      refine ⟨rfl, ⟨d', rfl, g1, ⟨t', ?_⟩⟩, ?_⟩
      · rw [g2, ← ht, ht']; simp
      · show Nat.succ (l.length - ((segL d').length : Int)).toNat ≤ (l.length - ((segL d).length : Int)).toNat
        omega

end Go.Proofs.YtbocfphenkidnaaDoor.Seg

/- Layer 9: the scanner: heads, records, seals. -/
import Derived.Test.YtbocfphenkidnaaDoorSg2
import Derived.Test.YtbocfphenkidnaaDoorSegN2
namespace Go.Proofs.YtbocfphenkidnaaDoor.Seg
open Go Go.Px Go.Proofs Go.Proofs.YtbocfphenkidnaaDoor.Cod
set_option maxRecDepth 100000
set_option linter.unusedVariables false

abbrev evR (l : List EvD) : List (List SV) := l.map fun e => [I e.s, I e.a, I e.k, S e.c, I e.x, I e.y, I e.z]

structure Sc where
  num : Int
  bs : Int
  ba : Int
  ev : List EvD
  s : Int
  a : Int
  m : List ByteArray
  sl : Bool

abbrev Sc.sv (d : Sc) (st sz : Int) : SV := sc11 d.num d.bs d.ba [] (evR d.ev) d.s d.a (nR d.m) st sz d.sl

theorem bcutp_fn (l m : List Int) (hl : Byts l) (hm : Byts m) : Ct Tryd.prog 54 {} [SL 1 (bR l), SL 1 (bR m)] (fun r => (∃ t, l = m ++ t ∧ r = [SL 1 (bR t), B true]) ∨ ((∀ t, l ≠ m ++ t) ∧ r = [SL 1 (bR l), B false])) := by
  have hrl : rlen (bR l) = l.length := by simp [rlen]
  have hrm : rlen (bR m) = m.length := by simp [rlen]
  have hp : Ct Tryd.prog 74 {} [SL 1 (bR l), SL 1 (bR m)] (fun r => r = [B (decide (m.length ≤ l.length ∧ l.take m.length = m))]) := by
    refine bhasp_nf _ _ _ ?_
    rw [hrl, hrm]
    refine ifB_intro (fun h => ?_) (fun h => ?_)
    · simp at h
      refine ⟨⟨by omega, by omega, by omega⟩, ?_⟩
      rw [rsub_bR]
      refine Cl.of (bequal_fn _ _ (hl.sub fun x hx => List.mem_of_mem_take (List.mem_of_mem_drop hx)) hm) ⟨_, rfl, ?_⟩
      simp [h]
    · simp at h
      simp [show ¬ m.length ≤ l.length by omega]
  refine bcutp_nf _ _ _ (Cl.of hp ⟨_, rfl, ifB_intro (fun h => ?_) (fun h => ?_)⟩)
  · refine .inr ⟨fun t e => ?_, rfl⟩
    subst e
    simp at h
  · simp at h
    rw [hrl, hrm]
    refine ⟨⟨by omega, by omega, by omega⟩, .inl ⟨l.drop m.length, ?_, ?_⟩⟩
    · conv => lhs; rw [← List.take_append_drop m.length l, h.2]
    · rw [rsub_bR]; simp

def headOK (n s a : Int) : Prop := (1 ≤ n ∧ n ≤ 99999999) ∧ ctxOK s a

theorem ctx_nil {s a : Int} : ctxB s a [] = true ↔ ctxOK s a := by
  rw [ctxB_iff]
  exact ⟨fun h => h.1, fun h => ⟨h, by rfl⟩⟩

/-- What a head's payload comes to. -/
theorem shead1_fn (d : Sc) (st sz : Int) (p : List Int) (hb : Byts p) (hl : p.length ≤ 100000) : Ct Tryd.prog 34 sL [d.sv st sz, SL 1 (bR p)] (fun r =>
    (∃ n s a, headOK n s a ∧ p = hdP n s a ∧ r = [B true, Sc.sv { d with num := n, bs := s, ba := a, s := s, a := a, m := [] } st sz]) ∨
    ((∀ n s a, headOK n s a → p ≠ hdP n s a) ∧ r = [B false, d.sv st sz])) := by
  have no : (∀ n s a, headOK n s a → p ≠ hdP n s a) → (∃ n s a, headOK n s a ∧ p = hdP n s a ∧ ([B false, d.sv st sz] : List SV) = [B true, Sc.sv { d with num := n, bs := s, ba := a, s := s, a := a, m := [] } st sz]) ∨
    ((∀ n s a, headOK n s a → p ≠ hdP n s a) ∧ ([B false, d.sv st sz] : List SV) = [B false, d.sv st sz]) := fun h => .inr ⟨h, rfl⟩
  refine shead1_nf _ _ _ _ _ _ _ _ _ _ _ _ _ ⟨by decide, Cl.ofQ (bcutp_fn p [102, 98, 120, 49] hb (fun x hx => by simp at hx; omega)) ?_⟩
  rintro r (⟨q, rfl, rfl⟩ | ⟨hno, rfl⟩)
  rotate_left
  · refine ⟨_, _, rfl, ifB_intro (fun _ => no fun n s a _ e => hno _ e) (fun h => by simp at h)⟩
  refine ⟨_, _, rfl, ifB_intro (fun h => by simp at h) (fun _ => ?_)⟩
  have hbq : Byts q := hb.sub fun x hx => List.mem_append.2 (.inr hx)
  have hlq : q.length ≤ 100000 := by simp at hl; omega
  refine Cl.of (start_fn q) ⟨_, _, _, rfl, Cl.ofQ (uintS_fn q 0 0 hlq hbq) ?_⟩
  rintro r ⟨a1, er1, n, rfl, o1, s1⟩
  refine ⟨_, _, _, _, rfl, Cl.ofQ (uintS_fn q a1 er1 hlq hbq) ?_⟩
  rintro r ⟨a2, er2, s, rfl, o2, s2⟩
  refine ⟨_, _, _, _, rfl, Cl.ofQ (uintS_fn q a2 er2 hlq hbq) ?_⟩
  rintro r ⟨a3, er3, a, rfl, o3, s3⟩
  -- what any head comes to
  have all : ∀ n' s' a', headOK n' s' a' → ([102, 98, 120, 49] ++ q : List Int) = hdP n' s' a' → er3 = 0 ∧ a3 = q.length ∧ n = n' ∧ s = s' ∧ a = a' := by
    rintro n' s' a' ⟨h1, h2⟩ he
    unfold ctxOK at h2
    have he := List.append_cancel_left he
    obtain ⟨g1, g2, g3⟩ := o1.good rfl (by omega) n'.toNat (leb s'.toNat ++ leb a'.toNat) (by simpa using he) (by omega)
    have hd1 := drop_more (l := q) (a := 0) (by omega) (by simpa using he)
    rw [← g1] at hd1
    have hp1 := leb_pos n'.toNat
    obtain ⟨k1, k2, k3⟩ := o2.good g2 (by omega) s'.toNat (leb a'.toNat) hd1 (by omega)
    have hd2 := drop_more (l := q) (a := a1) (by omega) hd1
    rw [← k1] at hd2
    obtain ⟨j1, j2, j3⟩ := o3.good k2 (by omega) a'.toNat [] (by rw [hd2, List.append_nil]) (by omega)
    have hlen := congrArg List.length he
    simp at hlen
    exact ⟨j2, by omega, by omega, by omega, by omega⟩
  have n0 := o1.n0
  have s0 := o2.n0
  have a0 := o3.n0
  refine ⟨_, _, _, _, rfl, ifB_intro (fun h => ?_) (fun h => ?_)⟩
  · simp at h
    exact no fun n' s' a' h1 h2 => h (all n' s' a' h1 h2).1
  simp at h
  obtain ⟨u1, u2, r3, u3, u4⟩ := s3 h
  obtain ⟨v1, v2, r2, v3, v4⟩ := s2 u1
  obtain ⟨w1, w2, r1, w3, w4⟩ := s1 v1
  have hrg : rgtC q a3 er3 = true := by
    have h1 := congrArg List.length u3
    have h0 := leb_pos a.toNat
    simp at h1
    simp only [rgtC, decide_eq_true_eq]; omega
  refine Cl.of (left_fn q a3 er3 hlq) ⟨_, rfl, ?_⟩
  rw [if_pos hrg]
  refine ifB_intro (fun h2 => ?_) (fun h2 => ?_)
  · simp at h2
    exact no fun n' s' a' h3 h4 => by have := (all n' s' a' h3 h4).2.1; omega
  simp at h2
  -- the whole is read
  have hq : q = leb n.toNat ++ (leb s.toNat ++ leb a.toNat) := by
    have e1 := drop_more (l := q) (a := 0) (by omega) w3
    rw [← w4] at e1
    have e2 := drop_more (l := q) (a := a1) v2 v3
    rw [← v4] at e2
    have e3 := drop_more (l := q) (a := a2) u2 u3
    rw [← u4] at e3
    simp only [rgtC, decide_eq_true_eq] at hrg
    have hr3 : r3 = [] := by rw [← e3]; exact List.drop_eq_nil_of_le (by omega)
    rw [u3, hr3] at e2
    rw [v3, ← e2] at e1
    have w3' : q = leb n.toNat ++ r1 := by simpa using w3
    rw [w3', ← e1]; simp
  have hn63 : ∀ x : Int, 0 ≤ x → x ≤ 18446744073709551615 → (x ≤ 9223372036854775807 → wcv .i64 x = x) ∧ (9223372036854775807 < x → wcv .i64 x < 0) := by
    intro x h0 h1
    refine ⟨fun h => wcvI64 (by omega) h, fun h => ?_⟩
    unfold wcv
    simp only [IntKind.wrap, IntKind.signed, IntKind.bits]
    simp
    omega
  obtain ⟨n1a, n1b⟩ := hn63 n n0 o1.n1
  obtain ⟨s1a, s1b⟩ := hn63 s s0 o2.n1
  obtain ⟨a1a, a1b⟩ := hn63 a a0 o3.n1
  refine Cl.of (numb_fn _) ⟨_, rfl, ifB_intro (fun h3 => ?_) (fun h3 => ?_)⟩
  · simp at h3
    refine no fun n' s' a' h4 h5 => ?_
    obtain ⟨_, _, e1, _, _⟩ := all n' s' a' h4 h5
    have h6 := h4.1
    rw [n1a (by omega)] at h3
    omega
  simp at h3
  have hn : n ≤ 9223372036854775807 := by
    rcases Int.lt_or_le 9223372036854775807 n with h | h
    · have := n1b h; omega
    · exact h
  rw [n1a hn] at h3 ⊢
  refine Cl.of (cright_fn (wcv .i64 s) (wcv .i64 a) []) ⟨_, rfl, ifB_intro (fun h4 => ?_) (fun h4 => ?_)⟩
  · simp at h4
    refine no fun n' s' a' h5 h6 => ?_
    obtain ⟨_, _, _, e2, e3⟩ := all n' s' a' h5 h6
    have h7 := h5.2
    unfold ctxOK at h7
    rw [s1a (by omega), a1a (by omega), e2, e3, ctx_nil.2 h5.2] at h4
    cases h4
  simp at h4
  have h5 := ctx_nil.1 h4
  unfold ctxOK at h5
  have hs : s ≤ 9223372036854775807 := by
    rcases Int.lt_or_le 9223372036854775807 s with h | h
    · have := s1b h; omega
    · exact h
  have ha : a ≤ 9223372036854775807 := by
    rcases Int.lt_or_le 9223372036854775807 a with h | h
    · have := a1b h; omega
    · exact h
  rw [s1a hs, a1a ha] at h5 ⊢
  refine ⟨fun x1 x2 x3 l5 l6 x4 x5 l7 x6 x7 b => [B true, SV.agg [I x1, I x2, I x3, SL 1 l5, SL 7 l6, I x4, I x5, SL 1 l7, I x6, I x7, B b]] = [B true, Sc.sv { d with num := n, bs := s, ba := a, s := s, a := a, m := [] } st sz],
    fun _ _ _ _ _ _ _ _ _ _ _ => 0, ?_, ?_⟩
  · exact ⟨rfl, rfl⟩
  · rintro x1 x2 x3 l5 l6 x4 x5 l7 x6 x7 b h6
    exact .inl ⟨n, s, a, ⟨h3, h5⟩, by rw [hq]; rfl, h6⟩

theorem ev_row (l : List EvD) (e : EvD) : rapp (evR l) [[I e.s, I e.a, I e.k, S e.c, I e.x, I e.y, I e.z]] = evR (l ++ [e]) := by simp [rapp]

/-- What a record's payload comes to. -/
theorem srec_fn (d : Sc) (st sz : Int) (p : List Int) (hb : Byts p) (hl : p.length ≤ 100000) (he : d.ev.length ≤ 1000000) : Ct Tryd.prog 35 sL [d.sv st sz, SL 1 (bR p)] (fun r =>
    (∃ e, EncOK d.s d.a d.m e ∧ encL d.s d.a d.m e = p ∧ r = [B true, Sc.sv { d with ev := d.ev ++ [e], s := e.s, a := e.a, m := bhdN d.m e.c } st sz]) ∨
    ((∀ e, EncOK d.s d.a d.m e → encL d.s d.a d.m e ≠ p) ∧ r = [B false, d.sv st sz])) := by
  refine srec_nf _ _ _ _ _ _ _ _ _ _ _ _ _ (Cl.ofQ (decode_fn d.s d.a d.m p hl hb) ?_)
  rintro r (⟨h1, rfl⟩ | ⟨h1, ⟨e, h2, h3, rfl⟩ | ⟨h2, rfl⟩⟩)
  · refine ⟨_, _, _, _, _, _, _, _, _, _, _, rfl, ifB_intro (fun _ => .inr ⟨fun e he => ?_, rfl⟩) (fun h => by simp at h)⟩
    rw [he.ctx] at h1; cases h1
  · refine ⟨_, _, _, _, _, _, _, _, _, _, _, rfl, ifB_intro (fun h => by simp at h) (fun _ => ⟨by simp [lsum, rlen]; omega, .inl ⟨e, h2, h3, ?_⟩⟩)⟩
    rw [ev_row]
  · exact ⟨_, _, _, _, _, _, _, _, _, _, _, rfl, ifB_intro (fun _ => .inr ⟨h2, rfl⟩) (fun h => by simp at h)⟩

/-- A frame is taken, or not. -/
inductive TakeO (d : Sc) (k : Int) (p : List Int) : Bool → Sc → Prop
  | head (n s a : Int) (hs : d.sl = false) (hn : d.num = 0) (hk : k = 1) (ok : headOK n s a) (hp : p = hdP n s a) : TakeO d k p true { d with num := n, bs := s, ba := a, s := s, a := a, m := [] }
  | record (e : EvD) (hs : d.sl = false) (hn : d.num ≠ 0) (hk : k = 2) (ok : EncOK d.s d.a d.m e) (hp : encL d.s d.a d.m e = p) : TakeO d k p true { d with ev := d.ev ++ [e], s := e.s, a := e.a, m := bhdN d.m e.c }
  | last (hs : d.sl = false) (hn : d.num ≠ 0) (hk : k = 3) (hp : p = slP d.ev.length d.s d.a) : TakeO d k p true { d with sl := true }
  | no (h1 : d.sl = false → d.num = 0 → k = 1 → ∀ n s a, headOK n s a → p ≠ hdP n s a) (h2 : d.sl = false → d.num ≠ 0 → k = 2 → ∀ e, EncOK d.s d.a d.m e → encL d.s d.a d.m e ≠ p)
      (h3 : d.sl = false → d.num ≠ 0 → k = 3 → p ≠ slP d.ev.length d.s d.a) : TakeO d k p false d

theorem sl_false {d : Sc} (h : d.sl = false) : { d with sl := false } = d := by cases d; simp at h; simp [h]

theorem stake_fn (d : Sc) (st sz k : Int) (p : List Int) (hb : Byts p) (hl : p.length ≤ 100000) (he : d.ev.length ≤ 1000000) (hc : d.num ≠ 0 → ctxOK d.s d.a) :
    Ct Tryd.prog 18 sL [d.sv st sz, I k, SL 1 (bR p)] (fun r => ∃ b d', r = [B b, Sc.sv d' st sz] ∧ TakeO d k p b d') := by
  refine stake_nf _ _ _ _ _ _ _ _ _ _ _ _ _ _ (ifB_intro (fun h => ⟨false, d, rfl, .no (fun e => by rw [h] at e; cases e) (fun e => by rw [h] at e; cases e) (fun e => by rw [h] at e; cases e)⟩) (fun hs => ?_))
  refine ifB_intro (fun hn => ifB_intro (fun hk => ?_) (fun hk => ?_)) (fun hn => ifB_intro (fun hk => ?_) (fun hk => ifB_intro (fun hk3 => ?_) (fun hk3 => ?_)))
  · simp at hn hk
    refine Cl.ofQ (shead1_fn d st sz p hb hl) ?_
    rintro r (⟨n, s, a, h1, h2, rfl⟩ | ⟨h1, rfl⟩)
    · exact ⟨_, _, _, _, _, _, _, _, _, _, _, _, rfl, true, _, rfl, .head n s a hs hn hk h1 h2⟩
    · exact ⟨_, _, _, _, _, _, _, _, _, _, _, _, rfl, false, d, rfl, .no (fun _ _ _ => h1) (fun _ h => absurd hn h) (fun _ h => absurd hn h)⟩
  · simp at hn hk
    exact ⟨false, d, rfl, .no (fun _ _ h => absurd h hk) (fun _ h => absurd hn h) (fun _ h => absurd hn h)⟩
  · simp at hn hk
    refine Cl.ofQ (srec_fn d st sz p hb hl he) ?_
    rintro r (⟨e, h1, h2, rfl⟩ | ⟨h1, rfl⟩)
    · exact ⟨_, _, _, _, _, _, _, _, _, _, _, _, rfl, true, _, rfl, .record e hs hn hk h1 h2⟩
    · exact ⟨_, _, _, _, _, _, _, _, _, _, _, _, rfl, false, d, rfl, .no (fun _ h => absurd h hn) (fun _ _ _ => h1) (fun _ _ h => by omega)⟩
  · simp at hn hk hk3
    have hc := hc hn
    unfold ctxOK at hc
    have hre : rlen (evR d.ev) = d.ev.length := by simp [rlen]
    refine ⟨fun x1 x2 x3 l5 l6 x4 x5 l7 x6 x7 b => b = decide (p = slP d.ev.length d.s d.a) ∧ SV.agg [I x1, I x2, I x3, SL 1 l5, SL 7 l6, I x4, I x5, SL 1 l7, I x6, I x7, B b] = Sc.sv { d with sl := b } st sz, fun _ _ _ _ _ _ _ _ _ _ _ => 0, ?_, ?_⟩
    · rw [hre]
      refine Cl.of (sput_fn [] d.ev.length d.s d.a (nR d.m) (by omega) (by omega) (by omega) (by simp)) ⟨_, rfl, Cl.of (bequal_fn p _ hb ?_) ⟨_, rfl, rfl, rfl, rfl⟩⟩
      exact Byts.app (fun x hx => by simp at hx) ((byts_leb _).app ((byts_leb _).app (byts_leb _)))
    · rintro x1 x2 x3 l5 l6 x4 x5 l7 x6 x7 b ⟨hb', e⟩
      by_cases hp : p = slP d.ev.length d.s d.a
      · rw [decide_eq_true hp] at hb'
        subst hb'
        exact ⟨true, _, by rw [e], .last hs hn hk3 hp⟩
      · rw [decide_eq_false hp] at hb'
        subst hb'
        refine ⟨false, d, ?_, .no (fun _ h => absurd h hn) (fun _ _ h => absurd h hk) (fun _ _ _ => hp)⟩
        rw [e, sl_false hs]
  · simp at hn hk hk3
    exact ⟨false, d, rfl, .no (fun _ h => absurd h hn) (fun _ _ h => absurd h hk) (fun _ _ h => absurd h hk3)⟩

def endW (w : Int) (sl : Bool) : Int := if w = 1 then (if sl = true then 4 else 1) else if w = 2 ∧ sl = false then 2 else 3

theorem sends_fn (d : Sc) (st sz w : Int) : Ct Tryd.prog 19 sL [d.sv st sz, I w] (fun r => r = [I (endW w d.sl), d.sv st sz]) := by
  refine sends_nf _ _ _ _ _ _ _ _ _ _ _ _ _ (ifB_intro (fun h => ?_) (fun h => ifB_intro (fun h2 => ?_) (fun h2 => ifB_intro (fun h3 => ?_) (fun h3 => ?_))))
  · simp at h; simp [endW, h]
  · simp at h h2
    have := h h2
    simp [endW, h2, this]
  · simp at h3; simp [endW, h3]
  · simp at h2 h3
    by_cases hw : w = 2
    · have := h3 hw; simp [endW, hw, this]
    · simp [endW, h2, hw]

end Go.Proofs.YtbocfphenkidnaaDoor.Seg

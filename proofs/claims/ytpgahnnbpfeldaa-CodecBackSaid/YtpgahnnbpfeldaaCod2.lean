/- Layer 7: the answers of the functions that read bytes. -/
import Derived.Test.YtpgahnnbpfeldaaCodN2
namespace Go.Proofs.Ytpgahnnbpfeldaa.Cod
open Go Go.Px Go.Proofs
set_option maxRecDepth 100000
set_option linter.unusedVariables false

def Byts (l : List Int) : Prop := ∀ x ∈ l, 0 ≤ x ∧ x ≤ 255

theorem isBytes_bR {l : List Int} (h : Byts l) : isBytes (bR l) := by
  intro r hr
  obtain ⟨n, hn, rfl⟩ := List.mem_map.1 hr
  have := h n hn
  exact ⟨n, rfl, this.1, by omega⟩

theorem Byts.sub {l m : List Int} (h : Byts l) (hs : ∀ x ∈ m, x ∈ l) : Byts m := fun x hx => h x (hs x hx)
theorem Byts.app {l m : List Int} (h : Byts l) (k : Byts m) : Byts (l ++ m) := fun x hx => (List.mem_append.1 hx).elim (h x) (k x)
theorem byts_leb (n : Nat) : Byts (leb n) := leb_byte n
theorem byts_tx (t : ByteArray) : Byts (txB t) := fun x hx => txB_byte x hx

def byAt (l : List Int) (i : Int) : Int := l.getD i.toNat 0
theorem rget_bR {l : List Int} {i : Int} (h0 : 0 ≤ i) (h1 : i < l.length) : rget (bR l) i = [U8 (byAt l i)] := by
  have : i.toNat < l.length := by omega
  simp [rget, byAt, this]

theorem rsub_bR (l : List Int) (a b : Int) : rsub (bR l) a b = bR ((l.take b.toNat).drop a.toNat) := by
  simp [rsub, bR, List.map_take, List.map_drop]

def rgtC (l : List Int) (a er : Int) : Bool := decide (0 ≤ a ∧ a ≤ l.length ∧ er = 0)

theorem right_fn (l : List Int) (a er : Int) : Ct Try.prog 198 {} [cu3 (bR l) a er] (fun r => r = [B (rgtC l a er)]) := by
  refine right_nf _ _ _ _ ?_
  have : bpick (bpick (ige a 0) (ile a (rlen (bR l))) false) (ieq er 0) false = rgtC l a er := by
    rw [Bool.eq_iff_iff]; simp [rgtC, and_assoc]
  rw [this]
theorem qright_fn (l : List Int) (a er : Int) : Ct Try.prog 167 {} [cu3 (bR l) a er] (fun r => r = [B (rgtC l a er)]) := by
  refine qright_nf _ _ _ _ ?_
  have : bpick (bpick (ieq er 0) (ige a 0) false) (ile a (rlen (bR l))) false = rgtC l a er := by
    rw [Bool.eq_iff_iff]; simp [rgtC]; omega
  rw [this]

def styE (er e : Int) : Int := if er = 0 then e else er
theorem stay_fn (l : List Int) (a er e : Int) : Ct Try.prog 187 {} [cu3 (bR l) a er, I e] (fun r => r = [cu3 (bR l) a (styE er e)]) := by
  refine stay_nf _ _ _ _ _ (ifB_intro (fun h => ?_) (fun h => ?_))
  · simp at h; simp [styE, h]
  · simp at h; simp [styE, h]
theorem stays_fn (l : List Int) (a er e : Int) : Ct Try.prog 168 {} [cu3 (bR l) a er, I e] (fun r => r = [cu3 (bR l) a (styE er e)]) := by
  refine stays_nf _ _ _ _ _ (ifB_intro (fun h => ?_) (fun h => ?_))
  · simp at h; simp [styE, h]
  · simp at h; simp [styE, h]

theorem left_fn (l : List Int) (a er : Int) (hl : l.length ≤ 100000) : Ct Try.prog 188 {} [cu3 (bR l) a er] (fun r => r = [I (if rgtC l a er = true then l.length - a else 0)]) := by
  refine left_nf _ _ _ _ (Cl.of (right_fn l a er) ⟨_, rfl, ifB_intro (fun h => ?_) (fun h => ?_)⟩)
  · simp at h; simp [h]
  · simp at h
    have hr : rgtC l a er = true := by simpa using h
    have hr2 := hr
    simp [rgtC] at hr2
    have : wsub IntKind.i64 (rlen (bR l)) a = l.length - a := by rw [rlen_bR]; exact wsub_i64 (by omega) (by omega)
    simp only [hr, this, if_true]

theorem start_fn (l : List Int) : Ct Try.prog 164 {} [SL 1 (bR l)] (fun r => r = [cu3 (bR l) 0 0]) := by
  refine start_nf _ _ ⟨by simp, ?_⟩
  rw [rsub_bR]
  simp

/-- Some bytes are taken. -/
structure TOut (l : List Int) (a er n a' er' : Int) (bs : List Int) : Prop where
  mem : ∀ x ∈ bs, x ∈ l
  good : er = 0 → 0 ≤ a → 0 ≤ n → a + n ≤ l.length → a' = a + n ∧ er' = 0 ∧ bs = (l.drop a.toNat).take n.toNat

theorem TOut.bad {l : List Int} {a er n a' er' : Int} (h : er = 0 → 0 ≤ a → 0 ≤ n → ¬ a + n ≤ l.length) : TOut l a er n a' er' [] := ⟨by simp, fun h1 h2 h3 h4 => absurd h4 (h h1 h2 h3)⟩

theorem take_sub (l : List Int) (a n : Int) (h0 : 0 ≤ a) (h1 : 0 ≤ n) (h2 : a + n ≤ l.length) : (l.take (a + n).toNat).drop a.toNat = (l.drop a.toNat).take n.toNat := by
  rw [List.drop_take]
  congr 1; omega

theorem take_fn (l : List Int) (a er n : Int) (hl : l.length ≤ 100000) (hn : n ≤ 1000000) (hn0 : -1000000 ≤ n) : Ct Try.prog 189 {} [cu3 (bR l) a er, I n] (fun r => ∃ a' er' bs, r = [cu3 (bR l) a' er', SL 1 (bR bs)] ∧ TOut l a er n a' er' bs) := by
  refine take_nf _ _ _ _ _ (Cl.of (right_fn l a er) ⟨_, rfl, ?_⟩)
  have hr : rgtC l a er = true ↔ 0 ≤ a ∧ a ≤ l.length ∧ er = 0 := by simp [rgtC]
  have stayed : ∀ e : Int, (er = 0 → 0 ≤ a → 0 ≤ n → ¬ a + n ≤ l.length) → Cl Try.prog 187 sP ([SV.agg [SL 1 (bR l), I a, I er], I e]) (fun (rs1 : List SV) => ∃ l_1 : List (List SV), ∃ x : Int, ∃ x1 : Int, (rs1 = [SV.agg [SL 1 l_1, I x, I x1]]) ∧ (∃ a' er' bs, ([SV.agg [SL 1 l_1, I x, I x1], SL 1 []] : List SV) = [cu3 (bR l) a' er', SL 1 (bR bs)] ∧ TOut l a er n a' er' bs)) := fun e he =>
    Cl.of (stay_fn l a er e) ⟨_, _, _, rfl, _, _, [], rfl, TOut.bad he⟩
  refine ifB_intro (fun h => ifB_intro (fun h => ?_) (fun h' => ?_)) (fun h => ifB_intro (fun h1 => ?_) (fun h1 => ?_))
  · simp at h
    exact stayed 1 (fun e h1 h2 h3 => by rw [Bool.eq_false_iff, ne_eq, hr] at h; omega)
  · rw [h] at h'; cases h'
  · simp at h1
    exact stayed 1 (fun e h2 h3 => by omega)
  · simp at h h1
    have h := hr.1 h
    refine Cl.of (left_fn l a er hl) ⟨_, rfl, ?_⟩
    rw [if_pos (hr.2 h)]
    refine ifB_intro (fun h2 => ?_) (fun h2 => ?_)
    · simp at h2
      exact stayed 10 (fun e h3 h4 => by omega)
    · simp at h2
      have w : wadd IntKind.i64 a n = a + n := wadd_i64 (by omega) (by omega)
      rw [w]
      refine ⟨⟨by omega, by omega, rfl, by simp; omega⟩, a + n, er, _, by rw [rsub_bR], ⟨fun x hx => List.mem_of_mem_take (List.mem_of_mem_drop hx), fun _ _ _ h4 => ⟨rfl, h.2.2, take_sub l a n h.1 h1 h4⟩⟩⟩

theorem rtake_fn (l : List Int) (a er n : Int) (hl : l.length ≤ 100000) (hn : n ≤ 1000000) (hn0 : -1000000 ≤ n) : Ct Try.prog 169 {} [cu3 (bR l) a er, I n] (fun r => ∃ a' er' bs, r = [cu3 (bR l) a' er', SL 1 (bR bs)] ∧ TOut l a er n a' er' bs) := by
  refine rtake_nf _ _ _ _ _ (Cl.of (qright_fn l a er) ⟨_, rfl, ?_⟩)
  have hr : rgtC l a er = true ↔ 0 ≤ a ∧ a ≤ l.length ∧ er = 0 := by simp [rgtC]
  have stayed : ∀ e : Int, (er = 0 → 0 ≤ a → 0 ≤ n → ¬ a + n ≤ l.length) → Cl Try.prog 168 sP ([SV.agg [SL 1 (bR l), I a, I er], I e]) (fun (rs1 : List SV) => ∃ l_1 : List (List SV), ∃ x : Int, ∃ x1 : Int, (rs1 = [SV.agg [SL 1 l_1, I x, I x1]]) ∧ (∃ a' er' bs, ([SV.agg [SL 1 l_1, I x, I x1], SL 1 []] : List SV) = [cu3 (bR l) a' er', SL 1 (bR bs)] ∧ TOut l a er n a' er' bs)) := fun e he =>
    Cl.of (stays_fn l a er e) ⟨_, _, _, rfl, _, _, [], rfl, TOut.bad he⟩
  refine ifB_intro (fun h => ?_) (fun h => ?_)
  · refine stayed 1 (fun e h1 h2 h3 => ?_)
    simp only [bor_t, bnot_eq, Bool.not_eq_true', ilt_eq, decide_eq_true_eq] at h
    rcases h with h | h
    · rw [Bool.eq_false_iff, ne_eq, hr] at h; omega
    · omega
  · simp only [bor_f, bnot_eq, Bool.not_eq_false', ilt_eq, decide_eq_false_iff_not] at h
    have h1 := h.2
    have h := hr.1 h.1
    have w0 : wsub IntKind.i64 (rlen (bR l)) a = l.length - a := by rw [rlen_bR]; exact wsub_i64 (by omega) (by omega)
    rw [w0]
    refine ifB_intro (fun h2 => ?_) (fun h2 => ?_)
    · simp at h2
      exact stayed 10 (fun e h3 h4 => by omega)
    · simp at h2
      have w : wadd IntKind.i64 a n = a + n := wadd_i64 (by omega) (by omega)
      rw [w, rsub_bR]
      refine ⟨⟨by omega, by omega, by simp; omega⟩, ?_, a + n, er, _, by simp [rapp], ⟨fun x hx => List.mem_of_mem_take (List.mem_of_mem_drop hx), fun _ _ _ h4 => ⟨rfl, h.2.2, take_sub l a n h.1 (by omega) h4⟩⟩⟩
      simp
      omega

/-- A number is read. -/
structure UOut (l : List Int) (a er a' er' n : Int) : Prop where
  n0 : 0 ≤ n
  n1 : n ≤ 18446744073709551615
  good : er = 0 → 0 ≤ a → ∀ (m : Nat) rest, l.drop a.toNat = leb m ++ rest → m < 18446744073709551616 → a' = a + (leb m).length ∧ er' = 0 ∧ n = m

theorem UOut.bad {l : List Int} {a er a' er' : Int} (h : er = 0 → 0 ≤ a → ∀ (m : Nat) rest, l.drop a.toNat = leb m ++ rest → m < 18446744073709551616 → False) : UOut l a er a' er' 0 :=
  ⟨by omega, by omega, fun h1 h2 m rest h3 h4 => (h h1 h2 m rest h3 h4).elim⟩

theorem drop_lt {l : List Int} {a : Int} {m : Nat} {rest : List Int} (h : l.drop a.toNat = leb m ++ rest) : a.toNat + (leb m).length ≤ l.length := by
  have := congrArg List.length h
  have := leb_pos m
  simp at *
  omega

theorem wrapU64_range (x : Int) : 0 ≤ IntKind.u64.wrap x ∧ IntKind.u64.wrap x ≤ 18446744073709551615 := by
  simp only [IntKind.wrap, IntKind.signed, IntKind.bits]
  simp
  omega

theorem ruint_fn (l : List Int) (a er : Int) (hl : l.length ≤ 100000) (hb : Byts l) : Ct Try.prog 96 {} [cu3 (bR l) a er] (fun r => ∃ a' er' n, r = [cu3 (bR l) a' er', U64 n] ∧ UOut l a er a' er' n) := by
  refine ruint_nf _ _ _ _ (Cl.of (qright_fn l a er) ⟨_, rfl, ?_⟩)
  have hr : rgtC l a er = true ↔ 0 ≤ a ∧ a ≤ l.length ∧ er = 0 := by simp [rgtC]
  refine ifB_intro (fun h => ?_) (fun h => ?_)
  · simp at h
    refine Cl.of (stays_fn l a er 1) ⟨_, _, _, rfl, _, _, _, rfl, UOut.bad (fun h1 h2 m rest h3 h4 => ?_)⟩
    rw [Bool.eq_false_iff, ne_eq, hr] at h
    have := drop_lt h3
    omega
  · simp at h
    have h := hr.1 h
    refine ⟨fun x x1 x2 rows x3 x4 _ _ _ => rows = bR l ∧ x3 = a ∧ x4 = er ∧ 0 ≤ x2 ∧ x2 ≤ 10 ∧ 0 ≤ x ∧ x ≤ 18446744073709551615 ∧
        ∀ (m : Nat) rest, l.drop a.toNat = leb m ++ rest → m < 18446744073709551616 → ∃ q : Nat, l.drop (a + x2).toNat = leb q ++ rest ∧ (m : Int) = x + x1 * q ∧ x1 = 128 ^ x2.toNat ∧ (leb m).length = x2 + (leb q).length ∧ (0 < x2 → q ≠ 0),
      fun _ _ x2 _ _ _ _ _ _ => (10 - x2).toNat, ⟨rfl, rfl, rfl, by omega, by omega, by omega, by omega, fun m rest h1 h2 => ⟨m, by simpa using h1, by simp, by simp, by simp, by simp⟩⟩, ?_⟩
    rintro x x1 x2 rows x3 x4 _ _ _ ⟨rfl, rfl, rfl, i0, i1, j0, j1, hg⟩
    have w : wadd IntKind.i64 x3 x2 = x3 + x2 := wadd_i64 (by omega) (by omega)
    refine ifB_intro (fun h2 => ?_) (fun h2 => ?_)
    · simp at h2
      rw [w]
      refine ifB_intro (fun h3 => ?_) (fun h3 => ?_)
      · simp at h3
        refine Cl.of (stays_fn l x3 x4 10) ⟨_, _, _, rfl, _, _, _, rfl, UOut.bad (fun _ _ m rest g1 g2 => ?_)⟩
        obtain ⟨q, e1, _⟩ := hg m rest g1 g2
        have := drop_lt e1
        have := leb_pos q
        omega
      · simp at h3
        have hbx := hb (byAt l (x3 + x2)) (by
          have : (x3 + x2).toNat < l.length := by omega
          simp [byAt, this])
        have hd : l.drop (x3 + x2).toNat = byAt l (x3 + x2) :: l.drop (x3 + x2 + 1).toNat := by
          have : (x3 + x2).toNat < l.length := by omega
          rw [show (x3 + x2 + 1).toNat = (x3 + x2).toNat + 1 by omega, List.drop_eq_getElem_cons this]
          simp [byAt, this]
        refine ⟨⟨by omega, by simp; omega⟩, _, rget_bR (by omega) (by omega), ?_⟩
        generalize byAt l (x3 + x2) = y at hbx hd
        refine ifB_intro (fun h4 => ?_) (fun h4 => ?_)
        · simp at h4
          refine ⟨rfl, ⟨rfl, rfl, rfl, ?_, ?_, (wrapU64_range _).1, (wrapU64_range _).2, fun m rest g1 g2 => ?_⟩, ?_⟩
          · rw [wadd_i64 (by omega) (by omega)]; omega
          · rw [wadd_i64 (by omega) (by omega)]; omega
          · obtain ⟨q, e1, e2, e3, e4, e5⟩ := hg m rest g1 g2
            rw [hd] at e1
            by_cases hq : q < 128
            · rw [leb_lt hq] at e1
              simp at e1
              omega
            · have hq : 128 ≤ q := Nat.le_of_not_lt hq
              rw [leb_ge hq] at e1
              simp only [List.cons_append, List.cons.injEq] at e1
              have w2 : wadd IntKind.i64 x2 1 = x2 + 1 := wadd_i64 (by omega) (by omega)
              rw [w2]
              have hx1 : 0 < x1 := by rw [e3]; exact Int.pow_pos (by omega)
              have hq2 : (q : Int) = 128 * ((q / 128 : Nat) : Int) + ((q % 128 : Nat) : Int) := by omega
              have hm : (m : Int) = x + x1 * ((q % 128 : Nat) : Int) + x1 * 128 * ((q / 128 : Nat) : Int) := by
                rw [e2]
                conv => lhs; rw [hq2]
                rw [Int.mul_add, ← Int.mul_assoc]; omega
              have hnn1 : 0 ≤ x1 * ((q % 128 : Nat) : Int) := Int.mul_nonneg (by omega) (by omega)
              have hnn2 : x1 * 128 ≤ x1 * 128 * ((q / 128 : Nat) : Int) := by
                have h5 : (1 : Int) ≤ ((q / 128 : Nat) : Int) := by omega
                have := Int.mul_le_mul_of_nonneg_left h5 (show 0 ≤ x1 * 128 by omega)
                omega
              have s1 : wsub IntKind.u8 y 128 = y - 128 := by
                have := wcvU8 (y - 128) (by omega)
                simp only [wcv] at this
                rw [wsub, this]; omega
              have s2 : y - 128 = ((q % 128 : Nat) : Int) := by omega
              rw [s1, wcvU64 (by omega) (by omega), s2]
              have s3 : wmul IntKind.u64 x1 ((q % 128 : Nat) : Int) = x1 * ((q % 128 : Nat) : Int) := wrapU64 (by omega) (by omega)
              have s4 : wmul IntKind.u64 x1 128 = x1 * 128 := wrapU64 (by omega) (by omega)
              have s5 : wadd IntKind.u64 x (x1 * ((q % 128 : Nat) : Int)) = x + x1 * ((q % 128 : Nat) : Int) := wrapU64 (by omega) (by omega)
              rw [s3, s4, s5]
              refine ⟨q / 128, ?_, by omega, ?_, ?_, fun _ => by omega⟩
              · rw [show x3 + (x2 + 1) = x3 + x2 + 1 by omega]; exact e1.2
              · rw [e3, show (x2 + 1).toNat = x2.toNat + 1 by omega, Int.pow_succ]
              · rw [leb_ge hq] at e4; simp at e4; omega
          · rw [wadd_i64 (by omega) (by omega)]
            exact mlt (by dsimp only; omega)
        · simp at h4
          refine ifB_intro (fun h5 => ?_) (fun h5 => ?_)
          · refine Cl.of (stays_fn l x3 x4 11) ⟨_, _, _, rfl, _, _, _, rfl, UOut.bad (fun _ _ m rest g1 g2 => ?_)⟩
            obtain ⟨q, e1, e2, e3, e4, e5⟩ := hg m rest g1 g2
            rw [hd] at e1
            by_cases hq : q < 128
            · rw [leb_lt hq] at e1
              simp at e1
              simp at h5
              rcases h5 with ⟨g3, g4⟩ | ⟨g3, g4⟩
              · have h9 : x2.toNat = 9 := by omega
                rw [h9] at e3
                have h63 : x1 = 9223372036854775808 := by rw [e3]; rfl
                rw [h63] at e2
                omega
              · exact e5 g3 (by omega)
            · have hq : 128 ≤ q := Nat.le_of_not_lt hq
              rw [leb_ge hq] at e1
              simp only [List.cons_append, List.cons.injEq] at e1
              omega
          · refine ⟨_, _, _, rfl, (wrapU64_range _).1, (wrapU64_range _).2, fun _ _ m rest g1 g2 => ?_⟩
            obtain ⟨q, e1, e2, e3, e4, e5⟩ := hg m rest g1 g2
            rw [hd] at e1
            by_cases hq : q < 128
            · rw [leb_lt hq] at e1 e4
              simp at e1 e4
              have hx1 : 0 < x1 := by rw [e3]; exact Int.pow_pos (by omega)
              have hnn1 : 0 ≤ x1 * (q : Int) := Int.mul_nonneg (by omega) (by omega)
              rw [wadd_i64 (by omega) (by omega), wcvU64 (by omega) (by omega), e1.1]
              have s3 : wmul IntKind.u64 x1 (q : Int) = x1 * (q : Int) := wrapU64 (by omega) (by omega)
              have s5 : wadd IntKind.u64 x (x1 * (q : Int)) = x + x1 * (q : Int) := wrapU64 (by omega) (by omega)
              rw [s3, s5]
              exact ⟨by omega, h.2.2, by omega⟩
            · have hq : 128 ≤ q := Nat.le_of_not_lt hq
              rw [leb_ge hq] at e1
              simp only [List.cons_append, List.cons.injEq] at e1
              omega
    · simp at h2
      refine Cl.of (stays_fn l x3 x4 11) ⟨_, _, _, rfl, _, _, _, rfl, UOut.bad (fun _ _ m rest g1 g2 => ?_)⟩
      obtain ⟨q, e1, e2, e3, e4, e5⟩ := hg m rest g1 g2
      have hq := e5 (by omega)
      have h10 : x2.toNat = 10 := by omega
      rw [h10] at e3
      have h70 : x1 = 1180591620717411303424 := by rw [e3]; rfl
      rw [h70] at e2
      omega

end Go.Proofs.Ytpgahnnbpfeldaa.Cod

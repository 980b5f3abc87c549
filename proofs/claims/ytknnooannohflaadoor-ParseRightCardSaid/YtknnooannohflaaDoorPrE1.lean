/- Layer 28: a text with signs that stand behind a \. -/
import Derived.Test.YtknnooannohflaaDoorPrB1
import Derived.Test.YtknnooannohflaaDoorBd
import Derived.Test.YtknnooannohflaaDoorMzA
namespace Go.Proofs.YtknnooannohflaaDoor.Prs
open Go Go.Proofs Go.RowKit Go.Px Trm Exp
set_option linter.unusedVariables false

theorem Zg3 {C B b : Nat} {a : Tx} {w w' : World} (h : Bld B b a w) (hb : Kept C w w') (hC : C < B) : Bld B b a w' := by
 have one : ∀ p, Lib.BuilderAtF 157 5 B b p (Lib.byteCells a) w → Lib.BuilderAtF 157 5 B b p (Lib.byteCells a) w' := by
  rintro p hA; have hlt := hA.lt; obtain ⟨hB, v, h1, ⟨h2, h3⟩, h4⟩ := hA; refine ⟨hB, v, (hb.block b hlt (by omega)).trans h1, ⟨h2, ?_⟩, h4⟩
  rcases h3 with h3 | ⟨g, cap, cur, fz, e1, e2, e3, e4⟩
  ·exact .inl h3
  ·have hg : g < w.heap.size := (Array.getElem?_eq_some_iff.1 e3).1; exact .inr ⟨g, cap, cur, fz, e1, e2, (hb.block g hg (by omega)).trans e3, e4⟩
 rcases h with h | h
 ·exact .inl (one _ h)
 ·exact .inr (one _ h)

def sgnB (v : Bool) (x : UInt8) : Option UInt8 := if x = 92 then some 92 else if x = 110 then some 10 else if x = 34 then (if v then some 34 else none) else none
theorem Zma (v : Bool) (t : Tx) (a : Nat) : pSign v t a = match t[a]? with
  | none => .error a
  | some x => match sgnB v x with | none => .error a | some y => .ok (y, a + 1) := by
 unfold pSign sgnB
 cases t[a]? with
 | none => rfl
 | some x =>
  simp only
  repeat' split
  all_goals simp_all
def eApp (p : Tx) : Except Nat (Tx × Nat) → Except Nat (Tx × Nat)
 | .ok (r, e) => .ok (p ++ r, e)
 | .error b => .error b
theorem Zmb (p q : Tx) (r : Except Nat (Tx × Nat)) : eApp p (eApp q r) = eApp (p ++ q) r := by
 match r with
 | .ok (r, e) => simp [eApp]
 | .error b => rfl
theorem Zpy (r : Except Nat (Tx × Nat)) : eApp [] r = r := by
 match r with
 | .ok (r, e) => rfl
 | .error b => rfl
def pEscL (v : Bool) : Tx → Nat → Except Nat (Tx × Nat)
 | [], a => .ok ([], a)
 | c :: l, a => if v = true ∧ c = 34 then .ok ([], a) else if c = 92 then (match l with
     | [] => .error (a + 1)
     | d :: l' => match sgnB v d with
      | none => .error (a + 1)
      | some y => eApp [y] (pEscL v l' (a + 2)))
  else eApp [c] (pEscL v l (a + 1))
def pEsc (v : Bool) (t : Tx) (a : Nat) : Except Nat (Tx × Nat) := pEscL v (t.drop a) a
theorem Zbl {t : Tx} {a : Nat} {c : UInt8} (h : t[a]? = some c) : t.drop a = c :: t.drop (a + 1) := by
 obtain ⟨h1, h2⟩ := List.getElem?_eq_some_iff.1 h; rw [List.drop_eq_getElem_cons h1, h2]
theorem Zjj {t : Tx} {a : Nat} (h : t[a]? = none) : t.drop a = [] := by
 rw [List.getElem?_eq_none_iff] at h; exact List.drop_of_length_le h
theorem Zpz {v : Bool} {t : Tx} {a : Nat} (h : t[a]? = none) : pEsc v t a = .ok ([], a) := by
 unfold pEsc; rw [Zjj h]; rfl
theorem Zk7 {t : Tx} {a : Nat} (h : t[a]? = some 34) : pEsc true t a = .ok ([], a) := by
 unfold pEsc; rw [Zbl h, pEscL.eq_def]; rfl
theorem Zk8 {v : Bool} {t : Tx} {a : Nat} {c : UInt8} (h : t[a]? = some c) (h1 : ¬ (v = true ∧ c = 34)) (h2 : ¬ c = 92) : pEsc v t a = eApp [c] (pEsc v t (a + 1)) := by
 unfold pEsc; rw [Zbl h, pEscL.eq_def]; simp only; rw [if_neg h1, if_neg h2]
theorem Znh {v : Bool} {t : Tx} {a : Nat} (h : t[a]? = some 92) : pEsc v t a = match pSign v t (a + 1) with
  | .error b => .error b
  | .ok (y, b) => eApp [y] (pEsc v t b) := by
 rw [Zma]; unfold pEsc; rw [Zbl h, pEscL.eq_def]; simp only; rw [if_neg (by simp), if_pos trivial]
 cases hn : t[a + 1]? with
 | none => rw [Zjj hn]
 | some d =>
  rw [Zbl hn]; simp only
  cases sgnB v d <;> rfl
theorem Zrc {v : Bool} {t : Tx} {a : Nat} {y : UInt8} {b : Nat} (h : pSign v t a = .ok (y, b)) : b = a + 1 ∧ a < t.length := by
 rw [Zma] at h
 cases hn : t[a]? with
 | none => rw [hn] at h; cases h
 | some d =>
  rw [hn] at h; have := (List.getElem?_eq_some_iff.1 hn).1; simp only at h
  cases hs : sgnB v d with
  | none => rw [hs] at h; cases h
  | some z => rw [hs] at h; cases h; exact ⟨rfl, this⟩

theorem Kept.trans_below {C : Nat} {w wr w' : World} (h : Kept C w wr) (k : Below w.heap.size wr w') : Kept C w w' :=
 ⟨k.os.trans h.os, k.tape.trans h.tape, k.output.trans h.output, Nat.le_trans h.size k.size, fun i hi hc => (k.block i hi).trans (h.block i hi hc)⟩
theorem Cur.below2 {C B : Nat} {s : ByteArray} {a : Nat} {w w' : World} (h : Cur C s a w) (hb : Below B w w') (hC : C < B) : Cur C s a w' :=
 ⟨(hb.cell (p := ⟨C, 0, none⟩) hC).trans h.txt, (hb.cell (p := ⟨C, 1, none⟩) hC).trans h.at_, fun i => (hb.frozen (p := ⟨C, i, none⟩) hC).trans (h.fz i), h.le, h.sm⟩

set_option maxHeartbeats 8000000 in
set_option maxRecDepth 100000 in
theorem Zic (value : Bool) (C : Nat) (s : ByteArray) (a : Nat) (w : World) (h : Cur C s a w) :
  Calls Tryd.prog 131 #[.pointer (some ⟨C, 0, none⟩), .bool value] w (Out C s w rT (pEsc value s.data.toList a)) := by
 have hsm := h.sm; have hCw : C < w.heap.size := World.block_lt_of_cell? w _ h.txt; have hA := Zx3 w; have hC0 : Cur C s a (w.alloc (.cells #[.pointer none, .slice none 0 0] 157)) := h.below2 ((Below.refl _ _).alloc (Nat.le_refl _) _) hCw; have hK0 : Kept C w (w.alloc (.cells #[.pointer none, .slice none 0 0] 157)) := (Kept.refl C w).trans_below ((Below.refl _ _).alloc (Nat.le_refl _) _); clear h
 go_enter Tryd.func131, Tryd.ntmps131
 go_wp2
 go_loopw [] (fun wr => ∃ (b : Nat) (acc : Tx), a ≤ b ∧ acc.length + a ≤ b ∧ Cur C s b wr ∧ Kept C w wr ∧ Bld w.heap.size w.heap.size acc wr ∧ Hid (pEsc value s.data.toList a = eApp acc (pEsc value s.data.toList b))) (fun wr => s.size - pos C wr)
 case atStart => exact ⟨a, [], Nat.le_refl _, by simp, hC0, hK0, hA, (Zpy _).symm⟩
 case round =>
  obtain ⟨b, acc, hab, hal, hC, hK, hB, hH⟩ := hrel; clear hC0 hK0 hA; have hpb := hC.pos; have hle := hC.le; have hLf := Zel C s b wr hC; have hBd := Zg3 hB (Kept.refl C wr).drew hCw; by_cases hb2 : b < s.size
  ·have hd : decide (b < s.size) = true := decide_eq_true hb2; have hcb := Zav hb2; have hP1 := Zb7 C s b wr.drew hC.drew _ hcb; generalize s[b]'hb2 = c at *; rw [hd] at hLf; by_cases q1 : value = true ∧ c = 34
   ·obtain ⟨rfl, rfl⟩ := q1; have hH2 : Hid (pEsc true s.data.toList a = .ok (acc, b)) := (by show _ = _; rw [hH.out, Zk7 hcb]; simp [eApp]); clear hcb
    go_wp2_with (first | (go_at_call 76; refine hLf.mono ?_; rintro e w' ⟨rfl, rfl⟩) | (go_at_call 127; refine hP1.mono ?_))
    rintro e w3 ⟨rfl, g1, g2⟩; have g3 := hK.trans ((Kept.refl C wr).drew.trans g2); have hB3 := Zg3 hBd g2 hCw; have hS := Zqu w.heap.size w.heap.size acc w3 hB3 g3.size; clear hP1 hLf hB hBd
    go_wp2_with (go_at_call 93; refine hS.mono ?_)
    rintro e w4 ⟨rfl, k2⟩; have hC4 := g1.below2 k2 hCw; have hK4 := g3.trans_below k2; clear hS; go_wp2; go_ret; exact Out.ok hH2.out hK4 rfl hC4
   ·by_cases q2 : c = 92
    ·subst q2; clear q1; have hstep := Znh (v := value) hcb; have hG : ∀ w2, Cur C s (b + 1) w2 → _ := fun w2 h2 => Zs7 value C s (b + 1) w2 h2; have hnx := @Zrc value s.data.toList (b + 1)
     cases hsg : pSign value s.data.toList (b + 1) with
     | error e1 =>
      have hH2 : Hid (pEsc value s.data.toList a = .error e1) := (by show _ = _; rw [hH.out, hstep, hsg]; rfl); rw [hsg] at hG; clear hcb hstep hsg hnx
      go_wp2_with (first | (go_at_call 76; refine hLf.mono ?_; rintro e w' ⟨rfl, rfl⟩) | (go_at_call 127; refine hP1.mono ?_))
      rintro e w3 ⟨rfl, g1, g2⟩; have g3 := hK.trans ((Kept.refl C wr).drew.trans g2); have hset := g1.set (b := b + 1) (by omega); have hkn := g3.set 1 (.int .i64 ((b + 1 : Nat) : Int)); have hG2 := hG _ hset; have ea : ((b + 1 : Nat) : Int) = (b : Int) + 1 := (by omega); rw [ea] at hset hkn hG2; have f1 := g1.at_; have f2 := g1.fz 1; clear hP1 hLf hB hBd hG
      cases value <;> (
       go_wp2_with (go_at_call 172; refine hG2.mono ?_)
       rintro e w4 ⟨k1, rfl⟩
       exact ⟨rfl, Out.no hH2.out (hkn.trans k1)⟩)
     | ok yb =>
      obtain ⟨y, b2⟩ := yb; obtain ⟨rfl, hlt⟩ := hnx hsg; have hH2 : Hid (pEsc value s.data.toList a = eApp (acc ++ [y]) (pEsc value s.data.toList (b + 1 + 1))) := (by show _ = _; rw [hH.out, hstep, hsg]; exact Zmb _ _ _); rw [hsg] at hG; have hlt2 : b + 1 < s.size := (by rw [Array.length_toList] at hlt; exact hlt); clear hcb hstep hsg hnx hlt
      go_wp2_with (first | (go_at_call 76; refine hLf.mono ?_; rintro e w' ⟨rfl, rfl⟩) | (go_at_call 127; refine hP1.mono ?_))
      rintro e w3 ⟨rfl, g1, g2⟩; have g3 := hK.trans ((Kept.refl C wr).drew.trans g2); have hset := g1.set (b := b + 1) (by omega); have hkn := g3.set 1 (.int .i64 ((b + 1 : Nat) : Int)); have hB2 := Zg3 hBd (g2.set 1 (.int .i64 ((b + 1 : Nat) : Int))) hCw; have hG2 := hG _ hset; have ea : ((b + 1 : Nat) : Int) = (b : Int) + 1 := (by omega); rw [ea] at hset hkn hG2 hB2; have f1 := g1.at_; have f2 := g1.fz 1; clear hP1 hLf hB hBd hG
      cases value <;> (
       go_wp2_with (go_at_call 172; refine hG2.mono ?_)
       rintro e w4 ⟨k1, ⟨x, rfl, rfl⟩, k3⟩; have hB3 := Zg3 hB2 k1 hCw; have hK3 := hkn.trans k1; have hW := wbyte w.heap.size w.heap.size acc y _ rfl _ hB3 (by omega) hK3.size; clear hG2 hset hkn hB2 k1
       go_wp2_with (go_at_call 141; refine hW.mono ?_)
       rintro e w5 ⟨rfl, m1, m2, _⟩; have hC4 := k3.below2 m2 hCw; have hK4 := hK3.trans_below m2; have hps := hC4.pos; clear hW; go_wp2
       exact ⟨⟨b + 1 + 1, acc ++ [y], by omega, by simp; omega, hC4, hK4, m1, hH2⟩, by rw [hps, hpb]; omega⟩)
    ·have hH2 : Hid (pEsc value s.data.toList a = eApp (acc ++ [c]) (pEsc value s.data.toList (b + 1))) := (by show _ = _; rw [hH.out, Zk8 hcb q1 q2, Zmb]); have i2 : ((c.toNat : Int) == 92) = false := Zgg (n := 92) q2; have i1 : value = true → ((c.toNat : Int) == 34) = false := fun hv => Zgg (n := 34) (fun e => q1 ⟨hv, e⟩); clear hcb q1 q2
     go_wp2_with (first | (go_at_call 76; refine hLf.mono ?_; rintro e w' ⟨rfl, rfl⟩) | (go_at_call 127; refine hP1.mono ?_))
     rintro e w3 ⟨rfl, g1, g2⟩; have g3 := hK.trans ((Kept.refl C wr).drew.trans g2); have hset := g1.set (b := b + 1) (by omega); have hkn := g3.set 1 (.int .i64 ((b + 1 : Nat) : Int)); have hB2 := Zg3 hBd (g2.set 1 (.int .i64 ((b + 1 : Nat) : Int))) hCw; have ea : ((b + 1 : Nat) : Int) = (b : Int) + 1 := (by omega); rw [ea] at hset hkn hB2; have f1 := g1.at_; have f2 := g1.fz 1; have hW := wbyte w.heap.size w.heap.size acc c _ rfl _ hB2 (by omega) hkn.size; clear hP1 hLf hB hBd
     cases value with
     | false =>
      clear i1
      go_wp2_with (go_at_call 141; refine hW.mono ?_)
      rintro e w4 ⟨rfl, k1, k2, _⟩; have hC4 := hset.below2 k2 hCw; have hK4 := hkn.trans_below k2; have hps := hC4.pos; clear hW; go_wp2; exact ⟨⟨b + 1, acc ++ [c], by omega, by simp; omega, hC4, hK4, k1, hH2⟩, by rw [hps, hpb]; omega⟩
     | true =>
      have i1 := i1 rfl
      go_wp2_with (go_at_call 141; refine hW.mono ?_)
      rintro e w4 ⟨rfl, k1, k2, _⟩; have hC4 := hset.below2 k2 hCw; have hK4 := hkn.trans_below k2; have hps := hC4.pos; clear hW; go_wp2; exact ⟨⟨b + 1, acc ++ [c], by omega, by simp; omega, hC4, hK4, k1, hH2⟩, by rw [hps, hpb]; omega⟩
  ·have hd : decide (b < s.size) = false := decide_eq_false hb2; rw [hd] at hLf; have hH2 : Hid (pEsc value s.data.toList a = .ok (acc, b)) := (by show _ = _; rw [hH.out, Zpz (Zbf hb2)]; simp [eApp]); have hS := Zqu w.heap.size w.heap.size acc wr.drew hBd hK.size
   go_wp2_with (first | (go_at_call 76; refine hLf.mono ?_; rintro e w' ⟨rfl, rfl⟩) | (go_at_call 93; refine hS.mono ?_))
   rintro e w4 ⟨rfl, k2⟩; have hC4 := hC.drew.below2 k2 hCw; have hK4 := hK.drew.trans_below k2; clear hS; go_wp2; go_ret; exact Out.ok hH2.out hK4 rfl hC4

def pDigs (most : Nat) : Tx → Nat → Nat → Except Nat (Nat × Nat)
 | [], n, a => .ok (n, a)
 | c :: l, n, a => if 0 < n ∧ digB c = true then (if (most - (c.toNat - 48)) / 10 < n then .error a else pDigs most l (n * 10 + (c.toNat - 48)) (a + 1)) else .ok (n, a)
def pAbs (most : Nat) (below : Bool) (t : Tx) (a : Nat) : Except Nat (Nat × Nat) := match t[a]? with
 | none => .error a
 | some f => if digB f = false ∨ (below = true ∧ f = 48) then .error a else pDigs most (t.drop (a + 1)) (f.toNat - 48) (a + 1)
def pNum (t : Tx) (a : Nat) : Except Nat (Int × Nat) := match t[a]? with
 | none => .error a
 | some x => if x = 45 then (match pAbs 9223372036854775808 true t (a + 1) with | .ok (n, b) => .ok (- (n : Int), b) | .error b => .error b)
  else (match pAbs 9223372036854775807 false t a with | .ok (n, b) => .ok ((n : Int), b) | .error b => .error b)
abbrev rI : Int → Value → World → Prop := fun v x _ => x = .int .i64 v
theorem Zhw {most : Nat} {t : Tx} {a n : Nat} (h : t[a]? = none) : pDigs most (t.drop a) n a = .ok (n, a) := by rw [Zjj h]; rfl
theorem Zhx {most : Nat} {t : Tx} {a n : Nat} {c : UInt8} (h : t[a]? = some c) (h1 : ¬ (0 < n ∧ digB c = true)) : pDigs most (t.drop a) n a = .ok (n, a) := by rw [Zbl h, pDigs, if_neg h1]
theorem Zjk {most : Nat} {t : Tx} {a n : Nat} {c : UInt8} (h : t[a]? = some c) (h1 : 0 < n ∧ digB c = true) (h2 : (most - (c.toNat - 48)) / 10 < n) : pDigs most (t.drop a) n a = .error a := by rw [Zbl h, pDigs, if_pos h1, if_pos h2]
theorem Zhy {most : Nat} {t : Tx} {a n : Nat} {c : UInt8} (h : t[a]? = some c) (h1 : 0 < n ∧ digB c = true) (h2 : ¬ (most - (c.toNat - 48)) / 10 < n) : pDigs most (t.drop a) n a = pDigs most (t.drop (a + 1)) (n * 10 + (c.toNat - 48)) (a + 1) := by rw [Zbl h, pDigs, if_pos h1, if_neg h2]
theorem Zem {most : Nat} {l : Tx} {a : Nat} : pDigs most l 0 a = .ok (0, a) := by
 cases l with
 | nil => rfl
 | cons c l => rw [pDigs, if_neg (by simp)]

theorem Ziu {most : Nat} {below : Bool} {t : Tx} {a : Nat} {f : UInt8} (h : t[a]? = some f) (h1 : digB f = false ∨ (below = true ∧ f = 48)) : pAbs most below t a = .error a := by unfold pAbs; rw [h]; exact if_pos h1
theorem Zoe {most : Nat} {below : Bool} {t : Tx} {a : Nat} {f : UInt8} (h : t[a]? = some f) (h1 : ¬ (digB f = false ∨ (below = true ∧ f = 48))) : pAbs most below t a = pDigs most (t.drop (a + 1)) (f.toNat - 48) (a + 1) := by unfold pAbs; rw [h]; exact if_neg h1
theorem negw {n : Nat} (h : n ≤ 9223372036854775808) : wrap64 (IntKind.u64.wrap (-(n : Int))) = -(n : Int) := by
 by_cases h0 : n = 0
 ·subst h0; simp [IntKind.wrap, IntKind.bits, IntKind.signed, wrap64]
 ·have : IntKind.u64.wrap (-(n : Int)) = 18446744073709551616 - (n : Int) := (by simp [IntKind.wrap, IntKind.bits, IntKind.signed]; omega); rw [this]; simp [wrap64]; omega
theorem Zjl {most : Nat} {below : Bool} {t : Tx} {a : Nat} (h : t[a]? = none) : pAbs most below t a = .error a := by unfold pAbs; rw [h]
set_option maxHeartbeats 8000000 in
set_option maxRecDepth 100000 in
theorem Zjm (C : Nat) (s : ByteArray) (a : Nat) (w : World) (h : Cur C s a w) :
  Calls Tryd.prog 169 #[.pointer (some ⟨C, 0, none⟩)] w (Out C s w rI (pNum s.data.toList a)) := by
 have hsm := h.sm; have hle := h.le; by_cases hl : a < s.size
 ·have hc := Zav hl; have hP := Zb7 C s a w h _ hc; generalize hxx : s[a]'hl = x at *; by_cases hx : x = 45
  ·subst hx; have hN : Hid (pNum s.data.toList a = match pAbs 9223372036854775808 true s.data.toList (a + 1) with | .ok (n, b) => .ok (- (n : Int), b) | .error b => .error b) := (by show _ = _; unfold pNum; rw [hc]; rfl); clear hxx hc
   go_enter Tryd.func169, Tryd.ntmps169
   go_wp2_with (go_at_call 127; refine hP.mono ?_)
   rintro e w1 ⟨rfl, g1, g2⟩; have hset := g1.set (b := a + 1) (by omega); have hkn := g2.set 1 (.int .i64 ((a + 1 : Nat) : Int)); have ea : ((a + 1 : Nat) : Int) = (a : Int) + 1 := (by omega); rw [ea] at hset hkn; have f1 := g1.at_; have f2 := g1.fz 1; clear hP h; by_cases hl2 : a + 1 < s.size
   ·have hcf := Zav hl2; have hP2 := Zb7 C s (a + 1) _ hset _ hcf; generalize s[a + 1]'hl2 = f at *; have hDf := Zet f; by_cases hbad : digB f = false ∨ (true = true ∧ f = 48)
    ·have Hy : Hid (pNum s.data.toList a = .error (a + 1)) := (by show _ = _; rw [hN.out]; rw [Ziu hcf hbad]); clear hN hcf
     go_wp2_with (go_at_call 127; refine hP2.mono ?_)
     rintro e w2 ⟨rfl, m1, m2⟩; have m3 := hkn.trans m2; have hF := Zcf C s (a + 1) w2 m1; clear hP2
     cases hdf : digB f with
     | false =>
      rw [hdf] at hDf; clear hbad
      go_wp2_with (first | (go_at_call 171; refine (hDf _).mono ?_; rintro e w' ⟨rfl, rfl⟩) | (go_at_call 77; refine hF.mono ?_))
      rintro e w4 ⟨rfl, rfl⟩; exact ⟨rfl, Out.no Hy.out m3⟩
     | true =>
      rw [hdf] at hDf hbad; have hbad2 : true = true ∧ f = 48 := (by simpa using hbad); obtain ⟨hbb, rfl⟩ := hbad2; clear hbad
      first
      | (exact absurd hbb (by decide))
      | (go_wp2_with (first | (go_at_call 171; refine (hDf _).mono ?_; rintro e w' ⟨rfl, rfl⟩) | (go_at_call 77; refine hF.mono ?_)); rintro e w4 ⟨rfl, rfl⟩; exact ⟨rfl, Out.no Hy.out m3⟩)
    ·have hdf : digB f = true := by
      cases q : digB f with
      | true => rfl
      | false => exact absurd (Or.inl q) hbad
     have hne : true = true → ((f.toNat : Int) == 48) = false := fun hv => Zgg (n := 48) (fun e => hbad (Or.inr ⟨hv, e⟩)); have hf1 : 48 ≤ f.toNat ∧ f.toNat ≤ 57 := (by unfold digB at hdf; simpa using hdf); have hA : Hid (pAbs 9223372036854775808 true s.data.toList (a + 1) = pDigs 9223372036854775808 (s.data.toList.drop (a + 1 + 1)) (f.toNat - 48) (a + 1 + 1)) := (by show _ = _; exact Zoe hcf hbad); rw [hdf] at hDf; clear hbad hcf
     go_wp2_with (go_at_call 127; refine hP2.mono ?_)
     rintro e w2 ⟨rfl, m1, m2⟩; have m3 := hkn.trans m2; clear hP2; have hset2 := m1.set (b := a + 1 + 1) (by omega); have hkn2 := m3.set 1 (.int .i64 ((a + 1 + 1 : Nat) : Int)); have ea2 : ((a + 1 + 1 : Nat) : Int) = ((a + 1 : Nat) : Int) + 1 := (by omega); rw [ea2] at hset2 hkn2; have f3 := m1.at_; have f4 := m1.fz 1
     try rw [ea] at hset2 hkn2 f3
     have hg1 : (48 : Int) ≤ (f.toNat : Int) := (by omega); have hg2 : (f.toNat : Int) ≤ 57 := (by omega); have hne1 := hne (by trivial)
     go_wp2_with (first | (go_at_call 171; refine (hDf _).mono ?_; rintro e w' ⟨rfl, rfl⟩))
     go_loopw [6] (fun i wr => ∃ b n : Nat, a + 1 + 1 ≤ b ∧ n ≤ 9223372036854775808 ∧ i = .int .u64 n ∧ Cur C s b wr ∧ Kept C w wr ∧ Hid (pDigs 9223372036854775808 (s.data.toList.drop (a + 1 + 1)) (f.toNat - 48) (a + 1 + 1) = pDigs 9223372036854775808 (s.data.toList.drop b) n b)) (fun _ wr => s.size - pos C wr)
     case atStart => exact ⟨a + 1 + 1, f.toNat - 48, Nat.le_refl _, by omega, by rw [show ((f.toNat - 48 : Nat) : Int) = (f.toNat : Int) - 48 by omega], hset2, hkn2, rfl⟩
     case round =>
      obtain ⟨b, n, hab, hnm, rfl, hC, hK, hH⟩ := hrel; clear hset2 hkn2 f3 f4 m1 m2 m3; have hpb := hC.pos; have hle2 := hC.le; have hfin : ∀ b', Hid (pDigs 9223372036854775808 (s.data.toList.drop b) n b = .ok (n, b')) → Hid (pNum s.data.toList a = .ok (- (n : Int), b')) := fun b' e => by show _ = _; rw [hN.out, hA.out, hH.out, e.out]
      by_cases hn0 : n = 0
      ·subst hn0; have Hy := hfin b Zem; clear hH hN hA hfin; go_wp2; go_ret; exact Out.ok Hy.out hK rfl hC
      ·have hn1 : (0 : Int) < (n : Int) := (by omega); have hn2 : (n : Int) ≤ 9223372036854775808 := (by omega); have hLf := Zel C s b wr hC; by_cases hb2 : b < s.size
       ·have hd : decide (b < s.size) = true := decide_eq_true hb2; have hcb := Zav hb2; have hP3 := Zb7 C s b wr.drew hC.drew _ hcb; have hP4 := fun w2 (h2 : Cur C s b w2) => Zb7 C s b w2 h2 _ hcb; generalize s[b]'hb2 = c at *; have hDc := Zet c; rw [hd] at hLf
        cases hdc : digB c with
        | false =>
         have Hy := hfin b (Zhx hcb (by rw [hdc]; simp)); rw [hdc] at hDc; clear hH hN hA hfin hcb
         go_wp2_with (first | (go_at_call 76; refine hLf.mono ?_; rintro e w' ⟨rfl, rfl⟩) | (go_at_call 127; refine hP3.mono ?_))
         rintro e w5 ⟨rfl, k1, k2⟩; have k3 := hK.trans ((Kept.refl C wr).drew.trans k2); clear hLf hP3 hP4
         go_wp2_with (go_at_call 171; refine (hDc _).mono ?_; rintro e w' ⟨rfl, rfl⟩)
         go_ret; refine Out.ok Hy.out k3 ?_ k1; exact congrArg (Value.int .i64) (negw hnm)
        | true =>
         rw [hdc] at hDc; have hc1 : 48 ≤ c.toNat ∧ c.toNat ≤ 57 := by unfold digB at hdc; simpa using hdc
         have hc2 : (48 : Int) ≤ (c.toNat : Int) := (by omega); have hc3 : (c.toNat : Int) ≤ 57 := by omega
         go_wp2_with (first | (go_at_call 76; refine hLf.mono ?_; rintro e w' ⟨rfl, rfl⟩) | (go_at_call 127; refine hP3.mono ?_))
         rintro e w5 ⟨rfl, k1, k2⟩; have k3 := hK.trans ((Kept.refl C wr).drew.trans k2); have hP5 := hP4 w5 k1; clear hLf hP3 hP4
         go_wp2_with (first | (go_at_call 171; refine (hDc _).mono ?_; rintro e w' ⟨rfl, rfl⟩) | (go_at_call 127; refine hP5.mono ?_))
         rintro e w6 ⟨rfl, k4, k5⟩; have k6 := k3.trans k5; clear hP5 k5 k3 k1 k2; by_cases hfar : (9223372036854775808 - (c.toNat - 48)) / 10 < n
         ·have Hy : Hid (pNum s.data.toList a = .error b) := (by show _ = _; rw [hN.out, hA.out, hH.out, Zjk hcb ⟨by omega, hdc⟩ hfar]); have hF := Zcf C s b w6 k4; have hfar2 : ((9223372036854775808 : Int) - ((c.toNat : Int) - 48)) / 10 < (n : Int) := (by omega); clear hH hN hA hfin hcb hfar
          go_wp2_with (go_at_call 77; refine hF.mono ?_)
          rintro e w7 ⟨rfl, rfl⟩; exact ⟨rfl, Out.no Hy.out k6⟩
         ·have Hx : Hid (pDigs 9223372036854775808 (s.data.toList.drop (a + 1 + 1)) (f.toNat - 48) (a + 1 + 1) = pDigs 9223372036854775808 (s.data.toList.drop (b + 1)) (n * 10 + (c.toNat - 48)) (b + 1)) := (by show _ = _; rw [hH.out, Zhy hcb ⟨by omega, hdc⟩ hfar]); have hset3 := k4.set (b := b + 1) (by omega); have hkn3 := k6.set 1 (.int .i64 ((b + 1 : Nat) : Int)); have ea3 : ((b + 1 : Nat) : Int) = (b : Int) + 1 := (by omega); rw [ea3] at hset3 hkn3; have f5 := k4.at_; have f6 := k4.fz 1; have hps := hset3.pos; have hfar2 : (n : Int) ≤ ((9223372036854775808 : Int) - ((c.toNat : Int) - 48)) / 10 := (by omega); have hfar3 : (n : Int) * 10 + ((c.toNat : Int) - 48) ≤ 9223372036854775808 := (by omega); have hnn : n * 10 + (c.toNat - 48) ≤ 9223372036854775808 := (by omega); have enn : ((n * 10 + (c.toNat - 48) : Nat) : Int) = (n : Int) * 10 + ((c.toNat : Int) - 48) := (by omega); clear hH hN hA hfin hcb hfar; go_wp2; exact ⟨⟨b + 1, n * 10 + (c.toNat - 48), by omega, hnn, by rw [enn], hset3, hkn3, Hx⟩, by rw [hps, hpb]; omega⟩
       ·have hd : decide (b < s.size) = false := decide_eq_false hb2; rw [hd] at hLf; have Hy := hfin b (Zhw (Zbf hb2)); clear hH hN hA hfin
        go_wp2_with (go_at_call 76; refine hLf.mono ?_; rintro e w' ⟨rfl, rfl⟩)
        go_ret; refine Out.ok Hy.out hK.drew ?_ hC.drew; exact congrArg (Value.int .i64) (negw hnm)
   ·have Hy : Hid (pNum s.data.toList a = .error (a + 1)) := (by show _ = _; rw [hN.out, Zjl (Zbf hl2)]); have hP2 := Zei C s (a + 1) _ hset hl2; clear hl2 hN
    go_wp2_with (go_at_call 127; refine hP2.mono ?_)
    rintro e w2 ⟨rfl, m1, m2⟩; exact ⟨rfl, Out.no Hy.out (hkn.trans m2)⟩
  ·have hN : Hid (pNum s.data.toList a = match pAbs 9223372036854775807 false s.data.toList a with | .ok (n, b) => .ok ((n : Int), b) | .error b => .error b) := (by show _ = _; unfold pNum; rw [hc]; simp only; rw [if_neg hx]); have i1 : ((x.toNat : Int) == 45) = false := Zgg (n := 45) hx; clear hxx hc hx
   go_enter Tryd.func169, Tryd.ntmps169
   go_wp2_with (go_at_call 127; refine hP.mono ?_)
   rintro e w1 ⟨rfl, g1, g2⟩; clear hP h; by_cases hl2 : a < s.size
   ·have hcf := Zav hl2; have hP2 := Zb7 C s (a) _ g1 _ hcf; generalize s[a]'hl2 = f at *; have hDf := Zet f; by_cases hbad : digB f = false ∨ (false = true ∧ f = 48)
    ·have Hy : Hid (pNum s.data.toList a = .error (a)) := (by show _ = _; rw [hN.out]; rw [Ziu hcf hbad]); clear hN hcf
     go_wp2_with (go_at_call 127; refine hP2.mono ?_)
     rintro e w2 ⟨rfl, m1, m2⟩; have m3 := g2.trans m2; have hF := Zcf C s (a) w2 m1; clear hP2
     cases hdf : digB f with
     | false =>
      rw [hdf] at hDf; clear hbad
      go_wp2_with (first | (go_at_call 171; refine (hDf _).mono ?_; rintro e w' ⟨rfl, rfl⟩) | (go_at_call 77; refine hF.mono ?_))
      rintro e w4 ⟨rfl, rfl⟩; exact ⟨rfl, Out.no Hy.out m3⟩
     | true =>
      rw [hdf] at hDf hbad; have hbad2 : false = true ∧ f = 48 := by rcases hbad with h | h; (cases h); exact h
      obtain ⟨hbb, rfl⟩ := hbad2; clear hbad
      first
      | (exact absurd hbb (by decide))
      | (go_wp2_with (first | (go_at_call 171; refine (hDf _).mono ?_; rintro e w' ⟨rfl, rfl⟩) | (go_at_call 77; refine hF.mono ?_)); rintro e w4 ⟨rfl, rfl⟩; exact ⟨rfl, Out.no Hy.out m3⟩)
    ·have hdf : digB f = true := by
      cases q : digB f with
      | true => rfl
      | false => exact absurd (Or.inl q) hbad
     have hne : false = true → ((f.toNat : Int) == 48) = false := fun hv => Zgg (n := 48) (fun e => hbad (Or.inr ⟨hv, e⟩)); have hf1 : 48 ≤ f.toNat ∧ f.toNat ≤ 57 := (by unfold digB at hdf; simpa using hdf); have hA : Hid (pAbs 9223372036854775807 false s.data.toList (a) = pDigs 9223372036854775807 (s.data.toList.drop (a + 1)) (f.toNat - 48) (a + 1)) := (by show _ = _; exact Zoe hcf hbad); rw [hdf] at hDf; clear hbad hcf
     go_wp2_with (go_at_call 127; refine hP2.mono ?_)
     rintro e w2 ⟨rfl, m1, m2⟩; have m3 := g2.trans m2; clear hP2; have hset2 := m1.set (b := a + 1) (by omega); have hkn2 := m3.set 1 (.int .i64 ((a + 1 : Nat) : Int)); have ea2 : ((a + 1 : Nat) : Int) = ((a : Nat) : Int) + 1 := (by omega); rw [ea2] at hset2 hkn2; have f3 := m1.at_; have f4 := m1.fz 1
     try rw [ea] at hset2 hkn2 f3
     have hg1 : (48 : Int) ≤ (f.toNat : Int) := (by omega); have hg2 : (f.toNat : Int) ≤ 57 := (by omega); clear hne
     go_wp2_with (first | (go_at_call 171; refine (hDf _).mono ?_; rintro e w' ⟨rfl, rfl⟩))
     go_loopw [6] (fun i wr => ∃ b n : Nat, a + 1 ≤ b ∧ n ≤ 9223372036854775807 ∧ i = .int .u64 n ∧ Cur C s b wr ∧ Kept C w wr ∧ Hid (pDigs 9223372036854775807 (s.data.toList.drop (a + 1)) (f.toNat - 48) (a + 1) = pDigs 9223372036854775807 (s.data.toList.drop b) n b)) (fun _ wr => s.size - pos C wr)
     case atStart => exact ⟨a + 1, f.toNat - 48, Nat.le_refl _, by omega, by rw [show ((f.toNat - 48 : Nat) : Int) = (f.toNat : Int) - 48 by omega], hset2, hkn2, rfl⟩
     case round =>
      obtain ⟨b, n, hab, hnm, rfl, hC, hK, hH⟩ := hrel; clear hset2 hkn2 f3 f4 m1 m2 m3; have hpb := hC.pos; have hle2 := hC.le; have hfin : ∀ b', Hid (pDigs 9223372036854775807 (s.data.toList.drop b) n b = .ok (n, b')) → Hid (pNum s.data.toList a = .ok ((n : Int), b')) := fun b' e => by show _ = _; rw [hN.out, hA.out, hH.out, e.out]
      by_cases hn0 : n = 0
      ·subst hn0; have Hy := hfin b Zem; clear hH hN hA hfin; go_wp2; go_ret; exact Out.ok Hy.out hK rfl hC
      ·have hn1 : (0 : Int) < (n : Int) := (by omega); have hn2 : (n : Int) ≤ 9223372036854775807 := (by omega); have hLf := Zel C s b wr hC; by_cases hb2 : b < s.size
       ·have hd : decide (b < s.size) = true := decide_eq_true hb2; have hcb := Zav hb2; have hP3 := Zb7 C s b wr.drew hC.drew _ hcb; have hP4 := fun w2 (h2 : Cur C s b w2) => Zb7 C s b w2 h2 _ hcb; generalize s[b]'hb2 = c at *; have hDc := Zet c; rw [hd] at hLf
        cases hdc : digB c with
        | false =>
         have Hy := hfin b (Zhx hcb (by rw [hdc]; simp)); rw [hdc] at hDc; clear hH hN hA hfin hcb
         go_wp2_with (first | (go_at_call 76; refine hLf.mono ?_; rintro e w' ⟨rfl, rfl⟩) | (go_at_call 127; refine hP3.mono ?_))
         rintro e w5 ⟨rfl, k1, k2⟩; have k3 := hK.trans ((Kept.refl C wr).drew.trans k2); clear hLf hP3 hP4
         go_wp2_with (go_at_call 171; refine (hDc _).mono ?_; rintro e w' ⟨rfl, rfl⟩)
         go_ret; refine Out.ok Hy.out k3 ?_ k1; rfl
        | true =>
         rw [hdc] at hDc; have hc1 : 48 ≤ c.toNat ∧ c.toNat ≤ 57 := by unfold digB at hdc; simpa using hdc
         have hc2 : (48 : Int) ≤ (c.toNat : Int) := (by omega); have hc3 : (c.toNat : Int) ≤ 57 := by omega
         go_wp2_with (first | (go_at_call 76; refine hLf.mono ?_; rintro e w' ⟨rfl, rfl⟩) | (go_at_call 127; refine hP3.mono ?_))
         rintro e w5 ⟨rfl, k1, k2⟩; have k3 := hK.trans ((Kept.refl C wr).drew.trans k2); have hP5 := hP4 w5 k1; clear hLf hP3 hP4
         go_wp2_with (first | (go_at_call 171; refine (hDc _).mono ?_; rintro e w' ⟨rfl, rfl⟩) | (go_at_call 127; refine hP5.mono ?_))
         rintro e w6 ⟨rfl, k4, k5⟩; have k6 := k3.trans k5; clear hP5 k5 k3 k1 k2; by_cases hfar : (9223372036854775807 - (c.toNat - 48)) / 10 < n
         ·have Hy : Hid (pNum s.data.toList a = .error b) := (by show _ = _; rw [hN.out, hA.out, hH.out, Zjk hcb ⟨by omega, hdc⟩ hfar]); have hF := Zcf C s b w6 k4; have hfar2 : ((9223372036854775807 : Int) - ((c.toNat : Int) - 48)) / 10 < (n : Int) := (by omega); clear hH hN hA hfin hcb hfar
          go_wp2_with (go_at_call 77; refine hF.mono ?_)
          rintro e w7 ⟨rfl, rfl⟩; exact ⟨rfl, Out.no Hy.out k6⟩
         ·have Hx : Hid (pDigs 9223372036854775807 (s.data.toList.drop (a + 1)) (f.toNat - 48) (a + 1) = pDigs 9223372036854775807 (s.data.toList.drop (b + 1)) (n * 10 + (c.toNat - 48)) (b + 1)) := (by show _ = _; rw [hH.out, Zhy hcb ⟨by omega, hdc⟩ hfar]); have hset3 := k4.set (b := b + 1) (by omega); have hkn3 := k6.set 1 (.int .i64 ((b + 1 : Nat) : Int)); have ea3 : ((b + 1 : Nat) : Int) = (b : Int) + 1 := (by omega); rw [ea3] at hset3 hkn3; have f5 := k4.at_; have f6 := k4.fz 1; have hps := hset3.pos; have hfar2 : (n : Int) ≤ ((9223372036854775807 : Int) - ((c.toNat : Int) - 48)) / 10 := (by omega); have hfar3 : (n : Int) * 10 + ((c.toNat : Int) - 48) ≤ 9223372036854775807 := (by omega); have hnn : n * 10 + (c.toNat - 48) ≤ 9223372036854775807 := (by omega); have enn : ((n * 10 + (c.toNat - 48) : Nat) : Int) = (n : Int) * 10 + ((c.toNat : Int) - 48) := (by omega); clear hH hN hA hfin hcb hfar; go_wp2; exact ⟨⟨b + 1, n * 10 + (c.toNat - 48), by omega, hnn, by rw [enn], hset3, hkn3, Hx⟩, by rw [hps, hpb]; omega⟩
       ·have hd : decide (b < s.size) = false := decide_eq_false hb2; rw [hd] at hLf; have Hy := hfin b (Zhw (Zbf hb2)); clear hH hN hA hfin
        go_wp2_with (go_at_call 76; refine hLf.mono ?_; rintro e w' ⟨rfl, rfl⟩)
        go_ret; refine Out.ok Hy.out hK.drew ?_ hC.drew; rfl
   ·have Hy : Hid (pNum s.data.toList a = .error (a)) := (by show _ = _; rw [hN.out, Zjl (Zbf hl2)]); have hP2 := Zei C s (a) _ g1 hl2; clear hl2 hN
    go_wp2_with (go_at_call 127; refine hP2.mono ?_)
    rintro e w2 ⟨rfl, m1, m2⟩; exact ⟨rfl, Out.no Hy.out (g2.trans m2)⟩
 ·have Hy : Hid (pNum s.data.toList a = .error a) := (by show pNum _ _ = _; unfold pNum; rw [Zbf hl]); have hP := Zei C s a w h hl; clear hl
  go_enter Tryd.func169, Tryd.ntmps169
  go_wp2_with (go_at_call 127; refine hP.mono ?_)
  rintro e w1 ⟨rfl, g1, g2⟩; exact ⟨rfl, Out.no Hy.out g2⟩

def pWord {α : Type} (t w : Tx) (v : α) (a : Nat) : Except Nat (α × Nat) := match pNeed t w a with
 | .ok (_, b) => .ok (v, b)
 | .error b => .error b
def pKind (t : Tx) (a : Nat) : Except Nat (Int × Nat) := match t[a]? with
 | none => .error a
 | some x => if x = 99 then pWord t [99, 111, 117, 110, 116, 101, 114] 1 a
  else if x = 103 then pWord t [103, 97, 117, 103, 101] 2 a
  else pWord t [104, 105, 115, 116, 111, 103, 114, 97, 109] 3 a

set_option maxHeartbeats 8000000 in
set_option maxRecDepth 100000 in
theorem Zse (C : Nat) (s : ByteArray) (a : Nat) (w : World) (h : Cur C s a w) :
  Calls Tryd.prog 132 #[.pointer (some ⟨C, 0, none⟩)] w (Out C s w rI (pKind s.data.toList a)) := by
 have hsm := h.sm; by_cases hl : a < s.size
 ·have hc := Zav hl; have hP := Zb7 C s a w h _ hc; generalize s[a]'hl = x at *
  have hk : Hid (pKind s.data.toList a = if x = 99 then pWord s.data.toList [99, 111, 117, 110, 116, 101, 114] 1 a
   else if x = 103 then pWord s.data.toList [103, 97, 117, 103, 101] 2 a
   else pWord s.data.toList [104, 105, 115, 116, 111, 103, 114, 97, 109] 3 a) := by
   show pKind _ _ = _; unfold pKind; rw [hc]
  have i1 : ¬ x = 99 → ((x.toNat : Int) == 99) = false := Zgg (n := 99); have i2 : ¬ x = 103 → ((x.toNat : Int) == 103) = false := Zgg (n := 103); have hN := fun (d : ByteArray) (hd : d.size ≤ 1000) w2 h2 => Zb6 C s a w2 h2 d hd; clear hc h hl
  go_enter Tryd.func132, Tryd.ntmps132
  go_wp2_with (go_at_call 127; refine hP.mono ?_)
  rintro e w1 ⟨rfl, g1, g2⟩; clear hP; have hfin : ∀ (d : Tx) (v : Int), pKind s.data.toList a = pWord s.data.toList d v a → ∀ r, pNeed s.data.toList d a = r → Hid (pKind s.data.toList a = match r with | .ok (_, b) => .ok (v, b) | .error b => .error b) := fun d v e r hr => by show _ = _; rw [e]; unfold pWord; rw [hr]
  by_cases x1 : x = 99
  ·subst x1; clear i1 i2; have Hq := hfin [99, 111, 117, 110, 116, 101, 114] _ (hk.out.trans (if_pos rfl)); have hN1 := hN ⟨#[99, 111, 117, 110, 116, 101, 114]⟩ (by decide) w1 g1; clear hk hN hfin
   go_wp2_with (go_at_call 129; refine hN1.mono ?_)
   rintro e w2 ⟨k1, k2⟩; have k3 := g2.trans k1; clear hN1
   cases hr : pNeed s.data.toList [99, 111, 117, 110, 116, 101, 114] a with
   | error b => rw [hr] at k2; have k4 : e = brk b := k2; subst k4; exact ⟨rfl, Out.no (Hq _ hr).out k3⟩
   | ok vb => obtain ⟨u, b⟩ := vb; rw [hr] at k2; obtain ⟨⟨x, rfl, rfl⟩, k4⟩ := k2; have Hy := Hq _ hr; clear Hq hr; go_wp2; go_ret; exact Out.ok Hy.out k3 rfl k4
  ·have j1 := i1 x1; by_cases x2 : x = 103
   ·subst x2; clear i1 i2; have Hq := hfin [103, 97, 117, 103, 101] _ (hk.out.trans ((if_neg x1).trans (if_pos rfl))); have hN1 := hN ⟨#[103, 97, 117, 103, 101]⟩ (by decide) w1 g1; clear hk hN hfin
    go_wp2_with (go_at_call 129; refine hN1.mono ?_)
    rintro e w2 ⟨k1, k2⟩; have k3 := g2.trans k1; clear hN1
    cases hr : pNeed s.data.toList [103, 97, 117, 103, 101] a with
    | error b => rw [hr] at k2; have k4 : e = brk b := k2; subst k4; exact ⟨rfl, Out.no (Hq _ hr).out k3⟩
    | ok vb => obtain ⟨u, b⟩ := vb; rw [hr] at k2; obtain ⟨⟨x, rfl, rfl⟩, k4⟩ := k2; have Hy := Hq _ hr; clear Hq hr; go_wp2; go_ret; exact Out.ok Hy.out k3 rfl k4
   ·have j2 := i2 x2; clear i1 i2; have Hq := hfin [104, 105, 115, 116, 111, 103, 114, 97, 109] _ (hk.out.trans ((if_neg x1).trans (if_neg x2))); have hN1 := hN ⟨#[104, 105, 115, 116, 111, 103, 114, 97, 109]⟩ (by decide) w1 g1; clear hk hN hfin
    go_wp2_with (go_at_call 129; refine hN1.mono ?_)
    rintro e w2 ⟨k1, k2⟩; have k3 := g2.trans k1; clear hN1
    cases hr : pNeed s.data.toList [104, 105, 115, 116, 111, 103, 114, 97, 109] a with
    | error b => rw [hr] at k2; have k4 : e = brk b := k2; subst k4; exact ⟨rfl, Out.no (Hq _ hr).out k3⟩
    | ok vb => obtain ⟨u, b⟩ := vb; rw [hr] at k2; obtain ⟨⟨x, rfl, rfl⟩, k4⟩ := k2; have Hy := Hq _ hr; clear Hq hr; go_wp2; go_ret; exact Out.ok Hy.out k3 rfl k4
 ·have Hy : Hid (pKind s.data.toList a = .error a) := (by show pKind _ _ = _; unfold pKind; rw [Zbf hl]); have hP := Zei C s a w h hl; clear hl
  go_enter Tryd.func132, Tryd.ntmps132
  go_wp2_with (go_at_call 127; refine hP.mono ?_)
  rintro e w1 ⟨rfl, g1, g2⟩; exact ⟨rfl, Out.no Hy.out g2⟩
end Go.Proofs.YtknnooannohflaaDoor.Prs

namespace Go.Proofs.YtknnooannohflaaDoor.Prs
open Go Go.Proofs Go.RowKit Go.Px Trm Exp Met
set_option linter.unusedVariables false

def pLab (t : Tx) (a : Nat) : Except Nat (LaD × Nat) := match pName t a with
 | .error b => .error b
 | .ok (nm, b1) => match pNeed t [61, 34] b1 with
  | .error b => .error b
  | .ok (_, b2) => match pEsc true t b2 with
   | .error b => .error b
   | .ok (v, b3) => match pNeed t [34] b3 with
    | .error b => .error b
    | .ok (_, b4) => .ok ((bA nm, bA v), b4)
theorem Ziv {t : Tx} {a : Nat} {nm : Tx} {b : Nat} (h : pName t a = .ok (nm, b)) : b = a + nm.length := by
 unfold pName at h
 cases hc : t[a]? with
 | none => rw [hc] at h; cases h
 | some c =>
  rw [hc] at h; simp only at h
  split at h
  ·cases h; rfl
  ·cases h
theorem Ziw {t : Tx} : ∀ {w : Tx} {a : Nat} {u : Unit} {b : Nat}, pNeed t w a = .ok (u, b) → b = a + w.length
 | [], a, u, b, h => by cases h; rfl
 | c :: w, a, u, b, h => by
  unfold pNeed at h
  split at h
  ·have := Ziw h; simp; omega
  ·cases h
theorem Zp0 {v : Bool} : ∀ (n : Nat) {l : Tx} {a : Nat} {r : Tx} {b : Nat}, l.length ≤ n → pEscL v l a = .ok (r, b) → a ≤ b
 | _, [], a, r, b, _, h => by cases h; exact Nat.le_refl _
 | 0, c :: l, a, r, b, hn, h => by simp at hn
 | n + 1, c :: l, a, r, b, hn, h => by
  have sub : ∀ (p : Tx) (l' : Tx) (a' : Nat), l'.length ≤ n → eApp p (pEscL v l' a') = .ok (r, b) → a' ≤ b := fun p l' a' hl e => by
   cases q : pEscL v l' a' with
   | error e1 => rw [q] at e; cases e
   | ok rb =>
    obtain ⟨r', b'⟩ := rb; rw [q] at e
    cases e
    exact Zp0 n hl q
  rw [pEscL.eq_def] at h; simp only at h; simp only [List.length_cons] at hn
  split at h
  ·cases h; exact Nat.le_refl _
  ·split at h
   ·split at h
    ·cases h
    ·rename_i d l' _
     split at h
     ·cases h
     ·have := sub _ _ _ (by simp only [List.length_cons] at hn; omega) h; omega
   ·have := sub _ _ _ (by omega) h; omega
theorem Zof {v : Bool} {t : Tx} {a : Nat} {r : Tx} {b : Nat} (h : pEsc v t a = .ok (r, b)) : a ≤ b := Zp0 _ (Nat.le_refl _) h
def pLabs (t : Tx) : Nat → Nat → Except Nat (List LaD × Nat)
 | 0, a => .error a
 | n + 1, a => match pLab t a with
  | .error b => .error b
  | .ok (l, b) => match t[b]? with
   | none => .error b
   | some x => if x = 44 then (match pLabs t n (b + 1) with
     | .error e => .error e
     | .ok (r, e) => .ok (l :: r, e))
    else (match pNeed t [125] b with
     | .error e => .error e
     | .ok (_, e) => .ok ([l], e))
def Za9 (l : List LaD) : List Value := l.flatMap fun p => [.string p.1, .string p.2]
theorem Kept.grown {C : Nat} {w w' : World} (h : Kept C w w') : w.grownBy w' (some C) := ⟨h.os, h.tape, h.output, h.size, fun k hk hc => h.block k hk (fun e => hc (congrArg some e))⟩
theorem own_ne {w : World} {base : Nat} {e : TypeId} {size : Nat} {v : Value} {n : Nat} {xs : List Value} (h : w.ownsRow base e size v n xs) {C : Nat} (hC : C < base) : v.ownBlock ≠ some C := by
 obtain ⟨_, h2⟩ := h
 rcases h2 with ⟨rfl, _⟩ | ⟨g, cap, cur, rfl, hb, _⟩
 ·simp [Value.ownBlock]
 ·simp [Value.ownBlock]; omega
theorem Zag {w w' : World} {base : Nat} {e : TypeId} {size : Nat} {v : Value} {n : Nat} {xs : List Value} (h : w.ownsRow base e size v n xs) {C : Nat} (hC : C < base) (hk : Kept C w w') : w'.ownsRow base e size v n xs := by
 obtain ⟨h1, h2⟩ := h; refine ⟨h1, ?_⟩
 rcases h2 with h2 | ⟨g, cap, cur, e1, hb, e2, e3⟩
 ·exact .inl h2
 ·have hg : g < w.heap.size := (Array.getElem?_eq_some_iff.1 e2).1; exact .inr ⟨g, cap, cur, e1, hb, (hk.block g hg (by omega)).trans e2, e3⟩
theorem Zog {w w' : World} {base : Nat} {e : TypeId} {size : Nat} {v : Value} {n : Nat} {xs : List Value} (h : w.ownsRow base e size v n xs) (hg : w.grownBy w' v.ownBlock) (hb : base ≤ w.heap.size) : Below base w w' :=
 ⟨hg.os, hg.tape, hg.output, hg.size, fun k hk => hg.block k (by omega) (fun e => own_ne h hk e.symm)⟩
def lApp (p : List LaD) : Except Nat (List LaD × Nat) → Except Nat (List LaD × Nat)
 | .ok (r, e) => .ok (p ++ r, e)
 | .error b => .error b
theorem Zus (r : Except Nat (List LaD × Nat)) : lApp [] r = r := by
 match r with
 | .ok (r, e) => rfl
 | .error b => rfl
theorem Zut (p q : List LaD) (r : Except Nat (List LaD × Nat)) : lApp p (lApp q r) = lApp (p ++ q) r := by
 match r with
 | .ok (r, e) => simp [lApp]
 | .error b => rfl
theorem Zmc (l : List LaD) (p : LaD) : Za9 (l ++ [p]) = Za9 l ++ [.string p.1, .string p.2] := by
 unfold Za9; rw [List.flatMap_append]; rfl
theorem Zjn {t : Tx} {n a : Nat} {l : LaD} {b : Nat} (h : pLab t a = .ok (l, b)) (h1 : t[b]? = none) : pLabs t (n + 1) a = .error b := by unfold pLabs; rw [h]; simp only; rw [h1]
theorem Zf1 {t : Tx} {n a : Nat} {l : LaD} {b : Nat} (h : pLab t a = .ok (l, b)) (h1 : t[b]? = some 44) : pLabs t (n + 1) a = lApp [l] (pLabs t n (b + 1)) := by
 rw [pLabs, h]; simp only; rw [h1]; simp only; rw [if_pos trivial]
 cases pLabs t n (b + 1) <;> rfl
theorem Zf2 {t : Tx} {n a : Nat} {l : LaD} {b : Nat} {x : UInt8} (h : pLab t a = .ok (l, b)) (h1 : t[b]? = some x) (h2 : ¬ x = 44) : pLabs t (n + 1) a = match pNeed t [125] b with
  | .error e => .error e
  | .ok (_, e) => .ok ([l], e) := by
 rw [pLabs, h]; simp only; rw [h1]; simp only; rw [if_neg h2]
theorem info68 : (Tryd.prog.info? 65).map (fun i => (i.zero, i.size, i.bytes)) = some (some (.agg #[.string ⟨#[]⟩, .string ⟨#[]⟩]), 2, 32) := by kernel_rfl
theorem Zwx : Tryd.prog.underlying 61 = some (.slice 65) := by kernel_rfl
theorem Zoh {t : Tx} {n a b : Nat} (h : pLab t a = .error b) : pLabs t (n + 1) a = .error b := by unfold pLabs; rw [h]

set_option maxHeartbeats 8000000 in
set_option maxRecDepth 100000 in
theorem Zoi (C : Nat) (s : ByteArray) (a : Nat) (w : World) (h : Cur C s a w) :
  Calls Tryd.prog 168 #[.pointer (some ⟨C, 0, none⟩)] w (Out C s w (fun l x w' => w'.ownsRow w.heap.size 65 2 x l.length (Za9 l)) (pLabs s.data.toList (s.size + 1 - a) a)) := by
 have hsm := h.sm; have hCw : C < w.heap.size := World.block_lt_of_cell? w _ h.txt
 go_enter Tryd.func168, Tryd.ntmps168
 go_wp2_with fail
 go_loopw [3] (fun v wr => ∃ (b n : Nat) (acc : List LaD), a ≤ b ∧ acc.length + a ≤ b ∧ s.size + 1 - b ≤ n ∧ Cur C s b wr ∧ Kept C w wr ∧ wr.ownsRow w.heap.size 65 2 v acc.length (Za9 acc) ∧ Hid (pLabs s.data.toList (s.size + 1 - a) a = lApp acc (pLabs s.data.toList n b))) (fun _ wr => s.size - pos C wr)
 case atStart => exact ⟨a, s.size + 1 - a, [], Nat.le_refl _, by simp, Nat.le_refl _, h, Kept.refl C w, World.ownsRow_nil _ _ _ _, (Zus _).symm⟩
 case round =>
  obtain ⟨b, n, acc, hab, hal, hn, hC, hK, hO, hH⟩ := hrel; clear h; have hpb := hC.pos; have hle := hC.le
  obtain ⟨n, rfl⟩ : ∃ m, n = m + 1 := ⟨n - 1, by omega⟩
  have hE : ∀ b1, pLab s.data.toList b = .error b1 → Hid (pLabs s.data.toList (s.size + 1 - a) a = .error b1) := fun b1 e => by show _ = _; rw [hH.out, Zoh e]; rfl
  have hW1 := Zho C s b wr hC
  cases r1 : pName s.data.toList b with
  | error b1 =>
   have Hy := hE b1 (by unfold pLab; rw [r1]); rw [r1] at hW1; clear hH hE r1
   go_wp2_with (go_at_call 130; refine hW1.mono ?_)
   rintro e w1 ⟨k1, rfl⟩; exact ⟨rfl, Out.no Hy.out (hK.trans k1)⟩
  | ok vb =>
   obtain ⟨nm, b1⟩ := vb; have l1 := Ziv r1; rw [r1] at hW1
   go_wp2_with (go_at_call 130; refine hW1.mono ?_)
   rintro e w1 ⟨k1, ⟨x1, rfl, rfl⟩, c1⟩; have K1 := hK.trans k1; have O1 := Zag hO hCw k1; have hW2 := Zb6 C s b1 w1 c1 ⟨#[61, 34]⟩ (by decide); clear hW1 hO
   cases r2 : pNeed s.data.toList [61, 34] b1 with
   | error b2 =>
    have Hy := hE b2 (by unfold pLab; rw [r1]; simp only; rw [r2]); rw [r2] at hW2; clear hH hE r1 r2
    go_wp2_with (go_at_call 129; refine hW2.mono ?_)
    rintro e w2 ⟨k2, rfl⟩; exact ⟨rfl, Out.no Hy.out (K1.trans k2)⟩
   | ok vb =>
    obtain ⟨u2, b2⟩ := vb; have l2 := Ziw r2; rw [r2] at hW2
    go_wp2_with (go_at_call 129; refine hW2.mono ?_)
    rintro e w2 ⟨k2, ⟨x2, rfl, rfl⟩, c2⟩; have K2 := K1.trans k2; have O2 := Zag O1 hCw k2; have hW3 := Zic true C s b2 w2 c2; clear hW2 O1
    cases r3 : pEsc true s.data.toList b2 with
    | error b3 =>
     have Hy := hE b3 (by unfold pLab; rw [r1]; simp only; rw [r2]; simp only; rw [r3]); rw [r3] at hW3; clear hH hE r1 r2 r3
     go_wp2_with (go_at_call 131; refine hW3.mono ?_)
     rintro e w3 ⟨k3, rfl⟩; exact ⟨rfl, Out.no Hy.out (K2.trans k3)⟩
    | ok vb =>
     obtain ⟨val, b3⟩ := vb; have l3 := Zof r3; rw [r3] at hW3
     go_wp2_with (go_at_call 131; refine hW3.mono ?_)
     rintro e w3 ⟨k3, ⟨x3, rfl, rfl⟩, c3⟩; have K3 := K2.trans k3; have O3 := Zag O2 hCw k3; have hW4 := Zb6 C s b3 w3 c3 ⟨#[34]⟩ (by decide); clear hW3 O2
     cases r4 : pNeed s.data.toList [34] b3 with
     | error b4 =>
      have Hy := hE b4 (by unfold pLab; rw [r1]; simp only; rw [r2]; simp only; rw [r3]; simp only; rw [r4]); rw [r4] at hW4; clear hH hE r1 r2 r3 r4
      go_wp2_with (go_at_call 129; refine hW4.mono ?_)
      rintro e w4 ⟨k4, rfl⟩; exact ⟨rfl, Out.no Hy.out (K3.trans k4)⟩
     | ok vb =>
      obtain ⟨u4, b4⟩ := vb; have l4 := Ziw r4; have hLb : Hid (pLab s.data.toList b = .ok ((bA nm, bA val), b4)) := (by show _ = _; unfold pLab; rw [r1]; simp only; rw [r2]; simp only; rw [r3]; simp only; rw [r4]); rw [r4] at hW4; simp only [List.length_cons, List.length_nil] at l2 l4; have m1 : b ≤ b1 := (by omega); have m2 : b1 ≤ b2 := (by omega); have m4 : b3 + 1 ≤ b4 := (by omega); clear l1 l2 l4; clear hE r1 r2 r3 r4
      go_wp2_with (go_at_call 129; refine hW4.mono ?_)
      rintro e w4 ⟨k4, ⟨x4, rfl, rfl⟩, c4⟩; have K4 := K3.trans k4; have O4 := Zag O3 hCw k4; clear hW4 O3 k1 k2 k3 k4 c1 c2 c3 K1 K2 K3 hC hK; obtain ⟨i0, hi, hz0, hz1, hz2⟩ := info_parts info68; have hle4 := c4.le; have hsz4 := K4.size
      go_wp2_with (at_builtin; refine wpList_append_own _ rfl _ _ 61 rfl w.heap.size 65 i0 _ 2 32 Zwx hi hz0 hz1 hz2 rfl (by decide) _ acc.length (Za9 acc) rfl (O4.alloc _) ⟨w4.heap.size, 0, none⟩ 1 1 [.string (bA nm), .string (bA val)] rfl rfl ?c1 ?c2 ?c3 ?c4 ?c5 ?_)
      case c1 =>
       intro j u hj
       match j, hj with
       | 0, hj => simp at hj; subst hj; simp [Addr.add]
       | 1, hj => simp at hj; subst hj; simp [Addr.add]
      case c2 => intro u hu; simp at hu; rcases hu with rfl | rfl <;> rfl
      case c3 => unfold maxLen; omega
      case c4 => omega
      case c5 => simp; omega
      ·intro v' w5 O5 hgrow _; have hb5 : Below w.heap.size w4 w5 := ((Below.refl w.heap.size w4).alloc hsz4 _).trans (Zog (O4.alloc _) hgrow (by simp; omega)); have c5 := c4.below2 hb5 hCw; have K5 := K4.trans_below hb5; have O6 : w5.ownsRow w.heap.size 65 2 v' (acc ++ [(bA nm, bA val)]).length (Za9 (acc ++ [(bA nm, bA val)])) := (by rw [Zmc, List.length_append]; exact O5); clear O4 O5 hgrow hb5 c4 K4 hi hz0 hz1 hz2; by_cases hb4 : b4 < s.size
       ·have hc4 := Zav hb4; have hP := Zb7 C s b4 w5 c5 _ hc4; generalize s[b4]'hb4 = x at *; by_cases hx : x = 44
        ·subst hx; have Hx : Hid (pLabs s.data.toList (s.size + 1 - a) a = lApp (acc ++ [(bA nm, bA val)]) (pLabs s.data.toList n (b4 + 1))) := (by show _ = _; rw [hH.out, Zf1 hLb.out hc4, Zut]); clear hH hLb hc4
         go_wp2_with (go_at_call 127; refine hP.mono ?_)
         rintro e w6 ⟨rfl, c6, k6⟩; have O7 := Zag O6 hCw (k6.set 1 (.int .i64 ((b4 + 1 : Nat) : Int))); have K6 := (K5.trans k6).set 1 (.int .i64 ((b4 + 1 : Nat) : Int)); have hset := c6.set (b := b4 + 1) (by omega); have ea : ((b4 + 1 : Nat) : Int) = (b4 : Int) + 1 := (by omega); rw [ea] at hset K6 O7; have f1 := c6.at_; have f2 := c6.fz 1; have hps := hset.pos; clear hP O6; go_wp2; exact ⟨⟨b4 + 1, n, acc ++ [(bA nm, bA val)], by omega, by simp; omega, by omega, hset, K6, O7, Hx⟩, by rw [hps, hpb]; omega⟩
        ·have i1 : ((x.toNat : Int) == 44) = false := Zgg (n := 44) hx; have hL := Zf2 (n := n) hLb.out hc4 hx
         go_wp2_with (go_at_call 127; refine hP.mono ?_)
         rintro e w6 ⟨rfl, c6, k6⟩; have O7 := Zag O6 hCw k6; have K6 := K5.trans k6; have hW5 := Zb6 C s b4 w6 c6 ⟨#[125]⟩ (by decide); clear hP O6
         cases r5 : pNeed s.data.toList [125] b4 with
         | error b5 =>
          have Hy : Hid (pLabs s.data.toList (s.size + 1 - a) a = .error b5) := (by show _ = _; rw [hH.out, hL, r5]; rfl); rw [r5] at hW5; clear hH hL r5 hLb hc4 hx
          go_wp2_with (go_at_call 129; refine hW5.mono ?_)
          rintro e w7 ⟨k7, rfl⟩; exact ⟨rfl, Out.no Hy.out (K6.trans k7)⟩
         | ok vb =>
          obtain ⟨u5, b5⟩ := vb; have Hy : Hid (pLabs s.data.toList (s.size + 1 - a) a = .ok (acc ++ [(bA nm, bA val)], b5)) := (by show _ = _; rw [hH.out, hL, r5]; rfl); rw [r5] at hW5; clear hH hL r5 hLb hc4 hx
          go_wp2_with (go_at_call 129; refine hW5.mono ?_)
          rintro e w7 ⟨k7, ⟨x7, rfl, rfl⟩, c7⟩; have O8 := Zag O7 hCw k7; have K7 := K6.trans k7; clear hW5 O7; go_wp2; go_ret; exact Out.ok Hy.out K7 O8 c7
       ·have Hy : Hid (pLabs s.data.toList (s.size + 1 - a) a = .error b4) := (by show _ = _; rw [hH.out, Zjn hLb.out (Zbf hb4)]; rfl); have hP := Zei C s b4 w5 c5 hb4; clear hH hLb hb4
        go_wp2_with (go_at_call 127; refine hP.mono ?_)
        rintro e w6 ⟨rfl, c6, k6⟩; exact ⟨rfl, Out.no Hy.out (K5.trans k6)⟩

def pTail (t : Tx) (nm : Tx) (ls : List LaD) (a : Nat) : Except Nat (SmD × Nat) := match pNeed t [32] a with
 | .error b => .error b
 | .ok (_, b) => match pNum t b with
  | .error c => .error c
  | .ok (v, c) => .ok (⟨bA nm, ls, v⟩, c)
def pSamp (t : Tx) (a : Nat) : Except Nat (SmD × Nat) := match pName t a with
 | .error b => .error b
 | .ok (nm, b) => match t[b]? with
  | none => .error b
  | some x => if x = 123 then (match pLabs t (t.length + 1 - (b + 1)) (b + 1) with
    | .error c => .error c
    | .ok (ls, c) => pTail t nm ls c)
   else pTail t nm [] b
def rS (B : Nat) : SmD → Value → World → Prop := fun m x w => ∃ v, x = .agg #[.string m.nm, v, .int .i64 m.v] ∧ w.ownsRow B 65 2 v m.ls.length (Za9 m.ls)

theorem Zuu (w : World) (k : Nat) (x y z v : Value) (h : w.heap[k]? = some (.cells #[x, y, z] 63 (0, 0))) : (w.setCell ⟨k, 1, none⟩ v).heap[k]? = some (.cells #[x, v, z] 63 (0, 0)) := by
 have hk : k < w.heap.size := (Array.getElem?_eq_some_iff.1 h).1; simp [World.setCell, Array.getElem?_modify, h]
theorem Zae {B : Nat} (w : World) (p : Addr) (v : Value) (h : B ≤ p.block) : Below B w (w.setCell p v) :=
 ⟨rfl, rfl, rfl, by simp [World.setCell], fun k hk => Below.heap_setCell _ _ _ _ (by omega)⟩
theorem Za5 {w : World} {base : Nat} {e : TypeId} {size : Nat} {v : Value} {n : Nat} {xs : List Value} (h : w.ownsRow base e size v n xs) : ∃ p n c, v = .slice p n c := by
 obtain ⟨_, h2⟩ := h
 rcases h2 with ⟨e1, _⟩ | ⟨g, cap, cur, e1, _⟩
 ·exact ⟨_, _, _, e1⟩
 ·exact ⟨_, _, _, e1⟩
theorem Zcv {w : World} {base b2 : Nat} {e : TypeId} {size : Nat} {v : Value} {n : Nat} {xs : List Value} (h : w.ownsRow base e size v n xs) (hb : b2 ≤ base) : w.ownsRow b2 e size v n xs := by
 obtain ⟨h1, h2⟩ := h; refine ⟨h1, ?_⟩
 rcases h2 with h2 | ⟨g, cap, cur, e1, hg, e2⟩
 ·exact .inl h2
 ·exact .inr ⟨g, cap, cur, e1, Nat.le_trans hb hg, e2⟩
theorem Kept.fz {C : Nat} {w w' : World} (h : Kept C w w') {p : Addr} (hp : p.block < w.heap.size) (hc : p.block ≠ C) : w'.frozen? p = w.frozen? p := by
 simp [World.frozen?, h.block p.block hp hc]

set_option maxHeartbeats 8000000 in
set_option maxRecDepth 100000 in
theorem Zoj (C : Nat) (s : ByteArray) (a : Nat) (w : World) (h : Cur C s a w) :
  Calls Tryd.prog 128 #[.pointer (some ⟨C, 0, none⟩)] w (Out C s w (rS w.heap.size) (pSamp s.data.toList a)) := by
 have hsm := h.sm; have hCw : C < w.heap.size := World.block_lt_of_cell? w _ h.txt; have hC0 : Cur C s a (w.alloc (.cells #[.string ⟨#[]⟩, .slice none 0 0, .int .i64 0] 63)) := h.below2 ((Below.refl _ _).alloc (Nat.le_refl _) _) hCw; have hK0 : Kept C w (w.alloc (.cells #[.string ⟨#[]⟩, .slice none 0 0, .int .i64 0] 63)) := (Kept.refl C w).trans_below ((Below.refl _ _).alloc (Nat.le_refl _) _); have hW1 := Zho C s a _ hC0
 cases r1 : pName s.data.toList a with
 | error b1 =>
  have Hy : Hid (pSamp s.data.toList a = .error b1) := (by show _ = _; unfold pSamp; rw [r1]); rw [r1] at hW1; clear r1
  go_enter Tryd.func128, Tryd.ntmps128
  go_wp2_with (go_at_call 130; refine hW1.mono ?_)
  rintro e w1 ⟨k1, rfl⟩; exact ⟨rfl, Out.no Hy.out (hK0.trans k1)⟩
 | ok vb =>
  obtain ⟨nm, b1⟩ := vb; have l1 := Ziv r1
  have hS : Hid (pSamp s.data.toList a = match s.data.toList[b1]? with
   | none => .error b1
   | some x => if x = 123 then (match pLabs s.data.toList (s.size + 1 - (b1 + 1)) (b1 + 1) with
     | .error c => .error c
     | .ok (ls, c) => pTail s.data.toList nm ls c)
    else pTail s.data.toList nm [] b1) := by show _ = _; unfold pSamp; rw [r1]; rfl
  rw [r1] at hW1; have m1 : a ≤ b1 := (by omega); clear r1 h l1
  go_enter Tryd.func128, Tryd.ntmps128
  go_wp2_with (go_at_call 130; refine hW1.mono ?_)
  rintro e w1 ⟨k1, ⟨x1, rfl, rfl⟩, c1⟩; have K1 := hK0.trans k1; clear hW1; have Ysz : w.heap.size ≤ w1.heap.size := K1.size; have hXl : w.heap.size < w1.heap.size := Nat.lt_of_lt_of_le (by simp) k1.size
  go_wp2_with (go_at_call 127; fail)
  generalize hwY : w1.alloc (.cells #[.string (bA nm), .slice none 0 0, .int .i64 0] 63) = wY; have bY : Below w1.heap.size w1 wY := by rw [← hwY]; exact (Below.refl _ _).alloc (Nat.le_refl _) _
  have YH : wY.heap[w1.heap.size]? = some (.cells #[.string (bA nm), .slice none 0 0, .int .i64 0] 63 (0, 0)) := (by rw [← hwY]; exact heap_alloc_new _ _); have szY : w1.heap.size < wY.heap.size := (by rw [← hwY]; simp); have cY : Cur C s b1 wY := c1.below bY; have KY : Kept C w wY := K1.trans (Kept.of_below bY); by_cases hb1 : b1 < s.size
  ·have hcb := Zav hb1; have hP := Zb7 C s b1 wY cY _ hcb; generalize s[b1]'hb1 = x at *; clear hwY; refine hP.mono ?_; rintro e w2 ⟨rfl, c2, k2⟩; have H2 : w2.heap[w1.heap.size]? = some (.cells #[.string (bA nm), .slice none 0 0, .int .i64 0] 63 (0, 0)) := (k2.block _ szY (by omega)).trans YH; have HX : w2.heap[w.heap.size]? = some (.cells #[.string ⟨#[]⟩, .slice none 0 0, .int .i64 0] 63 (0, 0)) := (k2.block _ (by omega) (by omega)).trans ((bY.block _ hXl).trans ((k1.block _ (by simp) (by omega)).trans (heap_alloc_new _ _))); have hYl : w1.heap.size < w2.heap.size := Nat.lt_of_lt_of_le szY k2.size; have K2 := KY.trans k2; by_cases hx : x = 123
   ·subst hx
    have hS2 : Hid (pSamp s.data.toList a = match pLabs s.data.toList (s.size + 1 - (b1 + 1)) (b1 + 1) with
     | .error c => .error c
     | .ok (ls, c) => pTail s.data.toList nm ls c) := by
     show _ = _; rw [hS.out, hcb]; rfl
    have hset := c2.set (b := b1 + 1) (by omega); have kset := (Kept.refl C w2).set 1 (.int .i64 ((b1 + 1 : Nat) : Int)); have hL := Zoi C s (b1 + 1) _ hset; have ea : ((b1 + 1 : Nat) : Int) = (b1 : Int) + 1 := (by omega); rw [ea] at hset hL kset; have f1 := c2.at_; have f2 := c2.fz 1; have hsz3 : (w2.setCell ⟨C, 1, none⟩ (.int .i64 ((b1 : Int) + 1))).heap.size = w2.heap.size := (by simp [World.setCell]); clear hS hcb hP
    cases r4 : pLabs s.data.toList (s.size + 1 - (b1 + 1)) (b1 + 1) with
    | error q0 =>
     have Hy : Hid (pSamp s.data.toList a = .error q0) := (by show _ = _; rw [hS2.out, r4]); rw [r4] at hL; clear hS2 r4
     go_wp2_with (go_at_call 168; refine hL.mono ?_)
     rintro e w4 ⟨k4, rfl⟩; exact ⟨rfl, Out.no Hy.out ((K2.trans kset).trans k4)⟩
    | ok vb =>
     obtain ⟨ls, q0⟩ := vb; have pT : Hid (pSamp s.data.toList a = pTail s.data.toList nm ls q0) := by show _ = _; rw [hS2.out, r4]
     rw [r4] at hL; clear hS2 r4
     go_wp2_with (go_at_call 168; refine hL.mono ?_)
     rintro e w4 ⟨k4, ⟨VV, rfl, o4⟩, c4⟩; obtain ⟨p4, n4, cp4, rfl⟩ := Za5 o4; have k24 := kset.trans k4; have HY4 : w4.heap[w1.heap.size]? = _ := (k24.block _ hYl (by omega)).trans H2; have HX4 : w4.heap[w.heap.size]? = _ := (k24.block _ (by omega) (by omega)).trans HX; have y0 := Zab HY4 0; have y1 := Zab HY4 1; have y2 := Zab HY4 2; simp only [List.getElem?_toArray, List.getElem?_cons_succ, List.getElem?_cons_zero] at y0 y1 y2; have yf : w4.frozen? ⟨w1.heap.size, 1, none⟩ = false := (by simp [World.frozen?, HY4]); have bS : Below w1.heap.size w4 (w4.setCell ⟨w1.heap.size, 1, none⟩ (.slice p4 n4 cp4)) := Zae _ _ _ (Nat.le_refl _); have hc5 := c4.below2 bS (by omega); have hK5 := (K2.trans k24).trans_below (Zae w4 ⟨w1.heap.size, 1, none⟩ (.slice p4 n4 cp4) (by simp; omega)); have hO5 := Zcv (Zag o4 (by rw [hsz3]; exact hYl) ((Kept.refl w1.heap.size w4).set 1 (.slice p4 n4 cp4))) (b2 := w1.heap.size + 1) (by rw [hsz3]; exact hYl); have szW : (w4.setCell ⟨w1.heap.size, 1, none⟩ (.slice p4 n4 cp4)).heap.size = w4.heap.size := (by simp [World.setCell]); have hYl : w1.heap.size < (w4.setCell ⟨w1.heap.size, 1, none⟩ (.slice p4 n4 cp4)).heap.size := by rw [szW]; exact Nat.lt_of_lt_of_le hYl k24.size
     have HW : (w4.setCell ⟨w1.heap.size, 1, none⟩ (.slice p4 n4 cp4)).heap[w1.heap.size]? = some (.cells #[.string (bA nm), (.slice p4 n4 cp4), .int .i64 0] 63 (0, 0)) := Zuu _ _ _ _ _ _ HY4; have HXW := (bS.block _ hXl).trans HX4; have hYc := fun i => Zab HW i; have hYf : ∀ i, (w4.setCell ⟨w1.heap.size, 1, none⟩ (.slice p4 n4 cp4)).frozen? ⟨w1.heap.size, i, none⟩ = false := fun i => by simp [World.frozen?, HW]
     have hXc := fun i => Zab HXW i; have hXf : ∀ i, (w4.setCell ⟨w1.heap.size, 1, none⟩ (.slice p4 n4 cp4)).frozen? ⟨w.heap.size, i, none⟩ = false := fun i => by simp [World.frozen?, HXW]
     clear HY4 HX4 HX H2 hL HW HXW; have hW5 := Zb6 C s q0 (w4.setCell ⟨w1.heap.size, 1, none⟩ (.slice p4 n4 cp4)) hc5 ⟨#[32]⟩ (by decide)
     cases r5 : pNeed s.data.toList [32] q0 with
     | error q1 =>
      have Hy : Hid (pSamp s.data.toList a = .error q1) := (by show _ = _; rw [pT.out]; unfold pTail; rw [r5]); rw [r5] at hW5; clear pT r5
      go_wp2_with (go_at_call 129; refine hW5.mono ?_)
      rintro e w6 ⟨k6, rfl⟩; exact ⟨rfl, Out.no Hy.out (hK5.trans k6)⟩
     | ok vb =>
      obtain ⟨u5, q1⟩ := vb; rw [r5] at hW5
      go_wp2_with (go_at_call 129; refine hW5.mono ?_)
      rintro e w6 ⟨k6, ⟨x6, rfl, rfl⟩, c6⟩; have hW6 := Zjm C s q1 w6 c6; have K6 := hK5.trans k6; have O6 := Zag hO5 (by omega) k6; clear hW5
      cases r6 : pNum s.data.toList q1 with
      | error q2 =>
       have Hy : Hid (pSamp s.data.toList a = .error q2) := (by show _ = _; rw [pT.out]; unfold pTail; rw [r5]; simp only; rw [r6]); rw [r6] at hW6; clear pT r5 r6
       go_wp2_with (go_at_call 169; refine hW6.mono ?_)
       rintro e w7 ⟨k7, rfl⟩; exact ⟨rfl, Out.no Hy.out (K6.trans k7)⟩
      | ok vb =>
       obtain ⟨n, q2⟩ := vb; have Hy : Hid (pSamp s.data.toList a = .ok (⟨bA nm, ls, n⟩, q2)) := (by show _ = _; rw [pT.out]; unfold pTail; rw [r5]; simp only; rw [r6]); rw [r6] at hW6; clear pT r5 r6
       go_wp2_with (go_at_call 169; refine hW6.mono ?_)
       rintro e w7 ⟨k7, ⟨x7, rfl, rfl⟩, c7⟩; have K7 := K6.trans k7; have O7 := Zag O6 (by omega) k7; have k67 := k6.trans k7; have Yc7 : ∀ i, w7.cell? ⟨w1.heap.size, i, none⟩ = _ := fun i => (k67.cell (p := ⟨w1.heap.size, i, none⟩) hYl (by simp; omega)).trans (hYc i); have Y0 := Yc7 0; have Y1 := Yc7 1; have Y2 := Yc7 2; simp only [List.getElem?_toArray, List.getElem?_cons_succ, List.getElem?_cons_zero] at Y0 Y1 Y2; have Yf := (k67.fz (p := ⟨w1.heap.size, 2, none⟩) hYl (by simp; omega)).trans (hYf 2); have Xc7 : ∀ i, w7.cell? ⟨w.heap.size, i, none⟩ = _ := fun i => (k67.cell (p := ⟨w.heap.size, i, none⟩) (by simp; omega) (by simp; omega)).trans (hXc i); have X0 := Xc7 0; have X1 := Xc7 1; have X2 := Xc7 2; simp only [List.getElem?_toArray, List.getElem?_cons_succ, List.getElem?_cons_zero] at X0 X1 X2; have hXF : ∀ i, w7.frozen? ⟨w.heap.size, i, none⟩ = false := fun i => (k67.fz (p := ⟨w.heap.size, i, none⟩) (by simp; omega) (by simp; omega)).trans (hXf i); have F0 := hXF 0; have F1 := hXF 1; have F2 := hXF 2; have hne : w1.heap.size ≠ w.heap.size := (by omega); have hne2 : w.heap.size ≠ w1.heap.size := (by omega); clear hW6 hYc hYf Yc7 hXc hXf hXF Xc7; go_wp2; refine bodyPost_ret (v := .agg #[.string (bA nm), (.slice p4 n4 cp4), .int .i64 n]) ?_ rfl ?_
       ·simp [results, loadVar, X0, X1, X2, go_sem]; done
       have B1 : Below w.heap.size w7 ((((w7.setCell ⟨w1.heap.size, 2, none⟩ (.int .i64 n)).setCell ⟨w.heap.size, 0, none⟩ (.string (bA nm))).setCell ⟨w.heap.size, 1, none⟩ ((.slice p4 n4 cp4))).setCell ⟨w.heap.size, 2, none⟩ (.int .i64 n)) :=
        (((Zae _ _ _ (by simp; omega)).trans (Zae _ _ _ (by simp))).trans (Zae _ _ _ (by simp))).trans (Zae _ _ _ (by simp))
       have O8 := Zag (Zag (Zag (Zag O7 (Nat.lt_succ_self _) ((Kept.refl _ _).set 2 (.int .i64 n))) (by omega) ((Kept.refl w.heap.size _).set 0 (.string (bA nm)))) (by omega) ((Kept.refl w.heap.size _).set 1 ((.slice p4 n4 cp4)))) (by omega) ((Kept.refl w.heap.size _).set 2 (.int .i64 n)); exact Out.ok Hy.out (K7.trans_below B1) ⟨_, rfl, Zcv O8 (by omega)⟩ (c7.below2 B1 hCw)
   ·have pT : Hid (pSamp s.data.toList a = pTail s.data.toList nm [] b1) := (by show _ = _; rw [hS.out, hcb]; exact if_neg hx); have i1 : ((x.toNat : Int) == 123) = false := Zgg (n := 123) hx; have hc5 := c2; have hK5 := K2; have hO5 : w2.ownsRow (w1.heap.size + 1) 65 2 (.slice none 0 0) 0 (Za9 []) := World.ownsRow_nil _ _ _ _; have hYc := fun i => Zab H2 i; have hYf : ∀ i, w2.frozen? ⟨w1.heap.size, i, none⟩ = false := fun i => by simp [World.frozen?, H2]
    have hXc := fun i => Zab HX i; have hXf : ∀ i, w2.frozen? ⟨w.heap.size, i, none⟩ = false := fun i => by simp [World.frozen?, HX]
    clear hS hcb hP H2 hx HX; have hW5 := Zb6 C s b1 w2 hc5 ⟨#[32]⟩ (by decide)
    cases r5 : pNeed s.data.toList [32] b1 with
    | error q1 =>
     have Hy : Hid (pSamp s.data.toList a = .error q1) := (by show _ = _; rw [pT.out]; unfold pTail; rw [r5]); rw [r5] at hW5; clear pT r5
     go_wp2_with (go_at_call 129; refine hW5.mono ?_)
     rintro e w6 ⟨k6, rfl⟩; exact ⟨rfl, Out.no Hy.out (hK5.trans k6)⟩
    | ok vb =>
     obtain ⟨u5, q1⟩ := vb; rw [r5] at hW5
     go_wp2_with (go_at_call 129; refine hW5.mono ?_)
     rintro e w6 ⟨k6, ⟨x6, rfl, rfl⟩, c6⟩; have hW6 := Zjm C s q1 w6 c6; have K6 := hK5.trans k6; have O6 := Zag hO5 (by omega) k6; clear hW5
     cases r6 : pNum s.data.toList q1 with
     | error q2 =>
      have Hy : Hid (pSamp s.data.toList a = .error q2) := (by show _ = _; rw [pT.out]; unfold pTail; rw [r5]; simp only; rw [r6]); rw [r6] at hW6; clear pT r5 r6
      go_wp2_with (go_at_call 169; refine hW6.mono ?_)
      rintro e w7 ⟨k7, rfl⟩; exact ⟨rfl, Out.no Hy.out (K6.trans k7)⟩
     | ok vb =>
      obtain ⟨n, q2⟩ := vb; have Hy : Hid (pSamp s.data.toList a = .ok (⟨bA nm, [], n⟩, q2)) := (by show _ = _; rw [pT.out]; unfold pTail; rw [r5]; simp only; rw [r6]); rw [r6] at hW6; clear pT r5 r6
      go_wp2_with (go_at_call 169; refine hW6.mono ?_)
      rintro e w7 ⟨k7, ⟨x7, rfl, rfl⟩, c7⟩; have K7 := K6.trans k7; have O7 := Zag O6 (by omega) k7; have k67 := k6.trans k7; have Yc7 : ∀ i, w7.cell? ⟨w1.heap.size, i, none⟩ = _ := fun i => (k67.cell (p := ⟨w1.heap.size, i, none⟩) hYl (by simp; omega)).trans (hYc i); have Y0 := Yc7 0; have Y1 := Yc7 1; have Y2 := Yc7 2; simp only [List.getElem?_toArray, List.getElem?_cons_succ, List.getElem?_cons_zero] at Y0 Y1 Y2; have Yf := (k67.fz (p := ⟨w1.heap.size, 2, none⟩) hYl (by simp; omega)).trans (hYf 2); have Xc7 : ∀ i, w7.cell? ⟨w.heap.size, i, none⟩ = _ := fun i => (k67.cell (p := ⟨w.heap.size, i, none⟩) (by simp; omega) (by simp; omega)).trans (hXc i); have X0 := Xc7 0; have X1 := Xc7 1; have X2 := Xc7 2; simp only [List.getElem?_toArray, List.getElem?_cons_succ, List.getElem?_cons_zero] at X0 X1 X2; have hXF : ∀ i, w7.frozen? ⟨w.heap.size, i, none⟩ = false := fun i => (k67.fz (p := ⟨w.heap.size, i, none⟩) (by simp; omega) (by simp; omega)).trans (hXf i); have F0 := hXF 0; have F1 := hXF 1; have F2 := hXF 2; have hne : w1.heap.size ≠ w.heap.size := (by omega); have hne2 : w.heap.size ≠ w1.heap.size := (by omega); clear hW6 hYc hYf Yc7 hXc hXf hXF Xc7; go_wp2; refine bodyPost_ret (v := .agg #[.string (bA nm), .slice none 0 0, .int .i64 n]) ?_ rfl ?_
      ·simp [results, loadVar, X0, X1, X2, go_sem]; done
      have B1 : Below w.heap.size w7 ((((w7.setCell ⟨w1.heap.size, 2, none⟩ (.int .i64 n)).setCell ⟨w.heap.size, 0, none⟩ (.string (bA nm))).setCell ⟨w.heap.size, 1, none⟩ (.slice none 0 0)).setCell ⟨w.heap.size, 2, none⟩ (.int .i64 n)) :=
       (((Zae _ _ _ (by simp; omega)).trans (Zae _ _ _ (by simp))).trans (Zae _ _ _ (by simp))).trans (Zae _ _ _ (by simp))
      have O8 := Zag (Zag (Zag (Zag O7 (Nat.lt_succ_self _) ((Kept.refl _ _).set 2 (.int .i64 n))) (by omega) ((Kept.refl w.heap.size _).set 0 (.string (bA nm)))) (by omega) ((Kept.refl w.heap.size _).set 1 (.slice none 0 0))) (by omega) ((Kept.refl w.heap.size _).set 2 (.int .i64 n)); exact Out.ok Hy.out (K7.trans_below B1) ⟨_, rfl, Zcv O8 (by omega)⟩ (c7.below2 B1 hCw)
  ·have Hy : Hid (pSamp s.data.toList a = .error b1) := (by show _ = _; rw [hS.out, Zbf hb1]); have hP := Zei C s b1 wY cY hb1; clear hS hb1; clear hwY; refine hP.mono ?_; rintro e w2 ⟨rfl, c2, k2⟩; exact ⟨rfl, Out.no Hy.out (KY.trans k2)⟩
end Go.Proofs.YtknnooannohflaaDoor.Prs

/- Layer 28: a line. -/
import Derived.Test.YtknnooannohflaaDoorPrE1
import Derived.Test.YtknnooannohflaaDoorPaA1
namespace Go.Proofs.YtknnooannohflaaDoor.Prs
open Go Go.Proofs Go.RowKit Go.Px Trm Exp Met
set_option linter.unusedVariables false

def rL (B : Nat) : LnD → Value → World → Prop := fun l x w => ∃ v, x = .agg #[.int .i64 l.kd, .string l.nm, .string l.hp, .int .i64 l.of, .string l.sm.nm, v, .int .i64 l.sm.v] ∧ w.ownsRow B 65 2 v l.sm.ls.length (Za9 l.sm.ls)
abbrev zer7 : Array Value := #[.int .i64 0, .string ⟨#[]⟩, .string ⟨#[]⟩, .int .i64 0, .string ⟨#[]⟩, .slice none 0 0, .int .i64 0]
theorem Zbg {w : World} {k t : Nat} {a : Array Value} {fz : Nat × Nat} (h : w.heap[k]? = some (.cells a t fz)) (i : Nat) (v : Value) : (w.setCell ⟨k, i, none⟩ v).heap[k]? = some (.cells (a.setIfInBounds i v) t fz) := by
 have hk : k < w.heap.size := (Array.getElem?_eq_some_iff.1 h).1; simp [World.setCell, Array.getElem?_modify, h]

set_option maxHeartbeats 8000000 in
set_option maxRecDepth 100000 in
theorem Zs8 (C : Nat) (s : ByteArray) (w : World) (h : Cur C s 0 w) :
  Calls Tryd.prog 75 #[.pointer (some ⟨C, 0, none⟩)] w (Out C s w (rL w.heap.size) (pLine s.data.toList)) := by
 have hsm := h.sm; have hCw : C < w.heap.size := World.block_lt_of_cell? w _ h.txt; have b0 : Below w.heap.size w (w.alloc (.cells zer7 73)) := (Below.refl _ _).alloc (Nat.le_refl _) _; have hC0 : Cur C s 0 (w.alloc (.cells zer7 73)) := h.below2 b0 hCw; have hK0 : Kept C w (w.alloc (.cells zer7 73)) := (Kept.refl C w).trans_below b0; have H0 : (w.alloc (.cells zer7 73)).heap[w.heap.size]? = some (.cells zer7 73 (0, 0)) := heap_alloc_new _ _; have s0 : w.heap.size < (w.alloc (.cells zer7 73)).heap.size := (by simp); clear h b0
 go_enter Tryd.func75, Tryd.ntmps75
 go_wp2_with (go_at_call 127; fail)
 generalize w.alloc (.cells zer7 73) = wY at *; by_cases hl : 0 < s.size
 ·have hc := Zav hl; have hP := Zb7 C s 0 wY hC0 _ hc; generalize s[0]'hl = x at *; refine hP.mono ?_; rintro e w1 ⟨rfl, c1, k1⟩; have K1 := hK0.trans k1; have H1 := (k1.block _ s0 (by omega)).trans H0; have s1 : w.heap.size < w1.heap.size := Nat.lt_of_lt_of_le s0 k1.size; clear hP hC0 H0 s0 k1 hK0; by_cases hx : x = 35
  ·subst hx; have hN := Zb6 C s 0 w1 c1 ⟨#[35, 32]⟩ (by decide)
   have hS : Hid (pLine s.data.toList = match pNeed s.data.toList [35, 32] 0 with
     | .error b => .error b
     | .ok (_, b) => match (s.data.toList[b]? : Option UInt8) with
      | none => .error b
      | some y => if y = 72 then pHelp s.data.toList b else pType s.data.toList b) := by
    show _ = _; unfold pLine; rw [hc]; exact if_pos rfl
   clear hc hl
   cases r1 : pNeed s.data.toList [35, 32] 0 with
   | error b1 =>
    have Hy : Hid (pLine s.data.toList = .error b1) := (by show _ = _; rw [hS.out, r1]); rw [r1] at hN; clear r1 hS
    go_wp2_with (go_at_call 129; refine hN.mono ?_)
    rintro e w2 ⟨k2, rfl⟩; exact ⟨rfl, Out.no Hy.out (K1.trans k2)⟩
   | ok vb =>
    obtain ⟨u1, b1⟩ := vb; have eb : b1 = 2 := Ziw r1; subst eb
    have hT : Hid (pLine s.data.toList = match (s.data.toList[2]? : Option UInt8) with
      | none => .error 2
      | some y => if y = 72 then pHelp s.data.toList 2 else pType s.data.toList 2) := by show _ = _; rw [hS.out, r1]
    rw [r1] at hN; clear r1 hS
    go_wp2_with (go_at_call 129; refine hN.mono ?_)
    rintro e w2 ⟨k2, ⟨x2, rfl, rfl⟩, c2⟩; have K2 := K1.trans k2; have H2 := (k2.block _ s1 (by omega)).trans H1; have s2 : w.heap.size < w2.heap.size := Nat.lt_of_lt_of_le s1 k2.size; clear hN K1 H1 s1 k2 c1; by_cases hl : 2 < s.size
    ·have hc := Zav hl; have hP := Zb7 C s 2 w2 c2 _ hc; generalize s[2]'hl = y at *
     go_wp2_with (go_at_call 127; refine hP.mono ?_)
     rintro e w3 ⟨rfl, c3, k3⟩; have K3 := K2.trans k3; have H3 := (k3.block _ s2 (by omega)).trans H2; have s3 : w.heap.size < w3.heap.size := Nat.lt_of_lt_of_le s2 k3.size; clear hP K2 H2 s2 k3 c2; by_cases hy : y = 72
     ·subst hy; have hS : Hid (pLine s.data.toList = pHelp s.data.toList 2) := by show _ = _; rw [hT.out, hc]; exact if_pos rfl
      clear hT hc hl; have hN := Zb6 C s 2 w3 c3 ⟨#[72, 69, 76, 80, 32]⟩ (by decide)
      cases r3 : pNeed s.data.toList [72, 69, 76, 80, 32] 2 with
      | error b3 =>
       have Hy : Hid (pLine s.data.toList = .error b3) := (by show _ = _; rw [hS.out]; unfold pHelp; rw [r3]); rw [r3] at hN; clear r3 hS
       go_wp2_with (go_at_call 129; refine hN.mono ?_)
       rintro e w4 ⟨k4, rfl⟩; exact ⟨rfl, Out.no Hy.out (K3.trans k4)⟩
      | ok vb =>
       obtain ⟨u3, b3⟩ := vb; rw [r3] at hN
       go_wp2_with (go_at_call 129; refine hN.mono ?_)
       rintro e w4 ⟨k4, ⟨x4, rfl, rfl⟩, c4⟩; have K4 := K3.trans k4; have H4 := (k4.block _ s3 (by omega)).trans H3; have s4 : w.heap.size < w4.heap.size := Nat.lt_of_lt_of_le s3 k4.size; clear hN K3 H3 s3 k4 c3; have hN := Zho C s b3 w4 c4
       cases r4 : pName s.data.toList b3 with
       | error b4 =>
        have Hy : Hid (pLine s.data.toList = .error b4) := (by show _ = _; rw [hS.out]; unfold pHelp; rw [r3]; simp only; rw [r4]); rw [r4] at hN; clear r3 r4 hS
        go_wp2_with (go_at_call 130; refine hN.mono ?_)
        rintro e w5 ⟨k5, rfl⟩; exact ⟨rfl, Out.no Hy.out (K4.trans k5)⟩
       | ok vb =>
        obtain ⟨nm, b4⟩ := vb; rw [r4] at hN
        go_wp2_with (go_at_call 130; refine hN.mono ?_)
        rintro e w5 ⟨k5, ⟨x5, rfl, rfl⟩, c5⟩; have K5 := K4.trans k5; have H5 := (k5.block _ s4 (by omega)).trans H4; have s5 : w.heap.size < w5.heap.size := Nat.lt_of_lt_of_le s4 k5.size; clear hN K4 H4 s4 k5 c4
        go_wp2_with (go_at_call 129; fail)
        generalize hwZ : w5.alloc (.cells #[.int .i64 1, .string (bA nm), .string ⟨#[]⟩, .int .i64 0, .string ⟨#[]⟩, .slice none 0 0, .int .i64 0] 73) = wZ; have bZ : Below w5.heap.size w5 wZ := by rw [← hwZ]; exact (Below.refl _ _).alloc (Nat.le_refl _) _
        have ZH : wZ.heap[w5.heap.size]? = some (.cells #[.int .i64 1, .string (bA nm), .string ⟨#[]⟩, .int .i64 0, .string ⟨#[]⟩, .slice none 0 0, .int .i64 0] 73 (0, 0)) := (by rw [← hwZ]; exact heap_alloc_new _ _); have szZ : w5.heap.size < wZ.heap.size := (by rw [← hwZ]; simp); have cZ : Cur C s b4 wZ := c5.below bZ; have KZ : Kept C w wZ := K5.trans (Kept.of_below bZ); have HZ := (bZ.block _ s5).trans H5; clear hwZ bZ c5 K5 H5; have hN := Zb6 C s b4 wZ cZ ⟨#[32]⟩ (by decide)
        cases r5 : pNeed s.data.toList [32] b4 with
        | error b5 => have Hy : Hid (pLine s.data.toList = .error b5) := (by show _ = _; rw [hS.out]; unfold pHelp; rw [r3]; simp only; rw [r4]; simp only; rw [r5]); rw [r5] at hN; clear r3 r4 r5 hS; refine hN.mono ?_; rintro e w6 ⟨k6, rfl⟩; exact ⟨rfl, Out.no Hy.out (KZ.trans k6)⟩
        | ok vb =>
         obtain ⟨u5, b5⟩ := vb; rw [r5] at hN; refine hN.mono ?_; rintro e w6 ⟨k6, ⟨x6, rfl, rfl⟩, c6⟩; have K6 := KZ.trans k6; have H6 := (k6.block _ (Nat.lt_trans s5 szZ) (by omega)).trans HZ; have Y6 := (k6.block _ szZ (by omega)).trans ZH; have s6 : w5.heap.size < w6.heap.size := Nat.lt_of_lt_of_le szZ k6.size; clear hN KZ ZH szZ k6 cZ HZ; have hN := Zic false C s b5 w6 c6
         cases r6 : pEsc false s.data.toList b5 with
         | error b6 =>
          have Hy : Hid (pLine s.data.toList = .error b6) := (by show _ = _; rw [hS.out]; unfold pHelp; rw [r3]; simp only; rw [r4]; simp only; rw [r5]; simp only; rw [r6]); rw [r6] at hN; clear r3 r4 r5 r6 hS
          go_wp2_with (go_at_call 131; refine hN.mono ?_)
          rintro e w7 ⟨k7, rfl⟩; exact ⟨rfl, Out.no Hy.out (K6.trans k7)⟩
         | ok vb =>
          obtain ⟨q, b6⟩ := vb; have Hy : Hid (pLine s.data.toList = .ok (⟨1, bA nm, bA q, 0, sm0⟩, b6)) := by show _ = _; rw [hS.out]; unfold pHelp; rw [r3]; simp only; rw [r4]; simp only; rw [r5]; simp only; rw [r6]
          rw [r6] at hN; clear r3 r4 r5 r6 hS
          go_wp2_with (go_at_call 131; refine hN.mono ?_)
          rintro e w7 ⟨k7, ⟨x7, rfl, rfl⟩, c7⟩; have K7 := K6.trans k7; have H7 := (k7.block _ (Nat.lt_trans s5 s6) (by omega)).trans H6; have Y7 := (k7.block _ s6 (by omega)).trans Y6; have s7 : w.heap.size < w7.heap.size := Nat.lt_of_lt_of_le (Nat.lt_trans s5 s6) k7.size; clear hN K6 H6 Y6 s6 k7 c6; have hne : w5.heap.size ≠ w.heap.size := (by omega); have hne2 : w.heap.size ≠ w5.heap.size := (by omega); have Yc := fun i => Zab Y7 i; have Y0 := Yc 0; have Y1 := Yc 1; have Y2 := Yc 2; have Y3 := Yc 3; have Y4 := Yc 4; have Y5 := Yc 5; have Y6 := Yc 6; have YF : ∀ i, w7.frozen? ⟨w5.heap.size, i, none⟩ = false := fun i => by simp [World.frozen?, Y7]
          have YF2 := YF 2; simp only [List.getElem?_toArray, List.getElem?_cons_succ, List.getElem?_cons_zero] at Y0 Y1 Y2 Y3 Y4 Y5 Y6; have bq : Below w.heap.size w7 (w7.setCell ⟨w5.heap.size, 2, none⟩ (.string (bA q))) := Zae _ _ _ (by simp; omega); have O1 : (w7.setCell ⟨w5.heap.size, 2, none⟩ (.string (bA q))).ownsRow (w.heap.size + 1) 65 2 (.slice none 0 0) 0 (Za9 []) := World.ownsRow_nil _ _ _ _; have Xc := fun i => Zab H7 i; have X0 := Xc 0; have X1 := Xc 1; have X2 := Xc 2; have X3 := Xc 3; have X4 := Xc 4; have X5 := Xc 5; have X6 := Xc 6; simp only [zer7, List.getElem?_toArray, List.getElem?_cons_succ, List.getElem?_cons_zero] at X0 X1 X2 X3 X4 X5 X6; have XF : ∀ i, w7.frozen? ⟨w.heap.size, i, none⟩ = false := fun i => by simp [World.frozen?, H7]
          have F0 := XF 0; have F1 := XF 1; have F2 := XF 2; have F3 := XF 3; have F4 := XF 4; have F5 := XF 5; have F6 := XF 6; clear Xc XF H7 Yc YF Y7; go_wp2; refine bodyPost_ret (v := .agg #[.int .i64 1, .string (bA nm), .string (bA q), .int .i64 0, .string ⟨#[]⟩, .slice none 0 0, .int .i64 0]) ?_ rfl ?_
          ·simp [results, loadVar, X0, X1, X2, X3, X4, X5, X6, go_sem]; done
          have B1 : Below w.heap.size (w7.setCell ⟨w5.heap.size, 2, none⟩ (.string (bA q))) ((((((((w7.setCell ⟨w5.heap.size, 2, none⟩ (.string (bA q))).setCell ⟨w.heap.size, 0, none⟩ (.int .i64 1)).setCell ⟨w.heap.size, 1, none⟩ (.string (bA nm))).setCell ⟨w.heap.size, 2, none⟩ (.string (bA q))).setCell ⟨w.heap.size, 3, none⟩ (.int .i64 0)).setCell ⟨w.heap.size, 4, none⟩ (.string ⟨#[]⟩)).setCell ⟨w.heap.size, 5, none⟩ (.slice none 0 0)).setCell ⟨w.heap.size, 6, none⟩ (.int .i64 0)) := ((((((Zae _ _ _ (by simp)).trans (Zae _ _ _ (by simp))).trans (Zae _ _ _ (by simp))).trans (Zae _ _ _ (by simp))).trans (Zae _ _ _ (by simp))).trans (Zae _ _ _ (by simp))).trans (Zae _ _ _ (by simp)); have O9 := Zag (Zag (Zag (Zag (Zag (Zag (Zag O1 (Nat.lt_succ_self _) ((Kept.refl w.heap.size _).set 0 (.int .i64 1))) (Nat.lt_succ_self _) ((Kept.refl w.heap.size _).set 1 (.string (bA nm)))) (Nat.lt_succ_self _) ((Kept.refl w.heap.size _).set 2 (.string (bA q)))) (Nat.lt_succ_self _) ((Kept.refl w.heap.size _).set 3 (.int .i64 0))) (Nat.lt_succ_self _) ((Kept.refl w.heap.size _).set 4 (.string ⟨#[]⟩))) (Nat.lt_succ_self _) ((Kept.refl w.heap.size _).set 5 (.slice none 0 0))) (Nat.lt_succ_self _) ((Kept.refl w.heap.size _).set 6 (.int .i64 0)); exact Out.ok Hy.out ((K7.trans_below bq).trans_below B1) ⟨_, rfl, Zcv O9 (by omega)⟩ ((c7.below2 bq hCw).below2 B1 hCw)
     ·have i2 : ((y.toNat : Int) == 72) = false := Zgg (n := 72) hy; have hS : Hid (pLine s.data.toList = pType s.data.toList 2) := (by show _ = _; rw [hT.out, hc]; exact if_neg hy); clear hT hc hl; have hN := Zb6 C s 2 w3 c3 ⟨#[84, 89, 80, 69, 32]⟩ (by decide)
      cases r3 : pNeed s.data.toList [84, 89, 80, 69, 32] 2 with
      | error b3 =>
       have Hy : Hid (pLine s.data.toList = .error b3) := (by show _ = _; rw [hS.out]; unfold pType; rw [r3]); rw [r3] at hN; clear r3 hS
       go_wp2_with (go_at_call 129; refine hN.mono ?_)
       rintro e w4 ⟨k4, rfl⟩; exact ⟨rfl, Out.no Hy.out (K3.trans k4)⟩
      | ok vb =>
       obtain ⟨u3, b3⟩ := vb; rw [r3] at hN
       go_wp2_with (go_at_call 129; refine hN.mono ?_)
       rintro e w4 ⟨k4, ⟨x4, rfl, rfl⟩, c4⟩; have K4 := K3.trans k4; have H4 := (k4.block _ s3 (by omega)).trans H3; have s4 : w.heap.size < w4.heap.size := Nat.lt_of_lt_of_le s3 k4.size; clear hN K3 H3 s3 k4 c3; have hN := Zho C s b3 w4 c4
       cases r4 : pName s.data.toList b3 with
       | error b4 =>
        have Hy : Hid (pLine s.data.toList = .error b4) := (by show _ = _; rw [hS.out]; unfold pType; rw [r3]; simp only; rw [r4]); rw [r4] at hN; clear r3 r4 hS
        go_wp2_with (go_at_call 130; refine hN.mono ?_)
        rintro e w5 ⟨k5, rfl⟩; exact ⟨rfl, Out.no Hy.out (K4.trans k5)⟩
       | ok vb =>
        obtain ⟨nm, b4⟩ := vb; rw [r4] at hN
        go_wp2_with (go_at_call 130; refine hN.mono ?_)
        rintro e w5 ⟨k5, ⟨x5, rfl, rfl⟩, c5⟩; have K5 := K4.trans k5; have H5 := (k5.block _ s4 (by omega)).trans H4; have s5 : w.heap.size < w5.heap.size := Nat.lt_of_lt_of_le s4 k5.size; clear hN K4 H4 s4 k5 c4
        go_wp2_with (go_at_call 129; fail)
        generalize hwZ : w5.alloc (.cells #[.int .i64 2, .string (bA nm), .string ⟨#[]⟩, .int .i64 0, .string ⟨#[]⟩, .slice none 0 0, .int .i64 0] 73) = wZ; have bZ : Below w5.heap.size w5 wZ := by rw [← hwZ]; exact (Below.refl _ _).alloc (Nat.le_refl _) _
        have ZH : wZ.heap[w5.heap.size]? = some (.cells #[.int .i64 2, .string (bA nm), .string ⟨#[]⟩, .int .i64 0, .string ⟨#[]⟩, .slice none 0 0, .int .i64 0] 73 (0, 0)) := (by rw [← hwZ]; exact heap_alloc_new _ _); have szZ : w5.heap.size < wZ.heap.size := (by rw [← hwZ]; simp); have cZ : Cur C s b4 wZ := c5.below bZ; have KZ : Kept C w wZ := K5.trans (Kept.of_below bZ); have HZ := (bZ.block _ s5).trans H5; clear hwZ bZ c5 K5 H5; have hN := Zb6 C s b4 wZ cZ ⟨#[32]⟩ (by decide)
        cases r5 : pNeed s.data.toList [32] b4 with
        | error b5 => have Hy : Hid (pLine s.data.toList = .error b5) := (by show _ = _; rw [hS.out]; unfold pType; rw [r3]; simp only; rw [r4]; simp only; rw [r5]); rw [r5] at hN; clear r3 r4 r5 hS; refine hN.mono ?_; rintro e w6 ⟨k6, rfl⟩; exact ⟨rfl, Out.no Hy.out (KZ.trans k6)⟩
        | ok vb =>
         obtain ⟨u5, b5⟩ := vb; rw [r5] at hN; refine hN.mono ?_; rintro e w6 ⟨k6, ⟨x6, rfl, rfl⟩, c6⟩; have K6 := KZ.trans k6; have H6 := (k6.block _ (Nat.lt_trans s5 szZ) (by omega)).trans HZ; have Y6 := (k6.block _ szZ (by omega)).trans ZH; have s6 : w5.heap.size < w6.heap.size := Nat.lt_of_lt_of_le szZ k6.size; clear hN KZ ZH szZ k6 cZ HZ; have hN := Zse C s b5 w6 c6
         cases r6 : pKind s.data.toList b5 with
         | error b6 =>
          have Hy : Hid (pLine s.data.toList = .error b6) := (by show _ = _; rw [hS.out]; unfold pType; rw [r3]; simp only; rw [r4]; simp only; rw [r5]; simp only; rw [r6]); rw [r6] at hN; clear r3 r4 r5 r6 hS
          go_wp2_with (go_at_call 132; refine hN.mono ?_)
          rintro e w7 ⟨k7, rfl⟩; exact ⟨rfl, Out.no Hy.out (K6.trans k7)⟩
         | ok vb =>
          obtain ⟨q, b6⟩ := vb; have Hy : Hid (pLine s.data.toList = .ok (⟨2, bA nm, bA [], q, sm0⟩, b6)) := by show _ = _; rw [hS.out]; unfold pType; rw [r3]; simp only; rw [r4]; simp only; rw [r5]; simp only; rw [r6]
          rw [r6] at hN; clear r3 r4 r5 r6 hS
          go_wp2_with (go_at_call 132; refine hN.mono ?_)
          rintro e w7 ⟨k7, ⟨x7, rfl, rfl⟩, c7⟩; have K7 := K6.trans k7; have H7 := (k7.block _ (Nat.lt_trans s5 s6) (by omega)).trans H6; have Y7 := (k7.block _ s6 (by omega)).trans Y6; have s7 : w.heap.size < w7.heap.size := Nat.lt_of_lt_of_le (Nat.lt_trans s5 s6) k7.size; clear hN K6 H6 Y6 s6 k7 c6; have hne : w5.heap.size ≠ w.heap.size := (by omega); have hne2 : w.heap.size ≠ w5.heap.size := (by omega); have Yc := fun i => Zab Y7 i; have Y0 := Yc 0; have Y1 := Yc 1; have Y2 := Yc 2; have Y3 := Yc 3; have Y4 := Yc 4; have Y5 := Yc 5; have Y6 := Yc 6; have YF : ∀ i, w7.frozen? ⟨w5.heap.size, i, none⟩ = false := fun i => by simp [World.frozen?, Y7]
          have YF3 := YF 3; simp only [List.getElem?_toArray, List.getElem?_cons_succ, List.getElem?_cons_zero] at Y0 Y1 Y2 Y3 Y4 Y5 Y6; have bq : Below w.heap.size w7 (w7.setCell ⟨w5.heap.size, 3, none⟩ (.int .i64 q)) := Zae _ _ _ (by simp; omega); have O1 : (w7.setCell ⟨w5.heap.size, 3, none⟩ (.int .i64 q)).ownsRow (w.heap.size + 1) 65 2 (.slice none 0 0) 0 (Za9 []) := World.ownsRow_nil _ _ _ _; have Xc := fun i => Zab H7 i; have X0 := Xc 0; have X1 := Xc 1; have X2 := Xc 2; have X3 := Xc 3; have X4 := Xc 4; have X5 := Xc 5; have X6 := Xc 6; simp only [zer7, List.getElem?_toArray, List.getElem?_cons_succ, List.getElem?_cons_zero] at X0 X1 X2 X3 X4 X5 X6; have XF : ∀ i, w7.frozen? ⟨w.heap.size, i, none⟩ = false := fun i => by simp [World.frozen?, H7]
          have F0 := XF 0; have F1 := XF 1; have F2 := XF 2; have F3 := XF 3; have F4 := XF 4; have F5 := XF 5; have F6 := XF 6; clear Xc XF H7 Yc YF Y7; go_wp2; refine bodyPost_ret (v := .agg #[.int .i64 2, .string (bA nm), .string ⟨#[]⟩, .int .i64 q, .string ⟨#[]⟩, .slice none 0 0, .int .i64 0]) ?_ rfl ?_
          ·simp [results, loadVar, X0, X1, X2, X3, X4, X5, X6, go_sem]; done
          have B1 : Below w.heap.size (w7.setCell ⟨w5.heap.size, 3, none⟩ (.int .i64 q)) ((((((((w7.setCell ⟨w5.heap.size, 3, none⟩ (.int .i64 q)).setCell ⟨w.heap.size, 0, none⟩ (.int .i64 2)).setCell ⟨w.heap.size, 1, none⟩ (.string (bA nm))).setCell ⟨w.heap.size, 2, none⟩ (.string ⟨#[]⟩)).setCell ⟨w.heap.size, 3, none⟩ (.int .i64 q)).setCell ⟨w.heap.size, 4, none⟩ (.string ⟨#[]⟩)).setCell ⟨w.heap.size, 5, none⟩ (.slice none 0 0)).setCell ⟨w.heap.size, 6, none⟩ (.int .i64 0)) := ((((((Zae _ _ _ (by simp)).trans (Zae _ _ _ (by simp))).trans (Zae _ _ _ (by simp))).trans (Zae _ _ _ (by simp))).trans (Zae _ _ _ (by simp))).trans (Zae _ _ _ (by simp))).trans (Zae _ _ _ (by simp)); have O9 := Zag (Zag (Zag (Zag (Zag (Zag (Zag O1 (Nat.lt_succ_self _) ((Kept.refl w.heap.size _).set 0 (.int .i64 2))) (Nat.lt_succ_self _) ((Kept.refl w.heap.size _).set 1 (.string (bA nm)))) (Nat.lt_succ_self _) ((Kept.refl w.heap.size _).set 2 (.string ⟨#[]⟩))) (Nat.lt_succ_self _) ((Kept.refl w.heap.size _).set 3 (.int .i64 q))) (Nat.lt_succ_self _) ((Kept.refl w.heap.size _).set 4 (.string ⟨#[]⟩))) (Nat.lt_succ_self _) ((Kept.refl w.heap.size _).set 5 (.slice none 0 0))) (Nat.lt_succ_self _) ((Kept.refl w.heap.size _).set 6 (.int .i64 0)); exact Out.ok Hy.out ((K7.trans_below bq).trans_below B1) ⟨_, rfl, Zcv O9 (by omega)⟩ ((c7.below2 bq hCw).below2 B1 hCw)
    ·have Hy : Hid (pLine s.data.toList = .error 2) := (by show _ = _; rw [hT.out, Zbf hl]); have hP := Zei C s 2 w2 c2 hl; clear hl
     go_wp2_with (go_at_call 127; refine hP.mono ?_)
     rintro e w3 ⟨rfl, c3, k3⟩; exact ⟨rfl, Out.no Hy.out (K2.trans k3)⟩
  ·have hS : Hid (pLine s.data.toList = match pSamp s.data.toList 0 with
     | .error b => .error b
     | .ok (x, b) => .ok (⟨3, bA [], bA [], 0, x⟩, b)) := by
    show _ = _; unfold pLine; rw [hc]; exact if_neg hx
   have i1 : ((x.toNat : Int) != 35) = true := Zlp (n := 35) hx; have hW := Zoj C s 0 w1 c1; clear hc hl
   cases r1 : pSamp s.data.toList 0 with
   | error b1 =>
    have Hy : Hid (pLine s.data.toList = .error b1) := (by show _ = _; rw [hS.out, r1]); rw [r1] at hW; clear r1 hS
    go_wp2_with (go_at_call 128; refine hW.mono ?_)
    rintro e w2 ⟨k2, rfl⟩; exact ⟨rfl, Out.no Hy.out (K1.trans k2)⟩
   | ok vb =>
    obtain ⟨m, b1⟩ := vb; have Hy : Hid (pLine s.data.toList = .ok (⟨3, bA [], bA [], 0, m⟩, b1)) := by show _ = _; rw [hS.out, r1]
    rw [r1] at hW; clear r1 hS
    go_wp2_with (go_at_call 128; refine hW.mono ?_)
    rintro e w2 ⟨k2, ⟨VV, rfl, v2, rfl, o2⟩, c2⟩; obtain ⟨p2, n2, q2, rfl⟩ := Za5 o2; have K2 := K1.trans k2; have H2 := (k2.block _ s1 (by omega)).trans H1; have s2 : w.heap.size < w2.heap.size := Nat.lt_of_lt_of_le s1 k2.size; have o3 := Zcv o2 (b2 := w.heap.size + 1) s1; clear hW k2 K1 c1 s1 H1 o2; have Xc := fun i => Zab H2 i; have X0 := Xc 0; have X1 := Xc 1; have X2 := Xc 2; have X3 := Xc 3; have X4 := Xc 4; have X5 := Xc 5; have X6 := Xc 6; simp only [zer7, List.getElem?_toArray, List.getElem?_cons_succ, List.getElem?_cons_zero] at X0 X1 X2 X3 X4 X5 X6; have XF : ∀ i, w2.frozen? ⟨w.heap.size, i, none⟩ = false := fun i => by simp [World.frozen?, H2]
    have F0 := XF 0; have F1 := XF 1; have F2 := XF 2; have F3 := XF 3; have F4 := XF 4; have F5 := XF 5; have F6 := XF 6; clear Xc XF H2; go_wp2; refine bodyPost_ret (v := .agg #[.int .i64 3, .string (bA []), .string (bA []), .int .i64 0, .string m.nm, .slice p2 n2 q2, .int .i64 m.v]) ?_ rfl ?_
    ·simp [results, loadVar, X0, X1, X2, X3, X4, X5, X6, go_sem]; done
    have B1 : Below w.heap.size w2 (((((((w2.setCell ⟨w.heap.size, 0, none⟩ (.int .i64 3)).setCell ⟨w.heap.size, 1, none⟩ (.string (bA []))).setCell ⟨w.heap.size, 2, none⟩ (.string (bA []))).setCell ⟨w.heap.size, 3, none⟩ (.int .i64 0)).setCell ⟨w.heap.size, 4, none⟩ (.string m.nm)).setCell ⟨w.heap.size, 5, none⟩ (.slice p2 n2 q2)).setCell ⟨w.heap.size, 6, none⟩ (.int .i64 m.v)) := ((((((Zae _ _ _ (by simp)).trans (Zae _ _ _ (by simp))).trans (Zae _ _ _ (by simp))).trans (Zae _ _ _ (by simp))).trans (Zae _ _ _ (by simp))).trans (Zae _ _ _ (by simp))).trans (Zae _ _ _ (by simp)); have O9 := Zag (Zag (Zag (Zag (Zag (Zag (Zag o3 (Nat.lt_succ_self _) ((Kept.refl w.heap.size _).set 0 (.int .i64 3))) (Nat.lt_succ_self _) ((Kept.refl w.heap.size _).set 1 (.string (bA [])))) (Nat.lt_succ_self _) ((Kept.refl w.heap.size _).set 2 (.string (bA [])))) (Nat.lt_succ_self _) ((Kept.refl w.heap.size _).set 3 (.int .i64 0))) (Nat.lt_succ_self _) ((Kept.refl w.heap.size _).set 4 (.string m.nm))) (Nat.lt_succ_self _) ((Kept.refl w.heap.size _).set 5 (.slice p2 n2 q2))) (Nat.lt_succ_self _) ((Kept.refl w.heap.size _).set 6 (.int .i64 m.v)); exact Out.ok Hy.out (K2.trans_below B1) ⟨_, rfl, Zcv O9 (by omega)⟩ (c2.below2 B1 hCw)
 ·have Hy : Hid (pLine s.data.toList = .error 0) := (by show _ = _; unfold pLine; rw [Zbf hl]); have hP := Zei C s 0 wY hC0 hl; clear hl; refine hP.mono ?_; rintro e w2 ⟨rfl, c2, k2⟩; exact ⟨rfl, Out.no Hy.out (hK0.trans k2)⟩
end Go.Proofs.YtknnooannohflaaDoor.Prs

/- Layer 28: signs that must be next. -/
import Derived.Test.YtknnooannohflaaDoorPrA
import Derived.Test.YtknnooannohflaaDoorRpO1
import Derived.Test.YtknnooannohflaaDoorTrS
namespace Go.Proofs.YtknnooannohflaaDoor.Prs
open Go Go.Proofs Go.RowKit Go.Px Trm
set_option linter.unusedVariables false

def Out {α : Type} (C : Nat) (s : ByteArray) (w : World) (rp : α → Value → World → Prop) (r : Except Nat (α × Nat)) (e : Ending) (w' : World) : Prop :=
 Kept C w w' ∧ match r with
  | .ok (v, b) => (∃ x, e = .returned x ∧ rp v x w') ∧ Cur C s b w'
  | .error b => e = brk b
theorem Out.ok {α : Type} {C : Nat} {s : ByteArray} {w : World} {rp : α → Value → World → Prop} {r : Except Nat (α × Nat)} {v : α} {b : Nat} {x : Value} {w' : World} (hr : r = .ok (v, b)) (hk : Kept C w w') (hx : rp v x w') (hC : Cur C s b w') : Out C s w rp r (.returned x) w' := by
 subst hr; exact ⟨hk, ⟨x, rfl, hx⟩, hC⟩
theorem Out.no {α : Type} {C : Nat} {s : ByteArray} {w : World} {rp : α → Value → World → Prop} {r : Except Nat (α × Nat)} {b : Nat} {w' : World} (hr : r = .error b) (hk : Kept C w w') : Out C s w rp r (brk b) w' := by
 subst hr; exact ⟨hk, rfl⟩
abbrev rU : Unit → Value → World → Prop := fun _ x _ => x = .tuple #[]

def pNeed (t : Tx) : Tx → Nat → Except Nat (Unit × Nat)
 | [], a => .ok ((), a)
 | c :: w, a => if t[a]? = some c then pNeed t w (a + 1) else .error a

theorem Zav {s : ByteArray} {a : Nat} (h : a < s.size) : s.data.toList[a]? = some (s[a]'h) := by
 rw [Array.getElem?_toList]; exact Array.getElem?_eq_getElem h
theorem Zbf {s : ByteArray} {a : Nat} (h : ¬ a < s.size) : s.data.toList[a]? = none := by
 rw [List.getElem?_eq_none]; rw [Array.length_toList]; have : s.data.size = s.size := rfl; omega
theorem Zs6 {d : ByteArray} {k : Nat} (h : k < d.size) : d.data.toList.drop k = (d[k]'h) :: d.data.toList.drop (k + 1) := by
 have : k < d.data.toList.length := (by rw [Array.length_toList]; exact h); rw [List.drop_eq_getElem_cons this]; rfl

set_option maxHeartbeats 8000000 in
set_option maxRecDepth 100000 in
theorem Zb6 (C : Nat) (s : ByteArray) (a : Nat) (w : World) (h : Cur C s a w) (d : ByteArray) (hd : d.size ≤ 1000) :
  Calls Tryd.prog 129 #[.pointer (some ⟨C, 0, none⟩), .string d] w (Out C s w rU (pNeed s.data.toList d.data.toList a)) := by
 have hsm := h.sm
 go_enter Tryd.func129, Tryd.ntmps129
 go_wp2
 go_loopw [7] (fun i wr => ∃ k : Nat, k ≤ d.size ∧ i = .int .i64 k ∧ Cur C s (a + k) wr ∧ Kept C w wr ∧ pNeed s.data.toList d.data.toList a = pNeed s.data.toList (d.data.toList.drop k) (a + k)) (fun i _ => d.size - (intOf i).toNat)
 case atStart => exact ⟨0, Nat.zero_le _, rfl, h, Kept.refl C w, by simp⟩
 case round =>
  obtain ⟨k, hk, rfl, hC, hK, hP⟩ := hrel; clear h; by_cases hlt : k < d.size
  ·have hcl := hC.le; have hdk := Zs6 hlt; rw [hdk] at hP; go_wp2; by_cases hl : a + k < s.size
   ·refine wp_region_any (by kernel_rfl) ?_
    refine Zkj (fun _ w' => Cur C s (a + k) w' ∧ Kept C wr w')
     [(10, .pointer (some ⟨C, 0, none⟩)), (11, .int .u8 ((s[a + k]'hl).toNat : Int)), (12, .string d), (13, .int .i64 k), (14, .int .u8 ((d[k]'hlt).toNat : Int)), (15, .bool (((s[a + k]'hl).toNat : Int) != ((d[k]'hlt).toNat : Int)))]
     rfl (by show List.Nodup [10, 11, 12, 13, 14, 15]; decide) (by simp) rfl ⟨hC.drew, (Kept.refl C wr).drew⟩ ?_ ?_ (Zd8 rfl)
    ·intro i dd u o listed act w1 ho hl' hsee hl0 hls hdeps hJ K' hK'; obtain ⟨hJ1, hJ2⟩ := hJ
     match i, ho, hl' with
     | 0, ho, hl' => simp only [List.getElem?_toArray, List.getElem?_cons_zero, Option.some.injEq, Prod.mk.injEq] at ho hl'; obtain ⟨rfl, rfl⟩ := hl'; subst ho; have e0 : act.tmps.getD 0 undef = _ := hsee.old 0 rfl; simp only [Array.getD_eq_getD_getElem?, List.getElem?_toArray, List.getElem?_cons_zero, Option.getD_some] at e0; refine cast ?_ (hK' w1 ⟨hJ1, hJ2⟩); simp [Oper.wp, execOp, Act.eval, e0, go_sem]
     | 1, ho, hl' => simp only [List.getElem?_toArray, List.getElem?_cons_succ, List.getElem?_cons_zero, Option.some.injEq, Prod.mk.injEq] at ho hl'; obtain ⟨rfl, rfl⟩ := hl'; subst ho; have e0 := hsee.full 0 10 _ rfl rfl; simp only [Array.getD_eq_getD_getElem?] at e0; unfold Oper.wp; rw [show (execOp act.eval _).run Tryd.prog w1 = .ok (.enter 127 #[.pointer (some ⟨C, 0, none⟩)]) w1 from by simp [Act.eval, e0, go_sem], Oper.upon_enter]; refine (Zg2 C s (a + k) w1 hJ1).mono ?_; rintro e w2 ⟨⟨g1, g2⟩, g3⟩; rw [dif_pos hl] at g3; subst g3; exact hK' w2 ⟨g1, hJ2.trans g2⟩
     | 2, ho, hl' => simp only [List.getElem?_toArray, List.getElem?_cons_succ, List.getElem?_cons_zero, Option.some.injEq, Prod.mk.injEq] at ho hl'; obtain ⟨rfl, rfl⟩ := hl'; subst ho; have e0 : act.tmps.getD 1 undef = _ := hsee.old 1 rfl; simp only [Array.getD_eq_getD_getElem?, List.getElem?_toArray, List.getElem?_cons_succ, List.getElem?_cons_zero, Option.getD_some] at e0; refine cast ?_ (hK' w1 ⟨hJ1, hJ2⟩); simp [Oper.wp, execOp, Act.eval, e0, go_sem]
     | 3, ho, hl' => simp only [List.getElem?_toArray, List.getElem?_cons_succ, List.getElem?_cons_zero, Option.some.injEq, Prod.mk.injEq] at ho hl'; obtain ⟨rfl, rfl⟩ := hl'; subst ho; have e0 : act.tmps.getD 4 undef = _ := hsee.old 4 rfl; simp only [Array.getD_eq_getD_getElem?, List.getElem?_toArray, List.getElem?_cons_succ, List.getElem?_cons_zero, Option.getD_some] at e0; refine cast ?_ (hK' w1 ⟨hJ1, hJ2⟩); simp [Oper.wp, execOp, Act.eval, e0, go_sem]
     | 4, ho, hl' => simp only [List.getElem?_toArray, List.getElem?_cons_succ, List.getElem?_cons_zero, Option.some.injEq, Prod.mk.injEq] at ho hl'; obtain ⟨rfl, rfl⟩ := hl'; subst ho; have e0 := hsee.full 2 12 _ rfl rfl; have e1 := hsee.full 3 13 _ rfl rfl; simp only [Array.getD_eq_getD_getElem?] at e0 e1; refine cast ?_ (hK' w1 ⟨hJ1, hJ2⟩); simp [Oper.wp, execOp, Act.eval, e0, e1, hlt, go_sem]
     | 5, ho, hl' => simp only [List.getElem?_toArray, List.getElem?_cons_succ, List.getElem?_cons_zero, Option.some.injEq, Prod.mk.injEq] at ho hl'; obtain ⟨rfl, rfl⟩ := hl'; subst ho; have e0 := hsee.full 1 11 _ rfl rfl; have e1 := hsee.full 4 14 _ rfl rfl; simp only [Array.getD_eq_getD_getElem?] at e0 e1; refine cast ?_ (hK' w1 ⟨hJ1, hJ2⟩); simp [Oper.wp, execOp, Act.eval, e0, e1, go_sem]
     | i + 6, ho, hl' => simp at ho
    ·intro listed w2 hall hJ; obtain ⟨hJ1, hJ2⟩ := hJ; simp only [puts, Act.put, List.setIfInBounds_toArray, List.set_cons_succ, List.set_cons_zero]; have f0 := hJ1.txt; have f1 := hJ1.at_; have f2 := hJ1.fz 1; have hnx : Cur C s (a + k + 1) (w2.setCell ⟨C, 1, none⟩ (.int .i64 ((a + k + 1 : Nat) : Int))) := hJ1.set (by omega); have hkn : Kept C wr (w2.setCell ⟨C, 1, none⟩ (.int .i64 ((a + k + 1 : Nat) : Int))) := hJ2.set 1 _; have ea : ((a + k + 1 : Nat) : Int) = (a : Int) + k + 1 := (by omega); rw [ea] at hnx hkn; by_cases he : s[a + k]'hl = d[k]'hlt
     ·have hne : (((s[a + k]'hl).toNat : Int) != ((d[k]'hlt).toNat : Int)) = false := (by rw [he]; simp); have hP2 : pNeed s.data.toList d.data.toList a = pNeed s.data.toList (d.data.toList.drop (k + 1)) (a + (k + 1)) := (by rw [hP, pNeed, Zav hl, he, if_pos rfl]; rfl); rw [hne]; have hK2 := hK.trans hkn; clear hC hJ1 hdk hP; go_wp2; refine ⟨⟨k + 1, by omega, by simp, hnx, hK2, hP2⟩, by simp [intOf]; omega⟩
     ·have hne : (((s[a + k]'hl).toNat : Int) != ((d[k]'hlt).toNat : Int)) = true := (by simp only [bne_iff_ne, ne_eq]; intro q; exact he (UInt8.toNat_inj.1 (by omega))); rw [hne]; have hF := Zcf C s (a + k) w2 hJ1; have hP2 : pNeed s.data.toList d.data.toList a = .error (a + k) := (by rw [hP, pNeed, Zav hl, if_neg (fun q => he (Option.some.inj q))]); have hK2 := hK.trans hJ2; clear hC hJ1 hdk hP
      go_wp2_with (go_at_call 77; refine hF.mono ?_)
      rintro e w3 ⟨rfl, rfl⟩; exact ⟨rfl, Out.no hP2 hK2⟩
   ·have hP2 : pNeed s.data.toList d.data.toList a = .error (a + k) := (by rw [hP, pNeed, Zbf hl, if_neg (by simp)]); refine wp_region_any (by kernel_rfl) ?_
    refine Zkj (fun listed w' => Cur C s (a + k) w' ∧ Kept C wr w' ∧ listed.getD 1 false = false)
     [(10, .pointer (some ⟨C, 0, none⟩)), (11, .int .u8 0), (12, .string d), (13, .int .i64 k), (14, .int .u8 ((d[k]'hlt).toNat : Int)), (15, .bool ((0 : Int) != ((d[k]'hlt).toNat : Int)))]
     rfl (by show List.Nodup [10, 11, 12, 13, 14, 15]; decide) (by simp) rfl ⟨hC.drew, (Kept.refl C wr).drew, rfl⟩ ?_ ?_ (Zd8 rfl)
    ·intro i dd u o listed act w1 ho hl' hsee hl0 hls hdeps hJ K' hK'; obtain ⟨hJ1, hJ2, hJ3⟩ := hJ
     match i, ho, hl' with
     | 1, ho, hl' => simp only [List.getElem?_toArray, List.getElem?_cons_succ, List.getElem?_cons_zero, Option.some.injEq, Prod.mk.injEq] at ho hl'; obtain ⟨rfl, rfl⟩ := hl'; subst ho; have e0 := hsee.full 0 10 _ rfl rfl; simp only [Array.getD_eq_getD_getElem?] at e0; unfold Oper.wp; rw [show (execOp act.eval _).run Tryd.prog w1 = .ok (.enter 127 #[.pointer (some ⟨C, 0, none⟩)]) w1 from by simp [Act.eval, e0, go_sem], Oper.upon_enter]; refine (Zg2 C s (a + k) w1 hJ1).mono ?_; rintro e w2 ⟨⟨g1, g2⟩, g3⟩; rw [dif_neg hl] at g3; subst g3; exact ⟨hsee.defers, Out.no hP2 ((hK.trans hJ2).trans g2)⟩
     | 0, ho, hl' => simp only [List.getElem?_toArray, List.getElem?_cons_zero, Option.some.injEq, Prod.mk.injEq] at ho hl'; obtain ⟨rfl, rfl⟩ := hl'; subst ho; have e0 : act.tmps.getD 0 undef = _ := hsee.old 0 rfl; simp only [Array.getD_eq_getD_getElem?, List.getElem?_toArray, List.getElem?_cons_zero, Option.getD_some] at e0; refine cast ?_ (hK' w1 ⟨hJ1, hJ2, by rw [Zan _ _ _ (by rw [hls]; decide)]; exact hJ3⟩); simp [Oper.wp, execOp, Act.eval, e0, go_sem]
     | 2, ho, hl' => simp only [List.getElem?_toArray, List.getElem?_cons_succ, List.getElem?_cons_zero, Option.some.injEq, Prod.mk.injEq] at ho hl'; obtain ⟨rfl, rfl⟩ := hl'; subst ho; have e0 : act.tmps.getD 1 undef = _ := hsee.old 1 rfl; simp only [Array.getD_eq_getD_getElem?, List.getElem?_toArray, List.getElem?_cons_succ, List.getElem?_cons_zero, Option.getD_some] at e0; refine cast ?_ (hK' w1 ⟨hJ1, hJ2, by rw [Zan _ _ _ (by rw [hls]; decide)]; exact hJ3⟩); simp [Oper.wp, execOp, Act.eval, e0, go_sem]
     | 3, ho, hl' => simp only [List.getElem?_toArray, List.getElem?_cons_succ, List.getElem?_cons_zero, Option.some.injEq, Prod.mk.injEq] at ho hl'; obtain ⟨rfl, rfl⟩ := hl'; subst ho; have e0 : act.tmps.getD 4 undef = _ := hsee.old 4 rfl; simp only [Array.getD_eq_getD_getElem?, List.getElem?_toArray, List.getElem?_cons_succ, List.getElem?_cons_zero, Option.getD_some] at e0; refine cast ?_ (hK' w1 ⟨hJ1, hJ2, by rw [Zan _ _ _ (by rw [hls]; decide)]; exact hJ3⟩); simp [Oper.wp, execOp, Act.eval, e0, go_sem]
     | 4, ho, hl' => simp only [List.getElem?_toArray, List.getElem?_cons_succ, List.getElem?_cons_zero, Option.some.injEq, Prod.mk.injEq] at ho hl'; obtain ⟨rfl, rfl⟩ := hl'; subst ho; have e0 := hsee.full 2 12 _ rfl rfl; simp only [Array.getD_eq_getD_getElem?] at e0; have e1 := hsee.full 3 13 _ rfl rfl; simp only [Array.getD_eq_getD_getElem?] at e1; refine cast ?_ (hK' w1 ⟨hJ1, hJ2, by rw [Zan _ _ _ (by rw [hls]; decide)]; exact hJ3⟩); simp [Oper.wp, execOp, Act.eval, e0, e1, go_sem, hlt]
     | 5, ho, hl' => simp only [List.getElem?_toArray, List.getElem?_cons_succ, List.getElem?_cons_zero, Option.some.injEq, Prod.mk.injEq] at ho hl'; obtain ⟨rfl, rfl⟩ := hl'; subst ho; have e0 := hsee.full 1 11 _ rfl rfl; simp only [Array.getD_eq_getD_getElem?] at e0; have e1 := hsee.full 4 14 _ rfl rfl; simp only [Array.getD_eq_getD_getElem?] at e1; refine cast ?_ (hK' w1 ⟨hJ1, hJ2, by rw [Zan _ _ _ (by rw [hls]; decide)]; exact hJ3⟩); simp [Oper.wp, execOp, Act.eval, e0, e1, go_sem]
     | i + 6, ho, hl' => simp at ho
    ·intro listed w2 hall hJ; have := hall 1 (by decide); rw [hJ.2.2] at this
     cases this
  ·have hke : k = d.size := (by omega); subst hke; have hP2 : pNeed s.data.toList d.data.toList a = .ok ((), a + d.size) := (by rw [hP, List.drop_of_length_le (by rw [Array.length_toList]; exact Nat.le_refl _)]; rfl); go_wp2
   go_end0
   exact Out.ok hP2 hK rfl hC

theorem Zb7 (C : Nat) (s : ByteArray) (a : Nat) (w : World) (h : Cur C s a w) (c : UInt8) (hc : s.data.toList[a]? = some c) :
  Calls Tryd.prog 127 #[.pointer (some ⟨C, 0, none⟩)] w fun e w' => e = .returned (.int .u8 (c.toNat : Int)) ∧ Cur C s a w' ∧ Kept C w w' := by
 have hl : a < s.size := (by have := (List.getElem?_eq_some_iff.1 hc).1; rw [Array.length_toList] at this; exact this); refine (Zg2 C s a w h).mono ?_; rintro e w' ⟨⟨g1, g2⟩, g3⟩; rw [dif_pos hl] at g3; rw [Zav hl] at hc
 cases hc
 exact ⟨g3, g1, g2⟩
theorem Zei (C : Nat) (s : ByteArray) (a : Nat) (w : World) (h : Cur C s a w) (hl : ¬ a < s.size) :
  Calls Tryd.prog 127 #[.pointer (some ⟨C, 0, none⟩)] w fun e w' => e = brk a ∧ Cur C s a w' ∧ Kept C w w' := by
 refine (Zg2 C s a w h).mono ?_; rintro e w' ⟨⟨g1, g2⟩, g3⟩; rw [dif_neg hl] at g3; exact ⟨g3, g1, g2⟩
def letB (c : UInt8) : Bool := (97 ≤ c.toNat && c.toNat ≤ 122) || (65 ≤ c.toNat && c.toNat ≤ 90) || c.toNat == 95
def digB (c : UInt8) : Bool := 48 ≤ c.toNat && c.toNat ≤ 57
set_option maxHeartbeats 4000000 in
set_option maxRecDepth 100000 in
theorem Zet (c : UInt8) (w : World) : Calls Tryd.prog 171 #[.int .u8 (c.toNat : Int)] w fun e w' => e = .returned (.bool (digB c)) ∧ w' = w := by
 go_enter Tryd.func171, Tryd.ntmps171
 go_wp2
 all_goals
  go_ret; refine ⟨congrArg (fun b => Ending.returned (Value.bool b)) ?_, rfl⟩; unfold digB; rw [Bool.eq_iff_iff]; simp; omega
set_option maxHeartbeats 4000000 in
set_option maxRecDepth 100000 in
theorem Zkh (c : UInt8) (w : World) : Calls Tryd.prog 170 #[.int .u8 (c.toNat : Int)] w fun e w' => e = .returned (.bool (letB c)) ∧ w' = w := by
 go_enter Tryd.func170, Tryd.ntmps170
 go_wp2
 all_goals
  go_ret; refine ⟨congrArg (fun b => Ending.returned (Value.bool b)) ?_, rfl⟩; unfold letB; rw [Bool.eq_iff_iff]; simp; omega

def nmcB (c : UInt8) : Bool := letB c || digB c
def nmAt (t : Tx) (a : Nat) : Tx := (t.drop a).takeWhile nmcB
def pName (t : Tx) (a : Nat) : Except Nat (Tx × Nat) := match t[a]? with
 | some c => if letB c then .ok (nmAt t a, a + (nmAt t a).length) else .error a
 | none => .error a
abbrev rT : Tx → Value → World → Prop := fun v x _ => x = .string (bA v)

def pos (C : Nat) (w : World) : Nat := match w.cell? ⟨C, 1, none⟩ with | some v => (intOf v).toNat | none => 0
theorem Cur.pos {C : Nat} {s : ByteArray} {a : Nat} {w : World} (h : Cur C s a w) : pos C w = a := by unfold Prs.pos; rw [h.at_]; simp [intOf]

theorem Zh4 {t : Tx} {a b : Nat} (hab : a ≤ b) (hall : ∀ i, a ≤ i → i < b → ∃ c, t[i]? = some c ∧ nmcB c = true) (hend : ∀ c, t[b]? = some c → nmcB c = false) : nmAt t a = (t.drop a).take (b - a) := by
 unfold nmAt
 induction hn : b - a generalizing a with
 | zero =>
  have : a = b := (by omega); subst this
  cases h : t.drop a with
  | nil => rfl
  | cons c l =>
   have hc : t[a]? = some c := by
    have := congrArg (·[0]?) h
    simpa using this
   simp [hend c hc]
 | succ n ih => obtain ⟨c, hc, hm⟩ := hall a (Nat.le_refl _) (by omega); have hlt : a < t.length := (List.getElem?_eq_some_iff.1 hc).1; have hd : t.drop a = c :: t.drop (a + 1) := (by rw [List.drop_eq_getElem_cons hlt]; congr 1; exact (List.getElem?_eq_some_iff.1 hc).2); rw [hd, List.takeWhile_cons, hm]; simp only [if_true, List.take_succ_cons]; rw [ih (a := a + 1) (by omega) (fun i h1 h2 => hall i (by omega) h2) (by omega)]

set_option maxHeartbeats 8000000 in
set_option maxRecDepth 100000 in
theorem Zho (C : Nat) (s : ByteArray) (a : Nat) (w : World) (h : Cur C s a w) :
  Calls Tryd.prog 130 #[.pointer (some ⟨C, 0, none⟩)] w (Out C s w rT (pName s.data.toList a)) := by
 have hsm := h.sm; have h1 := h.at_; by_cases hl : a < s.size
 ·have hc := Zav hl; have hLt := Zkh (s[a]'hl); have hP := Zb7 C s a w h _ hc; generalize s[a]'hl = c at *
  cases hb : letB c with
  | false =>
   have hr : pName s.data.toList a = .error a := (by unfold pName; rw [hc]; simp [hb]); rw [hb] at hLt; clear h hl
   go_enter Tryd.func130, Tryd.ntmps130
   go_wp2_with (first | (go_at_call 127; refine hP.mono ?_) | (go_at_call 170; refine (hLt _).mono ?_; rintro e w' ⟨rfl, rfl⟩))
   rintro e w1 ⟨rfl, g1, g2⟩; have hF := Zcf C s a w1 g1
   go_wp2_with (first | (go_at_call 170; refine (hLt _).mono ?_; rintro e w' ⟨rfl, rfl⟩) | (go_at_call 77; refine hF.mono ?_))
   rintro e w2 ⟨rfl, rfl⟩; exact ⟨rfl, Out.no rfl g2⟩
  | true =>
   have hr : pName s.data.toList a = .ok (nmAt s.data.toList a, a + (nmAt s.data.toList a).length) := (by unfold pName; rw [hc]; simp [hb]); rw [hb] at hLt
   go_enter Tryd.func130, Tryd.ntmps130
   go_wp2_with (first | (go_at_call 127; refine hP.mono ?_) | (go_at_call 170; refine (hLt _).mono ?_; rintro e w' ⟨rfl, rfl⟩))
   rintro e w1 ⟨rfl, g1, g2⟩; clear h hP h1; have Hr : Hid (pName s.data.toList a = .ok (nmAt s.data.toList a, a + (nmAt s.data.toList a).length)) := hr; clear hr
   go_wp2_with (first | (go_at_call 170; refine (hLt _).mono ?_; rintro e w' ⟨rfl, rfl⟩) | (go_at_call 77; fail))
   rename_i w1
   go_loopw [] (fun wr => ∃ b : Nat, a ≤ b ∧ Cur C s b wr ∧ Kept C w wr ∧ ∀ i, a ≤ i → i < b → ∃ c, s.data.toList[i]? = some c ∧ nmcB c = true) (fun wr => s.size - pos C wr)
   case atStart => exact ⟨a, Nat.le_refl _, g1, g2, fun i h1 h2 => absurd h2 (by omega)⟩
   case round =>
    obtain ⟨b, hab, hC, hK, hall⟩ := hrel; clear g1 g2; have hpb := hC.pos; have hle := hC.le; have hLf := Zel C s b wr hC; by_cases hb2 : b < s.size
    ·have hd : decide (b < s.size) = true := decide_eq_true hb2; have hcb := Zav hb2; have hP1 := Zb7 C s b wr.drew hC.drew _ hcb; have hL1 := Zkh (s[b]'hb2); have hD1 := Zet (s[b]'hb2); have hP2 := fun w2 (h2 : Cur C s b w2) => Zb7 C s b w2 h2 _ hcb; generalize s[b]'hb2 = c2 at *; rw [hd] at hLf
     cases hl1 : letB c2 with
     | true =>
      rw [hl1] at hL1
      go_wp2_with (first | (go_at_call 76; refine hLf.mono ?_; rintro e w' ⟨rfl, rfl⟩) | (go_at_call 127; refine hP1.mono ?_) | (go_at_call 170; refine (hL1 _).mono ?_; rintro e w' ⟨rfl, rfl⟩))
      rintro e w3 ⟨rfl, g1, g2⟩; have g3 := hK.trans ((Kept.refl C wr).drew.trans g2); clear hP1 hP2 hLf hC hK; have hset := g1.set (b := b + 1) (by omega)
      have hkn := (g3.set 1 (.int .i64 ((b + 1 : Nat) : Int)))
      have ea : ((b + 1 : Nat) : Int) = (b : Int) + 1 := (by omega); rw [ea] at hset hkn; have f1 := g1.at_; have f2 := g1.fz 1; have hps := hset.pos
      go_wp2_with (first | (go_at_call 170; refine (hL1 _).mono ?_; rintro e w' ⟨rfl, rfl⟩) | (go_at_call 127; fail))
      refine ⟨⟨b + 1, by omega, hset, hkn, fun i i1 i2 => ?_⟩, by rw [hps, hpb]; omega⟩; by_cases hib : i < b
      ·exact hall i i1 hib
      ·have : i = b := (by omega); subst this; exact ⟨c2, hcb, by unfold nmcB; rw [hl1]; rfl⟩
     | false =>
      rw [hl1] at hL1
      go_wp2_with (first | (go_at_call 76; refine hLf.mono ?_; rintro e w' ⟨rfl, rfl⟩) | (go_at_call 127; refine hP1.mono ?_))
      rintro e w3 ⟨rfl, g1, g2⟩; have g3 := hK.trans ((Kept.refl C wr).drew.trans g2); have hP3 := hP2 w3 g1; clear hP1 hP2 hLf hC hK
      go_wp2_with (first | (go_at_call 170; refine (hL1 _).mono ?_; rintro e w' ⟨rfl, rfl⟩) | (go_at_call 127; refine hP3.mono ?_))
      rintro e w4 ⟨rfl, g4, g5⟩; have g6 := g3.trans g5; clear hP3 g1 g2 g3 g5
      cases hd1 : digB c2 with
      | true =>
       rw [hd1] at hD1; have hset := g4.set (b := b + 1) (by omega)
       have hkn := (g6.set 1 (.int .i64 ((b + 1 : Nat) : Int)))
       have ea : ((b + 1 : Nat) : Int) = (b : Int) + 1 := (by omega); rw [ea] at hset hkn; have f1 := g4.at_; have f2 := g4.fz 1; have hps := hset.pos
       go_wp2_with (go_at_call 171; refine (hD1 _).mono ?_; rintro e w' ⟨rfl, rfl⟩)
       refine ⟨⟨b + 1, by omega, hset, hkn, fun i i1 i2 => ?_⟩, by rw [hps, hpb]; omega⟩; by_cases hib : i < b
       ·exact hall i i1 hib
       ·have : i = b := (by omega); subst this; exact ⟨c2, hcb, by unfold nmcB; rw [hl1, hd1]; rfl⟩
      | false =>
       rw [hd1] at hD1; have hend : ∀ c, s.data.toList[b]? = some c → nmcB c = false := fun c hc2 => by rw [hcb] at hc2; cases hc2; unfold nmcB; rw [hl1, hd1]; rfl
       have hnm : bA (nmAt s.data.toList a) = s.extract a b := (by rw [Zh4 hab hall hend]; apply Zjr.2; rw [Zbh, ByteArray.data_extract, Array.toList_extract]); have hnl : a + (nmAt s.data.toList a).length = b := (by rw [Zh4 hab hall hend, List.length_take, List.length_drop, Array.length_toList]; have : s.data.size = s.size := rfl; omega); have f0 := g4.txt; have f1 := g4.at_; have hGd := g4.drew; have hab2 : (a : Int) ≤ (b : Int) := (by omega); clear hall
       go_wp2_with (go_at_call 171; refine (hD1 _).mono ?_; rintro e w' ⟨rfl, rfl⟩)
       go_region; go_wp2; go_ret; refine Out.ok Hr.out (g6).drew ?_ (by rw [hnl]; exact hGd); show Value.string _ = Value.string _; rw [hnm]
    ·have hd : decide (b < s.size) = false := decide_eq_false hb2; rw [hd] at hLf; have hend : ∀ c, s.data.toList[b]? = some c → nmcB c = false := fun c hc2 => by rw [Zbf hb2] at hc2; cases hc2
     have hnm : bA (nmAt s.data.toList a) = s.extract a b := (by rw [Zh4 hab hall hend]; apply Zjr.2; rw [Zbh, ByteArray.data_extract, Array.toList_extract]); have hnl : a + (nmAt s.data.toList a).length = b := (by rw [Zh4 hab hall hend, List.length_take, List.length_drop, Array.length_toList]; have : s.data.size = s.size := rfl; omega); have f0 := hC.drew.txt; have f1 := hC.drew.at_; have hGd := hC.drew.drew; have hab2 : (a : Int) ≤ (b : Int) := (by omega); clear hall
     go_wp2_with (go_at_call 76; refine hLf.mono ?_; rintro e w' ⟨rfl, rfl⟩)
     go_region; go_wp2; go_ret; refine Out.ok Hr.out (hK.drew).drew ?_ (by rw [hnl]; exact hGd); show Value.string _ = Value.string _; rw [hnm]
 ·have hr : pName s.data.toList a = .error a := (by unfold pName; rw [Zbf hl]); have hP := Zei C s a w h hl; clear hl
  go_enter Tryd.func130, Tryd.ntmps130
  go_wp2_with (go_at_call 127; refine hP.mono ?_)
  rintro e w1 ⟨rfl, g1, g2⟩; exact ⟨rfl, Out.no rfl g2⟩

def pSign (value : Bool) (t : Tx) (a : Nat) : Except Nat (UInt8 × Nat) := match t[a]? with
 | none => .error a
 | some x => if x = 92 then .ok (92, a + 1) else if x = 110 then .ok (10, a + 1) else if x = 34 then (if value then .ok (34, a + 1) else .error a) else .error a
abbrev r8 : UInt8 → Value → World → Prop := fun v x _ => x = .int .u8 (v.toNat : Int)
theorem Zlp {x : UInt8} {n : UInt8} (h : ¬ x = n) : ((x.toNat : Int) != (n.toNat : Int)) = true := by
 simp only [bne_iff_ne, ne_eq]; intro q; exact h (UInt8.toNat_inj.1 (by omega))
theorem Zgg {x : UInt8} {n : UInt8} (h : ¬ x = n) : ((x.toNat : Int) == (n.toNat : Int)) = false := by
 have := Zlp h
 simpa [bne] using this

set_option maxHeartbeats 8000000 in
set_option maxRecDepth 100000 in
theorem Zs7 (value : Bool) (C : Nat) (s : ByteArray) (a : Nat) (w : World) (h : Cur C s a w) :
  Calls Tryd.prog 172 #[.pointer (some ⟨C, 0, none⟩), .bool value] w (Out C s w r8 (pSign value s.data.toList a)) := by
 have hsm := h.sm; by_cases hl : a < s.size
 ·have hc := Zav hl; have hP := Zb7 C s a w h _ hc; generalize s[a]'hl = x at *; have okcase : ∀ (y : UInt8), Hid (pSign value s.data.toList a = .ok (y, a + 1)) → ∀ (w2 : World), Cur C s a w2 → Kept C w w2 → Out C s w r8 (pSign value s.data.toList a) (.returned (.int .u8 (y.toNat : Int))) (w2.setCell ⟨C, 1, none⟩ (.int .i64 ((a : Int) + 1))) := fun y hy w2 g1 g2 => by have hset := g1.set (b := a + 1) (by omega); have hkn := g2.set 1 (.int .i64 ((a + 1 : Nat) : Int)); have ea : ((a + 1 : Nat) : Int) = (a : Int) + 1 := (by omega); rw [ea] at hset hkn; exact Out.ok hy.out hkn rfl hset
  by_cases x1 : x = 92
  ·subst x1; have Hy : Hid (pSign value s.data.toList a = .ok (92, a + 1)) := by show pSign _ _ _ = _; unfold pSign; rw [hc]; rfl
   have hk := okcase 92 Hy; clear h hc okcase
   go_enter Tryd.func172, Tryd.ntmps172
   go_wp2_with (go_at_call 127; refine hP.mono ?_)
   rintro e w1 ⟨rfl, g1, g2⟩; have f1 := g1.at_; have f2 := g1.fz 1; have hk1 := hk w1 g1 g2; clear hk hP g1 g2
   cases value <;> (go_wp2; go_ret; exact hk1)
  ·by_cases x2 : x = 110
   ·subst x2; have Hy : Hid (pSign value s.data.toList a = .ok (10, a + 1)) := by show pSign _ _ _ = _; unfold pSign; rw [hc]; rfl
    have hk := okcase 10 Hy; clear h hc okcase
    go_enter Tryd.func172, Tryd.ntmps172
    go_wp2_with (go_at_call 127; refine hP.mono ?_)
    rintro e w1 ⟨rfl, g1, g2⟩; have f1 := g1.at_; have f2 := g1.fz 1; have hk1 := hk w1 g1 g2; clear hk hP g1 g2
    cases value <;> (go_wp2; go_ret; exact hk1)
   ·by_cases x3 : x = 34
    ·subst x3
     cases value with
     | true =>
      have Hy : Hid (pSign true s.data.toList a = .ok (34, a + 1)) := (by show pSign _ _ _ = _; unfold pSign; rw [hc]; rfl); have hk := okcase 34 Hy; clear h hc okcase
      go_enter Tryd.func172, Tryd.ntmps172
      go_wp2_with (go_at_call 127; refine hP.mono ?_)
      rintro e w1 ⟨rfl, g1, g2⟩; have f1 := g1.at_; have f2 := g1.fz 1; have hk1 := hk w1 g1 g2; clear hk hP g1 g2; go_wp2; go_ret; exact hk1
     | false =>
      have Hy : Hid (pSign false s.data.toList a = .error a) := (by show pSign _ _ _ = _; unfold pSign; rw [hc]; rfl); clear h hc okcase
      go_enter Tryd.func172, Tryd.ntmps172
      go_wp2_with (go_at_call 127; refine hP.mono ?_)
      rintro e w1 ⟨rfl, g1, g2⟩; have hF := Zcf C s a w1 g1
      go_wp2_with (go_at_call 77; refine hF.mono ?_)
      rintro e w2 ⟨rfl, rfl⟩; exact ⟨rfl, Out.no Hy.out g2⟩
    ·have Hy : Hid (pSign value s.data.toList a = .error a) := (by show pSign _ _ _ = _; unfold pSign; rw [hc]; simp only [if_neg x1, if_neg x2, if_neg x3]); have i1 : ((x.toNat : Int) != 92) = true := Zlp (n := 92) x1; have i2 : ((x.toNat : Int) != 110) = true := Zlp (n := 110) x2; have i3 : ((x.toNat : Int) != 34) = true := Zlp (n := 34) x3; clear h hc okcase x1 x2 x3
     go_enter Tryd.func172, Tryd.ntmps172
     go_wp2_with (go_at_call 127; refine hP.mono ?_)
     rintro e w1 ⟨rfl, g1, g2⟩; have hF := Zcf C s a w1 g1
     cases value <;> (
      go_wp2_with (go_at_call 77; refine hF.mono ?_)
      rintro e w2 ⟨rfl, rfl⟩
      exact ⟨rfl, Out.no Hy.out g2⟩)
 ·have Hy : Hid (pSign value s.data.toList a = .error a) := (by show pSign _ _ _ = _; unfold pSign; rw [Zbf hl]); have hP := Zei C s a w h hl; clear hl
  go_enter Tryd.func172, Tryd.ntmps172
  go_wp2_with (go_at_call 127; refine hP.mono ?_)
  rintro e w1 ⟨rfl, g1, g2⟩; exact ⟨rfl, Out.no Hy.out g2⟩
end Go.Proofs.YtknnooannohflaaDoor.Prs

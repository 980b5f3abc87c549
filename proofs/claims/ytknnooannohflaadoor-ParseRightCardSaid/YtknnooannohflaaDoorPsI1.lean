/- Layer 28: a line is taken; a text is parsed. -/
import Derived.Test.YtknnooannohflaaDoorPsF1
import Derived.Test.YtknnooannohflaaDoorPsC1
namespace Go.Proofs.YtknnooannohflaaDoor.Prs
open Go Go.Proofs Go.RowKit Go.Px Trm Exp Met
set_option linter.unusedVariables false

theorem Zjq {f : FaD} (h : okF f) : f.ss.length ≤ 400 := by
 by_cases h0 : f.ss.length = 0
 ·omega
 ·have := Zur (f := f) (j := f.ss.length - 1) (by omega) (h.up _ (by omega)); omega
theorem Zsj (R B : Nat) (l : List (FaD × Value)) (ln : LnD) (v : Value) (w : World) (done : List LnD) (hI : InvP (fsts l) done) (hg : lnG ln) (h : RdM w R B l) (hB : B ≤ w.heap.size) (hG : GlW w) (hv : w.ownsRow B 65 2 v ln.sm.ls.length (Za9 ln.sm.ls)) (hs : ln.nm.size ≤ 200000000 ∧ ln.hp.size ≤ 200000000) :
  Calls Tryd.prog 31 #[.pointer (some ⟨R, 0, none⟩), lnV ln v] w (TkOut R B w (tk (fsts l) ln)) := by
 have hlen : (fsts l).length = l.length := (by unfold fsts; simp); have hle := hI.le; have hok : ∀ p ∈ l, okF p.1 := fun p hp => hI.ok p.1 (List.mem_map.2 ⟨p, hp, rfl⟩)
 have hz : RdZ l := ⟨by omega, fun p hp => by have := Zjq (hok p hp); omega⟩
 cases hg with
 | help nm hp hn => exact Zsi R B l nm hp 0 sm0 v (Za5 hv) w h hB hz hs
 | type nm k hn hk =>
  rcases List.eq_nil_or_concat l with rfl | ⟨gs, p, rfl⟩
  ·exact Zmg R B nm (bA []) k sm0 v (Za5 hv) w h hB
  ·rw [List.concat_eq_append] at *; exact Zkt R B gs p nm (bA []) k sm0 v (Za5 hv) w h hB (by simp at hlen; omega)
 | samp x hx =>
  rcases List.eq_nil_or_concat l with rfl | ⟨gs, p, rfl⟩
  ·exact Zmk R B (bA []) (bA []) 0 x v (Za5 hv) w h hB
  ·rw [List.concat_eq_append] at *; have ho := hok p (by simp); exact Zku R B gs p (bA []) (bA []) 0 x v w h hB (by simp at hlen; omega) (by have := Zjq ho; omega) ho.up (by have := ho.sz; omega) hG hv

def PsOut (T : Tx) (w : World) (e : Ending) (w' : World) : Prop := Below w.heap.size w w' ∧ match Zar T with
 | .ok m => ∃ fv l, e = .returned (.tuple #[fv, .agg #[.int .i64 0, .int .i64 0], .int .i64 0]) ∧ fsts l = m ∧ ∃ B, w.heap.size ≤ B ∧ FamM w' B fv l
 | .error (n, c) => e = .returned (.tuple #[.slice none 0 0, .agg #[.int .i64 n, .int .i64 c], .int .i64 11])

theorem KeptB.bel {R B N : Nat} {w w' : World} (h : KeptB R B w w') (hB : N ≤ B) (hR : N ≤ R) : Below N w w' := ⟨h.os, h.tape, h.output, h.size, fun k hk => h.block k (by omega) (by omega)⟩
theorem ba_sz (t : Tx) : (bA t).size = t.length := by rw [← Zdp, Zbh]
theorem RdM.rdc {w : World} {R B : Nat} {l : List (FaD × Value)} (h : RdM w R B l) : ∃ p n c, w.cell? ⟨R, 0, none⟩ = some (.slice p n c) ∧ FamM w B (.slice p n c) l := by
 obtain ⟨_, fv, h1, h2⟩ := h; obtain ⟨p, n, c, rfl⟩ := Za5 h2.row; have := Zab h1 0; simp only [List.getElem?_toArray, List.getElem?_cons_zero] at this; exact ⟨p, n, c, this, h2⟩
theorem Zrd (R B : Nat) (w : World) (l : List (FaD × Value)) (h : RdM w R B l) (hz : RdZ l) : Calls Tryd.prog 32 #[.pointer (some ⟨R, 0, none⟩)] w fun e w' => e = .returned (.bool (Zbt (fsts l))) ∧ Below w.heap.size w w' := by
 rcases List.eq_nil_or_concat l with rfl | ⟨gs, p, rfl⟩
 ·refine (Zk9 R B w h).mono ?_; rintro e w' ⟨rfl, rfl⟩; exact ⟨rfl, Below.refl _ _⟩
 ·rw [List.concat_eq_append] at *; obtain ⟨g, cap, hL⟩ := h.last; refine (Zla R B g gs.length cap p w hL (by have := hz.le; simp at this; omega) (hz.ss p (by simp))).mono ?_; rintro e w' ⟨rfl, rfl⟩; refine ⟨?_, (Below.refl _ _).drew⟩; unfold Zbt fsts; simp
theorem Zwz (l : Tx) : l.length ≤ (hlpT l).length := by
 induction l with
 | nil => exact Nat.le_refl _
 | cons c l ih => have h1 : 1 ≤ (eH c).length := (by obtain ⟨u, r, e, _⟩ := Zxi c; rw [e]; simp); show l.length + 1 ≤ (eH c ++ hlpT l).length; rw [List.length_append]; omega
theorem ln_sz {l : LnD} (h : lnG l) : l.nm.size ≤ (lnT l).length ∧ l.hp.size ≤ (lnT l).length := by
 cases h with
 | help nm hp hn => have h1 := Zwz hp.data.toList; rw [Zdp] at h1; show nm.size ≤ (hlL nm.data.toList hp.data.toList).length ∧ hp.size ≤ (hlL nm.data.toList hp.data.toList).length; unfold hlL; simp only [List.length_cons, List.length_append, Zdp]; omega
 | type nm k hn hk => show nm.size ≤ (tyL nm.data.toList k).length ∧ (bA []).size ≤ (tyL nm.data.toList k).length; unfold tyL; simp only [List.length_cons, List.length_append, Zdp]; exact ⟨by omega, Nat.zero_le _⟩
 | samp x hx => exact ⟨Nat.zero_le _, Nat.zero_le _⟩
theorem FamM.set {w : World} {B : Nat} {fv : Value} {l : List (FaD × Value)} (h : FamM w B fv l) {p : Addr} (hp : p.block < B) (u : Value) : FamM (w.setCell p u) B fv l := by
 refine ⟨ownsRow_setCell_below h.row hp u, fun x hx => ?_, h.sep⟩; obtain ⟨q, e, hq⟩ := h.sam x hx; exact ⟨q, e, ownsRow_setCell_below hq.row hp u, fun y hy => ownsRow_setCell_below (hq.lab y hy) hp u⟩
theorem ps_ok {T : Tx} {w w' : World} {fv : Value} {l : List (FaD × Value)} {B : Nat} (h : Zar T = .ok (fsts l)) (hb : Below w.heap.size w w') (hB : w.heap.size ≤ B) (hF : FamM w' B fv l) : PsOut T w (.returned (.tuple #[fv, .agg #[.int .i64 0, .int .i64 0], .int .i64 0])) w' := by
 refine ⟨hb, ?_⟩; rw [h]; exact ⟨fv, l, rfl, rfl, B, hB, hF⟩
theorem Zp1 {T : Tx} {w w' : World} {n c : Int} (h : Zar T = .error (n, c)) (hb : Below w.heap.size w w') : PsOut T w (.returned (.tuple #[.slice none 0 0, .agg #[.int .i64 n, .int .i64 c], .int .i64 11])) w' := by
 refine ⟨hb, ?_⟩; rw [h]
set_option maxHeartbeats 2000000 in
set_option maxRecDepth 100000 in
theorem Zre (T : Tx) (w : World) (hG : GlW w) (hlen : T.length ≤ 200000000) :
  Calls Tryd.prog 9 #[.string (bA T)] w (PsOut T w) := by
 have hb0 : Below w.heap.size w ((w.alloc (.cells #[.int .i64 0, .int .i64 0] 25)).alloc (.cells #[.slice none 0 0] 69)) := ((Below.refl _ _).alloc (Nat.le_refl _) _).alloc (by simp) _; have hF0 : ((w.alloc (.cells #[.int .i64 0, .int .i64 0] 25)).alloc (.cells #[.slice none 0 0] 69)).heap[w.heap.size]? = some (.cells #[.int .i64 0, .int .i64 0] 25 (0, 0)) := by rw [Below.heap_alloc _ _ _ (by simp)]; exact heap_alloc_new _ _
 have hR0 : ((w.alloc (.cells #[.int .i64 0, .int .i64 0] 25)).alloc (.cells #[.slice none 0 0] 69)).heap[w.heap.size + 1]? = some (.cells #[.slice none 0 0] 69 (0, 0)) := by
  have := heap_alloc_new (w.alloc (.cells #[.int .i64 0, .int .i64 0] 25)) (.cells #[.slice none 0 0] 69)
  simpa using this
 have hS0 : w.heap.size + 2 ≤ ((w.alloc (.cells #[.int .i64 0, .int .i64 0] 25)).alloc (.cells #[.slice none 0 0] 69)).heap.size := (by simp); have hGw : ∀ wr, Below w.heap.size w wr → GlW wr := fun wr hb => hG.kept fun k hk => hb.block k (Nat.lt_of_lt_of_le hk hG.low)
 go_enter Tryd.func9, Tryd.ntmps9
 go_wp2_with fail
 generalize (w.alloc (.cells #[.int .i64 0, .int .i64 0] 25)).alloc (.cells #[.slice none 0 0] 69) = W at *
 go_loopw [0, 6] (fun s i wr => ∃ (t : Tx) (n k : Nat) (l : List (FaD × Value)) (done : List LnD), s = .string (bA t) ∧ i = .int .i64 (n : Int) ∧ t.length < k ∧ n + t.length ≤ T.length ∧ KeptB (w.heap.size + 1) (w.heap.size + 2) W wr ∧ RdM wr (w.heap.size + 1) (w.heap.size + 2) l ∧ InvP (fsts l) done ∧ w.heap.size + 2 ≤ wr.heap.size ∧ Hid (Zar T = pGo k (n : Int) (fsts l) t)) (fun s _ _ => match s with | .string b => b.size | _ => 0)
 case atStart =>
  exact ⟨T, 0, T.length + 1, [], [], rfl, rfl, Nat.lt_succ_self _, by omega, ⟨rfl, rfl, rfl, Nat.le_refl _, fun _ _ _ => rfl⟩, ⟨by omega, .slice none 0 0, hR0, ⟨World.ownsRow_nil _ _ _ _, fun p hp => absurd hp (by simp), List.Pairwise.nil⟩⟩, Zpb, hS0, rfl⟩
 case round =>
  obtain ⟨t, n, k, l, done, rfl, rfl, hk, hn, hK, hR, hI, hB, hH⟩ := hrel; have hbW : Below w.heap.size w wr := hb0.trans (hK.bel (by omega) (by omega)); have hF := (hK.block w.heap.size (by omega) (by omega)).trans hF0; have hsz := ba_sz t; have hllen : (fsts l).length = l.length := by unfold fsts; simp
  have hz : RdZ l := ⟨by have := hI.le; omega, fun p hp => by have := Zjq (hI.ok p.1 (List.mem_map.2 ⟨p, hp, rfl⟩)); omega⟩
  obtain ⟨k, rfl⟩ : ∃ m, k = m + 1 := ⟨k - 1, by omega⟩
  by_cases ht : t = []
  ·subst ht; have hp : ¬ 0 < (bA []).size := by rw [hsz]; simp
   have hW := Zrd _ _ wr l hR hz; have Hq : Hid (Zar T = if Zbt (fsts l) = true then .ok (fsts l) else .error ((n : Int) + 1, 0)) := (by show _ = _; rw [hH.out, pGo, if_pos rfl]); clear hH hI hz hsz hllen hK
   go_wp2_with (go_at_call 32; refine hW.mono ?_)
   rintro e w1 ⟨rfl, hb1⟩; have hbl : Below w.heap.size w w1 := hbW.trans (hb1.mono (by omega)); have hF1 := (hb1.block _ (Array.getElem?_eq_some_iff.1 hF).1).trans hF; have hR1 := hR.below hb1; clear hW hb1 hF hR hbW
   cases hw : Zbt (fsts l) with
   | false =>
    have Hy : Hid (Zar T = .error ((n : Int) + 1, 0)) := (by show _ = _; rw [Hq.out, hw]; rfl); have f0 := Zab hF1 0; have f1 := Zab hF1 1; simp only [List.getElem?_toArray, List.getElem?_cons_succ, List.getElem?_cons_zero] at f0 f1; have ff : ∀ i, (w1).frozen? ⟨w.heap.size, i, none⟩ = false := fun i => by simp [World.frozen?, hF1]
    have ff0 := ff 0; have ff1 := ff 1; clear ff; clear hF1 hR1 Hq; go_wp2; refine bodyPost_ret (v := .tuple #[.slice none 0 0, .agg #[.int .i64 ((n : Int) + 1), .int .i64 (0)], .int .i64 11]) ?_ rfl ?_
    ·simp [results, loadVar, f0, f1, go_sem]; done
    refine Zp1 Hy.out (Below.trans hbl ((Zae _ _ _ (by simp)).trans (Zae _ _ _ (by simp))))
   | true =>
    have Hy : Hid (Zar T = .ok (fsts l)) := (by show _ = _; rw [Hq.out, hw]; rfl); have f0 := Zab hF1 0; have f1 := Zab hF1 1; simp only [List.getElem?_toArray, List.getElem?_cons_succ, List.getElem?_cons_zero] at f0 f1; have ff : ∀ i, (w1).frozen? ⟨w.heap.size, i, none⟩ = false := fun i => by simp [World.frozen?, hF1]
    have ff0 := ff 0; have ff1 := ff 1; clear ff; obtain ⟨rp, rn, rc, r0, hFm⟩ := hR1.rdc; have hne1 : w.heap.size + 1 ≠ w.heap.size := (by omega); clear hF1 hR1 Hq; go_wp2; refine bodyPost_ret (v := .tuple #[.slice rp rn rc, .agg #[.int .i64 0, .int .i64 0], .int .i64 0]) ?_ rfl ?_
    ·simp [results, loadVar, f0, f1, go_sem]; done
    exact ps_ok Hy.out (Below.trans hbl ((Zae _ _ _ (by simp)).trans (Zae _ _ _ (by simp)))) (by omega) ((hFm.set (by simp) _).set (by simp) _)
  ·have hpos : 0 < (bA t).size := (by rw [hsz]; exact List.length_pos_iff.2 ht); have hC := Zvc (bA t) wr (by omega); rw [Zbh] at hC; have hnw : ¬ (9223372036854775807 < (n : Int) + 1) := by omega
   cases hr : Zbu t with
   | nil =>
    rw [hr] at hC; have hsl : (bA (Zak t)).size ≤ 200000000 := by have e := congrArg List.length (Ze6 t); rw [List.length_append] at e; rw [ba_sz]; omega
    go_wp2_with (go_at_call 29; refine hC.mono ?_)
    rintro e w1 rfl hb1; have hRd := Znm (bA (Zak t)) false w1 hsl
    go_wp2_with (go_at_call 30; refine hRd.mono ?_)
    rintro e w2 ⟨hb2, hr2⟩; rw [Zbh] at hr2; have hb12 : Below wr.heap.size wr w2 := hb1.trans (hb2.mono hb1.size); have hF2 := (hb12.block _ (by omega)).trans hF; have hBw1 : w.heap.size + 2 ≤ w1.heap.size := Nat.le_trans hB hb1.size; clear hC hRd hb2 hb1
    cases hp : pRead (Zak t) false with
    | ok ln => exact absurd hp Zkl
    | error b =>
     rw [hp] at hr2; have Hy : Hid (Zar T = .error ((n : Int) + 1, (b : Int) + 1)) := (by show _ = _; rw [hH.out, pGo, if_neg ht, hr]; simp only; rw [hp]); have hr2 : e = .returned (.tuple #[.agg zer7, .int .i64 ((b : Int) + 1)]) := hr2; subst hr2; have hc : (0 : Int) < (b : Int) + 1 := (by omega); have hb3 : Below w2.heap.size w2 (w2.alloc (.cells #[.int .i64 0, .string ⟨#[]⟩, .string ⟨#[]⟩, .int .i64 0, .string ⟨#[]⟩, .slice none 0 0, .int .i64 0] 73)) := (Below.refl _ _).alloc (Nat.le_refl _) _; have hF3 := (hb3.block _ (Array.getElem?_eq_some_iff.1 hF2).1).trans hF2; have f0 := Zab hF3 0; have f1 := Zab hF3 1; simp only [List.getElem?_toArray, List.getElem?_cons_succ, List.getElem?_cons_zero] at f0 f1; have ff : ∀ i, (w2.alloc (.cells #[.int .i64 0, .string ⟨#[]⟩, .string ⟨#[]⟩, .int .i64 0, .string ⟨#[]⟩, .slice none 0 0, .int .i64 0] 73)).frozen? ⟨w.heap.size, i, none⟩ = false := fun i => by simp [World.frozen?, hF3]
     have ff0 := ff 0; have ff1 := ff 1; clear ff; have hbl : Below w.heap.size w (w2.alloc (.cells #[.int .i64 0, .string ⟨#[]⟩, .string ⟨#[]⟩, .int .i64 0, .string ⟨#[]⟩, .slice none 0 0, .int .i64 0] 73)) := (hbW.trans (hb12.mono (by omega))).trans (hb3.mono (by have := hb12.size; omega)); clear hp hr hH hR hI hF3 hb3 hF2 hb12 hK hF hbW hz hsz ht; go_wp2; refine bodyPost_ret (v := .tuple #[.slice none 0 0, .agg #[.int .i64 ((n : Int) + 1), .int .i64 ((b : Int) + 1)], .int .i64 11]) ?_ rfl ?_
     ·simp [results, loadVar, f0, f1, go_sem]; done
     refine Zp1 Hy.out (Below.trans hbl ((Zae _ _ _ (by simp)).trans (Zae _ _ _ (by simp))))
   | cons c r =>
    obtain ⟨hc10, hteq, hno⟩ := Zhq hr; subst hc10; have hlr : t.length = (Zak t).length + 1 + r.length := (by have := congrArg List.length hteq; rw [List.length_append, List.length_cons] at this; omega); rw [hr] at hC; clear hteq; have hsl : (bA (Zak t)).size ≤ 200000000 := by have e := congrArg List.length (Ze6 t); rw [List.length_append] at e; rw [ba_sz]; omega
    go_wp2_with (go_at_call 29; refine hC.mono ?_)
    rintro e w1 rfl hb1; have hRd := Znm (bA (Zak t)) true w1 hsl
    go_wp2_with (go_at_call 30; refine hRd.mono ?_)
    rintro e w2 ⟨hb2, hr2⟩; rw [Zbh] at hr2; have hb12 : Below wr.heap.size wr w2 := hb1.trans (hb2.mono hb1.size); have hF2 := (hb12.block _ (by omega)).trans hF; have hBw1 : w.heap.size + 2 ≤ w1.heap.size := Nat.le_trans hB hb1.size; clear hC hRd hb2 hb1
    cases hp : pRead (Zak t) true with
    | error b =>
     rw [hp] at hr2; have Hy : Hid (Zar T = .error ((n : Int) + 1, (b : Int) + 1)) := (by show _ = _; rw [hH.out, pGo, if_neg ht, hr]; simp only; rw [hp]); have hr2 : e = .returned (.tuple #[.agg zer7, .int .i64 ((b : Int) + 1)]) := hr2; subst hr2; have hc : (0 : Int) < (b : Int) + 1 := (by omega); have hb3 : Below w2.heap.size w2 (w2.alloc (.cells #[.int .i64 0, .string ⟨#[]⟩, .string ⟨#[]⟩, .int .i64 0, .string ⟨#[]⟩, .slice none 0 0, .int .i64 0] 73)) := (Below.refl _ _).alloc (Nat.le_refl _) _; have hF3 := (hb3.block _ (Array.getElem?_eq_some_iff.1 hF2).1).trans hF2; have f0 := Zab hF3 0; have f1 := Zab hF3 1; simp only [List.getElem?_toArray, List.getElem?_cons_succ, List.getElem?_cons_zero] at f0 f1; have ff : ∀ i, (w2.alloc (.cells #[.int .i64 0, .string ⟨#[]⟩, .string ⟨#[]⟩, .int .i64 0, .string ⟨#[]⟩, .slice none 0 0, .int .i64 0] 73)).frozen? ⟨w.heap.size, i, none⟩ = false := fun i => by simp [World.frozen?, hF3]
     have ff0 := ff 0; have ff1 := ff 1; clear ff; have hbl : Below w.heap.size w (w2.alloc (.cells #[.int .i64 0, .string ⟨#[]⟩, .string ⟨#[]⟩, .int .i64 0, .string ⟨#[]⟩, .slice none 0 0, .int .i64 0] 73)) := (hbW.trans (hb12.mono (by omega))).trans (hb3.mono (by have := hb12.size; omega)); clear hp hr hH hR hI hF3 hb3 hF2 hb12 hK hF hbW hz hsz ht; go_wp2; refine bodyPost_ret (v := .tuple #[.slice none 0 0, .agg #[.int .i64 ((n : Int) + 1), .int .i64 ((b : Int) + 1)], .int .i64 11]) ?_ rfl ?_
     ·simp [results, loadVar, f0, f1, go_sem]; done
     refine Zp1 Hy.out (Below.trans hbl ((Zae _ _ _ (by simp)).trans (Zae _ _ _ (by simp))))
    | ok ln =>
     rw [hp] at hr2; obtain ⟨v, rfl, hv⟩ := hr2; obtain ⟨hg, hlt⟩ := Zmy hp hno; have Hg : Hid (Zar T = match tk (fsts l) ln with | none => .error ((n : Int) + 1, 0) | some fs' => pGo k ((n : Int) + 1) fs' r) := (by show _ = _; rw [hH.out, pGo, if_neg ht, hr]; simp only; rw [hp]; rfl); obtain ⟨vp, vn, vc, rfl⟩ := Za5 hv; have hs1 := ln_sz hg; rw [← hlt] at hs1; have hsz2 := ba_sz (Zak t)
     have hs : ln.nm.size ≤ 200000000 ∧ ln.hp.size ≤ 200000000 := ⟨by omega, by omega⟩
     have hb3 : Below w2.heap.size w2 (w2.alloc (.cells #[.int .i64 ln.kd, .string ln.nm, .string ln.hp, .int .i64 ln.of, .string ln.sm.nm, .slice vp vn vc, .int .i64 ln.sm.v] 73)) := (Below.refl _ _).alloc (Nat.le_refl _) _; have hl3 := heap_alloc_new w2 (.cells #[.int .i64 ln.kd, .string ln.nm, .string ln.hp, .int .i64 ln.of, .string ln.sm.nm, .slice vp vn vc, .int .i64 ln.sm.v] 73); have hb13 : Below wr.heap.size wr (w2.alloc (.cells #[.int .i64 ln.kd, .string ln.nm, .string ln.hp, .int .i64 ln.of, .string ln.sm.nm, .slice vp vn vc, .int .i64 ln.sm.v] 73)) := hb12.trans (hb3.mono hb12.size); have hB3 : w.heap.size + 2 ≤ (w2.alloc (.cells #[.int .i64 ln.kd, .string ln.nm, .string ln.hp, .int .i64 ln.of, .string ln.sm.nm, .slice vp vn vc, .int .i64 ln.sm.v] 73)).heap.size := Nat.le_trans hB hb13.size; have hR3 := hR.below hb13; have hbl3 : Below w.heap.size w (w2.alloc (.cells #[.int .i64 ln.kd, .string ln.nm, .string ln.hp, .int .i64 ln.of, .string ln.sm.nm, .slice vp vn vc, .int .i64 ln.sm.v] 73)) := hbW.trans (hb13.mono (by omega)); have hv3 := Zcv (Zc2 hv hb3) (b2 := w.heap.size + 2) hBw1; have hT := Zsj (w.heap.size + 1) (w.heap.size + 2) l ln (.slice vp vn vc) _ done hI hg hR3 hB3 (hGw _ hbl3) hv3 hs; have hF3 := (hb13.block _ (by omega)).trans hF; have hK3 := hK.below hb13 hB; have xc := fun i => Zab hl3 i; have x0 := xc 0; have x1 := xc 1; have x2 := xc 2; have x3 := xc 3; have x4 := xc 4; have x5 := xc 5; have x6 := xc 6; simp only [List.getElem?_toArray, List.getElem?_cons_succ, List.getElem?_cons_zero] at x0 x1 x2 x3 x4 x5 x6; clear xc hl3 hb3 hF2 hp hH hr hR hK hF hb12 hb13 hv hsz2 hs1 hR3 hv3 hlt hno
     go_wp2_with (go_at_call 31; refine hT.mono ?_)
     rintro e w4 hTk; clear hT x0 x1 x2 x3 x4 x5 x6
     cases htk : tk (fsts l) ln with
     | none =>
      rw [htk] at hTk; obtain ⟨K4, he⟩ := hTk; have he : e = .returned (.bool false) := he; subst he; have Hy : Hid (Zar T = .error ((n : Int) + 1, 0)) := by show _ = _; rw [Hg.out, htk]
      have hF4 := (K4.block w.heap.size (by omega) (by omega)).trans hF3; have hbl : Below w.heap.size w w4 := hbl3.trans (K4.bel (by omega) (by omega)); clear Hg htk hF3 hbl3 K4 hK3 hI; have f0 := Zab hF4 0; have f1 := Zab hF4 1; simp only [List.getElem?_toArray, List.getElem?_cons_succ, List.getElem?_cons_zero] at f0 f1; have ff : ∀ i, (w4).frozen? ⟨w.heap.size, i, none⟩ = false := fun i => by simp [World.frozen?, hF4]
      have ff0 := ff 0; have ff1 := ff 1; clear ff; clear hF4; go_wp2; refine bodyPost_ret (v := .tuple #[.slice none 0 0, .agg #[.int .i64 ((n : Int) + 1), .int .i64 (0)], .int .i64 11]) ?_ rfl ?_
      ·simp [results, loadVar, f0, f1, go_sem]; done
      refine Zp1 Hy.out (Below.trans hbl ((Zae _ _ _ (by simp)).trans (Zae _ _ _ (by simp))))
     | some fs =>
      rw [htk] at hTk; obtain ⟨K4, he, l4, rfl, hR4⟩ := hTk; subst he; have Hn : Hid (Zar T = pGo k ((n + 1 : Nat) : Int) (fsts l4) r) := by show _ = _; rw [Hg.out, htk]; rfl
      have hI4 := Ztp hI hg htk; have K5 := hK3.trans K4; have hB5 : w.heap.size + 2 ≤ w4.heap.size := Nat.le_trans hB3 K4.size; clear Hg htk hF3 hbl3 K4 hK3 hI hGw hB3; go_wp2; exact ⟨⟨r, n + 1, k, l4, done ++ [ln], rfl, rfl, by omega, by omega, K5, hR4, hI4, hB5, Hn⟩, by show (bA r).size < (bA t).size; rw [ba_sz, ba_sz]; omega⟩
end Go.Proofs.YtknnooannohflaaDoor.Prs

namespace Go.Proofs.YtknnooannohflaaDoor.Prs
open Go Go.Proofs Go.RowKit Go.Px Trm Exp Met
set_option linter.unusedVariables false
set_option maxRecDepth 100000

theorem Znj {P : Program} {f : FuncId} {fn : Func} (hf : P.funcs[f]? = some fn) (hb : fn.body.isSome = true) (hn : (fn.name == "runtime.NumGoroutine") = false) (args : List SV) (Q : List SV → Prop)
  (hc : ∀ (h : Hp) (ρ : Nat → Px.Loc) (w : World) (vs : Array Value), HSub h w → Gl h w → Zgh h ρ vs.toList args → Calls P f vs w fun e w' => ∃ (vr : List Value) (rs : List SV), e = .returned (rets vr) ∧ vr.length = rs.length ∧
   (∀ h' : Hp, (∀ b, w.heap.size ≤ b → ∀ o, h' b o = w'.cell? ⟨b, o, none⟩) → ∀ (i : Nat) v s, vr[i]? = some v → rs[i]? = some s → PRep h' v s) ∧ Q rs ∧ Below w.heap.size w w') : Ct P f {} args Q := by
 refine ⟨⟨fn, hf, hb, fun e => by rw [e] at hn; simp at hn⟩, fun hs objs hargs h ρ w vs hH hgl hrep => ?_⟩; rw [Zaz] at hargs
 cases hargs
 refine (hc h ρ w vs hH.sub hgl hrep).mono ?_; rintro e w' ⟨vr, rs, rfl, hl, hp, hq, hbl⟩; have hlt : ∀ b o v, h b o = some v → b < w.heap.size := fun b o v e => World.block_lt_of_cell? w ⟨b, o, none⟩ (hH.sub b o v e); have hs0 : HSub h w' := Zeq hH.sub (fun b hb => hbl.block b hb)
 let h' : Hp := fun b o => if b < w.heap.size then h b o else w'.cell? ⟨b, o, none⟩
 have hnew : ∀ b, w.heap.size ≤ b → ∀ o, h' b o = w'.cell? ⟨b, o, none⟩ := fun b hb o => if_neg (by omega); have hle : HLe h h' := fun b o v e => by show (if b < w.heap.size then h b o else _) = _; rw [if_pos (hlt b o v e)]; exact e
 have hsub : HSub h' w' := fun b o v e => by
  by_cases hbs : b < w.heap.size
  ·have : h b o = some v := (by rw [← e]; exact (if_pos hbs).symm); exact hs0 b o v this
  ·rw [hnew b (by omega)] at e; exact e
 have hold : Px.Holds h' ρ [] w' := ⟨hsub, fun id o hm => (by simp at hm), fun i j hi => by obtain ⟨⟨o, e⟩, _⟩ := hi; simp [oget] at e⟩
 have hend : endH {} vr.length rs = some (rs, []) := by unfold endH; rw [hl]; simp [Zaz, lentH]
 exact ⟨vr, h', ρ, rs, rs, [], rfl, hq, hend, ⟨hl, fun i v s hv hs => .pure _ _ (hp h' hnew i v s hv hs)⟩, hold, fun i hi => (by obtain ⟨⟨o, e⟩, _⟩ := hi; simp [oget] at e), ⟨fun i ms hm => (by simp at hm), fun _ _ => rfl⟩, hle, fun b hb _ o e => by show (if b < w.heap.size then h b o else _) = _; rw [if_pos hb]; exact e,
  ⟨hbl.os, hbl.tape, hbl.output, hbl.size, fun k hk _ => hbl.block k hk⟩⟩
def psR (T : Tx) : List SV := match Zar T with
 | .ok m => [SL 4 (faR m), .agg [I 0, I 0], I 0]
 | .error (n, c) => [SL 4 [], .agg [I n, I c], I 11]
theorem Zp2 {h : Hp} (a b : Int) : PRep h (.agg #[.int .i64 a, .int .i64 b]) (.agg [I a, I b]) := by
 refine .agg _ _ rfl fun i u c hu hc => ?_
 match i, hu, hc with
 | 0, hu, hc => cases hu; cases hc; exact .val _
 | 1, hu, hc => cases hu; cases hc; exact .val _
 | i + 2, hu, hc => simp at hu
theorem Zix (T : Tx) (hlen : T.length ≤ 200000000) : Ct Tryd.prog 9 {} [S (bA T)] (fun r => r = psR T) := by
 refine Znj Tryd.func9 rfl rfl _ _ fun h ρ w vs hs hg hr => ?_; have hv : vs.toList = [.string (bA T)] := Zmh vs.toList [.string (bA T)] hr; have e : vs = #[.string (bA T)] := (by rw [Zv3 hv]); subst e; refine (Zre T w (GlW.of hs hg) hlen).mono ?_; rintro e w' ⟨hb, hout⟩; unfold psR
 cases hp : Zar T with
 | ok m =>
  rw [hp] at hout; obtain ⟨fv, l, rfl, rfl, B, hB, hF⟩ := hout; refine ⟨[fv, .agg #[.int .i64 0, .int .i64 0], .int .i64 0], _, rfl, rfl, fun h' hh i v s hv hs => ?_, rfl, hb⟩
  match i, hv, hs with
  | 0, hv, hs => cases hv; cases hs; exact Zrk (fun g hg o => hh g (by omega) o) hF
  | 1, hv, hs => cases hv; cases hs; exact Zp2 0 0
  | 2, hv, hs => cases hv; cases hs; exact .val _
  | i + 3, hv, hs => simp at hv
 | error q =>
  obtain ⟨n, c⟩ := q; rw [hp] at hout; have he : e = .returned (.tuple #[.slice none 0 0, .agg #[.int .i64 n, .int .i64 c], .int .i64 11]) := hout; subst he; refine ⟨[.slice none 0 0, .agg #[.int .i64 n, .int .i64 c], .int .i64 11], _, rfl, rfl, fun h' hh i v s hv hs => ?_, rfl, hb⟩
  match i, hv, hs with
  | 0, hv, hs => cases hv; cases hs; exact .empty none 0 4 0 (by decide) (by simp) (fun _ => rfl)
  | 1, hv, hs => cases hv; cases hs; exact Zp2 n c
  | 2, hv, hs => cases hv; cases hs; exact .val _
  | i + 3, hv, hs => simp at hv
end Go.Proofs.YtknnooannohflaaDoor.Prs

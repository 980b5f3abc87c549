/- Layer 15: what is right stays so; what an event leaves as it was, or makes more. -/
import Derived.Test.YtknnooannohflaaDoorMetE
import Derived.Test.YtknnooannohflaaDoorCmA
namespace Go.Proofs.YtknnooannohflaaDoor.Met
open Go Go.Px Go.Proofs Go.Proofs.YtknnooannohflaaDoor.Cmp Go.Proofs.YtknnooannohflaaDoor.St
set_option maxRecDepth 100000
set_option linter.unusedVariables false

theorem nxt_len {d : StD} {e : EvD} (m : MayS d e) : (withB CoD.nm d.cs (nxtS d e)).length = d.cs.length + (if e.k = 1 then 1 else 0) := by
 have hn := nxt_nm m
 by_cases hk : e.k = 1
 ·rw [if_pos hk, withB_new (by rw [hn]; exact fAt_none.1 (m.new hk).1), len_insB]
 ·rw [if_neg hk]
  obtain ⟨i, hi, h1, h2, h3⟩ := m.old hk
  rw [len_withB_old m.p.2.2 hi (by rw [hn, h2])]; rfl

theorem app_zero {d : StD} {e : EvD} (h : (appS d e).2 = 0) : mayS d e = 0 ∧ appS d e = (⟨withB CoD.nm d.cs (nxtS d e), e.s, e.a⟩, 0) := by
 unfold appS at h ⊢
 by_cases hm : mayS d e = 0
 ·exact ⟨hm, by rw [if_neg (by simp [hm])]⟩
 ·rw [if_pos hm] at h; exact absurd h hm
theorem app_err {d : StD} {e : EvD} (h : (appS d e).2 ≠ 0) : appS d e = (d, mayS d e) := by
 unfold appS at h ⊢
 by_cases hm : mayS d e = 0
 ·rw [if_neg (by simp [hm])] at h; exact absurd rfl h
 ·rw [if_pos hm]

theorem new_P {nm : ByteArray} {ro a : Int} (h1 : namB nm = true) (h2 : 1 ≤ ro ∧ ro ≤ 3) (h3 : timP a) : (newC nm ro a).1.P := by
 unfold newC
 rw [if_neg (by simp [h1]), if_neg (by omega), if_neg (by simp [h3])]
 have z : heldP 0 := by decide
 have hh : hisP 0 0 0 0 0 0 0 0 0 0 := by decide
 have bk : bktP 10 10 := by decide
 by_cases h : ro = 1
 ·rw [if_pos h]
  have ht := tim_div h3 (w := 10) (by omega)
  have hz : cellsP (zer 4) := cells_zer 4
  have hw : winP 10 (a / 10) (zer 4) := ⟨by decide, ht, by decide, hz⟩
  exact P1 h1 ⟨z, z, z⟩ h ⟨⟨(by decide : (0 : Int) ≤ 0 ∧ (0 : Int) ≤ 2), hw⟩, hh, rfl, rfl⟩
 ·rw [if_neg h]
  by_cases h' : ro = 2
  ·exact P2 h1 ⟨z, z, z⟩ h' ⟨⟨⟨rfl, rfl, rfl, rfl⟩, ⟨rfl, rfl, rfl, rfl, rfl, rfl, rfl, rfl, rfl⟩, rfl⟩, bk⟩
  ·exact P3 h1 ⟨z, z, z⟩ (show ro = 3 by omega) ⟨⟨(by decide : (0 : Int) ≤ 0 ∧ (0 : Int) ≤ 2147483647), rfl, rfl, rfl⟩, hh, bk⟩

theorem nxt_P {d : StD} {e : EvD} (m : MayS d e) : (nxtS d e).P := by
 unfold nxtS
 by_cases hk : e.k = 1
 ·rw [if_pos hk]
  obtain ⟨_, hn, hv, ht, _⟩ := chkE_zero m.chk
  have l1 : lo1 e.k = 1 := by simp [lo1, hk]
  have l2 : hi1 e.k = 3 := by simp [hi1, hk]
  exact new_P (by unfold namB; rw [decide_eq_true hn]) (by omega) ht
 ·rw [if_neg hk]
  obtain ⟨i, hi, h1, h2, h3⟩ := m.old hk
  rw [h1, getD_at hi]
  exact tell_P (may_zero.1 h3)

theorem app_P {d : StD} {e : EvD} (h : (appS d e).2 = 0) : (appS d e).1.P ∧ (appS d e).1.q = d.q + 1 ∧ d.t ≤ (appS d e).1.t := by
 obtain ⟨hm, ea⟩ := app_zero h
 have m := mayS_zero hm
 obtain ⟨_, _, _, ht, hq⟩ := chkE_zero m.chk
 have hl := m.p.1.1
 rw [ea]
 refine ⟨⟨⟨?_, hq.1, hq.2, ht.1, ht.2⟩, fun c hc => ?_, srt_withB m.p.2.2⟩, m.sq, m.tm⟩
 ·show (withB CoD.nm d.cs (nxtS d e)).length ≤ 12
  rw [nxt_len m]
  split
  ·have := (m.new (by assumption)).2; omega
  ·omega
 ·rcases mem_withB.1 hc with rfl | ⟨hc, _⟩
  ·exact nxt_P m
  ·exact m.p.2.1 c hc

structure leC (c d : CoD) : Prop where
 nm : d.nm = c.nm
 ro : d.ro = c.ro
 c0 : c.c0 ≤ d.c0
 c1 : c.c1 ≤ d.c1
 c2 : c.c2 ≤ d.c2
 h0 : c.h0 ≤ d.h0
 h1 : c.h1 ≤ d.h1
 h2 : c.h2 ≤ d.h2
 h3 : c.h3 ≤ d.h3
 h4 : c.h4 ≤ d.h4
 h5 : c.h5 ≤ d.h5
 h6 : c.h6 ≤ d.h6
 h7 : c.h7 ≤ d.h7
 h8 : c.h8 ≤ d.h8
 hs : c.hs ≤ d.hs

theorem leC.refl (c : CoD) : leC c c := ⟨rfl, rfl, Int.le_refl _, Int.le_refl _, Int.le_refl _, Int.le_refl _, Int.le_refl _, Int.le_refl _, Int.le_refl _, Int.le_refl _, Int.le_refl _, Int.le_refl _, Int.le_refl _, Int.le_refl _, Int.le_refl _⟩
theorem leC.trans {a b c : CoD} (x : leC a b) (y : leC b c) : leC a c := ⟨y.nm.trans x.nm, y.ro.trans x.ro, Int.le_trans x.c0 y.c0, Int.le_trans x.c1 y.c1, Int.le_trans x.c2 y.c2, Int.le_trans x.h0 y.h0, Int.le_trans x.h1 y.h1, Int.le_trans x.h2 y.h2, Int.le_trans x.h3 y.h3, Int.le_trans x.h4 y.h4, Int.le_trans x.h5 y.h5, Int.le_trans x.h6 y.h6, Int.le_trans x.h7 y.h7, Int.le_trans x.h8 y.h8, Int.le_trans x.hs y.hs⟩

theorem up_ge {a b : Int} (h : heldP a) (hb : 0 ≤ b) : a ≤ upI a b := by
 unfold upI holdI heldP at *; omega
theorem hc_ge {n k v : Int} (h : heldP v) : v ≤ hcI n k v := by
 unfold hcI; split
 ·exact up_ge h (by decide)
 ·exact Int.le_refl _

theorem le_cnt {c : CoD} (h : c.cntP) (i : Int) : leC c (cntC c i) := by
 refine { leC.refl c with nm := rfl, ro := rfl, c0 := ?_, c1 := ?_, c2 := ?_ }
 ·show c.c0 ≤ (if i = 0 then upI c.c0 1 else c.c0); split
  ·exact up_ge h.1 (by decide)
  ·exact Int.le_refl _
 ·show c.c1 ≤ (if i = 1 then upI c.c1 1 else c.c1); split
  ·exact up_ge h.2.1 (by decide)
  ·exact Int.le_refl _
 ·show c.c2 ≤ (if i = 2 then upI c.c2 1 else c.c2); split
  ·exact up_ge h.2.2 (by decide)
  ·exact Int.le_refl _

theorem le_had (c : CoD) (n : Int) : leC c (hadC c n) := by
 unfold hadC
 split
 ·rename_i h
  obtain ⟨⟨a0, a1, a2, a3, a4, a5, a6, a7, a8, as'⟩, hn⟩ := h
  exact ⟨rfl, rfl, Int.le_refl _, Int.le_refl _, Int.le_refl _, hc_ge a0, hc_ge a1, hc_ge a2, hc_ge a3, hc_ge a4, hc_ge a5, hc_ge a6, hc_ge a7, hc_ge a8, up_ge as' hn⟩
 ·exact leC.refl c

theorem cnt_had {c : CoD} (h : c.cntP) (n : Int) : (hadC c n).cntP := by
 obtain ⟨_, _, _, _, _, _, _, _, e0, e1, e2⟩ := hadC_rest c n
 unfold CoD.cntP; rw [e0, e1, e2]; exact h

theorem le_tell {c : CoD} (h : c.cntP) (e : EvD) : leC c (tellC c e) := by
 have r : ∀ d : CoD, d.nm = c.nm → d.ro = c.ro → d.c0 = c.c0 → d.c1 = c.c1 → d.c2 = c.c2 → d.h0 = c.h0 → d.h1 = c.h1 → d.h2 = c.h2 → d.h3 = c.h3 → d.h4 = c.h4 → d.h5 = c.h5 → d.h6 = c.h6 → d.h7 = c.h7 → d.h8 = c.h8 → d.hs = c.hs → leC c d := by
  intro d e1 e2 e3 e4 e5 e6 e7 e8 e9 e10 e11 e12 e13 e14 e15
  exact ⟨e1, e2, Int.le_of_eq e3.symm, Int.le_of_eq e4.symm, Int.le_of_eq e5.symm, Int.le_of_eq e6.symm, Int.le_of_eq e7.symm, Int.le_of_eq e8.symm, Int.le_of_eq e9.symm, Int.le_of_eq e10.symm, Int.le_of_eq e11.symm, Int.le_of_eq e12.symm, Int.le_of_eq e13.symm, Int.le_of_eq e14.symm, Int.le_of_eq e15.symm⟩
 unfold tellC
 split
 ·split
  ·exact r _ rfl rfl rfl rfl rfl rfl rfl rfl rfl rfl rfl rfl rfl rfl rfl
  ·split <;> exact r _ rfl rfl rfl rfl rfl rfl rfl rfl rfl rfl rfl rfl rfl rfl rfl
 split
 ·refine leC.trans (r (winC c e) rfl rfl rfl rfl rfl rfl rfl rfl rfl rfl rfl rfl rfl rfl rfl) (leC.trans (le_had _ e.y) (le_cnt (cnt_had ?_ _) _))
  exact h
 split
 ·split <;> exact r _ rfl rfl rfl rfl rfl rfl rfl rfl rfl rfl rfl rfl rfl rfl rfl
 split
 ·exact leC.trans (r { c with ha := takeH c.rm c.ha e.x } rfl rfl rfl rfl rfl rfl rfl rfl rfl rfl rfl rfl rfl rfl rfl) (le_cnt (by exact h) _)
 split
 ·exact le_cnt h _
 split
 ·exact leC.trans (r { c with ha := putH c.rm c.ha e.x } rfl rfl rfl rfl rfl rfl rfl rfl rfl rfl rfl rfl rfl rfl rfl) (le_cnt (by exact h) _)
 split
 ·exact leC.trans (r { c with mo := e.x, ha := takeH c.rm c.ha 1 } rfl rfl rfl rfl rfl rfl rfl rfl rfl rfl rfl rfl rfl rfl rfl) (le_cnt (by exact h) _)
 split
 ·exact leC.trans (le_had c e.x) (le_cnt (cnt_had h _) _)
 ·exact leC.trans (r { c with mo := 0 } rfl rfl rfl rfl rfl rfl rfl rfl rfl rfl rfl rfl rfl rfl rfl) (le_cnt (by exact h) _)

theorem nm_inj {l : List CoD} (hs : srt CoD.nm l) {c d : CoD} (hc : c ∈ l) (hd : d ∈ l) (e : c.nm = d.nm) : c = d := by
 obtain ⟨i, hi, rfl⟩ := List.getElem_of_mem hc
 obtain ⟨j, hj, rfl⟩ := List.getElem_of_mem hd
 rcases Nat.lt_trichotomy i j with h | h | h
 ·have := List.pairwise_iff_getElem.1 hs i j hi hj h
  rw [e] at this; exact absurd this (nlt_irr _)
 ·subst h; rfl
 ·have := List.pairwise_iff_getElem.1 hs j i hj hi h
  rw [e] at this; exact absurd this (nlt_irr _)

theorem app_le {d : StD} {e : EvD} (h : (appS d e).2 = 0) : ∀ c ∈ d.cs, ∃ c' ∈ (appS d e).1.cs, leC c c' := by
 obtain ⟨hm, ea⟩ := app_zero h
 have m := mayS_zero hm
 have hn := nxt_nm m
 intro c hc
 rw [ea]
 by_cases hk : c.nm = e.c
 ·refine ⟨nxtS d e, mem_withB.2 (.inl rfl), ?_⟩
  by_cases h1 : e.k = 1
  ·exact absurd hk (fAt_none.1 (m.new h1).1 c hc)
  ·obtain ⟨i, hi, e1, e2, _⟩ := m.old h1
   have : c = d.cs[i] := nm_inj m.p.2.2 hc (List.getElem_mem hi) (by rw [hk, e2])
   unfold nxtS
   rw [if_neg h1, e1, getD_at hi, ← this]
   exact le_tell (m.p.2.1 c hc).1.2 e
 ·exact ⟨c, mem_withB.2 (.inr ⟨hc, by rw [hn]; exact hk⟩), leC.refl c⟩

theorem app_has {d : StD} {e : EvD} (h : (appS d e).2 = 0) : ∃ c ∈ (appS d e).1.cs, c.nm = e.c := by
 obtain ⟨hm, ea⟩ := app_zero h
 have m := mayS_zero hm
 rw [ea]
 exact ⟨nxtS d e, mem_withB.2 (.inl rfl), nxt_nm m⟩

theorem role3 {c : CoD} (h : c.P) : c.ro = 1 ∨ c.ro = 2 ∨ c.ro = 3 := by
 have := h.2
 unfold CoD.roleP at this
 split at this
 ·left; assumption
 ·split at this
  ·right; left; assumption
  ·right; right; exact this.1

end Go.Proofs.YtknnooannohflaaDoor.Met

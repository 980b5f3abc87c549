/- Layer 15: what is right stays so; what an event leaves as it was, or makes more. -/
import Derived.Test.YtknnooannohflaaGreatDoorMeD
import Derived.Test.YtknnooannohflaaGreatDoorCmA
import Derived.Test.YtknnooannohflaaGreatDoorMeC
namespace Go.Proofs.YtknnooannohflaaGreatDoor.Met
open Go Go.Px Go.Proofs Cmp Go.Proofs.YtknnooannohflaaGreatDoor.St
set_option maxRecDepth 100000
set_option linter.unusedVariables false

theorem nxt_len {d : StD} {e : EvD} (m : MayS d e) : (withB CoD.nm d.cs (nxtS d e)).length = d.cs.length + (if e.k = 1 then 1 else 0) := by
 have hn := nxt_nm m
 by_cases hk : e.k = 1
 ·rw [if_pos hk, withB_new (by rw [hn]; exact fAt_none.1 (m.new hk).1), len_insB]
 ·rw [if_neg hk]
  obtain ⟨i, hi, h1, h2, h3⟩ := m.old hk
  rw [len_withB_old m.p.2.2 hi (by rw [hn, h2])]; rfl

theorem app_zero {d : StD} {e : EvD} (h : (appS d e).2 = 0) : mayS d e = 0 ∧ appS d e = (⟨withB CoD.nm d.cs (nxtS d e), e.s, e.a⟩, 0) := by
 unfold appS at h ⊢
 by_cases hm : mayS d e = 0
 ·exact ⟨hm, by rw [if_neg (by simp [hm])]⟩
 ·rw [if_pos hm] at h; exact absurd h hm
theorem new_P {nm : ByteArray} {ro a : Int} (h1 : namB nm = true) (h2 : 1 ≤ ro ∧ ro ≤ 3) (h3 : timP a) : (newC nm ro a).1.P := by
 unfold newC
 rw [if_neg (by simp [h1]), if_neg (by omega), if_neg (by simp [h3])]
 have z : heldP 0 := by decide
 have hh : hisP 0 0 0 0 0 0 0 0 0 0 := by decide
 have bk : bktP 10 10 := by decide
 by_cases h : ro = 1
 ·rw [if_pos h]
  have ht := tim_div h3 (w := 10) (by omega)
  have hz : cellsP (zer 4) := cells_zer 4
  have hw : winP 10 (a / 10) (zer 4) := ⟨by decide, ht, by decide, hz⟩
  exact P1 h1 ⟨z, z, z⟩ h ⟨⟨(by decide : (0 : Int) ≤ 0 ∧ (0 : Int) ≤ 2), hw⟩, hh, rfl, rfl⟩
 ·rw [if_neg h]
  by_cases h' : ro = 2
  ·exact P2 h1 ⟨z, z, z⟩ h' ⟨⟨⟨rfl, rfl, rfl, rfl⟩, ⟨rfl, rfl, rfl, rfl, rfl, rfl, rfl, rfl, rfl⟩, rfl⟩, bk⟩
  ·exact P3 h1 ⟨z, z, z⟩ (show ro = 3 by omega) ⟨⟨(by decide : (0 : Int) ≤ 0 ∧ (0 : Int) ≤ 2147483647), rfl, rfl, rfl⟩, hh, bk⟩

theorem nxt_P {d : StD} {e : EvD} (m : MayS d e) : (nxtS d e).P := by
 unfold nxtS
 by_cases hk : e.k = 1
 ·rw [if_pos hk]
  obtain ⟨_, hn, hv, ht, _⟩ := chkE_zero m.chk
  have l1 : lo1 e.k = 1 := by simp [lo1, hk]
  have l2 : hi1 e.k = 3 := by simp [hi1, hk]
  exact new_P (by unfold namB; rw [decide_eq_true hn]) (by omega) ht
 ·rw [if_neg hk]
  obtain ⟨i, hi, h1, h2, h3⟩ := m.old hk
  rw [h1, getD_at hi]
  exact tell_P (may_zero.1 h3)

theorem app_P {d : StD} {e : EvD} (h : (appS d e).2 = 0) : (appS d e).1.P ∧ (appS d e).1.q = d.q + 1 ∧ d.t ≤ (appS d e).1.t := by
 obtain ⟨hm, ea⟩ := app_zero h
 have m := mayS_zero hm
 obtain ⟨_, _, _, ht, hq⟩ := chkE_zero m.chk
 have hl := m.p.1.1
 rw [ea]
 refine ⟨⟨⟨?_, hq.1, hq.2, ht.1, ht.2⟩, fun c hc => ?_, srt_withB m.p.2.2⟩, m.sq, m.tm⟩
 ·show (withB CoD.nm d.cs (nxtS d e)).length ≤ 12
  rw [nxt_len m]
  split
  ·have := (m.new (by assumption)).2; omega
  ·omega
 ·rcases mem_withB.1 hc with rfl | ⟨hc, _⟩
  ·exact nxt_P m
  ·exact m.p.2.1 c hc

structure leC (c d : CoD) : Prop where
 nm : d.nm = c.nm
 ro : d.ro = c.ro
 c0 : c.c0 ≤ d.c0
 c1 : c.c1 ≤ d.c1
 c2 : c.c2 ≤ d.c2
 h0 : c.h0 ≤ d.h0
 h1 : c.h1 ≤ d.h1
 h2 : c.h2 ≤ d.h2
 h3 : c.h3 ≤ d.h3
 h4 : c.h4 ≤ d.h4
 h5 : c.h5 ≤ d.h5
 h6 : c.h6 ≤ d.h6
 h7 : c.h7 ≤ d.h7
 h8 : c.h8 ≤ d.h8
 hs : c.hs ≤ d.hs

theorem leC.refl (c : CoD) : leC c c := ⟨rfl, rfl, Int.le_refl _, Int.le_refl _, Int.le_refl _, Int.le_refl _, Int.le_refl _, Int.le_refl _, Int.le_refl _, Int.le_refl _, Int.le_refl _, Int.le_refl _, Int.le_refl _, Int.le_refl _, Int.le_refl _⟩
theorem leC.trans {a b c : CoD} (x : leC a b) (y : leC b c) : leC a c := ⟨y.nm.trans x.nm, y.ro.trans x.ro, Int.le_trans x.c0 y.c0, Int.le_trans x.c1 y.c1, Int.le_trans x.c2 y.c2, Int.le_trans x.h0 y.h0, Int.le_trans x.h1 y.h1, Int.le_trans x.h2 y.h2, Int.le_trans x.h3 y.h3, Int.le_trans x.h4 y.h4, Int.le_trans x.h5 y.h5, Int.le_trans x.h6 y.h6, Int.le_trans x.h7 y.h7, Int.le_trans x.h8 y.h8, Int.le_trans x.hs y.hs⟩


abbrev fN0 : ByteArray := (bA [102, 117, 115, 101, 98, 111, 120, 95, 98, 117, 99, 107, 101, 116, 95, 114, 111, 111, 109])
abbrev fH0 : ByteArray := (bA [84, 111, 107, 101, 110, 115, 32, 116, 104, 97, 116, 32, 97, 32, 98, 117, 99, 107, 101, 116, 32, 104, 111, 108, 100, 115, 46])
abbrev fN1 : ByteArray := (bA [102, 117, 115, 101, 98, 111, 120, 95, 98, 117, 99, 107, 101, 116, 95, 116, 111, 107, 101, 110, 115])
abbrev fH1 : ByteArray := (bA [84, 111, 107, 101, 110, 115, 32, 116, 104, 97, 116, 32, 97, 32, 98, 117, 99, 107, 101, 116, 32, 104, 97, 115, 46])
abbrev fN2 : ByteArray := (bA [102, 117, 115, 101, 98, 111, 120, 95, 99, 97, 108, 108, 115, 95, 116, 111, 116, 97, 108])
abbrev fH2 : ByteArray := (bA [67, 97, 108, 108, 115, 32, 98, 121, 32, 119, 104, 97, 116, 32, 98, 101, 99, 97, 109, 101, 32, 111, 102, 32, 116, 104, 101, 109, 46])
abbrev fW2_0 : ByteArray := (bA [111, 117, 116, 99, 111, 109, 101])
abbrev fW2_1 : ByteArray := (bA [103, 111, 111, 100])
abbrev fW2_2 : ByteArray := (bA [98, 97, 100])
abbrev fW2_3 : ByteArray := (bA [108, 97, 116, 101])
abbrev fN3 : ByteArray := (bA [102, 117, 115, 101, 98, 111, 120, 95, 99, 111, 109, 112, 111, 110, 101, 110, 116, 115])
abbrev fH3 : ByteArray := (bA [67, 111, 109, 112, 111, 110, 101, 110, 116, 115, 32, 116, 104, 97, 116, 32, 97, 114, 101, 32, 114, 101, 103, 105, 115, 116, 101, 114, 101, 100, 46])
abbrev fN4 : ByteArray := (bA [102, 117, 115, 101, 98, 111, 120, 95, 100, 117, 114, 97, 116, 105, 111, 110])
abbrev fH4 : ByteArray := (bA [84, 105, 99, 107, 115, 32, 116, 104, 97, 116, 32, 99, 97, 108, 108, 115, 32, 97, 110, 100, 32, 98, 97, 99, 107, 111, 102, 102, 115, 32, 116, 111, 111, 107, 46])
abbrev fN5 : ByteArray := (bA [102, 117, 115, 101, 98, 111, 120, 95, 101, 118, 101, 110, 116, 115, 95, 116, 111, 116, 97, 108])
abbrev fH5 : ByteArray := (bA [69, 118, 101, 110, 116, 115, 32, 116, 104, 97, 116, 32, 119, 101, 114, 101, 32, 116, 111, 108, 100, 46])
abbrev fN6 : ByteArray := (bA [102, 117, 115, 101, 98, 111, 120, 95, 108, 97, 115, 116, 95, 116, 105, 109, 101])
abbrev fH6 : ByteArray := (bA [84, 105, 109, 101, 32, 111, 102, 32, 116, 104, 101, 32, 108, 97, 115, 116, 32, 101, 118, 101, 110, 116, 46])
abbrev fN7 : ByteArray := (bA [102, 117, 115, 101, 98, 111, 120, 95, 108, 105, 109, 105, 116, 101, 100, 95, 116, 111, 116, 97, 108])
abbrev fH7 : ByteArray := (bA [68, 101, 99, 105, 115, 105, 111, 110, 115, 32, 111, 102, 32, 108, 105, 109, 105, 116, 101, 114, 115, 46])
abbrev fW7_0 : ByteArray := (bA [100, 101, 99, 105, 115, 105, 111, 110])
abbrev fW7_1 : ByteArray := (bA [97, 100, 109, 105, 116])
abbrev fW7_2 : ByteArray := (bA [114, 101, 106, 101, 99, 116])
abbrev fW7_3 : ByteArray := (bA [114, 101, 102, 105, 108, 108])
abbrev fN8 : ByteArray := (bA [102, 117, 115, 101, 98, 111, 120, 95, 109, 111, 100, 101])
abbrev fH8 : ByteArray := (bA [77, 111, 100, 101, 32, 111, 102, 32, 97, 32, 98, 114, 101, 97, 107, 101, 114, 44, 32, 111, 114, 32, 116, 104, 101, 32, 108, 97, 115, 116, 32, 97, 116, 116, 101, 109, 112, 116, 32, 111, 102, 32, 97, 32, 114, 101, 116, 114, 105, 101, 114, 46])
abbrev fN9 : ByteArray := (bA [102, 117, 115, 101, 98, 111, 120, 95, 114, 101, 116, 114, 105, 101, 115, 95, 116, 111, 116, 97, 108])
abbrev fH9 : ByteArray := (bA [83, 116, 101, 112, 115, 32, 111, 102, 32, 114, 101, 116, 114, 105, 101, 114, 115, 46])
abbrev fW9_0 : ByteArray := (bA [115, 116, 101, 112])
abbrev fW9_1 : ByteArray := (bA [97, 116, 116, 101, 109, 112, 116])
abbrev fW9_2 : ByteArray := (bA [98, 97, 99, 107, 111, 102, 102])
abbrev fW9_3 : ByteArray := (bA [103, 105, 118, 101, 117, 112])
abbrev fN10 : ByteArray := (bA [102, 117, 115, 101, 98, 111, 120, 95, 119, 105, 110, 100, 111, 119, 95, 112, 97, 114, 116])
abbrev fH10 : ByteArray := (bA [84, 104, 111, 117, 115, 97, 110, 100, 116, 104, 115, 32, 111, 102, 32, 108, 97, 116, 101, 32, 99, 97, 108, 108, 115, 32, 116, 104, 97, 116, 32, 119, 101, 110, 116, 32, 119, 114, 111, 110, 103, 46])
def singleF (n hp : ByteArray) (k x : Int) : FaD := ⟨n, hp, k, [⟨n, [], x⟩]⟩
def allF (d : StD) : List FaD := [gaugeF fN0 fH0 d.cs [2, 3] CoD.rm,
 gaugeF fN1 fH1 d.cs [2, 3] CoD.ha,
 counterF fN2 fH2 d.cs 1 fW2_0 fW2_1 fW2_2 fW2_3,
 singleF fN3 fH3 2 (d.cs.length : Nat),
 histF fN4 fH4 d.cs [1, 3],
 singleF fN5 fH5 1 d.q,
 singleF fN6 fH6 2 d.t,
 counterF fN7 fH7 d.cs 2 fW7_0 fW7_1 fW7_2 fW7_3,
 gaugeF fN8 fH8 d.cs [1, 3] CoD.mo,
 counterF fN9 fH9 d.cs 3 fW9_0 fW9_1 fW9_2 fW9_3,
 gaugeF fN10 fH10 d.cs [1] (fun c => partI c.wd c.sl c.cl)]
def famsOf (d : StD) : List FaD := (allF d).filter fun f => decide (0 < f.ss.length)
def nms : List ByteArray := [fN0, fN1, fN2, fN3, fN4, fN5, fN6, fN7, fN8, fN9, fN10]
theorem nms_eq (d : StD) : (allF d).map FaD.nm = nms := rfl
theorem nms_nodup : nms.Nodup := by decide +kernel
theorem allF_len (d : StD) : (allF d).length = 11 := rfl

structure leF (f g : FaD) : Prop where
 nm : f.nm = g.nm
 ty : f.ty = g.ty
 ne : 0 < f.ss.length → 0 < g.ss.length
 mono : f.ty ≠ 2 → ∀ x ∈ f.ss, ∃ y ∈ g.ss, x.nm = y.nm ∧ x.ls = y.ls ∧ x.v ≤ y.v

theorem mem_ofR {cs : List CoD} {roles : List Int} {c : CoD} : c ∈ ofR cs roles ↔ c ∈ cs ∧ c.ro ∈ roles := by
 simp only [ofR, ofC, List.mem_flatMap]
 constructor
 ·rintro ⟨a, ha, r, hr, h⟩
  split at h
  ·simp at h; subst h; rename_i e; exact ⟨ha, by rw [e]; exact hr⟩
  ·simp at h
 ·rintro ⟨h1, h2⟩
  exact ⟨c, h1, c.ro, h2, by simp⟩

section
variable {cs cs' : List CoD} (H : ∀ c ∈ cs, ∃ c' ∈ cs', leC c c')
include H
end

theorem allF_nm (d : StD) (i : Nat) (h : i < 11) : ((allF d)[i]'h).nm = nms[i]'h := by
 have := nms_eq d
 have h2 : ((allF d).map FaD.nm)[i]'(by rw [List.length_map]; exact h) = nms[i]'h := by congr 1
 rw [← h2, List.getElem_map]
 rfl

theorem nms_inj {i j : Nat} (hi : i < 11) (hj : j < 11) (h : nms[i]'hi = nms[j]'hj) : i = j := by
 rcases Nat.lt_trichotomy i j with k | k | k
 ·exact absurd h (List.pairwise_iff_getElem.1 nms_nodup i j hi hj k)
 ·exact k
 ·exact absurd h.symm (List.pairwise_iff_getElem.1 nms_nodup j i hj hi k)

theorem mem_fams {d : StD} {f : FaD} (h : f ∈ famsOf d) : ∃ i, ∃ hi : i < 11, f = (allF d)[i]'hi ∧ 0 < f.ss.length := by
 obtain ⟨h1, h2⟩ := List.mem_filter.1 h
 obtain ⟨i, hi, e⟩ := List.getElem_of_mem h1
 exact ⟨i, hi, e.symm, of_decide_eq_true h2⟩
theorem fams_mem {d : StD} {i : Nat} (hi : i < 11) (h : 0 < ((allF d)[i]'hi).ss.length) : (allF d)[i]'hi ∈ famsOf d :=
 List.mem_filter.2 ⟨List.getElem_mem _, decide_eq_true h⟩

def tellsB (s : ByteArray) (x : SmD) : Bool := match x.ls with
 | p :: _ => decide (p.2 = s)
 | [] => false


def flOf (d : StD) : List FaD := if d.P then famsOf d else []
def fcOf (d : StD) : Int := if d.P then 0 else 1
def ofRes (d : StD) : List SV := [SL 4 (faR (flOf d)), I (fcOf d)]

def fit (f : FaD) : Prop := f.ss.length ≤ 22000 ∧ ∀ x ∈ f.ss, x.ls.length ≤ 2
theorem fit_flat (n hp : ByteArray) (ty : Int) (cs : List CoD) (roles : List Int) (g : CoD → List SmD) (hl : cs.length ≤ 1000) (hr : roles.length ≤ 2) (hg : ∀ c, (g c).length ≤ 11 ∧ ∀ x ∈ g c, x.ls.length ≤ 2) :
  fit ⟨n, hp, ty, (ofR cs roles).flatMap g⟩ := by
 have hb : (ofR cs roles).length ≤ 2000 := Nat.le_trans (ofR_len cs roles) (Nat.le_trans (Nat.mul_le_mul hl hr) (by decide))
 constructor
 ·exact Nat.le_trans (flat_len _ _ 11 fun c _ => (hg c).1) (by omega)
 ·intro x hx
  obtain ⟨c, _, hx⟩ := List.mem_flatMap.1 hx
  exact (hg c).2 x hx
theorem fit_gauge (n hp : ByteArray) (cs : List CoD) (roles : List Int) (f : CoD → Int) (hl : cs.length ≤ 1000) (hr : roles.length ≤ 2) : fit (gaugeF n hp cs roles f) := by
 have hb : (ofR cs roles).length ≤ 2000 := Nat.le_trans (ofR_len cs roles) (Nat.le_trans (Nat.mul_le_mul hl hr) (by decide))
 constructor
 ·show ((ofR cs roles).map _).length ≤ 22000
  rw [List.length_map]; omega
 ·intro x hx
  obtain ⟨c, _, rfl⟩ := List.mem_map.1 hx
  simp [labs]
theorem fit_cnt (n lb v0 v1 v2 : ByteArray) (c : CoD) : (cnt3 n lb v0 v1 v2 c).length ≤ 11 ∧ ∀ x ∈ cnt3 n lb v0 v1 v2 c, x.ls.length ≤ 2 := by
 constructor
 ·simp [cnt3]
 ·intro x hx
  simp only [cnt3, List.mem_cons, List.not_mem_nil, or_false] at hx
  rcases hx with rfl | rfl | rfl <;> simp [labs]
theorem fit_hst (n : ByteArray) (c : CoD) : (hst11 n c).length ≤ 11 ∧ ∀ x ∈ hst11 n c, x.ls.length ≤ 2 := by
 constructor
 ·simp [hst11, bkt9, tot2]
 ·intro x hx
  simp only [hst11, bkt9, tot2, List.cons_append, List.nil_append, List.mem_cons, List.not_mem_nil, or_false] at hx
  rcases hx with rfl | rfl | rfl | rfl | rfl | rfl | rfl | rfl | rfl | rfl | rfl <;> simp [labs]
theorem fit_single (n hp : ByteArray) (k x : Int) : fit (singleF n hp k x) := ⟨by simp [singleF], fun y hy => by simp [singleF] at hy; subst hy; simp⟩
theorem allF_fit {d : StD} (hl : d.cs.length ≤ 1000) : ∀ f ∈ allF d, fit f := by
 intro f hf
 simp only [allF, List.mem_cons, List.not_mem_nil, or_false] at hf
 rcases hf with rfl | rfl | rfl | rfl | rfl | rfl | rfl | rfl | rfl | rfl | rfl
 ·exact fit_gauge _ _ _ _ _ hl (by decide)
 ·exact fit_gauge _ _ _ _ _ hl (by decide)
 ·exact fit_flat _ _ _ _ _ _ hl (by decide) (fit_cnt _ _ _ _ _)
 ·exact fit_single _ _ _ _
 ·exact fit_flat _ _ _ _ _ _ hl (by decide) (fit_hst _)
 ·exact fit_single _ _ _ _
 ·exact fit_single _ _ _ _
 ·exact fit_flat _ _ _ _ _ _ hl (by decide) (fit_cnt _ _ _ _ _)
 ·exact fit_gauge _ _ _ _ _ hl (by decide)
 ·exact fit_flat _ _ _ _ _ _ hl (by decide) (fit_cnt _ _ _ _ _)
 ·exact fit_gauge _ _ _ _ _ hl (by decide)
theorem fams_fit {d : StD} (hl : d.cs.length ≤ 1000) : ∀ f ∈ famsOf d, fit f := fun f hf => allF_fit hl f (List.mem_filter.1 hf).1
theorem fams_len (d : StD) : (famsOf d).length ≤ 11 := Nat.le_trans (List.length_filter_le _ _) (by rw [allF_len]; decide)
theorem fit_ok {f : FaD} (h : fit f) : f.ok := ⟨Nat.le_trans h.1 (by decide), fun x hx => Nat.le_trans (h.2 x hx) (by decide)⟩

def goodB (x y : SmD) : Bool := decide (x.nm = y.nm ∧ x.ls = y.ls ∧ x.v ≤ y.v)

end Go.Proofs.YtknnooannohflaaGreatDoor.Met

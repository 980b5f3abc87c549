/- Layer 26: the families of a state that is right are right; they tell the state's numbers. -/
import Derived.Test.YtknnooannohflaaGreatDoorMzG
import Derived.Test.YtknnooannohflaaGreatDoorMetS
import Derived.Test.YtknnooannohflaaGreatDoorMzN
namespace Go.Proofs.YtknnooannohflaaGreatDoor.Met
open Go Go.Px Go.Proofs Cmp Go.Proofs.YtknnooannohflaaGreatDoor.St
set_option maxRecDepth 100000
set_option linter.unusedVariables false

/- Right. -/

theorem namP_com : namP comN := by decide +kernel
theorem lab1 {c : CoD} (h : c.nm.size ≤ 200) : labP (labs c []) := by
 refine ⟨by simp [labs], fun k hk hl => ?_⟩
 have : k = 0 := by simp [labs] at hk; omega
 subst this
 exact ⟨namP_com, h, rfl⟩
theorem lab2 {c : CoD} {lb v : ByteArray} (h : c.nm.size ≤ 200) (hb : namP lb) (hv : v.size ≤ 200) (hne : ¬ comN = lb) : labP (labs c [(lb, v)]) := by
 refine ⟨by simp [labs], fun k hk hl => ?_⟩
 have hk : k < 2 := by simpa [labs] using hk
 match k, hk with
 | 0, _ => exact ⟨namP_com, h, rfl⟩
 | 1, _ => exact ⟨hb, hv, by simp [labs, hasB, hne]⟩
theorem nole1 (c : CoD) : hasB (labs c []) leN = false := by simp [labs, hasB]
theorem nole2 (c : CoD) {lb v : ByteArray} (h : ¬ lb = leN) : hasB (labs c [(lb, v)]) leN = false := by simp [labs, hasB, h]

theorem ofR_len2 {d : StD} (hp : d.P) {roles : List Int} (hr : roles.length ≤ 2) : (ofR d.cs roles).length ≤ 24 := by
 have h1 := ofR_len d.cs roles
 have h2 : d.cs.length ≤ 12 := hp.1.1
 have := Nat.mul_le_mul h2 hr
 omega

theorem gauge_famP {d : StD} (hp : d.P) (hs : d.short) (n hl : ByteArray) (roles : List Int) (f : CoD → Int) (hr : roles.length ≤ 2) (hn : namP n) (hh : hl.size ≤ 200) (h0 : 0 < (gaugeF n hl d.cs roles f).ss.length) : famP (gaugeF n hl d.cs roles f) := by
 have hb := ofR_len2 hp hr
 have hl2 : (gaugeF n hl d.cs roles f).ss.length = (ofR d.cs roles).length := by simp [gaugeF]
 refine ⟨⟨hn, hh, ⟨by show (1 : Int) ≤ 2; decide, by show (2 : Int) ≤ 3; decide⟩, h0, by omega⟩, fun x hx => ?_, ?_⟩
 ·obtain ⟨c, hc, rfl⟩ := List.mem_map.1 hx
  exact lab1 (Nat.le_trans (hs.1 c (mem_ofR.1 hc).1).1 (by decide))
 ·rw [if_neg (show ¬ (gaugeF n hl d.cs roles f).ty = 3 by show ¬ (2 : Int) = 3; decide)]
  intro x hx
  obtain ⟨c, hc, rfl⟩ := List.mem_map.1 hx
  exact ⟨rfl, nole1 c⟩

theorem counter_famP {d : StD} (hp : d.P) (hs : d.short) (n hl : ByteArray) (role : Int) (lb v0 v1 v2 : ByteArray) (hn : namP n) (hh : hl.size ≤ 200) (hb : namP lb) (hne : ¬ comN = lb) (hle : ¬ lb = leN) (hv : v0.size ≤ 200 ∧ v1.size ≤ 200 ∧ v2.size ≤ 200)
  (h0 : 0 < (counterF n hl d.cs role lb v0 v1 v2).ss.length) : famP (counterF n hl d.cs role lb v0 v1 v2) := by
 have hb1 := ofR_len2 hp (roles := [role]) (by simp)
 have hl2 : (counterF n hl d.cs role lb v0 v1 v2).ss.length ≤ (ofR d.cs [role]).length * 3 := flat_len _ _ 3 fun c _ => by simp [cnt3]
 refine ⟨⟨hn, hh, ⟨by show (1 : Int) ≤ 1; decide, by show (1 : Int) ≤ 3; decide⟩, h0, by omega⟩, fun x hx => ?_, ?_⟩
 ·obtain ⟨c, hc, hx⟩ := List.mem_flatMap.1 hx
  have hc := Nat.le_trans (hs.1 c (mem_ofR.1 hc).1).1 (by decide : 100 ≤ 200)
  simp only [cnt3, List.mem_cons, List.not_mem_nil, or_false] at hx
  rcases hx with rfl | rfl | rfl
  ·exact lab2 hc hb hv.1 hne
  ·exact lab2 hc hb hv.2.1 hne
  ·exact lab2 hc hb hv.2.2 hne
 ·rw [if_neg (show ¬ (counterF n hl d.cs role lb v0 v1 v2).ty = 3 by show ¬ (1 : Int) = 3; decide)]
  intro x hx
  obtain ⟨c, hc, hx⟩ := List.mem_flatMap.1 hx
  simp only [cnt3, List.mem_cons, List.not_mem_nil, or_false] at hx
  rcases hx with rfl | rfl | rfl <;> exact ⟨rfl, nole2 c hle⟩

theorem flat11 {β : Type} (g : β → List SmD) (hg : ∀ b, (g b).length = 11) : ∀ (l : List β) (k : Nat) (h : k < l.length), grpS (l.flatMap g) k = g l[k]
 | [], k, h => absurd h (by simp)
 | b :: l, 0, _ => by
  unfold grpS
  rw [List.flatMap_cons, Nat.mul_zero, List.drop_zero]
  exact List.take_left' (hg b)
 | b :: l, k + 1, h => by
  have := flat11 g hg l k (by simpa using h)
  unfold grpS at this ⊢
  rw [List.flatMap_cons, show 11 * (k + 1) = 11 + 11 * k by omega, ← List.drop_drop, List.drop_left' (hg b)]
  exact this
theorem flat11_len {β : Type} (g : β → List SmD) (hg : ∀ b, (g b).length = 11) : ∀ (l : List β), (l.flatMap g).length = 11 * l.length
 | [] => rfl
 | b :: l => by rw [List.flatMap_cons, List.length_append, hg b, flat11_len g hg l, List.length_cons]; omega
theorem hst_len (n : ByteArray) (c : CoD) : (hst11 n c).length = 11 := rfl

theorem hst_grp (n : ByteArray) (c : CoD) (hc : c.his) : grpP n (hst11 n c) := by
 obtain ⟨a0, a1, a2, a3, a4, a5, a6, a7, a8, _⟩ := hc
 have b0 := heldB a0; have b1 := heldB a1; have b2 := heldB a2; have b3 := heldB a3; have b4 := heldB a4; have b5 := heldB a5; have b6 := heldB a6; have b7 := heldB a7; have b8 := heldB a8
 refine ⟨rfl, fun i hi => ?_, nole1 c, rfl, rfl, rfl, rfl⟩
 match i, hi with
 | 0, _ => exact ⟨rfl, rfl, by show (0 : Int) ≤ pre1 c.h0; unfold pre1; omega⟩
 | 1, _ => exact ⟨rfl, rfl, by show pre1 c.h0 ≤ pre2 c.h0 c.h1; unfold pre1 pre2; omega⟩
 | 2, _ => exact ⟨rfl, rfl, by show pre2 c.h0 c.h1 ≤ pre3 c.h0 c.h1 c.h2; unfold pre2 pre3; omega⟩
 | 3, _ => exact ⟨rfl, rfl, by show pre3 c.h0 c.h1 c.h2 ≤ pre4 c.h0 c.h1 c.h2 c.h3; unfold pre3 pre4; omega⟩
 | 4, _ => exact ⟨rfl, rfl, by show pre4 c.h0 c.h1 c.h2 c.h3 ≤ pre5 c.h0 c.h1 c.h2 c.h3 c.h4; unfold pre4 pre5; omega⟩
 | 5, _ => exact ⟨rfl, rfl, by show pre5 c.h0 c.h1 c.h2 c.h3 c.h4 ≤ pre6 c.h0 c.h1 c.h2 c.h3 c.h4 c.h5; unfold pre5 pre6; omega⟩
 | 6, _ => exact ⟨rfl, rfl, by show pre6 c.h0 c.h1 c.h2 c.h3 c.h4 c.h5 ≤ pre7 c.h0 c.h1 c.h2 c.h3 c.h4 c.h5 c.h6; unfold pre6 pre7; omega⟩
 | 7, _ => exact ⟨rfl, rfl, by show pre7 c.h0 c.h1 c.h2 c.h3 c.h4 c.h5 c.h6 ≤ pre8 c.h0 c.h1 c.h2 c.h3 c.h4 c.h5 c.h6 c.h7; unfold pre7 pre8; omega⟩
 | 8, _ => exact ⟨rfl, rfl, by show pre8 c.h0 c.h1 c.h2 c.h3 c.h4 c.h5 c.h6 c.h7 ≤ pre9 c.h0 c.h1 c.h2 c.h3 c.h4 c.h5 c.h6 c.h7 c.h8; unfold pre8 pre9; omega⟩

theorem hist_famP {d : StD} (hp : d.P) (hs : d.short) (n hl : ByteArray) (roles : List Int) (hr : roles.length ≤ 2) (hro : ∀ r ∈ roles, r = 1 ∨ r = 3) (hn : namP n) (hh : hl.size ≤ 200) (h0 : 0 < (histF n hl d.cs roles).ss.length) : famP (histF n hl d.cs roles) := by
 have hb := ofR_len2 hp hr
 have hl2 := flat11_len (hst11 n) (hst_len n) (ofR d.cs roles)
 have hl3 : (histF n hl d.cs roles).ss.length = 11 * (ofR d.cs roles).length := hl2
 refine ⟨⟨hn, hh, ⟨by show (1 : Int) ≤ 3; decide, by show (3 : Int) ≤ 3; decide⟩, h0, by omega⟩, fun x hx => ?_, ?_⟩
 ·obtain ⟨c, hc, hx⟩ := List.mem_flatMap.1 hx
  have hc := Nat.le_trans (hs.1 c (mem_ofR.1 hc).1).1 (by decide : 100 ≤ 200)
  have l2 : ∀ v : ByteArray, v.size ≤ 200 → labP (labs c [(leN, v)]) := fun v hv => lab2 hc (by decide +kernel) hv (by decide)
  simp only [hst11, bkt9, tot2, List.cons_append, List.nil_append, List.mem_cons, List.not_mem_nil, or_false] at hx
  rcases hx with rfl | rfl | rfl | rfl | rfl | rfl | rfl | rfl | rfl | rfl | rfl
  iterate 9 exact l2 _ (by decide)
  iterate 2 exact lab1 hc
 ·rw [if_pos (show (histF n hl d.cs roles).ty = 3 from rfl)]
  intro k hk
  rw [hl3] at hk
  have hk2 : k < (ofR d.cs roles).length := by omega
  have e := flat11 (hst11 n) (hst_len n) (ofR d.cs roles) k hk2
  have hm := mem_ofR.1 (List.getElem_mem hk2)
  show grpP n (grpS ((ofR d.cs roles).flatMap (hst11 n)) k)
  rw [e]
  refine hst_grp n _ (his_of (hp.2.1 _ hm.1) ?_)
  rcases hro _ hm.2 with h | h <;> simp [h]

theorem single_famP (n hl : ByteArray) (k x : Int) (hn : namP n) (hh : hl.size ≤ 200) (hk : k = 1 ∨ k = 2) : famP (singleF n hl k x) := by
 refine ⟨⟨hn, hh, ?_, by simp [singleF], by simp [singleF]⟩, fun y hy => ?_, ?_⟩
 ·show 1 ≤ k ∧ k ≤ 3; omega
 ·simp [singleF] at hy; subst hy; exact ⟨by simp, fun k hk => by simp at hk⟩
 ·rw [if_neg (show ¬ (singleF n hl k x).ty = 3 by show ¬ k = 3; omega)]
  intro y hy
  simp [singleF] at hy; subst hy
  exact ⟨rfl, rfl⟩

theorem fam_right {d : StD} (hp : d.P) (hs : d.short) : ∀ f ∈ famsOf d, famP f := by
 intro f hf
 obtain ⟨i, hi, rfl, h0⟩ := mem_fams hf
 match i, hi with
 | 0, _ => exact gauge_famP hp hs _ _ _ _ (by decide) (by decide +kernel) (by decide) h0
 | 1, _ => exact gauge_famP hp hs _ _ _ _ (by decide) (by decide +kernel) (by decide) h0
 | 2, _ => exact counter_famP hp hs _ _ _ _ _ _ _ (by decide +kernel) (by decide) (by decide +kernel) (by decide) (by decide) (by decide) h0
 | 3, _ => exact single_famP _ _ _ _ (by decide +kernel) (by decide) (by decide)
 | 4, _ => exact hist_famP hp hs _ _ _ (by decide) (by decide) (by decide +kernel) (by decide) h0
 | 5, _ => exact single_famP _ _ _ _ (by decide +kernel) (by decide) (by decide)
 | 6, _ => exact single_famP _ _ _ _ (by decide +kernel) (by decide) (by decide)
 | 7, _ => exact counter_famP hp hs _ _ _ _ _ _ _ (by decide +kernel) (by decide) (by decide +kernel) (by decide) (by decide) (by decide) h0
 | 8, _ => exact gauge_famP hp hs _ _ _ _ (by decide) (by decide +kernel) (by decide) h0
 | 9, _ => exact counter_famP hp hs _ _ _ _ _ _ _ (by decide +kernel) (by decide) (by decide +kernel) (by decide) (by decide) (by decide) h0
 | 10, _ => exact gauge_famP hp hs _ _ _ _ (by decide) (by decide +kernel) (by decide) h0

theorem nms_grow : ∀ i j : Nat, ∀ hi : i < 11, ∀ hj : j < 11, i < j → sge (nms[i]'hi) (nms[j]'hj) = false := by
 have h : ∀ i j : Fin 11, i.1 < j.1 → sge (nms[i.1]'i.2) (nms[j.1]'j.2) = false := by decide +kernel
 exact fun i j hi hj h1 => h ⟨i, hi⟩ ⟨j, hj⟩ h1

theorem fams_pw (d : StD) : (famsOf d).Pairwise fun f g => sge f.nm g.nm = false := by
 unfold famsOf
 refine List.Pairwise.sublist List.filter_sublist ?_
 rw [List.pairwise_iff_getElem]
 intro i j hi hj h
 rw [allF_nm d i hi, allF_nm d j hj]
 exact nms_grow i j hi hj h

theorem fams_all {d : StD} (hp : d.P) (hs : d.short) : allP (famsOf d) := by
 refine ⟨Nat.le_trans (fams_len d) (by decide), fun k hk hl => ⟨fam_right hp hs _ (List.getElem_mem hl), fun h0 => ?_⟩⟩
 exact List.pairwise_iff_getElem.1 (fams_pw d) (k - 1) k (by omega) hl (by omega)

/- What the families tell. -/

variable {a b : StD}

theorem ss_eq (h : famsOf a = famsOf b) (i : Nat) (hi : i < 11) : ((allF a)[i]'hi).ss = ((allF b)[i]'hi).ss := by
 have one : ∀ {a b : StD}, famsOf a = famsOf b → 0 < ((allF a)[i]'hi).ss.length → ((allF a)[i]'hi).ss = ((allF b)[i]'hi).ss := by
  intro a b h h0
  have hm := fams_mem hi h0
  rw [h] at hm
  obtain ⟨j, hj, e, _⟩ := mem_fams hm
  have := congrArg FaD.nm e
  rw [allF_nm a i hi, allF_nm b j hj] at this
  obtain rfl := nms_inj hi hj this
  rw [e]
 by_cases h1 : 0 < ((allF a)[i]'hi).ss.length
 ·exact one h h1
 ·by_cases h2 : 0 < ((allF b)[i]'hi).ss.length
  ·exact (one h.symm h2).symm
  ·have e1 : ((allF a)[i]'hi).ss = [] := List.length_eq_zero_iff.1 (by omega)
   have e2 : ((allF b)[i]'hi).ss = [] := List.length_eq_zero_iff.1 (by omega)
   rw [e1, e2]

theorem labs_inj {c c' : CoD} {m m' : List LaD} (h : labs c m = labs c' m') : c.nm = c'.nm ∧ m = m' := by
 unfold labs at h
 simp only [List.cons.injEq, Prod.mk.injEq] at h
 exact ⟨h.1.2, h.2⟩

theorem gauge_tells {n hl : ByteArray} {roles : List Int} {f : CoD → Int} (h : (gaugeF n hl a.cs roles f).ss = (gaugeF n hl b.cs roles f).ss) {c : CoD} (hc : c ∈ a.cs) (hr : c.ro ∈ roles) : ∃ c' ∈ b.cs, c'.ro ∈ roles ∧ c'.nm = c.nm ∧ f c' = f c := by
 have hm : (⟨n, labs c [], f c⟩ : SmD) ∈ (gaugeF n hl a.cs roles f).ss := List.mem_map.2 ⟨c, mem_ofR.2 ⟨hc, hr⟩, rfl⟩
 rw [h] at hm
 obtain ⟨c', hc', e⟩ := List.mem_map.1 hm
 simp only [SmD.mk.injEq, true_and] at e
 exact ⟨c', (mem_ofR.1 hc').1, (mem_ofR.1 hc').2, (labs_inj e.1).1, e.2⟩

theorem flat_tells {g : CoD → List SmD} {roles : List Int} (h : (ofR a.cs roles).flatMap g = (ofR b.cs roles).flatMap g) {c : CoD} (hc : c ∈ a.cs) (hr : c.ro ∈ roles) {x : SmD} (hx : x ∈ g c) : ∃ c' ∈ b.cs, c'.ro ∈ roles ∧ x ∈ g c' := by
 have hm : x ∈ (ofR a.cs roles).flatMap g := List.mem_flatMap.2 ⟨c, mem_ofR.2 ⟨hc, hr⟩, hx⟩
 rw [h] at hm
 obtain ⟨c', hc', e⟩ := List.mem_flatMap.1 hm
 exact ⟨c', (mem_ofR.1 hc').1, (mem_ofR.1 hc').2, e⟩

theorem cnt_tells {n lb v0 v1 v2 : ByteArray} (h01 : v0 ≠ v1) (h02 : v0 ≠ v2) (h12 : v1 ≠ v2) {role : Int} (hb : b.P) (h : (ofR a.cs [role]).flatMap (cnt3 n lb v0 v1 v2) = (ofR b.cs [role]).flatMap (cnt3 n lb v0 v1 v2)) {c : CoD} (hc : c ∈ a.cs) (hr : c.ro = role) :
  ∃ c' ∈ b.cs, c'.ro = role ∧ c'.nm = c.nm ∧ c'.c0 = c.c0 ∧ c'.c1 = c.c1 ∧ c'.c2 = c.c2 := by
 have hr' : c.ro ∈ [role] := by simp [hr]
 have get : ∀ {v : ByteArray} {z : Int}, (⟨n, labs c [(lb, v)], z⟩ : SmD) ∈ cnt3 n lb v0 v1 v2 c → ∃ c' ∈ b.cs, c'.ro = role ∧ c'.nm = c.nm ∧ ((v = v0 ∧ z = c'.c0) ∨ (v = v1 ∧ z = c'.c1) ∨ (v = v2 ∧ z = c'.c2)) := by
  intro v z hx
  obtain ⟨c', h1, h2, h3⟩ := flat_tells h hc hr' hx
  refine ⟨c', h1, by simpa using h2, ?_⟩
  simp only [cnt3, List.mem_cons, List.not_mem_nil, or_false, SmD.mk.injEq, true_and] at h3
  rcases h3 with ⟨e, f⟩ | ⟨e, f⟩ | ⟨e, f⟩ <;> obtain ⟨e1, e2⟩ := labs_inj e <;> simp only [List.cons.injEq, Prod.mk.injEq, true_and, and_true] at e2
  ·exact ⟨e1.symm, .inl ⟨e2, f⟩⟩
  ·exact ⟨e1.symm, .inr (.inl ⟨e2, f⟩)⟩
  ·exact ⟨e1.symm, .inr (.inr ⟨e2, f⟩)⟩
 obtain ⟨p, p1, p2, p3, p4⟩ := get (v := v0) (z := c.c0) (by simp [cnt3])
 obtain ⟨q, q1, q2, q3, q4⟩ := get (v := v1) (z := c.c1) (by simp [cnt3])
 obtain ⟨r, r1, r2, r3, r4⟩ := get (v := v2) (z := c.c2) (by simp [cnt3])
 obtain rfl : p = q := srt_mem (nm := CoD.nm) hb.2.2 p1 q1 (p3.trans q3.symm)
 obtain rfl : p = r := srt_mem (nm := CoD.nm) hb.2.2 p1 r1 (p3.trans r3.symm)
 refine ⟨p, p1, p2, p3, ?_, ?_, ?_⟩
 ·rcases p4 with ⟨_, e⟩ | ⟨e, _⟩ | ⟨e, _⟩
  ·exact e.symm
  ·exact absurd e h01
  ·exact absurd e h02
 ·rcases q4 with ⟨e, _⟩ | ⟨_, e⟩ | ⟨e, _⟩
  ·exact absurd e.symm h01
  ·exact e.symm
  ·exact absurd e h12
 ·rcases r4 with ⟨e, _⟩ | ⟨e, _⟩ | ⟨_, e⟩
  ·exact absurd e.symm h02
  ·exact absurd e.symm h12
  ·exact e.symm

theorem pq (n : ByteArray) {x y : ByteArray} (h : n ++ x = n ++ y) : x = y := by
 have := congrArg ByteArray.data h
 simp only [ByteArray.data_append] at this
 exact ByteArray.ext (Array.append_right_inj _ |>.1 this)

theorem hist_tells {n : ByteArray} {roles : List Int} (hb : b.P) (h : (ofR a.cs roles).flatMap (hst11 n) = (ofR b.cs roles).flatMap (hst11 n)) {c : CoD} (hc : c ∈ a.cs) (hr : c.ro ∈ roles) :
  ∃ c' ∈ b.cs, c'.nm = c.nm ∧ (c'.h0 = c.h0 ∧ c'.h1 = c.h1 ∧ c'.h2 = c.h2 ∧ c'.h3 = c.h3 ∧ c'.h4 = c.h4 ∧ c'.h5 = c.h5 ∧ c'.h6 = c.h6 ∧ c'.h7 = c.h7 ∧ c'.h8 = c.h8) ∧ c'.hs = c.hs := by
 have nb : ∀ x y : ByteArray, x ≠ y → ¬ n ++ x = n ++ y := fun x y h e => h (pq n e)
 have get : ∀ {v : ByteArray} {z : Int}, (⟨n ++ bucN, labs c [(leN, v)], z⟩ : SmD) ∈ hst11 n c → ∃ c' ∈ b.cs, c'.nm = c.nm ∧ ((v = bo0 ∧ z = (pre1 c'.h0)) ∨ (v = bo1 ∧ z = (pre2 c'.h0 c'.h1)) ∨ (v = bo2 ∧ z = (pre3 c'.h0 c'.h1 c'.h2)) ∨ (v = bo3 ∧ z = (pre4 c'.h0 c'.h1 c'.h2 c'.h3)) ∨ (v = bo4 ∧ z = (pre5 c'.h0 c'.h1 c'.h2 c'.h3 c'.h4)) ∨ (v = bo5 ∧ z = (pre6 c'.h0 c'.h1 c'.h2 c'.h3 c'.h4 c'.h5)) ∨ (v = bo6 ∧ z = (pre7 c'.h0 c'.h1 c'.h2 c'.h3 c'.h4 c'.h5 c'.h6)) ∨ (v = bo7 ∧ z = (pre8 c'.h0 c'.h1 c'.h2 c'.h3 c'.h4 c'.h5 c'.h6 c'.h7)) ∨ (v = bo8 ∧ z = (pre9 c'.h0 c'.h1 c'.h2 c'.h3 c'.h4 c'.h5 c'.h6 c'.h7 c'.h8))) := by
  intro v z hx
  obtain ⟨c', h1, _, h3⟩ := flat_tells h hc hr hx
  refine ⟨c', h1, ?_⟩
  simp only [hst11, bkt9, tot2, List.cons_append, List.nil_append, List.mem_cons, List.not_mem_nil, or_false, SmD.mk.injEq, true_and, nb bucN sumN (by decide), nb bucN couN (by decide), false_and, or_false] at h3
  rcases h3 with ⟨e, f⟩ | ⟨e, f⟩ | ⟨e, f⟩ | ⟨e, f⟩ | ⟨e, f⟩ | ⟨e, f⟩ | ⟨e, f⟩ | ⟨e, f⟩ | ⟨e, f⟩ <;> obtain ⟨e1, e2⟩ := labs_inj e <;> simp only [List.cons.injEq, Prod.mk.injEq, true_and, and_true] at e2
  ·exact ⟨e1.symm, .inl ⟨e2, f⟩⟩
  ·exact ⟨e1.symm, .inr (.inl ⟨e2, f⟩)⟩
  ·exact ⟨e1.symm, .inr (.inr (.inl ⟨e2, f⟩))⟩
  ·exact ⟨e1.symm, .inr (.inr (.inr (.inl ⟨e2, f⟩)))⟩
  ·exact ⟨e1.symm, .inr (.inr (.inr (.inr (.inl ⟨e2, f⟩))))⟩
  ·exact ⟨e1.symm, .inr (.inr (.inr (.inr (.inr (.inl ⟨e2, f⟩)))))⟩
  ·exact ⟨e1.symm, .inr (.inr (.inr (.inr (.inr (.inr (.inl ⟨e2, f⟩))))))⟩
  ·exact ⟨e1.symm, .inr (.inr (.inr (.inr (.inr (.inr (.inr (.inl ⟨e2, f⟩)))))))⟩
  ·exact ⟨e1.symm, .inr (.inr (.inr (.inr (.inr (.inr (.inr (.inr (⟨e2, f⟩))))))))⟩
 obtain ⟨p0, a0, n0, v0⟩ := get (v := bo0) (z := (pre1 c.h0)) (by simp [hst11, bkt9])
 obtain ⟨p1, a1, n1, v1⟩ := get (v := bo1) (z := (pre2 c.h0 c.h1)) (by simp [hst11, bkt9])
 obtain ⟨p2, a2, n2, v2⟩ := get (v := bo2) (z := (pre3 c.h0 c.h1 c.h2)) (by simp [hst11, bkt9])
 obtain ⟨p3, a3, n3, v3⟩ := get (v := bo3) (z := (pre4 c.h0 c.h1 c.h2 c.h3)) (by simp [hst11, bkt9])
 obtain ⟨p4, a4, n4, v4⟩ := get (v := bo4) (z := (pre5 c.h0 c.h1 c.h2 c.h3 c.h4)) (by simp [hst11, bkt9])
 obtain ⟨p5, a5, n5, v5⟩ := get (v := bo5) (z := (pre6 c.h0 c.h1 c.h2 c.h3 c.h4 c.h5)) (by simp [hst11, bkt9])
 obtain ⟨p6, a6, n6, v6⟩ := get (v := bo6) (z := (pre7 c.h0 c.h1 c.h2 c.h3 c.h4 c.h5 c.h6)) (by simp [hst11, bkt9])
 obtain ⟨p7, a7, n7, v7⟩ := get (v := bo7) (z := (pre8 c.h0 c.h1 c.h2 c.h3 c.h4 c.h5 c.h6 c.h7)) (by simp [hst11, bkt9])
 obtain ⟨p8, a8, n8, v8⟩ := get (v := bo8) (z := (pre9 c.h0 c.h1 c.h2 c.h3 c.h4 c.h5 c.h6 c.h7 c.h8)) (by simp [hst11, bkt9])
 have gs : ∃ c' ∈ b.cs, c'.nm = c.nm ∧ c'.hs = c.hs := by
  have hx : (⟨n ++ sumN, labs c [], c.hs⟩ : SmD) ∈ hst11 n c := by simp [hst11, tot2]
  obtain ⟨c', h1, _, h3⟩ := flat_tells h hc hr hx
  refine ⟨c', h1, ?_⟩
  simp only [hst11, bkt9, tot2, List.cons_append, List.nil_append, List.mem_cons, List.not_mem_nil, or_false, SmD.mk.injEq, true_and, nb sumN bucN (by decide), nb sumN couN (by decide), false_and, false_or, or_false] at h3
  exact ⟨(labs_inj h3.1).1.symm, h3.2.symm⟩
 obtain ⟨pz, az, nz, vz⟩ := gs
 obtain rfl : p0 = p1 := srt_mem (nm := CoD.nm) hb.2.2 a0 a1 (n0.trans n1.symm)
 obtain rfl : p0 = p2 := srt_mem (nm := CoD.nm) hb.2.2 a0 a2 (n0.trans n2.symm)
 obtain rfl : p0 = p3 := srt_mem (nm := CoD.nm) hb.2.2 a0 a3 (n0.trans n3.symm)
 obtain rfl : p0 = p4 := srt_mem (nm := CoD.nm) hb.2.2 a0 a4 (n0.trans n4.symm)
 obtain rfl : p0 = p5 := srt_mem (nm := CoD.nm) hb.2.2 a0 a5 (n0.trans n5.symm)
 obtain rfl : p0 = p6 := srt_mem (nm := CoD.nm) hb.2.2 a0 a6 (n0.trans n6.symm)
 obtain rfl : p0 = p7 := srt_mem (nm := CoD.nm) hb.2.2 a0 a7 (n0.trans n7.symm)
 obtain rfl : p0 = p8 := srt_mem (nm := CoD.nm) hb.2.2 a0 a8 (n0.trans n8.symm)
 obtain rfl : p0 = pz := srt_mem (nm := CoD.nm) hb.2.2 a0 az (n0.trans nz.symm)
 have e0 : (pre1 c.h0) = (pre1 p0.h0) := by simpa (decide := true) only [true_and, false_and, false_or, or_false] using v0
 have e1 : (pre2 c.h0 c.h1) = (pre2 p0.h0 p0.h1) := by simpa (decide := true) only [true_and, false_and, false_or, or_false] using v1
 have e2 : (pre3 c.h0 c.h1 c.h2) = (pre3 p0.h0 p0.h1 p0.h2) := by simpa (decide := true) only [true_and, false_and, false_or, or_false] using v2
 have e3 : (pre4 c.h0 c.h1 c.h2 c.h3) = (pre4 p0.h0 p0.h1 p0.h2 p0.h3) := by simpa (decide := true) only [true_and, false_and, false_or, or_false] using v3
 have e4 : (pre5 c.h0 c.h1 c.h2 c.h3 c.h4) = (pre5 p0.h0 p0.h1 p0.h2 p0.h3 p0.h4) := by simpa (decide := true) only [true_and, false_and, false_or, or_false] using v4
 have e5 : (pre6 c.h0 c.h1 c.h2 c.h3 c.h4 c.h5) = (pre6 p0.h0 p0.h1 p0.h2 p0.h3 p0.h4 p0.h5) := by simpa (decide := true) only [true_and, false_and, false_or, or_false] using v5
 have e6 : (pre7 c.h0 c.h1 c.h2 c.h3 c.h4 c.h5 c.h6) = (pre7 p0.h0 p0.h1 p0.h2 p0.h3 p0.h4 p0.h5 p0.h6) := by simpa (decide := true) only [true_and, false_and, false_or, or_false] using v6
 have e7 : (pre8 c.h0 c.h1 c.h2 c.h3 c.h4 c.h5 c.h6 c.h7) = (pre8 p0.h0 p0.h1 p0.h2 p0.h3 p0.h4 p0.h5 p0.h6 p0.h7) := by simpa (decide := true) only [true_and, false_and, false_or, or_false] using v7
 have e8 : (pre9 c.h0 c.h1 c.h2 c.h3 c.h4 c.h5 c.h6 c.h7 c.h8) = (pre9 p0.h0 p0.h1 p0.h2 p0.h3 p0.h4 p0.h5 p0.h6 p0.h7 p0.h8) := by simpa (decide := true) only [true_and, false_and, false_or, or_false] using v8
 unfold pre1 at e0
 unfold pre2 at e1
 unfold pre3 at e2
 unfold pre4 at e3
 unfold pre5 at e4
 unfold pre6 at e5
 unfold pre7 at e6
 unfold pre8 at e7
 unfold pre9 at e8
 exact ⟨p0, a0, n0, ⟨by omega, by omega, by omega, by omega, by omega, by omega, by omega, by omega, by omega⟩, vz⟩

def keyC (c : CoD) : ByteArray × (Int × (Int × Int × Int)) × (Int × Int) × (Int × Int × Int × Int × Int × Int × Int × Int × Int × Int) :=
 (c.nm, (c.mo, (c.c0, c.c1, c.c2)), (c.rm, c.ha), (c.h0, c.h1, c.h2, c.h3, c.h4, c.h5, c.h6, c.h7, c.h8, c.hs))

theorem fam_tells (ha : a.P) (hb : b.P) (h : famsOf a = famsOf b) : ∀ c ∈ a.cs, ∃ c' ∈ b.cs, keyC c' = keyC c := by
 intro c hc
 have pc := (ha.2.1 c hc).2
 have g0 := @gauge_tells a b fN0 fH0 [2, 3] CoD.rm (ss_eq h 0 (by decide)) c hc
 have g1 := @gauge_tells a b fN1 fH1 [2, 3] CoD.ha (ss_eq h 1 (by decide)) c hc
 have g8 := @gauge_tells a b fN8 fH8 [1, 3] CoD.mo (ss_eq h 8 (by decide)) c hc
 have g2 := @cnt_tells a b fN2 fW2_0 fW2_1 fW2_2 fW2_3 (by decide) (by decide) (by decide) 1 hb (ss_eq h 2 (by decide)) c hc
 have g7 := @cnt_tells a b fN7 fW7_0 fW7_1 fW7_2 fW7_3 (by decide) (by decide) (by decide) 2 hb (ss_eq h 7 (by decide)) c hc
 have g9 := @cnt_tells a b fN9 fW9_0 fW9_1 fW9_2 fW9_3 (by decide) (by decide) (by decide) 3 hb (ss_eq h 9 (by decide)) c hc
 have g4 := @hist_tells a b fN4 [1, 3] hb (ss_eq h 4 (by decide)) c hc
 have uq : ∀ {p q : CoD}, p ∈ b.cs → q ∈ b.cs → p.nm = c.nm → q.nm = c.nm → q = p := fun hp hq e f => srt_mem (nm := CoD.nm) hb.2.2 hq hp (f.trans e.symm)
 by_cases r1 : c.ro = 1
 ·obtain ⟨p, p1, p2, p3, p4, p5, p6⟩ := g2 r1
  obtain ⟨q, q1, _, q3, q4⟩ := g8 (by simp [r1])
  obtain ⟨s, s1, s2, s3, s4⟩ := g4 (by simp [r1])
  obtain rfl := uq p1 q1 p3 q3
  obtain rfl := uq p1 s1 p3 s2
  have pp := (hb.2.1 s p1).2
  unfold CoD.roleP at pc pp
  rw [if_pos r1] at pc
  rw [if_pos p2] at pp
  refine ⟨s, p1, ?_⟩
  unfold keyC
  rw [p3, q4, p4, p5, p6, s4, s3.1, s3.2.1, s3.2.2.1, s3.2.2.2.1, s3.2.2.2.2.1, s3.2.2.2.2.2.1, s3.2.2.2.2.2.2.1, s3.2.2.2.2.2.2.2.1, s3.2.2.2.2.2.2.2.2, pc.2.2.1, pc.2.2.2, pp.2.2.1, pp.2.2.2]
 ·by_cases r2 : c.ro = 2
  ·obtain ⟨p, p1, p2, p3, p4, p5, p6⟩ := g7 r2
   obtain ⟨q, q1, _, q3, q4⟩ := g0 (by simp [r2])
   obtain ⟨s, s1, _, s3, s4⟩ := g1 (by simp [r2])
   obtain rfl := uq p1 q1 p3 q3
   obtain rfl := uq p1 s1 p3 s3
   have pp := (hb.2.1 s p1).2
   unfold CoD.roleP at pc pp
   rw [if_neg r1, if_pos r2] at pc
   rw [if_neg (by rw [p2]; decide), if_pos p2] at pp
   obtain ⟨⟨⟨m1, _⟩, ⟨x0, x1, x2, x3, x4, x5, x6, x7, x8⟩, xs⟩, _⟩ := pc
   obtain ⟨⟨⟨m2, _⟩, ⟨y0, y1, y2, y3, y4, y5, y6, y7, y8⟩, ys⟩, _⟩ := pp
   refine ⟨s, p1, ?_⟩
   unfold keyC
   rw [p3, m1, m2, p4, p5, p6, q4, s4, x0, x1, x2, x3, x4, x5, x6, x7, x8, xs, y0, y1, y2, y3, y4, y5, y6, y7, y8, ys]
  ·unfold CoD.roleP at pc
   rw [if_neg r1, if_neg r2] at pc
   have r3 := pc.1
   obtain ⟨p, p1, p2, p3, p4, p5, p6⟩ := g9 r3
   obtain ⟨q, q1, _, q3, q4⟩ := g0 (by simp [r3])
   obtain ⟨s, s1, _, s3, s4⟩ := g1 (by simp [r3])
   obtain ⟨t, t1, _, t3, t4⟩ := g8 (by simp [r3])
   obtain ⟨u, u1, u2, u3, u4⟩ := g4 (by simp [r3])
   obtain rfl := uq p1 q1 p3 q3
   obtain rfl := uq p1 s1 p3 s3
   obtain rfl := uq p1 t1 p3 t3
   obtain rfl := uq p1 u1 p3 u2
   refine ⟨u, p1, ?_⟩
   unfold keyC
   rw [p3, t4, p4, p5, p6, q4, s4, u4, u3.1, u3.2.1, u3.2.2.1, u3.2.2.2.1, u3.2.2.2.2.1, u3.2.2.2.2.2.1, u3.2.2.2.2.2.2.1, u3.2.2.2.2.2.2.2.1, u3.2.2.2.2.2.2.2.2]

theorem key_lists : ∀ (l m : List CoD), srt CoD.nm l → srt CoD.nm m → (∀ c ∈ l, ∃ c' ∈ m, keyC c' = keyC c) → (∀ c ∈ m, ∃ c' ∈ l, keyC c' = keyC c) → l.map keyC = m.map keyC
 | [], [], _, _, _, _ => rfl
 | [], y :: m, _, _, _, h => by obtain ⟨z, hz, _⟩ := h y (by simp); cases hz
 | x :: l, [], _, _, h, _ => by obtain ⟨z, hz, _⟩ := h x (by simp); cases hz
 | x :: l, y :: m, hl, hm, h1, h2 => by
  have nmk : ∀ {p q : CoD}, keyC p = keyC q → p.nm = q.nm := fun e => congrArg Prod.fst e
  have hl' := List.pairwise_cons.1 hl
  have hm' := List.pairwise_cons.1 hm
  obtain ⟨z, hz, ez⟩ := h1 x (by simp)
  obtain ⟨w, hw, ew⟩ := h2 y (by simp)
  have exy : x.nm = y.nm := by
   rcases List.mem_cons.1 hz with rfl | hz
   ·exact (nmk ez).symm
   ·rcases List.mem_cons.1 hw with rfl | hw
    ·exact nmk ew
    ·have a1 := hm'.1 z hz
     have a2 := hl'.1 w hw
     rw [nmk ez] at a1
     rw [nmk ew] at a2
     exact absurd a1 (nlt_asymm a2)
  have ek : keyC x = keyC y := by
   rcases List.mem_cons.1 hz with rfl | hz
   ·exact ez.symm
   ·have a1 := hm'.1 z hz
    rw [nmk ez, exy] at a1
    exact absurd a1 (nlt_irr _)
  rw [List.map_cons, List.map_cons, ek, key_lists l m hl'.2 hm'.2 (fun c hc => ?_) (fun c hc => ?_)]
  ·obtain ⟨c', hc', e⟩ := h1 c (List.mem_cons_of_mem _ hc)
   rcases List.mem_cons.1 hc' with rfl | hc'
   ·have a1 := hl'.1 c hc
    rw [← nmk e, exy] at a1
    exact absurd a1 (nlt_irr _)
   ·exact ⟨c', hc', e⟩
  ·obtain ⟨c', hc', e⟩ := h2 c (List.mem_cons_of_mem _ hc)
   rcases List.mem_cons.1 hc' with rfl | hc'
   ·have a1 := hm'.1 c hc
    rw [← nmk e, exy] at a1
    exact absurd a1 (nlt_irr _)
   ·exact ⟨c', hc', e⟩

theorem fams_tell2 (ha : a.P) (hb : b.P) (h : famsOf a = famsOf b) : a.q = b.q ∧ a.t = b.t ∧ a.cs.map keyC = b.cs.map keyC := by
 have s5 := ss_eq h 5 (by decide)
 have s6 := ss_eq h 6 (by decide)
 refine ⟨?_, ?_, key_lists _ _ ha.2.2 hb.2.2 (fam_tells ha hb h) (fam_tells hb ha h.symm)⟩
 ·have := congrArg (fun l : List SmD => l.map SmD.v) s5
  exact List.cons.inj this |>.1
 ·have := congrArg (fun l : List SmD => l.map SmD.v) s6
  exact List.cons.inj this |>.1



theorem rem11 (k : Nat) : wrem (k : Int) 11 = ((k % 11 : Nat) : Int) := by
 show Int.tmod (k : Int) 11 = _
 rw [Int.tmod_eq_emod_of_nonneg (by omega)]
 rfl

theorem grp_mono {f : FaD} (h : famP f) (ht : f.ty = 3) {k : Nat} (hk : k < f.ss.length) (h9 : k % 11 < 9) : (0 < k % 11 → (gat f.ss (k - 1)).v ≤ (gat f.ss k).v) ∧ (k % 11 = 8 → k + 2 < f.ss.length ∧ (gat f.ss (k + 2)).v = (gat f.ss k).v) := by
 obtain ⟨_, _, hg⟩ := h
 rw [if_pos ht] at hg
 have hm := (grps_fits.1 hg).1
 have g := hg (k / 11) (by omega)
 have G : ∀ i, i < 11 → gat (grpS f.ss (k / 11)) i = gat f.ss (11 * (k / 11) + i) := fun i hi => gat_grp hi
 obtain ⟨_, h2, _, _, _, _, h7⟩ := g
 refine ⟨fun h0 => ?_, fun h8 => ⟨by omega, ?_⟩⟩
 ·have := (h2 (k % 11) h9).2.2
  unfold prv at this
  rw [if_neg (by omega), G _ (by omega), G _ (by omega), show 11 * (k / 11) + (k % 11 - 1) = k - 1 by omega, show 11 * (k / 11) + k % 11 = k by omega] at this
  exact this
 ·rw [G 10 (by decide), G 8 (by decide), show 11 * (k / 11) + 10 = k + 2 by omega, show 11 * (k / 11) + 8 = k by omega] at h7
  exact h7

theorem law2_fn (a b : StD) (hal : a.cs.length ≤ 9223372036854775807) (hbl : b.cs.length ≤ 9223372036854775807) : Ct Tryz.prog 7 {} [a.sv, b.sv] (fun r => r = [B true]) := by
 refine mlaw2_nf _ _ _ _ _ _ _ (Cl.of awake_fn ⟨_, rfl, ifB_no rfl (Cl.of (sshort_fn a hal) ⟨_, rfl, ifB_intro (fun _ => rfl) (fun sa => Cl.of (sshort_fn b hbl) ⟨_, rfl, ifB_intro (fun _ => rfl) (fun sb => Cl.of (sright_fn a) ⟨_, rfl, ifB_intro (fun _ => rfl) (fun ra => Cl.of (sright_fn b) ⟨_, rfl, ifB_intro (fun _ => rfl) (fun rb => ?_)⟩)⟩)⟩)⟩)⟩)
 have sa : a.short := by simpa using sa
 have sb : b.short := by simpa using sb
 have ra : a.P := by simpa using ra
 have rb : b.P := by simpa using rb
 have ca : a.cs.length ≤ 12 := ra.1.1
 have cb : b.cs.length ≤ 12 := rb.1.1
 have ea : ofRes a = [SL 4 (faR (famsOf a)), I 0] := by unfold ofRes flOf fcOf; rw [if_pos ra, if_pos ra]
 have eb : ofRes b = [SL 4 (faR (famsOf b)), I 0] := by unfold ofRes flOf fcOf; rw [if_pos rb, if_pos rb]
 have ma := mof_fn a (by omega)
 have mb := mof_fn b (by omega)
 rw [ea] at ma
 rw [eb] at mb
 have fa : ∀ f ∈ famsOf a, f.ss.length ≤ 22000 := fun f hf => (fams_fit (by omega) f hf).1
 have fall := fams_all ra sa
 refine Cl.of ma ⟨_, _, rfl, Cl.of mb ⟨_, _, rfl, ifB_no rfl (Cl.of (all_full (famsOf a) (fun f hf => Nat.le_trans (fa f hf) (by decide))) ⟨_, rfl, ifB_no (by rw [decide_eq_true fall]; rfl) ?_⟩)⟩⟩
 obtain ⟨L, hL⟩ : ∃ L, L = famsOf a := ⟨_, rfl⟩
 rw [← hL] at fa fall ⊢
 have hLl : L.length ≤ 40 := fall.1
 refine ⟨fun i => 0 ≤ i ∧ i ≤ L.length, fun i => (L.length - i).toNat, by omega, ?_⟩
 rintro i ⟨i0, il⟩
 rw [rlen_eq (faR L), List.length_map]
 refine ifB_intro (fun hi => ?_) (fun _ => ?_)
 ·have hi : i < L.length := by simpa using hi
  have hi' : i.toNat < L.length := by omega
  have row := rget_mapI FaD.row L i i0 hi
  obtain ⟨f, hf⟩ : ∃ f, f = L[i.toNat] := ⟨_, rfl⟩
  have hfm : f ∈ L := by rw [hf]; exact List.getElem_mem hi'
  rw [← hf] at row
  have hfp : famP f := by rw [hf]; exact (fall.2 _ hi' hi').1
  have hsl := fa f hfm
  refine ⟨fun k => 0 ≤ k ∧ k ≤ f.ss.length, fun k => (f.ss.length - k).toNat, by omega, ?_⟩
  rintro k ⟨k0, kl⟩
  obtain ⟨k, rfl⟩ := Int.eq_ofNat_of_zero_le k0
  refine ⟨⟨i0, hi⟩, _, _, _, _, row, ?_⟩
  rw [rlen_eq (smR f.ss), List.length_map]
  refine ifB_intro (fun hk => ?_) (fun _ => ?_)
  ·have hk : k < f.ss.length := by
    have : (k : Int) < f.ss.length := by simpa using hk
    omega
   have w1 : wadd .i64 (k : Int) 1 = ((k + 1 : Nat) : Int) := by rw [wadd_i64 (by omega) (by omega)]; omega
   have rowk := rget_gat f.ss (k : Int) (by omega) (by omega)
   rw [Int.toNat_natCast] at rowk
   have next : (0 : Int) ≤ ((k + 1 : Nat) : Int) ∧ ((k + 1 : Nat) : Int) ≤ f.ss.length := by omega
   rw [w1]
   refine ⟨⟨i0, hi⟩, _, _, _, _, row, ⟨by omega, by rw [rlen_eq, List.length_map]; omega⟩, _, _, _, rowk, ⟨i0, hi⟩, _, _, _, _, row, ifB_intro (fun _ => ⟨rfl, next, mlt (by dsimp only; omega)⟩) (fun ht => ?_)⟩
   have ht : f.ty = 3 := by simpa using ht
   rw [rem11]
   refine ⟨by decide, ifB_intro (fun _ => ⟨rfl, next, mlt (by dsimp only; omega)⟩) (fun h9 => ?_)⟩
   have h9 : k % 11 < 9 := by
    have : ¬ (9 : Int) ≤ ((k % 11 : Nat) : Int) := by simpa using h9
    omega
   obtain ⟨g1, g2⟩ := grp_mono hfp ht hk h9
   have w2 : wadd .i64 (k : Int) 2 = ((k + 2 : Nat) : Int) := by rw [wadd_i64 (by omega) (by omega)]; omega
   have eight : ifB (ieq ((k % 11 : Nat) : Int) 8) (((0 : Int) ≤ i ∧ i < L.length) ∧ ∃ s9 s10 x8 l6, rget (faR L) i = [S s9, S s10, I x8, SL 3 l6] ∧ ifB (ige ((k + 2 : Nat) : Int) (rlen l6)) (true = false)
     (((0 : Int) ≤ i ∧ i < L.length) ∧ ∃ s11 s12 x9 l7, rget (faR L) i = [S s11, S s12, I x9, SL 3 l7] ∧ (((0 : Int) ≤ ((k + 2 : Nat) : Int) ∧ ((k + 2 : Nat) : Int) < rlen l7) ∧ ∃ s13 l8 x10, rget l7 ((k + 2 : Nat) : Int) = [S s13, SL 2 l8, I x10] ∧ ine x10 (gat f.ss k).v = false))) (false = false) := by
    refine ifB_intro (fun h8 => ?_) (fun _ => rfl)
    have h8 : k % 11 = 8 := by
     have : ((k % 11 : Nat) : Int) = 8 := by simpa using h8
     omega
    obtain ⟨h1, h2⟩ := g2 h8
    have row2 := rget_gat f.ss ((k + 2 : Nat) : Int) (by omega) (by omega)
    rw [Int.toNat_natCast] at row2
    refine ⟨⟨i0, hi⟩, _, _, _, _, row, ifB_no (by rw [rlen_eq, List.length_map]; simp; omega) ⟨⟨i0, hi⟩, _, _, _, _, row, ⟨by omega, by rw [rlen_eq, List.length_map]; omega⟩, _, _, _, row2, ?_⟩⟩
    rw [h2]; simp
   refine ⟨fun b => b = false, fun _ => 0, ⟨by decide, ?_⟩, ?_⟩
   ·rw [w2]
    refine ifB_intro (fun h0 => ?_) (fun _ => ?_)
    ·have h0 : 0 < k % 11 := by
      have : 0 < ((k % 11 : Nat) : Int) := by simpa using h0
      omega
     have w3 : wsub .i64 (k : Int) 1 = ((k - 1 : Nat) : Int) := by rw [wsub_i64 (by omega) (by omega)]; omega
     have row1 := rget_gat f.ss ((k - 1 : Nat) : Int) (by omega) (by omega)
     rw [Int.toNat_natCast] at row1
     rw [w3]
     refine ⟨⟨i0, hi⟩, _, _, _, _, row, ⟨by omega, by rw [rlen_eq, List.length_map]; omega⟩, _, _, _, row1, ifB_no (by have := g1 h0; simp; omega) ⟨by decide, ?_⟩⟩
     refine ifB_intro (fun h8 => ?_) (fun _ => ⟨rfl, rfl⟩)
     rw [h8] at eight
     obtain ⟨q1, _, _, _, _, q2, q3⟩ := eight
     refine ⟨q1, _, _, _, _, q2, ifB_intro (fun h => ?_) (fun h => ?_)⟩
     ·rw [h] at q3; cases q3
     ·rw [h] at q3
      obtain ⟨q4, _, _, _, _, q5, q6, _, _, _, q7, q8⟩ := q3
      exact ⟨q4, _, _, _, _, q5, q6, _, _, _, q7, rfl, q8⟩
    ·refine ⟨by decide, ?_⟩
     refine ifB_intro (fun h8 => ?_) (fun _ => ⟨rfl, rfl⟩)
     rw [h8] at eight
     obtain ⟨q1, _, _, _, _, q2, q3⟩ := eight
     refine ⟨q1, _, _, _, _, q2, ifB_intro (fun h => ?_) (fun h => ?_)⟩
     ·rw [h] at q3; cases q3
     ·rw [h] at q3
      obtain ⟨q4, _, _, _, _, q5, q6, _, _, _, q7, q8⟩ := q3
      exact ⟨q4, _, _, _, _, q5, q6, _, _, _, q7, rfl, q8⟩
   ·rintro b rfl
    exact ifB_no rfl ⟨rfl, next, mlt (by dsimp only; omega)⟩
  ·rw [wadd_i64 (by omega) (by omega)]
   exact ⟨rfl, by omega, mlt (by dsimp only; omega)⟩
 subst hL
 refine Cl.of (same_fn (famsOf a) (famsOf b) (by omega) (fun f hf => fit_ok (fams_fit (by omega) f hf))) ⟨_, rfl, ifB_intro (fun h => ?_) (fun h => ?_)⟩
 ·have h : ¬ famsOf a = famsOf b := by simpa using h
  have hne : ¬ a = b := fun e => h (by rw [e])
  refine Cl.of (ssame_fn a b hal (fun c hc => Nat.le_trans (sa.1 c hc).2 (by decide))) ⟨_, rfl, ?_⟩
  rw [decide_eq_false hne]; rfl
 have h : famsOf a = famsOf b := by simpa using h
 obtain ⟨hq, ht, hk⟩ := fams_tell2 ra rb h
 have hlen : a.cs.length = b.cs.length := by
  have := congrArg List.length hk
  simpa using this
 refine ifB_no (by rw [rlen_eq, rlen_eq, List.length_map, List.length_map, hq, ht, hlen]; simp) ?_
 refine ⟨fun i => 0 ≤ i ∧ i ≤ a.cs.length, fun i => (a.cs.length - i).toNat, by omega, ?_⟩
 rintro i ⟨i0, il⟩
 rw [rlen_eq (coR a.cs), List.length_map]
 refine ifB_intro (fun hi => ?_) (fun _ => rfl)
 have hi : i < a.cs.length := by simpa using hi
 have hi' : i.toNat < a.cs.length := by omega
 have hib : i.toNat < b.cs.length := by omega
 obtain ⟨p, hp⟩ : ∃ p, p = a.cs[i.toNat] := ⟨_, rfl⟩
 obtain ⟨q, hqd⟩ : ∃ q, q = b.cs[i.toNat] := ⟨_, rfl⟩
 have rp := rget_mapI CoD.row a.cs i i0 hi
 have rq := rget_mapI CoD.row b.cs i i0 (by omega)
 rw [← hp] at rp
 rw [← hqd] at rq
 have hpq : keyC p = keyC q := by
  have h1 : (a.cs.map keyC)[i.toNat]? = (b.cs.map keyC)[i.toNat]? := by rw [hk]
  rw [List.getElem?_map, List.getElem?_map, List.getElem?_eq_getElem hi', List.getElem?_eq_getElem hib, ← hp, ← hqd] at h1
  simpa using h1
 unfold keyC at hpq
 simp only [Prod.mk.injEq] at hpq
 obtain ⟨e1, ⟨e2, e3, e4, e5⟩, ⟨e6, e7⟩, e8, e9, e10, e11, e12, e13, e14, e15, e16, e17⟩ := hpq
 refine ⟨fun x0 x1 x2 x3 x4 x5 x6 x7 x8 x9 x10 x11 x12 x13 x14 x15 x16 x17 x18 x19 x20 y0 y1 y2 y3 y4 y5 y6 y7 y8 y9 y10 y11 y12 y13 y14 y15 y16 y17 y18 y19 y20 => x0 = p.nm ∧ x1 = p.ro ∧ x2 = p.mo ∧ x3 = p.wd ∧ x4 = p.sl ∧ x5 = cR p.cl ∧ x6 = p.h0 ∧ x7 = p.h1 ∧ x8 = p.h2 ∧ x9 = p.h3 ∧ x10 = p.h4 ∧ x11 = p.h5 ∧ x12 = p.h6 ∧ x13 = p.h7 ∧ x14 = p.h8 ∧ x15 = p.hs ∧ x16 = p.rm ∧ x17 = p.ha ∧ x18 = p.c0 ∧ x19 = p.c1 ∧ x20 = p.c2 ∧ y0 = q.nm ∧ y1 = q.ro ∧ y2 = q.mo ∧ y3 = q.wd ∧ y4 = q.sl ∧ y5 = cR q.cl ∧ y6 = q.h0 ∧ y7 = q.h1 ∧ y8 = q.h2 ∧ y9 = q.h3 ∧ y10 = q.h4 ∧ y11 = q.h5 ∧ y12 = q.h6 ∧ y13 = q.h7 ∧ y14 = q.h8 ∧ y15 = q.hs ∧ y16 = q.rm ∧ y17 = q.ha ∧ y18 = q.c0 ∧ y19 = q.c1 ∧ y20 = q.c2, fun _ _ _ _ _ _ _ _ _ _ _ _ _ _ _ _ _ _ _ _ _ _ _ _ _ _ _ _ _ _ _ _ _ _ _ _ _ _ _ _ _ _ => 0, ?_, ?_⟩
 ·exact ⟨⟨i0, hi⟩, _, _, _, _, _, _, _, _, _, _, _, _, _, _, _, _, _, _, _, _, _, rp, ⟨i0, by rw [rlen_eq, List.length_map]; omega⟩, _, _, _, _, _, _, _, _, _, _, _, _, _, _, _, _, _, _, _, _, _, rq, ⟨rfl, rfl, rfl, rfl, rfl, rfl, rfl, rfl, rfl, rfl, rfl, rfl, rfl, rfl, rfl, rfl, rfl, rfl, rfl, rfl, rfl, rfl, rfl, rfl, rfl, rfl, rfl, rfl, rfl, rfl, rfl, rfl, rfl, rfl, rfl, rfl, rfl, rfl, rfl, rfl, rfl, rfl, rfl⟩, ⟨rfl, rfl, rfl, rfl, rfl, rfl, rfl, rfl, rfl, rfl, rfl, rfl, rfl, rfl, rfl, rfl, rfl, rfl, rfl, rfl, rfl, rfl, rfl, rfl, rfl, rfl, rfl, rfl, rfl, rfl, rfl, rfl, rfl, rfl, rfl, rfl, rfl, rfl, rfl, rfl, rfl, rfl, rfl⟩⟩
 ·rintro _ _ _ _ _ _ _ _ _ _ _ _ _ _ _ _ _ _ _ _ _ _ _ _ _ _ _ _ _ _ _ _ _ _ _ _ _ _ _ _ _ _ ⟨rfl, rfl, rfl, rfl, rfl, rfl, rfl, rfl, rfl, rfl, rfl, rfl, rfl, rfl, rfl, rfl, rfl, rfl, rfl, rfl, rfl, rfl, rfl, rfl, rfl, rfl, rfl, rfl, rfl, rfl, rfl, rfl, rfl, rfl, rfl, rfl, rfl, rfl, rfl, rfl, rfl, rfl⟩
  rw [wadd_i64 (by omega) (by omega)]
  refine ifB_no ?_ ⟨rfl, by omega, mlt (by dsimp only; omega)⟩
  rw [e1, e2, e3, e4, e5, e6, e7, e8, e9, e10, e11, e12, e13, e14, e15, e16, e17, sne_d]
  simp

end Go.Proofs.YtknnooannohflaaGreatDoor.Met

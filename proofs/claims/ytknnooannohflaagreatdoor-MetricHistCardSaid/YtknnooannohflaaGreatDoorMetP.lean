/- Layer 26: the operations of the region in which the families are made, each in any state in which what it reads is there. -/
import Derived.Test.YtknnooannohflaaGreatDoorMetO
import Derived.Test.YtknnooannohflaaGreatDoorMeA
import Derived.Test.YtknnooannohflaaGreatDoorPxAn
namespace Go.Proofs.YtknnooannohflaaGreatDoor.Met
open Go Go.Px Go.Proofs
set_option maxRecDepth 100000
set_option linter.unusedVariables false

noncomputable def op5 (i : Nat) : Oper := (ops5.toList.getD i (default : Oper))
abbrev objs5 (cs : List (List SV)) (s a : Int) : List (Nat × Ob) := [(128, Ob.box [SL 21 cs, I s, I a]), (5, Ob.own 0 [])]

theorem eta_list : ∀ (l : List SV), l = (List.range l.length).map (lget l) := by
 intro l
 refine List.ext_getElem? fun k => ?_
 rw [List.getElem?_map]
 by_cases hk : k < l.length
 ·rw [List.getElem?_range hk, Option.map_some, lget_eq, List.getElem?_eq_getElem hk]; rfl
 ·rw [List.getElem?_eq_none (by omega), List.getElem?_eq_none (by simp; omega)]; rfl

theorem eta66 {l : List SV} (h : l.length = 66) : l = [lget l 0, lget l 1, lget l 2, lget l 3, lget l 4, lget l 5, lget l 6, lget l 7, lget l 8, lget l 9, lget l 10, lget l 11, lget l 12, lget l 13, lget l 14, lget l 15, lget l 16, lget l 17, lget l 18, lget l 19, lget l 20, lget l 21, lget l 22, lget l 23, lget l 24, lget l 25, lget l 26, lget l 27, lget l 28, lget l 29, lget l 30, lget l 31, lget l 32, lget l 33, lget l 34, lget l 35, lget l 36, lget l 37, lget l 38, lget l 39, lget l 40, lget l 41, lget l 42, lget l 43, lget l 44, lget l 45, lget l 46, lget l 47, lget l 48, lget l 49, lget l 50, lget l 51, lget l 52, lget l 53, lget l 54, lget l 55, lget l 56, lget l 57, lget l 58, lget l 59, lget l 60, lget l 61, lget l 62, lget l 63, lget l 64, lget l 65] := by
 have e := eta_list l
 rw [h] at e
 exact e.trans (by kernel_rfl)

def pickU : List (Nat × SV) → Nat → SV → SV
 | [], _, d => d
 | (a, v) :: r, k, d => bif Nat.beq a k then v else pickU r k d
def M66 (u : List (Nat × SV)) (g : Nat → SV) : List SV := (List.range 66).map fun k => pickU u k (g k)
theorem pickU_eq (g : Nat → SV) (k : Nat) : ∀ u : List (Nat × SV), (∀ p ∈ u, g p.1 = p.2) → pickU u k (g k) = g k
 | [], _ => rfl
 | (a, v) :: r, h => by
  unfold pickU
  cases e : Nat.beq a k with
  | true =>
   have := Nat.eq_of_beq_eq_true e
   subst this
   exact (h (a, v) (List.mem_cons_self ..)).symm
  | false => exact pickU_eq g k r fun p hp => h p (List.mem_cons_of_mem _ hp)
theorem m66 {l : List SV} (h : l.length = 66) (u : List (Nat × SV)) (hu : ∀ p ∈ u, lget l p.1 = p.2) : l = M66 u (lget l) := by
 have e := eta_list l
 rw [h] at e
 refine e.trans (List.map_congr_left fun k _ => (pickU_eq (lget l) k u hu).symm)
theorem k1 {l : List SV} {a : Nat} {v : SV} (h : lget l a = v) {u : List (Nat × SV)} (hu : ∀ p ∈ u, lget l p.1 = p.2) : ∀ p ∈ (a, v) :: u, lget l p.1 = p.2 := List.forall_mem_cons.2 ⟨h, hu⟩
theorem k0 {l : List SV} : ∀ p ∈ ([] : List (Nat × SV)), lget l p.1 = p.2 := fun _ h => (List.not_mem_nil h).elim

theorem e5_0 (g : Nat → SV) (cs : List (List SV)) (s a : Int) (F : Nat → FaD) (K : St → Prop) : (K (St.put (St.mk (M66 [(1, (SV.ptr 128 0))] g) (objs5 cs s a)) (some 15) (SV.agg [SL 21 cs, I s, I a]))) = aop Tryz.prog SgT SvT ops5 (op5 0) (St.mk (M66 [(1, (SV.ptr 128 0))] g) (objs5 cs s a)) K := by kernel_rfl
theorem o5_0 (cs : List (List SV)) (s a : Int) (F : Nat → FaD) (st : St) (ho : st.objs = objs5 cs s a) (hl : st.tmps.length = 66) (h1 : lget st.tmps 1 = (SV.ptr 128 0)) (K : St → Prop) (h : K (st.put (some 15) (SV.agg [SL 21 cs, I s, I a]))) : aop Tryz.prog SgT SvT ops5 (op5 0) st K := by
 obtain ⟨tmps, objs⟩ := st
 obtain rfl : objs = objs5 cs s a := ho
 have e := m66 (l := tmps) hl _ (k1 (show lget tmps 1 = _ from h1) k0)
 rw [e] at h ⊢
 exact (e5_0 _ cs s a F K).mp h

theorem e5_1 (g : Nat → SV) (cs : List (List SV)) (s a : Int) (F : Nat → FaD) (K : St → Prop) : (K (St.put (St.mk (M66 [(4, (SL 1 [[I 2], [I 3]]))] g) (objs5 cs s a)) (some 16) (SL 1 [[I 2], [I 3]]))) = aop Tryz.prog SgT SvT ops5 (op5 1) (St.mk (M66 [(4, (SL 1 [[I 2], [I 3]]))] g) (objs5 cs s a)) K := by kernel_rfl
theorem o5_1 (cs : List (List SV)) (s a : Int) (F : Nat → FaD) (st : St) (ho : st.objs = objs5 cs s a) (hl : st.tmps.length = 66) (h4 : lget st.tmps 4 = (SL 1 [[I 2], [I 3]])) (K : St → Prop) (h : K (st.put (some 16) (SL 1 [[I 2], [I 3]]))) : aop Tryz.prog SgT SvT ops5 (op5 1) st K := by
 obtain ⟨tmps, objs⟩ := st
 obtain rfl : objs = objs5 cs s a := ho
 have e := m66 (l := tmps) hl _ (k1 (show lget tmps 4 = _ from h4) k0)
 rw [e] at h ⊢
 exact (e5_1 _ cs s a F K).mp h

theorem e5_2 (g : Nat → SV) (cs : List (List SV)) (s a : Int) (F : Nat → FaD) (K : St → Prop) : (Cl Tryz.prog 58 sP [S (bA [102, 117, 115, 101, 98, 111, 120, 95, 98, 117, 99, 107, 101, 116, 95, 114, 111, 111, 109]), S (bA [84, 111, 107, 101, 110, 115, 32, 116, 104, 97, 116, 32, 97, 32, 98, 117, 99, 107, 101, 116, 32, 104, 111, 108, 100, 115, 46]), (SV.agg [SL 21 cs, I s, I a]), (SL 1 [[I 2], [I 3]]), .clo 59 []] (fun (rs : List SV) => ∃ s1 : ByteArray, ∃ s2 : ByteArray, ∃ x : Int, ∃ l : List (List SV), (rs = [SV.agg [S s1, S s2, I x, SL 3 l]]) ∧ K (St.put (St.mk (M66 [(15, (SV.agg [SL 21 cs, I s, I a])), (16, (SL 1 [[I 2], [I 3]]))] g) (objs5 cs s a)) (some 17) (SV.agg [S s1, S s2, I x, SL 3 l])))) = aop Tryz.prog SgT SvT ops5 (op5 2) (St.mk (M66 [(15, (SV.agg [SL 21 cs, I s, I a])), (16, (SL 1 [[I 2], [I 3]]))] g) (objs5 cs s a)) K := by kernel_rfl
theorem o5_2 (cs : List (List SV)) (s a : Int) (F : Nat → FaD) (st : St) (ho : st.objs = objs5 cs s a) (hl : st.tmps.length = 66) (h15 : lget st.tmps 15 = (SV.agg [SL 21 cs, I s, I a])) (h16 : lget st.tmps 16 = (SL 1 [[I 2], [I 3]])) (K : St → Prop) (hc : Ct Tryz.prog 58 {} [S (bA [102, 117, 115, 101, 98, 111, 120, 95, 98, 117, 99, 107, 101, 116, 95, 114, 111, 111, 109]), S (bA [84, 111, 107, 101, 110, 115, 32, 116, 104, 97, 116, 32, 97, 32, 98, 117, 99, 107, 101, 116, 32, 104, 111, 108, 100, 115, 46]), (SV.agg [SL 21 cs, I s, I a]), (SL 1 [[I 2], [I 3]]), .clo 59 []] (fun r => r = [(SV.agg (FaD.row (F 0)))])) (h : K (st.put (some 17) (SV.agg (FaD.row (F 0))))) : aop Tryz.prog SgT SvT ops5 (op5 2) st K := by
 obtain ⟨tmps, objs⟩ := st
 obtain rfl : objs = objs5 cs s a := ho
 have e := m66 (l := tmps) hl _ (k1 (show lget tmps 15 = _ from h15) (k1 (show lget tmps 16 = _ from h16) k0))
 rw [e] at h ⊢
 exact (e5_2 _ cs s a F K).mp (Cl.of hc ⟨_, _, _, _, rfl, h⟩)

theorem e5_3 (g : Nat → SV) (cs : List (List SV)) (s a : Int) (F : Nat → FaD) (K : St → Prop) : (K (St.put (St.mk (M66 [(1, (SV.ptr 128 0))] g) (objs5 cs s a)) (some 18) (SV.agg [SL 21 cs, I s, I a]))) = aop Tryz.prog SgT SvT ops5 (op5 3) (St.mk (M66 [(1, (SV.ptr 128 0))] g) (objs5 cs s a)) K := by kernel_rfl
theorem o5_3 (cs : List (List SV)) (s a : Int) (F : Nat → FaD) (st : St) (ho : st.objs = objs5 cs s a) (hl : st.tmps.length = 66) (h1 : lget st.tmps 1 = (SV.ptr 128 0)) (K : St → Prop) (h : K (st.put (some 18) (SV.agg [SL 21 cs, I s, I a]))) : aop Tryz.prog SgT SvT ops5 (op5 3) st K := by
 obtain ⟨tmps, objs⟩ := st
 obtain rfl : objs = objs5 cs s a := ho
 have e := m66 (l := tmps) hl _ (k1 (show lget tmps 1 = _ from h1) k0)
 rw [e] at h ⊢
 exact (e5_3 _ cs s a F K).mp h

theorem e5_4 (g : Nat → SV) (cs : List (List SV)) (s a : Int) (F : Nat → FaD) (K : St → Prop) : (K (St.put (St.mk (M66 [(4, (SL 1 [[I 2], [I 3]]))] g) (objs5 cs s a)) (some 19) (SL 1 [[I 2], [I 3]]))) = aop Tryz.prog SgT SvT ops5 (op5 4) (St.mk (M66 [(4, (SL 1 [[I 2], [I 3]]))] g) (objs5 cs s a)) K := by kernel_rfl
theorem o5_4 (cs : List (List SV)) (s a : Int) (F : Nat → FaD) (st : St) (ho : st.objs = objs5 cs s a) (hl : st.tmps.length = 66) (h4 : lget st.tmps 4 = (SL 1 [[I 2], [I 3]])) (K : St → Prop) (h : K (st.put (some 19) (SL 1 [[I 2], [I 3]]))) : aop Tryz.prog SgT SvT ops5 (op5 4) st K := by
 obtain ⟨tmps, objs⟩ := st
 obtain rfl : objs = objs5 cs s a := ho
 have e := m66 (l := tmps) hl _ (k1 (show lget tmps 4 = _ from h4) k0)
 rw [e] at h ⊢
 exact (e5_4 _ cs s a F K).mp h

theorem e5_5 (g : Nat → SV) (cs : List (List SV)) (s a : Int) (F : Nat → FaD) (K : St → Prop) : (Cl Tryz.prog 58 sP [S (bA [102, 117, 115, 101, 98, 111, 120, 95, 98, 117, 99, 107, 101, 116, 95, 116, 111, 107, 101, 110, 115]), S (bA [84, 111, 107, 101, 110, 115, 32, 116, 104, 97, 116, 32, 97, 32, 98, 117, 99, 107, 101, 116, 32, 104, 97, 115, 46]), (SV.agg [SL 21 cs, I s, I a]), (SL 1 [[I 2], [I 3]]), .clo 60 []] (fun (rs : List SV) => ∃ s1 : ByteArray, ∃ s2 : ByteArray, ∃ x : Int, ∃ l : List (List SV), (rs = [SV.agg [S s1, S s2, I x, SL 3 l]]) ∧ K (St.put (St.mk (M66 [(18, (SV.agg [SL 21 cs, I s, I a])), (19, (SL 1 [[I 2], [I 3]]))] g) (objs5 cs s a)) (some 20) (SV.agg [S s1, S s2, I x, SL 3 l])))) = aop Tryz.prog SgT SvT ops5 (op5 5) (St.mk (M66 [(18, (SV.agg [SL 21 cs, I s, I a])), (19, (SL 1 [[I 2], [I 3]]))] g) (objs5 cs s a)) K := by kernel_rfl
theorem o5_5 (cs : List (List SV)) (s a : Int) (F : Nat → FaD) (st : St) (ho : st.objs = objs5 cs s a) (hl : st.tmps.length = 66) (h18 : lget st.tmps 18 = (SV.agg [SL 21 cs, I s, I a])) (h19 : lget st.tmps 19 = (SL 1 [[I 2], [I 3]])) (K : St → Prop) (hc : Ct Tryz.prog 58 {} [S (bA [102, 117, 115, 101, 98, 111, 120, 95, 98, 117, 99, 107, 101, 116, 95, 116, 111, 107, 101, 110, 115]), S (bA [84, 111, 107, 101, 110, 115, 32, 116, 104, 97, 116, 32, 97, 32, 98, 117, 99, 107, 101, 116, 32, 104, 97, 115, 46]), (SV.agg [SL 21 cs, I s, I a]), (SL 1 [[I 2], [I 3]]), .clo 60 []] (fun r => r = [(SV.agg (FaD.row (F 1)))])) (h : K (st.put (some 20) (SV.agg (FaD.row (F 1))))) : aop Tryz.prog SgT SvT ops5 (op5 5) st K := by
 obtain ⟨tmps, objs⟩ := st
 obtain rfl : objs = objs5 cs s a := ho
 have e := m66 (l := tmps) hl _ (k1 (show lget tmps 18 = _ from h18) (k1 (show lget tmps 19 = _ from h19) k0))
 rw [e] at h ⊢
 exact (e5_5 _ cs s a F K).mp (Cl.of hc ⟨_, _, _, _, rfl, h⟩)

theorem e5_6 (g : Nat → SV) (cs : List (List SV)) (s a : Int) (F : Nat → FaD) (K : St → Prop) : (K (St.put (St.mk (M66 [(1, (SV.ptr 128 0))] g) (objs5 cs s a)) (some 21) (SV.agg [SL 21 cs, I s, I a]))) = aop Tryz.prog SgT SvT ops5 (op5 6) (St.mk (M66 [(1, (SV.ptr 128 0))] g) (objs5 cs s a)) K := by kernel_rfl
theorem o5_6 (cs : List (List SV)) (s a : Int) (F : Nat → FaD) (st : St) (ho : st.objs = objs5 cs s a) (hl : st.tmps.length = 66) (h1 : lget st.tmps 1 = (SV.ptr 128 0)) (K : St → Prop) (h : K (st.put (some 21) (SV.agg [SL 21 cs, I s, I a]))) : aop Tryz.prog SgT SvT ops5 (op5 6) st K := by
 obtain ⟨tmps, objs⟩ := st
 obtain rfl : objs = objs5 cs s a := ho
 have e := m66 (l := tmps) hl _ (k1 (show lget tmps 1 = _ from h1) k0)
 rw [e] at h ⊢
 exact (e5_6 _ cs s a F K).mp h

theorem e5_7 (g : Nat → SV) (cs : List (List SV)) (s a : Int) (F : Nat → FaD) (K : St → Prop) : (K (pureOps [.tmp 22] (St.put (St.bind (St.mk (M66 [] g) (objs5 cs s a)) 2880 (.own 1 [[S (bA [103, 111, 111, 100])], [S (bA [98, 97, 100])], [S (bA [108, 97, 116, 101])]])) (some 22) (.osl 2880)))) = aop Tryz.prog SgT SvT ops5 (op5 7) (St.mk (M66 [] g) (objs5 cs s a)) K := by kernel_rfl
theorem o5_7 (cs : List (List SV)) (s a : Int) (F : Nat → FaD) (st : St) (ho : st.objs = objs5 cs s a) (hl : st.tmps.length = 66)  (K : St → Prop) (hk : ∀ x ∈ st.tmps, hmap (killG 2880) x = x) (hf : ∀ x ∈ st.tmps, hmap (frzG 2880 1 [[S (bA [103, 111, 111, 100])], [S (bA [98, 97, 100])], [S (bA [108, 97, 116, 101])]]) x = x) (hg : ∀ x ∈ st.tmps, ∀ t w v, x ≠ .gd t w v) (h : K (st.put (some 22) (SL 1 [[S (bA [103, 111, 111, 100])], [S (bA [98, 97, 100])], [S (bA [108, 97, 116, 101])]]))) : aop Tryz.prog SgT SvT ops5 (op5 7) st K := by
 obtain ⟨tmps, objs⟩ := st
 obtain rfl : objs = objs5 cs s a := ho
 have hb := @build_plain (St.mk tmps (objs5 cs s a)) 2880 1 22 [[S (bA [103, 111, 111, 100])], [S (bA [98, 97, 100])], [S (bA [108, 97, 116, 101])]] (by show 22 < tmps.length; rw [hl]; decide) hk hf hg rfl rfl
 rw [← hb] at h
 clear hb hk hf hg
 have e := m66 (l := tmps) hl _ k0
 rw [e] at h ⊢
 exact (e5_7 _ cs s a F K).mp h

theorem e5_8 (g : Nat → SV) (cs : List (List SV)) (s a : Int) (F : Nat → FaD) (K : St → Prop) : (Cl Tryz.prog 61 sP [S (bA [102, 117, 115, 101, 98, 111, 120, 95, 99, 97, 108, 108, 115, 95, 116, 111, 116, 97, 108]), S (bA [67, 97, 108, 108, 115, 32, 98, 121, 32, 119, 104, 97, 116, 32, 98, 101, 99, 97, 109, 101, 32, 111, 102, 32, 116, 104, 101, 109, 46]), (SV.agg [SL 21 cs, I s, I a]), I 1, S (bA [111, 117, 116, 99, 111, 109, 101]), (SL 1 [[S (bA [103, 111, 111, 100])], [S (bA [98, 97, 100])], [S (bA [108, 97, 116, 101])]])] (fun (rs : List SV) => ∃ s1 : ByteArray, ∃ s2 : ByteArray, ∃ x : Int, ∃ l : List (List SV), (rs = [SV.agg [S s1, S s2, I x, SL 3 l]]) ∧ K (St.put (St.mk (M66 [(21, (SV.agg [SL 21 cs, I s, I a])), (22, (SL 1 [[S (bA [103, 111, 111, 100])], [S (bA [98, 97, 100])], [S (bA [108, 97, 116, 101])]]))] g) (objs5 cs s a)) (some 23) (SV.agg [S s1, S s2, I x, SL 3 l])))) = aop Tryz.prog SgT SvT ops5 (op5 8) (St.mk (M66 [(21, (SV.agg [SL 21 cs, I s, I a])), (22, (SL 1 [[S (bA [103, 111, 111, 100])], [S (bA [98, 97, 100])], [S (bA [108, 97, 116, 101])]]))] g) (objs5 cs s a)) K := by kernel_rfl
theorem o5_8 (cs : List (List SV)) (s a : Int) (F : Nat → FaD) (st : St) (ho : st.objs = objs5 cs s a) (hl : st.tmps.length = 66) (h21 : lget st.tmps 21 = (SV.agg [SL 21 cs, I s, I a])) (h22 : lget st.tmps 22 = (SL 1 [[S (bA [103, 111, 111, 100])], [S (bA [98, 97, 100])], [S (bA [108, 97, 116, 101])]])) (K : St → Prop) (hc : Ct Tryz.prog 61 {} [S (bA [102, 117, 115, 101, 98, 111, 120, 95, 99, 97, 108, 108, 115, 95, 116, 111, 116, 97, 108]), S (bA [67, 97, 108, 108, 115, 32, 98, 121, 32, 119, 104, 97, 116, 32, 98, 101, 99, 97, 109, 101, 32, 111, 102, 32, 116, 104, 101, 109, 46]), (SV.agg [SL 21 cs, I s, I a]), I 1, S (bA [111, 117, 116, 99, 111, 109, 101]), (SL 1 [[S (bA [103, 111, 111, 100])], [S (bA [98, 97, 100])], [S (bA [108, 97, 116, 101])]])] (fun r => r = [(SV.agg (FaD.row (F 2)))])) (h : K (st.put (some 23) (SV.agg (FaD.row (F 2))))) : aop Tryz.prog SgT SvT ops5 (op5 8) st K := by
 obtain ⟨tmps, objs⟩ := st
 obtain rfl : objs = objs5 cs s a := ho
 have e := m66 (l := tmps) hl _ (k1 (show lget tmps 21 = _ from h21) (k1 (show lget tmps 22 = _ from h22) k0))
 rw [e] at h ⊢
 exact (e5_8 _ cs s a F K).mp (Cl.of hc ⟨_, _, _, _, rfl, h⟩)

theorem e5_9 (g : Nat → SV) (cs : List (List SV)) (s a : Int) (F : Nat → FaD) (K : St → Prop) : (K (St.put (St.mk (M66 [(1, (SV.ptr 128 0))] g) (objs5 cs s a)) (some 24) (SV.ptr 128 0))) = aop Tryz.prog SgT SvT ops5 (op5 9) (St.mk (M66 [(1, (SV.ptr 128 0))] g) (objs5 cs s a)) K := by kernel_rfl
theorem o5_9 (cs : List (List SV)) (s a : Int) (F : Nat → FaD) (st : St) (ho : st.objs = objs5 cs s a) (hl : st.tmps.length = 66) (h1 : lget st.tmps 1 = (SV.ptr 128 0)) (K : St → Prop) (h : K (st.put (some 24) (SV.ptr 128 0))) : aop Tryz.prog SgT SvT ops5 (op5 9) st K := by
 obtain ⟨tmps, objs⟩ := st
 obtain rfl : objs = objs5 cs s a := ho
 have e := m66 (l := tmps) hl _ (k1 (show lget tmps 1 = _ from h1) k0)
 rw [e] at h ⊢
 exact (e5_9 _ cs s a F K).mp h

theorem e5_10 (g : Nat → SV) (cs : List (List SV)) (s a : Int) (F : Nat → FaD) (K : St → Prop) : (K (St.put (St.mk (M66 [(24, (SV.ptr 128 0))] g) (objs5 cs s a)) (some 25) (SL 21 cs))) = aop Tryz.prog SgT SvT ops5 (op5 10) (St.mk (M66 [(24, (SV.ptr 128 0))] g) (objs5 cs s a)) K := by kernel_rfl
theorem o5_10 (cs : List (List SV)) (s a : Int) (F : Nat → FaD) (st : St) (ho : st.objs = objs5 cs s a) (hl : st.tmps.length = 66) (h24 : lget st.tmps 24 = (SV.ptr 128 0)) (K : St → Prop) (h : K (st.put (some 25) (SL 21 cs))) : aop Tryz.prog SgT SvT ops5 (op5 10) st K := by
 obtain ⟨tmps, objs⟩ := st
 obtain rfl : objs = objs5 cs s a := ho
 have e := m66 (l := tmps) hl _ (k1 (show lget tmps 24 = _ from h24) k0)
 rw [e] at h ⊢
 exact (e5_10 _ cs s a F K).mp h

theorem e5_11 (g : Nat → SV) (cs : List (List SV)) (s a : Int) (F : Nat → FaD) (K : St → Prop) : (K (St.put (St.mk (M66 [(25, (SL 21 cs))] g) (objs5 cs s a)) (some 26) (I (rlen cs)))) = aop Tryz.prog SgT SvT ops5 (op5 11) (St.mk (M66 [(25, (SL 21 cs))] g) (objs5 cs s a)) K := by kernel_rfl
theorem o5_11 (cs : List (List SV)) (s a : Int) (F : Nat → FaD) (st : St) (ho : st.objs = objs5 cs s a) (hl : st.tmps.length = 66) (h25 : lget st.tmps 25 = (SL 21 cs)) (K : St → Prop) (h : K (st.put (some 26) (I (rlen cs)))) : aop Tryz.prog SgT SvT ops5 (op5 11) st K := by
 obtain ⟨tmps, objs⟩ := st
 obtain rfl : objs = objs5 cs s a := ho
 have e := m66 (l := tmps) hl _ (k1 (show lget tmps 25 = _ from h25) k0)
 rw [e] at h ⊢
 exact (e5_11 _ cs s a F K).mp h

theorem e5_12 (g : Nat → SV) (cs : List (List SV)) (s a : Int) (F : Nat → FaD) (K : St → Prop) : (Cl Tryz.prog 62 sP [S (bA [102, 117, 115, 101, 98, 111, 120, 95, 99, 111, 109, 112, 111, 110, 101, 110, 116, 115]), S (bA [67, 111, 109, 112, 111, 110, 101, 110, 116, 115, 32, 116, 104, 97, 116, 32, 97, 114, 101, 32, 114, 101, 103, 105, 115, 116, 101, 114, 101, 100, 46]), I 2, I (rlen cs)] (fun (rs : List SV) => ∃ s1 : ByteArray, ∃ s2 : ByteArray, ∃ x : Int, ∃ l : List (List SV), (rs = [SV.agg [S s1, S s2, I x, SL 3 l]]) ∧ K (St.put (St.mk (M66 [(26, (I (rlen cs)))] g) (objs5 cs s a)) (some 27) (SV.agg [S s1, S s2, I x, SL 3 l])))) = aop Tryz.prog SgT SvT ops5 (op5 12) (St.mk (M66 [(26, (I (rlen cs)))] g) (objs5 cs s a)) K := by kernel_rfl
theorem o5_12 (cs : List (List SV)) (s a : Int) (F : Nat → FaD) (st : St) (ho : st.objs = objs5 cs s a) (hl : st.tmps.length = 66) (h26 : lget st.tmps 26 = (I (rlen cs))) (K : St → Prop) (hc : Ct Tryz.prog 62 {} [S (bA [102, 117, 115, 101, 98, 111, 120, 95, 99, 111, 109, 112, 111, 110, 101, 110, 116, 115]), S (bA [67, 111, 109, 112, 111, 110, 101, 110, 116, 115, 32, 116, 104, 97, 116, 32, 97, 114, 101, 32, 114, 101, 103, 105, 115, 116, 101, 114, 101, 100, 46]), I 2, I (rlen cs)] (fun r => r = [(SV.agg (FaD.row (F 3)))])) (h : K (st.put (some 27) (SV.agg (FaD.row (F 3))))) : aop Tryz.prog SgT SvT ops5 (op5 12) st K := by
 obtain ⟨tmps, objs⟩ := st
 obtain rfl : objs = objs5 cs s a := ho
 have e := m66 (l := tmps) hl _ (k1 (show lget tmps 26 = _ from h26) k0)
 rw [e] at h ⊢
 exact (e5_12 _ cs s a F K).mp (Cl.of hc ⟨_, _, _, _, rfl, h⟩)

theorem e5_13 (g : Nat → SV) (cs : List (List SV)) (s a : Int) (F : Nat → FaD) (K : St → Prop) : (K (St.put (St.mk (M66 [(1, (SV.ptr 128 0))] g) (objs5 cs s a)) (some 28) (SV.agg [SL 21 cs, I s, I a]))) = aop Tryz.prog SgT SvT ops5 (op5 13) (St.mk (M66 [(1, (SV.ptr 128 0))] g) (objs5 cs s a)) K := by kernel_rfl
theorem o5_13 (cs : List (List SV)) (s a : Int) (F : Nat → FaD) (st : St) (ho : st.objs = objs5 cs s a) (hl : st.tmps.length = 66) (h1 : lget st.tmps 1 = (SV.ptr 128 0)) (K : St → Prop) (h : K (st.put (some 28) (SV.agg [SL 21 cs, I s, I a]))) : aop Tryz.prog SgT SvT ops5 (op5 13) st K := by
 obtain ⟨tmps, objs⟩ := st
 obtain rfl : objs = objs5 cs s a := ho
 have e := m66 (l := tmps) hl _ (k1 (show lget tmps 1 = _ from h1) k0)
 rw [e] at h ⊢
 exact (e5_13 _ cs s a F K).mp h

theorem e5_14 (g : Nat → SV) (cs : List (List SV)) (s a : Int) (F : Nat → FaD) (K : St → Prop) : (K (St.put (St.mk (M66 [(5, (SL 1 [[I 1], [I 3]]))] g) (objs5 cs s a)) (some 29) (SL 1 [[I 1], [I 3]]))) = aop Tryz.prog SgT SvT ops5 (op5 14) (St.mk (M66 [(5, (SL 1 [[I 1], [I 3]]))] g) (objs5 cs s a)) K := by kernel_rfl
theorem o5_14 (cs : List (List SV)) (s a : Int) (F : Nat → FaD) (st : St) (ho : st.objs = objs5 cs s a) (hl : st.tmps.length = 66) (h5 : lget st.tmps 5 = (SL 1 [[I 1], [I 3]])) (K : St → Prop) (h : K (st.put (some 29) (SL 1 [[I 1], [I 3]]))) : aop Tryz.prog SgT SvT ops5 (op5 14) st K := by
 obtain ⟨tmps, objs⟩ := st
 obtain rfl : objs = objs5 cs s a := ho
 have e := m66 (l := tmps) hl _ (k1 (show lget tmps 5 = _ from h5) k0)
 rw [e] at h ⊢
 exact (e5_14 _ cs s a F K).mp h

theorem e5_15 (g : Nat → SV) (cs : List (List SV)) (s a : Int) (F : Nat → FaD) (K : St → Prop) : (Cl Tryz.prog 63 sP [S (bA [102, 117, 115, 101, 98, 111, 120, 95, 100, 117, 114, 97, 116, 105, 111, 110]), S (bA [84, 105, 99, 107, 115, 32, 116, 104, 97, 116, 32, 99, 97, 108, 108, 115, 32, 97, 110, 100, 32, 98, 97, 99, 107, 111, 102, 102, 115, 32, 116, 111, 111, 107, 46]), (SV.agg [SL 21 cs, I s, I a]), (SL 1 [[I 1], [I 3]])] (fun (rs : List SV) => ∃ s1 : ByteArray, ∃ s2 : ByteArray, ∃ x : Int, ∃ l : List (List SV), (rs = [SV.agg [S s1, S s2, I x, SL 3 l]]) ∧ K (St.put (St.mk (M66 [(28, (SV.agg [SL 21 cs, I s, I a])), (29, (SL 1 [[I 1], [I 3]]))] g) (objs5 cs s a)) (some 30) (SV.agg [S s1, S s2, I x, SL 3 l])))) = aop Tryz.prog SgT SvT ops5 (op5 15) (St.mk (M66 [(28, (SV.agg [SL 21 cs, I s, I a])), (29, (SL 1 [[I 1], [I 3]]))] g) (objs5 cs s a)) K := by kernel_rfl
theorem o5_15 (cs : List (List SV)) (s a : Int) (F : Nat → FaD) (st : St) (ho : st.objs = objs5 cs s a) (hl : st.tmps.length = 66) (h28 : lget st.tmps 28 = (SV.agg [SL 21 cs, I s, I a])) (h29 : lget st.tmps 29 = (SL 1 [[I 1], [I 3]])) (K : St → Prop) (hc : Ct Tryz.prog 63 {} [S (bA [102, 117, 115, 101, 98, 111, 120, 95, 100, 117, 114, 97, 116, 105, 111, 110]), S (bA [84, 105, 99, 107, 115, 32, 116, 104, 97, 116, 32, 99, 97, 108, 108, 115, 32, 97, 110, 100, 32, 98, 97, 99, 107, 111, 102, 102, 115, 32, 116, 111, 111, 107, 46]), (SV.agg [SL 21 cs, I s, I a]), (SL 1 [[I 1], [I 3]])] (fun r => r = [(SV.agg (FaD.row (F 4)))])) (h : K (st.put (some 30) (SV.agg (FaD.row (F 4))))) : aop Tryz.prog SgT SvT ops5 (op5 15) st K := by
 obtain ⟨tmps, objs⟩ := st
 obtain rfl : objs = objs5 cs s a := ho
 have e := m66 (l := tmps) hl _ (k1 (show lget tmps 28 = _ from h28) (k1 (show lget tmps 29 = _ from h29) k0))
 rw [e] at h ⊢
 exact (e5_15 _ cs s a F K).mp (Cl.of hc ⟨_, _, _, _, rfl, h⟩)

theorem e5_16 (g : Nat → SV) (cs : List (List SV)) (s a : Int) (F : Nat → FaD) (K : St → Prop) : (K (St.put (St.mk (M66 [(1, (SV.ptr 128 0))] g) (objs5 cs s a)) (some 31) (SV.ptr 128 1))) = aop Tryz.prog SgT SvT ops5 (op5 16) (St.mk (M66 [(1, (SV.ptr 128 0))] g) (objs5 cs s a)) K := by kernel_rfl
theorem o5_16 (cs : List (List SV)) (s a : Int) (F : Nat → FaD) (st : St) (ho : st.objs = objs5 cs s a) (hl : st.tmps.length = 66) (h1 : lget st.tmps 1 = (SV.ptr 128 0)) (K : St → Prop) (h : K (st.put (some 31) (SV.ptr 128 1))) : aop Tryz.prog SgT SvT ops5 (op5 16) st K := by
 obtain ⟨tmps, objs⟩ := st
 obtain rfl : objs = objs5 cs s a := ho
 have e := m66 (l := tmps) hl _ (k1 (show lget tmps 1 = _ from h1) k0)
 rw [e] at h ⊢
 exact (e5_16 _ cs s a F K).mp h

theorem e5_17 (g : Nat → SV) (cs : List (List SV)) (s a : Int) (F : Nat → FaD) (K : St → Prop) : (K (St.put (St.mk (M66 [(31, (SV.ptr 128 1))] g) (objs5 cs s a)) (some 32) (I s))) = aop Tryz.prog SgT SvT ops5 (op5 17) (St.mk (M66 [(31, (SV.ptr 128 1))] g) (objs5 cs s a)) K := by kernel_rfl
theorem o5_17 (cs : List (List SV)) (s a : Int) (F : Nat → FaD) (st : St) (ho : st.objs = objs5 cs s a) (hl : st.tmps.length = 66) (h31 : lget st.tmps 31 = (SV.ptr 128 1)) (K : St → Prop) (h : K (st.put (some 32) (I s))) : aop Tryz.prog SgT SvT ops5 (op5 17) st K := by
 obtain ⟨tmps, objs⟩ := st
 obtain rfl : objs = objs5 cs s a := ho
 have e := m66 (l := tmps) hl _ (k1 (show lget tmps 31 = _ from h31) k0)
 rw [e] at h ⊢
 exact (e5_17 _ cs s a F K).mp h

theorem e5_18 (g : Nat → SV) (cs : List (List SV)) (s a : Int) (F : Nat → FaD) (K : St → Prop) : (Cl Tryz.prog 62 sP [S (bA [102, 117, 115, 101, 98, 111, 120, 95, 101, 118, 101, 110, 116, 115, 95, 116, 111, 116, 97, 108]), S (bA [69, 118, 101, 110, 116, 115, 32, 116, 104, 97, 116, 32, 119, 101, 114, 101, 32, 116, 111, 108, 100, 46]), I 1, I s] (fun (rs : List SV) => ∃ s1 : ByteArray, ∃ s2 : ByteArray, ∃ x : Int, ∃ l : List (List SV), (rs = [SV.agg [S s1, S s2, I x, SL 3 l]]) ∧ K (St.put (St.mk (M66 [(32, (I s))] g) (objs5 cs s a)) (some 33) (SV.agg [S s1, S s2, I x, SL 3 l])))) = aop Tryz.prog SgT SvT ops5 (op5 18) (St.mk (M66 [(32, (I s))] g) (objs5 cs s a)) K := by kernel_rfl
theorem o5_18 (cs : List (List SV)) (s a : Int) (F : Nat → FaD) (st : St) (ho : st.objs = objs5 cs s a) (hl : st.tmps.length = 66) (h32 : lget st.tmps 32 = (I s)) (K : St → Prop) (hc : Ct Tryz.prog 62 {} [S (bA [102, 117, 115, 101, 98, 111, 120, 95, 101, 118, 101, 110, 116, 115, 95, 116, 111, 116, 97, 108]), S (bA [69, 118, 101, 110, 116, 115, 32, 116, 104, 97, 116, 32, 119, 101, 114, 101, 32, 116, 111, 108, 100, 46]), I 1, I s] (fun r => r = [(SV.agg (FaD.row (F 5)))])) (h : K (st.put (some 33) (SV.agg (FaD.row (F 5))))) : aop Tryz.prog SgT SvT ops5 (op5 18) st K := by
 obtain ⟨tmps, objs⟩ := st
 obtain rfl : objs = objs5 cs s a := ho
 have e := m66 (l := tmps) hl _ (k1 (show lget tmps 32 = _ from h32) k0)
 rw [e] at h ⊢
 exact (e5_18 _ cs s a F K).mp (Cl.of hc ⟨_, _, _, _, rfl, h⟩)

theorem e5_19 (g : Nat → SV) (cs : List (List SV)) (s a : Int) (F : Nat → FaD) (K : St → Prop) : (K (St.put (St.mk (M66 [(1, (SV.ptr 128 0))] g) (objs5 cs s a)) (some 34) (SV.ptr 128 2))) = aop Tryz.prog SgT SvT ops5 (op5 19) (St.mk (M66 [(1, (SV.ptr 128 0))] g) (objs5 cs s a)) K := by kernel_rfl
theorem o5_19 (cs : List (List SV)) (s a : Int) (F : Nat → FaD) (st : St) (ho : st.objs = objs5 cs s a) (hl : st.tmps.length = 66) (h1 : lget st.tmps 1 = (SV.ptr 128 0)) (K : St → Prop) (h : K (st.put (some 34) (SV.ptr 128 2))) : aop Tryz.prog SgT SvT ops5 (op5 19) st K := by
 obtain ⟨tmps, objs⟩ := st
 obtain rfl : objs = objs5 cs s a := ho
 have e := m66 (l := tmps) hl _ (k1 (show lget tmps 1 = _ from h1) k0)
 rw [e] at h ⊢
 exact (e5_19 _ cs s a F K).mp h

theorem e5_20 (g : Nat → SV) (cs : List (List SV)) (s a : Int) (F : Nat → FaD) (K : St → Prop) : (K (St.put (St.mk (M66 [(34, (SV.ptr 128 2))] g) (objs5 cs s a)) (some 35) (I a))) = aop Tryz.prog SgT SvT ops5 (op5 20) (St.mk (M66 [(34, (SV.ptr 128 2))] g) (objs5 cs s a)) K := by kernel_rfl
theorem o5_20 (cs : List (List SV)) (s a : Int) (F : Nat → FaD) (st : St) (ho : st.objs = objs5 cs s a) (hl : st.tmps.length = 66) (h34 : lget st.tmps 34 = (SV.ptr 128 2)) (K : St → Prop) (h : K (st.put (some 35) (I a))) : aop Tryz.prog SgT SvT ops5 (op5 20) st K := by
 obtain ⟨tmps, objs⟩ := st
 obtain rfl : objs = objs5 cs s a := ho
 have e := m66 (l := tmps) hl _ (k1 (show lget tmps 34 = _ from h34) k0)
 rw [e] at h ⊢
 exact (e5_20 _ cs s a F K).mp h

theorem e5_21 (g : Nat → SV) (cs : List (List SV)) (s a : Int) (F : Nat → FaD) (K : St → Prop) : (Cl Tryz.prog 62 sP [S (bA [102, 117, 115, 101, 98, 111, 120, 95, 108, 97, 115, 116, 95, 116, 105, 109, 101]), S (bA [84, 105, 109, 101, 32, 111, 102, 32, 116, 104, 101, 32, 108, 97, 115, 116, 32, 101, 118, 101, 110, 116, 46]), I 2, I a] (fun (rs : List SV) => ∃ s1 : ByteArray, ∃ s2 : ByteArray, ∃ x : Int, ∃ l : List (List SV), (rs = [SV.agg [S s1, S s2, I x, SL 3 l]]) ∧ K (St.put (St.mk (M66 [(35, (I a))] g) (objs5 cs s a)) (some 36) (SV.agg [S s1, S s2, I x, SL 3 l])))) = aop Tryz.prog SgT SvT ops5 (op5 21) (St.mk (M66 [(35, (I a))] g) (objs5 cs s a)) K := by kernel_rfl
theorem o5_21 (cs : List (List SV)) (s a : Int) (F : Nat → FaD) (st : St) (ho : st.objs = objs5 cs s a) (hl : st.tmps.length = 66) (h35 : lget st.tmps 35 = (I a)) (K : St → Prop) (hc : Ct Tryz.prog 62 {} [S (bA [102, 117, 115, 101, 98, 111, 120, 95, 108, 97, 115, 116, 95, 116, 105, 109, 101]), S (bA [84, 105, 109, 101, 32, 111, 102, 32, 116, 104, 101, 32, 108, 97, 115, 116, 32, 101, 118, 101, 110, 116, 46]), I 2, I a] (fun r => r = [(SV.agg (FaD.row (F 6)))])) (h : K (st.put (some 36) (SV.agg (FaD.row (F 6))))) : aop Tryz.prog SgT SvT ops5 (op5 21) st K := by
 obtain ⟨tmps, objs⟩ := st
 obtain rfl : objs = objs5 cs s a := ho
 have e := m66 (l := tmps) hl _ (k1 (show lget tmps 35 = _ from h35) k0)
 rw [e] at h ⊢
 exact (e5_21 _ cs s a F K).mp (Cl.of hc ⟨_, _, _, _, rfl, h⟩)

theorem e5_22 (g : Nat → SV) (cs : List (List SV)) (s a : Int) (F : Nat → FaD) (K : St → Prop) : (K (St.put (St.mk (M66 [(1, (SV.ptr 128 0))] g) (objs5 cs s a)) (some 37) (SV.agg [SL 21 cs, I s, I a]))) = aop Tryz.prog SgT SvT ops5 (op5 22) (St.mk (M66 [(1, (SV.ptr 128 0))] g) (objs5 cs s a)) K := by kernel_rfl
theorem o5_22 (cs : List (List SV)) (s a : Int) (F : Nat → FaD) (st : St) (ho : st.objs = objs5 cs s a) (hl : st.tmps.length = 66) (h1 : lget st.tmps 1 = (SV.ptr 128 0)) (K : St → Prop) (h : K (st.put (some 37) (SV.agg [SL 21 cs, I s, I a]))) : aop Tryz.prog SgT SvT ops5 (op5 22) st K := by
 obtain ⟨tmps, objs⟩ := st
 obtain rfl : objs = objs5 cs s a := ho
 have e := m66 (l := tmps) hl _ (k1 (show lget tmps 1 = _ from h1) k0)
 rw [e] at h ⊢
 exact (e5_22 _ cs s a F K).mp h

theorem e5_23 (g : Nat → SV) (cs : List (List SV)) (s a : Int) (F : Nat → FaD) (K : St → Prop) : (K (pureOps [.tmp 38] (St.put (St.bind (St.mk (M66 [] g) (objs5 cs s a)) 4928 (.own 1 [[S (bA [97, 100, 109, 105, 116])], [S (bA [114, 101, 106, 101, 99, 116])], [S (bA [114, 101, 102, 105, 108, 108])]])) (some 38) (.osl 4928)))) = aop Tryz.prog SgT SvT ops5 (op5 23) (St.mk (M66 [] g) (objs5 cs s a)) K := by kernel_rfl
theorem o5_23 (cs : List (List SV)) (s a : Int) (F : Nat → FaD) (st : St) (ho : st.objs = objs5 cs s a) (hl : st.tmps.length = 66)  (K : St → Prop) (hk : ∀ x ∈ st.tmps, hmap (killG 4928) x = x) (hf : ∀ x ∈ st.tmps, hmap (frzG 4928 1 [[S (bA [97, 100, 109, 105, 116])], [S (bA [114, 101, 106, 101, 99, 116])], [S (bA [114, 101, 102, 105, 108, 108])]]) x = x) (hg : ∀ x ∈ st.tmps, ∀ t w v, x ≠ .gd t w v) (h : K (st.put (some 38) (SL 1 [[S (bA [97, 100, 109, 105, 116])], [S (bA [114, 101, 106, 101, 99, 116])], [S (bA [114, 101, 102, 105, 108, 108])]]))) : aop Tryz.prog SgT SvT ops5 (op5 23) st K := by
 obtain ⟨tmps, objs⟩ := st
 obtain rfl : objs = objs5 cs s a := ho
 have hb := @build_plain (St.mk tmps (objs5 cs s a)) 4928 1 38 [[S (bA [97, 100, 109, 105, 116])], [S (bA [114, 101, 106, 101, 99, 116])], [S (bA [114, 101, 102, 105, 108, 108])]] (by show 38 < tmps.length; rw [hl]; decide) hk hf hg rfl rfl
 rw [← hb] at h
 clear hb hk hf hg
 have e := m66 (l := tmps) hl _ k0
 rw [e] at h ⊢
 exact (e5_23 _ cs s a F K).mp h

theorem e5_24 (g : Nat → SV) (cs : List (List SV)) (s a : Int) (F : Nat → FaD) (K : St → Prop) : (Cl Tryz.prog 61 sP [S (bA [102, 117, 115, 101, 98, 111, 120, 95, 108, 105, 109, 105, 116, 101, 100, 95, 116, 111, 116, 97, 108]), S (bA [68, 101, 99, 105, 115, 105, 111, 110, 115, 32, 111, 102, 32, 108, 105, 109, 105, 116, 101, 114, 115, 46]), (SV.agg [SL 21 cs, I s, I a]), I 2, S (bA [100, 101, 99, 105, 115, 105, 111, 110]), (SL 1 [[S (bA [97, 100, 109, 105, 116])], [S (bA [114, 101, 106, 101, 99, 116])], [S (bA [114, 101, 102, 105, 108, 108])]])] (fun (rs : List SV) => ∃ s1 : ByteArray, ∃ s2 : ByteArray, ∃ x : Int, ∃ l : List (List SV), (rs = [SV.agg [S s1, S s2, I x, SL 3 l]]) ∧ K (St.put (St.mk (M66 [(37, (SV.agg [SL 21 cs, I s, I a])), (38, (SL 1 [[S (bA [97, 100, 109, 105, 116])], [S (bA [114, 101, 106, 101, 99, 116])], [S (bA [114, 101, 102, 105, 108, 108])]]))] g) (objs5 cs s a)) (some 39) (SV.agg [S s1, S s2, I x, SL 3 l])))) = aop Tryz.prog SgT SvT ops5 (op5 24) (St.mk (M66 [(37, (SV.agg [SL 21 cs, I s, I a])), (38, (SL 1 [[S (bA [97, 100, 109, 105, 116])], [S (bA [114, 101, 106, 101, 99, 116])], [S (bA [114, 101, 102, 105, 108, 108])]]))] g) (objs5 cs s a)) K := by kernel_rfl
theorem o5_24 (cs : List (List SV)) (s a : Int) (F : Nat → FaD) (st : St) (ho : st.objs = objs5 cs s a) (hl : st.tmps.length = 66) (h37 : lget st.tmps 37 = (SV.agg [SL 21 cs, I s, I a])) (h38 : lget st.tmps 38 = (SL 1 [[S (bA [97, 100, 109, 105, 116])], [S (bA [114, 101, 106, 101, 99, 116])], [S (bA [114, 101, 102, 105, 108, 108])]])) (K : St → Prop) (hc : Ct Tryz.prog 61 {} [S (bA [102, 117, 115, 101, 98, 111, 120, 95, 108, 105, 109, 105, 116, 101, 100, 95, 116, 111, 116, 97, 108]), S (bA [68, 101, 99, 105, 115, 105, 111, 110, 115, 32, 111, 102, 32, 108, 105, 109, 105, 116, 101, 114, 115, 46]), (SV.agg [SL 21 cs, I s, I a]), I 2, S (bA [100, 101, 99, 105, 115, 105, 111, 110]), (SL 1 [[S (bA [97, 100, 109, 105, 116])], [S (bA [114, 101, 106, 101, 99, 116])], [S (bA [114, 101, 102, 105, 108, 108])]])] (fun r => r = [(SV.agg (FaD.row (F 7)))])) (h : K (st.put (some 39) (SV.agg (FaD.row (F 7))))) : aop Tryz.prog SgT SvT ops5 (op5 24) st K := by
 obtain ⟨tmps, objs⟩ := st
 obtain rfl : objs = objs5 cs s a := ho
 have e := m66 (l := tmps) hl _ (k1 (show lget tmps 37 = _ from h37) (k1 (show lget tmps 38 = _ from h38) k0))
 rw [e] at h ⊢
 exact (e5_24 _ cs s a F K).mp (Cl.of hc ⟨_, _, _, _, rfl, h⟩)

theorem e5_25 (g : Nat → SV) (cs : List (List SV)) (s a : Int) (F : Nat → FaD) (K : St → Prop) : (K (St.put (St.mk (M66 [(1, (SV.ptr 128 0))] g) (objs5 cs s a)) (some 40) (SV.agg [SL 21 cs, I s, I a]))) = aop Tryz.prog SgT SvT ops5 (op5 25) (St.mk (M66 [(1, (SV.ptr 128 0))] g) (objs5 cs s a)) K := by kernel_rfl
theorem o5_25 (cs : List (List SV)) (s a : Int) (F : Nat → FaD) (st : St) (ho : st.objs = objs5 cs s a) (hl : st.tmps.length = 66) (h1 : lget st.tmps 1 = (SV.ptr 128 0)) (K : St → Prop) (h : K (st.put (some 40) (SV.agg [SL 21 cs, I s, I a]))) : aop Tryz.prog SgT SvT ops5 (op5 25) st K := by
 obtain ⟨tmps, objs⟩ := st
 obtain rfl : objs = objs5 cs s a := ho
 have e := m66 (l := tmps) hl _ (k1 (show lget tmps 1 = _ from h1) k0)
 rw [e] at h ⊢
 exact (e5_25 _ cs s a F K).mp h

theorem e5_26 (g : Nat → SV) (cs : List (List SV)) (s a : Int) (F : Nat → FaD) (K : St → Prop) : (K (St.put (St.mk (M66 [(5, (SL 1 [[I 1], [I 3]]))] g) (objs5 cs s a)) (some 41) (SL 1 [[I 1], [I 3]]))) = aop Tryz.prog SgT SvT ops5 (op5 26) (St.mk (M66 [(5, (SL 1 [[I 1], [I 3]]))] g) (objs5 cs s a)) K := by kernel_rfl
theorem o5_26 (cs : List (List SV)) (s a : Int) (F : Nat → FaD) (st : St) (ho : st.objs = objs5 cs s a) (hl : st.tmps.length = 66) (h5 : lget st.tmps 5 = (SL 1 [[I 1], [I 3]])) (K : St → Prop) (h : K (st.put (some 41) (SL 1 [[I 1], [I 3]]))) : aop Tryz.prog SgT SvT ops5 (op5 26) st K := by
 obtain ⟨tmps, objs⟩ := st
 obtain rfl : objs = objs5 cs s a := ho
 have e := m66 (l := tmps) hl _ (k1 (show lget tmps 5 = _ from h5) k0)
 rw [e] at h ⊢
 exact (e5_26 _ cs s a F K).mp h

theorem e5_27 (g : Nat → SV) (cs : List (List SV)) (s a : Int) (F : Nat → FaD) (K : St → Prop) : (Cl Tryz.prog 58 sP [S (bA [102, 117, 115, 101, 98, 111, 120, 95, 109, 111, 100, 101]), S (bA [77, 111, 100, 101, 32, 111, 102, 32, 97, 32, 98, 114, 101, 97, 107, 101, 114, 44, 32, 111, 114, 32, 116, 104, 101, 32, 108, 97, 115, 116, 32, 97, 116, 116, 101, 109, 112, 116, 32, 111, 102, 32, 97, 32, 114, 101, 116, 114, 105, 101, 114, 46]), (SV.agg [SL 21 cs, I s, I a]), (SL 1 [[I 1], [I 3]]), .clo 64 []] (fun (rs : List SV) => ∃ s1 : ByteArray, ∃ s2 : ByteArray, ∃ x : Int, ∃ l : List (List SV), (rs = [SV.agg [S s1, S s2, I x, SL 3 l]]) ∧ K (St.put (St.mk (M66 [(40, (SV.agg [SL 21 cs, I s, I a])), (41, (SL 1 [[I 1], [I 3]]))] g) (objs5 cs s a)) (some 42) (SV.agg [S s1, S s2, I x, SL 3 l])))) = aop Tryz.prog SgT SvT ops5 (op5 27) (St.mk (M66 [(40, (SV.agg [SL 21 cs, I s, I a])), (41, (SL 1 [[I 1], [I 3]]))] g) (objs5 cs s a)) K := by kernel_rfl
theorem o5_27 (cs : List (List SV)) (s a : Int) (F : Nat → FaD) (st : St) (ho : st.objs = objs5 cs s a) (hl : st.tmps.length = 66) (h40 : lget st.tmps 40 = (SV.agg [SL 21 cs, I s, I a])) (h41 : lget st.tmps 41 = (SL 1 [[I 1], [I 3]])) (K : St → Prop) (hc : Ct Tryz.prog 58 {} [S (bA [102, 117, 115, 101, 98, 111, 120, 95, 109, 111, 100, 101]), S (bA [77, 111, 100, 101, 32, 111, 102, 32, 97, 32, 98, 114, 101, 97, 107, 101, 114, 44, 32, 111, 114, 32, 116, 104, 101, 32, 108, 97, 115, 116, 32, 97, 116, 116, 101, 109, 112, 116, 32, 111, 102, 32, 97, 32, 114, 101, 116, 114, 105, 101, 114, 46]), (SV.agg [SL 21 cs, I s, I a]), (SL 1 [[I 1], [I 3]]), .clo 64 []] (fun r => r = [(SV.agg (FaD.row (F 8)))])) (h : K (st.put (some 42) (SV.agg (FaD.row (F 8))))) : aop Tryz.prog SgT SvT ops5 (op5 27) st K := by
 obtain ⟨tmps, objs⟩ := st
 obtain rfl : objs = objs5 cs s a := ho
 have e := m66 (l := tmps) hl _ (k1 (show lget tmps 40 = _ from h40) (k1 (show lget tmps 41 = _ from h41) k0))
 rw [e] at h ⊢
 exact (e5_27 _ cs s a F K).mp (Cl.of hc ⟨_, _, _, _, rfl, h⟩)

theorem e5_28 (g : Nat → SV) (cs : List (List SV)) (s a : Int) (F : Nat → FaD) (K : St → Prop) : (K (St.put (St.mk (M66 [(1, (SV.ptr 128 0))] g) (objs5 cs s a)) (some 43) (SV.agg [SL 21 cs, I s, I a]))) = aop Tryz.prog SgT SvT ops5 (op5 28) (St.mk (M66 [(1, (SV.ptr 128 0))] g) (objs5 cs s a)) K := by kernel_rfl
theorem o5_28 (cs : List (List SV)) (s a : Int) (F : Nat → FaD) (st : St) (ho : st.objs = objs5 cs s a) (hl : st.tmps.length = 66) (h1 : lget st.tmps 1 = (SV.ptr 128 0)) (K : St → Prop) (h : K (st.put (some 43) (SV.agg [SL 21 cs, I s, I a]))) : aop Tryz.prog SgT SvT ops5 (op5 28) st K := by
 obtain ⟨tmps, objs⟩ := st
 obtain rfl : objs = objs5 cs s a := ho
 have e := m66 (l := tmps) hl _ (k1 (show lget tmps 1 = _ from h1) k0)
 rw [e] at h ⊢
 exact (e5_28 _ cs s a F K).mp h

theorem e5_29 (g : Nat → SV) (cs : List (List SV)) (s a : Int) (F : Nat → FaD) (K : St → Prop) : (K (pureOps [.tmp 44] (St.put (St.bind (St.mk (M66 [] g) (objs5 cs s a)) 5696 (.own 1 [[S (bA [97, 116, 116, 101, 109, 112, 116])], [S (bA [98, 97, 99, 107, 111, 102, 102])], [S (bA [103, 105, 118, 101, 117, 112])]])) (some 44) (.osl 5696)))) = aop Tryz.prog SgT SvT ops5 (op5 29) (St.mk (M66 [] g) (objs5 cs s a)) K := by kernel_rfl
theorem o5_29 (cs : List (List SV)) (s a : Int) (F : Nat → FaD) (st : St) (ho : st.objs = objs5 cs s a) (hl : st.tmps.length = 66)  (K : St → Prop) (hk : ∀ x ∈ st.tmps, hmap (killG 5696) x = x) (hf : ∀ x ∈ st.tmps, hmap (frzG 5696 1 [[S (bA [97, 116, 116, 101, 109, 112, 116])], [S (bA [98, 97, 99, 107, 111, 102, 102])], [S (bA [103, 105, 118, 101, 117, 112])]]) x = x) (hg : ∀ x ∈ st.tmps, ∀ t w v, x ≠ .gd t w v) (h : K (st.put (some 44) (SL 1 [[S (bA [97, 116, 116, 101, 109, 112, 116])], [S (bA [98, 97, 99, 107, 111, 102, 102])], [S (bA [103, 105, 118, 101, 117, 112])]]))) : aop Tryz.prog SgT SvT ops5 (op5 29) st K := by
 obtain ⟨tmps, objs⟩ := st
 obtain rfl : objs = objs5 cs s a := ho
 have hb := @build_plain (St.mk tmps (objs5 cs s a)) 5696 1 44 [[S (bA [97, 116, 116, 101, 109, 112, 116])], [S (bA [98, 97, 99, 107, 111, 102, 102])], [S (bA [103, 105, 118, 101, 117, 112])]] (by show 44 < tmps.length; rw [hl]; decide) hk hf hg rfl rfl
 rw [← hb] at h
 clear hb hk hf hg
 have e := m66 (l := tmps) hl _ k0
 rw [e] at h ⊢
 exact (e5_29 _ cs s a F K).mp h

theorem e5_30 (g : Nat → SV) (cs : List (List SV)) (s a : Int) (F : Nat → FaD) (K : St → Prop) : (Cl Tryz.prog 61 sP [S (bA [102, 117, 115, 101, 98, 111, 120, 95, 114, 101, 116, 114, 105, 101, 115, 95, 116, 111, 116, 97, 108]), S (bA [83, 116, 101, 112, 115, 32, 111, 102, 32, 114, 101, 116, 114, 105, 101, 114, 115, 46]), (SV.agg [SL 21 cs, I s, I a]), I 3, S (bA [115, 116, 101, 112]), (SL 1 [[S (bA [97, 116, 116, 101, 109, 112, 116])], [S (bA [98, 97, 99, 107, 111, 102, 102])], [S (bA [103, 105, 118, 101, 117, 112])]])] (fun (rs : List SV) => ∃ s1 : ByteArray, ∃ s2 : ByteArray, ∃ x : Int, ∃ l : List (List SV), (rs = [SV.agg [S s1, S s2, I x, SL 3 l]]) ∧ K (St.put (St.mk (M66 [(43, (SV.agg [SL 21 cs, I s, I a])), (44, (SL 1 [[S (bA [97, 116, 116, 101, 109, 112, 116])], [S (bA [98, 97, 99, 107, 111, 102, 102])], [S (bA [103, 105, 118, 101, 117, 112])]]))] g) (objs5 cs s a)) (some 45) (SV.agg [S s1, S s2, I x, SL 3 l])))) = aop Tryz.prog SgT SvT ops5 (op5 30) (St.mk (M66 [(43, (SV.agg [SL 21 cs, I s, I a])), (44, (SL 1 [[S (bA [97, 116, 116, 101, 109, 112, 116])], [S (bA [98, 97, 99, 107, 111, 102, 102])], [S (bA [103, 105, 118, 101, 117, 112])]]))] g) (objs5 cs s a)) K := by kernel_rfl
theorem o5_30 (cs : List (List SV)) (s a : Int) (F : Nat → FaD) (st : St) (ho : st.objs = objs5 cs s a) (hl : st.tmps.length = 66) (h43 : lget st.tmps 43 = (SV.agg [SL 21 cs, I s, I a])) (h44 : lget st.tmps 44 = (SL 1 [[S (bA [97, 116, 116, 101, 109, 112, 116])], [S (bA [98, 97, 99, 107, 111, 102, 102])], [S (bA [103, 105, 118, 101, 117, 112])]])) (K : St → Prop) (hc : Ct Tryz.prog 61 {} [S (bA [102, 117, 115, 101, 98, 111, 120, 95, 114, 101, 116, 114, 105, 101, 115, 95, 116, 111, 116, 97, 108]), S (bA [83, 116, 101, 112, 115, 32, 111, 102, 32, 114, 101, 116, 114, 105, 101, 114, 115, 46]), (SV.agg [SL 21 cs, I s, I a]), I 3, S (bA [115, 116, 101, 112]), (SL 1 [[S (bA [97, 116, 116, 101, 109, 112, 116])], [S (bA [98, 97, 99, 107, 111, 102, 102])], [S (bA [103, 105, 118, 101, 117, 112])]])] (fun r => r = [(SV.agg (FaD.row (F 9)))])) (h : K (st.put (some 45) (SV.agg (FaD.row (F 9))))) : aop Tryz.prog SgT SvT ops5 (op5 30) st K := by
 obtain ⟨tmps, objs⟩ := st
 obtain rfl : objs = objs5 cs s a := ho
 have e := m66 (l := tmps) hl _ (k1 (show lget tmps 43 = _ from h43) (k1 (show lget tmps 44 = _ from h44) k0))
 rw [e] at h ⊢
 exact (e5_30 _ cs s a F K).mp (Cl.of hc ⟨_, _, _, _, rfl, h⟩)

theorem e5_31 (g : Nat → SV) (cs : List (List SV)) (s a : Int) (F : Nat → FaD) (K : St → Prop) : (K (St.put (St.mk (M66 [(1, (SV.ptr 128 0))] g) (objs5 cs s a)) (some 46) (SV.agg [SL 21 cs, I s, I a]))) = aop Tryz.prog SgT SvT ops5 (op5 31) (St.mk (M66 [(1, (SV.ptr 128 0))] g) (objs5 cs s a)) K := by kernel_rfl
theorem o5_31 (cs : List (List SV)) (s a : Int) (F : Nat → FaD) (st : St) (ho : st.objs = objs5 cs s a) (hl : st.tmps.length = 66) (h1 : lget st.tmps 1 = (SV.ptr 128 0)) (K : St → Prop) (h : K (st.put (some 46) (SV.agg [SL 21 cs, I s, I a]))) : aop Tryz.prog SgT SvT ops5 (op5 31) st K := by
 obtain ⟨tmps, objs⟩ := st
 obtain rfl : objs = objs5 cs s a := ho
 have e := m66 (l := tmps) hl _ (k1 (show lget tmps 1 = _ from h1) k0)
 rw [e] at h ⊢
 exact (e5_31 _ cs s a F K).mp h

theorem e5_32 (g : Nat → SV) (cs : List (List SV)) (s a : Int) (F : Nat → FaD) (K : St → Prop) : (K (pureOps [.tmp 47] (St.put (St.bind (St.mk (M66 [] g) (objs5 cs s a)) 6080 (.own 1 [[I 1]])) (some 47) (.osl 6080)))) = aop Tryz.prog SgT SvT ops5 (op5 32) (St.mk (M66 [] g) (objs5 cs s a)) K := by kernel_rfl
theorem o5_32 (cs : List (List SV)) (s a : Int) (F : Nat → FaD) (st : St) (ho : st.objs = objs5 cs s a) (hl : st.tmps.length = 66)  (K : St → Prop) (hk : ∀ x ∈ st.tmps, hmap (killG 6080) x = x) (hf : ∀ x ∈ st.tmps, hmap (frzG 6080 1 [[I 1]]) x = x) (hg : ∀ x ∈ st.tmps, ∀ t w v, x ≠ .gd t w v) (h : K (st.put (some 47) (SL 1 [[I 1]]))) : aop Tryz.prog SgT SvT ops5 (op5 32) st K := by
 obtain ⟨tmps, objs⟩ := st
 obtain rfl : objs = objs5 cs s a := ho
 have hb := @build_plain (St.mk tmps (objs5 cs s a)) 6080 1 47 [[I 1]] (by show 47 < tmps.length; rw [hl]; decide) hk hf hg rfl rfl
 rw [← hb] at h
 clear hb hk hf hg
 have e := m66 (l := tmps) hl _ k0
 rw [e] at h ⊢
 exact (e5_32 _ cs s a F K).mp h

theorem e5_33 (g : Nat → SV) (cs : List (List SV)) (s a : Int) (F : Nat → FaD) (K : St → Prop) : (Cl Tryz.prog 58 sP [S (bA [102, 117, 115, 101, 98, 111, 120, 95, 119, 105, 110, 100, 111, 119, 95, 112, 97, 114, 116]), S (bA [84, 104, 111, 117, 115, 97, 110, 100, 116, 104, 115, 32, 111, 102, 32, 108, 97, 116, 101, 32, 99, 97, 108, 108, 115, 32, 116, 104, 97, 116, 32, 119, 101, 110, 116, 32, 119, 114, 111, 110, 103, 46]), (SV.agg [SL 21 cs, I s, I a]), (SL 1 [[I 1]]), .clo 65 []] (fun (rs : List SV) => ∃ s1 : ByteArray, ∃ s2 : ByteArray, ∃ x : Int, ∃ l : List (List SV), (rs = [SV.agg [S s1, S s2, I x, SL 3 l]]) ∧ K (St.put (St.mk (M66 [(46, (SV.agg [SL 21 cs, I s, I a])), (47, (SL 1 [[I 1]]))] g) (objs5 cs s a)) (some 48) (SV.agg [S s1, S s2, I x, SL 3 l])))) = aop Tryz.prog SgT SvT ops5 (op5 33) (St.mk (M66 [(46, (SV.agg [SL 21 cs, I s, I a])), (47, (SL 1 [[I 1]]))] g) (objs5 cs s a)) K := by kernel_rfl
theorem o5_33 (cs : List (List SV)) (s a : Int) (F : Nat → FaD) (st : St) (ho : st.objs = objs5 cs s a) (hl : st.tmps.length = 66) (h46 : lget st.tmps 46 = (SV.agg [SL 21 cs, I s, I a])) (h47 : lget st.tmps 47 = (SL 1 [[I 1]])) (K : St → Prop) (hc : Ct Tryz.prog 58 {} [S (bA [102, 117, 115, 101, 98, 111, 120, 95, 119, 105, 110, 100, 111, 119, 95, 112, 97, 114, 116]), S (bA [84, 104, 111, 117, 115, 97, 110, 100, 116, 104, 115, 32, 111, 102, 32, 108, 97, 116, 101, 32, 99, 97, 108, 108, 115, 32, 116, 104, 97, 116, 32, 119, 101, 110, 116, 32, 119, 114, 111, 110, 103, 46]), (SV.agg [SL 21 cs, I s, I a]), (SL 1 [[I 1]]), .clo 65 []] (fun r => r = [(SV.agg (FaD.row (F 10)))])) (h : K (st.put (some 48) (SV.agg (FaD.row (F 10))))) : aop Tryz.prog SgT SvT ops5 (op5 33) st K := by
 obtain ⟨tmps, objs⟩ := st
 obtain rfl : objs = objs5 cs s a := ho
 have e := m66 (l := tmps) hl _ (k1 (show lget tmps 46 = _ from h46) (k1 (show lget tmps 47 = _ from h47) k0))
 rw [e] at h ⊢
 exact (e5_33 _ cs s a F K).mp (Cl.of hc ⟨_, _, _, _, rfl, h⟩)

theorem e5_34 (g : Nat → SV) (cs : List (List SV)) (s a : Int) (F : Nat → FaD) (K : St → Prop) : (K (pureOps [.tmp 49] (St.put (St.bind (St.mk (M66 [(17, (SV.agg (FaD.row (F 0)))), (20, (SV.agg (FaD.row (F 1)))), (23, (SV.agg (FaD.row (F 2)))), (27, (SV.agg (FaD.row (F 3)))), (30, (SV.agg (FaD.row (F 4)))), (33, (SV.agg (FaD.row (F 5)))), (36, (SV.agg (FaD.row (F 6)))), (39, (SV.agg (FaD.row (F 7)))), (42, (SV.agg (FaD.row (F 8)))), (45, (SV.agg (FaD.row (F 9)))), (48, (SV.agg (FaD.row (F 10))))] g) (objs5 cs s a)) 6336 (.own 4 [FaD.row (F 0), FaD.row (F 1), FaD.row (F 2), FaD.row (F 3), FaD.row (F 4), FaD.row (F 5), FaD.row (F 6), FaD.row (F 7), FaD.row (F 8), FaD.row (F 9), FaD.row (F 10)])) (some 49) (.osl 6336)))) = aop Tryz.prog SgT SvT ops5 (op5 34) (St.mk (M66 [(17, (SV.agg (FaD.row (F 0)))), (20, (SV.agg (FaD.row (F 1)))), (23, (SV.agg (FaD.row (F 2)))), (27, (SV.agg (FaD.row (F 3)))), (30, (SV.agg (FaD.row (F 4)))), (33, (SV.agg (FaD.row (F 5)))), (36, (SV.agg (FaD.row (F 6)))), (39, (SV.agg (FaD.row (F 7)))), (42, (SV.agg (FaD.row (F 8)))), (45, (SV.agg (FaD.row (F 9)))), (48, (SV.agg (FaD.row (F 10))))] g) (objs5 cs s a)) K := by kernel_rfl
set_option maxHeartbeats 4000000 in
theorem o5_34 (cs : List (List SV)) (s a : Int) (F : Nat → FaD) (st : St) (ho : st.objs = objs5 cs s a) (hl : st.tmps.length = 66) (h17 : lget st.tmps 17 = (SV.agg (FaD.row (F 0)))) (h20 : lget st.tmps 20 = (SV.agg (FaD.row (F 1)))) (h23 : lget st.tmps 23 = (SV.agg (FaD.row (F 2)))) (h27 : lget st.tmps 27 = (SV.agg (FaD.row (F 3)))) (h30 : lget st.tmps 30 = (SV.agg (FaD.row (F 4)))) (h33 : lget st.tmps 33 = (SV.agg (FaD.row (F 5)))) (h36 : lget st.tmps 36 = (SV.agg (FaD.row (F 6)))) (h39 : lget st.tmps 39 = (SV.agg (FaD.row (F 7)))) (h42 : lget st.tmps 42 = (SV.agg (FaD.row (F 8)))) (h45 : lget st.tmps 45 = (SV.agg (FaD.row (F 9)))) (h48 : lget st.tmps 48 = (SV.agg (FaD.row (F 10)))) (K : St → Prop) (hk : ∀ x ∈ st.tmps, hmap (killG 6336) x = x) (hf : ∀ x ∈ st.tmps, hmap (frzG 6336 4 [FaD.row (F 0), FaD.row (F 1), FaD.row (F 2), FaD.row (F 3), FaD.row (F 4), FaD.row (F 5), FaD.row (F 6), FaD.row (F 7), FaD.row (F 8), FaD.row (F 9), FaD.row (F 10)]) x = x) (hg : ∀ x ∈ st.tmps, ∀ t w v, x ≠ .gd t w v) (h : K (st.put (some 49) (SL 4 [FaD.row (F 0), FaD.row (F 1), FaD.row (F 2), FaD.row (F 3), FaD.row (F 4), FaD.row (F 5), FaD.row (F 6), FaD.row (F 7), FaD.row (F 8), FaD.row (F 9), FaD.row (F 10)]))) : aop Tryz.prog SgT SvT ops5 (op5 34) st K := by
 obtain ⟨tmps, objs⟩ := st
 obtain rfl : objs = objs5 cs s a := ho
 have hb := @build_plain (St.mk tmps (objs5 cs s a)) 6336 4 49 [FaD.row (F 0), FaD.row (F 1), FaD.row (F 2), FaD.row (F 3), FaD.row (F 4), FaD.row (F 5), FaD.row (F 6), FaD.row (F 7), FaD.row (F 8), FaD.row (F 9), FaD.row (F 10)] (by show 49 < tmps.length; rw [hl]; decide) hk hf hg rfl rfl
 rw [← hb] at h
 clear hb hk hf hg
 have e := m66 (l := tmps) hl _ (k1 (show lget tmps 17 = _ from h17) (k1 (show lget tmps 20 = _ from h20) (k1 (show lget tmps 23 = _ from h23) (k1 (show lget tmps 27 = _ from h27) (k1 (show lget tmps 30 = _ from h30) (k1 (show lget tmps 33 = _ from h33) (k1 (show lget tmps 36 = _ from h36) (k1 (show lget tmps 39 = _ from h39) (k1 (show lget tmps 42 = _ from h42) (k1 (show lget tmps 45 = _ from h45) (k1 (show lget tmps 48 = _ from h48) k0)))))))))))
 rw [e] at h ⊢
 exact (e5_34 _ cs s a F K).mp h

theorem e5_35 (g : Nat → SV) (cs : List (List SV)) (s a : Int) (F : Nat → FaD) (K : St → Prop) : (K (St.put (St.mk (M66 [(49, (SL 4 [FaD.row (F 0), FaD.row (F 1), FaD.row (F 2), FaD.row (F 3), FaD.row (F 4), FaD.row (F 5), FaD.row (F 6), FaD.row (F 7), FaD.row (F 8), FaD.row (F 9), FaD.row (F 10)]))] g) (objs5 cs s a)) (some 6) (SL 4 [FaD.row (F 0), FaD.row (F 1), FaD.row (F 2), FaD.row (F 3), FaD.row (F 4), FaD.row (F 5), FaD.row (F 6), FaD.row (F 7), FaD.row (F 8), FaD.row (F 9), FaD.row (F 10)]))) = aop Tryz.prog SgT SvT ops5 (op5 35) (St.mk (M66 [(49, (SL 4 [FaD.row (F 0), FaD.row (F 1), FaD.row (F 2), FaD.row (F 3), FaD.row (F 4), FaD.row (F 5), FaD.row (F 6), FaD.row (F 7), FaD.row (F 8), FaD.row (F 9), FaD.row (F 10)]))] g) (objs5 cs s a)) K := by kernel_rfl
theorem o5_35 (cs : List (List SV)) (s a : Int) (F : Nat → FaD) (st : St) (ho : st.objs = objs5 cs s a) (hl : st.tmps.length = 66) (h49 : lget st.tmps 49 = (SL 4 [FaD.row (F 0), FaD.row (F 1), FaD.row (F 2), FaD.row (F 3), FaD.row (F 4), FaD.row (F 5), FaD.row (F 6), FaD.row (F 7), FaD.row (F 8), FaD.row (F 9), FaD.row (F 10)])) (K : St → Prop) (h : K (st.put (some 6) (SL 4 [FaD.row (F 0), FaD.row (F 1), FaD.row (F 2), FaD.row (F 3), FaD.row (F 4), FaD.row (F 5), FaD.row (F 6), FaD.row (F 7), FaD.row (F 8), FaD.row (F 9), FaD.row (F 10)]))) : aop Tryz.prog SgT SvT ops5 (op5 35) st K := by
 obtain ⟨tmps, objs⟩ := st
 obtain rfl : objs = objs5 cs s a := ho
 have e := m66 (l := tmps) hl _ (k1 (show lget tmps 49 = _ from h49) k0)
 rw [e] at h ⊢
 exact (e5_35 _ cs s a F K).mp h

end Go.Proofs.YtknnooannohflaaGreatDoor.Met

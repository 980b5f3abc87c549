/- Layer 26: the families of a state. -/
import Derived.Test.YtknnooannohflaaGreatDoorMetQ
import Derived.Test.YtknnooannohflaaGreatDoorMeF
namespace Go.Proofs.YtknnooannohflaaGreatDoor.Met
open Go Go.Px Go.Proofs Cmp Go.Proofs.YtknnooannohflaaGreatDoor.St
set_option maxRecDepth 100000
set_option linter.unusedVariables false

theorem rest5_nf (cs : LL) (s a : Int) (b1 b2 : Bool) (rows : LL) (f0 g0 : ByteArray) (y0 : Int) (m0 : LL) (f1 g1 : ByteArray) (y1 : Int) (m1 : LL) (f2 g2 : ByteArray) (y2 : Int) (m2 : LL) (f3 g3 : ByteArray) (y3 : Int) (m3 : LL) (f4 g4 : ByteArray) (y4 : Int) (m4 : LL) (f5 g5 : ByteArray) (y5 : Int) (m5 : LL) (f6 g6 : ByteArray) (y6 : Int) (m6 : LL) (f7 g7 : ByteArray) (y7 : Int) (m7 : LL) (f8 g8 : ByteArray) (y8 : Int) (m8 : LL) (f9 g9 : ByteArray) (y9 : Int) (m9 : LL) (f10 g10 : ByteArray) (y10 : Int) (m10 : LL) (Q : List SV → Prop) : (∃ Inv : Int → (LL) → Prop, ∃ m : Int → (LL) → Nat, (Inv 0 []) ∧ ∀ x l, (Inv x l) → ifB (ilt x (rlen rows)) (((0 ≤ x) ∧ x < (rlen rows)) ∧ ∃ s1 s2, ∃ x1 l1, (rget rows x = [S s1, S s2, I x1, SV.slice 3 l1 0]) ∧ ifB (igt (rlen l1) 0) (((lsum (rlen l) (rlen ([[S s1, S s2, I x1, SV.slice 3 l1 0]]))) ≤ 2147483648) ∧ (Sm (some ([[SV.slice 21 cs 0, I s, I a]]))) ∧ (Inv (wadd .i64 x 1) (rapp l ([[S s1, S s2, I x1, SV.slice 3 l1 0]]))) ∧ Nat.le (Nat.succ (m (wadd .i64 x 1) (rapp l ([[S s1, S s2, I x1, SV.slice 3 l1 0]])))) (m x l)) ((Sm (some ([[SV.slice 21 cs 0, I s, I a]]))) ∧ (Inv (wadd .i64 x 1) l) ∧ Nat.le (Nat.succ (m (wadd .i64 x 1) l)) (m x l))) (Q [SV.slice 4 l 0, I 0]))
  = vc Tryz.prog SgT SvT LT25 rest5 (St.mk [(SV.agg [SL 21 cs, I s, I a]), (SV.ptr 128 0), (SV.slice 4 [] 1), (I 0), (SL 1 [[I 2], [I 3]]), (SL 1 [[I 1], [I 3]]), (SL 4 rows), SV.unk, SV.unk, SV.unk, (SV.agg [SL 21 cs, I s, I a]), (B b1), (B b2), (SL 1 [[I 2], [I 3]]), (SL 1 [[I 1], [I 3]]), (SV.agg [SL 21 cs, I s, I a]), (SL 1 [[I 2], [I 3]]), (SV.agg [S f0, S g0, I y0, SL 3 m0]), (SV.agg [SL 21 cs, I s, I a]), (SL 1 [[I 2], [I 3]]), (SV.agg [S f1, S g1, I y1, SL 3 m1]), (SV.agg [SL 21 cs, I s, I a]), (SL 1 [[S (bA [103, 111, 111, 100])], [S (bA [98, 97, 100])], [S (bA [108, 97, 116, 101])]]), (SV.agg [S f2, S g2, I y2, SL 3 m2]), (SV.ptr 128 0), (SL 21 cs), (I (rlen cs)), (SV.agg [S f3, S g3, I y3, SL 3 m3]), (SV.agg [SL 21 cs, I s, I a]), (SL 1 [[I 1], [I 3]]), (SV.agg [S f4, S g4, I y4, SL 3 m4]), (SV.ptr 128 1), (I s), (SV.agg [S f5, S g5, I y5, SL 3 m5]), (SV.ptr 128 2), (I a), (SV.agg [S f6, S g6, I y6, SL 3 m6]), (SV.agg [SL 21 cs, I s, I a]), (SL 1 [[S (bA [97, 100, 109, 105, 116])], [S (bA [114, 101, 106, 101, 99, 116])], [S (bA [114, 101, 102, 105, 108, 108])]]), (SV.agg [S f7, S g7, I y7, SL 3 m7]), (SV.agg [SL 21 cs, I s, I a]), (SL 1 [[I 1], [I 3]]), (SV.agg [S f8, S g8, I y8, SL 3 m8]), (SV.agg [SL 21 cs, I s, I a]), (SL 1 [[S (bA [97, 116, 116, 101, 109, 112, 116])], [S (bA [98, 97, 99, 107, 111, 102, 102])], [S (bA [103, 105, 118, 101, 117, 112])]]), (SV.agg [S f9, S g9, I y9, SL 3 m9]), (SV.agg [SL 21 cs, I s, I a]), (SL 1 [[I 1]]), (SV.agg [S f10, S g10, I y10, SL 3 m10]), (SL 4 rows), SV.unk, SV.unk, SV.unk, SV.unk, SV.unk, SV.unk, SV.unk, SV.unk, SV.unk, SV.unk, SV.unk, SV.unk, SV.unk, SV.unk, SV.unk, SV.unk] (objs5 cs s a)) (fin Tryz.prog Tryz.f31 {} Q) := by kernel_rfl

theorem rest5_fn (cs : List (List SV)) (s a : Int) (b : Bool) (F : Nat → FaD) (fs : List FaD) (hf : fs = [F 0, F 1, F 2, F 3, F 4, F 5, F 6, F 7, F 8, F 9, F 10]) : Hold (vc Tryz.prog SgT SvT LT25 rest5 (st5F cs s a b F) (fin Tryz.prog Tryz.f31 {} (fun r => r = [SL 4 (faR (fs.filter fun f => decide (0 < f.ss.length))), I 0]))) := by
 refine Hold.mk ?_
 have hl : fs.length = 11 := by rw [hf]; rfl
 have e := rest5_nf cs s a b (bnot b) (faR fs) (F 0).nm (F 0).hp (F 0).ty (smR (F 0).ss) (F 1).nm (F 1).hp (F 1).ty (smR (F 1).ss) (F 2).nm (F 2).hp (F 2).ty (smR (F 2).ss) (F 3).nm (F 3).hp (F 3).ty (smR (F 3).ss) (F 4).nm (F 4).hp (F 4).ty (smR (F 4).ss) (F 5).nm (F 5).hp (F 5).ty (smR (F 5).ss) (F 6).nm (F 6).hp (F 6).ty (smR (F 6).ss) (F 7).nm (F 7).hp (F 7).ty (smR (F 7).ss) (F 8).nm (F 8).hp (F 8).ty (smR (F 8).ss) (F 9).nm (F 9).hp (F 9).ty (smR (F 9).ss) (F 10).nm (F 10).hp (F 10).ty (smR (F 10).ss) (fun r => r = [SL 4 (faR (fs.filter fun f => decide (0 < f.ss.length))), I 0])
 have hst : st5F cs s a b F = (St.mk [(SV.agg [SL 21 cs, I s, I a]), (SV.ptr 128 0), (SV.slice 4 [] 1), (I 0), (SL 1 [[I 2], [I 3]]), (SL 1 [[I 1], [I 3]]), (SL 4 (faR fs)), SV.unk, SV.unk, SV.unk, (SV.agg [SL 21 cs, I s, I a]), (B b), (B (bnot b)), (SL 1 [[I 2], [I 3]]), (SL 1 [[I 1], [I 3]]), (SV.agg [SL 21 cs, I s, I a]), (SL 1 [[I 2], [I 3]]), (SV.agg [S (F 0).nm, S (F 0).hp, I (F 0).ty, SL 3 (smR (F 0).ss)]), (SV.agg [SL 21 cs, I s, I a]), (SL 1 [[I 2], [I 3]]), (SV.agg [S (F 1).nm, S (F 1).hp, I (F 1).ty, SL 3 (smR (F 1).ss)]), (SV.agg [SL 21 cs, I s, I a]), (SL 1 [[S (bA [103, 111, 111, 100])], [S (bA [98, 97, 100])], [S (bA [108, 97, 116, 101])]]), (SV.agg [S (F 2).nm, S (F 2).hp, I (F 2).ty, SL 3 (smR (F 2).ss)]), (SV.ptr 128 0), (SL 21 cs), (I (rlen cs)), (SV.agg [S (F 3).nm, S (F 3).hp, I (F 3).ty, SL 3 (smR (F 3).ss)]), (SV.agg [SL 21 cs, I s, I a]), (SL 1 [[I 1], [I 3]]), (SV.agg [S (F 4).nm, S (F 4).hp, I (F 4).ty, SL 3 (smR (F 4).ss)]), (SV.ptr 128 1), (I s), (SV.agg [S (F 5).nm, S (F 5).hp, I (F 5).ty, SL 3 (smR (F 5).ss)]), (SV.ptr 128 2), (I a), (SV.agg [S (F 6).nm, S (F 6).hp, I (F 6).ty, SL 3 (smR (F 6).ss)]), (SV.agg [SL 21 cs, I s, I a]), (SL 1 [[S (bA [97, 100, 109, 105, 116])], [S (bA [114, 101, 106, 101, 99, 116])], [S (bA [114, 101, 102, 105, 108, 108])]]), (SV.agg [S (F 7).nm, S (F 7).hp, I (F 7).ty, SL 3 (smR (F 7).ss)]), (SV.agg [SL 21 cs, I s, I a]), (SL 1 [[I 1], [I 3]]), (SV.agg [S (F 8).nm, S (F 8).hp, I (F 8).ty, SL 3 (smR (F 8).ss)]), (SV.agg [SL 21 cs, I s, I a]), (SL 1 [[S (bA [97, 116, 116, 101, 109, 112, 116])], [S (bA [98, 97, 99, 107, 111, 102, 102])], [S (bA [103, 105, 118, 101, 117, 112])]]), (SV.agg [S (F 9).nm, S (F 9).hp, I (F 9).ty, SL 3 (smR (F 9).ss)]), (SV.agg [SL 21 cs, I s, I a]), (SL 1 [[I 1]]), (SV.agg [S (F 10).nm, S (F 10).hp, I (F 10).ty, SL 3 (smR (F 10).ss)]), (SL 4 (faR fs)), SV.unk, SV.unk, SV.unk, SV.unk, SV.unk, SV.unk, SV.unk, SV.unk, SV.unk, SV.unk, SV.unk, SV.unk, SV.unk, SV.unk, SV.unk, SV.unk] (objs5 cs s a)) := by subst hf; rfl
 rw [hst, ← e]
 clear e hst
 refine ⟨fun x l => (0 ≤ x ∧ x ≤ 11) ∧ l = faR ((fs.take x.toNat).filter fun f => decide (0 < f.ss.length)), fun x _ => (11 - x).toNat, ⟨by omega, by simp⟩, ?_⟩
 rintro x l ⟨⟨x0, xl⟩, rfl⟩
 rw [rlen_eq, List.length_map, hl]
 refine ifB_intro (fun hx => ?_) (fun hx => ?_)
 ·have hx : x < 11 := by simpa using hx
  have hi : x.toNat < fs.length := by omega
  have ei : (x + 1).toNat = x.toNat + 1 := by omega
  rw [wadd_i64 (by omega) (by omega)]
  refine ⟨⟨x0, hx⟩, _, _, _, _, rget_mapI FaD.row fs x x0 (by omega), ?_⟩
  have tk : fs.take (x.toNat + 1) = fs.take x.toNat ++ [fs[x.toNat]] := by rw [List.take_add_one, List.getElem?_eq_getElem hi]; rfl
  rw [rlen_eq, List.length_map]
  refine ifB_intro (fun h => ?_) (fun h => ?_)
  ·have h : 0 < fs[x.toNat].ss.length := by simpa [igt] using h
   refine ⟨?_, rfl, ⟨by omega, ?_⟩, mlt (by dsimp only; omega)⟩
   ·have := List.length_filter_le (fun f : FaD => decide (0 < f.ss.length)) (fs.take x.toNat)
    rw [List.length_take] at this
    simp only [lsum, rlen_eq, List.length_map, List.length_cons, List.length_nil]; omega
   ·rw [ei, tk, List.filter_append]
    rw [List.filter_cons_of_pos (by simpa using h), List.filter_nil]
    exact rapp_map FaD.row _ [fs[x.toNat]]
  ·have h : ¬ 0 < fs[x.toNat].ss.length := by simpa [igt] using h
   refine ⟨rfl, ⟨by omega, ?_⟩, mlt (by dsimp only; omega)⟩
   rw [ei, tk, List.filter_append]
   rw [List.filter_cons_of_neg (by simpa using h), List.filter_nil, List.append_nil]
 ·have hx : 11 ≤ x := by simpa using hx
  rw [List.take_of_length_le (by omega)]

theorem of1_fn (c : CoD) : Ct Tryz.prog 59 {} [c.sv] (fun r => r = [I c.rm]) := mof1_nf _ _ _ _ _ _ _ _ _ _ _ _ _ _ _ _ _ _ _ _ _ _ rfl
theorem of2_fn (c : CoD) : Ct Tryz.prog 60 {} [c.sv] (fun r => r = [I c.ha]) := mof2_nf _ _ _ _ _ _ _ _ _ _ _ _ _ _ _ _ _ _ _ _ _ _ rfl
theorem of3_fn (c : CoD) : Ct Tryz.prog 64 {} [c.sv] (fun r => r = [I c.mo]) := mof3_nf _ _ _ _ _ _ _ _ _ _ _ _ _ _ _ _ _ _ _ _ _ _ rfl
theorem of4_fn (c : CoD) (h : winP c.wd c.sl c.cl) : Ct Tryz.prog 65 {} [c.sv] (fun r => r = [I (partI c.wd c.sl c.cl)]) :=
 mof4_nf _ _ _ _ _ _ _ _ _ _ _ _ _ _ _ _ _ _ _ _ _ _ (Cl.of (part_fn _ _ _ h) ⟨_, rfl, rfl⟩)

theorem his_of {c : CoD} (h : c.P) (hr : c.ro ∈ [1, 3]) : c.his := by
 have h2 := h.2
 unfold CoD.roleP at h2
 simp at hr
 rcases hr with e | e
 ·rw [if_pos e] at h2; exact h2.2.1
 ·rw [if_neg (by omega), if_neg (by omega)] at h2; exact h2.2.2.1
theorem win_of {c : CoD} (h : c.P) (hr : c.ro = 1) : winP c.wd c.sl c.cl := by
 have h2 := h.2
 unfold CoD.roleP at h2
 rw [if_pos hr] at h2; exact h2.1.2

theorem ifB_no {b : Bool} {x y : Prop} (e : b = false) (h : y) : ifB b x y := by subst e; exact h
theorem ifB_yes {b : Bool} {x y : Prop} (e : b = true) (h : x) : ifB b x y := by subst e; exact h

theorem mof_fn (d : StD) (hl : d.cs.length ≤ 1000) : Ct Tryz.prog 31 {} [d.sv] (fun r => r = ofRes d) := by
 by_cases hp : d.P
 ·have hof : ofRes d = [SL 4 (faR ((allF d).filter fun f => decide (0 < f.ss.length))), I 0] := by
   unfold ofRes flOf fcOf famsOf
   rw [if_pos hp, if_pos hp]
  rw [hof]
  refine mof_any _ _ _ _ _ (sright_fn d) (ifB_no (by rw [decide_eq_true hp]; rfl) ?_)
  have hro : ∀ c ∈ d.cs, c.P := hp.2.1
  obtain ⟨F, hF⟩ : ∃ F : Nat → FaD, allF d = [F 0, F 1, F 2, F 3, F 4, F 5, F 6, F 7, F 8, F 9, F 10] := ⟨fun i => (allF d).getD i (singleF fN0 fN0 0 0), rfl⟩
  have hF2 := hF
  unfold allF at hF2
  simp only [List.cons.injEq, and_true] at hF2
  obtain ⟨e0, e1, e2, e3, e4, e5, e6, e7, e8, e9, e10⟩ := hF2
  have c0 := gauge_fn fN0 fH0 d [2, 3] hl (by decide) 59 CoD.rm (fun c _ => of1_fn c)
  have c1 := gauge_fn fN1 fH1 d [2, 3] hl (by decide) 60 CoD.ha (fun c _ => of2_fn c)
  have c2 := counter_fn fN2 fH2 d 1 fW2_0 fW2_1 fW2_2 fW2_3 hl
  have c3 : Ct Tryz.prog 62 {} [S fN3, S fH3, I 2, I (rlen (coR d.cs))] (fun r => r = [.agg (singleF fN3 fH3 2 (d.cs.length : Nat)).row]) := by
   have e : rlen (coR d.cs) = ((d.cs.length : Nat) : Int) := by rw [rlen_eq, List.length_map]
   exact e ▸ single_fn fN3 fH3 2 (rlen (coR d.cs))
  have c4 := hist_fn fN4 fH4 d [1, 3] hl (by decide) (by decide) (fun c hc => his_of (hro c (mem_ofR.1 hc).1) (mem_ofR.1 hc).2)
  have c5 : Ct Tryz.prog 62 {} [S fN5, S fH5, I 1, I d.q] (fun r => r = [.agg (singleF fN5 fH5 1 d.q).row]) := single_fn fN5 fH5 1 d.q
  have c6 : Ct Tryz.prog 62 {} [S fN6, S fH6, I 2, I d.t] (fun r => r = [.agg (singleF fN6 fH6 2 d.t).row]) := single_fn fN6 fH6 2 d.t
  have c7 := counter_fn fN7 fH7 d 2 fW7_0 fW7_1 fW7_2 fW7_3 hl
  have c8 := gauge_fn fN8 fH8 d [1, 3] hl (by decide) 64 CoD.mo (fun c _ => of3_fn c)
  have c9 := counter_fn fN9 fH9 d 3 fW9_0 fW9_1 fW9_2 fW9_3 hl
  have c10 := gauge_fn fN10 fH10 d [1] hl (by decide) 65 (fun c => partI c.wd c.sl c.cl) (fun c hc => of4_fn c (win_of (hro c (mem_ofR.1 hc).1) (by simpa using (mem_ofR.1 hc).2)))
  rw [e0] at c0; rw [e1] at c1; rw [e2] at c2; rw [e3] at c3; rw [e4] at c4; rw [e5] at c5; rw [e6] at c6; rw [e7] at c7; rw [e8] at c8; rw [e9] at c9; rw [e10] at c10
  exact @any_region (coR d.cs) d.q d.t (decide d.P) F c0 c1 c2 c3 c4 c5 c6 c7 c8 c9 c10 _ (rest5_fn (coR d.cs) d.q d.t (decide d.P) F (allF d) hF)
 ·refine mof_any _ _ _ _ _ (sright_fn d) (ifB_yes (by rw [decide_eq_false hp]; rfl) ?_)
  unfold ofRes flOf fcOf
  rw [if_neg hp, if_neg hp]
  rfl

end Go.Proofs.YtknnooannohflaaGreatDoor.Met

import Derived.Test.YtknnooannohflaaGreatDoorMeA
import Derived.Test.YtknnooannohflaaGreatDoorPsI1
import Derived.Test.YtknnooannohflaaGreatDoorExY
namespace Go.Proofs.YtknnooannohflaaGreatDoor.Met
open Go Go.Px Go.Proofs 
set_option maxRecDepth 100000
set_option linter.unusedVariables false
theorem plaw_nf (l : LL) (s : ByteArray) (Q : List SV → Prop) (h : Cl Tryz.prog 36 sP [] (fun rs => ∃ b, (rs = [B b]) ∧ (ifB (bnot b) (Q [B false]) (Cl Tryz.prog 10 sP [SL 4 l] (fun rs1 => ∃ b1, (rs1 = [B b1]) ∧ (ifB (bpick (bnot b1) true (igt (slen s) 60000)) (Q [B true]) (Cl Tryz.prog 17 sP [SL 4 l] (fun rs2 => ∃ s1 x, (rs2 = [S s1, I x]) ∧ (ifB (ieq x 0) (Cl Tryz.prog 37 sP [S s1] (fun rs3 => ∃ l1 x1, ∃ x2 x3, (rs3 = [SL 4 l1, SV.agg [I x1, I x2], I x3]) ∧ (ifB (bpick (ine x3 0) true (bnot (band (ieq x1 ((0 : Int))) (band (ieq x2 ((0 : Int))) true)))) (Q [B false]) (Cl Tryz.prog 21 sP [SL 4 l, SL 4 l1] (fun rs4 => ∃ b2, (rs4 = [B b2]) ∧ (ifB (bnot b2) (Q [B false]) (Cl Tryz.prog 37 sP [S s] (fun rs5 => ∃ l2 x4, ∃ x5 x6, (rs5 = [SL 4 l2, SV.agg [I x4, I x5], I x6]) ∧ (ifB (ine x6 0) (Q [B (bpick (bpick (bpick (ieq x6 11) (ieq (rlen l2) 0) false) (ige x4 1) false) (ige x5 0) false)]) (Cl Tryz.prog 17 sP [SL 4 l2] (fun rs6 => ∃ s2 x7, (rs6 = [S s2, I x7]) ∧ (ifB (bpick (bpick (ieq x7 0) (seq s2 s) false) (band (ieq x4 ((0 : Int))) (band (ieq x5 ((0 : Int))) true)) false) (Cl Tryz.prog 20 sP [SL 4 l2] (fun rs7 => ∃ b3, (rs7 = [B b3]) ∧ (Q [B b3]))) (Q [B false]))))))))))))) (Cl Tryz.prog 37 sP [S s] (fun rs3 => ∃ l1 x1, ∃ x2 x3, (rs3 = [SL 4 l1, SV.agg [I x1, I x2], I x3]) ∧ (ifB (ine x3 0) (Q [B (bpick (bpick (bpick (ieq x3 11) (ieq (rlen l1) 0) false) (ige x1 1) false) (ige x2 0) false)]) (Cl Tryz.prog 17 sP [SL 4 l1] (fun rs4 => ∃ s2 x4, (rs4 = [S s2, I x4]) ∧ (ifB (bpick (bpick (ieq x4 0) (seq s2 s) false) (band (ieq x1 ((0 : Int))) (band (ieq x2 ((0 : Int))) true)) false) (Cl Tryz.prog 20 sP [SL 4 l1] (fun rs5 => ∃ b2, (rs5 = [B b2]) ∧ (Q [B b2]))) (Q [B false])))))))))))))))) : Ct Tryz.prog 8 {} [SL 4 l, S s] Q :=
 fn_of (f := 8) SgT SvT (fun _ => none) Tryz.f8 Tryz.func8 (by kernel_rfl) (by kernel_rfl) h
theorem psafe_nf  (Q : List SV → Prop) (h : Cl Tryz.prog 37 sP ([S (ByteArray.mk (Array.mk [35, 32, 72, 69, 76, 80, 32, 120, 32, 97, 92, 110, 98, 10, 35, 32, 84, 89, 80, 69, 32, 120, 32, 103, 97, 117, 103, 101, 10, 120, 123, 98, 61, 34, 113, 92, 34, 34, 125, 32, 45, 53, 10]))]) (fun rs => ∃ l x, ∃ x1 x2, (rs = [SL 4 l, SV.agg [I x, I x1], I x2]) ∧ (ifB (ieq (rlen l) 1) ((((0 : Int) ≤ 0) ∧ (0 < (rlen l))) ∧ (∃ s s1, ∃ x3 l1, (rget l 0 = [S s, S s1, I x3, SL 3 l1]) ∧ (ifB (ieq (rlen l1) 1) ((((0 : Int) ≤ 0) ∧ (0 < (rlen l))) ∧ (∃ s2 s3, ∃ x4 l2, (rget l 0 = [S s2, S s3, I x4, SL 3 l2]) ∧ ((((0 : Int) ≤ 0) ∧ (0 < (rlen l2))) ∧ (∃ s4 l3 x5, (rget l2 0 = [S s4, SL 2 l3, I x5]) ∧ (ifB (ieq (rlen l3) 1) (Cl Tryz.prog 73 sP [] (fun rs1 => ∃ b, (rs1 = [B b]) ∧ (Q [B b]))) (Q [B false])))))) (Q [B false])))) (Q [B false])))) : Ct Tryz.prog 36 {} ([] : List SV) Q :=
 fn_of (f := 36) SgT SvT (fun _ => none) Tryz.f36 Tryz.func36 (by kernel_rfl) (by kernel_rfl) h
theorem pawake_nf  (Q : List SV → Prop) (h : Cl Tryz.prog 37 sP ([S (ByteArray.mk (Array.mk [35, 32, 72, 69, 76, 80, 32, 120, 32, 97, 92, 110, 98, 10, 35, 32, 84, 89, 80, 69, 32, 120, 32, 103, 97, 117, 103, 101, 10, 120, 123, 98, 61, 34, 113, 92, 34, 34, 125, 32, 45, 53, 10]))]) (fun rs => ∃ l x, ∃ x1 x2, (rs = [SL 4 l, SV.agg [I x, I x1], I x2]) ∧ (Cl Tryz.prog 37 sP ([S (ByteArray.mk (Array.mk [35, 32, 72, 69, 76, 80, 32, 120, 32, 10, 35, 32, 84, 89, 80, 69, 32, 120, 32, 103, 97, 117, 103, 101, 10, 97, 123, 32, 49, 10]))]) (fun rs1 => ∃ l1 x3, ∃ x4 x5, (rs1 = [SL 4 l1, SV.agg [I x3, I x4], I x5]) ∧ (Cl Tryz.prog 37 sP ([S (ByteArray.mk (Array.mk [35, 32, 72, 69, 76, 80, 32, 120, 32, 10]))]) (fun rs2 => ∃ l2 x6, ∃ x7 x8, (rs2 = [SL 4 l2, SV.agg [I x6, I x7], I x8]) ∧ (ifB (bpick (ieq x2 0) (ieq (rlen l) 1) false) ((((0 : Int) ≤ 0) ∧ (0 < (rlen l))) ∧ (∃ s s1, ∃ x9 l3, (rget l 0 = [S s, S s1, I x9, SL 3 l3]) ∧ (ifB (seq s1 (ByteArray.mk (Array.mk [97, 10, 98]))) ((((0 : Int) ≤ 0) ∧ (0 < (rlen l))) ∧ (∃ s2 s3, ∃ x10 l4, (rget l 0 = [S s2, S s3, I x10, SL 3 l4]) ∧ (ifB (ieq (rlen l4) 1) ((((0 : Int) ≤ 0) ∧ (0 < (rlen l))) ∧ (∃ s4 s5, ∃ x11 l5, (rget l 0 = [S s4, S s5, I x11, SL 3 l5]) ∧ ((((0 : Int) ≤ 0) ∧ (0 < (rlen l5))) ∧ (∃ s6 l6 x12, (rget l5 0 = [S s6, SL 2 l6, I x12]) ∧ (ifB (ieq x12 ((-5 : Int))) ((((0 : Int) ≤ 0) ∧ (0 < (rlen l))) ∧ (∃ s7 s8, ∃ x13 l7, (rget l 0 = [S s7, S s8, I x13, SL 3 l7]) ∧ ((((0 : Int) ≤ 0) ∧ (0 < (rlen l7))) ∧ (∃ s9 l8 x14, (rget l7 0 = [S s9, SL 2 l8, I x14]) ∧ ((((0 : Int) ≤ 0) ∧ (0 < (rlen l8))) ∧ (∃ s10 s11, (rget l8 0 = [S s10, S s11]) ∧ (Q ([B (bpick (bpick (bpick (bpick (seq s11 (ByteArray.mk (Array.mk [113, 34]))) (ieq x5 11) false) (band (ieq x3 3) (band (ieq x4 3) true)) false) (ieq x8 11) false) (band (ieq x6 2) (band (ieq x7 ((0 : Int))) true)) false)])))))))) (Q [B false])))))) (Q [B false])))) (Q [B false])))) (Q [B false])))))))) : Ct Tryz.prog 73 {} ([] : List SV) Q :=
 fn_of (f := 73) SgT SvT (fun _ => none) Tryz.f73 Tryz.func73 (by kernel_rfl) (by kernel_rfl) h
end Go.Proofs.YtknnooannohflaaGreatDoor.Met
namespace Go.Proofs.YtknnooannohflaaGreatDoor.Prs
open Go Go.Px Go.Proofs Go.RowKit Trm Met Exp
set_option maxRecDepth 100000
set_option linter.unusedVariables false
theorem go_bad : ∀ (k : Nat) (n : Int) (fs : List FaD) (t : Tx) (a b : Int), 0 ≤ n → t.length < k → pGo k n fs t = .error (a, b) → 1 ≤ a ∧ 0 ≤ b
 | 0, n, fs, t, a, b, _, hk, _ => absurd hk (Nat.not_lt_zero _)
 | k + 1, n, fs, t, a, b, h0, hk, h => by
  rw [pGo] at h
  by_cases ht : t = []
  ·rw [if_pos ht] at h
   split at h
   ·cases h
   ·cases h; omega
  ·rw [if_neg ht] at h
   cases hr : restOf t with
   | nil =>
    rw [hr] at h
    simp only at h
    cases hp : pRead (lineOf t) false with
    | error e => rw [hp] at h; cases h; omega
    | ok l => rw [hp] at h; cases h; omega
   | cons c r =>
    obtain ⟨_, he, _⟩ := rest_head hr
    have hlr : r.length < k := by
     have := congrArg List.length he
     rw [List.length_append, List.length_cons] at this
     omega
    rw [hr] at h
    simp only at h
    cases hp : pRead (lineOf t) true with
    | error e => rw [hp] at h; cases h; omega
    | ok l =>
     rw [hp] at h
     simp only at h
     cases hk2 : tk fs l with
     | none => rw [hk2] at h; cases h; omega
     | some g => rw [hk2] at h; exact go_bad k _ g r a b (by omega) hlr h
def awP : FaD := ⟨⟨#[120]⟩, ⟨#[97, 10, 98]⟩, 2, [⟨⟨#[120]⟩, [(⟨#[98]⟩, ⟨#[113, 34]⟩)], -5⟩]⟩
def tx1 : Tx := [35, 32, 72, 69, 76, 80, 32, 120, 32, 97, 92, 110, 98, 10, 35, 32, 84, 89, 80, 69, 32, 120, 32, 103, 97, 117, 103, 101, 10, 120, 123, 98, 61, 34, 113, 92, 34, 34, 125, 32, 45, 53, 10]
def tx2 : Tx := [35, 32, 72, 69, 76, 80, 32, 120, 32, 10, 35, 32, 84, 89, 80, 69, 32, 120, 32, 103, 97, 117, 103, 101, 10, 97, 123, 32, 49, 10]
def tx3 : Tx := [35, 32, 72, 69, 76, 80, 32, 120, 32, 10]
theorem awP_all : allP [awP] := by decide +kernel
theorem awP_txt : txtT [awP] = tx1 := by decide +kernel
theorem awP_rg : ∀ f ∈ [awP], rgF f := by
 intro f hf
 rcases List.mem_singleton.1 hf with rfl
 intro x hx
 rcases List.mem_singleton.1 hx with rfl
 exact ⟨by decide, by decide⟩
theorem p1 : pParse tx1 = .ok [awP] := by rw [← awP_txt]; exact parse_txt awP_all awP_rg
theorem p2 : pParse tx2 = .error (3, 3) := by kernel_rfl
theorem p3 : pParse tx3 = .error (2, 0) := by kernel_rfl
theorem q1 : Ct Tryz.prog 37 {} [S (ByteArray.mk (Array.mk tx1))] (fun r => r = [SL 4 (faR [awP]), .agg [I 0, I 0], I 0]) := by
 have h := parse_fn tx1 (by decide)
 unfold psR at h
 rw [p1] at h
 exact h
theorem q2 : Ct Tryz.prog 37 {} [S (ByteArray.mk (Array.mk tx2))] (fun r => r = [SL 4 [], .agg [I 3, I 3], I 11]) := by
 have h := parse_fn tx2 (by decide)
 unfold psR at h
 rw [p2] at h
 exact h
theorem q3 : Ct Tryz.prog 37 {} [S (ByteArray.mk (Array.mk tx3))] (fun r => r = [SL 4 [], .agg [I 2, I 0], I 11]) := by
 have h := parse_fn tx3 (by decide)
 unfold psR at h
 rw [p3] at h
 exact h
theorem pawake_fn : Ct Tryz.prog 73 {} [] (fun r => r = [B true]) := by
 refine pawake_nf _ (Cl.of q1 ⟨_, _, _, _, rfl, Cl.of q2 ⟨_, _, _, _, rfl, Cl.of q3 ⟨_, _, _, _, rfl, ifB_yes (by decide) ⟨by decide, _, _, _, _, rfl, ifB_yes (by rw [seq_d]; decide) ⟨by decide, _, _, _, _, rfl, ifB_yes (by decide) ⟨by decide, _, _, _, _, rfl, by decide, _, _, _, rfl, ifB_yes (by decide) ⟨by decide, _, _, _, _, rfl, by decide, _, _, _, rfl, by decide, _, _, rfl, ?_⟩⟩⟩⟩⟩⟩⟩)
 rw [seq_d]
 exact congrArg (fun b : Bool => [B b]) (show _ = true by decide)
theorem psafe_fn : Ct Tryz.prog 36 {} [] (fun r => r = [B true]) := by
 refine psafe_nf _ (Cl.of q1 ⟨_, _, _, _, rfl, ifB_yes (by decide) ⟨by decide, _, _, _, _, rfl, ifB_yes (by decide) ⟨by decide, _, _, _, _, rfl, by decide, _, _, _, rfl, ifB_yes (by decide) (Cl.of pawake_fn ⟨_, rfl, rfl⟩)⟩⟩⟩)
theorem law8_fn (l : List FaD) (s : ByteArray) (hl : l.length ≤ 4000000000000000000) (hls : ∀ f ∈ l, szF f) (hlr : ∀ f ∈ l, rgF f) : Ct Tryz.prog 8 {} [SL 4 (faR l), S s] (fun r => r = [B true]) := by
 refine plaw_nf _ _ _ (Cl.of psafe_fn ⟨_, rfl, ifB_no rfl (Cl.ofQ (rshort_fn l hl hls) ?_)⟩)
 rintro _ ⟨b1, rfl⟩
 refine ⟨_, rfl, ifB_intro (fun _ => rfl) (fun hg => Cl.of (write_fn l (fun f hf => (hls f hf).2.1) hlr) ⟨_, _, rfl, ?_⟩)⟩
 have hs : s.size ≤ 60000 := by
  have h2 : ¬ (60000 : Int) < slen s := by simpa using (bor_f.1 hg).2
  have e1 : slen s = s.size := rfl
  omega
 have hps := parse_fn s.data.toList (by rw [tl_size]; omega)
 rw [bA_of] at hps
 by_cases hA : allP l
 ·have eT : wrT l = bA (txtT l) := by unfold wrT; rw [if_pos hA]
  have e0 : wrE l = 0 := by unfold wrE; rw [if_pos hA]
  have hlen := txt_len hA hlr
  have hpl := parse_fn (txtT l) (by omega)
  unfold psR at hpl
  rw [parse_txt hA hlr] at hpl
  rw [eT, e0]
  refine ifB_yes rfl (Cl.of hpl ⟨_, _, _, _, rfl, ifB_no rfl (Cl.of (same_fn l l hl (fun f hf => sz_ok2 (hls f hf))) ⟨_, rfl, ifB_no (by simp) ?_⟩)⟩)
  cases hp : pParse s.data.toList with
  | ok m =>
   obtain ⟨g1, g2, g3⟩ := parse_ok hp
   have hm : ∀ f ∈ m, f.ss.length ≤ 4000000000000000000 := fun f hf => by
    obtain ⟨k, hk, rfl⟩ := List.mem_iff_getElem.1 hf
    have := (g1.2 k hk hk).1.1.2.2.2.2
    omega
   unfold psR at hps
   rw [hp] at hps
   have eM : wrT m = s := by unfold wrT; rw [if_pos g1, ← g3, bA_of]
   have eE : wrE m = 0 := by unfold wrE; rw [if_pos g1]
   refine Cl.of hps ⟨_, _, _, _, rfl, ifB_no rfl (Cl.of (write_fn m hm g2) ⟨_, _, rfl, ?_⟩)⟩
   rw [eM, eE]
   refine ifB_yes (by rw [seq_d]; simp) (Cl.of (all_full m hm) ⟨_, rfl, ?_⟩)
   rw [decide_eq_true g1]
  | error q =>
   obtain ⟨n, c⟩ := q
   unfold psR at hps
   rw [hp] at hps
   obtain ⟨g1, g2⟩ := go_bad _ 0 [] s.data.toList n c (Int.le_refl _) (Nat.lt_succ_self _) hp
   refine Cl.of hps ⟨_, _, _, _, rfl, ifB_yes rfl ?_⟩
   have h1 : ige n 1 = true := by simpa [ige] using g1
   have h2 : ige c 0 = true := by simpa [ige] using g2
   rw [h1, h2]
   rfl
 ·have e1 : wrE l = 1 := by unfold wrE; rw [if_neg hA]
  rw [e1]
  refine ifB_no rfl ?_
  cases hp : pParse s.data.toList with
  | ok m =>
   obtain ⟨g1, g2, g3⟩ := parse_ok hp
   have hm : ∀ f ∈ m, f.ss.length ≤ 4000000000000000000 := fun f hf => by
    obtain ⟨k, hk, rfl⟩ := List.mem_iff_getElem.1 hf
    have := (g1.2 k hk hk).1.1.2.2.2.2
    omega
   unfold psR at hps
   rw [hp] at hps
   have eM : wrT m = s := by unfold wrT; rw [if_pos g1, ← g3, bA_of]
   have eE : wrE m = 0 := by unfold wrE; rw [if_pos g1]
   refine Cl.of hps ⟨_, _, _, _, rfl, ifB_no rfl (Cl.of (write_fn m hm g2) ⟨_, _, rfl, ?_⟩)⟩
   rw [eM, eE]
   refine ifB_yes (by rw [seq_d]; simp) (Cl.of (all_full m hm) ⟨_, rfl, ?_⟩)
   rw [decide_eq_true g1]
  | error q =>
   obtain ⟨n, c⟩ := q
   unfold psR at hps
   rw [hp] at hps
   obtain ⟨g1, g2⟩ := go_bad _ 0 [] s.data.toList n c (Int.le_refl _) (Nat.lt_succ_self _) hp
   refine Cl.of hps ⟨_, _, _, _, rfl, ifB_yes rfl ?_⟩
   have h1 : ige n 1 = true := by simpa [ige] using g1
   have h2 : ige c 0 = true := by simpa [ige] using g2
   rw [h1, h2]
   rfl

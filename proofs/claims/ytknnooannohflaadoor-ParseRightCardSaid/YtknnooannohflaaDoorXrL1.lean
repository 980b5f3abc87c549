/- Printed conditions of functions: layer 28, a line. -/
import Derived.Test.YtknnooannohflaaDoorXrD1
import Derived.Test.YtknnooannohflaaDoorPsI1
import Derived.Test.YtknnooannohflaaDoorMzA
namespace Go.Proofs.YtknnooannohflaaDoor.Met
open Go Go.Px Go.Proofs
set_option maxRecDepth 100000
set_option linter.unusedVariables false

theorem Zuw (s : ByteArray) (Q : List SV → Prop) (h : Cl Tryd.prog 8 sP [] (fun rs => ∃ b, (rs = [B b]) ∧ (ifB (bnot b) (Q [B false]) (ifB (igt (slen s) 60000) (Q [B true]) (Cl Tryd.prog 9 sP [S s] (fun rs1 => ∃ l x, ∃ x1 x2, (rs1 = [SL 4 l, SV.agg [I x, I x1], I x2]) ∧ (Cl Tryd.prog 10 sP [S s] (fun rs2 => ∃ l1 x3, ∃ x4 b1, (rs2 = [SL 4 l1, SV.agg [I x3, I x4], B b1]) ∧ (Cl Tryd.prog 11 sP [SL 4 l, SL 4 l1] (fun rs3 => ∃ b2, (rs3 = [B b2]) ∧ (Q [B (bpick (bpick b2 (band (ieq x x3) (band (ieq x1 x4) true)) false) (bpick (bpick b1 (ieq x2 0) false) true (bpick (bnot b1) (ieq x2 11) false)) false)]))))))))))) : Ct Tryd.prog 3 {} [S s] Q :=
 fn_of (f := 3) SgT SvT (fun _ => none) Tryd.f3 Tryd.func3 (by kernel_rfl) (by kernel_rfl) h

theorem Zux  (Q : List SV → Prop) (h : Cl Tryd.prog 9 sP ([S (ByteArray.mk (Array.mk [35, 32, 72, 69, 76, 80, 32, 120, 32, 97, 92, 110, 98, 10, 35, 32, 84, 89, 80, 69, 32, 120, 32, 103, 97, 117, 103, 101, 10, 120, 123, 98, 61, 34, 113, 92, 34, 34, 125, 32, 45, 53, 10]))]) (fun rs => ∃ l x, ∃ x1 x2, (rs = [SL 4 l, SV.agg [I x, I x1], I x2]) ∧ (ifB (ieq (rlen l) 1) ((((0 : Int) ≤ 0) ∧ (0 < (rlen l))) ∧ (∃ s s1, ∃ x3 l1, (rget l 0 = [S s, S s1, I x3, SL 3 l1]) ∧ (ifB (ieq (rlen l1) 1) ((((0 : Int) ≤ 0) ∧ (0 < (rlen l))) ∧ (∃ s2 s3, ∃ x4 l2, (rget l 0 = [S s2, S s3, I x4, SL 3 l2]) ∧ ((((0 : Int) ≤ 0) ∧ (0 < (rlen l2))) ∧ (∃ s4 l3 x5, (rget l2 0 = [S s4, SL 2 l3, I x5]) ∧ (ifB (ieq (rlen l3) 1) (Cl Tryd.prog 28 sP [] (fun rs1 => ∃ b, (rs1 = [B b]) ∧ (Q [B b]))) (Q [B false])))))) (Q [B false])))) (Q [B false])))) : Ct Tryd.prog 8 {} ([] : List SV) Q :=
 fn_of (f := 8) SgT SvT (fun _ => none) Tryd.f8 Tryd.func8 (by kernel_rfl) (by kernel_rfl) h

theorem Zsk  (Q : List SV → Prop) (h : Cl Tryd.prog 9 sP ([S (ByteArray.mk (Array.mk [35, 32, 72, 69, 76, 80, 32, 120, 32, 97, 92, 110, 98, 10, 35, 32, 84, 89, 80, 69, 32, 120, 32, 103, 97, 117, 103, 101, 10, 120, 123, 98, 61, 34, 113, 92, 34, 34, 125, 32, 45, 53, 10]))]) (fun rs => ∃ l x, ∃ x1 x2, (rs = [SL 4 l, SV.agg [I x, I x1], I x2]) ∧ (Cl Tryd.prog 9 sP ([S (ByteArray.mk (Array.mk [35, 32, 72, 69, 76, 80, 32, 120, 32, 10, 35, 32, 84, 89, 80, 69, 32, 120, 32, 103, 97, 117, 103, 101, 10, 97, 123, 32, 49, 10]))]) (fun rs1 => ∃ l1 x3, ∃ x4 x5, (rs1 = [SL 4 l1, SV.agg [I x3, I x4], I x5]) ∧ (Cl Tryd.prog 9 sP ([S (ByteArray.mk (Array.mk [35, 32, 72, 69, 76, 80, 32, 120, 32, 10]))]) (fun rs2 => ∃ l2 x6, ∃ x7 x8, (rs2 = [SL 4 l2, SV.agg [I x6, I x7], I x8]) ∧ (ifB (bpick (ieq x2 0) (ieq (rlen l) 1) false) ((((0 : Int) ≤ 0) ∧ (0 < (rlen l))) ∧ (∃ s s1, ∃ x9 l3, (rget l 0 = [S s, S s1, I x9, SL 3 l3]) ∧ (ifB (seq s1 (ByteArray.mk (Array.mk [97, 10, 98]))) ((((0 : Int) ≤ 0) ∧ (0 < (rlen l))) ∧ (∃ s2 s3, ∃ x10 l4, (rget l 0 = [S s2, S s3, I x10, SL 3 l4]) ∧ (ifB (ieq (rlen l4) 1) ((((0 : Int) ≤ 0) ∧ (0 < (rlen l))) ∧ (∃ s4 s5, ∃ x11 l5, (rget l 0 = [S s4, S s5, I x11, SL 3 l5]) ∧ ((((0 : Int) ≤ 0) ∧ (0 < (rlen l5))) ∧ (∃ s6 l6 x12, (rget l5 0 = [S s6, SL 2 l6, I x12]) ∧ (ifB (ieq x12 ((-5 : Int))) ((((0 : Int) ≤ 0) ∧ (0 < (rlen l))) ∧ (∃ s7 s8, ∃ x13 l7, (rget l 0 = [S s7, S s8, I x13, SL 3 l7]) ∧ ((((0 : Int) ≤ 0) ∧ (0 < (rlen l7))) ∧ (∃ s9 l8 x14, (rget l7 0 = [S s9, SL 2 l8, I x14]) ∧ ((((0 : Int) ≤ 0) ∧ (0 < (rlen l8))) ∧ (∃ s10 s11, (rget l8 0 = [S s10, S s11]) ∧ (Q ([B (bpick (bpick (bpick (bpick (seq s11 (ByteArray.mk (Array.mk [113, 34]))) (ieq x5 11) false) (band (ieq x3 3) (band (ieq x4 3) true)) false) (ieq x8 11) false) (band (ieq x6 2) (band (ieq x7 ((0 : Int))) true)) false)])))))))) (Q [B false])))))) (Q [B false])))) (Q [B false])))) (Q [B false])))))))) : Ct Tryd.prog 28 {} ([] : List SV) Q :=
 fn_of (f := 28) SgT SvT (fun _ => none) Tryd.f28 Tryd.func28 (by kernel_rfl) (by kernel_rfl) h

end Go.Proofs.YtknnooannohflaaDoor.Met

namespace Go.Proofs.YtknnooannohflaaDoor.Prs
open Go Go.Px Go.Proofs Go.RowKit Trm Met Exp
set_option maxRecDepth 100000
set_option linter.unusedVariables false

def awP : FaD := ⟨⟨#[120]⟩, ⟨#[97, 10, 98]⟩, 2, [⟨⟨#[120]⟩, [(⟨#[98]⟩, ⟨#[113, 34]⟩)], -5⟩]⟩
def tx1 : Tx := [35, 32, 72, 69, 76, 80, 32, 120, 32, 97, 92, 110, 98, 10, 35, 32, 84, 89, 80, 69, 32, 120, 32, 103, 97, 117, 103, 101, 10, 120, 123, 98, 61, 34, 113, 92, 34, 34, 125, 32, 45, 53, 10]
def tx2 : Tx := [35, 32, 72, 69, 76, 80, 32, 120, 32, 10, 35, 32, 84, 89, 80, 69, 32, 120, 32, 103, 97, 117, 103, 101, 10, 97, 123, 32, 49, 10]
def tx3 : Tx := [35, 32, 72, 69, 76, 80, 32, 120, 32, 10]
theorem Zw4 : allP [awP] := by decide +kernel
theorem Zw5 : txtT [awP] = tx1 := by decide +kernel
theorem awP_rg : ∀ f ∈ [awP], rgF f := by
 intro f hf
 rcases List.mem_singleton.1 hf with rfl
 intro x hx
 rcases List.mem_singleton.1 hx with rfl
 exact ⟨by decide, by decide⟩
theorem p1 : Zar tx1 = .ok [awP] := by rw [← Zw5]; exact Ztr Zw4 awP_rg
theorem p2 : Zar tx2 = .error (3, 3) := by kernel_rfl
theorem p3 : Zar tx3 = .error (2, 0) := by kernel_rfl
theorem q1 : Ct Tryd.prog 9 {} [S (ByteArray.mk (Array.mk tx1))] (fun r => r = [SL 4 (faR [awP]), .agg [I 0, I 0], I 0]) := by
 have h := Zix tx1 (by decide); unfold psR at h; rw [p1] at h; exact h
theorem q2 : Ct Tryd.prog 9 {} [S (ByteArray.mk (Array.mk tx2))] (fun r => r = [SL 4 [], .agg [I 3, I 3], I 11]) := by
 have h := Zix tx2 (by decide); unfold psR at h; rw [p2] at h; exact h
theorem q3 : Ct Tryd.prog 9 {} [S (ByteArray.mk (Array.mk tx3))] (fun r => r = [SL 4 [], .agg [I 2, I 0], I 11]) := by
 have h := Zix tx3 (by decide); unfold psR at h; rw [p3] at h; exact h
theorem ifB_yes' {b : Bool} {x y : Prop} (e : b = true) (h : x) : ifB b x y := by subst e; exact h
theorem Zsl : Ct Tryd.prog 28 {} [] (fun r => r = [B true]) := by
 refine Zsk _ (Cl.of q1 ⟨_, _, _, _, rfl, Cl.of q2 ⟨_, _, _, _, rfl, Cl.of q3 ⟨_, _, _, _, rfl, ifB_yes' (by decide) ⟨by decide, _, _, _, _, rfl, ifB_yes' (by rw [seq_d]; decide) ⟨by decide, _, _, _, _, rfl, ifB_yes' (by decide) ⟨by decide, _, _, _, _, rfl, by decide, _, _, _, rfl, ifB_yes' (by decide) ⟨by decide, _, _, _, _, rfl, by decide, _, _, _, rfl, by decide, _, _, rfl, ?_⟩⟩⟩⟩⟩⟩⟩); rw [seq_d]; exact congrArg (fun b : Bool => [B b]) (show _ = true by decide)
theorem Zuy : Ct Tryd.prog 8 {} [] (fun r => r = [B true]) := by
 refine Zux _ (Cl.of q1 ⟨_, _, _, _, rfl, ifB_yes' (by decide) ⟨by decide, _, _, _, _, rfl, ifB_yes' (by decide) ⟨by decide, _, _, _, _, rfl, by decide, _, _, _, rfl, ifB_yes' (by decide) (Cl.of Zsl ⟨_, rfl, rfl⟩)⟩⟩⟩)

def rR (T : Tx) : List SV := match Zar T with
 | .ok m => [SL 4 (faR m), .agg [I 0, I 0], B true]
 | .error (n, c) => [SL 4 [], .agg [I n, I c], B false]

theorem Zw6 (hrp : ∀ s : ByteArray, s.size ≤ 60000 → Ct Tryd.prog 10 {} [S s] (fun r => r = rR s.data.toList)) (s : ByteArray) : Ct Tryd.prog 3 {} [S s] (fun r => r = [B true]) := by
 have hok : ∀ m, allP m → ∀ f ∈ m, f.ok := fun m g f hf => by obtain ⟨k, hk, rfl⟩ := List.mem_iff_getElem.1 hf; have h := (g.2 k hk hk).1; refine ⟨by have := h.1.2.2.2.2; omega, fun x hx => ?_⟩; have := (h.2.1 x hx).1; show x.ls.length ≤ _; omega
 refine Zuw _ _ (Cl.of Zuy ⟨_, rfl, Zaa (fun h => by cases h) (fun _ => Zaa (fun _ => rfl) (fun hg => ?_))⟩); have hs : s.size ≤ 60000 := (by have e1 : slen s = s.size := rfl; simp only [igt_eq, decide_eq_false_iff_not, e1] at hg; omega); have hps := Zix s.data.toList (by rw [Zdp]; omega); rw [bA_of] at hps; have hrs := hrp s hs; unfold psR at hps; unfold rR at hrs
 cases hp : Zar s.data.toList with
 | ok m =>
  rw [hp] at hps hrs; obtain ⟨g1, g2, g3⟩ := Zvt hp; have hml : m.length ≤ 4000000000000000000 := by have := g1.1; omega
  refine Cl.of hps ⟨_, _, _, _, rfl, Cl.of hrs ⟨_, _, _, _, rfl, Cl.of (Zpx m m hml (hok m g1)) ⟨_, rfl, ?_⟩⟩⟩; simp
 | error q => obtain ⟨n, c⟩ := q; rw [hp] at hps hrs; refine Cl.of hps ⟨_, _, _, _, rfl, Cl.of hrs ⟨_, _, _, _, rfl, Cl.of (Zpx [] [] (by decide) (fun f hf => by cases hf)) ⟨_, rfl, ?_⟩⟩⟩; simp

end Go.Proofs.YtknnooannohflaaDoor.Prs

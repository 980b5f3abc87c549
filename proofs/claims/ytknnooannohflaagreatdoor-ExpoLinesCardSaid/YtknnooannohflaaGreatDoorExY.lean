/- Printed conditions of functions. -/
import Derived.Test.YtknnooannohflaaGreatDoorMezN
import Derived.Test.YtknnooannohflaaGreatDoorExX
import Derived.Test.YtknnooannohflaaGreatDoorDkA
import Derived.Test.YtknnooannohflaaGreatDoorRpP1
import Derived.Test.YtknnooannohflaaGreatDoorMzD
import Derived.Test.YtknnooannohflaaGreatDoorEvA
import Derived.Test.YtknnooannohflaaGreatDoorPxMm
namespace Go.Proofs.YtknnooannohflaaGreatDoor.Met
open Go Go.Px Go.Proofs 
set_option maxRecDepth 100000
set_option linter.unusedVariables false

theorem xawake_nf  (Q : List SV → Prop) (h : Cl Tryz.prog 17 sP ([SV.slice 4 ([[S (ByteArray.mk (Array.mk [120])), S (ByteArray.mk (Array.mk [97, 92, 98])), I 2, SV.slice 3 ([[S (ByteArray.mk (Array.mk [120])), SL 2 ([[S (ByteArray.mk (Array.mk [98])), S (ByteArray.mk (Array.mk [113, 34, 10]))]]), I ((-5 : Int))]]) 0]]) 0]) (fun (rs : List SV) => ∃ s : ByteArray, ∃ x : Int, (rs = [S s, I x]) ∧ (Q ([B (bpick (ieq x 0) (seq s (ByteArray.mk (Array.mk [35, 32, 72, 69, 76, 80, 32, 120, 32, 97, 92, 92, 98, 10, 35, 32, 84, 89, 80, 69, 32, 120, 32, 103, 97, 117, 103, 101, 10, 120, 123, 98, 61, 34, 113, 92, 34, 92, 110, 34, 125, 32, 45, 53, 10]))) false)])))) : Ct Tryz.prog 9 {} ([] : List SV) Q :=
  fn_of (f := 9) SgT SvT (fun _ => none) Tryz.f9 Tryz.func9 (by kernel_rfl) (by kernel_rfl) h

theorem xlaw5_nf (l mm : List (List SV)) (Q : List SV → Prop) (h : Cl Tryz.prog 9 sP [] (fun (rs : List SV) => ∃ b : Bool, (rs = [B b]) ∧ (ifB (bnot b) (Q [B false]) (Cl Tryz.prog 10 sP [SL 4 l] (fun (rs1 : List SV) => ∃ b1 : Bool, (rs1 = [B b1]) ∧ (ifB (bnot b1) (Q [B true]) (Cl Tryz.prog 10 sP [SL 4 mm] (fun (rs2 : List SV) => ∃ b2 : Bool, (rs2 = [B b2]) ∧ (ifB (bnot b2) (Q [B true]) (Cl Tryz.prog 20 sP [SL 4 l] (fun (rs3 : List SV) => ∃ b3 : Bool, (rs3 = [B b3]) ∧ (ifB (bnot b3) (Q [B true]) (Cl Tryz.prog 20 sP [SL 4 mm] (fun (rs4 : List SV) => ∃ b4 : Bool, (rs4 = [B b4]) ∧ (ifB (bnot b4) (Q [B true]) (Cl Tryz.prog 17 sP [SL 4 l] (fun (rs5 : List SV) => ∃ s : ByteArray, ∃ x : Int, (rs5 = [S s, I x]) ∧ (Cl Tryz.prog 17 sP [SL 4 mm] (fun (rs6 : List SV) => ∃ s1 : ByteArray, ∃ x1 : Int, (rs6 = [S s1, I x1]) ∧ (ifB (bpick (ine x 0) true (ine x1 0)) (Q [B false]) (Cl Tryz.prog 21 sP [SL 4 l, SL 4 mm] (fun (rs7 : List SV) => ∃ b5 : Bool, (rs7 = [B b5]) ∧ (ifB (bnot (beqB (seq s s1) b5)) (Q [B false]) (∃ Inv : Int → Int → Prop, ∃ m : Int → Int → Nat, (Inv 0 0) ∧ (∀ x2 : Int, ∀ x3 : Int, (Inv x2 x3) → ifB (ilt x3 (slen s)) ((((0 : Int) ≤ x3) ∧ (x3 < (slen s))) ∧ (ifB (ieq (sbyte s x3) 10) (((Option.some [] : Option (List (List SV))) = Option.some []) ∧ ((Inv (wadd IntKind.i64 x2 1) (wadd IntKind.i64 x3 1)) ∧ (Nat.le (Nat.succ (m (wadd IntKind.i64 x2 1) (wadd IntKind.i64 x3 1))) (m x2 x3)))) (((Option.some [] : Option (List (List SV))) = Option.some []) ∧ ((Inv x2 (wadd IntKind.i64 x3 1)) ∧ (Nat.le (Nat.succ (m x2 (wadd IntKind.i64 x3 1))) (m x2 x3)))))) (∃ Inv1 : Int → Int → Prop, ∃ m1 : Int → Int → Nat, (Inv1 0 0) ∧ (∀ x4 : Int, ∀ x5 : Int, (Inv1 x4 x5) → ifB (ilt x5 (rlen l)) ((((0 : Int) ≤ x5) ∧ (x5 < (rlen l))) ∧ (∃ s2 : ByteArray, ∃ s3 : ByteArray, ∃ x6 : Int, ∃ l1 : List (List SV), (rget l x5 = [S s2, S s3, I x6, SL 3 l1]) ∧ (((Option.some [] : Option (List (List SV))) = Option.some []) ∧ ((Inv1 (wadd IntKind.i64 x4 (wadd IntKind.i64 2 (rlen l1))) (wadd IntKind.i64 x5 1)) ∧ (Nat.le (Nat.succ (m1 (wadd IntKind.i64 x4 (wadd IntKind.i64 2 (rlen l1))) (wadd IntKind.i64 x5 1))) (m1 x4 x5)))))) (ifB (ieq x2 x4) (ifB (seq s (ByteArray.mk (Array.mk []))) (Q [B true]) ((((0 : Int) ≤ (wsub IntKind.i64 (slen s) 1)) ∧ ((wsub IntKind.i64 (slen s) 1) < (slen s))) ∧ (Q [B (ieq (sbyte s (wsub IntKind.i64 (slen s) 1)) 10)]))) (Q [B false]))))))))))))))))))))))))))))) : Ct Tryz.prog 5 {} [SL 4 l, SL 4 mm] Q :=
  fn_of (f := 5) SgT SvT (fun _ => none) Tryz.f5 Tryz.func5 (by kernel_rfl) (by kernel_rfl) h

end Go.Proofs.YtknnooannohflaaGreatDoor.Met

namespace Go.Proofs.YtknnooannohflaaGreatDoor.Exp
open Go Go.Px Go.Proofs Go.Proofs.YtknnooannohflaaGreatDoor.Trm Go.Proofs.YtknnooannohflaaGreatDoor.Met
set_option maxRecDepth 100000
set_option linter.unusedVariables false

theorem slen_bA (l : Tx) : slen (bA l) = l.length := by
  show (((bA l).size : Nat) : Int) = _
  simp [ByteArray.size]
theorem ieq_c (c d : UInt8) (h : ieq (c.toNat : Int) (d.toNat : Int) = true) : c = d := UInt8.toNat_inj.1 (by have : (c.toNat : Int) = (d.toNat : Int) := by simpa using h
                                                                                                              omega)
end Go.Proofs.YtknnooannohflaaGreatDoor.Exp

namespace Go.Proofs.YtknnooannohflaaGreatDoor.Exp
open Go Go.Px Go.Proofs Go.RowKit Go.Proofs.YtknnooannohflaaGreatDoor.Trm Go.Proofs.YtknnooannohflaaGreatDoor.Met
set_option maxRecDepth 100000
set_option linter.unusedVariables false



def awF : FaD := ⟨⟨#[120]⟩, ⟨#[97, 92, 98]⟩, 2, [⟨⟨#[120]⟩, [(⟨#[98]⟩, ⟨#[113, 34, 10]⟩)], -5⟩]⟩
theorem ifB_no {b : Bool} {x y : Prop} (e : b = false) (h : y) : ifB b x y := by subst e; exact h
theorem ifB_yes {b : Bool} {x y : Prop} (e : b = true) (h : x) : ifB b x y := by subst e; exact h
theorem aw_all : allP [awF] := by decide +kernel
theorem aw_txt : txtT [awF] = [35, 32, 72, 69, 76, 80, 32, 120, 32, 97, 92, 92, 98, 10, 35, 32, 84, 89, 80, 69, 32, 120, 32, 103, 97, 117, 103, 101, 10, 120, 123, 98, 61, 34, 113, 92, 34, 92, 110, 34, 125, 32, 45, 53, 10] := by decide +kernel
theorem awake_fn : Ct Tryz.prog 9 {} [] (fun r => r = [B true]) := by
  refine xawake_nf _ (Cl.of (write_fn [awF] (fun f hf => ?_) (fun f hf => ?_)) ⟨_, _, rfl, ?_⟩)
  · rcases List.mem_singleton.1 hf with rfl; decide
  · rcases List.mem_singleton.1 hf with rfl
    intro x hx
    rcases List.mem_singleton.1 hx with rfl
    exact ⟨by decide, by decide⟩
  · unfold wrT wrE
    rw [if_pos aw_all, if_pos aw_all, aw_txt]
    have e : ∀ s : ByteArray, [B (bpick (ieq 0 0) (seq s s) false)] = [B true] := fun s => by rw [seq_d]; simp
    exact e _

theorem seq_bA (a b : Tx) : seq (bA a) (bA b) = decide (a = b) := by
  rw [seq_d]
  exact decide_eq_decide.2 bA_inj
theorem sbyte_at (l : Tx) (i : Nat) (h : i < l.length) : sbyte (bA l) (i : Int) = ((l[i]).toNat : Int) := by
  unfold sbyte
  have : (bA l).data.getD i 0 = l[i] := by
    rw [Array.getD_eq_getD_getElem?, show (bA l).data[i]? = l[i]? by simp, List.getElem?_eq_getElem h]; rfl
  simpa using congrArg (fun c : UInt8 => (c.toNat : Int)) this


theorem sz_ok2 {f : FaD} (h : szF f) : f.ok := ⟨h.2.1, fun x hx => (h.2.2 x hx).1⟩
theorem nl_take (t : Tx) (i : Nat) (h : i < t.length) : nlN (t.take (i + 1)) = nlN (t.take i) + if t[i] = 10 then 1 else 0 := by
  rw [List.take_add_one, List.getElem?_eq_getElem h, nlN_app]
  congr 1
  simp only [Option.toList_some, nlN, List.count_cons, List.count_nil]
  simp
theorem lns_take (l : List FaD) (i : Nat) (h : i < l.length) : lns (l.take (i + 1)) = lns (l.take i) + (2 + (l[i]'h).ss.length) := by
  rw [List.take_add_one, List.getElem?_eq_getElem h, lns, List.map_append, List.sum_append]
  simp [lns]
theorem lns_le (l : List FaD) : allP l → ∀ k : Nat, lns (l.take k) ≤ 402 * k
  | h, 0 => by simp [lns]
  | h, k + 1 => by
    have ih := lns_le l h k
    by_cases hk : k < l.length
    · rw [lns_take l k hk]
      have := (h.2 k hk hk).1.1.2.2.2.2
      omega
    · have e : l.take (k + 1) = l.take k := by rw [List.take_of_length_le (by omega), List.take_of_length_le (by omega)]
      rw [e]; omega

theorem law5_fn (l m : List FaD) (hl : l.length ≤ 4000000000000000000) (hm : m.length ≤ 4000000000000000000) (hls : ∀ f ∈ l, szF f) (hms : ∀ f ∈ m, szF f) (hlr : ∀ f ∈ l, rgF f) (hmr : ∀ f ∈ m, rgF f) : Ct Tryz.prog 5 {} [SL 4 (faR l), SL 4 (faR m)] (fun r => r = [B true]) := by
  refine xlaw5_nf _ _ _ (Cl.of awake_fn ⟨_, rfl, ifB_no rfl (Cl.ofQ (rshort_fn l hl hls) ?_)⟩)
  rintro _ ⟨b1, rfl⟩
  refine ⟨_, rfl, ifB_intro (fun _ => rfl) (fun _ => Cl.ofQ (rshort_fn m hm hms) ?_)⟩
  rintro _ ⟨b2, rfl⟩
  refine ⟨_, rfl, ifB_intro (fun _ => rfl) (fun _ => Cl.of (all_full l (fun f hf => (hls f hf).2.1)) ⟨_, rfl, ifB_intro (fun _ => rfl) (fun h3 => Cl.of (all_full m (fun f hf => (hms f hf).2.1)) ⟨_, rfl, ifB_intro (fun _ => rfl) (fun h4 => ?_)⟩)⟩)⟩
  have hA : allP l := by simpa using h3
  have hM : allP m := by simpa using h4
  have eT : wrT l = bA (txtT l) := by unfold wrT; rw [if_pos hA]
  have eM : wrT m = bA (txtT m) := by unfold wrT; rw [if_pos hM]
  have e0 : wrE l = 0 := by unfold wrE; rw [if_pos hA]
  have e1 : wrE m = 0 := by unfold wrE; rw [if_pos hM]
  have hlen := txt_len hA hlr
  have hl40 := hA.1
  have iff : txtT l = txtT m ↔ l = m := ⟨fun h => txtT_inj (all_OK hA) (all_OK hM) h, fun h => by rw [h]⟩
  refine Cl.of (write_fn l (fun f hf => (hls f hf).2.1) hlr) ⟨_, _, rfl, Cl.of (write_fn m (fun f hf => (hms f hf).2.1) hmr) ⟨_, _, rfl, ?_⟩⟩
  rw [eT, eM, e0, e1]
  refine ifB_no rfl (Cl.of (same_fn l m hl (fun f hf => sz_ok2 (hls f hf))) ⟨_, rfl, ifB_no (by rw [seq_bA]; simp [iff]) ?_⟩)
  have hnl := txtT_nl (all_OK hA)
  have hlast := txtT_last l
  obtain ⟨t, ht⟩ : ∃ t, txtT l = t := ⟨_, rfl⟩
  rw [ht] at hnl hlast hlen ⊢
  refine ⟨fun x2 x3 => ∃ i : Nat, x3 = i ∧ i ≤ t.length ∧ x2 = (nlN (t.take i) : Nat), fun _ x3 => t.length - x3.toNat, ⟨0, rfl, Nat.zero_le _, rfl⟩, ?_⟩
  rintro _ _ ⟨i, rfl, hi, rfl⟩
  rw [slen_bA t]
  refine ifB_intro (fun hlt => ?_) (fun hlt => ?_)
  · have hlt : i < t.length := by simpa using hlt
    have hw := waddN i (by omega)
    have hnt := nl_take t i hlt
    have hcnt : nlN (t.take i) ≤ i := by
      have : nlN (t.take i) ≤ (t.take i).length := List.count_le_length
      rw [List.length_take] at this; omega
    rw [sbyte_at t i hlt]
    generalize t[i] = c at *
    have ms : Nat.le (Nat.succ (t.length - (wadd .i64 (i : Int) 1).toNat)) (t.length - ((i : Nat) : Int).toNat) := by rw [hw]; exact mlt (by omega)
    refine ⟨by omega, ifB_intro (fun hc => ?_) (fun hc => ?_)⟩
    · have hc : c = 10 := ieq_c c 10 hc
      rw [if_pos hc] at hnt
      exact ⟨rfl, ⟨i + 1, hw, by omega, by rw [hnt, waddN _ (by omega)]⟩, ms⟩
    · have hc : ¬ c = 10 := fun e => by subst e; revert hc; simp
      rw [if_neg hc] at hnt
      exact ⟨rfl, ⟨i + 1, hw, by omega, by rw [hnt]; rfl⟩, ms⟩
  · have hie : i = t.length := by have : ¬ i < t.length := by simpa using hlt
                                  omega
    subst hie
    rw [List.take_length, hnl]
    refine ⟨fun x4 x5 => ∃ j : Nat, x5 = j ∧ j ≤ l.length ∧ x4 = (lns (l.take j) : Nat), fun _ x5 => l.length - x5.toNat, ⟨0, rfl, Nat.zero_le _, rfl⟩, ?_⟩
    rintro _ _ ⟨j, rfl, hj, rfl⟩
    rw [rlen_eq (faR l), List.length_map]
    refine ifB_intro (fun hlt => ?_) (fun hlt => ?_)
    · have hlt : j < l.length := by simpa using hlt
      have row := rget_map FaD.row l j hlt
      have hw := waddN j (by omega)
      have hnt := lns_take l j hlt
      have hle := lns_le l hA (j + 1)
      rw [hnt] at hle
      have h400 := (hA.2 j hlt hlt).1.1.2.2.2.2
      generalize l[j]'hlt = f at *
      refine ⟨by omega, f.nm, f.hp, f.ty, smR f.ss, row, rfl, ⟨j + 1, hw, by omega, ?_⟩, ?_⟩
      · rw [rlen_eq, List.length_map, hnt, show (2 : Int) = ((2 : Nat) : Int) from rfl, waddNN 2 _ (by omega), waddNN _ _ (by omega)]
      · rw [hw]; exact mlt (by dsimp only; omega)
    · have hje : j = l.length := by have : ¬ j < l.length := by simpa using hlt
                                    omega
      rw [hje, List.take_length]
      refine ifB_yes (by simp) (ifB_intro (fun _ => rfl) (fun hne => ?_))
      have hne : t ≠ [] := fun e => by
        rw [e] at hne
        have : seq (bA []) (ByteArray.mk (Array.mk [])) = true := by rw [seq_d]; simp
        exact absurd hne (by rw [this]; simp)
      rcases hlast with h | ⟨r, h⟩
      · exact absurd h hne
      · have hrl : t.length = r.length + 1 := by rw [h]; simp
        have hsub : wsub .i64 (t.length : Int) 1 = (r.length : Int) := by
          show IntKind.i64.wrap ((t.length : Int) - 1) = _
          rw [wrap_i64 (by omega) (by omega)]; omega
        rw [hsub]
        refine ⟨by omega, ?_⟩
        have hr : r.length < t.length := by omega
        rw [sbyte_at t r.length hr]
        have e : t[r.length]'hr = 10 := by simp [h]
        rw [e]; rfl
end Go.Proofs.YtknnooannohflaaGreatDoor.Exp

namespace Go.Proofs.YtknnooannohflaaGreatDoor.Exp
open Go Go.Px Go.Proofs Go.Proofs.YtknnooannohflaaGreatDoor.Met Go.ChangeShapes Go.WideShapes Go.ChangeAt Go.RowKit
set_option maxRecDepth 100000
set_option linter.unusedVariables false
theorem own : ownKnob Tryz.prog.godebug = none := by kernel_rfl
theorem laidOut : laidOutB Tryz.prog = true := by kernel_rfl
theorem uB : Tryz.prog.underlying 4 = some .bool := by kernel_rfl

theorem w9 (n : Nat) (ss : List SV) : TypW Tryz.prog (n + 1) 9 ss = ∃ s : ByteArray, ss = [.val (.string s)] ∧ s.size ≤ reachBytes := by kernel_rfl
theorem w2 (n : Nat) (ss : List SV) : TypW Tryz.prog (n + 1) 2 ss = ∃ x : Int, ss = [.val (.int .i64 x)] ∧ (Lit.int .i64 x).wf = true := by kernel_rfl
theorem w3 (n : Nat) (ss : List SV) : TypW Tryz.prog (n + 1) 3 ss = ∃ x : Int, ss = [.val (.int .i64 x)] ∧ (Lit.int .i64 x).wf = true := by kernel_rfl
theorem w68 (n : Nat) (ss : List SV) : TypW Tryz.prog (n + 1) 68 ss = splits (fun f s => TypW Tryz.prog n f s) [9, 9] ss := by kernel_rfl
theorem w30 (n : Nat) (ss : List SV) : TypW Tryz.prog (n + 1) 30 ss = ∃ rows, ss = [.slice (Tryz.prog.cellsOf 68) rows 0] ∧ rows.length ≤ bndL Tryz.prog 68 ∧ ∀ r ∈ rows, TypW Tryz.prog n 68 r := by kernel_rfl
theorem w32 (n : Nat) (ss : List SV) : TypW Tryz.prog (n + 1) 32 ss = splits (fun f s => TypW Tryz.prog n f s) [9, 30, 2] ss := by kernel_rfl
theorem w26 (n : Nat) (ss : List SV) : TypW Tryz.prog (n + 1) 26 ss = ∃ rows, ss = [.slice (Tryz.prog.cellsOf 32) rows 0] ∧ rows.length ≤ bndL Tryz.prog 32 ∧ ∀ r ∈ rows, TypW Tryz.prog n 32 r := by kernel_rfl
theorem w28 (n : Nat) (ss : List SV) : TypW Tryz.prog (n + 1) 28 ss = splits (fun f s => TypW Tryz.prog n f s) [9, 9, 3, 26] ss := by kernel_rfl
theorem w22 (n : Nat) (ss : List SV) : TypW Tryz.prog (n + 1) 22 ss = ∃ rows, ss = [.slice (Tryz.prog.cellsOf 28) rows 0] ∧ rows.length ≤ bndL Tryz.prog 28 ∧ ∀ r ∈ rows, TypW Tryz.prog n 28 r := by kernel_rfl
theorem b68 : bndL Tryz.prog 68 = reachBytes := by kernel_rfl
theorem b32 : bndL Tryz.prog 32 = reachBytes := by kernel_rfl
theorem b28 : bndL Tryz.prog 28 = reachBytes := by kernel_rfl
theorem c68 : Tryz.prog.cellsOf 68 = 2 := by kernel_rfl
theorem c32 : Tryz.prog.cellsOf 32 = 3 := by kernel_rfl
theorem c28 : Tryz.prog.cellsOf 28 = 4 := by kernel_rfl
theorem reach4 : reachBytes ≤ 4000000000000000000 := by decide

theorem rows_good {α : Type} {f : α → List SV} {p : α → Prop} : ∀ (rows : List (List SV)), (∀ r ∈ rows, ∃ a, r = f a ∧ p a) → ∃ l : List α, rows = l.map f ∧ ∀ a ∈ l, p a
  | [], _ => ⟨[], rfl, by simp⟩
  | r :: rows, h => by
    obtain ⟨a, rfl, ha⟩ := h r (by simp)
    obtain ⟨l, rfl, hl⟩ := rows_good rows (fun r hr => h r (by simp [hr]))
    exact ⟨a :: l, rfl, fun b hb => by rcases List.mem_cons.1 hb with rfl | hb; exact ha; exact hl b hb⟩

theorem i64_of {x : Int} (h : (Lit.int .i64 x).wf = true) : i64 x := by
  have h1 : IntKind.i64.min = -9223372036854775808 := by decide
  simp [Lit.wf] at h
  rw [h1] at h
  unfold i64; omega

theorem typ_la {n : Nat} {ss : List SV} (h : TypW Tryz.prog (n + 2) 68 ss) : ∃ p : LaD, ss = [S p.1, S p.2] ∧ p.1.size ≤ 9000000000000000000 := by
  rw [w68] at h
  simp only [splits, w9] at h
  obtain ⟨_, _, rfl, ⟨a, rfl, ha⟩, _, _, rfl, ⟨b, rfl, hb⟩, rfl⟩ := h
  exact ⟨(a, b), rfl, Nat.le_trans ha (by decide)⟩

theorem typ_las {n : Nat} {ss : List SV} (h : TypW Tryz.prog (n + 3) 30 ss) : ∃ l : List LaD, ss = [SL 2 (laR l)] ∧ szL l := by
  rw [w30] at h
  obtain ⟨rows, rfl, hl, hr⟩ := h
  obtain ⟨l, rfl, hp⟩ := rows_good (f := fun p : LaD => [S p.1, S p.2]) (p := fun p => p.1.size ≤ 9000000000000000000) rows (fun r hm => typ_la (hr r hm))
  rw [b68, List.length_map] at hl
  exact ⟨l, by rw [c68], Nat.le_trans hl reach4, hp⟩

theorem typ_sm {n : Nat} {ss : List SV} (h : TypW Tryz.prog (n + 4) 32 ss) : ∃ x : SmD, ss = SmD.row x ∧ szL x.ls ∧ i64 x.v := by
  rw [w32] at h
  simp only [splits, w9, w2] at h
  obtain ⟨_, _, rfl, ⟨a, rfl, ha⟩, _, _, rfl, h1, _, _, rfl, ⟨v, rfl, hv⟩, rfl⟩ := h
  obtain ⟨l, rfl, hl⟩ := typ_las h1
  exact ⟨⟨a, l, v⟩, rfl, hl, i64_of hv⟩

theorem typ_fa {n : Nat} {ss : List SV} (h : TypW Tryz.prog (n + 6) 28 ss) : ∃ f : FaD, ss = FaD.row f ∧ szF f ∧ rgF f := by
  rw [w28] at h
  simp only [splits, w9, w3] at h
  obtain ⟨_, _, rfl, ⟨a, rfl, ha⟩, _, _, rfl, ⟨b, rfl, hb⟩, _, _, rfl, ⟨t, rfl, _⟩, _, _, rfl, h1, rfl⟩ := h
  rw [w26] at h1
  obtain ⟨rows, rfl, hl, hr⟩ := h1
  obtain ⟨l, rfl, hp⟩ := rows_good (f := SmD.row) (p := fun x => szL x.ls ∧ i64 x.v) rows (fun r hm => typ_sm (hr r hm))
  rw [b32, List.length_map] at hl
  exact ⟨⟨a, b, t, l⟩, by rw [c32]; rfl, ⟨Nat.le_trans ha (by decide), Nat.le_trans hl reach4, fun x hx => (hp x hx).1⟩, fun x hx => (hp x hx).2⟩

theorem typ_fas {s : SV} (ht : TypVW Tryz.prog 9 22 s) : ∃ l : List FaD, s = SL 4 (faR l) ∧ l.length ≤ 4000000000000000000 ∧ (∀ f ∈ l, szF f) ∧ ∀ f ∈ l, rgF f := by
  obtain ⟨ss, h1, _, h3⟩ := ht
  have h3 := h3 (by kernel_rfl)
  subst h3
  rw [w22] at h1
  obtain ⟨rows, e, hl, hr⟩ := h1
  obtain ⟨l, rfl, hp⟩ := rows_good (f := FaD.row) (p := fun f => szF f ∧ rgF f) rows (fun r hm => typ_fa (hr r hm))
  rw [b28, List.length_map] at hl
  rw [c28] at e
  exact ⟨l, by simpa using e, Nat.le_trans hl reach4, fun f hf => (hp f hf).1, fun f hf => (hp f hf).2⟩

end Go.Proofs.YtknnooannohflaaGreatDoor.Exp

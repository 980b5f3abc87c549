/- Printed conditions of functions. -/
import Derived.Test.YtknnooannohflaaGreatDoorMezN
import Derived.Test.YtknnooannohflaaGreatDoorExX
import Derived.Test.YtknnooannohflaaGreatDoorDkA
import Derived.Test.YtknnooannohflaaGreatDoorRpP1
import Derived.Test.YtknnooannohflaaGreatDoorMzD
import Derived.Test.YtknnooannohflaaGreatDoorEvA
import Derived.Test.YtknnooannohflaaGreatDoorPxMm
namespace Go.Proofs.YtknnooannohflaaGreatDoor.Met
open Go Go.Px Go.Proofs 
set_option maxRecDepth 100000
set_option linter.unusedVariables false

theorem xawake_nf  (Q : List SV → Prop) (h : Cl Tryz.prog 17 sP ([SV.slice 4 ([[S (ByteArray.mk (Array.mk [120])), S (ByteArray.mk (Array.mk [97, 92, 98])), I 2, SV.slice 3 ([[S (ByteArray.mk (Array.mk [120])), SL 2 ([[S (ByteArray.mk (Array.mk [98])), S (ByteArray.mk (Array.mk [113, 34, 10]))]]), I ((-5 : Int))]]) 0]]) 0]) (fun (rs : List SV) => ∃ s : ByteArray, ∃ x : Int, (rs = [S s, I x]) ∧ (Q ([B (bpick (ieq x 0) (seq s (ByteArray.mk (Array.mk [35, 32, 72, 69, 76, 80, 32, 120, 32, 97, 92, 92, 98, 10, 35, 32, 84, 89, 80, 69, 32, 120, 32, 103, 97, 117, 103, 101, 10, 120, 123, 98, 61, 34, 113, 92, 34, 92, 110, 34, 125, 32, 45, 53, 10]))) false)])))) : Ct Tryz.prog 9 {} ([] : List SV) Q :=
  fn_of (f := 9) SgT SvT (fun _ => none) Tryz.f9 Tryz.func9 (by kernel_rfl) (by kernel_rfl) h

theorem xlaw4_nf (a b : ByteArray) (Q : List SV → Prop) (h : Cl Tryz.prog 9 sP [] (fun (rs : List SV) => ∃ b1 : Bool, (rs = [B b1]) ∧ (ifB (bnot b1) (Q [B false]) (ifB (bpick (igt (slen a) 1000) true (igt (slen b) 1000)) (Q [B true]) (Cl Tryz.prog 13 sP [S a] (fun (rs1 : List SV) => ∃ s : ByteArray, (rs1 = [S s]) ∧ (Cl Tryz.prog 11 sP [S a] (fun (rs2 : List SV) => ∃ s1 : ByteArray, (rs2 = [S s1]) ∧ (∃ Inv : Bool → Int → Int → Prop, ∃ m : Bool → Int → Int → Nat, (Inv false 0 0) ∧ (∀ b2 : Bool, ∀ x : Int, ∀ x1 : Int, (Inv b2 x x1) → ifB (ilt x1 (slen s)) ((((0 : Int) ≤ x1) ∧ (x1 < (slen s))) ∧ (ifB (ieq (sbyte s x1) 10) (Q [B false]) ((((0 : Int) ≤ x1) ∧ (x1 < (slen s))) ∧ (ifB (ieq (sbyte s x1) 34) ((((2 : Int) = 0) → False) ∧ (ifB (ieq (wrem x 2) 0) (Q [B false]) ((((0 : Int) ≤ x1) ∧ (x1 < (slen s))) ∧ (ifB (ieq (sbyte s x1) 92) (((Option.some [] : Option (List (List SV))) = Option.some []) ∧ ((Inv b2 (wadd IntKind.i64 x 1) (wadd IntKind.i64 x1 1)) ∧ (Nat.le (Nat.succ (m b2 (wadd IntKind.i64 x 1) (wadd IntKind.i64 x1 1))) (m b2 x x1)))) (((Option.some [] : Option (List (List SV))) = Option.some []) ∧ ((Inv b2 0 (wadd IntKind.i64 x1 1)) ∧ (Nat.le (Nat.succ (m b2 0 (wadd IntKind.i64 x1 1))) (m b2 x x1)))))))) ((((0 : Int) ≤ x1) ∧ (x1 < (slen s))) ∧ (ifB (ieq (sbyte s x1) 92) (((Option.some [] : Option (List (List SV))) = Option.some []) ∧ ((Inv b2 (wadd IntKind.i64 x 1) (wadd IntKind.i64 x1 1)) ∧ (Nat.le (Nat.succ (m b2 (wadd IntKind.i64 x 1) (wadd IntKind.i64 x1 1))) (m b2 x x1)))) (((Option.some [] : Option (List (List SV))) = Option.some []) ∧ ((Inv b2 0 (wadd IntKind.i64 x1 1)) ∧ (Nat.le (Nat.succ (m b2 0 (wadd IntKind.i64 x1 1))) (m b2 x x1)))))))))) (∃ Inv1 : Bool → Int → Prop, ∃ m1 : Bool → Int → Nat, (Inv1 b2 0) ∧ (∀ b3 : Bool, ∀ x2 : Int, (Inv1 b3 x2) → ifB (ilt x2 (slen s1)) ((((0 : Int) ≤ x2) ∧ (x2 < (slen s1))) ∧ (ifB (ieq (sbyte s1 x2) 10) (Q [B false]) (((Option.some [] : Option (List (List SV))) = Option.some []) ∧ ((Inv1 b3 (wadd IntKind.i64 x2 1)) ∧ (Nat.le (Nat.succ (m1 b3 (wadd IntKind.i64 x2 1))) (m1 b3 x2)))))) ((((2 : Int) = 0) → False) ∧ (ifB (ieq (wrem x 2) 0) (Cl Tryz.prog 13 sP [S b] (fun (rs3 : List SV) => ∃ s2 : ByteArray, (rs3 = [S s2]) ∧ (ifB (beqB (seq s s2) (seq a b)) (Cl Tryz.prog 11 sP [S b] (fun (rs4 : List SV) => ∃ s3 : ByteArray, (rs4 = [S s3]) ∧ (ifB (beqB (seq s1 s3) (seq a b)) (((lsum (slen a) (slen b)) ≤ 9223372036854775807) ∧ (Cl Tryz.prog 13 sP [S (scat a b)] (fun (rs5 : List SV) => ∃ s4 : ByteArray, (rs5 = [S s4]) ∧ (Cl Tryz.prog 13 sP [S b] (fun (rs6 : List SV) => ∃ s5 : ByteArray, (rs6 = [S s5]) ∧ (((lsum (slen s) (slen s5)) ≤ 9223372036854775807) ∧ (ifB (seq s4 (scat s s5)) (((lsum (slen a) (slen b)) ≤ 9223372036854775807) ∧ (Cl Tryz.prog 11 sP [S (scat a b)] (fun (rs7 : List SV) => ∃ s6 : ByteArray, (rs7 = [S s6]) ∧ (Cl Tryz.prog 11 sP [S b] (fun (rs8 : List SV) => ∃ s7 : ByteArray, (rs8 = [S s7]) ∧ (((lsum (slen s1) (slen s7)) ≤ 9223372036854775807) ∧ (Q [B (seq s6 (scat s1 s7))]))))))) (Q [B false])))))))) (Q [B false])))) (Q [B false])))) (Q [B false]))))))))))))))) : Ct Tryz.prog 4 {} [S a, S b] Q :=
  fn_of (f := 4) SgT SvT (fun _ => none) Tryz.f4 Tryz.func4 (by kernel_rfl) (by kernel_rfl) h

end Go.Proofs.YtknnooannohflaaGreatDoor.Met

namespace Go.Proofs.YtknnooannohflaaGreatDoor.Exp
open Go Go.Px Go.Proofs Go.Proofs.YtknnooannohflaaGreatDoor.Trm Go.Proofs.YtknnooannohflaaGreatDoor.Met
set_option maxRecDepth 100000
set_option linter.unusedVariables false

theorem scat_l (a b : ByteArray) : (scat a b).data.toList = a.data.toList ++ b.data.toList := by
  unfold scat
  rw [ByteArray.data_append, Array.toList_append]
theorem scat_bA (a b : Tx) : scat (bA a) (bA b) = bA (a ++ b) := by
  apply bA_ext.2
  rw [scat_l]
theorem slen_bA (l : Tx) : slen (bA l) = l.length := by
  show (((bA l).size : Nat) : Int) = _
  simp [ByteArray.size]
theorem lsum_e (a b : Int) : lsum a b = a + b := rfl
theorem ieq_c (c d : UInt8) (h : ieq (c.toNat : Int) (d.toNat : Int) = true) : c = d := UInt8.toNat_inj.1 (by have : (c.toNat : Int) = (d.toNat : Int) := by simpa using h
                                                                                                              omega)
end Go.Proofs.YtknnooannohflaaGreatDoor.Exp

namespace Go.Proofs.YtknnooannohflaaGreatDoor.Exp
open Go Go.Px Go.Proofs Go.RowKit Go.Proofs.YtknnooannohflaaGreatDoor.Trm Go.Proofs.YtknnooannohflaaGreatDoor.Met
set_option maxRecDepth 100000
set_option linter.unusedVariables false



def awF : FaD := ⟨⟨#[120]⟩, ⟨#[97, 92, 98]⟩, 2, [⟨⟨#[120]⟩, [(⟨#[98]⟩, ⟨#[113, 34, 10]⟩)], -5⟩]⟩
theorem ifB_no {b : Bool} {x y : Prop} (e : b = false) (h : y) : ifB b x y := by subst e; exact h
theorem ifB_yes {b : Bool} {x y : Prop} (e : b = true) (h : x) : ifB b x y := by subst e; exact h
theorem aw_all : allP [awF] := by decide +kernel
theorem aw_txt : txtT [awF] = [35, 32, 72, 69, 76, 80, 32, 120, 32, 97, 92, 92, 98, 10, 35, 32, 84, 89, 80, 69, 32, 120, 32, 103, 97, 117, 103, 101, 10, 120, 123, 98, 61, 34, 113, 92, 34, 92, 110, 34, 125, 32, 45, 53, 10] := by decide +kernel
theorem awake_fn : Ct Tryz.prog 9 {} [] (fun r => r = [B true]) := by
  refine xawake_nf _ (Cl.of (write_fn [awF] (fun f hf => ?_) (fun f hf => ?_)) ⟨_, _, rfl, ?_⟩)
  · rcases List.mem_singleton.1 hf with rfl; decide
  · rcases List.mem_singleton.1 hf with rfl
    intro x hx
    rcases List.mem_singleton.1 hx with rfl
    exact ⟨by decide, by decide⟩
  · unfold wrT wrE
    rw [if_pos aw_all, if_pos aw_all, aw_txt]
    have e : ∀ s : ByteArray, [B (bpick (ieq 0 0) (seq s s) false)] = [B true] := fun s => by rw [seq_d]; simp
    exact e _

theorem seq_bA (a b : Tx) : seq (bA a) (bA b) = decide (a = b) := by
  rw [seq_d]
  exact decide_eq_decide.2 bA_inj
theorem wrem2 (u : Nat) : wrem (u : Int) 2 = ((u % 2 : Nat) : Int) := by
  show (u : Int).tmod 2 = _
  rw [Int.tmod_eq_emod_of_nonneg (by omega)]; omega
theorem sbyte_at (l : Tx) (i : Nat) (h : i < l.length) : sbyte (bA l) (i : Int) = ((l[i]).toNat : Int) := by
  unfold sbyte
  have : (bA l).data.getD i 0 = l[i] := by
    rw [Array.getD_eq_getD_getElem?, show (bA l).data[i]? = l[i]? by simp, List.getElem?_eq_getElem h]; rfl
  simpa using congrArg (fun c : UInt8 => (c.toNat : Int)) this

theorem law4_fn (a b : ByteArray) : Ct Tryz.prog 4 {} [S a, S b] (fun r => r = [B true]) := by
  refine xlaw4_nf _ _ _ (Cl.of awake_fn ⟨_, rfl, ifB_no rfl (ifB_intro (fun _ => rfl) (fun hsz => ?_))⟩)
  have hsz : a.size ≤ 1000 ∧ b.size ≤ 1000 := by
    have h := bor_f.1 hsz
    have h1 : ¬ (1000 : Int) < slen a := by simpa using h.1
    have h2 : ¬ (1000 : Int) < slen b := by simpa using h.2
    have e1 : slen a = a.size := rfl
    have e2 : slen b = b.size := rfl
    omega
  obtain ⟨ha, hb⟩ := hsz
  obtain ⟨t, ht⟩ : ∃ t, valT a.data.toList = t := ⟨_, rfl⟩
  obtain ⟨u, hu⟩ : ∃ u, hlpT a.data.toList = u := ⟨_, rfl⟩
  have htl : t.length ≤ 2000 := by have := valT_len a.data.toList; rw [ht, tl_size] at this; omega
  have hul : u.length ≤ 2000 := by have := hlpT_len a.data.toList; rw [hu, tl_size] at this; omega
  have hq := okQ_at (okQ_valT a.data.toList (n := 0) rfl)
  rw [ht] at hq
  have hun : 10 ∉ u := hu ▸ hlpT_no _
  refine Cl.of (Rp.value_fn a (by omega)) ⟨_, rfl, Cl.of (Rp.help_fn a (by omega)) ⟨_, rfl, ?_⟩⟩
  rw [ht, hu]
  refine ⟨fun _ x x1 => ∃ i : Nat, x1 = i ∧ i ≤ t.length ∧ x = (bkL 0 (t.take i) : Nat), fun _ _ x1 => t.length - x1.toNat, ⟨0, rfl, Nat.zero_le _, rfl⟩, ?_⟩
  rintro _ _ _ ⟨i, rfl, hi, rfl⟩
  rw [slen_bA t]
  refine ifB_intro (fun hlt => ?_) (fun hlt => ?_)
  · have hlt : i < t.length := by simpa using hlt
    obtain ⟨n10, n34⟩ := hq.2 i hlt
    have hbk := bkL_le (t.take i) 0
    have hsn : bkL 0 (t.take (i + 1)) = bk (bkL 0 (t.take i)) t[i] := by
      rw [List.take_add_one, List.getElem?_eq_getElem hlt, Option.toList_some, bkL_snoc]
    have hw := waddN i (by omega)
    have hin : (0 : Int) ≤ i ∧ (i : Int) < t.length := by omega
    rw [List.length_take] at hbk
    rw [sbyte_at t i hlt]
    generalize t[i] = c at *
    have ms : Nat.le (Nat.succ (t.length - (wadd .i64 (i : Int) 1).toNat)) (t.length - ((i : Nat) : Int).toNat) := by rw [hw]; exact mlt (by omega)
    have n10' : ieq (c.toNat : Int) 10 = false := by
      cases e : ieq (c.toNat : Int) 10 with
      | false => rfl
      | true => exact absurd (ieq_c c 10 e) n10
    have step : ifB (ieq (c.toNat : Int) 92) (((Option.some [] : Option (List (List SV))) = Option.some []) ∧ (∃ i1 : Nat, wadd .i64 (i : Int) 1 = i1 ∧ i1 ≤ t.length ∧ wadd .i64 (bkL 0 (t.take i) : Nat) 1 = (bkL 0 (t.take i1) : Nat)) ∧ Nat.le (Nat.succ (t.length - (wadd .i64 (i : Int) 1).toNat)) (t.length - ((i : Nat) : Int).toNat))
        (((Option.some [] : Option (List (List SV))) = Option.some []) ∧ (∃ i1 : Nat, wadd .i64 (i : Int) 1 = i1 ∧ i1 ≤ t.length ∧ (0 : Int) = (bkL 0 (t.take i1) : Nat)) ∧ Nat.le (Nat.succ (t.length - (wadd .i64 (i : Int) 1).toNat)) (t.length - ((i : Nat) : Int).toNat)) := by
      refine ifB_intro (fun hc => ?_) (fun hc => ?_)
      · have hc : c = 92 := ieq_c c 92 hc
        subst hc
        refine ⟨rfl, ⟨i + 1, hw, by omega, ?_⟩, ms⟩
        rw [hsn, waddN _ (by omega)]
        rfl
      · have hc : ¬ c = 92 := fun e => by subst e; revert hc; simp
        refine ⟨rfl, ⟨i + 1, hw, by omega, ?_⟩, ms⟩
        rw [hsn]
        unfold bk
        rw [if_neg hc]; rfl
    refine ⟨hin, ifB_no n10' ⟨hin, ifB_intro (fun h34 => ⟨by omega, ?_⟩) (fun _ => ⟨hin, step⟩)⟩⟩
    have h34 : c = 34 := ieq_c c 34 h34
    have hodd := n34 h34
    refine ifB_no ?_ ⟨hin, step⟩
    rw [wrem2, hodd]; rfl
  · have hie : i = t.length := by have : ¬ i < t.length := by simpa using hlt
                                  omega
    subst hie
    rw [List.take_length]
    refine ⟨fun _ x => ∃ j : Nat, x = j ∧ j ≤ u.length, fun _ x => u.length - x.toNat, ⟨0, rfl, Nat.zero_le _⟩, ?_⟩
    rintro _ _ ⟨j, rfl, hj⟩
    rw [slen_bA u]
    refine ifB_intro (fun hlt => ?_) (fun hlt => ?_)
    · have hlt : j < u.length := by simpa using hlt
      have hw := waddN j (by omega)
      rw [sbyte_at u j hlt]
      refine ⟨by omega, ifB_no ?_ ⟨rfl, ⟨j + 1, hw, by omega⟩, ?_⟩⟩
      · cases e : ieq ((u[j]).toNat : Int) 10 with
        | false => rfl
        | true => exact absurd (ieq_c _ 10 e ▸ List.getElem_mem hlt) hun
      · rw [hw]; exact mlt (by dsimp only; omega)
    · refine ⟨by omega, ifB_yes (by rw [wrem2, hq.1]; rfl) ?_⟩
      have hab : a.size + b.size ≤ 2000 := by omega
      have hsum : lsum (slen a) (slen b) ≤ 9223372036854775807 := by
        have e1 : slen a = a.size := rfl
        have e2 : slen b = b.size := rfl
        rw [lsum_e]; omega
      have hcs : (scat a b).size = a.size + b.size := ByteArray.size_append
      have hvl := valT_len b.data.toList
      have hhl := hlpT_len b.data.toList
      rw [tl_size] at hvl hhl
      have hv : valT (scat a b).data.toList = t ++ valT b.data.toList := by rw [scat_l, ← ht]; exact List.flatMap_append
      have hh : hlpT (scat a b).data.toList = u ++ hlpT b.data.toList := by rw [scat_l, ← hu]; exact List.flatMap_append
      have iffV : (t = valT b.data.toList) ↔ a = b := ⟨fun h => bA_ext.2 (valT_inj (ht.trans h)), fun h => by rw [← ht, h]⟩
      have iffH : (u = hlpT b.data.toList) ↔ a = b := ⟨fun h => bA_ext.2 (hlpT_inj (hu.trans h)), fun h => by rw [← hu, h]⟩
      have eab : seq a b = decide (a = b) := seq_d a b
      refine Cl.of (Rp.value_fn b (by omega)) ⟨_, rfl, ifB_yes (by rw [seq_bA, eab]; simp [iffV]) (Cl.of (Rp.help_fn b (by omega)) ⟨_, rfl, ifB_yes (by rw [seq_bA, eab]; simp [iffH]) ⟨hsum, Cl.of (Rp.value_fn (scat a b) (by omega)) ⟨_, rfl, Cl.of (Rp.value_fn b (by omega)) ⟨_, rfl, ?_, ifB_yes ?_ ⟨hsum, Cl.of (Rp.help_fn (scat a b) (by omega)) ⟨_, rfl, Cl.of (Rp.help_fn b (by omega)) ⟨_, rfl, ?_, ?_⟩⟩⟩⟩⟩⟩⟩)⟩
      · rw [lsum_e, slen_bA]; omega
      · rw [hv, scat_bA, seq_bA]; simp
      · rw [lsum_e, slen_bA]; omega
      · rw [hh, scat_bA, seq_bA]; simp

end Go.Proofs.YtknnooannohflaaGreatDoor.Exp

namespace Go.Proofs.YtknnooannohflaaGreatDoor.Exp
open Go Go.Px Go.Proofs Go.Proofs.YtknnooannohflaaGreatDoor.Met Go.ChangeShapes Go.WideShapes Go.ChangeAt Go.RowKit
set_option maxRecDepth 100000
set_option linter.unusedVariables false
theorem own : ownKnob Tryz.prog.godebug = none := by kernel_rfl
theorem laidOut : laidOutB Tryz.prog = true := by kernel_rfl
theorem uB : Tryz.prog.underlying 4 = some .bool := by kernel_rfl

theorem w9 (n : Nat) (ss : List SV) : TypW Tryz.prog (n + 1) 9 ss = ∃ s : ByteArray, ss = [.val (.string s)] ∧ s.size ≤ reachBytes := by kernel_rfl
theorem w2 (n : Nat) (ss : List SV) : TypW Tryz.prog (n + 1) 2 ss = ∃ x : Int, ss = [.val (.int .i64 x)] ∧ (Lit.int .i64 x).wf = true := by kernel_rfl
theorem w3 (n : Nat) (ss : List SV) : TypW Tryz.prog (n + 1) 3 ss = ∃ x : Int, ss = [.val (.int .i64 x)] ∧ (Lit.int .i64 x).wf = true := by kernel_rfl
theorem typ_strW {s : SV} (ht : TypVW Tryz.prog 9 9 s) : ∃ b : ByteArray, s = S b ∧ b.size ≤ 140737488351232 := by
  obtain ⟨ss, h1, _, h3⟩ := ht
  have h3 := h3 (by kernel_rfl)
  subst h3
  rw [w9] at h1
  obtain ⟨b, e, hb⟩ := h1
  exact ⟨b, by simpa using e, Nat.le_trans hb (by decide)⟩
end Go.Proofs.YtknnooannohflaaGreatDoor.Exp

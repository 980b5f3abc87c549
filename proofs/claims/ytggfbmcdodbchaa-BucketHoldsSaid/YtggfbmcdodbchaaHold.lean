/- Law BucketHolds over plain data. -/
import Derived.Test.YtggfbmcdodbchaaBkt
namespace Go.Proofs.Ytggfbmcdodbchaa
open Go Go.Px Go.Proofs
set_option maxRecDepth 100000
set_option linter.unusedVariables false

theorem law4_nf (br bh : Int) (rows : List (List SV)) (Q : List SV → Prop) (h : Cl Try.prog 8 false [] (fun (rs : List SV) => ∃ b : Bool, (rs = [B b]) ∧ (ifB (bnot b) (Q [B false]) (ifB (igt (rlen rows) 60) (Q [B true]) (Cl Try.prog 13 false ([SV.agg [I br, I bh]]) (fun (rs1 : List SV) => ∃ b1 : Bool, (rs1 = [B b1]) ∧ (ifB (bpick false true (bnot b1)) (Q [B true]) (∃ Inv : Int → Bool → Int → Int → Int → Prop, ∃ m : Int → Bool → Int → Int → Int → Nat, (Inv bh true 0 br bh) ∧ (∀ x : Int, ∀ b2 : Bool, ∀ x1 : Int, ∀ x2 : Int, ∀ x3 : Int, (Inv x b2 x1 x2 x3) → ifB (ilt x1 (rlen rows)) (((0 ≤ x1) ∧ (x1 < (rlen rows))) ∧ (∃ x4 : Int, (rget rows x1 = [SV.int .i32 x4]) ∧ (ifB (ige (wcv IntKind.i64 x4) 0) (Cl Try.prog 14 false ([SV.agg [I x2, I x3], I (wcv IntKind.i64 x4)]) (fun (rs2 : List SV) => ∃ x5 : Int, ∃ x6 : Int, (rs2 = [SV.agg [I x5, I x6]]) ∧ (Cl Try.prog 13 false ([SV.agg [I x5, I x6]]) (fun (rs3 : List SV) => ∃ b3 : Bool, (rs3 = [B b3]) ∧ (ifB (bpick (bpick (bpick (bpick (bnot b3) true (ine x5 x2)) true (bpick (bpick b2 (ile (wadd IntKind.i64 x3 (wcv IntKind.i64 x4)) x2) false) (ine x6 (wadd IntKind.i64 x (wcv IntKind.i64 x4))) false)) true (bpick (ige (wcv IntKind.i64 x4) 0) (ilt x6 x3) false)) true (bpick (ilt (wcv IntKind.i64 x4) 0) (bpick (bpick (ige x6 x3) (igt x3 0) false) true (bnot (beqB true (ige x3 (wneg IntKind.i64 (wcv IntKind.i64 x4)))))) false)) (Q [B false]) (([SV.slice 1 rows 0, SV.ptr 32 0] = [SV.slice 1 rows 0, SV.ptr 32 0]) ∧ ((([] : List (List SV)) = []) ∧ ((Inv (wadd IntKind.i64 x (wcv IntKind.i64 x4)) (bpick b2 (ile (wadd IntKind.i64 x3 (wcv IntKind.i64 x4)) x2) false) (wadd IntKind.i64 x1 1) x5 x6) ∧ (Nat.le (Nat.succ (m (wadd IntKind.i64 x (wcv IntKind.i64 x4)) (bpick b2 (ile (wadd IntKind.i64 x3 (wcv IntKind.i64 x4)) x2) false) (wadd IntKind.i64 x1 1) x5 x6)) (m x b2 x1 x2 x3)))))))))) (Cl Try.prog 11 false ([SV.agg [I x2, I x3], I (wneg IntKind.i64 (wcv IntKind.i64 x4))]) (fun (rs2 : List SV) => ∃ x5 : Int, ∃ x6 : Int, ∃ b3 : Bool, (rs2 = [SV.agg [I x5, I x6], B b3]) ∧ (ifB b3 (Cl Try.prog 14 false ([SV.agg [I x5, I x6], I (wneg IntKind.i64 (wcv IntKind.i64 x4))]) (fun (rs3 : List SV) => ∃ x7 : Int, ∃ x8 : Int, (rs3 = [SV.agg [I x7, I x8]]) ∧ (ifB (bpick true (bnot (band (ieq x7 x2) (band (ieq x8 x3) true))) false) (Q [B false]) (Cl Try.prog 13 false ([SV.agg [I x5, I x6]]) (fun (rs4 : List SV) => ∃ b4 : Bool, (rs4 = [B b4]) ∧ (ifB (bpick (bpick (bpick (bpick (bnot b4) true (ine x5 x2)) true (bpick (bpick b2 b3 false) (ine x6 (wadd IntKind.i64 x (wcv IntKind.i64 x4))) false)) true (bpick (ige (wcv IntKind.i64 x4) 0) (ilt x6 x3) false)) true (bpick (ilt (wcv IntKind.i64 x4) 0) (bpick (bpick (ige x6 x3) (igt x3 0) false) true (bnot (beqB b3 (ige x3 (wneg IntKind.i64 (wcv IntKind.i64 x4)))))) false)) (Q [B false]) (([SV.slice 1 rows 0, SV.ptr 32 0] = [SV.slice 1 rows 0, SV.ptr 32 0]) ∧ ((([] : List (List SV)) = []) ∧ ((Inv (wadd IntKind.i64 x (wcv IntKind.i64 x4)) (bpick b2 b3 false) (wadd IntKind.i64 x1 1) x5 x6) ∧ (Nat.le (Nat.succ (m (wadd IntKind.i64 x (wcv IntKind.i64 x4)) (bpick b2 b3 false) (wadd IntKind.i64 x1 1) x5 x6)) (m x b2 x1 x2 x3))))))))))) (Cl Try.prog 13 false ([SV.agg [I x5, I x6]]) (fun (rs3 : List SV) => ∃ b4 : Bool, (rs3 = [B b4]) ∧ (ifB (bpick (bpick (bpick (bpick (bnot b4) true (ine x5 x2)) true (bpick (bpick b2 b3 false) (ine x6 (wadd IntKind.i64 x (wcv IntKind.i64 x4))) false)) true (bpick (ige (wcv IntKind.i64 x4) 0) (ilt x6 x3) false)) true (bpick (ilt (wcv IntKind.i64 x4) 0) (bpick (bpick (ige x6 x3) (igt x3 0) false) true (bnot (beqB b3 (ige x3 (wneg IntKind.i64 (wcv IntKind.i64 x4)))))) false)) (Q [B false]) (([SV.slice 1 rows 0, SV.ptr 32 0] = [SV.slice 1 rows 0, SV.ptr 32 0]) ∧ ((([] : List (List SV)) = []) ∧ ((Inv (wadd IntKind.i64 x (wcv IntKind.i64 x4)) (bpick b2 b3 false) (wadd IntKind.i64 x1 1) x5 x6) ∧ (Nat.le (Nat.succ (m (wadd IntKind.i64 x (wcv IntKind.i64 x4)) (bpick b2 b3 false) (wadd IntKind.i64 x1 1) x5 x6)) (m x b2 x1 x2 x3)))))))))))))) (Q [B true])))))))))) : Ct Try.prog 4 false [bk br bh, .slice 1 rows 0] Q :=
  fn_of (f := 4) TT (fun k => bif Nat.beq k 23 then { slots := [(5, .int .i64), (6, .bool), (7, .int .i64)], live := [1, 2], boxes := [(32, [.int .i64, .int .i64])] } else {}) Try.func4 rfl (by kernel_rfl) (by kernel_rfl) h

theorem law4_fn (br bh : Int) (rows : List (List SV))
    (hrows : ∀ i : Int, 0 ≤ i → i < rlen rows → ∃ n : Int, rget rows i = [SV.int .i32 n] ∧ -2147483648 ≤ n ∧ n ≤ 2147483647) :
    Ct Try.prog 4 false [bk br bh, .slice 1 rows 0] (fun r => r = [B true]) := by
  refine law4_nf _ _ _ _ (Cl.of awake_fn ⟨_, rfl, ?_⟩)
  refine ifB_intro (fun h => by simp at h) (fun _ => ?_)
  refine ifB_intro (fun _ => rfl) (fun hl => ?_)
  have hl : rlen rows ≤ 60 := by simpa using hl
  refine Cl.of (right_fn _ _) ⟨_, rfl, ?_⟩
  refine ifB_intro (fun _ => rfl) (fun hr => ?_)
  have hr : rightB br bh = true := by simpa using hr
  have hb := rightB_true hr
  refine ⟨fun x b i r h => 0 ≤ i ∧ i ≤ rlen rows ∧ rightB r h = true ∧ (b = true → x = h) ∧ -(i * 2147483648) ≤ x ∧ x ≤ 2147483647 + i * 2147483648,
    fun _ _ i _ _ => (rlen rows - i).toNat, ⟨by omega, by simp, hr, fun _ => rfl, by omega, by omega⟩, ?_⟩
  rintro x b i r h ⟨i0, i1, hr, hs, x0, x1⟩
  have hb := rightB_true hr
  refine ifB_intro (fun hi => ?_) (fun _ => rfl)
  have hi : i < rlen rows := by simpa only [ilt_eq, decide_eq_true_eq] using hi
  obtain ⟨n, en, n0, n1⟩ := hrows i i0 hi
  refine ⟨⟨i0, hi⟩, n, en, ?_⟩
  have e1 : wcv IntKind.i64 n = n := wrap_i64 (by omega) (by omega)
  have e2 : wneg IntKind.i64 n = -n := by
    have : wneg IntKind.i64 n = 0 - n := wrap_i64 (by omega) (by omega)
    omega
  rw [e1, e2, wadd_i64 (a := h) (by omega) (by omega), wadd_i64 (a := x) (by omega) (by omega), wadd_i64 (a := i) (by omega) (by omega)]
  have hm : Nat.le (Nat.succ (rlen rows - (i + 1)).toNat) (rlen rows - i).toNat := by
    show (rlen rows - (i + 1)).toNat + 1 ≤ (rlen rows - i).toNat
    omega
  refine ifB_intro (fun hn => ?_) (fun hn => ?_)
  · have hn : 0 ≤ n := by simpa using hn
    have g : goB r h n = true := by simp [goB, hr, hn]
    have ep : putH r h n = h + min n (r - h) := by simp [putH, g]
    refine Cl.of (put_fn _ _ _) ⟨_, _, rfl, ?_⟩
    rw [ep]
    have rp : rightB r (h + min n (r - h)) = true := by simp [rightB]; omega
    refine Cl.of (right_fn _ _) ⟨_, rfl, ?_⟩
    rw [rp]
    refine ifB_intro (fun hc => ?_) (fun _ => ?_)
    · exfalso
      have a1 : ¬ n < 0 := by omega
      have a2 : ¬ (h + min n (r - h) < h) := by omega
      have a3 : 0 ≤ min n (r - h) := by omega
      cases b
      · simp [a1, a2, hn] at hc
      · have := hs rfl
        simp [a1, a2, hn] at hc
        omega
    · refine ⟨rfl, rfl, ⟨by omega, by omega, rp, ?_, by omega, by omega⟩, hm⟩
      intro hp
      cases b
      · simp at hp
      · have := hs rfl
        simp at hp
        omega
  · have hn : n < 0 := by simpa using hn
    have g : goB r h (-n) = true := by simp [goB, hr]; omega
    have et : takeH r h (-n) = h - min (-n) h := by simp [takeH, g]
    have eb : takeB r h (-n) = decide (-n ≤ h) := by simp [takeB, g]
    have rt : rightB r (h - min (-n) h) = true := by simp [rightB]; omega
    refine Cl.of (take_fn _ _ _) ⟨_, _, _, rfl, ?_⟩
    rw [et, eb]
    have a1 : ¬ 0 ≤ n := by omega
    have fin : ∀ bb : Bool, bb = decide (-n ≤ h) → Cl Try.prog 13 false ([SV.agg [I r, I (h - min (-n) h)]]) (fun (rs4 : List SV) => ∃ b4 : Bool, (rs4 = [B b4]) ∧ (ifB (bpick (bpick (bpick (bpick (bnot b4) true (ine r r)) true (bpick (bpick b bb false) (ine (h - min (-n) h) (x + n)) false)) true (bpick (ige n 0) (ilt (h - min (-n) h) h) false)) true (bpick (ilt n 0) (bpick (bpick (ige (h - min (-n) h) h) (igt h 0) false) true (bnot (beqB bb (ige h (-n))))) false)) ((fun r => r = [B true]) [B false]) (([SV.slice 1 rows 0, SV.ptr 32 0] = [SV.slice 1 rows 0, SV.ptr 32 0]) ∧ (([] : List (List SV)) = []) ∧ ((0 ≤ i + 1 ∧ i + 1 ≤ rlen rows ∧ rightB r (h - min (-n) h) = true ∧ (bpick b bb false = true → x + n = h - min (-n) h) ∧ -((i + 1) * 2147483648) ≤ x + n ∧ x + n ≤ 2147483647 + (i + 1) * 2147483648) ∧ Nat.le (Nat.succ (rlen rows - (i + 1)).toNat) (rlen rows - i).toNat)))) := by
      intro bb ebb
      refine Cl.of (right_fn _ _) ⟨_, rfl, ?_⟩
      rw [rt]
      refine ifB_intro (fun hc => ?_) (fun _ => ?_)
      · exfalso
        by_cases hle : -n ≤ h
        · have a4 : ¬ (h ≤ h - min (-n) h) := by omega
          have a5 : h - min (-n) h = h + n := by omega
          cases b
          · simp [a1, hn, ebb, hle] at hc; omega
          · have := hs rfl
            simp [a1, hn, ebb, hle] at hc; omega
        · cases b
          · simp [a1, hn, ebb, hle] at hc; omega
          · simp [a1, hn, ebb, hle] at hc; omega
      · refine ⟨rfl, rfl, ⟨by omega, by omega, rfl, ?_, by omega, by omega⟩, hm⟩
        intro hp
        cases b
        · simp at hp
        · have := hs rfl
          simp [ebb] at hp
          omega
    refine ifB_intro (fun hle => ?_) (fun hle => ?_)
    · have hle' : -n ≤ h := by simpa using hle
      have g2 : goB r (h - min (-n) h) (-n) = true := by simp [goB, rt]; omega
      have e5 : putH r (h - min (-n) h) (-n) = h := by
        simp only [putH, g2, if_true]; omega
      refine Cl.of (put_fn _ _ _) ⟨_, _, rfl, ?_⟩
      rw [e5]
      refine ifB_intro (fun hc => by simp at hc) (fun _ => ?_)
      exact fin _ rfl
    · exact fin _ rfl

end Go.Proofs.Ytggfbmcdodbchaa

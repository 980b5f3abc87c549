/- Layer 12: what the functions of package bucket, and of its reference, do with plain data. -/
import Derived.Test.YtggfbmcdodbchaaPxK
import Derived.Test.YtggfbmcdodbchaaProg
namespace Go.Proofs.Ytggfbmcdodbchaa
open Go Go.Px Go.Proofs
set_option maxRecDepth 100000
set_option linter.unusedVariables false

abbrev bk (r h : Int) : SV := .agg [I r, I h]
def TT : FuncId → Bool := fun _ => false

theorem right_nf (room has : Int) (Q : List SV → Prop) (h : Q [B (bpick (bpick (bpick (ige room 0) (ile room 2147483647) false) (ige has 0) false) (ile has room) false)]) : Ct Try.prog 13 false [bk room has] Q :=
  fn_of (f := 13) TT (fun _ => {}) Try.func13 rfl (by kernel_rfl) (by kernel_rfl) h

theorem rright_nf (room has : Int) (Q : List SV → Prop) (h : Q [B (bpick (bpick (ile room 2147483647) (ile has room) false) (ige has 0) false)]) : Ct Try.prog 10 false [bk room has] Q :=
  fn_of (f := 10) TT (fun _ => {}) Try.func10 rfl (by kernel_rfl) (by kernel_rfl) h

theorem new_nf (room has : Int) (Q : List SV → Prop) (h : Cl Try.prog 13 false ([SV.agg [I room, I has]]) (fun (rs : List SV) => ∃ b : Bool, (rs = [B b]) ∧ (ifB (bnot b) (Q ([SV.agg [I 0, I 0], I 1])) (Q ([SV.agg [I room, I has], I 0]))))) : Ct Try.prog 9 false [I room, I has] Q :=
  fn_of (f := 9) TT (fun _ => {}) Try.func9 rfl (by kernel_rfl) (by kernel_rfl) h

theorem take_nf (room has n : Int) (Q : List SV → Prop) (h : Cl Try.prog 13 false ([SV.agg [I room, I has]]) (fun (rs : List SV) => ∃ b : Bool, (rs = [B b]) ∧ (ifB (bpick (bnot b) true (ilt n 0)) (Q ([SV.agg [I room, I has], B false])) (Q ([SV.agg [I room, I (wsub IntKind.i64 has (imin n has))], B (ige has n)]))))) : Ct Try.prog 11 false [bk room has, I n] Q :=
  fn_of (f := 11) TT (fun _ => {}) Try.func11 rfl (by kernel_rfl) (by kernel_rfl) h

theorem rtake_nf (room has n : Int) (Q : List SV → Prop) (h : Cl Try.prog 10 false ([SV.agg [I room, I has]]) (fun (rs : List SV) => ∃ b : Bool, (rs = [B b]) ∧ (ifB (bpick (bnot b) true (ilt n 0)) (Q ([SV.agg [I room, I has], B false])) (ifB (igt n has) (Q ([SV.agg [I room, I 0], B false])) (Q ([SV.agg [I room, I (wsub IntKind.i64 has n)], B true])))))) : Ct Try.prog 12 false [bk room has, I n] Q :=
  fn_of (f := 12) TT (fun _ => {}) Try.func12 rfl (by kernel_rfl) (by kernel_rfl) h

theorem put_nf (room has n : Int) (Q : List SV → Prop) (h : Cl Try.prog 13 false ([SV.agg [I room, I has]]) (fun (rs : List SV) => ∃ b : Bool, (rs = [B b]) ∧ (ifB (bpick (bnot b) true (ilt n 0)) (Q ([SV.agg [I room, I has]])) (Q ([SV.agg [I room, I (wadd IntKind.i64 has (imin n (wsub IntKind.i64 room has)))]]))))) : Ct Try.prog 14 false [bk room has, I n] Q :=
  fn_of (f := 14) TT (fun _ => {}) Try.func14 rfl (by kernel_rfl) (by kernel_rfl) h

theorem rput_nf (room has n : Int) (Q : List SV → Prop) (h : Cl Try.prog 10 false ([SV.agg [I room, I has]]) (fun (rs : List SV) => ∃ b : Bool, (rs = [B b]) ∧ (ifB (bpick (bnot b) true (ilt n 0)) (Q ([SV.agg [I room, I has]])) (ifB (bpick (igt n room) true (igt (wadd IntKind.i64 has n) room)) (Q ([SV.agg [I room, I room]])) (Q ([SV.agg [I room, I (wadd IntKind.i64 has n)]])))))) : Ct Try.prog 15 false [bk room has, I n] Q :=
  fn_of (f := 15) TT (fun _ => {}) Try.func15 rfl (by kernel_rfl) (by kernel_rfl) h

theorem awake_nf  (Q : List SV → Prop) (h : Cl Try.prog 9 false [I 5, I 3] (fun (rs : List SV) => ∃ x : Int, ∃ x1 : Int, ∃ x2 : Int, (rs = [SV.agg [I x, I x1], I x2]) ∧ (Cl Try.prog 11 false ([SV.agg [I x, I x1], I 2]) (fun (rs1 : List SV) => ∃ x3 : Int, ∃ x4 : Int, ∃ b : Bool, (rs1 = [SV.agg [I x3, I x4], B b]) ∧ (Cl Try.prog 11 false ([SV.agg [I x3, I x4], I 4]) (fun (rs2 : List SV) => ∃ x5 : Int, ∃ x6 : Int, ∃ b1 : Bool, (rs2 = [SV.agg [I x5, I x6], B b1]) ∧ (ifB (bpick (bpick (bpick (bpick (ieq x2 0) b false) (bnot b1) false) (ieq x4 1) false) (ieq x6 0) false) (Cl Try.prog 14 false ([SV.agg [I x3, I x4], I 9]) (fun (rs3 : List SV) => ∃ x7 : Int, ∃ x8 : Int, (rs3 = [SV.agg [I x7, I x8]]) ∧ (ifB (bpick true (ieq x8 5) false) (Cl Try.prog 13 false ([SV.agg [I x, I x1]]) (fun (rs4 : List SV) => ∃ b2 : Bool, (rs4 = [B b2]) ∧ (Q [B (bpick true b2 false)]))) (Q [B false])))) (Q [B false])))))))) : Ct Try.prog 8 false [] Q :=
  fn_of (f := 8) TT (fun _ => {}) Try.func8 rfl (by kernel_rfl) (by kernel_rfl) h

theorem law3_nf (br bh n room has : Int) (Q : List SV → Prop) (h : Cl Try.prog 8 false [] (fun (rs : List SV) => ∃ b : Bool, (rs = [B b]) ∧ (ifB (bnot b) (Q [B false]) (Cl Try.prog 9 false [I room, I has] (fun (rs1 : List SV) => ∃ x : Int, ∃ x1 : Int, ∃ x2 : Int, (rs1 = [SV.agg [I x, I x1], I x2]) ∧ (Cl Try.prog 10 false ([SV.agg [I room, I has]]) (fun (rs2 : List SV) => ∃ b1 : Bool, (rs2 = [B b1]) ∧ (ifB b1 (ifB (bpick (ine x2 0) true (bnot (band (ieq x room) (band (ieq x1 has) true)))) (Q [B false]) (Cl Try.prog 11 false ([SV.agg [I br, I bh], I n]) (fun (rs3 : List SV) => ∃ x3 : Int, ∃ x4 : Int, ∃ b2 : Bool, (rs3 = [SV.agg [I x3, I x4], B b2]) ∧ (Cl Try.prog 12 false ([SV.agg [I br, I bh], I n]) (fun (rs4 : List SV) => ∃ x5 : Int, ∃ x6 : Int, ∃ b3 : Bool, (rs4 = [SV.agg [I x5, I x6], B b3]) ∧ (Cl Try.prog 13 false ([SV.agg [I br, I bh]]) (fun (rs5 : List SV) => ∃ b4 : Bool, (rs5 = [B b4]) ∧ (Cl Try.prog 10 false ([SV.agg [I br, I bh]]) (fun (rs6 : List SV) => ∃ b5 : Bool, (rs6 = [B b5]) ∧ (ifB (bpick (bpick (beqB b4 b5) (band (ieq x3 x5) (band (ieq x4 x6) true)) false) (beqB b2 b3) false) (Cl Try.prog 14 false ([SV.agg [I br, I bh], I n]) (fun (rs7 : List SV) => ∃ x7 : Int, ∃ x8 : Int, (rs7 = [SV.agg [I x7, I x8]]) ∧ (Cl Try.prog 15 false ([SV.agg [I br, I bh], I n]) (fun (rs8 : List SV) => ∃ x9 : Int, ∃ x10 : Int, (rs8 = [SV.agg [I x9, I x10]]) ∧ (Q [B (bpick true (band (ieq x7 x9) (band (ieq x8 x10) true)) false)]))))) (Q [B false]))))))))))) (ifB (bpick (ine x2 1) true (bnot (band (ieq x 0) (band (ieq x1 0) true)))) (Q [B false]) (Cl Try.prog 11 false ([SV.agg [I br, I bh], I n]) (fun (rs3 : List SV) => ∃ x3 : Int, ∃ x4 : Int, ∃ b2 : Bool, (rs3 = [SV.agg [I x3, I x4], B b2]) ∧ (Cl Try.prog 12 false ([SV.agg [I br, I bh], I n]) (fun (rs4 : List SV) => ∃ x5 : Int, ∃ x6 : Int, ∃ b3 : Bool, (rs4 = [SV.agg [I x5, I x6], B b3]) ∧ (Cl Try.prog 13 false ([SV.agg [I br, I bh]]) (fun (rs5 : List SV) => ∃ b4 : Bool, (rs5 = [B b4]) ∧ (Cl Try.prog 10 false ([SV.agg [I br, I bh]]) (fun (rs6 : List SV) => ∃ b5 : Bool, (rs6 = [B b5]) ∧ (ifB (bpick (bpick (beqB b4 b5) (band (ieq x3 x5) (band (ieq x4 x6) true)) false) (beqB b2 b3) false) (Cl Try.prog 14 false ([SV.agg [I br, I bh], I n]) (fun (rs7 : List SV) => ∃ x7 : Int, ∃ x8 : Int, (rs7 = [SV.agg [I x7, I x8]]) ∧ (Cl Try.prog 15 false ([SV.agg [I br, I bh], I n]) (fun (rs8 : List SV) => ∃ x9 : Int, ∃ x10 : Int, (rs8 = [SV.agg [I x9, I x10]]) ∧ (Q [B (bpick true (band (ieq x7 x9) (band (ieq x8 x10) true)) false)]))))) (Q [B false]))))))))))))))))))) : Ct Try.prog 3 false [bk br bh, I n, I room, I has] Q :=
  fn_of (f := 3) TT (fun _ => {}) Try.func3 rfl (by kernel_rfl) (by kernel_rfl) h

theorem law5_nf (br bh m n : Int) (Q : List SV → Prop) (h : Cl Try.prog 8 false [] (fun (rs : List SV) => ∃ b : Bool, (rs = [B b]) ∧ (ifB (bnot b) (Q [B false]) (Cl Try.prog 13 false ([SV.agg [I br, I bh]]) (fun (rs1 : List SV) => ∃ b1 : Bool, (rs1 = [B b1]) ∧ (ifB (bnot b1) (Q [B true]) (Cl Try.prog 14 false ([SV.agg [I br, I bh], I (wcv IntKind.i64 m)]) (fun (rs2 : List SV) => ∃ x : Int, ∃ x1 : Int, (rs2 = [SV.agg [I x, I x1]]) ∧ (Cl Try.prog 14 false ([SV.agg [I x, I x1], I (wcv IntKind.i64 n)]) (fun (rs3 : List SV) => ∃ x2 : Int, ∃ x3 : Int, (rs3 = [SV.agg [I x2, I x3]]) ∧ (Cl Try.prog 14 false ([SV.agg [I br, I bh], I (wadd IntKind.i64 (wcv IntKind.i64 m) (wcv IntKind.i64 n))]) (fun (rs4 : List SV) => ∃ x4 : Int, ∃ x5 : Int, (rs4 = [SV.agg [I x4, I x5]]) ∧ (ifB (bnot (band (ieq x2 x4) (band (ieq x3 x5) true))) (Q [B false]) (Cl Try.prog 11 false ([SV.agg [I br, I bh], I (wcv IntKind.i64 m)]) (fun (rs5 : List SV) => ∃ x6 : Int, ∃ x7 : Int, ∃ b2 : Bool, (rs5 = [SV.agg [I x6, I x7], B b2]) ∧ (Cl Try.prog 11 false ([SV.agg [I x6, I x7], I (wcv IntKind.i64 n)]) (fun (rs6 : List SV) => ∃ x8 : Int, ∃ x9 : Int, ∃ b3 : Bool, (rs6 = [SV.agg [I x8, I x9], B b3]) ∧ (Cl Try.prog 11 false ([SV.agg [I br, I bh], I (wadd IntKind.i64 (wcv IntKind.i64 m) (wcv IntKind.i64 n))]) (fun (rs7 : List SV) => ∃ x10 : Int, ∃ x11 : Int, ∃ b4 : Bool, (rs7 = [SV.agg [I x10, I x11], B b4]) ∧ (ifB (bpick (bnot (band (ieq x8 x10) (band (ieq x9 x11) true))) true (bnot (beqB (bpick b2 b3 false) b4))) (Q [B false]) (ifB b2 (Q [B (ieq x7 (wsub IntKind.i64 bh (wcv IntKind.i64 m)))]) (ifB (ieq x7 0) (Cl Try.prog 14 false ([SV.agg [I x6, I x7], I (wcv IntKind.i64 n)]) (fun (rs8 : List SV) => ∃ x12 : Int, ∃ x13 : Int, (rs8 = [SV.agg [I x12, I x13]]) ∧ (Q [B (bpick true (ieq x13 (imin (wcv IntKind.i64 n) br)) false)]))) (Q [B false]))))))))))))))))))))))) : Ct Try.prog 5 false [bk br bh, SV.int .u32 m, SV.int .u32 n] Q :=
  fn_of (f := 5) TT (fun _ => {}) Try.func5 rfl (by kernel_rfl) (by kernel_rfl) h

def rightB (room has : Int) : Bool := decide (0 ≤ has ∧ has ≤ room ∧ room ≤ 2147483647)

theorem rightB_true {room has : Int} (h : rightB room has = true) : 0 ≤ has ∧ has ≤ room ∧ room ≤ 2147483647 := of_decide_eq_true h

theorem right_fn (room has : Int) : Ct Try.prog 13 false [bk room has] (fun r => r = [B (rightB room has)]) := by
  refine right_nf _ _ _ ?_
  have : (bpick (bpick (bpick (ige room 0) (ile room 2147483647) false) (ige has 0) false) (ile has room) false) = rightB room has := by
    rw [Bool.eq_iff_iff]; simp [rightB]; omega
  rw [this]

theorem rright_fn (room has : Int) : Ct Try.prog 10 false [bk room has] (fun r => r = [B (rightB room has)]) := by
  refine rright_nf _ _ _ ?_
  have : (bpick (bpick (ile room 2147483647) (ile has room) false) (ige has 0) false) = rightB room has := by
    rw [Bool.eq_iff_iff]; simp [rightB]; omega
  rw [this]

def goB (room has n : Int) : Bool := rightB room has && decide (0 ≤ n)
def takeH (room has n : Int) : Int := if goB room has n then has - min n has else has
def takeB (room has n : Int) : Bool := goB room has n && decide (n ≤ has)
def putH (room has n : Int) : Int := if goB room has n then has + min n (room - has) else has

theorem stop_eq (room has n : Int) : (bpick (bnot (rightB room has)) true (ilt n 0)) = !goB room has n := by
  unfold goB
  cases rightB room has
  · simp
  · by_cases h : n < 0
    · have : ¬ 0 ≤ n := by omega
      simp [h, this]
    · have : 0 ≤ n := by omega
      simp [h, this]

theorem go_spec {room has n : Int} (h : goB room has n = true) : 0 ≤ has ∧ has ≤ room ∧ room ≤ 2147483647 ∧ 0 ≤ n := by
  simp only [goB, Bool.and_eq_true, decide_eq_true_eq] at h
  obtain ⟨h1, h2⟩ := h
  have := rightB_true h1
  omega

theorem take_fn (room has n : Int) : Ct Try.prog 11 false [bk room has, I n] (fun r => r = [bk room (takeH room has n), B (takeB room has n)]) := by
  refine take_nf _ _ _ _ (Cl.of (right_fn _ _) ⟨_, rfl, ?_⟩)
  rw [stop_eq]
  refine ifB_intro (fun h => ?_) (fun h => ?_)
  · simp at h; simp [takeH, takeB, h]
  · simp at h
    have := go_spec h
    rw [imin_eq, wsub_i64 (by omega) (by omega)]
    simp [takeH, takeB, h]

theorem rtake_fn (room has n : Int) : Ct Try.prog 12 false [bk room has, I n] (fun r => r = [bk room (takeH room has n), B (takeB room has n)]) := by
  refine rtake_nf _ _ _ _ (Cl.of (rright_fn _ _) ⟨_, rfl, ?_⟩)
  rw [stop_eq]
  refine ifB_intro (fun h => ?_) (fun h => ?_)
  · simp at h; simp [takeH, takeB, h]
  · simp at h
    have := go_spec h
    refine ifB_intro (fun h2 => ?_) (fun h2 => ?_)
    · simp at h2
      have e1 : has - min n has = 0 := by omega
      have e2 : ¬ n ≤ has := by omega
      simp [takeH, takeB, h, e1, e2]
    · simp at h2
      rw [wsub_i64 (by omega) (by omega)]
      have e1 : has - min n has = has - n := by omega
      simp [takeH, takeB, h, e1, h2]

theorem put_fn (room has n : Int) : Ct Try.prog 14 false [bk room has, I n] (fun r => r = [bk room (putH room has n)]) := by
  refine put_nf _ _ _ _ (Cl.of (right_fn _ _) ⟨_, rfl, ?_⟩)
  rw [stop_eq]
  refine ifB_intro (fun h => ?_) (fun h => ?_)
  · simp at h; simp [putH, h]
  · simp at h
    have := go_spec h
    rw [imin_eq, wsub_i64 (by omega) (by omega), wadd_i64 (by omega) (by omega)]
    simp [putH, h]

theorem rput_fn (room has n : Int) (hn : n ≤ 9223372036854775807) : Ct Try.prog 15 false [bk room has, I n] (fun r => r = [bk room (putH room has n)]) := by
  refine rput_nf _ _ _ _ (Cl.of (rright_fn _ _) ⟨_, rfl, ?_⟩)
  rw [stop_eq]
  refine ifB_intro (fun h => ?_) (fun h => ?_)
  · simp at h; simp [putH, h]
  · simp at h
    have := go_spec h
    by_cases h1 : room < n
    · have e1 : has + min n (room - has) = room := by omega
      simp [putH, h, h1, e1, ifB]
    · rw [wadd_i64 (by omega) (by omega)]
      refine ifB_intro (fun h2 => ?_) (fun h2 => ?_)
      · simp [h1] at h2
        have e1 : has + min n (room - has) = room := by omega
        simp [putH, h, e1]
      · simp [h1] at h2
        have e1 : has + min n (room - has) = has + n := by omega
        simp [putH, h, e1]

theorem new_fn (room has : Int) : Ct Try.prog 9 false [I room, I has] (fun r => r = if rightB room has then [bk room has, I 0] else [bk 0 0, I 1]) := by
  refine new_nf _ _ _ (Cl.of (right_fn _ _) ⟨_, rfl, ?_⟩)
  refine ifB_intro (fun h => ?_) (fun h => ?_)
  · simp at h; simp [h]
  · simp at h; simp [h]

theorem awake_fn : Ct Try.prog 8 false [] (fun r => r = [B true]) := by
  refine awake_nf _ (Cl.of (new_fn 5 3) ⟨5, 3, 0, if_pos (by decide), ?_⟩)
  refine Cl.of (take_fn _ _ _) ⟨_, _, _, rfl, ?_⟩
  refine Cl.of (take_fn _ _ _) ⟨_, _, _, rfl, ?_⟩
  refine ifB_intro (fun _ => ?_) (fun h => absurd h (by decide))
  refine Cl.of (put_fn _ _ _) ⟨_, _, rfl, ?_⟩
  refine ifB_intro (fun _ => ?_) (fun h => absurd h (by decide))
  refine Cl.of (right_fn _ _) ⟨_, rfl, ?_⟩
  rfl

theorem law3_fn (br bh n room has : Int) (hn : n ≤ 9223372036854775807) : Ct Try.prog 3 false [bk br bh, I n, I room, I has] (fun r => r = [B true]) := by
  have tail : ∀ Q : List SV → Prop, Q [B true] → Cl Try.prog 11 false ([SV.agg [I br, I bh], I n]) (fun (rs3 : List SV) => ∃ x3 : Int, ∃ x4 : Int, ∃ b2 : Bool, (rs3 = [SV.agg [I x3, I x4], B b2]) ∧ (Cl Try.prog 12 false ([SV.agg [I br, I bh], I n]) (fun (rs4 : List SV) => ∃ x5 : Int, ∃ x6 : Int, ∃ b3 : Bool, (rs4 = [SV.agg [I x5, I x6], B b3]) ∧ (Cl Try.prog 13 false ([SV.agg [I br, I bh]]) (fun (rs5 : List SV) => ∃ b4 : Bool, (rs5 = [B b4]) ∧ (Cl Try.prog 10 false ([SV.agg [I br, I bh]]) (fun (rs6 : List SV) => ∃ b5 : Bool, (rs6 = [B b5]) ∧ (ifB (bpick (bpick (beqB b4 b5) (band (ieq x3 x5) (band (ieq x4 x6) true)) false) (beqB b2 b3) false) (Cl Try.prog 14 false ([SV.agg [I br, I bh], I n]) (fun (rs7 : List SV) => ∃ x7 : Int, ∃ x8 : Int, (rs7 = [SV.agg [I x7, I x8]]) ∧ (Cl Try.prog 15 false ([SV.agg [I br, I bh], I n]) (fun (rs8 : List SV) => ∃ x9 : Int, ∃ x10 : Int, (rs8 = [SV.agg [I x9, I x10]]) ∧ (Q [B (bpick true (band (ieq x7 x9) (band (ieq x8 x10) true)) false)]))))) (Q [B false])))))))))  := by
    intro Q hQ
    refine Cl.of (take_fn _ _ _) ⟨_, _, _, rfl, ?_⟩
    refine Cl.of (rtake_fn _ _ _) ⟨_, _, _, rfl, ?_⟩
    refine Cl.of (right_fn _ _) ⟨_, rfl, ?_⟩
    refine Cl.of (rright_fn _ _) ⟨_, rfl, ?_⟩
    refine ifB_intro (fun _ => ?_) (fun h => by simp at h)
    refine Cl.of (put_fn _ _ _) ⟨_, _, rfl, ?_⟩
    refine Cl.of (rput_fn _ _ _ hn) ⟨_, _, rfl, ?_⟩
    simpa using hQ
  refine law3_nf _ _ _ _ _ _ (Cl.of awake_fn ⟨_, rfl, ?_⟩)
  refine ifB_intro (fun h => by simp at h) (fun _ => ?_)
  by_cases hr : rightB room has = true
  · refine Cl.of (new_fn room has) ⟨room, has, 0, by simp [hr], ?_⟩
    refine Cl.of (rright_fn _ _) ⟨_, rfl, ?_⟩
    refine ifB_intro (fun _ => ?_) (fun h => by rw [hr] at h; cases h)
    refine ifB_intro (fun h => by simp at h) (fun _ => tail (fun r => r = [B true]) rfl)
  · refine Cl.of (new_fn room has) ⟨0, 0, 1, by simp [hr], ?_⟩
    refine Cl.of (rright_fn _ _) ⟨_, rfl, ?_⟩
    refine ifB_intro (fun h => absurd h hr) (fun _ => ?_)
    refine ifB_intro (fun h => by simp at h) (fun _ => tail (fun r => r = [B true]) rfl)

theorem wf_u32 {a : Int} (h : (Lit.int .u32 a).wf = true) : 0 ≤ a ∧ a ≤ 4294967295 := by
  simp [Lit.wf, IntKind.min, IntKind.max, IntKind.signed, IntKind.bits] at h
  omega

theorem law5_fn (br bh m n : Int) (hm : 0 ≤ m ∧ m ≤ 4294967295) (hn : 0 ≤ n ∧ n ≤ 4294967295) : Ct Try.prog 5 false [bk br bh, SV.int .u32 m, SV.int .u32 n] (fun r => r = [B true]) := by
  have em : wcv IntKind.i64 m = m := wrap_i64 (by omega) (by omega)
  have en : wcv IntKind.i64 n = n := wrap_i64 (by omega) (by omega)
  refine law5_nf _ _ _ _ _ ?_
  rw [em, en, wadd_i64 (by omega) (by omega)]
  refine Cl.of awake_fn ⟨_, rfl, ?_⟩
  refine ifB_intro (fun h => by simp at h) (fun _ => ?_)
  refine Cl.of (right_fn _ _) ⟨_, rfl, ?_⟩
  refine ifB_intro (fun _ => rfl) (fun hr => ?_)
  have hr : rightB br bh = true := by simpa using hr
  have hb := rightB_true hr
  have g1 : goB br bh m = true := by simp [goB, hr, hm.1]
  have g2 : goB br bh (m + n) = true := by simp [goB, hr]; omega
  have pm : putH br bh m = bh + min m (br - bh) := by simp [putH, g1]
  have rp : rightB br (bh + min m (br - bh)) = true := by simp [rightB]; omega
  have g3 : goB br (bh + min m (br - bh)) n = true := by simp [goB, rp, hn.1]
  have tm : takeH br bh m = bh - min m bh := by simp [takeH, g1]
  have rt : rightB br (bh - min m bh) = true := by simp [rightB]; omega
  have g4 : goB br (bh - min m bh) n = true := by simp [goB, rt, hn.1]
  refine Cl.of (put_fn _ _ _) ⟨_, _, rfl, ?_⟩
  refine Cl.of (put_fn _ _ _) ⟨_, _, rfl, ?_⟩
  refine Cl.of (put_fn _ _ _) ⟨_, _, rfl, ?_⟩
  have e1 : putH br (putH br bh m) n = putH br bh (m + n) := by
    rw [pm]
    simp only [putH, g2, g3, if_true]; omega
  refine ifB_intro (fun h => by simp [e1] at h) (fun _ => ?_)
  refine Cl.of (take_fn _ _ _) ⟨_, _, _, rfl, ?_⟩
  refine Cl.of (take_fn _ _ _) ⟨_, _, _, rfl, ?_⟩
  refine Cl.of (take_fn _ _ _) ⟨_, _, _, rfl, ?_⟩
  have e2 : takeH br (takeH br bh m) n = takeH br bh (m + n) := by
    rw [tm]
    simp only [takeH, g2, g4, if_true]; omega
  have e3 : (takeB br bh m && takeB br (takeH br bh m) n) = takeB br bh (m + n) := by
    rw [tm, Bool.eq_iff_iff]
    simp only [takeB, g1, g2, g4, Bool.true_and, Bool.and_eq_true, decide_eq_true_eq]; omega
  refine ifB_intro (fun h => ?_) (fun _ => ?_)
  · rw [← e3] at h
    simp [e2] at h
  · refine ifB_intro (fun hb2 => ?_) (fun hb2 => ?_)
    · rw [tm, wsub_i64 (by omega) (by omega)]
      have : m ≤ bh := by simpa [takeB, g1] using hb2
      have e : bh - min m bh = bh - m := by omega
      simp [e]
    · have : ¬ m ≤ bh := by simpa [takeB, g1] using hb2
      have e : takeH br bh m = 0 := by rw [tm]; omega
      rw [e]
      refine ifB_intro (fun _ => ?_) (fun h => by simp at h)
      refine Cl.of (put_fn _ _ _) ⟨_, _, rfl, ?_⟩
      have r0 : goB br 0 n = true := by simp [goB, rightB]; omega
      have : putH br 0 n = min n br := by simp only [putH, r0, if_true]; omega
      simp [this]

theorem typ_bk {s : SV} (ht : TypV Try.prog 4 23 s) : ∃ r h : Int, s = bk r h ∧ (Lit.int .i64 r).wf = true ∧ (Lit.int .i64 h).wf = true := by
  obtain ⟨ss, h1, h2, _⟩ := ht
  have h2 := h2 (by kernel_rfl)
  obtain ⟨a, b, e, ⟨r, ea, hr⟩, c, d, e2, ⟨h, ec, hh⟩, hd⟩ : ∃ a b, ss = a ++ b ∧ (∃ x : Int, a = [.val (.int .i64 x)] ∧ (Lit.int .i64 x).wf = true) ∧ ∃ c d, b = c ++ d ∧ (∃ x : Int, c = [.val (.int .i64 x)] ∧ (Lit.int .i64 x).wf = true) ∧ d = [] := h1
  subst h2 e ea e2 ec hd
  exact ⟨r, h, rfl, hr, hh⟩

theorem typ_i64 {s : SV} (ht : TypV Try.prog 4 2 s) : ∃ x : Int, s = I x ∧ (Lit.int .i64 x).wf = true := by
  obtain ⟨ss, h1, _, h3⟩ := ht
  have h3 := h3 (by kernel_rfl)
  obtain ⟨x, e, hx⟩ : ∃ x : Int, ss = [.val (.int .i64 x)] ∧ (Lit.int .i64 x).wf = true := h1
  subst h3
  simp at e
  exact ⟨x, e, hx⟩

end Go.Proofs.Ytggfbmcdodbchaa

/- Layer 7: numbers and texts are read. -/
import Derived.Test.YtpgahnnbpfeldaaCod2
namespace Go.Proofs.Ytpgahnnbpfeldaa.Cod
open Go Go.Px Go.Proofs
set_option maxRecDepth 100000
set_option linter.unusedVariables false

theorem less_fn (n : Int) : Ct Try.prog 200 {} [U8 n] (fun r => r = [B (decide (n < 128))]) := less_nf _ _ rfl

theorem indexB_fn (l : List Int) (hl : l.length ≤ 100000) : Ct Try.prog 199 {} [SL 1 (bR l), .clo 200 []] (fun r => ∃ x : Int, r = [I x] ∧ ((x = -1 ∧ ∀ y ∈ l, 128 ≤ y) ∨ (0 ≤ x ∧ x < l.length ∧ byAt l x < 128 ∧ ∀ j : Nat, j < x.toNat → 128 ≤ l.getD j 0))) := by
  refine indexB_nf _ _ _ _ ⟨fun _ x => 0 ≤ x ∧ x ≤ l.length ∧ ∀ j : Nat, j < x.toNat → 128 ≤ l.getD j 0, fun _ x => (l.length - x).toNat, ⟨by omega, by omega, by simp⟩, ?_⟩
  rintro _ x ⟨h0, h1, hp⟩
  refine ifB_intro (fun h => ?_) (fun h => ?_)
  · simp at h
    have w : wadd IntKind.i64 x 1 = x + 1 := wadd_i64 (by omega) (by omega)
    refine ⟨⟨h0, by simpa using h⟩, _, rget_bR h0 h, Cl.of (less_fn _) ⟨_, rfl, ifB_intro (fun hb => ?_) (fun hb => ⟨rfl, ?_, ?_⟩)⟩⟩
    · simp at hb
      exact ⟨x, rfl, .inr ⟨h0, h, hb, hp⟩⟩
    · simp at hb
      rw [w]
      refine ⟨by omega, by omega, fun j hj => ?_⟩
      by_cases hjx : j < x.toNat
      · exact hp j hjx
      · obtain rfl : j = x.toNat := by omega
        simpa [byAt] using hb
    · rw [w]; exact mlt (by dsimp only; omega)
  · simp at h
    refine ⟨-1, rfl, .inl ⟨rfl, fun y hy => ?_⟩⟩
    obtain ⟨i, hi, rfl⟩ := List.getElem_of_mem hy
    have := hp i (by omega)
    simpa [hi] using this

theorem backw_fn (rows : List (List SV)) : Ct Try.prog 201 {} [SL 1 rows] (fun r => r = [.clo 205 [.ref 0 [SL 1 rows]]]) := backw_nf _ _ rfl

theorem ofB_app (l : List Int) (z : Int) : ofB (l ++ [z]) = ofB l + 128 ^ l.length * (z % 128).toNat := by
  induction l with
  | nil => simp [ofB]
  | cons x l ih =>
    simp only [List.cons_append, ofB, ih, List.length_cons]
    rw [Nat.pow_succ, Nat.add_mul]
    have : 128 ^ l.length * (z % 128).toNat * 128 = 128 ^ l.length * 128 * (z % 128).toNat := by
      rw [Nat.mul_assoc, Nat.mul_comm (z % 128).toNat, Nat.mul_assoc]
    omega

theorem ustep_eq {n x : Int} (h0 : 0 ≤ n) (h1 : n * 128 + 127 ≤ 18446744073709551615) (hx : 0 ≤ x) : ustep n x = n * 128 + x % 128 := by
  have e1 : wshl .u64 n 7 = n * 128 := by
    unfold wshl
    have : (2 : Int) ^ (min (7 : Int).toNat IntKind.u64.bits) = 128 := by decide
    rw [this]
    exact wrapU64 (by omega) (by omega)
  have e2 : wrem x 128 = x % 128 := by unfold wrem; exact Int.tmod_eq_emod_of_nonneg hx
  unfold ustep
  rw [e1, e2, wcvU64 (by omega) (by omega)]
  obtain ⟨m, rfl⟩ : ∃ m : Nat, n = m := ⟨n.toNat, by omega⟩
  obtain ⟨y, hy⟩ : ∃ y : Nat, x % 128 = y := ⟨(x % 128).toNat, by omega⟩
  have hy2 : y < 128 := by omega
  rw [hy]
  unfold wor
  have b1 : (BitVec.ofInt IntKind.u64.bits ((m : Int) * 128)).toNat = m * 128 := by
    have : ((m : Int) * 128) = ((m * 128 : Nat) : Int) := by omega
    rw [this, BitVec.ofInt_natCast, BitVec.toNat_ofNat]
    exact Nat.mod_eq_of_lt (by show m * 128 < 18446744073709551616; omega)
  have b2 : (BitVec.ofInt IntKind.u64.bits (y : Int)).toNat = y := by
    rw [BitVec.ofInt_natCast, BitVec.toNat_ofNat]
    exact Nat.mod_eq_of_lt (by show y < 18446744073709551616; omega)
  rw [BitVec.toNat_or, b1, b2]
  have : m * 128 ||| y = m * 128 + y := by
    have := Nat.shiftLeft_add_eq_or_of_lt (show y < 2 ^ 7 from hy2) m
    rw [Nat.shiftLeft_eq] at this
    exact this.symm
  rw [this]
  have : ((m * 128 + y : Nat) : Int) = (m : Int) * 128 + y := by omega
  rw [this]
  exact wrapU64 (by omega) (by omega)

theorem ufold_cons (x : Int) (l : List Int) : ufold 0 (bR (x :: l)) = ustep (ufold 0 (bR l)) x := by
  simp [ufold, bR, ustep]

theorem ufold_ofB : ∀ (l : List Int), Byts l → ofB l < 18446744073709551616 → ufold 0 (bR l) = ofB l
  | [], _, _ => rfl
  | x :: l, hb, h => by
    have hx := hb x (by simp)
    simp only [ofB] at h
    have ih := ufold_ofB l (fun y hy => hb y (by simp [hy])) (by omega)
    rw [ufold_cons, ih, ustep_eq (by omega) (by omega) hx.1]
    simp only [ofB]
    omega

theorem ufold_range (l : List Int) : 0 ≤ ufold 0 (bR l) ∧ ufold 0 (bR l) ≤ 18446744073709551615 := by
  cases l with
  | nil => exact ⟨by decide, by decide⟩
  | cons x l => rw [ufold_cons]; exact wrapU64_range _

/-- The bytes that are looked at. -/
def nx10 (l : List Int) (a : Int) : List Int := (l.drop a.toNat).take 10

theorem nx_eq (l : List Int) (a : Int) (h0 : 0 ≤ a) (h1 : a ≤ l.length) : rsub (rsub (bR l) a (rlen (bR l))) 0 (imin (rlen (rsub (bR l) a (rlen (bR l)))) 10) = bR (nx10 l a) := by
  have e1 : rsub (bR l) a (rlen (bR l)) = bR (l.drop a.toNat) := by rw [rsub_bR, rlen_bR]; simp
  rw [e1, rsub_bR, rlen_bR]
  simp only [imin_eq, List.length_drop, Int.toNat_zero, List.drop_zero]
  unfold nx10
  congr 1
  by_cases h : ((l.length - a.toNat : Nat) : Int) ≤ 10
  · rw [Int.min_eq_left h, List.take_of_length_le (by simp), List.take_of_length_le (by simp; omega)]
  · rw [Int.min_eq_right (by omega)]; rfl

theorem uint_fn (l : List Int) (a er : Int) (hl : l.length ≤ 100000) (hb : Byts l) : Ct Try.prog 186 {} [cu3 (bR l) a er] (fun r => ∃ a' er' n, r = [cu3 (bR l) a' er', U64 n] ∧ UOut l a er a' er' n) := by
  refine uint_nf _ _ _ _ (Cl.of (right_fn l a er) ⟨_, rfl, ?_⟩)
  have hr : rgtC l a er = true ↔ 0 ≤ a ∧ a ≤ l.length ∧ er = 0 := by simp [rgtC]
  refine ifB_intro (fun h => ?_) (fun h => ?_)
  · simp at h
    refine Cl.of (stay_fn l a er 1) ⟨_, _, _, rfl, _, _, _, rfl, UOut.bad (fun h1 h2 m rest h3 h4 => ?_)⟩
    rw [Bool.eq_false_iff, ne_eq, hr] at h
    have := drop_lt h3
    omega
  · simp at h
    have h := hr.1 h
    rw [nx_eq l a h.1 h.2.1]
    have hnl : (nx10 l a).length ≤ 10 := by simp only [nx10, List.length_take]; omega
    have hnb : Byts (nx10 l a) := hb.sub fun x hx => List.mem_of_mem_drop (List.mem_of_mem_take hx)
    have stayed : ∀ e : Int, (∀ (m : Nat) rest, l.drop a.toNat = leb m ++ rest → m < 18446744073709551616 → False) → Cl Try.prog 187 sP ([SV.agg [SL 1 (bR l), I a, I er], I e]) (fun (rs1 : List SV) => ∃ l_1 : List (List SV), ∃ x : Int, ∃ x1 : Int, (rs1 = [SV.agg [SL 1 l_1, I x, I x1]]) ∧ (∃ a' er' n, ([SV.agg [SL 1 l_1, I x, I x1], U64 0] : List SV) = [cu3 (bR l) a' er', U64 n] ∧ UOut l a er a' er' n)) := fun e he =>
      Cl.of (stay_fn l a er e) ⟨_, _, _, rfl, _, _, _, rfl, UOut.bad (fun _ _ => he)⟩
    -- what is read is well formed: where its last byte lies
    have shape : ∀ (m : Nat) rest, l.drop a.toNat = leb m ++ rest → m < 18446744073709551616 → ∃ (k : Nat) (z : Int), k < (nx10 l a).length ∧ (leb m).length = k + 1 ∧ (nx10 l a).getD k 0 = z ∧ z < 128 ∧ (∀ j, j < k → 128 ≤ (nx10 l a).getD j 0) ∧ (k = 9 → z ≤ 1) ∧ (0 < k → z ≠ 0) ∧ (nx10 l a).take (k + 1) = leb m := by
      intro m rest h1 h2
      obtain ⟨l1, z, e, z0, z1, hy, hz⟩ := leb_shape m
      have hlen : (leb m).length ≤ 10 := leb_len 9 _ (Nat.lt_of_lt_of_le h2 (by decide))
      have hl1 : (leb m).length = l1.length + 1 := by rw [e]; simp
      have hnx : nx10 l a = leb m ++ rest.take (10 - (leb m).length) := by
        unfold nx10; rw [h1, List.take_append, List.take_of_length_le (by omega)]
      have hget : ∀ j, j < l1.length → (nx10 l a).getD j 0 = l1.getD j 0 := by
        intro j hj
        rw [hnx, e]
        simp [List.getElem?_append, hj]
      have hof := ofB_leb m
      rw [e, ofB_app] at hof
      refine ⟨l1.length, z, by rw [hnx]; simp; omega, hl1, ?_, z1, fun j hj => ?_, fun hk => ?_, fun hk => hz (by intro e; rw [e] at hk; simp at hk), ?_⟩
      · rw [hnx, e]; simp
      · rw [hget j hj]
        have := hy (l1.getD j 0) (by simp [hj])
        exact this.1
      · rw [hk] at hof
        have : (z % 128).toNat = z.toNat := by omega
        rw [this] at hof
        have hp : (128 : Nat) ^ 9 = 9223372036854775808 := by decide
        rw [hp] at hof
        omega
      · rw [hnx, ← hl1, List.take_left]
    refine ⟨⟨h.1, by simp; omega, by omega⟩, ⟨by omega, ?_, ?_⟩, ?_⟩
    · simp only [imin_eq, rlen_eq]; omega
    · simp only [imin_eq, rlen_eq]; omega
    refine Cl.ofQ (indexB_fn _ (by omega)) ?_
    rintro r ⟨x, rfl, hx⟩
    refine ⟨x, rfl, ?_⟩
    -- the last part: the number is gathered
    have last : 0 ≤ x → x < (nx10 l a).length → byAt (nx10 l a) x < 128 → (∀ j : Nat, j < x.toNat → 128 ≤ (nx10 l a).getD j 0) →
        ((((0 : Int) ≤ 0) ∧ (((0 : Int) ≤ (wadd IntKind.i64 x 1)) ∧ ((wadd IntKind.i64 x 1) ≤ (rlen (bR (nx10 l a)))))) ∧ (Cl Try.prog 201 sP [SV.slice 1 (rsub (bR (nx10 l a)) 0 (wadd IntKind.i64 x 1)) 0] (fun (rs2 : List SV) => ∃ f : Nat, ∃ rs3 : List SV, (rs2 = [SV.clo f rs3]) ∧ (∃ l_1 : List (List SV), (f = 205) ∧ ((rs3 = [SV.ref 0 [SL 1 l_1]]) ∧ ((isBytes l_1) ∧ ((0 < (rlen l_1)) ∧ (((rlen l_1) ≤ 100) ∧ (∃ a' er' n, ([SV.agg [SL 1 (bR l), I (wadd IntKind.i64 a (wadd IntKind.i64 x 1)), I er], U64 (ufold 0 l_1)] : List SV) = [cu3 (bR l) a' er', U64 n] ∧ UOut l a er a' er' n))))))))) := by
      intro x0 x1 hlt hpre
      have w : wadd IntKind.i64 x 1 = x + 1 := wadd_i64 (by omega) (by omega)
      have w2 : wadd IntKind.i64 a (x + 1) = a + (x + 1) := wadd_i64 (by omega) (by omega)
      rw [w, w2, rsub_bR]
      refine ⟨⟨by omega, by omega, by simp; omega⟩, Cl.of (backw_fn _) ⟨_, _, rfl, _, rfl, rfl, ?_, ?_, ?_, _, _, _, rfl, ?_⟩⟩
      · exact isBytes_bR (hnb.sub fun y hy => List.mem_of_mem_take (List.mem_of_mem_drop hy))
      · simp; omega
      · simp; omega
      · refine ⟨(ufold_range _).1, (ufold_range _).2, fun _ _ m rest h1 h2 => ?_⟩
        obtain ⟨k, z, k1, k2, k3, k4, k5, k6, k7, k8⟩ := shape m rest h1 h2
        have hxk : x.toNat = k := by
          rcases Nat.lt_trichotomy x.toNat k with hlt2 | rfl | hgt
          · have := k5 _ hlt2
            simp [byAt] at hlt this
            omega
          · rfl
          · have := hpre k hgt
            omega
        have e3 : ((nx10 l a).take (x + 1).toNat).drop (0 : Int).toNat = leb m := by
          rw [show (x + 1).toNat = k + 1 by omega]; simpa using k8
        rw [e3, ufold_ofB _ (byts_leb m) (by rw [ofB_leb]; exact h2), ofB_leb]
        exact ⟨by omega, h.2.2, rfl⟩
    have noform : (0 ≤ x → x < (nx10 l a).length → byAt (nx10 l a) x < 128 → (∀ j : Nat, j < x.toNat → 128 ≤ (nx10 l a).getD j 0) → (x = 9 ∧ 1 < byAt (nx10 l a) x) ∨ (0 < x ∧ byAt (nx10 l a) x = 0)) → ∀ (m : Nat) rest, l.drop a.toNat = leb m ++ rest → m < 18446744073709551616 → False := by
      intro hbad m rest h1 h2
      obtain ⟨k, z, k1, k2, k3, k4, k5, k6, k7, k8⟩ := shape m rest h1 h2
      rcases hx with ⟨_, hall⟩ | ⟨x0, x1, hlt, hpre⟩
      · have := hall ((nx10 l a).getD k 0) (by simp [k1])
        omega
      · have hxk : x.toNat = k := by
          rcases Nat.lt_trichotomy x.toNat k with hlt2 | rfl | hgt
          · have := k5 _ hlt2
            simp [byAt] at hlt this
            omega
          · rfl
          · have := hpre k hgt
            omega
        have hz : byAt (nx10 l a) x = z := by rw [byAt, hxk]; exact k3
        rcases hbad x0 x1 hlt hpre with ⟨g1, g2⟩ | ⟨g1, g2⟩
        · have := k6 (by omega); omega
        · exact k7 (by omega) (by omega)
    refine ifB_intro (fun h2 => ?_) (fun h2 => ?_)
    · simp at h2
      exact stayed 10 (noform (fun x0 => by omega))
    refine ifB_intro (fun h3 => ifB_intro (fun h3 => ?_) (fun h3' => ?_)) (fun h3 => ?_)
    · simp at h3
      exact stayed 11 (noform (fun x0 => by omega))
    · rw [h3] at h3'; cases h3'
    simp at h3
    obtain ⟨x0, x1, hlt, hpre⟩ : 0 ≤ x ∧ x < (nx10 l a).length ∧ byAt (nx10 l a) x < 128 ∧ ∀ j : Nat, j < x.toNat → 128 ≤ (nx10 l a).getD j 0 := by
      rcases hx with ⟨h4, _⟩ | h4
      · omega
      · exact h4
    have LAST := last x0 x1 hlt hpre
    refine ifB_intro (fun h4 => ?_) (fun h4 => ?_)
    · simp at h4
      refine ⟨⟨x0, by simpa using x1⟩, _, rget_bR x0 x1, ifB_intro (fun h5 => ifB_intro (fun h5 => ?_) (fun h5' => ?_)) (fun h5 => ?_)⟩
      · simp at h5
        exact stayed 11 (noform (fun _ _ _ _ => .inl ⟨h4, h5⟩))
      · rw [h5] at h5'; cases h5'
      · refine ifB_intro (fun h6 => ?_) (fun h6 => LAST)
        simp at h6
        refine ⟨⟨x0, by simpa using x1⟩, _, rget_bR x0 x1, ifB_intro (fun h7 => ?_) (fun h7 => LAST)⟩
        simp at h7
        exact stayed 11 (noform (fun _ _ _ _ => .inr ⟨h6, h7⟩))
    · refine ifB_intro (fun h6 => ?_) (fun h6 => LAST)
      simp at h6
      refine ⟨⟨x0, by simpa using x1⟩, _, rget_bR x0 x1, ifB_intro (fun h7 => ?_) (fun h7 => LAST)⟩
      simp at h7
      exact stayed 11 (noform (fun _ _ _ _ => .inr ⟨h6, h7⟩))

end Go.Proofs.Ytpgahnnbpfeldaa.Cod

/- Layers 1, 12, 13: the answers of the functions of packages count, bucket, hist, and of their references. -/
import Derived.Test.YtohmeljljamigaaCmpN
import Derived.Test.YtohmeljljamigaaCmpN2
namespace Go.Proofs.Ytohmeljljamigaa.Cmp
open Go Go.Px Go.Proofs
set_option maxRecDepth 100000
set_option linter.unusedVariables false

def holdI (n : Int) : Int := max 0 (min n 1099511627776)
def upI (a b : Int) : Int := holdI (holdI a + holdI b)
def heldP (n : Int) : Prop := 0 ≤ n ∧ n ≤ 1099511627776
instance (n : Int) : Decidable (heldP n) := inferInstanceAs (Decidable (0 ≤ n ∧ n ≤ 1099511627776))
theorem hold_range (n : Int) : 0 ≤ holdI n ∧ holdI n ≤ 1099511627776 := by unfold holdI; omega
theorem hold_held {n : Int} : holdI n = n ↔ heldP n := by unfold holdI heldP; omega
theorem hold_id {n : Int} (h : heldP n) : holdI n = n := hold_held.2 h
theorem hold_fn (n : Int) : Ct Try.prog 150 {} [I n] (fun r => r = [I (holdI n)]) := by
  refine hold_nf _ _ ?_
  simp [holdI]
theorem rhold_fn (n : Int) : Ct Try.prog 195 {} [I n] (fun r => r = [I (holdI n)]) := by
  refine rhold_nf _ _ (ifB_intro (fun h => ?_) (fun h => ifB_intro (fun h1 => ?_) (fun h1 => ?_)))
  · simp at h; rw [show holdI n = 0 by unfold holdI; omega]
  · simp at h h1; rw [show holdI n = 1099511627776 by unfold holdI; omega]
  · simp at h h1; rw [show holdI n = n by unfold holdI; omega]
theorem up_fn (a b : Int) : Ct Try.prog 177 {} [I a, I b] (fun r => r = [I (upI a b)]) := by
  have h1 := hold_range a
  have h2 := hold_range b
  refine up_nf _ _ _ (Cl.of (hold_fn a) ⟨_, rfl, Cl.of (hold_fn b) ⟨_, rfl, ?_⟩⟩)
  rw [wadd_i64 (by omega) (by omega)]
  exact Cl.of (hold_fn _) ⟨_, rfl, rfl⟩
def bktP (rm ha : Int) : Prop := 0 ≤ rm ∧ rm ≤ 2147483647 ∧ 0 ≤ ha ∧ ha ≤ rm
instance (rm ha : Int) : Decidable (bktP rm ha) := inferInstanceAs (Decidable (_ ∧ _))
theorem bright_fn (rm ha : Int) : Ct Try.prog 154 {} [bkt2 rm ha] (fun r => r = [B (decide (bktP rm ha))]) := by
  refine bright_nf _ _ _ ?_
  have : bpick (bpick (bpick (ige rm 0) (ile rm 2147483647) false) (ige ha 0) false) (ile ha rm) false = decide (bktP rm ha) := by
    rw [Bool.eq_iff_iff, decide_eq_true_eq]; unfold bktP; simp; omega
  rw [this]
theorem rbright_fn (rm ha : Int) : Ct Try.prog 157 {} [bkt2 rm ha] (fun r => r = [B (decide (bktP rm ha))]) := by
  refine rbright_nf _ _ _ ?_
  have : bpick (bpick (ile rm 2147483647) (ile ha rm) false) (ige ha 0) false = decide (bktP rm ha) := by
    rw [Bool.eq_iff_iff, decide_eq_true_eq]; unfold bktP; simp; omega
  rw [this]
def bnewR (rm ha : Int) : List SV := if bktP rm ha then [bkt2 rm ha, I 0] else [bkt2 0 0, I 1]
theorem bnew_fn (rm ha : Int) : Ct Try.prog 122 {} [I rm, I ha] (fun r => r = bnewR rm ha) := by
  refine bnew_nf _ _ _ (Cl.of (bright_fn rm ha) ⟨_, rfl, ifB_intro (fun h => ?_) (fun h => ?_)⟩)
  · simp at h; simp [bnewR, h]
  · simp at h; simp [bnewR, h]
def takeH (rm ha n : Int) : Int := if bktP rm ha ∧ 0 ≤ n then ha - min n ha else ha
def takeB (rm ha n : Int) : Bool := decide ((bktP rm ha ∧ 0 ≤ n) ∧ n ≤ ha)
theorem btake_fn (rm ha n : Int) : Ct Try.prog 127 {} [bkt2 rm ha, I n] (fun r => r = [bkt2 rm (takeH rm ha n), B (takeB rm ha n)]) := by
  refine btake_nf _ _ _ _ (Cl.of (bright_fn rm ha) ⟨_, rfl, ifB_intro (fun h => ?_) (fun h => ?_)⟩)
  · simp only [bor_t, bnot_eq, Bool.not_eq_true', decide_eq_false_iff_not, ilt_eq, decide_eq_true_eq] at h
    have hn : ¬ (bktP rm ha ∧ 0 ≤ n) := fun hh => h.elim (fun h => h hh.1) (fun h => by omega)
    simp [takeH, takeB, hn]
  · simp only [bor_f, bnot_eq, Bool.not_eq_false', decide_eq_true_eq, ilt_eq, decide_eq_false_iff_not] at h
    have hn : bktP rm ha ∧ 0 ≤ n := ⟨h.1, by omega⟩
    have hb := hn.1
    unfold bktP at hb
    rw [imin_eq, wsub_i64 (by omega) (by omega)]
    simp [takeH, takeB, hn]
def putH (rm ha n : Int) : Int := if bktP rm ha ∧ 0 ≤ n then ha + min n (rm - ha) else ha
theorem bput_fn (rm ha n : Int) : Ct Try.prog 128 {} [bkt2 rm ha, I n] (fun r => r = [bkt2 rm (putH rm ha n)]) := by
  refine bput_nf _ _ _ _ (Cl.of (bright_fn rm ha) ⟨_, rfl, ifB_intro (fun h => ?_) (fun h => ?_)⟩)
  · simp only [bor_t, bnot_eq, Bool.not_eq_true', decide_eq_false_iff_not, ilt_eq, decide_eq_true_eq] at h
    have hn : ¬ (bktP rm ha ∧ 0 ≤ n) := fun hh => h.elim (fun h => h hh.1) (fun h => by omega)
    simp [putH, hn]
  · simp only [bor_f, bnot_eq, Bool.not_eq_false', decide_eq_true_eq, ilt_eq, decide_eq_false_iff_not] at h
    have hn : bktP rm ha ∧ 0 ≤ n := ⟨h.1, by omega⟩
    have hb := hn.1
    unfold bktP at hb
    rw [imin_eq, wsub_i64 (by omega) (by omega), wadd_i64 (by omega) (by omega)]
    simp [putH, hn]
/-- The bound at a place of a histogram. -/
def bndI (p : Int) : Int := if p = 0 then 1 else if p = 1 then 2 else if p = 2 then 4 else if p = 3 then 8 else if p = 4 then 16 else if p = 5 then 32 else if p = 6 then 64 else if p = 7 then 128 else 0
def hplI (n : Int) : Int := if n ≤ 1 then 0 else if n ≤ 2 then 1 else if n ≤ 4 then 2 else if n ≤ 8 then 3 else if n ≤ 16 then 4 else if n ≤ 32 then 5 else if n ≤ 64 then 6 else if n ≤ 128 then 7 else 8
theorem hpl_range (n : Int) : 0 ≤ hplI n ∧ hplI n < 9 := by
  unfold hplI; repeat' split
  all_goals omega
theorem c8 {p : Int} (h0 : 0 ≤ p) (h1 : p < 8) : p = 0 ∨ p = 1 ∨ p = 2 ∨ p = 3 ∨ p = 4 ∨ p = 5 ∨ p = 6 ∨ p = 7 := by omega
theorem hbound_fn (p : Int) : Ct Try.prog 201 {} [I p] (fun r => r = [I (bndI p)]) := by
  refine hbound_nf _ _ (ifB_intro (fun h => ?_) (fun h => ?_))
  · simp at h
    have : bndI p = 0 := by unfold bndI; repeat' split
                            all_goals omega
    rw [this]
  · simp at h
    refine ⟨by omega, ?_⟩
    rcases c8 (p := p) (by omega) (by omega) with rfl | rfl | rfl | rfl | rfl | rfl | rfl | rfl <;> rfl
theorem hpl_loop {f : FuncId} (hf : ∀ p, Ct Try.prog f {} [I p] (fun r => r = [I (bndI p)])) (n : Int) : ∃ Inv : Int → Int → Prop, ∃ m : Int → Int → Nat, (Inv 0 0) ∧ (∀ x : Int, ∀ x1 : Int, (Inv x x1) → ifB (ilt x1 8) (Cl Try.prog f sP [I x1] (fun (rs : List SV) => ∃ x2 : Int, (rs = [I x2]) ∧ (ifB (ile n x2) ([I x1] = [I (hplI n)]) (((Option.some [] : Option (List (List SV))) = Option.some []) ∧ ((Inv x (wadd IntKind.i64 x1 1)) ∧ (Nat.le (Nat.succ (m x (wadd IntKind.i64 x1 1))) (m x x1))))))) ([I 8] = [I (hplI n)])) := by
  refine ⟨fun _ x => 0 ≤ x ∧ x ≤ 8 ∧ (1 ≤ x → 1 < n) ∧ (2 ≤ x → 2 < n) ∧ (3 ≤ x → 4 < n) ∧ (4 ≤ x → 8 < n) ∧ (5 ≤ x → 16 < n) ∧ (6 ≤ x → 32 < n) ∧ (7 ≤ x → 64 < n) ∧ (8 ≤ x → 128 < n), fun _ x => (8 - x).toNat, by omega, ?_⟩
  rintro _ x ⟨h0, h8, g⟩
  refine ifB_intro (fun h => ?_) (fun h => ?_)
  · simp at h
    rw [wadd_i64 (by omega) (by omega)]
    refine Cl.of (hf x) ⟨_, rfl, ifB_intro (fun hb => ?_) (fun hb => ⟨rfl, ?_, mlt (by dsimp only; omega)⟩)⟩
    · simp at hb
      have key : hplI n = x := by
        rcases c8 h0 h with rfl | rfl | rfl | rfl | rfl | rfl | rfl | rfl <;> simp [bndI] at hb <;> (unfold hplI; repeat' split) <;> omega
      rw [key]
    · simp at hb
      rcases c8 h0 h with rfl | rfl | rfl | rfl | rfl | rfl | rfl | rfl <;> simp [bndI] at hb <;> omega
  · simp at h
    obtain rfl : x = 8 := by omega
    have : hplI n = 8 := by unfold hplI; repeat' split
                            all_goals omega
    rw [this]
theorem hplace_fn (n : Int) : Ct Try.prog 178 {} [I n] (fun r => r = [I (hplI n)]) := hplace_nf _ _ (hpl_loop hbound_fn n)
def hisP (h0 h1 h2 h3 h4 h5 h6 h7 h8 hs : Int) : Prop := heldP h0 ∧ heldP h1 ∧ heldP h2 ∧ heldP h3 ∧ heldP h4 ∧ heldP h5 ∧ heldP h6 ∧ heldP h7 ∧ heldP h8 ∧ heldP hs
instance (h0 h1 h2 h3 h4 h5 h6 h7 h8 hs : Int) : Decidable (hisP h0 h1 h2 h3 h4 h5 h6 h7 h8 hs) := inferInstanceAs (Decidable (_ ∧ _))

end Go.Proofs.Ytohmeljljamigaa.Cmp

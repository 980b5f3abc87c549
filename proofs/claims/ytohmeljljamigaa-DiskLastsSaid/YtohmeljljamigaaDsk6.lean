/- Layer 10: the reference's operations, over plain data. -/
import Derived.Test.YtohmeljljamigaaDsk5
namespace Go.Proofs.Ytohmeljljamigaa.Dsk
open Go Go.Px Go.Proofs Go.Proofs.Ytohmeljljamigaa.Ins
set_option maxRecDepth 100000
set_option linter.unusedVariables false

section
variable (d : DiD) (h : d.ok)
include h

theorem qread_fn (s : ByteArray) : Ct Try.prog 28 {} [d.sv, S s] (fun r => r = [SL 1 (uR (opRead d s).1), I (opRead d s).2]) := by
  refine qread_nf _ _ _ _ _ _ (Cl.of (qfirst_fn d h s s) ⟨_, rfl, ifB_intro (fun h1 => ?_) (fun h1 => ?_)⟩)
  · simp at h1; simp [opRead, h1]
  · simp at h1
    have hp := (er_zero.1 h1).1
    have hl := hp.1.1
    refine Cl.of (qat_fn d (by omega) s) ⟨_, rfl, ?_⟩
    rcases d.get_cases s with ⟨e1, e2, e3⟩ | ⟨i, hi, e2, e1, e3⟩
    · rw [e2]; refine ifB_intro (fun _ => by simp [opRead, h1, e1]) (fun k => by simp at k)
    · rw [e2]
      have hr : (0 : Int) ≤ (i : Nat) ∧ ((i : Nat) : Int) < rlen (fR d.fs) := ⟨by omega, by simpa using hi⟩
      have hfl := flen hp hi
      refine ifB_intro (fun k => by simp at k; omega) (fun _ => ⟨hr, _, _, _, rget_map _ _ _ hi, Cl.of (qall_fn _ _ _ (by unfold FiD.len at hfl; omega)) ⟨_, rfl, by simp [opRead, h1, e1]⟩⟩)

theorem qcreate_fn (s : ByteArray) : Ct Try.prog 30 {} [d.sv, S s] (fun r => r = [(opCreate d s).1.sv, I (opCreate d s).2]) := by
  refine qcreate_nf _ _ _ _ _ _ (Cl.of (qfirst_fn d h s s) ⟨_, rfl, ifB_intro (fun h1 => ?_) (fun h1 => ?_)⟩)
  · simp at h1; simp [opCreate, h1]
  · simp at h1
    have hp := (er_zero.1 h1).1
    have hl := hp.1.1
    refine Cl.of (qat_fn d (by omega) s) ⟨_, rfl, ?_⟩
    rcases d.get_cases s with ⟨e1, e2, e3⟩ | ⟨i, hi, e2, e1, e3⟩
    · rw [e2]
      refine ifB_intro (fun k => by simp at k) (fun _ => ifB_intro (fun k => ?_) (fun k => Cl.of (qstep_fn d hp.1.2.2.2 h.2.2) ⟨_, _, _, _, _, rfl, ?_⟩))
      · have k : d.fs.length = 64 := by simp at k; omega
        simp [opCreate, h1, e1, k]
      · have k : ¬ d.fs.length = 64 := fun e => by simp [e] at k
        by_cases hz : d.st = 0
        · refine ifB_intro (fun _ => ?_) (fun k2 => by simp [stepQ, hz] at k2)
          simp [opCreate, h1, e1, k, DiD.perf, hz, stepQ]
        · refine ifB_intro (fun k2 => by simp [stepQ, hz] at k2) (fun _ => ?_)
          simp only [stepQ, hz, if_false]
          refine Cl.of (qwith_fn d.fs hp.2.2.2 (by omega) d.tick.rm d.tick.st d.tick.dn ⟨s, [], []⟩) ⟨_, _, _, _, rfl, ?_⟩
          simp [opCreate, h1, e1, k, DiD.perf, hz]
    · rw [e2]
      refine ifB_intro (fun _ => by simp [opCreate, h1, e1]) (fun k => by simp at k)

theorem qappend_fn (s : ByteArray) (x : List UInt8) (hx : x.length ≤ 4611686018427387904) : Ct Try.prog 31 {} [d.sv, S s, SL 1 (uR x)] (fun r => r = [(opAppend d s x).1.sv, I (opAppend d s x).2]) := by
  refine qappend_nf _ _ _ _ _ _ _ (Cl.of (qfirst_fn d h s s) ⟨_, rfl, ifB_intro (fun h1 => ?_) (fun h1 => ?_)⟩)
  · simp at h1; simp [opAppend, h1]
  · simp at h1
    have hp := (er_zero.1 h1).1
    have hl := hp.1.1
    refine Cl.of (qat_fn d (by omega) s) ⟨_, rfl, ?_⟩
    rcases d.get_cases s with ⟨e1, e2, e3⟩ | ⟨i, hi, e2, e1, e3⟩
    · rw [e2]; refine ifB_intro (fun _ => by simp [opAppend, h1, e1]) (fun k => by simp at k)
    · rw [e2]
      have hr : (0 : Int) ≤ (i : Nat) ∧ ((i : Nat) : Int) < rlen (fR d.fs) := ⟨by omega, by simpa using hi⟩
      have hfl := flen hp hi
      refine ifB_intro (fun k => by simp at k; omega) (fun _ => Cl.of (qused_fn d h) ⟨_, rfl, ?_⟩)
      have hu := hp.2.1
      have hrm := hp.1.2.2.1
      have hrm0 := hp.1.2.1
      rw [rlen_eq, uR_len, waddNN _ _ (by omega)]
      refine ifB_intro (fun k => ?_) (fun k => ⟨hr, _, _, _, rget_map _ _ _ hi, ?_⟩)
      · have k : d.rm - usedL d.fs < x.length := by simp at k; omega
        simp [opAppend, h1, e1, k]
      · have k' : ¬ d.rm - usedL d.fs < x.length := by simp at k; omega
        subst e3
        unfold FiD.len at hfl
        refine ⟨by simp; omega, by simp [rapp]; omega, ?_⟩
        rw [show rapp (rapp [] (uR d.fs[i].lo)) (uR x) = uR (d.fs[i].lo ++ x) by simp [rapp]]
        refine Cl.of (qwith_fn d.fs hp.2.2.2 (by omega) d.rm d.st d.dn ⟨d.fs[i].nm, d.fs[i].su, d.fs[i].lo ++ x⟩) ⟨_, _, _, _, rfl, ?_⟩
        refine Cl.of (qstep_fn (DiD.mk (withB FiD.nm d.fs ⟨d.fs[i].nm, d.fs[i].su, d.fs[i].lo ++ x⟩) d.rm d.st d.dn) hp.1.2.2.2 h.2.2) ⟨_, _, _, _, _, rfl, ?_⟩
        by_cases hz : d.st = 0
        · refine ifB_intro (fun _ => ?_) (fun k2 => by simp [stepQ, hz] at k2)
          simp [opAppend, h1, e1, k', hz, stepQ]
        · refine ifB_intro (fun k2 => by simp [stepQ, hz] at k2) (fun _ => ?_)
          simp [opAppend, h1, e1, k', hz, stepQ, DiD.tick]

theorem qsync_fn (s : ByteArray) : Ct Try.prog 33 {} [d.sv, S s] (fun r => r = [(opSync d s).1.sv, I (opSync d s).2]) := by
  refine qsync_nf _ _ _ _ _ _ (Cl.of (qfirst_fn d h s s) ⟨_, rfl, ifB_intro (fun h1 => ?_) (fun h1 => ?_)⟩)
  · simp at h1; simp [opSync, h1]
  · simp at h1
    have hp := (er_zero.1 h1).1
    have hl := hp.1.1
    refine Cl.of (qat_fn d (by omega) s) ⟨_, rfl, ?_⟩
    rcases d.get_cases s with ⟨e1, e2, e3⟩ | ⟨i, hi, e2, e1, e3⟩
    · rw [e2]; refine ifB_intro (fun _ => by simp [opSync, h1, e1]) (fun k => by simp at k)
    · rw [e2]
      subst e3
      have hr : (0 : Int) ≤ (i : Nat) ∧ ((i : Nat) : Int) < rlen (fR d.fs) := ⟨by omega, by simpa using hi⟩
      have hfl := flen hp hi
      unfold FiD.len at hfl
      refine ifB_intro (fun k => by simp at k; omega) (fun _ => Cl.of (qstep_fn d hp.1.2.2.2 h.2.2) ⟨_, _, _, _, _, rfl, ?_⟩)
      by_cases hz : d.st = 0
      · refine ifB_intro (fun _ => ?_) (fun k2 => by simp [stepQ, hz] at k2)
        simp [opSync, h1, e1, DiD.perf, hz, stepQ]
      · refine ifB_intro (fun k2 => by simp [stepQ, hz] at k2) (fun _ => ?_)
        simp only [stepQ, hz, if_false]
        refine ⟨hr, _, _, _, rget_map _ _ _ hi, Cl.of (qall_fn _ _ _ (by omega)) ⟨_, rfl, ?_⟩⟩
        refine Cl.of (qwith_fn d.fs hp.2.2.2 (by omega) d.tick.rm d.tick.st d.tick.dn ⟨d.fs[i].nm, d.fs[i].su ++ d.fs[i].lo, []⟩) ⟨_, _, _, _, rfl, ?_⟩
        simp [opSync, h1, e1, DiD.perf, hz]

theorem qrename_fn (a b : ByteArray) : Ct Try.prog 34 {} [d.sv, S a, S b] (fun r => r = [(opRename d a b).1.sv, I (opRename d a b).2]) := by
  refine qrename_nf _ _ _ _ _ _ _ (Cl.of (qfirst_fn d h a b) ⟨_, rfl, ifB_intro (fun h1 => ?_) (fun h1 => ?_)⟩)
  · simp at h1; simp [opRename, h1]
  · simp at h1
    have hp := (er_zero.1 h1).1
    have hl := hp.1.1
    refine Cl.of (qat_fn d (by omega) a) ⟨_, rfl, ?_⟩
    rcases d.get_cases a with ⟨e1, e2, e3⟩ | ⟨i, hi, e2, e1, e3⟩
    · rw [e2]; refine ifB_intro (fun _ => by simp [opRename, h1, e1]) (fun k => by simp at k)
    · rw [e2]
      subst e3
      have hr : (0 : Int) ≤ (i : Nat) ∧ ((i : Nat) : Int) < rlen (fR d.fs) := ⟨by omega, by simpa using hi⟩
      refine ifB_intro (fun k => by simp at k; omega) (fun _ => Cl.of (qstep_fn d hp.1.2.2.2 h.2.2) ⟨_, _, _, _, _, rfl, ?_⟩)
      by_cases hz : d.st = 0
      · refine ifB_intro (fun _ => ?_) (fun k2 => by simp [stepQ, hz] at k2)
        simp [opRename, h1, e1, DiD.perf, hz, stepQ]
      · refine ifB_intro (fun k2 => by simp [stepQ, hz] at k2) (fun _ => ?_)
        simp only [stepQ, hz, if_false]
        refine ⟨hr, _, _, _, rget_map _ _ _ hi, Cl.of (qwithout_fn d.fs (by omega) _) ⟨_, rfl, ?_⟩⟩
        have hlw : (wout FiD.nm d.fs d.fs[i].nm).length ≤ d.fs.length := len_wout
        refine Cl.of (qwith_fn (wout FiD.nm d.fs d.fs[i].nm) (srt_wout hp.2.2.2) (by omega) d.tick.rm d.tick.st d.tick.dn ⟨b, d.fs[i].su, d.fs[i].lo⟩) ⟨_, _, _, _, rfl, ?_⟩
        simp [opRename, h1, e1, DiD.perf, hz]

theorem qremove_fn (s : ByteArray) : Ct Try.prog 36 {} [d.sv, S s] (fun r => r = [(opRemove d s).1.sv, I (opRemove d s).2]) := by
  refine qremove_nf _ _ _ _ _ _ (Cl.of (qfirst_fn d h s s) ⟨_, rfl, ifB_intro (fun h1 => ?_) (fun h1 => ?_)⟩)
  · simp at h1; simp [opRemove, h1]
  · simp at h1
    have hp := (er_zero.1 h1).1
    have hl := hp.1.1
    refine Cl.of (qat_fn d (by omega) s) ⟨_, rfl, ?_⟩
    rcases d.get_cases s with ⟨e1, e2, e3⟩ | ⟨i, hi, e2, e1, e3⟩
    · rw [e2]; refine ifB_intro (fun _ => by simp [opRemove, h1, e1]) (fun k => by simp at k)
    · rw [e2]
      refine ifB_intro (fun k => by simp at k; omega) (fun _ => Cl.of (qstep_fn d hp.1.2.2.2 h.2.2) ⟨_, _, _, _, _, rfl, ?_⟩)
      by_cases hz : d.st = 0
      · refine ifB_intro (fun _ => ?_) (fun k2 => by simp [stepQ, hz] at k2)
        simp [opRemove, h1, e1, DiD.perf, hz, stepQ]
      · refine ifB_intro (fun k2 => by simp [stepQ, hz] at k2) (fun _ => ?_)
        simp only [stepQ, hz, if_false]
        refine Cl.of (qwithout_fn d.fs (by omega) _) ⟨_, rfl, ?_⟩
        simp [opRemove, h1, e1, DiD.perf, hz]

theorem qcut_fn (s : ByteArray) (n : Int) : Ct Try.prog 38 {} [d.sv, S s, I n] (fun r => r = [(opCut d s n).1.sv, I (opCut d s n).2]) := by
  refine qcut_nf _ _ _ _ _ _ _ (Cl.of (qfirst_fn d h s s) ⟨_, rfl, ifB_intro (fun h1 => ?_) (fun h1 => ?_)⟩)
  · simp at h1; simp [opCut, h1]
  · simp at h1
    have hp := (er_zero.1 h1).1
    have hl := hp.1.1
    refine Cl.of (qat_fn d (by omega) s) ⟨_, rfl, ?_⟩
    rcases d.get_cases s with ⟨e1, e2, e3⟩ | ⟨i, hi, e2, e1, e3⟩
    · rw [e2]; refine ifB_intro (fun _ => by simp [opCut, h1, e1]) (fun k => by simp at k)
    · rw [e2]
      subst e3
      have hr : (0 : Int) ≤ (i : Nat) ∧ ((i : Nat) : Int) < rlen (fR d.fs) := ⟨by omega, by simpa using hi⟩
      have hfl := flen hp hi
      have hfl' := hfl
      unfold FiD.len at hfl'
      refine ifB_intro (fun k => by simp at k; omega) (fun _ => ⟨hr, _, _, _, rget_map _ _ _ hi, ?_⟩)
      rw [rlen_eq, rlen_eq, uR_len, uR_len, waddNN _ _ (by omega)]
      have hln : d.fs[i].su.length + d.fs[i].lo.length = d.fs[i].len := rfl
      rw [hln]
      refine ifB_intro (fun k => ?_) (fun k => Cl.of (qstep_fn d hp.1.2.2.2 h.2.2) ⟨_, _, _, _, _, rfl, ?_⟩)
      · have k : n < 0 ∨ (d.fs[i].len : Int) < n := by simp at k; omega
        simp only [opCut, h1, e1, ne_eq, not_true, if_false, k, if_true]
      · have k : ¬ (n < 0 ∨ (d.fs[i].len : Int) < n) := by simp at k; omega
        obtain ⟨m, rfl⟩ : ∃ m : Nat, n = m := ⟨n.toNat, by omega⟩
        by_cases hz : d.st = 0
        · refine ifB_intro (fun _ => ?_) (fun k2 => by simp [stepQ, hz] at k2)
          simp only [opCut, h1, e1, ne_eq, not_true, if_false, k, DiD.perf, hz, if_true, stepQ]
        · refine ifB_intro (fun k2 => by simp [stepQ, hz] at k2) (fun _ => ?_)
          simp only [stepQ, hz, if_false]
          refine ifB_intro (fun k2 => ?_) (fun k2 => ?_)
          · have k2 : m ≤ d.fs[i].su.length := by simpa using k2
            refine ⟨⟨by omega, by omega, by simpa using k2⟩, ?_⟩
            rw [rsub_map, show List.drop (Int.toNat 0) (List.take ((m : Nat) : Int).toNat d.fs[i].su) = d.fs[i].su.take m by simp]
            refine Cl.of (qwith_fn d.fs hp.2.2.2 (by omega) d.tick.rm d.tick.st d.tick.dn ⟨d.fs[i].nm, d.fs[i].su.take m, []⟩) ⟨_, _, _, _, rfl, ?_⟩
            have : m - d.fs[i].su.length = 0 := by omega
            simp only [opCut, h1, e1, ne_eq, not_true, if_false, k, DiD.perf, hz, Int.toNat_natCast, this, List.take_zero]
          · have k2 : d.fs[i].su.length < m := by simpa using k2
            have w : wsub .i64 (m : Int) (d.fs[i].su.length : Int) = ((m - d.fs[i].su.length : Nat) : Int) := by rw [wsub_i64 (by omega) (by omega)]; omega
            rw [w]
            refine ⟨⟨by omega, by omega, by rw [← hln] at k; simp; omega⟩, ?_⟩
            rw [rsub_map, show List.drop (Int.toNat 0) (List.take ((m - d.fs[i].su.length : Nat) : Int).toNat d.fs[i].lo) = d.fs[i].lo.take (m - d.fs[i].su.length) by simp]
            refine Cl.of (qwith_fn d.fs hp.2.2.2 (by omega) d.tick.rm d.tick.st d.tick.dn ⟨d.fs[i].nm, d.fs[i].su, d.fs[i].lo.take (m - d.fs[i].su.length)⟩) ⟨_, _, _, _, rfl, ?_⟩
            have : d.fs[i].su.take m = d.fs[i].su := List.take_of_length_le (by omega)
            simp only [opCut, h1, e1, ne_eq, not_true, if_false, k, DiD.perf, hz, Int.toNat_natCast, this]

theorem qwake_fn (ks : List Int) (n : Int) (hk : ks.length ≤ 1099511627776) : Ct Try.prog 39 {} [d.sv, SL 1 (ks.map fun k => [I k]), I n] (fun r => r = [(opWake d ks n).1.sv, I (opWake d ks n).2]) := by
  refine qwake_nf _ _ _ _ _ _ _ (Cl.of (qright_fn d h) ⟨_, rfl, ifB_intro (fun h1 => ?_) (fun h1 => ?_)⟩)
  · have : ¬ d.P ∨ n < -1 := by simp at h1; exact h1
    simp only [opWake, if_pos this]
  · have hn : ¬ (¬ d.P ∨ n < -1) := by simp at h1 ⊢; exact ⟨h1.1, by omega⟩
    have hp : d.P := Decidable.byContradiction fun k => hn (.inl k)
    have hl := hp.1.1
    refine ⟨fun x l r s b => ∃ i : Nat, x = i ∧ i ≤ d.fs.length ∧ l = fR ((wakeL ks d.fs).take i) ∧ r = d.rm ∧ s = n ∧ b = false, fun x _ _ _ _ => d.fs.length - x.toNat, ⟨0, rfl, by omega, by simp, rfl, rfl, rfl⟩, ?_⟩
    rintro _ _ _ s _ ⟨i, rfl, hi, rfl, rfl, rfl, rfl⟩
    refine ifB_intro (fun h2 => ?_) (fun h2 => ?_)
    · have h2 : i < d.fs.length := by simpa using h2
      have hr : (0 : Int) ≤ (i : Nat) ∧ ((i : Nat) : Int) < rlen (fR d.fs) := ⟨by omega, by simpa using h2⟩
      have hfl := flen hp h2
      unfold FiD.len at hfl
      have hw : i < (wakeL ks d.fs).length := by rw [wakeL_len]; exact h2
      have nxt : ∀ m : Nat, m = more ks i d.fs[i].lo.length → rapp (fR ((wakeL ks d.fs).take i)) [FiD.row ⟨d.fs[i].nm, d.fs[i].su ++ d.fs[i].lo.take m, []⟩] = fR ((wakeL ks d.fs).take (i + 1)) := fun m hm => by
        rw [take_s _ _ hw, wakeL_get, hm]
        exact rapp_map _ _ [wakeF ks i d.fs[i]]
      have done : ∀ (m : Nat) (r : List (List SV)), m = more ks i d.fs[i].lo.length → r = uR (d.fs[i].lo.take m) →
          Cl Try.prog 93 sP [.agg [S (ByteArray.mk (Array.mk [])), SL 1 (uR d.fs[i].su), SL 1 r]] (fun rs1 => ∃ l3, rs1 = [SL 1 l3] ∧
            lsum (rlen (fR ((wakeL ks d.fs).take i))) (rlen [[S d.fs[i].nm, SL 1 l3, SL 1 []]]) ≤ 2147483648 ∧
            (some [[SV.slice 3 [] 1, I 0, I 0, B false], [SL 3 (fR d.fs), I d.rm, I d.st, B d.dn]] = some [[SV.slice 3 [] 1, I 0, I 0, B false], [SL 3 (fR d.fs), I d.rm, I d.st, B d.dn]]) ∧
            (∃ k : Nat, wadd .i64 ((i : Nat) : Int) 1 = k ∧ k ≤ d.fs.length ∧ rapp (fR ((wakeL ks d.fs).take i)) [[S d.fs[i].nm, SL 1 l3, SL 1 []]] = fR ((wakeL ks d.fs).take k) ∧ d.rm = d.rm ∧ s = s ∧ false = false) ∧
            Nat.le (Nat.succ (d.fs.length - (wadd .i64 ((i : Nat) : Int) 1).toNat)) (d.fs.length - ((i : Nat) : Int).toNat)) := fun m r hm hr2 => by
        subst hr2
        refine Cl.of (qall_fn _ _ _ (by simp; omega)) ⟨_, rfl, by simp [wakeL_len]; omega, rfl, ⟨i + 1, waddN _ (by omega), by omega, nxt m hm, rfl, rfl, rfl⟩, ?_⟩
        rw [waddN _ (by omega)]
        exact stepL (by simp; omega)
      have zr : ∀ m : Nat, m ≤ d.fs[i].lo.length → (0 : Int) ≤ 0 ∧ (0 : Int) ≤ (m : Int) ∧ (m : Int) ≤ rlen (uR d.fs[i].lo) := fun m hm => ⟨by omega, by omega, by simpa using hm⟩
      have sb : ∀ m : Nat, rsub (uR d.fs[i].lo) 0 (m : Int) = uR (d.fs[i].lo.take m) := fun m => by rw [rsub_map]; simp
      have sl0 : rlen (uR d.fs[i].lo) = (d.fs[i].lo.length : Int) := by simp
      refine ⟨hr, _, _, _, rget_map _ _ _ h2, ifB_intro (fun h3 => ?_) (fun h3 => ?_)⟩
      · have h3 : 0 < ks.length := by simpa using h3
        have hne : ks ≠ [] := fun e => by rw [e] at h3; simp at h3
        have hm : wrem ((i : Nat) : Int) (rlen (ks.map fun k => [I k])) = ((i % ks.length : Nat) : Int) := by
          unfold wrem; rw [rlen_eq, List.length_map]
          rw [Int.tmod_eq_emod_of_nonneg (by omega)]; simp
        have hlt : i % ks.length < ks.length := Nat.mod_lt _ h3
        rw [hm]
        have hmx : more ks i d.fs[i].lo.length = min ks[i % ks.length].toNat d.fs[i].lo.length := by
          simp only [more, if_neg hne, List.getD_eq_getElem?_getD, List.getElem?_eq_getElem hlt, Option.getD_some]
        refine ⟨fun e => by simp at e; exact hne e, ⟨by omega, by simp; omega⟩, ks[i % ks.length], rget_map _ _ _ hlt, ?_⟩
        rw [sl0]
        refine ifB_intro (fun k1 => ifB_intro (fun k2 => by simp at k2; omega) (fun k2 => ⟨⟨by omega, by omega, by omega⟩, done d.fs[i].lo.length _ ?_ (sb _)⟩)) (fun k1 => ifB_intro (fun k2 => ⟨⟨by omega, by omega, by omega⟩, done 0 _ ?_ (sb 0)⟩) (fun k2 => ?_))
        · have k1 : (d.fs[i].lo.length : Int) < ks[i % ks.length] := by simpa using k1
          rw [hmx]; omega
        · have k2 : ks[i % ks.length] < 0 := by simpa using k2
          rw [hmx]; omega
        · have k1 : ¬ (d.fs[i].lo.length : Int) < ks[i % ks.length] := by simpa using k1
          have k2 : ¬ ks[i % ks.length] < 0 := by simpa using k2
          generalize ks[i % ks.length] = z at k1 k2 hmx
          obtain ⟨m, rfl⟩ : ∃ m : Nat, z = m := ⟨z.toNat, by omega⟩
          exact ⟨by simpa using zr m (by omega), done m _ (by rw [hmx]; omega) (sb m)⟩
      · have h3 : ¬ 0 < ks.length := by simpa using h3
        have he : ks = [] := List.eq_nil_of_length_eq_zero (by omega)
        rw [sl0]
        refine ifB_intro (fun k1 => by simp at k1; omega) (fun k1 => ifB_intro (fun k2 => by simp at k2) (fun k2 => ⟨⟨by omega, by omega, by omega⟩, done 0 _ (by simp [more, he]) (sb 0)⟩))
    · have h2 : ¬ i < d.fs.length := by simpa using h2
      have : i = d.fs.length := by omega
      subst this
      rw [List.take_of_length_le (by rw [wakeL_len]; exact Nat.le_refl _)]
      simp only [opWake, if_neg hn]
end

theorem qshort_fn (d : DiD) (h : d.fs.length ≤ 70 → d.ok) (hl : d.fs.length ≤ 9223372036854775807) : Ct Try.prog 17 {} [d.sv] (fun r => r = [B (decide (d.fs.length ≤ 70 ∧ usedL d.fs ≤ 70000 ∧ ∀ f ∈ d.fs, f.nm.size ≤ 100))]) := by
  refine qshort_nf _ _ _ _ _ (ifB_intro (fun h1 => ifB_intro (fun _ => ?_) (fun k => by simp at k)) (fun h1 => ?_))
  · have : ¬ (d.fs.length ≤ 70) := by simp at h1; omega
    simp [this]
  · have h1 : d.fs.length ≤ 70 := by simp at h1; omega
    refine Cl.of (qused_fn d (h h1)) ⟨_, rfl, ifB_intro (fun h2 => ?_) (fun h2 => ?_)⟩
    · have : ¬ (usedL d.fs ≤ 70000) := by simp at h2; omega
      simp [this]
    · have h2 : usedL d.fs ≤ 70000 := by simp at h2; omega
      refine ⟨fun _ y => ∃ i : Nat, y = i ∧ i ≤ d.fs.length ∧ ∀ j : Nat, ∀ hj : j < d.fs.length, j < i → d.fs[j].nm.size ≤ 100, fun _ y => d.fs.length - y.toNat, ⟨0, rfl, by omega, fun j _ hj => by omega⟩, ?_⟩
      rintro _ _ ⟨i, rfl, hi, hall⟩
      refine ifB_intro (fun k => ?_) (fun k => ?_)
      · have k : i < d.fs.length := by simpa using k
        rw [waddN _ (by omega)]
        refine ⟨⟨by omega, by simpa using k⟩, _, _, _, rget_map _ _ _ k, ifB_intro (fun z => ?_) (fun z => ⟨rfl, ⟨i + 1, rfl, by omega, fun j hj hjk => ?_⟩, stepL (by simp; omega)⟩)⟩
        · have z : 100 < d.fs[i].nm.size := by simp at z; omega
          have : ¬ ∀ f ∈ d.fs, f.nm.size ≤ 100 := fun q => by have := q _ (List.getElem_mem k); omega
          simp [this]
        · by_cases e : j = i
          · subst e; simp at z; omega
          · exact hall j hj (by omega)
      · have k : ¬ i < d.fs.length := by simpa using k
        have : ∀ f ∈ d.fs, f.nm.size ≤ 100 := fun f hf => by
          obtain ⟨j, hj, rfl⟩ := List.mem_iff_getElem.1 hf
          exact hall j hj (by omega)
        have : d.fs.length ≤ 70 ∧ usedL d.fs ≤ 70000 ∧ ∀ f ∈ d.fs, f.nm.size ≤ 100 := ⟨h1, h2, this⟩
        rw [decide_eq_true this]

theorem sne_u (a b : List UInt8) : sne (bstr (uR a)) (bstr (uR b)) = !decide (a = b) := by
  rw [sne_d]; congr 1; rw [decide_eq_decide]; exact bstr_inj

theorem qsame_fn (d e : DiD) (hl : d.fs.length ≤ 9223372036854775806) : Ct Try.prog 19 {} [d.sv, e.sv] (fun r => r = [B (decide (d = e))]) := by
  have no : ¬ d = e → [B false] = [B (decide (d = e))] := fun h => by simp [h]
  refine qsame_nf _ _ _ _ _ _ _ _ _ (ifB_intro (fun h1 => no (fun q => ?_)) (fun h1 => ?_))
  · subst q; simp at h1
  · simp at h1
    obtain ⟨⟨⟨hlen, hrm⟩, hst⟩, hdn⟩ := h1
    have hlen : d.fs.length = e.fs.length := by omega
    refine ⟨fun _ y => ∃ i : Nat, y = i ∧ i ≤ d.fs.length ∧ ∀ j : Nat, ∀ hj : j < d.fs.length, j < i → d.fs[j] = e.fs[j]'(by omega), fun _ y => d.fs.length - y.toNat, ⟨0, rfl, by omega, fun j _ hj => by omega⟩, ?_⟩
    rintro _ _ ⟨i, rfl, hi, hall⟩
    refine ifB_intro (fun k => ?_) (fun k => ?_)
    · have k : i < d.fs.length := by simpa using k
      have k2 : i < e.fs.length := by omega
      rw [waddN _ (by omega)]
      have nx : d.fs[i] = e.fs[i] → ∃ m : Nat, ((i + 1 : Nat) : Int) = m ∧ m ≤ d.fs.length ∧ ∀ j : Nat, ∀ hj : j < d.fs.length, j < m → d.fs[j] = e.fs[j]'(by omega) := fun q =>
        ⟨i + 1, rfl, by omega, fun j hj hjk => by
          by_cases z : j = i
          · subst z; exact q
          · exact hall j hj (by omega)⟩
      have ne : ∀ {p : Prop}, ¬ d.fs[i] = e.fs[i] → [B false] = [B (decide (d = e))] := fun q => no (fun z => q (by subst z; rfl))
      refine ⟨⟨by omega, by simpa using k⟩, _, _, _, rget_map _ _ _ k, ⟨by omega, by simpa using k2⟩, _, _, _, rget_map _ _ _ k2, ?_⟩
      have key : ifB (sne d.fs[i].nm e.fs[i].nm) (ifB (bpick true true true) (ifB (bpick true true true) ([B false] = [B (decide (d = e))]) ((some [[SL 3 (fR e.fs), I e.rm, I e.st, B e.dn], [SL 3 (fR d.fs), I d.rm, I d.st, B d.dn]] = some [[SL 3 (fR e.fs), I e.rm, I e.st, B e.dn], [SL 3 (fR d.fs), I d.rm, I d.st, B d.dn]]) ∧ (∃ m : Nat, ((i + 1 : Nat) : Int) = m ∧ m ≤ d.fs.length ∧ ∀ j : Nat, ∀ hj : j < d.fs.length, j < m → d.fs[j] = e.fs[j]'(by omega)) ∧ Nat.le (Nat.succ (d.fs.length - ((i + 1 : Nat) : Int).toNat)) (d.fs.length - ((i : Nat) : Int).toNat))) (isBytes (uR d.fs[i].lo) ∧ isBytes (uR e.fs[i].lo) ∧ ifB (bpick false true (sne (bstr (uR d.fs[i].lo)) (bstr (uR e.fs[i].lo)))) ([B false] = [B (decide (d = e))]) ((some [[SL 3 (fR e.fs), I e.rm, I e.st, B e.dn], [SL 3 (fR d.fs), I d.rm, I d.st, B d.dn]] = some [[SL 3 (fR e.fs), I e.rm, I e.st, B e.dn], [SL 3 (fR d.fs), I d.rm, I d.st, B d.dn]]) ∧ (∃ m : Nat, ((i + 1 : Nat) : Int) = m ∧ m ≤ d.fs.length ∧ ∀ j : Nat, ∀ hj : j < d.fs.length, j < m → d.fs[j] = e.fs[j]'(by omega)) ∧ Nat.le (Nat.succ (d.fs.length - ((i + 1 : Nat) : Int).toNat)) (d.fs.length - ((i : Nat) : Int).toNat))))
          (isBytes (uR d.fs[i].su) ∧ isBytes (uR e.fs[i].su) ∧ ifB (bpick false true (sne (bstr (uR d.fs[i].su)) (bstr (uR e.fs[i].su)))) (ifB (bpick true true true) ([B false] = [B (decide (d = e))]) ((some [[SL 3 (fR e.fs), I e.rm, I e.st, B e.dn], [SL 3 (fR d.fs), I d.rm, I d.st, B d.dn]] = some [[SL 3 (fR e.fs), I e.rm, I e.st, B e.dn], [SL 3 (fR d.fs), I d.rm, I d.st, B d.dn]]) ∧ (∃ m : Nat, ((i + 1 : Nat) : Int) = m ∧ m ≤ d.fs.length ∧ ∀ j : Nat, ∀ hj : j < d.fs.length, j < m → d.fs[j] = e.fs[j]'(by omega)) ∧ Nat.le (Nat.succ (d.fs.length - ((i + 1 : Nat) : Int).toNat)) (d.fs.length - ((i : Nat) : Int).toNat))) (isBytes (uR d.fs[i].lo) ∧ isBytes (uR e.fs[i].lo) ∧ ifB (bpick false true (sne (bstr (uR d.fs[i].lo)) (bstr (uR e.fs[i].lo)))) ([B false] = [B (decide (d = e))]) ((some [[SL 3 (fR e.fs), I e.rm, I e.st, B e.dn], [SL 3 (fR d.fs), I d.rm, I d.st, B d.dn]] = some [[SL 3 (fR e.fs), I e.rm, I e.st, B e.dn], [SL 3 (fR d.fs), I d.rm, I d.st, B d.dn]]) ∧ (∃ m : Nat, ((i + 1 : Nat) : Int) = m ∧ m ≤ d.fs.length ∧ ∀ j : Nat, ∀ hj : j < d.fs.length, j < m → d.fs[j] = e.fs[j]'(by omega)) ∧ Nat.le (Nat.succ (d.fs.length - ((i + 1 : Nat) : Int).toNat)) (d.fs.length - ((i : Nat) : Int).toNat)))) := by
        have st : Nat.le (Nat.succ (d.fs.length - ((i + 1 : Nat) : Int).toNat)) (d.fs.length - ((i : Nat) : Int).toNat) := stepL (by simp; omega)
        rw [sne_d, sne_u, sne_u]
        refine ifB_intro (fun z1 => ifB_intro (fun _ => ifB_intro (fun _ => ne (p := True) (fun q => ?_)) (fun z => by simp at z)) (fun z => by simp at z)) (fun z1 => ⟨isBytes_u _, isBytes_u _, ifB_intro (fun z2 => ifB_intro (fun _ => ne (p := True) (fun q => ?_)) (fun z => by simp at z)) (fun z2 => ⟨isBytes_u _, isBytes_u _, ifB_intro (fun z3 => ne (p := True) (fun q => ?_)) (fun z3 => ⟨rfl, nx ?_, st⟩)⟩)⟩)
        · simp at z1; exact z1 (by rw [q])
        · simp at z2; exact z2 (by rw [q])
        · simp at z3; exact z3 (by rw [q])
        · simp at z1 z2 z3
          generalize d.fs[i] = a at z1 z2 z3
          generalize e.fs[i] = b at z1 z2 z3
          cases a; cases b; simp_all
      exact ⟨key, key⟩
    · have k : ¬ i < d.fs.length := by simpa using k
      have : d = e := by
        have hf : d.fs = e.fs := List.ext_getElem hlen fun j h1 h2 => hall j h1 (by omega)
        cases d; cases e; simp_all
      simp [this]
end Go.Proofs.Ytohmeljljamigaa.Dsk

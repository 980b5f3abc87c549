/- Layer 10: the exported functions of package disk, over plain data. -/
import Derived.Test.YtohmeljljamigaaDsk3
namespace Go.Proofs.Ytohmeljljamigaa.Dsk
open Go Go.Px Go.Proofs Go.Proofs.Ytohmeljljamigaa.Ins
set_option maxRecDepth 100000
set_option linter.unusedVariables false

section
variable (d : DiD) (h : d.ok)
include h

theorem dread_fn (s : ByteArray) : Ct Try.prog 20 {} [d.sv, S s] (fun r => r = [SL 1 (uR (opRead d s).1), I (opRead d s).2]) := by
  refine dread_nf _ _ _ _ _ _ (Cl.of (ready1 d h s) ⟨_, rfl, ifB_intro (fun h1 => ?_) (fun h1 => ?_)⟩)
  · simp at h1; simp [opRead, h1]
  · simp at h1
    have hp := (er_zero.1 h1).1
    have hl := hp.1.1
    refine Cl.of (dplace_fn d (by omega) s) ⟨_, rfl, ?_⟩
    rcases d.get_cases s with ⟨e1, e2, e3⟩ | ⟨i, hi, e2, e1, e3⟩
    · rw [e2]; refine ifB_intro (fun _ => by simp [opRead, h1, e1]) (fun k => by simp at k)
    · rw [e2]
      have hr : (0 : Int) ≤ (i : Nat) ∧ ((i : Nat) : Int) < rlen (fR d.fs) := ⟨by omega, by simpa using hi⟩
      have hfl := flen hp hi
      refine ifB_intro (fun k => by simp at k) (fun _ => ⟨hr, _, _, _, rget_map _ _ _ hi, hr, _, _, _, rget_map _ _ _ hi, Cl.of (concat2 _ _ (by unfold FiD.len at hfl; omega)) ⟨_, rfl, by simp [opRead, h1, e1]⟩⟩)

theorem dcreate_fn (s : ByteArray) : Ct Try.prog 29 {} [d.sv, S s] (fun r => r = [(opCreate d s).1.sv, I (opCreate d s).2]) := by
  refine dcreate_nf _ _ _ _ _ _ (Cl.of (ready1 d h s) ⟨_, rfl, ifB_intro (fun h1 => ?_) (fun h1 => ?_)⟩)
  · simp at h1; simp [opCreate, h1]
  · simp at h1
    have hp := (er_zero.1 h1).1
    have hl := hp.1.1
    refine Cl.of (dplace_fn d (by omega) s) ⟨_, rfl, ?_⟩
    rcases d.get_cases s with ⟨e1, e2, e3⟩ | ⟨i, hi, e2, e1, e3⟩
    · rw [e2]
      refine ifB_intro (fun k => by simp at k) (fun _ => ifB_intro (fun k => ?_) (fun k => ?_))
      · have k : d.fs.length = 64 := by simp at k; omega
        simp [opCreate, h1, e1, k]
      · have k : ¬ d.fs.length = 64 := fun e => by simp [e] at k
        refine Cl.of (dperform_fn d (by omega) hp.1.2.2.2 h.2.2 94 _ _ (fun _ => dcre1_fn hp s e3)) ⟨_, _, _, _, _, rfl, ?_⟩
        simp [opCreate, h1, e1, k]
    · rw [e2]
      refine ifB_intro (fun _ => by simp [opCreate, h1, e1]) (fun k => by simp at k)

theorem dappend_fn (s : ByteArray) (x : List UInt8) (hx : x.length ≤ 9223372036854775807) : Ct Try.prog 18 {} [d.sv, S s, SL 1 (uR x)] (fun r => r = [(opAppend d s x).1.sv, I (opAppend d s x).2]) := by
  refine dappend_nf _ _ _ _ _ _ _ (Cl.of (ready1 d h s) ⟨_, rfl, ifB_intro (fun h1 => ?_) (fun h1 => ?_)⟩)
  · simp at h1; simp [opAppend, h1]
  · simp at h1
    have hp := (er_zero.1 h1).1
    have hl := hp.1.1
    refine Cl.of (dplace_fn d (by omega) s) ⟨_, rfl, ?_⟩
    rcases d.get_cases s with ⟨e1, e2, e3⟩ | ⟨i, hi, e2, e1, e3⟩
    · rw [e2]; refine ifB_intro (fun _ => by simp [opAppend, h1, e1]) (fun k => by simp at k)
    · rw [e2]
      refine ifB_intro (fun k => by simp at k) (fun _ => Cl.of (dused_fn d h) ⟨_, rfl, ?_⟩)
      have hu := hp.2.1
      have hrm := hp.1.2.2.1
      have hrm0 := hp.1.2.1
      rw [wsub_i64 (by omega) (by omega), rlen_eq, uR_len]
      refine ifB_intro (fun k => ?_) (fun k => ?_)
      · simp at k; simp [opAppend, h1, e1, k]
      · simp at k
        have k' : ¬ d.rm - usedL d.fs < x.length := by omega
        subst e3
        have ca := dapp1_fn hp hi x (by omega)
        refine Cl.of (dperform_fn d (by omega) hp.1.2.2.2 h.2.2 79 _ _ (fun _ => ca)) ⟨_, _, _, _, _, rfl, ?_⟩
        by_cases hz : d.st = 0
        · have : d.perf (withB FiD.nm d.fs ⟨d.fs[i].nm, d.fs[i].su, d.fs[i].lo ++ x⟩) = ({ d with dn := true }, 16) := by unfold DiD.perf; rw [if_pos hz]
          rw [this]
          refine ifB_intro (fun _ => Cl.of (fclone_fn d.fs (by omega)) ⟨_, rfl, Cl.of ca ⟨_, rfl, ?_⟩⟩) (fun k => by simp at k)
          simp [opAppend, h1, e1, k', hz]
        · have : d.perf (withB FiD.nm d.fs ⟨d.fs[i].nm, d.fs[i].su, d.fs[i].lo ++ x⟩) = ({ d.tick with fs := withB FiD.nm d.fs ⟨d.fs[i].nm, d.fs[i].su, d.fs[i].lo ++ x⟩ }, 0) := by unfold DiD.perf; rw [if_neg hz]
          rw [this]
          refine ifB_intro (fun k => by simp at k) (fun _ => ?_)
          simp [opAppend, h1, e1, k', hz]

theorem dsync_fn (s : ByteArray) : Ct Try.prog 32 {} [d.sv, S s] (fun r => r = [(opSync d s).1.sv, I (opSync d s).2]) := by
  refine dsync_nf _ _ _ _ _ _ (Cl.of (ready1 d h s) ⟨_, rfl, ifB_intro (fun h1 => ?_) (fun h1 => ?_)⟩)
  · simp at h1; simp [opSync, h1]
  · simp at h1
    have hp := (er_zero.1 h1).1
    have hl := hp.1.1
    refine Cl.of (dplace_fn d (by omega) s) ⟨_, rfl, ?_⟩
    rcases d.get_cases s with ⟨e1, e2, e3⟩ | ⟨i, hi, e2, e1, e3⟩
    · rw [e2]; refine ifB_intro (fun _ => by simp [opSync, h1, e1]) (fun k => by simp at k)
    · rw [e2]
      subst e3
      refine ifB_intro (fun k => by simp at k) (fun _ => Cl.of (dperform_fn d (by omega) hp.1.2.2.2 h.2.2 97 _ _ (fun _ => dsyn1_fn hp hi)) ⟨_, _, _, _, _, rfl, ?_⟩)
      simp [opSync, h1, e1]

theorem drename_fn (a b : ByteArray) : Ct Try.prog 21 {} [d.sv, S a, S b] (fun r => r = [(opRename d a b).1.sv, I (opRename d a b).2]) := by
  refine drename_nf _ _ _ _ _ _ _ (Cl.of (ready2 d h a b) ⟨_, rfl, ifB_intro (fun h1 => ?_) (fun h1 => ?_)⟩)
  · simp at h1; simp [opRename, h1]
  · simp at h1
    have hp := (er_zero.1 h1).1
    have hl := hp.1.1
    refine Cl.of (dplace_fn d (by omega) a) ⟨_, rfl, ?_⟩
    rcases d.get_cases a with ⟨e1, e2, e3⟩ | ⟨i, hi, e2, e1, e3⟩
    · rw [e2]; refine ifB_intro (fun _ => by simp [opRename, h1, e1]) (fun k => by simp at k)
    · rw [e2]
      subst e3
      refine ifB_intro (fun k => by simp at k) (fun _ => Cl.of (dperform_fn d (by omega) hp.1.2.2.2 h.2.2 84 _ _ (fun _ => dren1_fn hp hi b)) ⟨_, _, _, _, _, rfl, ?_⟩)
      simp [opRename, h1, e1]

theorem dremove_fn (s : ByteArray) : Ct Try.prog 35 {} [d.sv, S s] (fun r => r = [(opRemove d s).1.sv, I (opRemove d s).2]) := by
  refine dremove_nf _ _ _ _ _ _ (Cl.of (ready1 d h s) ⟨_, rfl, ifB_intro (fun h1 => ?_) (fun h1 => ?_)⟩)
  · simp at h1; simp [opRemove, h1]
  · simp at h1
    have hp := (er_zero.1 h1).1
    have hl := hp.1.1
    refine Cl.of (dplace_fn d (by omega) s) ⟨_, rfl, ?_⟩
    rcases d.get_cases s with ⟨e1, e2, e3⟩ | ⟨i, hi, e2, e1, e3⟩
    · rw [e2]; refine ifB_intro (fun _ => by simp [opRemove, h1, e1]) (fun k => by simp at k)
    · rw [e2]
      subst e3
      refine ifB_intro (fun k => by simp at k) (fun _ => Cl.of (dperform_fn d (by omega) hp.1.2.2.2 h.2.2 99 _ _ (fun _ => drem1_fn hp hi)) ⟨_, _, _, _, _, rfl, ?_⟩)
      simp [opRemove, h1, e1]

theorem dcut_fn (s : ByteArray) (n : Int) : Ct Try.prog 37 {} [d.sv, S s, I n] (fun r => r = [(opCut d s n).1.sv, I (opCut d s n).2]) := by
  refine dcut_nf _ _ _ _ _ _ _ (Cl.of (ready1 d h s) ⟨_, rfl, ifB_intro (fun h1 => ?_) (fun h1 => ?_)⟩)
  · simp at h1; simp [opCut, h1]
  · simp at h1
    have hp := (er_zero.1 h1).1
    have hl := hp.1.1
    refine Cl.of (dplace_fn d (by omega) s) ⟨_, rfl, ?_⟩
    rcases d.get_cases s with ⟨e1, e2, e3⟩ | ⟨i, hi, e2, e1, e3⟩
    · rw [e2]; refine ifB_intro (fun _ => by simp [opCut, h1, e1]) (fun k => by simp at k)
    · rw [e2]
      subst e3
      have hr : (0 : Int) ≤ (i : Nat) ∧ ((i : Nat) : Int) < rlen (fR d.fs) := ⟨by omega, by simpa using hi⟩
      have hfl := flen hp hi
      refine ifB_intro (fun k => by simp at k) (fun _ => ifB_intro (fun k => ?_) (fun k => ⟨hr, _, _, _, rget_map _ _ _ hi, Cl.of (dsize_fn _ (by omega)) ⟨_, rfl, ifB_intro (fun k2 => ?_) (fun k2 => ?_)⟩⟩))
      · simp at k
        refine ifB_intro (fun _ => by simp [opCut, h1, e1, k]) (fun k2 => by simp at k2)
      · simp at k2
        simp [opCut, h1, e1, k2]
      · simp at k k2
        obtain ⟨m, rfl⟩ : ∃ m : Nat, n = m := ⟨n.toNat, by omega⟩
        have k3 : ¬ ((m : Int) < 0 ∨ (d.fs[i].len : Int) < m) := by omega
        refine Cl.of (dperform_fn d (by omega) hp.1.2.2.2 h.2.2 101 _ _ (fun _ => dcut1_fn hp hi m (by omega))) ⟨_, _, _, _, _, rfl, ?_⟩
        simp only [opCut, h1, e1, ne_eq, not_true, if_false, k3, Int.toNat_natCast]

theorem dwake_fn (ks : List Int) (n : Int) (hk : ks.length ≤ 1099511627776) : Ct Try.prog 22 {} [d.sv, SL 1 (ks.map fun k => [I k]), I n] (fun r => r = [(opWake d ks n).1.sv, I (opWake d ks n).2]) := by
  refine dwake_nf _ _ _ _ _ _ _ (Cl.of (dright_fn d h) ⟨_, rfl, ifB_intro (fun h1 => ?_) (fun h1 => ?_)⟩)
  · have : ¬ d.P ∨ n < -1 := by simp at h1; exact h1
    simp only [opWake, if_pos this]
  · have hn : ¬ (¬ d.P ∨ n < -1) := by simp at h1 ⊢; exact ⟨h1.1, by omega⟩
    have hp : d.P := Decidable.byContradiction fun k => hn (.inl k)
    have hl := hp.1.1
    refine Cl.of (fclone_fn d.fs (by omega)) ⟨_, rfl, fun x l => ∃ i : Nat, x = i ∧ i ≤ d.fs.length ∧ l = fR ((wakeL ks d.fs).take i ++ d.fs.drop i), fun x _ => d.fs.length - x.toNat, ⟨0, rfl, by omega, by simp⟩, ?_⟩
    rintro _ _ ⟨i, rfl, hi, rfl⟩
    have hln : ((wakeL ks d.fs).take i ++ d.fs.drop i).length = d.fs.length := by simp [wakeL_len]; omega
    refine ifB_intro (fun h2 => ?_) (fun h2 => ?_)
    · have h2 : i < d.fs.length := by simpa using h2
      have hr : (0 : Int) ≤ (i : Nat) ∧ ((i : Nat) : Int) < rlen (fR ((wakeL ks d.fs).take i ++ d.fs.drop i)) := ⟨by omega, by rw [rlen_eq, List.length_map, hln]; omega⟩
      have hg : rget (fR ((wakeL ks d.fs).take i ++ d.fs.drop i)) (i : Nat) = d.fs[i].row := by
        rw [rget_map _ _ _ (by omega)]
        congr 1
        rw [List.getElem_append_right (by simp [wakeL_len]; omega)]
        simp [wakeL_len, Nat.min_eq_left hi]
      have hfl := flen hp h2
      have nxt : ∀ m : Nat, m = more ks i d.fs[i].lo.length → rset (fR ((wakeL ks d.fs).take i ++ d.fs.drop i)) (i : Nat) (FiD.row ⟨d.fs[i].nm, d.fs[i].su ++ d.fs[i].lo.take m, []⟩) = fR ((wakeL ks d.fs).take (i + 1) ++ d.fs.drop (i + 1)) := fun m hm => by
        rw [rset_map]
        congr 1
        have hw : i < (wakeL ks d.fs).length := by rw [wakeL_len]; exact h2
        rw [List.set_append_right _ _ (by simp [wakeL_len]; omega), take_s _ _ hw, wakeL_get]
        simp only [List.length_take, wakeL_len, Nat.min_eq_left hi, Nat.sub_self]
        rw [List.drop_eq_getElem_cons h2, List.set_cons_zero, List.append_assoc]
        rw [hm]; rfl
      have done : ∀ m : Nat, m = more ks i d.fs[i].lo.length → m ≤ d.fs[i].lo.length →
          Cl Try.prog 81 sO [SL 1 [[SL 1 (uR d.fs[i].su)], [SV.slice 1 (rsub (uR d.fs[i].lo) 0 (m : Nat)) 0]]] (fun rs2 => ∃ l4, rs2 = [SL 1 l4] ∧ Cl Try.prog 80 sP [S d.fs[i].nm, SL 1 l4, I (rlen l4)] (fun rs3 => ∃ s1 l5 l6, rs3 = [SV.agg [S s1, SL 1 l5, SL 1 l6]] ∧
            ((0 : Int) ≤ (i : Nat) ∧ ((i : Nat) : Int) < rlen (fR ((wakeL ks d.fs).take i ++ d.fs.drop i))) ∧ ((0 : Int) ≤ (i : Nat) ∧ ((i : Nat) : Int) < rlen (fR ((wakeL ks d.fs).take i ++ d.fs.drop i))) ∧
            (some [[SV.slice 3 [] 1, I 0, I 0, B false], [SL 3 (fR d.fs), I d.rm, I d.st, B d.dn]] = some [[SV.slice 3 [] 1, I 0, I 0, B false], [SL 3 (fR d.fs), I d.rm, I d.st, B d.dn]]) ∧
            (∃ k : Nat, wadd .i64 ((i : Nat) : Int) 1 = k ∧ k ≤ d.fs.length ∧ rset (fR ((wakeL ks d.fs).take i ++ d.fs.drop i)) (i : Nat) [S s1, SL 1 l5, SL 1 l6] = fR ((wakeL ks d.fs).take k ++ d.fs.drop k)) ∧
            Nat.le (Nat.succ (d.fs.length - (wadd .i64 ((i : Nat) : Int) 1).toNat)) (d.fs.length - ((i : Nat) : Int).toNat))) := fun m hm hle => by
        rw [rsub_map, show List.drop (Int.toNat 0) (List.take ((m : Nat) : Int).toNat d.fs[i].lo) = d.fs[i].lo.take m by simp]
        refine Cl.of (concat2 _ _ (by unfold FiD.len at hfl; simp; omega)) ⟨_, rfl, ?_⟩
        rw [rlen_eq, uR_len]
        refine Cl.of (dsplit_all _ _) ⟨_, _, _, rfl, hr, hr, rfl, ⟨i + 1, waddN _ (by omega), by omega, nxt m hm⟩, ?_⟩
        rw [waddN _ (by omega)]
        exact stepL (by simp; omega)
      refine ⟨hr, hr, _, _, _, hg, ifB_intro (fun h3 => ?_) (fun h3 => ?_)⟩
      · have h3 : 0 < ks.length := by simpa using h3
        have hne : ks ≠ [] := fun e => by rw [e] at h3; simp at h3
        have hm : wrem ((i : Nat) : Int) (rlen (ks.map fun k => [I k])) = ((i % ks.length : Nat) : Int) := by
          unfold wrem; rw [rlen_eq, List.length_map]
          rw [Int.tmod_eq_emod_of_nonneg (by omega)]; simp
        have hlt : i % ks.length < ks.length := Nat.mod_lt _ h3
        rw [hm]
        have hmx : imax 0 (imin ks[i % ks.length] (rlen (uR d.fs[i].lo))) = ((more ks i d.fs[i].lo.length : Nat) : Int) := by
          simp only [imax_eq, imin_eq, rlen_eq, uR_len, more, if_neg hne, List.getD_eq_getElem?_getD, List.getElem?_eq_getElem hlt, Option.getD_some]
          omega
        have hmo : more ks i d.fs[i].lo.length ≤ d.fs[i].lo.length := by unfold more; split <;> omega
        refine ⟨fun e => by simp at e; exact hne e, ⟨by omega, by simp; omega⟩, ks[i % ks.length], rget_map _ _ _ hlt, ?_⟩
        rw [hmx]
        exact ⟨⟨by omega, by omega, by simp; omega⟩, done _ rfl hmo⟩
      · have h3 : ¬ 0 < ks.length := by simpa using h3
        have he : ks = [] := List.eq_nil_of_length_eq_zero (by omega)
        exact ⟨⟨by omega, by omega, by simp⟩, done 0 (by simp [more, he]) (by omega)⟩
    · have h2 : ¬ i < d.fs.length := by simpa using h2
      have : i = d.fs.length := by omega
      subst this
      have e : (wakeL ks d.fs).take d.fs.length ++ d.fs.drop d.fs.length = wakeL ks d.fs := by
        rw [List.drop_length, List.append_nil, List.take_of_length_le (by rw [wakeL_len]; exact Nat.le_refl _)]
      rw [e]
      simp only [opWake, if_neg hn]
end
end Go.Proofs.Ytohmeljljamigaa.Dsk

/- Layer 10: where a file belongs, and what is done with a disk's files. -/
import Derived.Test.YtohmeljljamigaaDsk2
namespace Go.Proofs.Ytohmeljljamigaa.Dsk
open Go Go.Px Go.Proofs Go.Proofs.Ytohmeljljamigaa.Ins
set_option maxRecDepth 100000
set_option linter.unusedVariables false

theorem cnan_fn (s : ByteArray) : Ct Try.prog 159 {} [S s] (fun r => r = [B false]) := by
  refine cnan_nf _ _ ?_
  simp
theorem ccompare_fn (s t : ByteArray) : Ct Try.prog 112 {} [S s, S t] (fun r => r = [I (if nlt s t then -1 else if nlt t s then 1 else 0)]) := by
  refine ccompare_nf _ _ _ (Cl.of (cnan_fn s) ⟨_, rfl, Cl.of (cnan_fn t) ⟨_, rfl, ?_⟩⟩)
  show ifB (slt s t) _ _
  rw [slt_d, sgt_d]
  exact ifB_d (fun h => by rw [if_pos h]) (fun h => ifB_d (fun k => by rw [if_neg h, if_pos k]) (fun k => by rw [if_neg h, if_neg k]))
theorem dins1_fn (f : FiD) (s : ByteArray) : Ct Try.prog 148 {} [.agg f.row, S s] (fun r => r = [I (if nlt f.nm s then -1 else if nlt s f.nm then 1 else 0)]) :=
  dins1_nf _ _ _ _ _ (Cl.of (ccompare_fn _ _) ⟨_, rfl, rfl⟩)

theorem half {i j : Nat} (h : i + j ≤ 9223372036854775807) : wcv .i64 (wshr .u64 (wcv .u64 (wadd .i64 (i : Int) (j : Int))) 1) = (((i + j) / 2 : Nat) : Int) := by
  rw [waddNN _ _ h]
  have e1 : wcv .u64 ((i + j : Nat) : Int) = ((i + j : Nat) : Int) := by
    simp only [wcv, IntKind.wrap, IntKind.signed, IntKind.bits]; simp; omega
  rw [e1]
  have e2 : wshr .u64 ((i + j : Nat) : Int) 1 = (((i + j) / 2 : Nat) : Int) := by
    simp only [wshr, IntKind.bits]
    simp
    rw [Int.fdiv_eq_ediv_of_nonneg _ (by omega)]
  rw [e2]
  unfold wcv
  exact wrap_i64 (by omega) (by omega)

theorem bsearch_fn (l : List FiD) (hs : srt FiD.nm l) (hl : l.length ≤ 1000000) (s : ByteArray) : Ct Try.prog 147 {} [SL 3 (fR l), S s, .clo 148 []] (fun r => ∃ b : Bool, r = [I ((ahd FiD.nm l s).length : Nat), B b]) := by
  refine bsearch_nf _ _ _ _ _ ⟨fun x y => ∃ i j : Nat, x = i ∧ y = j ∧ i ≤ (ahd FiD.nm l s).length ∧ (ahd FiD.nm l s).length ≤ j ∧ j ≤ l.length, fun x y => y.toNat - x.toNat, ⟨0, l.length, rfl, by simp, by omega, ahd_len, by omega⟩, ?_⟩
  rintro _ _ ⟨i, j, rfl, rfl, h1, h2, h3⟩
  refine ifB_intro (fun h => ?_) (fun h => ?_)
  · simp at h
    rw [half (by omega)]
    have hm : (i + j) / 2 < l.length := by omega
    refine ⟨by omega, ⟨by omega, by simp; omega⟩, _, _, _, rget_map _ _ _ hm, Cl.of (dins1_fn _ s) ⟨_, rfl, ifB_intro (fun h4 => ⟨rfl, ?_, ?_⟩) (fun h4 => ⟨rfl, ⟨i, (i + j) / 2, rfl, rfl, h1, ?_, by omega⟩, stepL (by simp; omega)⟩)⟩⟩
    · rw [waddN _ (by omega)]
      refine ⟨(i + j) / 2 + 1, j, rfl, rfl, ?_, h2, h3⟩
      have : nlt l[(i + j) / 2].nm s := by
        refine Decidable.byContradiction fun hn => ?_
        rw [if_neg hn] at h4
        split at h4 <;> simp at h4
      have := (ahd_iff (s := s) hs hm).2 this
      omega
    · rw [waddN _ (by omega)]
      exact stepL (by simp; omega)
    · have hn : ¬ nlt l[(i + j) / 2].nm s := fun hn => by rw [if_pos hn] at h4; simp at h4
      have : ¬ ((i + j) / 2 < (ahd FiD.nm l s).length) := fun k => hn ((ahd_iff (s := s) hs hm).1 k)
      omega
  · simp at h
    have e : i = (ahd FiD.nm l s).length := by omega
    refine ifB_intro (fun h4 => ?_) (fun h4 => ⟨_, by rw [← e]⟩)
    have h4 : i < l.length := by simpa using h4
    exact ⟨⟨by omega, by simpa using h4⟩, _, _, _, rget_map _ _ _ h4, Cl.of (dins1_fn _ s) ⟨_, rfl, _, by rw [← e]⟩⟩

theorem dinsert_fn (l : List FiD) (hs : srt FiD.nm l) (hl : l.length ≤ 1000000) (f : FiD) : Ct Try.prog 87 OO [SL 3 (fR l), .agg f.row] (fun r => r = [SL 3 (fR (insB FiD.nm l f))]) := by
  refine dinsert_nf _ _ _ _ _ (Cl.ofQ (bsearch_fn l hs hl f.nm) ?_)
  rintro _ ⟨b, rfl⟩
  refine ⟨_, _, rfl, Cl.of (finsert_fn (fR l) (ahd FiD.nm l f.nm).length f.row (by simpa using ahd_len) (by simpa using hl) ovl_file) ⟨_, rfl, ?_⟩⟩
  rw [insB_at]
  simp [List.map_take, List.map_drop]

theorem dren11_fn (f : FiD) (a b : ByteArray) : Ct Try.prog 86 {} [.agg f.row, .ref 0 [S a], .ref 0 [S b]] (fun r => r = [B (decide (f.nm = a ∨ f.nm = b))]) := by
  refine dren11_nf _ _ _ _ _ _ ?_
  rw [seq_d, seq_d]
  by_cases h1 : f.nm = a <;> by_cases h2 : f.nm = b <;> simp [h1, h2]

section
variable {d : DiD} (hp : d.P)
include hp
theorem flen {i : Nat} (hi : i < d.fs.length) : d.fs[i].len ≤ 65536 := by
  have := usedL_mem (List.getElem_mem hi); have := hp.2.1; have := hp.1.2.2.1; omega

theorem set_eq {i : Nat} (hi : i < d.fs.length) (f : FiD) (e : f.nm = d.fs[i].nm) : rset (fR d.fs) (i : Nat) f.row = fR (withB FiD.nm d.fs f) := by
  rw [rset_map, set_withB hp.2.2.2 hi e]

theorem dapp1_fn {i : Nat} (hi : i < d.fs.length) (x : List UInt8) (hx : x.length ≤ 65536) :
    Ct Try.prog 79 OO [SL 3 (fR d.fs), .ref 0 [I (i : Nat)], .ref 0 [S d.fs[i].nm], .ref 0 [SL 1 (uR x)]] (fun r => r = [SL 3 (fR (withB FiD.nm d.fs ⟨d.fs[i].nm, d.fs[i].su, d.fs[i].lo ++ x⟩))]) := by
  have hr : (0 : Int) ≤ (i : Nat) ∧ ((i : Nat) : Int) < rlen (fR d.fs) := ⟨by omega, by simpa using hi⟩
  have hfl := flen hp hi
  refine dapp1_nf _ _ _ _ _ ⟨hr, hr, _, _, _, rget_map _ _ _ hi, Cl.of (concat3 _ _ x (by unfold FiD.len at hfl; omega)) ⟨_, rfl, ?_⟩⟩
  rw [List.append_assoc, rlen_eq, uR_len]
  refine Cl.of (dsplit_su _ _ _) ⟨_, _, _, rfl, hr, hr, ?_⟩
  exact congrArg (fun z => [SL 3 z]) (set_eq hp hi _ rfl)
theorem dsyn1_fn {i : Nat} (hi : i < d.fs.length) :
    Ct Try.prog 97 OO [SL 3 (fR d.fs), .ref 0 [I (i : Nat)], .ref 0 [S d.fs[i].nm]] (fun r => r = [SL 3 (fR (withB FiD.nm d.fs ⟨d.fs[i].nm, d.fs[i].su ++ d.fs[i].lo, []⟩))]) := by
  have hr : (0 : Int) ≤ (i : Nat) ∧ ((i : Nat) : Int) < rlen (fR d.fs) := ⟨by omega, by simpa using hi⟩
  have hfl := flen hp hi
  refine dsyn1_nf _ _ _ _ ⟨hr, hr, _, _, _, rget_map _ _ _ hi, Cl.of (concat2 _ _ (by unfold FiD.len at hfl; omega)) ⟨_, rfl, Cl.of (dsize_fn _ (by omega)) ⟨_, rfl, ?_⟩⟩⟩
  have := dsplit_all d.fs[i].nm (d.fs[i].su ++ d.fs[i].lo)
  rw [show (d.fs[i].su ++ d.fs[i].lo).length = d.fs[i].len by simp [FiD.len]] at this
  refine Cl.of this ⟨_, _, _, rfl, hr, hr, ?_⟩
  exact congrArg (fun z => [SL 3 z]) (set_eq hp hi _ rfl)
theorem dcut1_fn {i : Nat} (hi : i < d.fs.length) (n : Nat) (hn : n ≤ d.fs[i].len) :
    Ct Try.prog 101 OO [SL 3 (fR d.fs), .ref 0 [I (i : Nat)], .ref 0 [S d.fs[i].nm], .ref 0 [I (n : Nat)]] (fun r => r = [SL 3 (fR (withB FiD.nm d.fs ⟨d.fs[i].nm, d.fs[i].su.take n, d.fs[i].lo.take (n - d.fs[i].su.length)⟩))]) := by
  have hr : (0 : Int) ≤ (i : Nat) ∧ ((i : Nat) : Int) < rlen (fR d.fs) := ⟨by omega, by simpa using hi⟩
  have hfl := flen hp hi
  refine dcut1_nf _ _ _ _ _ ⟨hr, hr, _, _, _, rget_map _ _ _ hi, Cl.of (concat2 _ _ (by unfold FiD.len at hfl; omega)) ⟨_, rfl, ⟨by omega, by omega, by simp [FiD.len] at hn ⊢; omega⟩, ?_⟩⟩
  rw [rsub_map]
  have e1 : List.drop (Int.toNat 0) (List.take ((n : Int)).toNat (d.fs[i].su ++ d.fs[i].lo)) = d.fs[i].su.take n ++ d.fs[i].lo.take (n - d.fs[i].su.length) := by
    simp [List.take_append]
  have e2 : imin (n : Int) (rlen (uR d.fs[i].su)) = ((d.fs[i].su.take n).length : Nat) := by
    rw [imin_eq, rlen_eq, uR_len, List.length_take]; omega
  rw [e1, e2]
  refine Cl.of (dsplit_su _ _ _) ⟨_, _, _, rfl, hr, hr, ?_⟩
  exact congrArg (fun z => [SL 3 z]) (set_eq hp hi _ rfl)
theorem drem1_fn {i : Nat} (hi : i < d.fs.length) : Ct Try.prog 99 OO [SL 3 (fR d.fs), .ref 0 [I (i : Nat)]] (fun r => r = [SL 3 (fR (wout FiD.nm d.fs d.fs[i].nm))]) := by
  have hl := hp.1.1
  refine drem1_nf _ _ _ ?_
  rw [waddN _ (by omega)]
  refine Cl.of (fdelete_fn (fR d.fs) i (i + 1) (by omega) (by simp; omega)) ⟨_, rfl, ?_⟩
  rw [wout_split hp.2.2.2 hi]
  simp [List.map_take, List.map_drop]
theorem dcre1_fn (s : ByteArray) (hs : ∀ f ∈ d.fs, f.nm ≠ s) : Ct Try.prog 94 OO [SL 3 (fR d.fs), .ref 0 [S s]] (fun r => r = [SL 3 (fR (withB FiD.nm d.fs ⟨s, [], []⟩))]) := by
  have hl := hp.1.1
  refine dcre1_nf _ _ _ (Cl.of (dinsert_fn d.fs hp.2.2.2 (by omega) ⟨s, [], []⟩) ⟨_, rfl, ?_⟩)
  rw [withB_new hs]
theorem dren1_fn {i : Nat} (hi : i < d.fs.length) (b : ByteArray) :
    Ct Try.prog 84 OO [SL 3 (fR d.fs), .ref 0 [I (i : Nat)], .ref 0 [S d.fs[i].nm], .ref 0 [S b]] (fun r => r = [SL 3 (fR (withB FiD.nm (wout FiD.nm d.fs d.fs[i].nm) ⟨b, d.fs[i].su, d.fs[i].lo⟩))]) := by
  have hr : (0 : Int) ≤ (i : Nat) ∧ ((i : Nat) : Int) < rlen (fR d.fs) := ⟨by omega, by simpa using hi⟩
  have hl := hp.1.1
  refine dren1_nf _ _ _ _ _ ⟨hr, hr, _, _, _, rget_map _ _ _ hi, Cl.of (fdelf_fn (fR d.fs) 86 [.ref 0 [S d.fs[i].nm], .ref 0 [S b]] (fun r => decide (rnm r = d.fs[i].nm ∨ rnm r = b)) (by simp; omega) (fun r hr => ?_)) ⟨_, rfl, ?_⟩⟩
  · obtain ⟨f, _, rfl⟩ := List.mem_map.1 hr
    exact ⟨isFil_row f, dren11_fn f _ _⟩
  · have e : (fR d.fs).filter (fun r => !decide (rnm r = d.fs[i].nm ∨ rnm r = b)) = fR (wout FiD.nm (wout FiD.nm d.fs d.fs[i].nm) b) := by
      rw [List.filter_map]
      unfold wout
      rw [List.filter_filter]
      congr 1
      apply List.filter_congr
      intro f _
      show (!decide (f.nm = d.fs[i].nm ∨ f.nm = b)) = (decide (f.nm ≠ b) && decide (f.nm ≠ d.fs[i].nm))
      by_cases h1 : f.nm = d.fs[i].nm <;> by_cases h2 : f.nm = b <;> simp [h1, h2]
    rw [e]
    have hl2 : (wout FiD.nm (wout FiD.nm d.fs d.fs[i].nm) b).length ≤ d.fs.length := Nat.le_trans len_wout len_wout
    exact Cl.of (dinsert_fn _ (srt_wout (srt_wout hp.2.2.2)) (by omega) ⟨b, d.fs[i].su, d.fs[i].lo⟩) ⟨_, rfl, rfl⟩
end
end Go.Proofs.Ytohmeljljamigaa.Dsk

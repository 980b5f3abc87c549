/- Layers 4 and 8: sums, sealed bytes, frames: plain data and what the functions answer. -/
import Derived.Test.YtbocfphenkidnaaDoorSegN
namespace Go.Proofs.YtbocfphenkidnaaDoor.Seg
open Go Go.Px Go.Proofs Go.Proofs.YtbocfphenkidnaaDoor.Cod
set_option maxRecDepth 100000
set_option linter.unusedVariables false

def stepI (n : Int) : Int := if wrem n 2 = 1 then wxor .u32 (wshr .u32 n 1) 3988292384 else wshr .u32 n 1
def itr : Nat → Int → Int
  | 0, n => n
  | k + 1, n => stepI (itr k n)
def tbl : List Int := (List.range 256).map fun (k : Nat) => itr 8 (wcv .u32 (k : Int))
def idx (n b : Int) : Int := wxor .u8 (wcv .u8 (wnot .u32 n)) b
def stp (n b : Int) : Int := wnot .u32 (wxor .u32 (aget tbl (idx n b)) (wshr .u32 (wnot .u32 n) 8))
def sumL (l : List Int) (n : Int) : Int := l.foldl stp n
def s4 (n : Int) : List Int := [wcv .u8 (wshr .u32 n 0), wcv .u8 (wshr .u32 n 8), wcv .u8 (wshr .u32 n 16), wcv .u8 (wshr .u32 n 24)]
def sealB (l : List Int) : List Int := l ++ s4 (sumL l 0)

theorem tbl_len : tbl.length = 256 := by simp [tbl]
theorem wrap_u8 (a : Int) : 0 ≤ IntKind.u8.wrap a ∧ IntKind.u8.wrap a < 256 := by
  simp [IntKind.wrap, IntKind.signed, IntKind.bits]; omega
theorem idx_range (n b : Int) : 0 ≤ idx n b ∧ idx n b < 256 := wrap_u8 _
theorem s4_byts (n : Int) : Byts (s4 n) := by
  intro x hx
  simp only [s4, List.mem_cons, List.not_mem_nil, or_false] at hx
  rcases hx with rfl | rfl | rfl | rfl
  all_goals (have := wrap_u8 (wshr .u32 n 0); have := wrap_u8 (wshr .u32 n 8); have := wrap_u8 (wshr .u32 n 16); have := wrap_u8 (wshr .u32 n 24); unfold wcv; omega)
theorem s4_len (n : Int) : (s4 n).length = 4 := rfl
theorem sealB_byts {l : List Int} (h : Byts l) : Byts (sealB l) := h.app (s4_byts _)
theorem sealB_len (l : List Int) : (sealB l).length = l.length + 4 := by simp [sealB, s4_len]

theorem cstep_fn (n : Int) : Ct Tryd.prog 53 {} [U32 n] (fun r => r = [U32 (stepI n)]) := by
  refine cstep_nf _ _ ⟨by omega, fun h => by omega, ifB_intro (fun h => ?_) (fun h => ?_)⟩
  · simp at h; simp [stepI, h]
  · simp at h; simp [stepI, h]

theorem ctable_fn : Ct Tryd.prog 33 {} [] (fun r => r = [.arr .u32 256 tbl]) := by
  refine ctable_nf _ ⟨fun x rs => 0 ≤ x ∧ x ≤ 256 ∧ rs.length = 256 ∧ rs.take x.toNat = tbl.take x.toNat, fun x _ => (256 - x).toNat, ⟨by omega, by omega, by simp [azero], by simp⟩, ?_⟩
  rintro x rs ⟨x0, x1, hl, ht⟩
  refine ifB_intro (fun h => ?_) (fun h => ?_)
  · simp at h
    have w : wadd IntKind.i64 x 1 = x + 1 := wadd_i64 (by omega) (by omega)
    refine ⟨fun y j => 0 ≤ j ∧ j ≤ 8 ∧ y = itr j.toNat (wcv .u32 x), fun _ j => (8 - j).toNat, ⟨by omega, by omega, rfl⟩, ?_⟩
    rintro y j ⟨j0, j1, rfl⟩
    refine ifB_intro (fun hj => ?_) (fun hj => ?_)
    · simp at hj
      have w2 : wadd IntKind.i64 j 1 = j + 1 := wadd_i64 (by omega) (by omega)
      rw [w2]
      refine Cl.of (cstep_fn _) ⟨_, rfl, rfl, ⟨by omega, by omega, ?_⟩, ?_⟩
      · rw [show (j + 1).toNat = j.toNat + 1 by omega]; rfl
      · show Nat.succ (8 - (j + 1)).toNat ≤ (8 - j).toNat; omega
    · simp at hj
      have hj8 : j.toNat = 8 := by omega
      rw [w, hj8]
      refine ⟨⟨x0, h⟩, ⟨x0, h⟩, rfl, ⟨by omega, by omega, by simp [aset, hl], ?_⟩, ?_⟩
      · have hlt : x.toNat < rs.length := by omega
        have hlt2 : x.toNat < tbl.length := by rw [tbl_len]; omega
        rw [show (x + 1).toNat = x.toNat + 1 by omega, List.take_succ_eq_append_getElem hlt2, ← ht, List.take_succ_eq_append_getElem (by simp [aset]; omega)]
        have e1 : (aset rs x (itr 8 (wcv IntKind.u32 x))).take x.toNat = rs.take x.toNat := by
          unfold aset; rw [List.take_set_of_le (Nat.le_refl _)]
        have e2 : (aset rs x (itr 8 (wcv IntKind.u32 x)))[x.toNat]'(by simp [aset]; omega) = tbl[x.toNat] := by
          simp [aset, tbl]
          rw [show (max x 0 : Int) = x by omega]
        rw [e1, e2]
      · show Nat.succ (256 - (x + 1)).toNat ≤ (256 - x).toNat; omega
  · simp at h
    have hx : x.toNat = 256 := by omega
    rw [hx, List.take_of_length_le (by omega), List.take_of_length_le (by rw [tbl_len]; omega)] at ht
    rw [ht]

theorem csum_fn (l : List Int) (n : Int) (hl : l.length ≤ 1000000) : Ct Tryd.prog 71 {} [.arr .u32 256 tbl, U32 n, SL 1 (bR l)] (fun r => r = [U32 (sumL l n)]) := by
  refine csum_nf _ _ _ _ ⟨fun y x => 0 ≤ x ∧ x ≤ l.length ∧ y = sumL (l.take x.toNat) n, fun _ x => (l.length - x).toNat, ⟨by omega, by omega, rfl⟩, ?_⟩
  rintro y x ⟨x0, x1, rfl⟩
  refine ifB_intro (fun h => ?_) (fun h => ?_)
  · simp at h
    have hlt : x.toNat < l.length := by omega
    have w : wadd IntKind.i64 x 1 = x + 1 := wadd_i64 (by omega) (by omega)
    rw [w]
    have hi := idx_range (sumL (l.take x.toNat) n) (byAt l x)
    refine ⟨⟨x0, by simpa using h⟩, _, rget_bR x0 h, ⟨hi.1, hi.2⟩, ⟨hi.1, hi.2⟩, by omega, rfl, ⟨by omega, by omega, ?_⟩, ?_⟩
    · rw [show (x + 1).toNat = x.toNat + 1 by omega, List.take_succ_eq_append_getElem hlt]
      simp only [sumL, List.foldl_append, List.foldl_cons, List.foldl_nil]
      have : byAt l x = l[x.toNat] := by simp [byAt, hlt]
      rw [← this]; rfl
    · show Nat.succ (l.length - (x + 1)).toNat ≤ (l.length - x).toNat; omega
  · simp at h
    rw [List.take_of_length_le (by omega)]

theorem cseal_fn (l : List Int) (hl : l.length ≤ 1000000) : Ct Tryd.prog 46 ⟨[], [.own]⟩ [.arr .u32 256 tbl, SL 1 (bR l)] (fun r => r = [SL 1 (bR (sealB l))]) := by
  refine cseal_nf _ _ _ (Cl.of (csum_fn l 0 hl) ⟨_, rfl, Cl.of (clone_bR (bR l) (by simp; omega)) ⟨_, rfl, ?_⟩⟩)
  refine ⟨fun l' x => 0 ≤ x ∧ x ≤ 4 ∧ l' = bR (l ++ (s4 (sumL l 0)).take x.toNat), fun _ x => (4 - x).toNat, ⟨by omega, by omega, by simp⟩, ?_⟩
  rintro _ x ⟨x0, x1, rfl⟩
  refine ifB_intro (fun h => ?_) (fun h => ?_)
  · simp at h
    have w : wadd IntKind.i64 x 1 = x + 1 := wadd_i64 (by omega) (by omega)
    have w2 : wmul IntKind.i64 8 x = 8 * x := wrap_i64 (by omega) (by omega)
    rw [w, w2]
    refine ⟨by omega, by simp [lsum, rlen]; omega, rfl, ⟨by omega, by omega, ?_⟩, ?_⟩
    · have hx : x = 0 ∨ x = 1 ∨ x = 2 ∨ x = 3 := by omega
      rcases hx with rfl | rfl | rfl | rfl <;> simp [rapp, s4]
    · show Nat.succ (4 - (x + 1)).toNat ≤ (4 - x).toNat; omega
  · simp at h
    rw [List.take_of_length_le (by rw [s4_len]; omega)]; rfl

def openE (l : List Int) : List Int × Int := if l.length < 4 then ([], 10) else if sealB (l.take (l.length - 4)) = l then (l.take (l.length - 4), 0) else ([], 12)

theorem copen_fn (l : List Int) (hb : Byts l) (hl : l.length ≤ 1000000) : Ct Tryd.prog 32 {} [.arr .u32 256 tbl, SL 1 (bR l)] (fun r => r = [SL 1 (bR (openE l).1), I (openE l).2]) := by
  have hrl : rlen (bR l) = l.length := by simp [rlen]
  refine copen_nf _ _ _ ?_
  rw [hrl]
  have w : wsub IntKind.i64 (l.length : Int) 4 = l.length - 4 := wsub_i64 (by omega) (by omega)
  rw [w]
  refine ifB_intro (fun h => ?_) (fun h => ?_)
  · simp at h
    simp [openE, show l.length < 4 by omega]
  · simp at h
    have ht : ((l.length : Int) - 4).toNat = l.length - 4 := by omega
    refine ⟨⟨by omega, by omega, by omega⟩, ?_⟩
    rw [rsub_bR, ht]
    simp only [Int.toNat_zero, List.drop_zero]
    refine Cl.of (cseal_fn _ (by simp; omega)) ⟨_, rfl, Cl.of (bequal_fn _ _ (sealB_byts (hb.sub fun x hx => List.mem_of_mem_take hx)) hb) ⟨_, rfl, ifB_intro (fun h2 => ?_) (fun h2 => ?_)⟩⟩
    · simp at h2
      simp [openE, show ¬ l.length < 4 by omega, h2]
    · simp at h2
      refine ⟨⟨by omega, by omega, trivial, by omega⟩, ?_⟩
      simp [openE, show ¬ l.length < 4 by omega, h2]

/-- A frame. -/
def fr (k : Int) (p : List Int) : List Int := sealB (0 :: (p.length : Int) :: k :: p)
def putF (k : Int) (p : List Int) : List Int × Int := if ¬ (1 ≤ k ∧ k ≤ 3) then ([], 2) else if 200 < p.length then ([], 9) else (fr k p, 0)

theorem fr_len (k : Int) (p : List Int) : (fr k p).length = p.length + 7 := by simp [fr, sealB_len]

theorem kindly_fn (k : Int) : Ct Tryd.prog 31 {} [I k] (fun r => r = [B (decide (1 ≤ k ∧ k ≤ 3))]) := by
  refine kindly_nf _ _ ?_
  have : bpick (ige k 1) (ile k 3) false = decide (1 ≤ k ∧ k ≤ 3) := by
    rw [Bool.eq_iff_iff, decide_eq_true_eq]; simp
  rw [this]

theorem wcv8 {a : Int} (h0 : 0 ≤ a) (h1 : a < 256) : wcv .u8 a = a := by rw [wcvU8 a h0]; omega

theorem fput_fn (k : Int) (l : List Int) (hb : Byts l) (hl : l.length ≤ 1000000) : Ct Tryd.prog 28 ⟨[], [.own, .pure]⟩ [I k, SL 1 (bR l)] (fun r => r = [SL 1 (bR (putF k l).1), I (putF k l).2]) := by
  have hrl : rlen (bR l) = l.length := by simp [rlen]
  refine fput_nf _ _ _ (Cl.of (kindly_fn k) ⟨_, rfl, ?_⟩)
  rw [hrl]
  refine ifB_intro (fun h => ?_) (fun h => ifB_intro (fun h2 => ?_) (fun h2 => ?_))
  · simp at h
    have : ¬ (1 ≤ k ∧ k ≤ 3) := by omega
    simp [putF, this]
  · simp at h h2
    simp [putF, h, show 200 < l.length by omega]
  · simp at h h2
    have e1 : wcv IntKind.u8 (wshr IntKind.i64 (l.length : Int) 8) = 0 := by
      have : wshr IntKind.i64 (l.length : Int) 8 = 0 := by
        unfold wshr
        have : (2 : Int) ^ (min (8 : Int).toNat IntKind.i64.bits) = 256 := by decide
        rw [this]
        show (l.length : Int).fdiv 256 = 0
        rw [Int.fdiv_eq_ediv_of_nonneg _ (by omega)]
        omega
      rw [this]; rfl
    have e2 : wcv IntKind.u8 (l.length : Int) = l.length := wcv8 (by omega) (by omega)
    have e3 : wcv IntKind.u8 k = k := wcv8 (by omega) (by omega)
    rw [e1, e2, e3]
    refine ⟨by omega, Cl.of ctable_fn ⟨_, rfl, by simp [lsum, rlen]; omega, ?_⟩⟩
    have e4 : rapp [[U8 0], [U8 (l.length : Int)], [U8 k]] (bR l) = bR (0 :: (l.length : Int) :: k :: l) := rfl
    rw [e4]
    refine Cl.of (cseal_fn _ (by simp; omega)) ⟨_, rfl, ?_⟩
    simp [putF, h, show ¬ 200 < l.length by omega, fr]

end Go.Proofs.YtbocfphenkidnaaDoor.Seg

/- slices.Backward over bytes: the iterator's contract. -/
import Derived.RangeFuncLeaves
import Derived.RangeFuncWrites
import Derived.Shelf.Abstract
import Derived.WalkKit
import Derived.OwnWalkIn
import Derived.TacticsInMore
import Derived.LoopNIn
import Derived.LoopIn
import Derived.Test.YtpgahnnbpfeldaaProg
import Derived.Test.YtpgahnnbpfeldaaPxB
namespace Go.Proofs.Ytpgahnnbpfeldaa.Cod
open Go Go.Px Go.Proofs Go.RowKit Go.Shelf

attribute [local go_sem] Oper.semAt_some

/-- What a round keeps: all blocks below N but B. -/
def Kp (N B : Nat) (w w' : World) : Prop := Keeps (fun b => b = B ∨ N ≤ b) w w'

theorem Kp.refl (N B : Nat) (w : World) : Kp N B w w := ⟨rfl, rfl, rfl, Nat.le_refl _, fun _ _ _ => rfl⟩
theorem Kp.trans {N B : Nat} {a b c : World} (h : Kp N B a b) (k : Kp N B b c) : Kp N B a c :=
  ⟨k.os.trans h.os, k.tape.trans h.tape, k.output.trans h.output, Nat.le_trans h.size k.size, fun i hi hg => (k.block i (Nat.lt_of_lt_of_le hi h.size) hg).trans (h.block i hi hg)⟩
theorem Kp.cell {N B : Nat} {w w' : World} (h : Kp N B w w') {p : Addr} {v : Value} (hp : p.block < N) (hB : p.block ≠ B) (hc : w.cell? p = some v) : w'.cell? p = some v := by
  have hlt : p.block < w.heap.size := by
    refine Classical.byContradiction fun hn => ?_
    have : w.heap[p.block]? = none := Array.getElem?_eq_none (by omega)
    simp [World.cell?, this] at hc
  rw [World.cell?_of_block (w := w) (h.block p.block hlt (by omega))]
  exact hc

/-- What has come when k rounds are over. -/
def upto {α : Type} (f : Nat → α) (k : Nat) : List α := (List.range k).map f
theorem upto_succ {α : Type} (f : Nat → α) (k : Nat) : upto f (k + 1) = upto f k ++ [f k] := by simp [upto, List.range_succ]
theorem upto_length {α : Type} (f : Nat → α) (k : Nat) : (upto f k).length = k := by simp [upto]

set_option maxRecDepth 100000 in
set_option maxHeartbeats 2000000 in
theorem back1_in (F : Fence) (n : Nat) (h7 : F.fn 205) (hro : F.round = none) (hn : 1 ≤ n) (l Bs bo N B b off len cap : Nat) (zs : List Int) (hlen : len ≤ 100) (hb : b < N) (hbB : b ≠ B) (hs : Bs < N) (hsB : Bs ≠ B) (J Jx : List (Int × Int) → World → Prop)
    (hY : ∀ pre x W, J pre W → pre.length < len → YieldAt F (n - 1) Try.prog l #[.int .i64 x.1, .int .u8 x.2] W fun e W' =>
      (e = .returned (.bool true) ∧ J (pre ++ [x]) W' ∧ Kp N B W W') ∨ (e = .returned (.bool false) ∧ Jx (pre ++ [x]) W'))
    (W : World) (hBs : W.cell? ⟨Bs, bo, none⟩ = some (.slice (some ⟨b, off, none⟩) len cap)) (hc : ∀ j, j < len → W.cell? ⟨b, off + j, none⟩ = some (.int .u8 (zs[j]?.getD 0))) (h0 : J [] W) :
    CallsIn F n Try.prog 205 #[.func (.yield l) #[] #[], .pointer (some ⟨Bs, bo, none⟩)] W fun e W' => (∃ v, e = .returned v) ∧
      ((∃ ys, ys = upto (fun j => ((len : Int) - 1 - j, zs[len - 1 - j]?.getD 0)) len ∧ J ys W') ∨ (∃ pre, True ∧ Jx pre W')) := by
  refine callsIn_of_wp Try.func205 rfl h7 ?_ hro
  simp only [Try.ntmps205, List.size_toArray, List.length_cons, List.length_nil, Nat.reduceAdd, Nat.reduceSub, Array.replicate_succ, Array.replicate_zero, List.push_toArray, List.append_toArray, List.nil_append, List.cons_append]
  gi_wp2
  gi_loopw [3] (fun i wr => ∃ k : Nat, k ≤ len ∧ i = .int .i64 ((len : Int) - 1 - k) ∧ J (upto (fun j => ((len : Int) - 1 - j, zs[len - 1 - j]?.getD 0)) k) wr ∧ Kp N B W wr)
    (fun i _ => (intOf i + 1).toNat)
  case atStart => exact ⟨0, Nat.zero_le _, by simp, h0, Kp.refl _ _ _⟩
  case round =>
    obtain ⟨k, hk, rfl, hJs, hnx⟩ := hrel
    have hsx : wr.cell? ⟨Bs, bo, none⟩ = some (.slice (some ⟨b, off, none⟩) len cap) := hnx.cell (p := ⟨Bs, bo, none⟩) hs hsB hBs
    have hcx : k < len → wr.cell? ⟨b, off + (len - 1 - k), none⟩ = some (.int .u8 (zs[len - 1 - k]?.getD 0)) := fun h => hnx.cell (p := ⟨b, off + (len - 1 - k), none⟩) hb hbB (hc _ (by omega))
    by_cases hlt : k < len
    · obtain ⟨fn, tmps, assign, body, hy, hR⟩ := hY _ ((len : Int) - 1 - k, zs[len - 1 - k]?.getD 0) wr hJs (by rw [upto_length]; exact hlt)
      dsimp only at hy
      have hcx' := hcx hlt
      have hge : (0 : Int) ≤ (len : Int) - 1 - k := by omega
      have hltz : (len : Int) - 1 - k < len := by omega
      have htn : ((len : Int) - 1 - k).toNat = len - 1 - k := by omega
      gi_wp2
      refine hR.mono ?_
      rintro e W3 (⟨rfl, hJ3, hk3⟩ | ⟨rfl, hJx3⟩)
      · gi_wp2
        go_roundw
        case rel => exact ⟨k + 1, by omega, by simp; omega, by rw [upto_succ]; exact hJ3, hnx.trans hk3⟩
        case measure => simp [intOf]; omega
      · gi_wp2
        refine bodyPost_ret (results_none rfl _ _ _) rfl ?_
        exact ⟨⟨_, rfl⟩, .inr ⟨_, trivial, hJx3⟩⟩
    · obtain rfl : k = len := by omega
      gi_wp2
      go_end0
      exact ⟨⟨_, rfl⟩, .inl ⟨_, rfl, hJs⟩⟩

end Go.Proofs.Ytpgahnnbpfeldaa.Cod

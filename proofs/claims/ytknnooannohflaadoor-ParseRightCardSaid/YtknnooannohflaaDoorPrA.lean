/- Layer 28: the cursor. -/
import Derived.WalkKit
import Derived.WalkSmall
import Derived.BigCall
import Derived.BigGuard
import Derived.RegionTactic
import Derived.ChangeAlike
import Derived.Handy
import Derived.Below
import Derived.Test.YtknnooannohflaaDoorProg
namespace Go.Proofs.YtknnooannohflaaDoor.Prs
open Go Go.Proofs Go.RowKit
set_option linter.unusedVariables false

structure Cur (C : Nat) (s : ByteArray) (a : Nat) (w : World) : Prop where
 txt : w.cell? ⟨C, 0, none⟩ = some (.string s)
 at_ : w.cell? ⟨C, 1, none⟩ = some (.int .i64 a)
 fz : ∀ i, w.frozen? ⟨C, i, none⟩ = false
 le : a ≤ s.size
 sm : s.size ≤ 200000000

abbrev brk (a : Nat) : Ending := .panicked [{ v := .iface 135 (.agg #[.int .i64 ((a : Int) + 1)]), recovered := false }]

set_option maxHeartbeats 4000000 in
set_option maxRecDepth 100000 in
theorem Zcf (C : Nat) (s : ByteArray) (a : Nat) (w : World) (h : Cur C s a w) :
  Calls Tryd.prog 77 #[.pointer (some ⟨C, 0, none⟩)] w fun e w' => e = brk a ∧ w' = w := by
 have h1 := h.at_; have hle := h.le; have hsm := h.sm; clear h
 go_enter Tryd.func77, Tryd.ntmps77
 go_wp2; exact ⟨rfl, rfl, rfl⟩

set_option maxHeartbeats 4000000 in
set_option maxRecDepth 100000 in
theorem Zel (C : Nat) (s : ByteArray) (a : Nat) (w : World) (h : Cur C s a w) :
  Calls Tryd.prog 76 #[.pointer (some ⟨C, 0, none⟩)] w fun e w' => e = .returned (.bool (decide (a < s.size))) ∧ w' = w.drew := by
 have h0 := h.txt; have h1 := h.at_; have hle := h.le; have hsm := h.sm; clear h
 go_enter Tryd.func76, Tryd.ntmps76
 go_wp2; go_region; go_wp2; go_ret; exact ⟨rfl, rfl⟩

theorem Cur.drew {C : Nat} {s : ByteArray} {a : Nat} {w : World} (h : Cur C s a w) : Cur C s a w.drew := ⟨h.txt, h.at_, h.fz, h.le, h.sm⟩

structure Kept (C : Nat) (w w' : World) : Prop where
 os : w'.os = w.os
 tape : w'.tape = w.tape
 output : w'.output = w.output
 size : w.heap.size ≤ w'.heap.size
 block : ∀ k, k < w.heap.size → k ≠ C → w'.heap[k]? = w.heap[k]?
theorem Kept.refl (C : Nat) (w : World) : Kept C w w := ⟨rfl, rfl, rfl, Nat.le_refl _, fun _ _ _ => rfl⟩
theorem Kept.trans {C : Nat} {a b c : World} (h : Kept C a b) (k : Kept C b c) : Kept C a c :=
 ⟨k.os.trans h.os, k.tape.trans h.tape, k.output.trans h.output, Nat.le_trans h.size k.size, fun i hi hc => (k.block i (Nat.lt_of_lt_of_le hi h.size) hc).trans (h.block i hi hc)⟩
theorem Kept.drew {C : Nat} {a w : World} (h : Kept C a w) : Kept C a w.drew := ⟨h.os, h.tape, h.output, h.size, h.block⟩
theorem Kept.of_below {C : Nat} {w w' : World} (h : Below w.heap.size w w') : Kept C w w' := ⟨h.os, h.tape, h.output, h.size, fun k hk _ => h.block k hk⟩
theorem Kept.set {C : Nat} {a w : World} (h : Kept C a w) (i : Nat) (v : Value) : Kept C a (w.setCell ⟨C, i, none⟩ v) :=
 h.trans ⟨rfl, rfl, rfl, by simp [World.setCell], fun k _ hk => Below.heap_setCell _ _ _ _ hk⟩
theorem Kept.cell {C : Nat} {w w' : World} (h : Kept C w w') {p : Addr} (hp : p.block < w.heap.size) (hc : p.block ≠ C) : w'.cell? p = w.cell? p := World.cell?_of_block (w := w) (h.block p.block hp hc)
theorem Kept.below {C : Nat} {w w' : World} (h : Kept C w w') (hC : C < w.heap.size) : Below C w w' := ⟨h.os, h.tape, h.output, h.size, fun k hk => h.block k (by omega) (by omega)⟩
theorem Cur.set {C : Nat} {s : ByteArray} {a b : Nat} {w : World} (h : Cur C s a w) (hb : b ≤ s.size) : Cur C s b (w.setCell ⟨C, 1, none⟩ (.int .i64 b)) :=
 ⟨(World.cell?_setCell_other _ _ _ _ (by simp)).trans h.txt, World.cell?_setCell_same _ _ _ h.at_, fun i => by rw [World.frozen?_setCell]; exact h.fz i, hb, h.sm⟩
theorem Cur.below {C : Nat} {s : ByteArray} {a : Nat} {w w' : World} (h : Cur C s a w) (hb : Below w.heap.size w w') : Cur C s a w' := by
 have hC : C < w.heap.size := World.block_lt_of_cell? w _ h.txt; exact ⟨(hb.cell (p := ⟨C, 0, none⟩) hC).trans h.txt, (hb.cell (p := ⟨C, 1, none⟩) hC).trans h.at_, fun i => (hb.frozen (p := ⟨C, i, none⟩) hC).trans (h.fz i), h.le, h.sm⟩

set_option maxHeartbeats 4000000 in
set_option maxRecDepth 100000 in
theorem Zg2 (C : Nat) (s : ByteArray) (a : Nat) (w : World) (h : Cur C s a w) :
  Calls Tryd.prog 127 #[.pointer (some ⟨C, 0, none⟩)] w fun e w' => (Cur C s a w' ∧ Kept C w w') ∧ if hl : a < s.size then e = .returned (.int .u8 ((s[a]'hl).toNat : Int)) else e = brk a := by
 have h0 := h.txt; have h1 := h.at_; have hle := h.le; have hsm := h.sm; have hL := Zel C s a w h; have hF := Zcf C s a w.drew h.drew; by_cases hl : a < s.size
 ·have hd : decide (a < s.size) = true := decide_eq_true hl; rw [hd] at hL; have hC := h.drew.drew; clear hF
  go_enter Tryd.func127, Tryd.ntmps127
  go_wp2_with (go_at_call 76; refine hL.mono ?_; rintro e w' ⟨rfl, rfl⟩)
  go_region; go_wp2; go_ret; exact ⟨⟨hC, (Kept.refl C w).drew.drew⟩, rfl⟩
 ·have hd : decide (a < s.size) = false := decide_eq_false hl; rw [hd] at hL; have hC := h.drew
  go_enter Tryd.func127, Tryd.ntmps127
  go_wp2_with (first | (go_at_call 76; refine hL.mono ?_; rintro e w' ⟨rfl, rfl⟩) | (go_at_call 77; refine hF.mono ?_; rintro e w' ⟨rfl, rfl⟩))
  refine ⟨rfl, ⟨hC, (Kept.refl C w).drew⟩, rfl⟩
end Go.Proofs.YtknnooannohflaaDoor.Prs

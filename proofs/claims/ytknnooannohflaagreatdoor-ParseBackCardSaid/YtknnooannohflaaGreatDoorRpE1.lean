/- (*Replacer).build: the block of byteStringReplacer. -/
import Derived.Test.YtknnooannohflaaGreatDoorRpC
import Derived.Handy
import Derived.LoopN
import Derived.Deep.MidRow
import Derived.Deep.WholeRow
import Derived.Laws.MakeOwn
import Derived.Laws.IdiomStrings
namespace Go.Proofs.YtknnooannohflaaGreatDoor.Rp
open Go Go.Proofs

def nilSl : Value := .slice none 0 0
def rowZ (v : Value) : List Value := List.replicate 256 nilSl ++ [v]

theorem zero_236 (w : World) : (zeroValue 236).run Tryz.prog w = .ok (.agg (rowZ nilSl).toArray) w := by kernel_rfl
theorem size_236 : (Tryz.prog.info? 236).map (·.size) = some 257 := by kernel_rfl
theorem rowZ_size (v : Value) : (rowZ v).toArray.size = 257 := by kernel_rfl
theorem rowZ_one (b : Option Addr) (l c : Nat) : (rowZ (.slice b l c)).toArray.all (·.oneCell') = true := by kernel_rfl
theorem rowZ_get (v : Value) (j : Nat) (h : j < 256) : (rowZ v).toArray[j]? = some nilSl := by
 rw [List.getElem?_toArray, rowZ, List.getElem?_append_left (by rw [List.length_replicate]; exact h), List.getElem?_replicate]
 rw [if_pos h]
theorem make_84 (w : World) (n : Nat) (hn : n ≤ 3) : (Instr.makeSlice 84 (.int .i64 0) (.int .i64 (n : Int))).run Tryz.prog w = .ok (.slice (some ⟨w.heap.size, 0, none⟩) 0 n) (w.alloc (.cells (madeCells #[.string ByteArray.empty] n) 9)) := by
 have his : Tryz.t9.size = 1 := by kernel_rfl
 have hib : Tryz.t9.bytes = 16 := by kernel_rfl
 have := run_makeSlice w (P := Tryz.prog) 84 9 Tryz.t9 (.string ByteArray.empty) (by kernel_rfl) (by kernel_rfl) (by kernel_rfl) .i64 .i64 0 n (by omega) (by omega) (by rw [his]; omega) (by rw [hib]; omega) (by omega)
 rw [this, his]
 simp [Value.cells]
theorem rowZ_getl (v : Value) (j : Nat) (h : j < 256) : (rowZ v)[j]? = some (.slice none 0 0) := by
 have := rowZ_get v j h
 rwa [List.getElem?_toArray] at this
theorem rowZ_lastl (v : Value) : (rowZ v)[256]? = some v := by kernel_rfl
theorem rowZ_len (v : Value) : (rowZ v).length = 257 := by kernel_rfl
theorem rowZ_set (v : Value) : (rowZ nilSl).set 256 v = rowZ v := by kernel_rfl
theorem storeC_236 (w : World) (n : Nat) (hn : w.heap.size = n) (b : Option Addr) (l c : Nat) :
  (storeCells ⟨n, 0, none⟩ ((rowZ nilSl).set 256 (.slice b l c)) 0).run Tryz.prog (w.alloc (.cells (rowZ nilSl).toArray 236)) = .ok () (w.alloc (.cells (rowZ (.slice b l c)).toArray 236)) := by
 subst hn
 rw [rowZ_set]
 exact run_storeCells_new w 236 _ (rowZ (.slice b l c)).toArray (by rw [size_236, rowZ_size]) (by rw [rowZ_size, rowZ_size]) (rowZ_one b l c)
theorem conv_one (κ : UInt8) (n : Int) (hn : n = (κ.toNat : Int)) (b : Nat) (w : World) (hc : w.cell? ⟨b, 0, none⟩ = some (.int .u8 n)) :
  (convert 71 9 (.slice (some ⟨b, 0, none⟩) 1 1)).run Tryz.prog w = .ok (.string (.mk #[κ])) w := by
 subst hn
 exact run_convert_bytes_back w 71 9 5 ⟨b, 0, none⟩ 1 [κ] (by kernel_rfl) (by kernel_rfl) (by kernel_rfl) (fun j hj => by
  have : j = 0 := by simp at hj; omega
  subst this
  simpa [Addr.add_lit] using hc)
theorem conv_row (s : ByteArray) (w : World) : (convert 9 71 (.string s)).run Tryz.prog w = .ok (.slice (some ⟨w.heap.size, 0, none⟩) s.size (grownCap w s.size 0 5))
   (w.drew.alloc (.cells (bytesRow s (grownCap w s.size 0 5)) 5 ((bytesRow s (grownCap w s.size 0 5)).size, (bytesRow s (grownCap w s.size 0 5)).size + 1))) :=
 run_bytes_of_string w 9 71 5 s (by kernel_rfl) (by kernel_rfl) (by kernel_rfl)
set_option maxRecDepth 100000 in
theorem rowZ_gp (v : Value) (j : Nat) (h : j < 256) (q : j < (rowZ v).length) : (rowZ v)[j]'q = .slice none 0 0 := by
 have := rowZ_getl v j h
 rw [List.getElem?_eq_getElem q] at this
 exact Option.some.inj this
set_option maxRecDepth 100000 in
theorem rowZ_gpl (v : Value) (q : 256 < (rowZ v).length) : (rowZ v)[256]'q = v :=
 Option.some.inj ((List.getElem?_eq_getElem q).symm.trans (rowZ_lastl v))

theorem cell_alloc_win (w : World) (c : Array Value) (t : TypeId) (win : Nat × Nat) (n i : Nat) (hn : n = w.heap.size) : (w.alloc (.cells c t win)).cell? ⟨n, i, none⟩ = c[i]? := by
 subst hn
 exact cell_of_row _ _ i c t win (heap_alloc_last w _)
structure RepW (B T : Nat) (ks : List UInt8) (f : UInt8 → Option ByteArray) (w : World) : Prop where
 tot : w.cell? ⟨B, 256, none⟩ = some (.slice (some ⟨T, 0, none⟩) ks.length ks.length)
 key : ∀ j k, ks[j]? = some k → w.cell? ⟨T, j, none⟩ = some (.string (.mk #[k]))
 non : ∀ c : UInt8, f c = none → w.cell? ⟨B, c.toNat, none⟩ = some (.slice none 0 0)
 yes : ∀ c s, f c = some s → ∃ D q, w.cell? ⟨B, c.toNat, none⟩ = some (.slice (some ⟨D, 0, none⟩) s.size q) ∧ ∀ j, (h : j < s.size) → w.cell? ⟨D, j, none⟩ = some (.int .u8 (s[j].toNat : Int))
def escH (c : UInt8) : Option ByteArray := if c = 10 then some (.mk #[92, 110]) else if c = 92 then some (.mk #[92, 92]) else none
def escV (c : UInt8) : Option ByteArray := if c = 34 then some (.mk #[92, 34]) else if c = 10 then some (.mk #[92, 110]) else if c = 92 then some (.mk #[92, 92]) else none
theorem bytesRow_get (s : ByteArray) (q j : Nat) (h : j < s.size) : (bytesRow s q)[j]? = some (.int .u8 (s[j].toNat : Int)) := by
 unfold bytesRow
 have h' : j < s.data.size := h
 rw [Array.getElem?_append_left (by simpa using h'), Array.getElem?_map, Array.getElem?_eq_getElem h']
 rfl
end Go.Proofs.YtknnooannohflaaGreatDoor.Rp

namespace Go.Proofs.YtknnooannohflaaGreatDoor.Rp
open Go Go.Proofs Go.RowKit

set_option maxRecDepth 100000 in
set_option maxHeartbeats 3200000 in
theorem build2 (R O c : Nat) (w : World) (h4 : w.cell? ⟨R, 4, none⟩ = some (.slice (some ⟨O, 0, none⟩) 4 c))
  (o0 : w.cell? ⟨O, 0, none⟩ = some (.string (.mk #[92]))) (o1 : w.cell? ⟨O, 1, none⟩ = some (.string (.mk #[92, 92]))) (o2 : w.cell? ⟨O, 2, none⟩ = some (.string (.mk #[10]))) (o3 : w.cell? ⟨O, 3, none⟩ = some (.string (.mk #[92, 110]))) :
  Calls Tryz.prog 124 #[.pointer (some ⟨R, 0, none⟩)] w fun e w' => e = .returned (.iface 237 (.pointer (some ⟨w.heap.size + 1, 0, none⟩))) ∧ RepW (w.heap.size + 1) w.heap.size [10, 92] escH w' ∧ Below w.heap.size w w' := by
 have hz := zero_236
 have hmk : (Instr.makeSlice 84 (.int .i64 0) (.int .i64 2)).run Tryz.prog w = .ok (.slice (some ⟨w.heap.size, 0, none⟩) 0 2) (w.alloc (.cells #[.string ByteArray.empty, .string ByteArray.empty] 9)) :=
  (make_84 w 2 (by omega)).trans (by rw [show madeCells #[Value.string ByteArray.empty] 2 = #[.string ByteArray.empty, .string ByteArray.empty] by kernel_rfl])
 have hlen := rowZ_len
 have hst := storeC_236 (w.alloc (.cells #[.string ByteArray.empty, .string ByteArray.empty] 9)) (w.heap.size + 1) (by simp) (some ⟨w.heap.size, 0, none⟩) 0 2
 go_enter Tryz.func124, Tryz.ntmps124
 go_wp2
 go_rounds 3
 have p10 := fun v q => rowZ_gp v 10 (by omega) q
 have p92 := fun v q => rowZ_gp v 92 (by omega) q
 have p256 := rowZ_gpl
 have g10 := rowZ_getl (.slice (some ⟨w.heap.size, 0, none⟩) 0 2) 10 (by omega)
 have g92 := rowZ_getl (.slice (some ⟨w.heap.size, 0, none⟩) 0 2) 92 (by omega)
 have g256 := rowZ_lastl (.slice (some ⟨w.heap.size, 0, none⟩) 0 2)
 have hO : O < w.heap.size := World.block_lt_of_cell? w _ o0
 have hO1 : O < w.heap.size + 1 := by omega
 have hO2 : O < w.heap.size + 1 + 1 := by omega
 have hO3 : O < w.heap.size + 1 + 1 + 1 := by omega
 have hO4 : O < w.heap.size + 1 + 1 + 1 + 1 := by omega
 have hO5 : O < w.heap.size + 1 + 1 + 1 + 1 + 1 := by omega
 have hO6 : O < w.heap.size + 1 + 1 + 1 + 1 + 1 + 1 := by omega
 have hO7 : O < w.heap.size + 1 + 1 + 1 + 1 + 1 + 1 + 1 := by omega
 have hO8 : O < w.heap.size + 1 + 1 + 1 + 1 + 1 + 1 + 1 + 1 := by omega
 have hO9 : O < w.heap.size + 1 + 1 + 1 + 1 + 1 + 1 + 1 + 1 + 1 := by omega
 have hO10 : O < w.heap.size + 1 + 1 + 1 + 1 + 1 + 1 + 1 + 1 + 1 + 1 := by omega
 have mk0 : ∀ (κ : UInt8) (h : 0 < (ByteArray.mk #[κ]).size), (ByteArray.mk #[κ])[0]'h = κ := fun _ _ => rfl
 have hnil : ∀ w, (binOp .eql 71 (.slice none 0 0) (.slice none 0 0)).run Tryz.prog w = .ok (.bool true) w := fun _ => by kernel_rfl
 have c10 := conv_one 10 10 rfl
 have c92 := conv_one 92 92 rfl
 have hrow := conv_row
 refine wp_loop_rounds 3 ?_
 rw [rounds_succ]; go_wp2
 generalize hq1 : grownCap _ 2 0 5 = q1
 clear hq1
 rw [rounds_succ]; go_wp2
 generalize hq2 : grownCap _ 2 0 5 = q2
 clear hq2
 rw [rounds_succ]; go_wp2
 go_ret
 refine ⟨rfl, ⟨?_, ?_, ?_, ?_⟩, ?_⟩
 ·simp [go_sem, hlen]
 ·intro j k hj
  match j with
  | 0 => cases hj; simp [go_sem]
  | 1 => cases hj; simp [go_sem]
 ·intro c hc
  have h10 : ¬ c.toNat = 10 := fun e => by rw [show c = 10 from UInt8.toNat_inj.1 e] at hc; simp [escH] at hc
  have h92 : ¬ c.toNat = 92 := fun e => by rw [show c = 92 from UInt8.toNat_inj.1 e] at hc; simp [escH] at hc
  have hlt : c.toNat < 256 := UInt8.toNat_lt c
  have hne : ¬ c.toNat = 256 := by omega
  have := rowZ_getl (.slice (some ⟨w.heap.size, 0, none⟩) 0 2) c.toNat hlt
  simp [go_sem, Ne.symm h10, Ne.symm h92, Ne.symm hne, this]
 ·intro c s hs
  unfold escH at hs
  split at hs
  ·rename_i e; subst e; cases hs
   refine ⟨w.heap.size + 1 + 1 + 1 + 1, q1, by simp [go_sem, hlen], fun j h => ?_⟩
   refine Eq.trans ?_ (bytesRow_get (.mk #[92, 110]) q1 j h)
   simp [go_sem, cell_alloc_win]
  ·split at hs
   ·rename_i e; subst e; cases hs
    refine ⟨w.heap.size + 1 + 1 + 1 + 1 + 1 + 1 + 1, q2, by simp [go_sem, hlen], fun j h => ?_⟩
    refine Eq.trans ?_ (bytesRow_get (.mk #[92, 92]) q2 j h)
    simp [go_sem, cell_alloc_win]
   ·cases hs
 ·refine (((((((((Below.refl w.heap.size w).alloc ?_ _).alloc ?_ _).alloc ?_ _).alloc ?_ _).alloc ?_ _).alloc ?_ _).alloc ?_ _).alloc ?_ _).drew.drew <;> (simp; try omega)


set_option maxRecDepth 100000 in
set_option maxHeartbeats 6400000 in
theorem build3 (R O c : Nat) (w : World) (h4 : w.cell? ⟨R, 4, none⟩ = some (.slice (some ⟨O, 0, none⟩) 6 c))
  (o0 : w.cell? ⟨O, 0, none⟩ = some (.string (.mk #[92]))) (o1 : w.cell? ⟨O, 1, none⟩ = some (.string (.mk #[92, 92]))) (o2 : w.cell? ⟨O, 2, none⟩ = some (.string (.mk #[10]))) (o3 : w.cell? ⟨O, 3, none⟩ = some (.string (.mk #[92, 110]))) (o4 : w.cell? ⟨O, 4, none⟩ = some (.string (.mk #[34]))) (o5 : w.cell? ⟨O, 5, none⟩ = some (.string (.mk #[92, 34]))) :
  Calls Tryz.prog 124 #[.pointer (some ⟨R, 0, none⟩)] w fun e w' => e = .returned (.iface 237 (.pointer (some ⟨w.heap.size + 1, 0, none⟩))) ∧ RepW (w.heap.size + 1) w.heap.size [34, 10, 92] escV w' ∧ Below w.heap.size w w' := by
 have hz := zero_236
 have hmk : (Instr.makeSlice 84 (.int .i64 0) (.int .i64 3)).run Tryz.prog w = .ok (.slice (some ⟨w.heap.size, 0, none⟩) 0 3) (w.alloc (.cells #[.string ByteArray.empty, .string ByteArray.empty, .string ByteArray.empty] 9)) :=
  (make_84 w 3 (by omega)).trans (by rw [show madeCells #[Value.string ByteArray.empty] 3 = #[.string ByteArray.empty, .string ByteArray.empty, .string ByteArray.empty] by kernel_rfl])
 have hlen := rowZ_len
 have hst := storeC_236 (w.alloc (.cells #[.string ByteArray.empty, .string ByteArray.empty, .string ByteArray.empty] 9)) (w.heap.size + 1) (by simp) (some ⟨w.heap.size, 0, none⟩) 0 3
 go_enter Tryz.func124, Tryz.ntmps124
 go_wp2
 go_rounds 4
 have p256 := rowZ_gpl
 have g256 := rowZ_lastl (.slice (some ⟨w.heap.size, 0, none⟩) 0 3)
 have p92 := fun v q => rowZ_gp v 92 (by omega) q
 have g92 := rowZ_getl (.slice (some ⟨w.heap.size, 0, none⟩) 0 3) 92 (by omega)
 have p10 := fun v q => rowZ_gp v 10 (by omega) q
 have g10 := rowZ_getl (.slice (some ⟨w.heap.size, 0, none⟩) 0 3) 10 (by omega)
 have p34 := fun v q => rowZ_gp v 34 (by omega) q
 have g34 := rowZ_getl (.slice (some ⟨w.heap.size, 0, none⟩) 0 3) 34 (by omega)
 have hO : O < w.heap.size := World.block_lt_of_cell? w _ o0
 have hO1 : O < w.heap.size + 1 := by omega
 have hO2 : O < w.heap.size + 1 + 1 := by omega
 have hO3 : O < w.heap.size + 1 + 1 + 1 := by omega
 have hO4 : O < w.heap.size + 1 + 1 + 1 + 1 := by omega
 have hO5 : O < w.heap.size + 1 + 1 + 1 + 1 + 1 := by omega
 have hO6 : O < w.heap.size + 1 + 1 + 1 + 1 + 1 + 1 := by omega
 have hO7 : O < w.heap.size + 1 + 1 + 1 + 1 + 1 + 1 + 1 := by omega
 have hO8 : O < w.heap.size + 1 + 1 + 1 + 1 + 1 + 1 + 1 + 1 := by omega
 have hO9 : O < w.heap.size + 1 + 1 + 1 + 1 + 1 + 1 + 1 + 1 + 1 := by omega
 have hO10 : O < w.heap.size + 1 + 1 + 1 + 1 + 1 + 1 + 1 + 1 + 1 + 1 := by omega
 have hO11 : O < w.heap.size + 1 + 1 + 1 + 1 + 1 + 1 + 1 + 1 + 1 + 1 + 1 := by omega
 have hO12 : O < w.heap.size + 1 + 1 + 1 + 1 + 1 + 1 + 1 + 1 + 1 + 1 + 1 + 1 := by omega
 have mk0 : ∀ (κ : UInt8) (h : 0 < (ByteArray.mk #[κ]).size), (ByteArray.mk #[κ])[0]'h = κ := fun _ _ => rfl
 have hnil : ∀ w, (binOp .eql 71 (.slice none 0 0) (.slice none 0 0)).run Tryz.prog w = .ok (.bool true) w := fun _ => by kernel_rfl
 have c92 := conv_one 92 92 rfl
 have c10 := conv_one 10 10 rfl
 have c34 := conv_one 34 34 rfl
 have hrow := conv_row
 refine wp_loop_rounds 4 ?_
 rw [rounds_succ]; go_wp2
 generalize hq1 : grownCap _ 2 0 5 = q1
 clear hq1
 rw [rounds_succ]; go_wp2
 generalize hq2 : grownCap _ 2 0 5 = q2
 clear hq2
 rw [rounds_succ]; go_wp2
 generalize hq3 : grownCap _ 2 0 5 = q3
 clear hq3
 rw [rounds_succ]; go_wp2
 go_ret
 refine ⟨rfl, ⟨?_, ?_, ?_, ?_⟩, ?_⟩
 ·simp [go_sem, hlen]
 ·intro j k hj
  match j with
  | 0 => cases hj; simp [go_sem]
  | 1 => cases hj; simp [go_sem]
  | 2 => cases hj; simp [go_sem]
 ·intro c hc
  have h92 : ¬ c.toNat = 92 := fun e => by rw [show c = 92 from UInt8.toNat_inj.1 e] at hc; simp [escV] at hc
  have h10 : ¬ c.toNat = 10 := fun e => by rw [show c = 10 from UInt8.toNat_inj.1 e] at hc; simp [escV] at hc
  have h34 : ¬ c.toNat = 34 := fun e => by rw [show c = 34 from UInt8.toNat_inj.1 e] at hc; simp [escV] at hc
  have hlt : c.toNat < 256 := UInt8.toNat_lt c
  have hne : ¬ c.toNat = 256 := by omega
  have := rowZ_getl (.slice (some ⟨w.heap.size, 0, none⟩) 0 3) c.toNat hlt
  simp [go_sem, Ne.symm h92, Ne.symm h10, Ne.symm h34, Ne.symm hne, this]
 ·intro c s hs
  unfold escV at hs
  split at hs
  ·rename_i e; subst e; cases hs
   refine ⟨w.heap.size + 1 + 1 + 1 + 1, q1, by simp [go_sem, hlen], fun j h => ?_⟩
   refine Eq.trans ?_ (bytesRow_get (.mk #[92, 34]) q1 j h)
   simp [go_sem, cell_alloc_win]
  ·skip
   split at hs
   ·rename_i e; subst e; cases hs
    refine ⟨w.heap.size + 1 + 1 + 1 + 1 + 1 + 1 + 1, q2, by simp [go_sem, hlen], fun j h => ?_⟩
    refine Eq.trans ?_ (bytesRow_get (.mk #[92, 110]) q2 j h)
    simp [go_sem, cell_alloc_win]
   ·skip
    split at hs
    ·rename_i e; subst e; cases hs
     refine ⟨w.heap.size + 1 + 1 + 1 + 1 + 1 + 1 + 1 + 1 + 1 + 1, q3, by simp [go_sem, hlen], fun j h => ?_⟩
     refine Eq.trans ?_ (bytesRow_get (.mk #[92, 92]) q3 j h)
     simp [go_sem, cell_alloc_win]
    ·cases hs
 ·refine ((((((((((((Below.refl w.heap.size w).alloc ?_ _).alloc ?_ _).alloc ?_ _).alloc ?_ _).alloc ?_ _).alloc ?_ _).alloc ?_ _).alloc ?_ _).alloc ?_ _).alloc ?_ _).alloc ?_ _).drew.drew.drew <;> (simp; try omega)


set_option maxRecDepth 100000 in
set_option maxHeartbeats 3200000 in
theorem once_gen (R B : Nat) (X : World → Prop) (w : World) (v3 v4 : Value) (hR : R < w.heap.size) (c3 : w.cell? ⟨R, 3, none⟩ = some v3) (c4 : w.cell? ⟨R, 4, none⟩ = some v4)
  (z3 : w.frozen? ⟨R, 3, none⟩ = false) (z4 : w.frozen? ⟨R, 4, none⟩ = false)
  (hb : Calls Tryz.prog 124 #[.pointer (some ⟨R, 0, none⟩)] w fun e w1 => e = .returned (.iface 237 (.pointer (some ⟨B, 0, none⟩))) ∧ X w1 ∧ Below w.heap.size w w1) :
  Calls Tryz.prog 79 #[.pointer (some ⟨R, 0, none⟩)] w fun e w2 => e = .returned (.tuple #[]) ∧ ∃ w1, X w1 ∧ Below w.heap.size w w1 ∧
   w2 = (w1.setCell ⟨R, 3, none⟩ (.iface 237 (.pointer (some ⟨B, 0, none⟩)))).setCell ⟨R, 4, none⟩ (.slice none 0 0) := by
 go_enter Tryz.func79, Tryz.ntmps79
 go_wp2_with (go_at_call 124; refine hb.mono ?_)
 rintro e w1 ⟨rfl, hx, hw⟩
 have d3 : w1.cell? ⟨R, 3, none⟩ = some v3 := (hw.cell hR).trans c3
 have d4 : w1.cell? ⟨R, 4, none⟩ = some v4 := (hw.cell hR).trans c4
 have y3 : w1.frozen? ⟨R, 3, none⟩ = false := (hw.frozen hR).trans z3
 have y4 : w1.frozen? ⟨R, 4, none⟩ = false := (hw.frozen hR).trans z4
 have e4 : (w1.setCell ⟨R, 3, none⟩ (.iface 237 (.pointer (some ⟨B, 0, none⟩)))).cell? ⟨R, 4, none⟩ = some v4 := (World.cell?_setCell_other _ ⟨R, 3, none⟩ ⟨R, 4, none⟩ _ (by simp)).trans d4
 go_wp2
 go_end0
 exact ⟨rfl, w1, hx, hw, rfl⟩
end Go.Proofs.YtknnooannohflaaGreatDoor.Rp

import Derived.Shelf.LaysM
import Derived.Shelf.LaysC
import Derived.Shelf.Strings.Search2
import Derived.Test.YtknnooannohflaaGreatDoorProg
import Derived.Test.YtknnooannohflaaGreatDoorPaA1
namespace Go.Proofs
open Go.Shelf
set_option maxHeartbeats 1000000
set_option maxRecDepth 100000
def Tryz.lays219_ren : Go.Shelf.Ren := ⟨fun | 219 => 157 | 217 => 188 | 225 => 189 | 224 => 190 | 267 => 191 | 266 => 210 | 314 => 211 | n => n, fun | 9 => 9 | 3 => 3 | 4 => 4 | 5 => 5 | 46 => 195 | 146 => 281 | 51 => 124 | n => n, fun | 1 => 2 | n => n⟩
theorem Tryz.lays219 : Go.Proofs.Lays.n219 Tryz.prog Tryz.lays219_ren := {
 mixed := by kernel_rfl
 f217 := Tryz.func188.trans (congrArg some (by kernel_rfl))
 f219 := Tryz.func157.trans (congrArg some (by kernel_rfl))
 f224 := Tryz.func190.trans (congrArg some (by kernel_rfl))
 f225 := Tryz.func189.trans (congrArg some (by kernel_rfl))
 f266 := Tryz.func210.trans (congrArg some (by kernel_rfl))
 f267 := Tryz.func191.trans (congrArg some (by kernel_rfl))
 f314 := Tryz.func211.trans (congrArg some (by kernel_rfl))
 t3 := Tryz.underlying3
 a3 := Tryz.isAgg3
 z3 := Tryz.sizeOf3
 v3 := Tryz.zeroValue3
 t4 := Tryz.underlying4
 a4 := Tryz.isAgg4
 z4 := Tryz.sizeOf4
 v4 := Tryz.zeroValue4
 t5 := Tryz.underlying5
 a5 := Tryz.isAgg5
 z5 := Tryz.sizeOf5
 v5 := Tryz.zeroValue5
 t9 := Tryz.underlying9
 a9 := Tryz.isAgg9
 z9 := Tryz.sizeOf9
 v9 := Tryz.zeroValue9
 t46 := Tryz.underlying195
 a46 := Tryz.isAgg195
 z46 := Tryz.sizeOf195
 v46 := Tryz.zeroValue195
 t51 := Tryz.underlying124
 a51 := Tryz.isAgg124
 z51 := Tryz.sizeOf124
 v51 := Tryz.zeroValue124
 t146 := Tryz.underlying281
 a146 := Tryz.isAgg281
 z146 := Tryz.sizeOf281
 v146 := Tryz.zeroValue281
 g1 := by kernel_rfl }
open Go.RowKit Go.Lib in
theorem Tryz.stringslite_Index_one (s : ByteArray) (c : UInt8) (w : World) :
  Calls Tryz.prog 157 #[.string s, .string ⟨#[c]⟩] w fun e w' => e = .returned (.int .i64 (Lib.indexByte s.data.toList c)) ∧ w' = w := Any.stringslite_Index_one Tryz.lays219 s c w
end Go.Proofs
namespace Go.Proofs.YtknnooannohflaaGreatDoor.Prs
open Go Go.Proofs Go.RowKit Go.Px Trm Exp Met
set_option linter.unusedVariables false
theorem idx_line (t : Tx) : Lib.indexByte t 10 = if restOf t = [] then -1 else ((lineOf t).length : Int) := by
 induction t with
 | nil => rfl
 | cons c t ih =>
  unfold Lib.indexByte
  by_cases hc : c = 10
  ·subst hc
   simp [restOf, lineOf]
  ·have h1 : (c == 10) = false := by simp [hc]
   have h2 : restOf (c :: t) = restOf t := by unfold restOf; rw [List.dropWhile_cons]; simp [hc]
   have h3 : lineOf (c :: t) = c :: lineOf t := by unfold lineOf; rw [List.takeWhile_cons]; simp [hc]
   rw [h1, h2, h3, ih]
   by_cases hr : restOf t = []
   ·simp [hr]
   ·simp only [if_neg hr, Bool.false_eq_true, if_false]
    rw [if_neg (by simp)]
    simp
theorem line_all (t : Tx) : lineOf t ++ restOf t = t := List.takeWhile_append_dropWhile
theorem scut_walk (s : ByteArray) (w : World) (hs : s.size ≤ 200000000) :
  Calls Tryz.prog 114 #[.string s, .string ⟨#[10]⟩] w fun e w' => e = .returned (.tuple #[.string (bA (lineOf s.data.toList)), .string (bA (restOf s.data.toList).tail), .bool (!(restOf s.data.toList).isEmpty)]) ∧ Below w.heap.size w w' := by
 have hI := Tryz.stringslite_Index_one s 10 w
 rw [idx_line] at hI
 have hall := line_all s.data.toList
 have hlen : s.data.toList.length = s.size := tl_size s
 by_cases hr : restOf s.data.toList = []
 ·rw [if_pos hr] at hI
  rw [hr, List.append_nil] at hall
  rw [hall, bA_of, hr]
  clear hall hr
  go_enter Tryz.func114, Tryz.ntmps114
  go_wp2_with (go_at_call 157; refine hI.mono ?_; rintro e w' ⟨rfl, rfl⟩)
  go_ret3
  exact ⟨rfl, Below.refl _ _⟩
 ·rw [if_neg hr] at hI
  obtain ⟨r, hr2⟩ : ∃ r, restOf s.data.toList = 10 :: r := by
   cases h : restOf s.data.toList with
   | nil => exact absurd h hr
   | cons c r => rw [(rest_head h).1]; exact ⟨r, rfl⟩
  rw [hr2] at hall ⊢
  clear hr hr2
  generalize lineOf s.data.toList = a at *
  have e1 : bA a = s.extract 0 a.length := by
   apply bA_ext.2
   rw [bA_list, ByteArray.data_extract, Array.toList_extract, ← hall]
   simp
  have hle : a.length + 1 + r.length = s.size := by
   have := congrArg List.length hall
   simp at this
   omega
  have e2 : bA (10 :: r).tail = s.extract (a.length + 1) s.size := by
   apply bA_ext.2
   rw [bA_list, ByteArray.data_extract, Array.toList_extract, ← hall, ← hle]
   show r = List.take (a.length + 1 + r.length - (a.length + 1)) (List.drop (a.length + 1) (a ++ 10 :: r))
   have hd : (a ++ 10 :: r).drop (a.length + 1) = r := by
    rw [show a ++ 10 :: r = (a ++ [10]) ++ r by simp, show a.length + 1 = (a ++ [10]).length by simp, List.drop_left]
   rw [hd, Nat.add_sub_cancel_left]
   simp
  rw [e1, e2]
  generalize a.length = i at *
  clear e1 e2 hall
  go_enter Tryz.func114, Tryz.ntmps114
  go_wp2_with (go_at_call 157; refine hI.mono ?_; rintro e w' ⟨rfl, rfl⟩)
  go_region
  go_wp2
  go_ret3
  exact ⟨rfl, (Below.refl _ _).drew⟩
theorem cut_walk (s : ByteArray) (w : World) (hs : s.size ≤ 200000000) :
  Calls Tryz.prog 74 #[.string s, .string ⟨#[10]⟩] w fun e w' => e = .returned (.tuple #[.string (bA (lineOf s.data.toList)), .string (bA (restOf s.data.toList).tail), .bool (!(restOf s.data.toList).isEmpty)]) ∧ Below w.heap.size w w' := by
 have hC := scut_walk s w hs
 go_enter Tryz.func74, Tryz.ntmps74
 go_wp2_with (go_at_call 114; refine hC.mono ?_)
 rintro e w' ⟨rfl, hb⟩
 go_wp2
 go_ret3
 exact ⟨rfl, hb⟩

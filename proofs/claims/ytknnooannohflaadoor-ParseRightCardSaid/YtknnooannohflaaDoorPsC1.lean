/- The contracts of functions of the library, off the shelf, at this seat's numbers. -/
import Derived.Shelf.LaysM
import Derived.Shelf.LaysC
import Derived.Shelf.Strings.Search2
import Derived.Test.YtknnooannohflaaDoorProg
import Derived.Test.YtknnooannohflaaDoorPaA1
namespace Go.Proofs
open Go.Shelf
def Tryd.lays219_ren : Go.Shelf.Ren := ⟨fun | 219 => 126 | 217 => 164 | 225 => 165 | 224 => 166 | 267 => 167 | 266 => 190 | 314 => 191 | n => n, fun | 9 => 9 | 3 => 3 | 4 => 4 | 5 => 5 | 46 => 173 | 146 => 250 | 51 => 249 | n => n, fun | 1 => 1 | n => n⟩
theorem Tryd.lays219 : Go.Proofs.Lays.n219 Tryd.prog Tryd.lays219_ren := {
 mixed := by kernel_rfl
 f217 := Tryd.func164.trans (congrArg some (by kernel_rfl))
 f219 := Tryd.func126.trans (congrArg some (by kernel_rfl))
 f224 := Tryd.func166.trans (congrArg some (by kernel_rfl))
 f225 := Tryd.func165.trans (congrArg some (by kernel_rfl))
 f266 := Tryd.func190.trans (congrArg some (by kernel_rfl))
 f267 := Tryd.func167.trans (congrArg some (by kernel_rfl))
 f314 := Tryd.func191.trans (congrArg some (by kernel_rfl))
 t3 := Tryd.underlying3
 a3 := Tryd.isAgg3
 z3 := Tryd.sizeOf3
 v3 := Tryd.zeroValue3
 t4 := Tryd.underlying4
 a4 := Tryd.isAgg4
 z4 := Tryd.sizeOf4
 v4 := Tryd.zeroValue4
 t5 := Tryd.underlying5
 a5 := Tryd.isAgg5
 z5 := Tryd.sizeOf5
 v5 := Tryd.zeroValue5
 t9 := Tryd.underlying9
 a9 := Tryd.isAgg9
 z9 := Tryd.sizeOf9
 v9 := Tryd.zeroValue9
 t46 := Tryd.underlying173
 a46 := Tryd.isAgg173
 z46 := Tryd.sizeOf173
 v46 := Tryd.zeroValue173
 t51 := Tryd.underlying249
 a51 := Tryd.isAgg249
 z51 := Tryd.sizeOf249
 v51 := Tryd.zeroValue249
 t146 := Tryd.underlying250
 a146 := Tryd.isAgg250
 z146 := Tryd.sizeOf250
 v146 := Tryd.zeroValue250
 g1 := by kernel_rfl }
open Go.RowKit Go.Lib in
theorem Tryd.stringslite_Index_one (s : ByteArray) (c : UInt8) (w : World) :
  Calls Tryd.prog 126 #[.string s, .string ⟨#[c]⟩] w fun e w' => e = .returned (.int .i64 (Lib.indexByte s.data.toList c)) ∧ w' = w := Any.stringslite_Index_one Tryd.lays219 s c w
end Go.Proofs

namespace Go.Proofs.YtknnooannohflaaDoor.Prs
open Go Go.Proofs Go.RowKit Go.Px Trm Exp Met
set_option linter.unusedVariables false

theorem Zvb (t : Tx) : Lib.indexByte t 10 = if Zbu t = [] then -1 else ((Zak t).length : Int) := by
 induction t with
 | nil => rfl
 | cons c t ih =>
  unfold Lib.indexByte; by_cases hc : c = 10
  ·subst hc; simp [Zbu, Zak]
  ·have h1 : (c == 10) = false := (by simp [hc]); have h2 : Zbu (c :: t) = Zbu t := (by unfold Zbu; rw [List.dropWhile_cons]; simp [hc]); have h3 : Zak (c :: t) = c :: Zak t := (by unfold Zak; rw [List.takeWhile_cons]; simp [hc]); rw [h1, h2, h3, ih]
   by_cases hr : Zbu t = []
   ·simp [hr]
   ·simp only [if_neg hr, Bool.false_eq_true, if_false]; rw [if_neg (by simp)]; simp
theorem Ze6 (t : Tx) : Zak t ++ Zbu t = t := List.takeWhile_append_dropWhile
set_option maxHeartbeats 1000000 in
set_option maxRecDepth 100000 in
theorem Zsv (s : ByteArray) (w : World) (hs : s.size ≤ 200000000) :
  Calls Tryd.prog 73 #[.string s, .string ⟨#[10]⟩] w fun e w' => e = .returned (.tuple #[.string (bA (Zak s.data.toList)), .string (bA (Zbu s.data.toList).tail), .bool (!(Zbu s.data.toList).isEmpty)]) ∧ Below w.heap.size w w' := by
 have hI := Tryd.stringslite_Index_one s 10 w; rw [Zvb] at hI; have hall := Ze6 s.data.toList; have hlen : s.data.toList.length = s.size := Zdp s
 by_cases hr : Zbu s.data.toList = []
 ·rw [if_pos hr] at hI; rw [hr, List.append_nil] at hall; rw [hall, bA_of, hr]; clear hall hr
  go_enter Tryd.func73, Tryd.ntmps73
  go_wp2_with (go_at_call 126; refine hI.mono ?_; rintro e w' ⟨rfl, rfl⟩)
  go_ret3; exact ⟨rfl, Below.refl _ _⟩
 ·rw [if_neg hr] at hI
  obtain ⟨r, hr2⟩ : ∃ r, Zbu s.data.toList = 10 :: r := by
   cases h : Zbu s.data.toList with
   | nil => exact absurd h hr
   | cons c r => rw [(Zhq h).1]; exact ⟨r, rfl⟩
  rw [hr2] at hall ⊢; clear hr hr2; generalize Zak s.data.toList = a at *; have e1 : bA a = s.extract 0 a.length := by apply Zjr.2; rw [Zbh, ByteArray.data_extract, Array.toList_extract, ← hall]; simp
  have hle : a.length + 1 + r.length = s.size := (by have := congrArg List.length hall; simp at this; omega); have e2 : bA (10 :: r).tail = s.extract (a.length + 1) s.size := (by apply Zjr.2; rw [Zbh, ByteArray.data_extract, Array.toList_extract, ← hall, ← hle]; show r = List.take (a.length + 1 + r.length - (a.length + 1)) (List.drop (a.length + 1) (a ++ 10 :: r)); have hd : (a ++ 10 :: r).drop (a.length + 1) = r := (by rw [show a ++ 10 :: r = (a ++ [10]) ++ r by simp, show a.length + 1 = (a ++ [10]).length by simp, List.drop_left]); rw [hd, Nat.add_sub_cancel_left]; simp); rw [e1, e2]; generalize a.length = i at *; clear e1 e2 hall
  go_enter Tryd.func73, Tryd.ntmps73
  go_wp2_with (go_at_call 126; refine hI.mono ?_; rintro e w' ⟨rfl, rfl⟩)
  go_region; go_wp2; go_ret3; exact ⟨rfl, (Below.refl _ _).drew⟩
set_option maxHeartbeats 1000000 in
set_option maxRecDepth 100000 in
theorem Zvc (s : ByteArray) (w : World) (hs : s.size ≤ 200000000) :
  Calls Tryd.prog 29 #[.string s, .string ⟨#[10]⟩] w fun e w' => e = .returned (.tuple #[.string (bA (Zak s.data.toList)), .string (bA (Zbu s.data.toList).tail), .bool (!(Zbu s.data.toList).isEmpty)]) ∧ Below w.heap.size w w' := by
 have hC := Zsv s w hs
 go_enter Tryd.func29, Tryd.ntmps29
 go_wp2_with (go_at_call 73; refine hC.mono ?_)
 rintro e w' ⟨rfl, hb⟩; go_wp2; go_ret3; exact ⟨rfl, hb⟩
end Go.Proofs.YtknnooannohflaaDoor.Prs

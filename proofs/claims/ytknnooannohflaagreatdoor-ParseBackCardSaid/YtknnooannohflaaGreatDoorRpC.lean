/- strings.NewReplacer. -/
import Derived.Test.YtknnooannohflaaGreatDoorRpX
import Derived.Deep.AppendSrc
import Derived.WalkKit
namespace Go.Proofs.YtknnooannohflaaGreatDoor.Rp
open Go Go.Proofs

set_option maxRecDepth 100000 in
set_option maxHeartbeats 3200000 in
theorem newrep (ss : List ByteArray) (B : Nat) (w : World) (hb : ∀ j s, ss[j]? = some s → w.cell? ⟨B, j, none⟩ = some (.string s)) (hl : ss.length ≤ 6) (hev : ss.length % 2 = 0) (h0 : 0 < ss.length) :
  Calls Tryz.prog 38 #[.slice (some ⟨B, 0, none⟩) ss.length ss.length] w fun e w' => e = .returned (.pointer (some ⟨w.heap.size + 1, 0, none⟩)) ∧
   ∃ c, w' = (w.drew.alloc (.cells ((ss.map Value.string).toArray ++ Builtin.zeroCells #[.string ByteArray.empty] (c - ss.length)) 9)).alloc (.cells #[.int .u32 0, .int .i32 0, .int .u32 0, .nilIface, .slice (some ⟨w.heap.size, 0, none⟩) ss.length c] 136) := by
 have his : Tryz.t9.size = 1 := by kernel_rfl
 have hib : Tryz.t9.bytes = 16 := by kernel_rfl
 have hs : Src Tryz.prog Tryz.t9.size 84 (.slice (some ⟨B, 0, none⟩) ss.length ss.length) ss.length (ss.map Value.string) w := by
  refine Src.ofSlice w (e' := 9) (by kernel_rfl) ⟨B, 0, none⟩ ss.length ss.length (ss.map Value.string) (by simp [his]) ?_ ?_
  ·intro j u hu
   rw [List.getElem?_map] at hu
   cases h : ss[j]? with
   | none => rw [h] at hu; cases hu
   | some s => rw [h] at hu; cases hu; simpa [Addr.add_lit] using hb j s h
  ·intro u hu
   obtain ⟨s, _, rfl⟩ := List.mem_map.1 hu
   rfl
 have hfit : Builtin.nextslicecap (0 + ss.length) 0 * Tryz.t9.bytes ≤ 281474976710656 := by
  rw [hib]
  have : ss.length = 2 ∨ ss.length = 4 ∨ ss.length = 6 := by omega
  rcases this with h | h | h <;> rw [h] <;> decide
 have hld := hs.cellsD
 simp [Builtin.firstCells, his] at hld
 have hld2 : (loadCellsFrom ⟨B, 0, none⟩ 0 ss.length #[]).run Tryz.prog w.drew = .ok (ss.map Value.string).toArray w.drew := hld
 have hfit2 : ¬ 281474976710656 < Builtin.nextslicecap ss.length 0 * Tryz.t9.bytes := by rw [Nat.zero_add] at hfit; omega
 have hmod : ((ss.length : Int) % 2 == 1) = false := by have : (ss.length : Int) % 2 = 0 := by omega
                                                        rw [this]; rfl
 go_enter Tryz.func38, Tryz.ntmps38
 go_wp2
 go_ret
 refine ⟨rfl, (Question.appendCap ss.length 0 9).cut (w.tape w.drawn (Question.appendCap ss.length 0 9)), ?_⟩
 rfl

end Go.Proofs.YtknnooannohflaaGreatDoor.Rp

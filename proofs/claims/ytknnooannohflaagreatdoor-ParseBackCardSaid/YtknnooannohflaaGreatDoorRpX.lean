/- sync.Once's parts: the lock, the flag, entered as deferred calls. -/
import Derived.Tactics
import Derived.Tactics2
import Derived.Defers
import Derived.Laws.Pointers
import Derived.Laws.LoneSync
import Derived.Laws.NewBlocks
import Derived.RegionTactic
import Derived.RegionCalls
import Derived.ChangeAlike
import Derived.Test.YtknnooannohflaaGreatDoorProg
namespace Go.Proofs.YtknnooannohflaaGreatDoor.Rp
open Go Go.Proofs

theorem disable (w : World) : (callFunc 212 #[]).run Tryz.prog w = .ok (.value (.tuple #[])) w := run_call_mark0 Tryz.func212 (by kernel_rfl) (by kernel_rfl) (by kernel_rfl) .disable (by kernel_rfl) w
theorem enable (w : World) : (callFunc 214 #[]).run Tryz.prog w = .ok (.value (.tuple #[])) w := run_call_mark0 Tryz.func214 (by kernel_rfl) (by kernel_rfl) (by kernel_rfl) .enable (by kernel_rfl) w
theorem acquire (a : Addr) (w : World) : (callFunc 215 #[.pointer (some a)]).run Tryz.prog w = .ok (.value (.tuple #[])) w := run_call_marked Tryz.func215 (by kernel_rfl) (by kernel_rfl) (by kernel_rfl) .acquire (by kernel_rfl) a w
theorem releaseMerge (a : Addr) (w : World) : (callFunc 217 #[.pointer (some a)]).run Tryz.prog w = .ok (.value (.tuple #[])) w := run_call_marked Tryz.func217 (by kernel_rfl) (by kernel_rfl) (by kernel_rfl) .releaseMerge (by kernel_rfl) a w

set_option maxRecDepth 100000 in
set_option maxHeartbeats 1600000 in
theorem store_deferred (a : Addr) (x : Value) (u : FrameMode) (w : World) (hc : w.cell? a = some x) (hz : w.frozen? a = false) :
  CallsD Tryz.prog 169 #[.pointer (some a), .bool true] u w fun e u' w' => u' = u ∧ (e = .returned (.tuple #[]) ∧ w' = w.drew.setCell a (.int .u32 1)) := by
 have hc' : w.drew.cell? a = some x := by go_simp
 have hz' : w.drew.frozen? a = false := by go_simp
 have hst := run_call_store (P := Tryz.prog) Tryz.func200 (by kernel_rfl) (by kernel_rfl) (by kernel_rfl) (by kernel_rfl) (k := .u32) (y := 1) hc' hz'
 go_enter_d Tryz.func169, Tryz.ntmps169
 go_wp2
 go_region_calls
 all_goals (go_end0; exact ⟨rfl, rfl⟩)

set_option maxRecDepth 100000 in
set_option maxHeartbeats 1600000 in
theorem unlock_deferred (a : Addr) (u : FrameMode) (w : World) (hc : w.cell? a = some (.int .i32 1)) (hz : w.frozen? a = false) :
  CallsD Tryz.prog 168 #[.pointer (some a)] u w fun e u' w' => u' = u ∧ (e = .returned (.tuple #[]) ∧ w' = w.setCell a (.int .i32 0)) := by
 have hd := disable
 have he := enable
 have hr := releaseMerge
 have hadd := run_call_add (P := Tryz.prog) Tryz.func218 (by kernel_rfl) (by kernel_rfl) (by kernel_rfl) .i32 (by kernel_rfl) (y := -1) (s := 0) hc hz (by simp [go_sem]; rfl)
 have hcv := run_convert_to_unsafe (P := Tryz.prog) (src := 283) (dst := 181) Tryz.underlying283 Tryz.underlying181 (by kernel_rfl) hc
 go_enter_d Tryz.func168, Tryz.ntmps168
 go_wp2
 go_end0
 go_wp2
 go_end0
 exact ⟨rfl, rfl⟩

set_option maxRecDepth 100000 in
set_option maxHeartbeats 1600000 in
theorem lock_free (a : Addr) (w : World) (hc : w.cell? a = some (.int .i32 0)) (hz : w.frozen? a = false) :
  Calls Tryz.prog 167 #[.pointer (some a)] w fun e w' => e = .returned (.tuple #[]) ∧ w' = w.setCell a (.int .i32 1) := by
 have hd := disable
 have he := enable
 have ha := acquire
 have hcas := run_call_cas_hit (P := Tryz.prog) Tryz.func213 (by kernel_rfl) (by kernel_rfl) (by kernel_rfl) .i32 (by kernel_rfl) (y := 1) hc hz
 have hc' : (w.setCell a (.int .i32 1)).cell? a = some (.int .i32 1) := World.cell?_setCell_same w a _ hc
 have hcv := run_convert_to_unsafe (P := Tryz.prog) (src := 283) (dst := 181) Tryz.underlying283 Tryz.underlying181 (by kernel_rfl) hc'
 go_enter Tryz.func167, Tryz.ntmps167
 go_wp2
 first | go_end0 | (simp only [Exit.inBlock, Exit.then]; refine bodyPost_ret (results_none rfl _ _ _) rfl ?_) | refine bodyPost_ret (results_none rfl _ _ _) rfl ?_
 go_wp2
 go_end0
 exact ⟨rfl, rfl⟩
end Go.Proofs.YtknnooannohflaaGreatDoor.Rp

namespace Go.Proofs.YtknnooannohflaaGreatDoor.Rp
open Go Go.Proofs
set_option linter.unusedVariables false

set_option maxRecDepth 100000 in
set_option maxHeartbeats 3200000 in
theorem slow_gen (R : Nat) (S : World → Prop) (w : World)
  (h0 : w.cell? ⟨R, 0, none⟩ = some (.int .u32 0)) (h1 : w.cell? ⟨R, 1, none⟩ = some (.int .i32 0)) (f0 : w.frozen? ⟨R, 0, none⟩ = false) (f1 : w.frozen? ⟨R, 1, none⟩ = false)
  (hf : Calls Tryz.prog 79 #[.pointer (some ⟨R, 0, none⟩)] (w.setCell ⟨R, 1, none⟩ (.int .i32 1)) fun e w2 => e = .returned (.tuple #[]) ∧ S w2)
  (hS : ∀ w2, S w2 → w2.cell? ⟨R, 0, none⟩ = some (.int .u32 0) ∧ w2.cell? ⟨R, 1, none⟩ = some (.int .i32 1) ∧ w2.frozen? ⟨R, 0, none⟩ = false ∧ w2.frozen? ⟨R, 1, none⟩ = false) :
  Calls Tryz.prog 123 #[.pointer (some ⟨R, 0, none⟩), .func (.func 79) #[.pointer (some ⟨R, 0, none⟩)] #[]] w fun e w' => e = .returned (.tuple #[]) ∧
   ∃ w2, S w2 ∧ w' = (w2.drew.setCell ⟨R, 0, none⟩ (.int .u32 1)).setCell ⟨R, 1, none⟩ (.int .i32 0) := by
 have hl := run_call_load (P := Tryz.prog) Tryz.func166 (by kernel_rfl) (by kernel_rfl) (by kernel_rfl) .u32 (by kernel_rfl) (w := w.setCell ⟨R, 1, none⟩ (.int .i32 1)) (a := ⟨R, 0, none⟩) (x := 0) ((World.cell?_setCell_other _ ⟨R, 1, none⟩ ⟨R, 0, none⟩ _ (by simp)).trans h0)
 have hnot : ∀ (x : Bool) (w : World), (Op.unary .not (.bool x)).run Tryz.prog w = .ok (.bool (!x)) w := fun _ _ => rfl
 go_enter_defers Tryz.func123, Tryz.ntmps123
 go_wp2_with (first | (go_at_call 167; refine (lock_free ⟨R, 1, none⟩ _ (by go_simp) (by go_simp)).mono ?_; rintro e w' ⟨rfl, rfl⟩) | (go_at_call 122; go_in) | (go_at_call 79; refine hf.mono ?_; rintro e w2 ⟨rfl, hs⟩))
 obtain ⟨c0, c1, z0, z1⟩ := hS _ hs
 refine leaves_cons (f := 169) (args := #[.pointer (some ⟨R, 0, none⟩), .bool true]) (by simp) (by simp [go_sem]) ?_
 refine (store_deferred ⟨R, 0, none⟩ (.int .u32 0) .returning _ c0 z0).mono ?_
 rintro e u' w'' ⟨rfl, rfl, rfl⟩
 refine leaves_cons (f := 168) (args := #[.pointer (some ⟨R, 1, none⟩)]) (by simp [settle]) (by simp [go_sem]) ?_
 refine (unlock_deferred ⟨R, 1, none⟩ _ _ ?_ (by simp [z1])).mono ?_
 ·refine (World.cell?_setCell_other _ ⟨R, 0, none⟩ ⟨R, 1, none⟩ _ (by simp)).trans ?_
  rw [World.cell?_drew]; exact c1
 rintro e u' w'' ⟨rfl, rfl, rfl⟩
 simp [Leaves, settle, results, Tryz.results123]
 exact ⟨_, hs, rfl⟩

set_option maxRecDepth 100000 in
set_option maxHeartbeats 3200000 in
theorem do_gen (R : Nat) (S : World → Prop) (w : World)
  (h0 : w.cell? ⟨R, 0, none⟩ = some (.int .u32 0)) (h1 : w.cell? ⟨R, 1, none⟩ = some (.int .i32 0)) (f0 : w.frozen? ⟨R, 0, none⟩ = false) (f1 : w.frozen? ⟨R, 1, none⟩ = false)
  (hf : Calls Tryz.prog 79 #[.pointer (some ⟨R, 0, none⟩)] (w.setCell ⟨R, 1, none⟩ (.int .i32 1)) fun e w2 => e = .returned (.tuple #[]) ∧ S w2)
  (hS : ∀ w2, S w2 → w2.cell? ⟨R, 0, none⟩ = some (.int .u32 0) ∧ w2.cell? ⟨R, 1, none⟩ = some (.int .i32 1) ∧ w2.frozen? ⟨R, 0, none⟩ = false ∧ w2.frozen? ⟨R, 1, none⟩ = false) :
  Calls Tryz.prog 78 #[.pointer (some ⟨R, 0, none⟩), .func (.func 79) #[.pointer (some ⟨R, 0, none⟩)] #[]] w fun e w' => e = .returned (.tuple #[]) ∧
   ∃ w2, S w2 ∧ w' = (w2.drew.setCell ⟨R, 0, none⟩ (.int .u32 1)).setCell ⟨R, 1, none⟩ (.int .i32 0) := by
 have hl := run_call_load (P := Tryz.prog) Tryz.func166 (by kernel_rfl) (by kernel_rfl) (by kernel_rfl) .u32 (by kernel_rfl) h0
 have hnot : ∀ (x : Bool) (w : World), (Op.unary .not (.bool x)).run Tryz.prog w = .ok (.bool (!x)) w := fun _ _ => rfl
 go_enter Tryz.func78, Tryz.ntmps78
 go_wp2_with (first | (go_at_call 123; refine (slow_gen R S _ h0 h1 f0 f1 hf hS).mono ?_; rintro e w' ⟨rfl, w2, hs, rfl⟩) | (go_at_call 122; go_in))
 go_end0
 exact ⟨rfl, _, hs, rfl⟩

end Go.Proofs.YtknnooannohflaaGreatDoor.Rp

/- strings.Count at one byte. -/
import Derived.Test.YtknnooannohflaaGreatDoorRpE1
import Derived.Lib.CountLaws
import Derived.Lib.Bytealg
import Derived.BigCall
import Derived.BigGuard
namespace Go.Proofs.YtknnooannohflaaGreatDoor.Rp
open Go Go.Proofs Go.RowKit

set_option maxHeartbeats 1000000 in
set_option maxRecDepth 100000 in
theorem count_one (s : ByteArray) (c : UInt8) (w : World) :
  Calls Tryz.prog 266 #[.string s, .string ⟨#[c]⟩] w fun e w' => e = .returned (.int .i64 (Lib.countByte s.data.toList c)) ∧ w' = w := by
 go_enter Tryz.func266, Tryz.ntmps266
 go_wp2
 rw [run_callFunc_extern Tryz.func268 (by kernel_rfl) (by kernel_rfl) (by kernel_rfl) (e := Extern.BytealgCount.count) (by kernel_rfl), Lib.run_countString]
 simp only [Result.andThen]
 rw [Oper.upon_value]
 go_wp2
 go_ret
 exact ⟨rfl, rfl⟩
end Go.Proofs.YtknnooannohflaaGreatDoor.Rp

/- Texts as lists of bytes; numerals. -/
import Derived.Test.YtknnooannohflaaGreatDoorPxK
import Derived.Lib.Join
import Derived.Lib.ItoaMem
import Derived.Lib.ItoaLen
import Derived.Lib.ParseIntB
namespace Go.Proofs.YtknnooannohflaaGreatDoor.Trm
open Go Go.Px Go.Proofs
set_option maxRecDepth 100000
set_option linter.unusedVariables false

abbrev Tx := List UInt8
abbrev bA (l : Tx) : ByteArray := ⟨l.toArray⟩

theorem bA_of (s : ByteArray) : bA s.data.toList = s := by
  cases s; simp [bA]
theorem bA_ext {a b : ByteArray} : a = b ↔ a.data.toList = b.data.toList :=
  ⟨fun h => h ▸ rfl, fun h => by rw [← bA_of a, ← bA_of b, h]⟩

/- Numbers. -/
theorem digN (u : Nat) (h : u < 208) : (UInt8.ofNat (48 + u)).toNat = 48 + u := by
  rw [UInt8.toNat_ofNat']; omega
def vDec (l : Tx) : Nat := l.foldl (fun n c => 10 * n + (c.toNat - 48)) 0
end Go.Proofs.YtknnooannohflaaGreatDoor.Trm

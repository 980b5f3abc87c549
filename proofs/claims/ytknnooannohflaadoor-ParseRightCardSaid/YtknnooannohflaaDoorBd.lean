/- A builder that holds a text. -/
import Derived.Test.YtknnooannohflaaDoorTrS
import Derived.Test.YtknnooannohflaaDoorSht
import Derived.WalkKit
import Derived.BigCall
import Derived.BigGuard
namespace Go.Proofs.YtknnooannohflaaDoor.Exp
open Go Go.Px Go.Proofs Go.RowKit Trm
set_option linter.unusedVariables false

theorem Zm1 (a : Tx) (c : UInt8) (n : Int) (h : n = (c.toNat : Int)) : Lib.byteCells a ++ [Value.int .u8 n] = Lib.byteCells (a ++ [c]) := by
 subst h; rw [Lib.byteCells_append]; rfl
abbrev Bld (B b : Nat) (a : Tx) (w : World) : Prop := Lib.IsBuilderF 157 5 B b (Lib.byteCells a) w
theorem Zx3 (w : World) : Bld w.heap.size w.heap.size [] (w.alloc (.cells #[.pointer none, .slice none 0 0] 157)) := Lib.IsBuilderF.of (Lib.fresh_isBuilder 157 5 w)
theorem wbyte (B b : Nat) (a : Tx) (c : UInt8) (n : Int) (hn : n = (c.toNat : Int)) (w : World) (h : Bld B b a w) (hl : a.length + 1 ≤ 140737488355328) (hB : B ≤ w.heap.size) :
  Calls Tryd.prog 141 #[.pointer (some ⟨b, 0, none⟩), .int .u8 n] w fun e w' => e = .returned .nilIface ∧ Bld B b (a ++ [c]) w' ∧ Below B w w' ∧ Lib.OthersKept 5 (some b) w w' := by
 refine (Tryd.Builder_WriteByte_k B b _ n w h (by rw [Lib.byteCells_length]; exact hl) hB).mono ?_; rintro e w' ⟨rfl, h1, h2⟩; rw [Zm1 a c n hn] at h1; exact ⟨rfl, Or.inr h1, h2⟩
theorem Zqu (B b : Nat) (a : Tx) (w : World) (h : Bld B b a w) (hB : B ≤ w.heap.size) : Calls Tryd.prog 93 #[.pointer (some ⟨b, 0, none⟩)] w fun e w' => e = .returned (.string (bA a)) ∧ Below B w w' := by
 refine (Tryd.Builder_String_any_k B b a w h hB).mono ?_; rintro e w' ⟨rfl, _, h2, _⟩; exact ⟨rfl, h2⟩
theorem Zab {w : World} {k : Nat} {c : Array Value} {t : TypeId} {fz : Nat × Nat} (h : w.heap[k]? = some (.cells c t fz)) (i : Nat) : w.cell? ⟨k, i, none⟩ = c[i]? := by
 simp [World.cell?, h]

end Go.Proofs.YtknnooannohflaaDoor.Exp

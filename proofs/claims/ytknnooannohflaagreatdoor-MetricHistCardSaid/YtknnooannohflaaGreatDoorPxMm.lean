/- The row's reading of the arguments, with the sizes that a machine has room for. -/
import Derived.Test.YtknnooannohflaaGreatDoorPxJ
import Derived.Handed
namespace Go.Px
open Go.RowKit Go.ChangeShapes Go.WideShapes Go.ChangeAt
set_option linter.unusedVariables false

def bndL (P : Program) (e : TypeId) : Nat := bif Nat.beq (P.bytesOf e) 0 then maxLen else reachBytes

def TypW (P : Program) : Nat → TypeId → List SV → Prop
 | 0, _, _ => True
 | n + 1, t, ss => match P.underlying t with
  | some .bool => ∃ b, ss = [.val (.bool b)]
  | some (.int k) => ∃ x : Int, ss = [.val (.int k x)] ∧ (Lit.int k x).wf = true
  | some .string => ∃ s : ByteArray, ss = [.val (.string s)] ∧ s.size ≤ reachBytes
  | some (.slice e) => ∃ rows, ss = [.slice (P.cellsOf e) rows 0] ∧ rows.length ≤ bndL P e ∧ ∀ r ∈ rows, TypW P n e r
  | some (.struct fs) => splits (fun f s => TypW P n f s) (fs.toList.map (·.type)) ss
  | some (.array m e) => splits (fun f s => TypW P n f s) (List.replicate m e) ss
  | _ => True

section
variable {H : Type} {enc : TypeId × Value → H} {P : Program} {w : World} {spare : Nat → Bool} {held : Bool}

def TypVW (P : Program) (n : Nat) (t : TypeId) (s : SV) : Prop := ∃ ss, TypW P n t ss ∧ (isAggT P t = true → s = .agg ss) ∧ (isAggT P t = false → ss = [s])

def TypAllW (P : Program) (n : Nat) : List TypeId → List SV → Prop
 | [], ss => ss = []
 | t :: ts, ss => ∃ s rest, ss = s :: rest ∧ TypVW P n t s ∧ TypAllW P n ts rest

end

end Go.Px

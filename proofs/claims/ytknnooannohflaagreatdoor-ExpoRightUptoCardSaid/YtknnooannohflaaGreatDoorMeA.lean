/- Float numbers that are whole: sums of them are exact as long as they stay below 2 ^ 53. -/
import Derived.Test.YtknnooannohflaaGreatDoorPxK
import Derived.Conc.DeferLaws
import Derived.Test.YtknnooannohflaaGreatDoorCmA
import Derived.Test.YtknnooannohflaaGreatDoorMetN
import Derived.Test.YtknnooannohflaaGreatDoorStA
import Derived.Test.YtknnooannohflaaGreatDoorDkA
namespace Go.Px
open Go Ieee
set_option maxRecDepth 100000
set_option linter.unusedVariables false

/-- The word of a whole number. -/
def wW (n : Nat) : Nat := double.nearest false n 0

theorem lp : double.leastPlace = -1074 := by decide
theorem bnd : double.binade = 4503599627370496 := by decide
/-- The last digit's place. -/
def lastP (mag : Nat) (place : Int) : Int := max (place + mag.log2 - double.fractionBits) double.leastPlace
end Go.Px

namespace Go.Proofs.YtknnooannohflaaGreatDoor.Met
open Go Go.Px Go.Proofs Go.Proofs.YtknnooannohflaaGreatDoor.Cmp
set_option maxRecDepth 100000
set_option linter.unusedVariables false

abbrev nR2 (l : List (Nat × Nat)) : List (List SV) := l.map fun c => [.val (.complex .f64 (wW c.1) (wW c.2))]
def s1 (l : List (Nat × Nat)) : Nat := (l.map (·.1)).sum
def s2 (l : List (Nat × Nat)) : Nat := (l.map (·.2)).sum
/-- The numbers of cells, as they are where they are right. -/
abbrev nC (l : List (Int × Int)) : List (Nat × Nat) := l.map fun c => (c.1.toNat, c.2.toNat)
/-- Thousandths that went wrong. -/
def partI (wd sl : Int) (l : List (Int × Int)) : Int :=
  if winP wd sl l then (if s1 (nC l) + s2 (nC l) = 0 then 0 else wquo .i64 (wmul .i64 1000 (s2 (nC l))) (s1 (nC l) + s2 (nC l) : Nat)) else 0

end Go.Proofs.YtknnooannohflaaGreatDoor.Met

namespace Go.Proofs.YtknnooannohflaaGreatDoor.Met
open Go Go.Px Go.Proofs Go.Proofs.YtknnooannohflaaGreatDoor.Cmp Go.Proofs.YtknnooannohflaaGreatDoor.St
set_option maxRecDepth 100000
set_option linter.unusedVariables false

abbrev LaD := ByteArray × ByteArray
structure SmD where
  nm : ByteArray
  ls : List LaD
  v : Int
structure FaD where
  nm : ByteArray
  hp : ByteArray
  ty : Int
  ss : List SmD
abbrev laR (l : List LaD) : List (List SV) := l.map fun p => [S p.1, S p.2]
abbrev SmD.row (x : SmD) : List SV := [S x.nm, SL 2 (laR x.ls), I x.v]
abbrev smR (l : List SmD) : List (List SV) := l.map SmD.row
abbrev FaD.row (f : FaD) : List SV := [S f.nm, S f.hp, I f.ty, SL 3 (smR f.ss)]
abbrev faR (l : List FaD) : List (List SV) := l.map FaD.row

/-- The name of the label that tells the component. -/
abbrev comN : ByteArray := ByteArray.mk (Array.mk [99, 111, 109, 112, 111, 110, 101, 110, 116])
def labs (c : CoD) (more : List LaD) : List LaD := (comN, c.nm) :: more

/-- The components of some roles. -/
def ofC (c : CoD) (roles : List Int) : List CoD := roles.flatMap fun r => if c.ro = r then [c] else []
def ofR (cs : List CoD) (roles : List Int) : List CoD := cs.flatMap fun c => ofC c roles

abbrev rolR (l : List Int) : List (List SV) := l.map fun r => [I r]

/-- A family of one sample of each component of some roles. -/
def gaugeF (n hp : ByteArray) (cs : List CoD) (roles : List Int) (f : CoD → Int) : FaD := ⟨n, hp, 2, (ofR cs roles).map fun c => ⟨n, labs c [], f c⟩⟩

theorem map_take {α β : Type} (l : List α) (f : α → β) {i : Nat} (h : i < l.length) : (l.take (i + 1)).map f = (l.take i).map f ++ [f l[i]] := by
  rw [List.take_add_one, List.getElem?_eq_getElem h, List.map_append]; rfl

/-- A family of the three counts of each component of a role. -/
def cnt3 (n lb v0 v1 v2 : ByteArray) (c : CoD) : List SmD := [⟨n, labs c [(lb, v0)], c.c0⟩, ⟨n, labs c [(lb, v1)], c.c1⟩, ⟨n, labs c [(lb, v2)], c.c2⟩]
def counterF (n hp : ByteArray) (cs : List CoD) (role : Int) (lb v0 v1 v2 : ByteArray) : FaD := ⟨n, hp, 1, (ofR cs [role]).flatMap (cnt3 n lb v0 v1 v2)⟩

end Go.Proofs.YtknnooannohflaaGreatDoor.Met

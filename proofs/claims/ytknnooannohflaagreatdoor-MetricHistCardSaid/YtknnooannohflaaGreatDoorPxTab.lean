/- Package-level variables that stand as the program's text lays them: their blocks' numbers and what their cells hold. -/
import Derived.Test.YtknnooannohflaaGreatDoorPxA0
namespace Go.Px
open Go

def bnds : List SV := [.val (.string ⟨#[49]⟩), .val (.string ⟨#[50]⟩), .val (.string ⟨#[52]⟩), .val (.string ⟨#[56]⟩), .val (.string ⟨#[49, 54]⟩), .val (.string ⟨#[51, 50]⟩), .val (.string ⟨#[54, 52]⟩), .val (.string ⟨#[49, 50, 56]⟩), .val (.string ⟨#[43, 73, 110, 102]⟩)]

def globTab : List (Nat × List SV) := [(0, bnds)]

end Go.Px

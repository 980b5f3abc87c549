/- Package-level variables that stand as the program's text lays them: their blocks' numbers and what their cells hold. -/
import Derived.Test.YtknnooannohflaaGreatDoorPxA0
namespace Go.Px
open Go

/-- The bounds of a histogram's buckets, as texts. -/
def bnds : List SV := [.val (.string ⟨#[49]⟩), .val (.string ⟨#[50]⟩), .val (.string ⟨#[52]⟩), .val (.string ⟨#[56]⟩), .val (.string ⟨#[49, 54]⟩), .val (.string ⟨#[51, 50]⟩), .val (.string ⟨#[54, 52]⟩), .val (.string ⟨#[49, 50, 56]⟩), .val (.string ⟨#[43, 73, 110, 102]⟩)]

def pow10 : List SV := [.val (.int .u64 1), .val (.int .u64 10), .val (.int .u64 100), .val (.int .u64 1000), .val (.int .u64 10000), .val (.int .u64 100000), .val (.int .u64 1000000), .val (.int .u64 10000000), .val (.int .u64 100000000), .val (.int .u64 1000000000), .val (.int .u64 10000000000), .val (.int .u64 100000000000), .val (.int .u64 1000000000000), .val (.int .u64 10000000000000), .val (.int .u64 100000000000000), .val (.int .u64 1000000000000000), .val (.int .u64 10000000000000000), .val (.int .u64 100000000000000000), .val (.int .u64 1000000000000000000), .val (.int .u64 10000000000000000000)]

/-- The seat's listed variables. -/
def globTab : List (Nat × List SV) := [(0, bnds), (1, pow10)]

end Go.Px

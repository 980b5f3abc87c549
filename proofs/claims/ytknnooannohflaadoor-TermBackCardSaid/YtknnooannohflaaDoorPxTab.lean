/- Package-level variables that stand as the program's text lays them: their blocks' numbers and what their cells hold. -/
import Derived.Test.YtknnooannohflaaDoorPxA
namespace Go.Px
open Go

def pow10 : List SV := [.val (.int .u64 1), .val (.int .u64 10), .val (.int .u64 100), .val (.int .u64 1000), .val (.int .u64 10000), .val (.int .u64 100000), .val (.int .u64 1000000), .val (.int .u64 10000000), .val (.int .u64 100000000), .val (.int .u64 1000000000), .val (.int .u64 10000000000), .val (.int .u64 100000000000), .val (.int .u64 1000000000000), .val (.int .u64 10000000000000), .val (.int .u64 100000000000000), .val (.int .u64 1000000000000000), .val (.int .u64 10000000000000000), .val (.int .u64 100000000000000000), .val (.int .u64 1000000000000000000), .val (.int .u64 10000000000000000000)]

/-- The seat's listed variables. -/
def globTab : List (Nat × List SV) := [(3, pow10), (4, [.ifc 276 .unk]), (5, [.ifc 276 .unk])]

end Go.Px

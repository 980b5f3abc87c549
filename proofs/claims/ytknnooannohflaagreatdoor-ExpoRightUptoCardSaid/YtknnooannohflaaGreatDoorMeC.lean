/- Printed conditions of functions. -/
import Derived.Test.YtknnooannohflaaGreatDoorMetN
import Derived.Test.YtknnooannohflaaGreatDoorMeA
import Derived.Test.YtknnooannohflaaGreatDoorCmA
namespace Go.Proofs.YtknnooannohflaaGreatDoor.Met
open Go Go.Px Go.Proofs 
set_option maxRecDepth 100000
set_option linter.unusedVariables false


end Go.Proofs.YtknnooannohflaaGreatDoor.Met

namespace Go.Proofs.YtknnooannohflaaGreatDoor.Met
open Go Go.Px Go.Proofs Go.Proofs.YtknnooannohflaaGreatDoor.Cmp Go.Proofs.YtknnooannohflaaGreatDoor.St
set_option maxRecDepth 100000
set_option linter.unusedVariables false

abbrev pre1 (h0 : Int) : Int := 0 + h0
abbrev pre2 (h0 h1 : Int) : Int := 0 + h0 + h1
abbrev pre3 (h0 h1 h2 : Int) : Int := 0 + h0 + h1 + h2
abbrev pre4 (h0 h1 h2 h3 : Int) : Int := 0 + h0 + h1 + h2 + h3
abbrev pre5 (h0 h1 h2 h3 h4 : Int) : Int := 0 + h0 + h1 + h2 + h3 + h4
abbrev pre6 (h0 h1 h2 h3 h4 h5 : Int) : Int := 0 + h0 + h1 + h2 + h3 + h4 + h5
abbrev pre7 (h0 h1 h2 h3 h4 h5 h6 : Int) : Int := 0 + h0 + h1 + h2 + h3 + h4 + h5 + h6
abbrev pre8 (h0 h1 h2 h3 h4 h5 h6 h7 : Int) : Int := 0 + h0 + h1 + h2 + h3 + h4 + h5 + h6 + h7
abbrev pre9 (h0 h1 h2 h3 h4 h5 h6 h7 h8 : Int) : Int := 0 + h0 + h1 + h2 + h3 + h4 + h5 + h6 + h7 + h8
def preI (h0 h1 h2 h3 h4 h5 h6 h7 h8 k : Int) : Int := if k = 0 then 0 else if k = 1 then (pre1 h0) else if k = 2 then (pre2 h0 h1) else if k = 3 then (pre3 h0 h1 h2) else if k = 4 then (pre4 h0 h1 h2 h3) else if k = 5 then (pre5 h0 h1 h2 h3 h4) else if k = 6 then (pre6 h0 h1 h2 h3 h4 h5) else if k = 7 then (pre7 h0 h1 h2 h3 h4 h5 h6) else if k = 8 then (pre8 h0 h1 h2 h3 h4 h5 h6 h7) else (pre9 h0 h1 h2 h3 h4 h5 h6 h7 h8)
abbrev leN : ByteArray := ByteArray.mk (Array.mk [108, 101])
abbrev bo0 : ByteArray := ByteArray.mk (Array.mk [49])
abbrev bo1 : ByteArray := ByteArray.mk (Array.mk [50])
abbrev bo2 : ByteArray := ByteArray.mk (Array.mk [52])
abbrev bo3 : ByteArray := ByteArray.mk (Array.mk [56])
abbrev bo4 : ByteArray := ByteArray.mk (Array.mk [49, 54])
abbrev bo5 : ByteArray := ByteArray.mk (Array.mk [51, 50])
abbrev bo6 : ByteArray := ByteArray.mk (Array.mk [54, 52])
abbrev bo7 : ByteArray := ByteArray.mk (Array.mk [49, 50, 56])
abbrev bo8 : ByteArray := ByteArray.mk (Array.mk [43, 73, 110, 102])
abbrev bucN : ByteArray := ByteArray.mk (Array.mk [95, 98, 117, 99, 107, 101, 116])
abbrev sumN : ByteArray := ByteArray.mk (Array.mk [95, 115, 117, 109])
abbrev couN : ByteArray := ByteArray.mk (Array.mk [95, 99, 111, 117, 110, 116])
/-- The buckets of a component, its sum and count. -/
def bkt9 (n : ByteArray) (c : CoD) : List SmD := [⟨n ++ bucN, labs c [(leN, bo0)], (pre1 c.h0)⟩, ⟨n ++ bucN, labs c [(leN, bo1)], (pre2 c.h0 c.h1)⟩, ⟨n ++ bucN, labs c [(leN, bo2)], (pre3 c.h0 c.h1 c.h2)⟩, ⟨n ++ bucN, labs c [(leN, bo3)], (pre4 c.h0 c.h1 c.h2 c.h3)⟩, ⟨n ++ bucN, labs c [(leN, bo4)], (pre5 c.h0 c.h1 c.h2 c.h3 c.h4)⟩, ⟨n ++ bucN, labs c [(leN, bo5)], (pre6 c.h0 c.h1 c.h2 c.h3 c.h4 c.h5)⟩, ⟨n ++ bucN, labs c [(leN, bo6)], (pre7 c.h0 c.h1 c.h2 c.h3 c.h4 c.h5 c.h6)⟩, ⟨n ++ bucN, labs c [(leN, bo7)], (pre8 c.h0 c.h1 c.h2 c.h3 c.h4 c.h5 c.h6 c.h7)⟩, ⟨n ++ bucN, labs c [(leN, bo8)], (pre9 c.h0 c.h1 c.h2 c.h3 c.h4 c.h5 c.h6 c.h7 c.h8)⟩]
def tot2 (n : ByteArray) (c : CoD) : List SmD := [⟨n ++ sumN, labs c [], c.hs⟩, ⟨n ++ couN, labs c [], (pre9 c.h0 c.h1 c.h2 c.h3 c.h4 c.h5 c.h6 c.h7 c.h8)⟩]
def hst11 (n : ByteArray) (c : CoD) : List SmD := bkt9 n c ++ tot2 n c
def histF (n hp : ByteArray) (cs : List CoD) (roles : List Int) : FaD := ⟨n, hp, 3, (ofR cs roles).flatMap (hst11 n)⟩

end Go.Proofs.YtknnooannohflaaGreatDoor.Met

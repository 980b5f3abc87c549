/- Layer 26: what the document's families are made of. -/
import Derived.Test.YtknnooannohflaaGreatDoorMzD
import Derived.Test.YtknnooannohflaaGreatDoorMetR
namespace Go.Proofs.YtknnooannohflaaGreatDoor.Met
open Go Go.Px Go.Proofs Cmp Go.Proofs.YtknnooannohflaaGreatDoor.St
set_option maxRecDepth 100000
set_option linter.unusedVariables false

def psum (H : List Int) (k : Nat) : Int := (H.take k).sum
def fillX (H : List Int) (x y : Int) : List Int := (List.range 9).map fun (j : Nat) => if (j : Int) < x then psum H (j + 1) else if (j : Int) = x then psum H y.toNat else 0
theorem heldB {h : Int} (p : heldP h) : 0 ≤ h ∧ h ≤ 1099511627776 := by unfold heldP at p; omega

def fixC (c : SV) : SV := match c with | .slice 0 [] 0 => .slice 1 [] 0 | c => c
structure RwD where
 nm : ByteArray
 hp : ByteArray
 kd : Int
 rl : List Int
 lb : ByteArray
 vs : List ByteArray
abbrev txR (l : List ByteArray) : List (List SV) := l.map fun v => [S v]
abbrev RwD.row (r : RwD) : List SV := [S r.nm, S r.hp, I r.kd, SL 1 (rolR r.rl), S r.lb, SL 1 (txR r.vs)]
abbrev rwR (l : List RwD) : List (List SV) := l.map RwD.row
def rowsT : List RwD := [⟨fN0, fH0, 2, [2, 3], bA [], []⟩, ⟨fN1, fH1, 2, [2, 3], bA [], []⟩, ⟨fN2, fH2, 1, [1], fW2_0, [fW2_1, fW2_2, fW2_3]⟩, ⟨fN3, fH3, 2, [], bA [], []⟩,
 ⟨fN4, fH4, 3, [1, 3], bA [], []⟩, ⟨fN5, fH5, 1, [], bA [], []⟩, ⟨fN6, fH6, 2, [], bA [], []⟩, ⟨fN7, fH7, 1, [2], fW7_0, [fW7_1, fW7_2, fW7_3]⟩,
 ⟨fN8, fH8, 2, [1, 3], bA [], []⟩, ⟨fN9, fH9, 1, [3], fW9_0, [fW9_1, fW9_2, fW9_3]⟩, ⟨fN10, fH10, 2, [1], bA [], []⟩]

def gaugeN (n : ByteArray) (c : CoD) : Int := if n = fN0 then c.rm else if n = fN1 then c.ha else if n = fN8 then c.mo else partI c.wd c.sl c.cl
def samD (r : RwD) (c : CoD) : List SmD :=
 if ¬ r.lb = bA [] then cnt3 r.nm r.lb (r.vs.getD 0 ByteArray.empty) (r.vs.getD 1 ByteArray.empty) (r.vs.getD 2 ByteArray.empty) c
 else if r.kd = 3 then hst11 r.nm c else [⟨r.nm, labs c [], gaugeN r.nm c⟩]


def singN (n : ByteArray) (d : StD) : Int := if n = fN6 then d.t else if n = fN3 then (d.cs.length : Nat) else d.q
def baseR (r : RwD) (d : StD) : List SmD := if r.rl = [] then [⟨r.nm, [], singN r.nm d⟩] else []
def gR1 (r : RwD) (c : CoD) (q : Int) : List SmD := if c.ro = q then samD r c else []
def gR (r : RwD) (c : CoD) : List SmD := r.rl.flatMap (gR1 r c)
def famR (d : StD) (r : RwD) : FaD := ⟨r.nm, r.hp, r.kd, baseR r d ++ d.cs.flatMap (gR r)⟩

def rowOK (r : RwD) : Prop := (¬ r.lb = bA [] → r.vs.length = 3) ∧ r.nm.size ≤ 1000 ∧ r.rl.length ≤ 2 ∧ (r.kd = 3 → ∀ q ∈ r.rl, q = 1 ∨ q = 3) ∧
 ((∀ q ∈ r.rl, q = 1) ∨ (r.nm = fN0 ∨ r.nm = fN1 ∨ r.nm = fN8) ∨ ¬ r.lb = bA [] ∨ r.kd = 3)
instance (r : RwD) : Decidable (rowOK r) := inferInstanceAs (Decidable (_ ∧ _ ∧ _ ∧ _ ∧ _))
end Go.Proofs.YtknnooannohflaaGreatDoor.Met

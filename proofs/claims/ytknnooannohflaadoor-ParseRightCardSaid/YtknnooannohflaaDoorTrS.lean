/- Filters and their words, apart from any program. -/
import Derived.Test.YtknnooannohflaaDoorPxIK
import Derived.Lib.Join
import Derived.Lib.ItoaMem
import Derived.Lib.ItoaLen
import Derived.Lib.ParseIntB
namespace Go.Proofs.YtknnooannohflaaDoor.Trm
open Go Go.Px Go.Proofs
set_option maxRecDepth 100000
set_option linter.unusedVariables false

abbrev Tx := List UInt8
abbrev bA (l : Tx) : ByteArray := ⟨l.toArray⟩

theorem Zbh (l : Tx) : (bA l).data.toList = l := by simp
theorem bA_of (s : ByteArray) : bA s.data.toList = s := by
 cases s; simp [bA]
theorem Zjr {a b : ByteArray} : a = b ↔ a.data.toList = b.data.toList :=
 ⟨fun h => h ▸ rfl, fun h => by rw [← bA_of a, ← bA_of b, h]⟩

inductive FlD where
 | mk (op a b : Int) (nm : ByteArray) (ks : List FlD)

def FlD.op : FlD → Int | .mk o _ _ _ _ => o
def FlD.a : FlD → Int | .mk _ a _ _ _ => a
def FlD.b : FlD → Int | .mk _ _ b _ _ => b
def FlD.nm : FlD → ByteArray | .mk _ _ _ n _ => n
def FlD.ks : FlD → List FlD | .mk _ _ _ _ ks => ks

mutual
def FlD.row : FlD → List SV
 | .mk op a b nm ks => [I op, I a, I b, S nm, SL 5 (rowsF ks)]
def rowsF : List FlD → List (List SV)
 | [] => []
 | k :: ks => k.row :: rowsF ks
end

abbrev zeroF : FlD := .mk 0 0 0 ⟨#[]⟩ []

mutual
theorem row_inj : ∀ f g : FlD, f.row = g.row → f = g
 | .mk o a b n ks, .mk o' a' b' n' ks', h => by simp only [FlD.row, List.cons.injEq, SV.val.injEq, Value.int.injEq, Value.string.injEq, SV.slice.injEq, true_and, and_true] at h; obtain ⟨rfl, rfl, rfl, rfl, h⟩ := h; rw [Znk ks ks' h]
theorem Znk : ∀ fs gs : List FlD, rowsF fs = rowsF gs → fs = gs
 | [], [], _ => rfl
 | [], _ :: _, h => by simp [rowsF] at h
 | _ :: _, [], h => by simp [rowsF] at h
 | f :: fs, g :: gs, h => by simp only [rowsF, List.cons.injEq] at h; rw [row_inj f g h.1, Znk fs gs h.2]
end

def OkOne (op a b : Int) (m n : Nat) : Prop :=
 (op = 1 ∧ a = 0 ∧ b = 0 ∧ m = 0 ∧ n = 0) ∨ (op = 2 ∧ (0 ≤ a ∧ a ≤ 1099511627776) ∧ (0 ≤ b ∧ b ≤ 1099511627776) ∧ m = 0 ∧ n = 0) ∨
 (op = 3 ∧ (0 ≤ a ∧ a ≤ 4294967296) ∧ (0 ≤ b ∧ b ≤ 4294967296) ∧ m = 0 ∧ n = 0) ∨ (op = 4 ∧ (1 ≤ m ∧ m ≤ 24) ∧ a = 0 ∧ b = 0 ∧ n = 0) ∨
 (op = 5 ∧ (1 ≤ a ∧ a ≤ 10) ∧ b = 0 ∧ m = 0 ∧ n = 0) ∨ (op = 6 ∧ a = 0 ∧ b = 0 ∧ m = 0) ∨ (op = 7 ∧ a = 0 ∧ b = 0 ∧ m = 0) ∨ (op = 8 ∧ a = 0 ∧ b = 0 ∧ m = 0 ∧ n = 1)
instance (op a b : Int) (m n : Nat) : Decidable (OkOne op a b m n) := by unfold OkOne; infer_instance

mutual
def okA : FlD → Prop
 | .mk op a b nm ks => OkOne op a b nm.size ks.length ∧ okL ks
def okL : List FlD → Prop
 | [] => True
 | k :: ks => okA k ∧ okL ks
end
mutual
def cnt : FlD → Nat
 | .mk _ _ _ _ ks => 1 + cntL ks
def cntL : List FlD → Nat
 | [] => 0
 | k :: ks => cnt k + cntL ks
end
mutual
def dep : FlD → Nat
 | .mk _ _ _ _ ks => 1 + depL ks
def depL : List FlD → Nat
 | [] => 0
 | k :: ks => max (dep k) (depL ks)
end
def Rgt (f : FlD) : Prop := okA f ∧ cnt f ≤ 64 ∧ dep f ≤ 16

/- The words. -/
def tAll : Tx := [97, 108, 108]
def tTime : Tx := [116, 105, 109, 101]
def tSeq : Tx := [115, 101, 113]
def tComp : Tx := [99, 111, 109, 112]
def tKind : Tx := [107, 105, 110, 100]
def tAnd : Tx := [97, 110, 100]
def tOr : Tx := [111, 114]
def tNot : Tx := [110, 111, 116]

def hd1 (n : Nat) : UInt8 := UInt8.ofNat (if n < 10 then 48 + n else 87 + n)
def hx (c : UInt8) : Tx := [hd1 (c.toNat / 16), hd1 (c.toNat % 16)]
def spell (nm : ByteArray) : Tx := nm.data.toList.flatMap hx

def hdW (op a b : Int) (nm : ByteArray) (n : Nat) : List Tx :=
 if op = 1 then [tAll] else if op = 2 then [tTime, Lib.itoa a, Lib.itoa b] else if op = 3 then [tSeq, Lib.itoa a, Lib.itoa b] else
 if op = 4 then [tComp, spell nm] else if op = 5 then [tKind, Lib.itoa a] else if op = 6 then [tAnd, Lib.itoa n] else if op = 7 then [tOr, Lib.itoa n] else [tNot]

mutual
def wds : FlD → List Tx
 | .mk op a b nm ks => hdW op a b nm ks.length ++ wdsL ks
def wdsL : List FlD → List Tx
 | [] => []
 | k :: ks => wds k ++ wdsL ks
end
abbrev jn (ws : List Tx) : Tx := Lib.join ws [32]
def tx (f : FlD) : Tx := jn (wds f)

/- A text's words. -/
def spl : Tx → List Tx
 | [] => [[]]
 | c :: r => if c = 32 then [] :: spl r else match spl r with
  | [] => [[c]]
  | w :: ws => (c :: w) :: ws

/- Numbers. -/
theorem digN (u : Nat) (h : u < 208) : (UInt8.ofNat (48 + u)).toNat = 48 + u := by
 rw [UInt8.toNat_ofNat']; omega
theorem Zol : ∀ (u : Nat), ∀ c ∈ Lib.decDigits u, 48 ≤ c.toNat ∧ c.toNat ≤ 57 := by
 intro u
 induction u using Nat.strongRecOn with
 | _ u ih =>
  intro c hc; rw [Lib.decDigits] at hc
  split at hc
  ·rw [List.mem_singleton] at hc; subst hc; have := digN u (by omega); omega
  ·rcases List.mem_append.1 hc with hc | hc
   ·exact ih (u / 10) (by omega) c hc
   ·rw [List.mem_singleton] at hc; subst hc; have := digN (u % 10) (by omega); omega
def vDec (l : Tx) : Nat := l.foldl (fun n c => 10 * n + (c.toNat - 48)) 0
theorem Znl (l : Tx) (c : UInt8) : vDec (l ++ [c]) = 10 * vDec l + (c.toNat - 48) := by simp [vDec]
theorem Ziy : ∀ u : Nat, vDec (Lib.decDigits u) = u := by
 intro u
 induction u using Nat.strongRecOn with
 | _ u ih =>
  rw [Lib.decDigits]
  split
  ·show 10 * 0 + ((UInt8.ofNat (48 + u)).toNat - 48) = u; have := digN u (by omega); omega
  ·rw [Znl, ih (u / 10) (by omega)]; have := digN (u % 10) (by omega); omega
theorem Zuv {n : Int} (h : 0 ≤ n) : Lib.itoa n = Lib.decDigits n.toNat := by unfold Lib.itoa; rw [if_neg (by omega)]
/- Names. -/
/- The words tell the filter. -/

/- Lengths. -/
end Go.Proofs.YtknnooannohflaaDoor.Trm

namespace Go.Px
open Go Go.RowKit
set_option maxRecDepth 100000
set_option linter.unusedVariables false

theorem Zmh {h : Hp} {ρ : Nat → Loc} : ∀ (vs vals : List Value), Zgh h ρ vs (vals.map SV.val) → vs = vals
 | [], [], _ => rfl
 | [], _ :: _, r => by have := r.1; simp at this
 | _ :: _, [], r => by have := r.1; simp at this
 | v :: vs, x :: vals, r => by have h0 : v = x := (r.2 0 v (.val x) rfl rfl).val_inv; rw [h0, Zmh vs vals ⟨by have := r.1; simpa using this, fun i a s ha hs => r.2 (i + 1) a s (by simpa using ha) (by simpa using hs)⟩]

end Go.Px

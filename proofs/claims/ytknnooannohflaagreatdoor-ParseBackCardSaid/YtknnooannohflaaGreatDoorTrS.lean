/- Texts as lists of bytes; numerals. -/
import Derived.Test.YtknnooannohflaaGreatDoorPxIK
import Derived.Lib.Join
import Derived.Lib.ItoaMem
import Derived.Lib.ItoaLen
import Derived.Lib.ParseIntB
namespace Go.Proofs.YtknnooannohflaaGreatDoor.Trm
open Go Go.Px Go.Proofs
set_option maxRecDepth 100000
set_option linter.unusedVariables false

abbrev Tx := List UInt8
abbrev bA (l : Tx) : ByteArray := ⟨l.toArray⟩

theorem bA_list (l : Tx) : (bA l).data.toList = l := by simp
theorem bA_of (s : ByteArray) : bA s.data.toList = s := by
 cases s; simp [bA]
theorem bA_ext {a b : ByteArray} : a = b ↔ a.data.toList = b.data.toList :=
 ⟨fun h => h ▸ rfl, fun h => by rw [← bA_of a, ← bA_of b, h]⟩

/- Numbers. -/
theorem digN (u : Nat) (h : u < 208) : (UInt8.ofNat (48 + u)).toNat = 48 + u := by
 rw [UInt8.toNat_ofNat']; omega
theorem dec_dig : ∀ (u : Nat), ∀ c ∈ Lib.decDigits u, 48 ≤ c.toNat ∧ c.toNat ≤ 57 := by
 intro u
 induction u using Nat.strongRecOn with
 | _ u ih =>
  intro c hc
  rw [Lib.decDigits] at hc
  split at hc
  ·rw [List.mem_singleton] at hc
   subst hc
   have := digN u (by omega)
   omega
  ·rcases List.mem_append.1 hc with hc | hc
   ·exact ih (u / 10) (by omega) c hc
   ·rw [List.mem_singleton] at hc
    subst hc
    have := digN (u % 10) (by omega)
    omega
def vDec (l : Tx) : Nat := l.foldl (fun n c => 10 * n + (c.toNat - 48)) 0
theorem vDec_snoc (l : Tx) (c : UInt8) : vDec (l ++ [c]) = 10 * vDec l + (c.toNat - 48) := by simp [vDec]
theorem vDec_dec : ∀ u : Nat, vDec (Lib.decDigits u) = u := by
 intro u
 induction u using Nat.strongRecOn with
 | _ u ih =>
  rw [Lib.decDigits]
  split
  ·show 10 * 0 + ((UInt8.ofNat (48 + u)).toNat - 48) = u
   have := digN u (by omega)
   omega
  ·rw [vDec_snoc, ih (u / 10) (by omega)]
   have := digN (u % 10) (by omega)
   omega
theorem itoa_pos {n : Int} (h : 0 ≤ n) : Lib.itoa n = Lib.decDigits n.toNat := by unfold Lib.itoa; rw [if_neg (by omega)]
end Go.Proofs.YtknnooannohflaaGreatDoor.Trm

namespace Go.Px
open Go Go.RowKit
set_option maxRecDepth 100000
set_option linter.unusedVariables false

theorem rep_vals {h : Hp} {ρ : Nat → Loc} : ∀ (vs vals : List Value), RepAll h ρ vs (vals.map SV.val) → vs = vals
 | [], [], _ => rfl
 | [], _ :: _, r => by have := r.1; simp at this
 | _ :: _, [], r => by have := r.1; simp at this
 | v :: vs, x :: vals, r => by
  have h0 : v = x := (r.2 0 v (.val x) rfl rfl).val_inv
  rw [h0, rep_vals vs vals ⟨by have := r.1; simpa using this, fun i a s ha hs => r.2 (i + 1) a s (by simpa using ha) (by simpa using hs)⟩]

end Go.Px

/- A name, spelt: the walk over the builder's writes. -/
import Derived.Test.YtknnooannohflaaDoorTrmD
import Derived.WalkKit
import Derived.BigCall
import Derived.BigGuard
namespace Go.Proofs.YtknnooannohflaaDoor.Trm
open Go Go.Px Go.Proofs Go.RowKit
set_option linter.unusedVariables false

theorem byteCells_snoc2 (l : Tx) (a b : UInt8) : Lib.byteCells l ++ [Value.int .u8 (a.toNat : Int)] ++ [Value.int .u8 (b.toNat : Int)] = Lib.byteCells (l ++ [a, b]) := by
  rw [show l ++ [a, b] = l ++ [a] ++ [b] by simp, Lib.byteCells_append, Lib.byteCells_append]
  rfl

theorem hex_get (n : Nat) (h : n < 16) (q : n < (ByteArray.mk #[48, 49, 50, 51, 52, 53, 54, 55, 56, 57, 97, 98, 99, 100, 101, 102]).size) : (ByteArray.mk #[48, 49, 50, 51, 52, 53, 54, 55, 56, 57, 97, 98, 99, 100, 101, 102])[n]'q = hd1 n := by
  have := hex_at n h
  rw [getElem?_pos _ n q] at this
  exact Option.some.inj this

set_option maxHeartbeats 4000000 in
set_option maxRecDepth 100000 in
theorem spell_walk (s : ByteArray) (w : World) (hs : s.size ≤ 1000) : Calls Tryd.prog 95 #[.string s] w fun e w' => e = .returned (.string (bA (spell s))) ∧ Below w.heap.size w w' := by
  go_enter Tryd.func95, Tryd.ntmps95
  go_wp2
  go_loopw [7] (fun i wr => ∃ k : Nat, k ≤ s.size ∧ i = .int .i64 k ∧ Lib.IsBuilder 157 5 w.heap.size w.heap.size (Lib.byteCells ((s.data.toList.take k).flatMap hx)) wr ∧ Below w.heap.size w wr) (fun i _ => s.size - (intOf i).toNat)
  case atStart => exact ⟨0, Nat.zero_le _, rfl, Lib.fresh_isBuilder 157 5 w, (Below.refl _ w).alloc (Nat.le_refl _) _⟩
  case round =>
    obtain ⟨k, hk, rfl, hI, hbw⟩ := hrel
    by_cases hlt : k < s.size
    · have hsz : w.heap.size ≤ wr.heap.size := hbw.size
      have h256 : (s[k]'hlt).toNat < 256 := UInt8.toNat_lt _
      have h1 : (0 : Int) ≤ ((s[k]'hlt).toNat : Int) / 16 ∧ ((s[k]'hlt).toNat : Int) / 16 < 16 := by omega
      have hlen : (Lib.byteCells ((s.data.toList.take k).flatMap hx)).length ≤ 2 * s.size := by
        rw [Lib.byteCells_length]
        have : ∀ l : Tx, (l.flatMap hx).length = 2 * l.length := fun l => by
          induction l with
          | nil => rfl
          | cons c l ih => rw [List.flatMap_cons, List.length_append, ih]; simp [hx]; omega
        rw [this, List.length_take]
        omega
      have hnext : (s.data.toList.take (k + 1)).flatMap hx = (s.data.toList.take k).flatMap hx ++ [hd1 ((s[k]'hlt).toNat / 16), hd1 ((s[k]'hlt).toNat % 16)] := by
        have hb : s.data.toList[k]? = some (s[k]'hlt) := by
          rw [Array.getElem?_toList]
          exact Array.getElem?_eq_getElem hlt
        rw [List.take_add_one, hb, List.flatMap_append]
        simp [hx]
      go_wp2_with (go_at_call 141; refine (Tryd.Builder_WriteByte w.heap.size w.heap.size _ _ _ hI (by omega) hsz).mono ?_)
      rintro e w1 ⟨rfl, hb1, hw1⟩
      rw [hex_get _ (by omega)] at hb1
      go_wp2_with (go_at_call 141; refine (Tryd.Builder_WriteByte w.heap.size w.heap.size _ _ _ (Or.inr hb1) (by rw [List.length_append]; simp; omega) (Nat.le_trans hsz hw1.size)).mono ?_)
      rintro e w2 ⟨rfl, hb2, hw2⟩
      rw [hex_get _ (by omega), byteCells_snoc2, ← hnext] at hb2
      go_wp2
      exact ⟨⟨k + 1, by omega, by simp, Or.inr hb2, (hbw.trans hw1).trans hw2⟩, by simp [intOf]; omega⟩
    · have hke : k = s.size := by omega
      subst hke
      have hall : s.data.toList.take s.size = s.data.toList := by rw [show s.size = s.data.toList.length by rw [Array.length_toList]; rfl, List.take_length]
      rw [hall] at hI
      go_wp2_with (go_at_call 93; refine (Tryd.Builder_String_any w.heap.size w.heap.size _ _ hI hbw.size).mono ?_)
      rintro e w1 ⟨rfl, hw1⟩
      go_wp2
      go_ret
      exact ⟨rfl, hbw.trans hw1⟩

theorem spell_fn (nm : ByteArray) (hs : nm.size ≤ 1000) : Ct Tryd.prog 95 {} [S nm] (fun r => r = [S (bA (spell nm))]) := by
  refine ct_of_calls Tryd.func95 (by kernel_rfl) (fun e => ?_) [.string nm] (.string (bA (spell nm))) (fun h w hh hg => ?_)
  · have : (Tryd.f95.name == "runtime.NumGoroutine") = false := by kernel_rfl
    rw [e] at this; simp at this
  · exact spell_walk nm w hs
end Go.Proofs.YtknnooannohflaaDoor.Trm

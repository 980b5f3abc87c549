/- Numbers as bytes, by sevens of bits: the plain law. -/
import Derived.Test.YtbocfphenkidnaaDoorPxK
namespace Go.Px
set_option linter.unusedVariables false

def leb (n : Nat) : List Int := if n < 128 then [(n : Int)] else ((n % 128 + 128 : Nat) : Int) :: leb (n / 128)
termination_by n
decreasing_by omega

theorem leb_lt {n : Nat} (h : n < 128) : leb n = [(n : Int)] := by rw [leb, if_pos h]
theorem leb_ge {n : Nat} (h : 128 ≤ n) : leb n = ((n % 128 + 128 : Nat) : Int) :: leb (n / 128) := by rw [leb, if_neg (by omega)]

theorem leb_pos (n : Nat) : 1 ≤ (leb n).length := by
  by_cases h : n < 128
  · simp [leb_lt h]
  · simp [leb_ge (Nat.le_of_not_lt h)]

theorem leb_inj : ∀ (n m : Nat) (r r' : List Int), leb n ++ r = leb m ++ r' → n = m ∧ r = r' := by
  intro n
  induction n using Nat.strongRecOn with
  | _ n ih =>
    intro m r r' e
    by_cases hn : n < 128 <;> by_cases hm : m < 128
    · simp only [leb_lt hn, leb_lt hm, List.cons_append, List.nil_append, List.cons.injEq] at e
      exact ⟨by omega, e.2⟩
    · simp only [leb_lt hn, leb_ge (Nat.le_of_not_lt hm), List.cons_append, List.nil_append, List.cons.injEq] at e
      omega
    · simp only [leb_lt hm, leb_ge (Nat.le_of_not_lt hn), List.cons_append, List.nil_append, List.cons.injEq] at e
      omega
    · simp only [leb_ge (Nat.le_of_not_lt hm), leb_ge (Nat.le_of_not_lt hn), List.cons_append, List.cons.injEq] at e
      obtain ⟨h1, h2⟩ := ih (n / 128) (by omega) _ _ _ e.2
      exact ⟨by omega, h2⟩

theorem leb_byte : ∀ (n : Nat) (x : Int), x ∈ leb n → 0 ≤ x ∧ x ≤ 255 := by
  intro n
  induction n using Nat.strongRecOn with
  | _ n ih =>
    intro x hx
    by_cases hn : n < 128
    · simp [leb_lt hn] at hx; omega
    · rw [leb_ge (Nat.le_of_not_lt hn)] at hx
      rcases List.mem_cons.1 hx with rfl | hx
      · omega
      · exact ih _ (by omega) _ hx

theorem leb_len : ∀ (k n : Nat), n < 128 ^ (k + 1) → (leb n).length ≤ k + 1
  | 0, n, h => by rw [leb_lt (by simpa using h)]; simp
  | k + 1, n, h => by
    by_cases hn : n < 128
    · simp [leb_lt hn]
    · rw [leb_ge (Nat.le_of_not_lt hn)]
      have h : n < 128 * 128 ^ (k + 1) := by rw [Nat.pow_succ] at h; omega
      have := leb_len k (n / 128) (Nat.div_lt_of_lt_mul h)
      simp; omega

/-- The number that bytes are. -/
def ofB : List Int → Nat
  | [] => 0
  | x :: l => ofB l * 128 + (x % 128).toNat

theorem ofB_leb : ∀ n : Nat, ofB (leb n) = n := by
  intro n
  induction n using Nat.strongRecOn with
  | _ n ih =>
    by_cases hn : n < 128
    · simp [leb_lt hn, ofB]; omega
    · rw [leb_ge (Nat.le_of_not_lt hn), ofB, ih _ (by omega)]
      omega

/-- The bytes are all great but the last one, which is small. -/
theorem leb_shape : ∀ n : Nat, ∃ l x, leb n = l ++ [x] ∧ 0 ≤ x ∧ x < 128 ∧ (∀ y ∈ l, 128 ≤ y ∧ y ≤ 255) ∧ (l ≠ [] → x ≠ 0) := by
  intro n
  induction n using Nat.strongRecOn with
  | _ n ih =>
    by_cases hn : n < 128
    · exact ⟨[], n, by simp [leb_lt hn], by omega, by omega, by simp, by simp⟩
    · obtain ⟨l, x, e, h0, h1, h2, h3⟩ := ih (n / 128) (by omega)
      refine ⟨((n % 128 + 128 : Nat) : Int) :: l, x, by rw [leb_ge (Nat.le_of_not_lt hn), e]; rfl, h0, h1, ?_, fun _ hx => ?_⟩
      · intro y hy
        rcases List.mem_cons.1 hy with rfl | hy
        · omega
        · exact h2 y hy
      · cases l with
        | nil =>
          have := ofB_leb (n / 128)
          rw [e] at this
          simp [ofB, hx] at this
          omega
        | cons y l => exact h3 (by simp) hx

end Go.Px

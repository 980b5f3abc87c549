/- Small laws on rows, bytes and loops. -/
import Derived.Test.YtohmeljljamigaaDd
namespace Go.Px
set_option linter.unusedVariables false

theorem rget_map {α : Type} (g : α → List SV) (l : List α) (i : Nat) (h : i < l.length) : rget (l.map g) (i : Int) = g l[i] := by simp [rget, h]
theorem rget_mapI {α : Type} (g : α → List SV) (l : List α) (i : Int) (h0 : 0 ≤ i) (h : i < l.length) : rget (l.map g) i = g (l[i.toNat]'(by omega)) := by
  have : i.toNat < l.length := by omega
  simp [rget, this]
theorem waddN (i : Nat) (h : i ≤ 9223372036854775806) : wadd .i64 (i : Int) 1 = ((i + 1 : Nat) : Int) := by
  rw [wadd_i64 (by omega) (by omega)]; omega
theorem waddNN (i j : Nat) (h : i + j ≤ 9223372036854775807) : wadd .i64 (i : Int) (j : Int) = ((i + j : Nat) : Int) := by
  rw [wadd_i64 (by omega) (by omega)]; omega
theorem rset_map {α : Type} (g : α → List SV) (l : List α) (i : Nat) (x : α) : rset (l.map g) (i : Int) (g x) = (l.set i x).map g := by
  simp [rset, List.map_set]
theorem stepL {a b : Nat} (h : a < b) : Nat.le (Nat.succ a) b := h
theorem ifB_d {p : Prop} [Decidable p] {x y : Prop} (h1 : p → x) (h2 : ¬ p → y) : ifB (decide p) x y := by
  by_cases h : p <;> simp [ifB, h]
  · exact h1 h
  · exact h2 h

theorem byteOf_u (b : UInt8) : byteOfRow [U8 (b.toNat : Int)] = b := by simp [byteOfRow]
theorem bstr_u (l : List UInt8) : bstr (uR l) = ⟨l.toArray⟩ := by
  unfold bstr uR
  rw [List.map_map]
  congr 1
  rw [show (byteOfRow ∘ fun b : UInt8 => [U8 (b.toNat : Int)]) = id from funext fun b => byteOf_u b]
  simp
theorem bstr_inj {a b : List UInt8} : bstr (uR a) = bstr (uR b) ↔ a = b := by
  rw [bstr_u, bstr_u]
  constructor
  · intro h; simp at h; exact h
  · rintro rfl; rfl
end Go.Px

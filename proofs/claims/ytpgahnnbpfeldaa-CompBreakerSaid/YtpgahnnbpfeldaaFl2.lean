/- Whole numbers up to 40 as float numbers. -/
import Derived.Test.YtpgahnnbpfeldaaFl
namespace Go.Proofs.Ytpgahnnbpfeldaa.Cmp
open Go Go.Px Go.Proofs
set_option maxRecDepth 100000
set_option linter.unusedVariables false

abbrev fb (n : Nat) : Nat := FloatKind.f64.nearest (n : Int)
theorem fadd_all : ∀ a : Fin 41, ∀ b : Fin 41, a.1 + b.1 ≤ 40 → FloatKind.f64.format.add (fb a.1) (fb b.1) = some (fb (a.1 + b.1)) := by decide +kernel
theorem fadd_n {a b : Nat} (h : a + b ≤ 40) : FloatKind.f64.format.add (fb a) (fb b) = some (fb (a + b)) := fadd_all ⟨a, by omega⟩ ⟨b, by omega⟩ h
theorem ford_all : ∀ a : Fin 41, FloatKind.f64.format.order (fb a.1) 14069245235905429504 = some .gt ∧ FloatKind.f64.format.order (fb a.1) 4845873199050653696 = some .lt ∧ FloatKind.f64.format.order (fb a.1) (fb a.1) = some .eq ∧ (FloatKind.f64.decode (fb a.1)).toInt .zero = some (a.1 : Int) ∧ (FloatKind.f64.decode (fb a.1)).isNaN = false ∧ FloatKind.f64.encode ((FloatKind.f64.decode (fb a.1)).integral .zero) = fb a.1 := by decide +kernel
theorem trunc_n {x : Nat} (h1 : (FloatKind.f64.decode x).isNaN = false) (h2 : FloatKind.f64.encode ((FloatKind.f64.decode x).integral .zero) = x) : Extern.MathFloor.toIntegral "math.archTrunc" .zero #[.float .f64 x] = pure (.float .f64 x) := by
  show ((match FloatKind.f64.decode x with
    | .nan s t => if FloatKind.f64.format.quiet t = t then pure (Value.float .f64 x) else do
      let kept ← choose (.extern "math.Floor,Ceil,Trunc,RoundToEven.signallingNaN kept" 2)
      pure (Value.float .f64 (if kept == 1 then x else FloatKind.f64.encode (.nan s (FloatKind.f64.format.quiet t))))
    | d => pure (Value.float .f64 (FloatKind.f64.encode (d.integral .zero)))) : Sem Value) = _
  revert h1 h2
  generalize FloatKind.f64.decode x = d
  cases d with
  | nan s t => intro h1; simp [Ieee.Datum.isNaN] at h1
  | _ => intro _ h2; simp only [h2]
end Go.Proofs.Ytpgahnnbpfeldaa.Cmp

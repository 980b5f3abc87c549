/- Float numbers: the few that are met. -/
import Derived.Test.YtpgahnnbpfeldaaEv
import Derived.Conc.DeferLaws
namespace Go.Proofs.Ytpgahnnbpfeldaa.Cmp
open Go Go.Px Go.Proofs
set_option maxRecDepth 100000
set_option linter.unusedVariables false

/-- The bits of 1.0. -/
abbrev f1 : Nat := 4607182418800017408
theorem near0 : FloatKind.f64.nearest 0 = 0 := by decide
theorem near1 : FloatKind.f64.nearest 1 = f1 := by decide
theorem fadd00 : FloatKind.f64.format.add 0 0 = some 0 := by decide
theorem fadd01 : FloatKind.f64.format.add 0 f1 = some f1 := by decide
theorem fadd10 : FloatKind.f64.format.add f1 0 = some f1 := by decide
theorem ford1 : FloatKind.f64.format.order 0 14069245235905429504 = some .gt := by decide
theorem ford2 : FloatKind.f64.format.order 0 4845873199050653696 = some .lt := by decide
theorem ford3 : FloatKind.f64.format.order 0 0 = some .eq := by decide
theorem ford4 : FloatKind.f64.format.order f1 14069245235905429504 = some .gt := by decide
theorem ford5 : FloatKind.f64.format.order f1 4845873199050653696 = some .lt := by decide
theorem ford6 : FloatKind.f64.format.order f1 f1 = some .eq := by decide
theorem ftoi0 : (FloatKind.f64.decode 0).toInt .zero = some 0 := by decide
theorem ftoi1 : (FloatKind.f64.decode f1).toInt .zero = some 1 := by decide

theorem und2 : Try.prog.underlying 2 = some (.int .i64) := by kernel_rfl
theorem und222 : Try.prog.underlying 222 = some (.float .f64) := by kernel_rfl

theorem fcvt_if (n : Int) : fcvt Try.prog 2 222 (.int .i64 n) (.float .f64 (FloatKind.f64.nearest n)) := by
  intro w
  simp [convert, run_underlying und2, run_underlying und222, Conv.intToFloat]
theorem fcvt_fi {b : Nat} {n : Int} (h : (FloatKind.f64.decode b).toInt .zero = some n) (h1 : IntKind.i64.min ≤ n ∧ n ≤ IntKind.i64.max) : fcvt Try.prog 222 2 (.float .f64 b) (.int .i64 n) := by
  intro w
  simp [convert, run_underlying und2, run_underlying und222, Conv.floatToInt, h, h1]
  have h2 : n ≤ 9223372036854775807 := h1.2
  intro h3; omega
theorem fbin_cadd {P : Program} {t : TypeId} {a b c d e f : Nat} (h1 : FloatKind.f64.format.add a c = some e) (h2 : FloatKind.f64.format.add b d = some f) : fbin P .add t (.complex .f64 a b) (.complex .f64 c d) (.complex .f64 e f) := by
  intro w
  simp [binOp, Op.complexOp, Op.Complex.arith, Op.floatArith, h1, h2]
theorem fbin_geq {P : Program} {t : TypeId} {a b : Nat} {o : Option Ordering} (h : FloatKind.f64.format.order a b = o) : fbin P .geq t (.float .f64 a) (.float .f64 b) (.bool (o == some .gt || o == some .eq)) := by
  intro w
  simp [binOp, Op.floatCmp, h]
theorem fbin_leq {P : Program} {t : TypeId} {a b : Nat} {o : Option Ordering} (h : FloatKind.f64.format.order a b = o) : fbin P .leq t (.float .f64 a) (.float .f64 b) (.bool (o == some .lt || o == some .eq)) := by
  intro w
  simp [binOp, Op.floatCmp, h]
theorem fbin_eql {P : Program} {t : TypeId} {a b : Nat} {o : Option Ordering} (h : FloatKind.f64.format.order a b = o) : fbin P .eql t (.float .f64 a) (.float .f64 b) (.bool (o == some .eq)) := by
  intro w
  simp [binOp, Op.floatCmp, h]

theorem x203n : Extern.findNext Try.f203 = none := by kernel_rfl
theorem x203 : Extern.find Try.f203 = some (Extern.MathFloor.toIntegral "math.archTrunc" .zero) := by kernel_rfl
theorem fext_trunc {n m : Nat} (h : Extern.MathFloor.toIntegral "math.archTrunc" .zero #[.float .f64 n] = pure (.float .f64 m)) : fext Try.prog 203 [.float .f64 n] (.float .f64 m) := by
  intro w
  rw [run_callFunc_extern Try.func203 (by kernel_rfl) (by kernel_rfl) x203n x203]
  rw [h]; rfl
theorem trunc0 : Extern.MathFloor.toIntegral "math.archTrunc" .zero #[.float .f64 0] = pure (.float .f64 0) := by rfl
theorem trunc1 : Extern.MathFloor.toIntegral "math.archTrunc" .zero #[.float .f64 f1] = pure (.float .f64 f1) := by rfl

end Go.Proofs.Ytpgahnnbpfeldaa.Cmp

/- Float numbers that are whole: sums of them are exact as long as they stay below 2 ^ 53. -/
import Derived.Test.YtknnooannohflaaGreatDoorPxK
import Derived.Conc.DeferLaws
import Derived.Test.YtknnooannohflaaGreatDoorCmA
import Derived.Test.YtknnooannohflaaGreatDoorMetN
import Derived.Test.YtknnooannohflaaGreatDoorStA
import Derived.Test.YtknnooannohflaaGreatDoorDkA
namespace Go.Px
open Go Ieee
set_option maxRecDepth 100000
set_option linter.unusedVariables false

def wW (n : Nat) : Nat := double.nearest false n 0

theorem lp : double.leastPlace = -1074 := by decide
theorem bnd : double.binade = 4503599627370496 := by decide
theorem infR : double.infRung = 2047 * 4503599627370496 := by decide
theorem sgnW : double.signWeight = 9223372036854775808 := by decide

theorem log2_mul (n e : Nat) (h : n ≠ 0) : (n * 2 ^ e).log2 = n.log2 + e := by
 apply (Nat.log2_eq_iff (Nat.mul_ne_zero h (Nat.ne_of_gt (Nat.two_pow_pos e)))).2
 have h1 := Nat.log2_self_le h
 have h2 := Nat.lt_log2_self (n := n)
 constructor
 ·rw [Nat.pow_add]; exact Nat.mul_le_mul_right _ h1
 ·rw [show n.log2 + e + 1 = (n.log2 + 1) + e by omega, Nat.pow_add]
  exact Nat.mul_lt_mul_of_pos_right h2 (Nat.two_pow_pos e)

theorem cut0 (way : Toward) (hw : way = .even ∨ way = .zero) (n : Nat) : way.cut false n 0 = n := by
 unfold Toward.cut
 simp only [Nat.zero_min, Nat.shiftLeft_zero, Nat.div_one, Nat.mod_one]
 rcases hw with rfl | rfl <;> simp

theorem cut_exact (way : Toward) (hw : way = .even ∨ way = .zero) (n d : Nat) (h : n ≠ 0) : way.cut false (n * 2 ^ d) d = n := by
 unfold Toward.cut
 have h1 : min d ((n * 2 ^ d).log2 + 2) = d := by rw [log2_mul n d h]; omega
 simp only [h1, Nat.one_shiftLeft]
 rw [Nat.mul_div_cancel _ (Nat.two_pow_pos d), Nat.mul_mod_left]
 have hp := Nat.two_pow_pos d
 rcases hw with rfl | rfl
 ·have a : ¬ (2 ^ d < 2 * 0) := by omega
  have b : ((2 ^ d == 2 * 0) : Bool) = false := by rw [beq_eq_false_iff_ne]; omega
  simp only [a, b]
  simp
 ·simp

theorem word_f (r : Nat) : double.word false r = r := rfl

theorem kept_eq (n e l : Nat) (hn : n ≠ 0) (hl : l ≤ 52) : Toward.even.cut false ((n * 2 ^ e) <<< (-(e : Int) - ((l : Int) - 52)).toNat) ((l : Int) - 52 - -(e : Int)).toNat = n * 2 ^ (52 - l) := by
 by_cases hc : e ≤ 52 - l
 ·rw [show ((l : Int) - 52 - -(e : Int)).toNat = 0 by omega, cut0 .even (.inl rfl), Nat.shiftLeft_eq, Nat.mul_assoc, ← Nat.pow_add]
  rw [show e + (-(e : Int) - ((l : Int) - 52)).toNat = 52 - l by omega]
 ·rw [show (-(e : Int) - ((l : Int) - 52)).toNat = 0 by omega, Nat.shiftLeft_zero]
  obtain ⟨d, hd⟩ : ∃ d, e = (52 - l) + d := ⟨e - (52 - l), by omega⟩
  rw [show ((l : Int) - 52 - -(e : Int)).toNat = d by omega, hd, Nat.pow_add, ← Nat.mul_assoc]
  exact cut_exact .even (.inl rfl) _ d (Nat.mul_ne_zero hn (Nat.ne_of_gt (Nat.two_pow_pos _)))

def lastP (mag : Nat) (place : Int) : Int := max (place + mag.log2 - double.fractionBits) double.leastPlace
theorem lastP_eq (n e : Nat) (hn : n ≠ 0) (hl : n.log2 ≤ 52) (he : e ≤ 1074) : lastP (n * 2 ^ e) (-(e : Int)) = (n.log2 : Int) - 52 := by
 unfold lastP
 rw [log2_mul n e hn, lp, show ((double.fractionBits : Nat) : Int) = 52 from rfl]
 omega
theorem near_def (mag : Nat) (place : Int) (h : mag ≠ 0) : double.nearest false mag place = double.word false (min ((lastP mag place - double.leastPlace).toNat * double.binade + Toward.even.cut false (mag <<< (place - lastP mag place).toNat) (lastP mag place - place).toNat) double.infRung) := by
 unfold Format.nearest
 rw [if_neg h]
 rfl
theorem near_0 (place : Int) : double.nearest false 0 place = 0 := by
 unfold Format.nearest
 rw [if_pos rfl]
 rfl

theorem sig_lt (n : Nat) (hl : n.log2 ≤ 52) : n * 2 ^ (52 - n.log2) < 9007199254740992 := by
 have h2 := Nat.lt_log2_self (n := n)
 have h3 : n * 2 ^ (52 - n.log2) < 2 ^ (n.log2 + 1) * 2 ^ (52 - n.log2) := Nat.mul_lt_mul_of_pos_right h2 (Nat.two_pow_pos _)
 rw [← Nat.pow_add, show n.log2 + 1 + (52 - n.log2) = 53 by omega] at h3
 exact h3
theorem sig_ge (n : Nat) (hn : n ≠ 0) (hl : n.log2 ≤ 52) : 4503599627370496 ≤ n * 2 ^ (52 - n.log2) := by
 have h2 := Nat.log2_self_le hn
 have h3 : 2 ^ n.log2 * 2 ^ (52 - n.log2) ≤ n * 2 ^ (52 - n.log2) := Nat.mul_le_mul_right _ h2
 rw [← Nat.pow_add, show n.log2 + (52 - n.log2) = 52 by omega] at h3
 exact h3
theorem log_le {n : Nat} (hn : n ≠ 0) (hlt : n < 9007199254740992) : n.log2 ≤ 52 := by
 have := (Nat.log2_lt hn (k := 53)).2 hlt
 omega

theorem near_exact (n e : Nat) (hn : n ≠ 0) (hlt : n < 9007199254740992) (he : e ≤ 1074) : double.nearest false (n * 2 ^ e) (-(e : Int)) = (n.log2 + 1022) * 4503599627370496 + n * 2 ^ (52 - n.log2) := by
 have hl := log_le hn hlt
 have hs := sig_lt n hl
 rw [near_def _ _ (Nat.mul_ne_zero hn (Nat.ne_of_gt (Nat.two_pow_pos e))), lastP_eq n e hn hl he, kept_eq n e n.log2 hn hl, word_f, lp, bnd, infR, show ((n.log2 : Int) - 52 - -1074).toNat = n.log2 + 1022 by omega]
 generalize n * 2 ^ (52 - n.log2) = s at *
 exact Nat.min_eq_left (by omega)

theorem wW_eq (n : Nat) (hn : n ≠ 0) (hlt : n < 9007199254740992) : wW n = (n.log2 + 1022) * 4503599627370496 + n * 2 ^ (52 - n.log2) := by
 have h := near_exact n 0 hn hlt (by omega)
 rw [Nat.pow_zero, Nat.mul_one] at h
 exact h
theorem near_wW (n e : Nat) (hlt : n < 9007199254740992) (he : e ≤ 1074) : double.nearest false (n * 2 ^ e) (-(e : Int)) = wW n := by
 by_cases hn : n = 0
 ·subst hn; rw [Nat.zero_mul, near_0, wW, near_0]
 ·rw [near_exact n e hn hlt he, wW_eq n hn hlt]

theorem read_at (q s : Nat) (hq1 : 1022 ≤ q) (hq : q ≤ 1074) (h1 : 4503599627370496 ≤ s) (hs : s < 9007199254740992) : double.read (q * 4503599627370496 + s) = .number false s ((q : Int) - 1074) := by
 unfold Format.read
 rw [sgnW, bnd, infR, lp]
 have a1 : (q * 4503599627370496 + s) / 9223372036854775808 % 2 = 0 := by omega
 have a2 : (q * 4503599627370496 + s) % 9223372036854775808 = q * 4503599627370496 + s := by omega
 have a3 : (q * 4503599627370496 + s) % 4503599627370496 = s - 4503599627370496 := by omega
 have a4 : (q * 4503599627370496 + s) / 4503599627370496 = q + 1 := by omega
 have a5 : 4503599627370496 + (s - 4503599627370496) = s := by omega
 have a6 : (-1074 : Int) + ((q + 1 - 1 : Nat) : Int) = (q : Int) - 1074 := by omega
 have a7 : ((0 : Nat) == 1) = false := rfl
 simp only [a1, a2, a7]
 rw [if_neg (by omega), if_pos (by omega), a3, a4, a5, a6]

theorem read_wW (n : Nat) (hlt : n < 9007199254740992) : ∃ e : Nat, e ≤ 1074 ∧ double.read (wW n) = .number false (n * 2 ^ e) (-(e : Int)) := by
 by_cases hn : n = 0
 ·subst hn
  have key : ∀ e : Nat, e = 1074 → double.read (wW 0) = .number false (0 * 2 ^ e) (-(e : Int)) := fun e h => by rw [Nat.zero_mul, h]; decide
  obtain ⟨E, hE⟩ : ∃ E : Nat, E = 1074 := ⟨_, rfl⟩
  exact ⟨E, by omega, key E hE⟩
 ·have hl := log_le hn hlt
  refine ⟨52 - n.log2, by omega, ?_⟩
  rw [wW_eq n hn hlt, read_at (n.log2 + 1022) _ (by omega) (by omega) (sig_ge n hn hl) (sig_lt n hl)]
  rw [show ((n.log2 + 1022 : Nat) : Int) - 1074 = -((52 - n.log2 : Nat) : Int) by omega]

theorem signed_f (m u : Nat) : signed false m u = ((m * 2 ^ u : Nat) : Int) := by
 unfold signed; simp [Nat.shiftLeft_eq]

theorem up_eq (n e m : Nat) (h : e ≤ m) : n * 2 ^ e * 2 ^ (-(e : Int) - -(m : Int)).toNat = n * 2 ^ m := by
 rw [Nat.mul_assoc, ← Nat.pow_add, show e + (-(e : Int) - -(m : Int)).toNat = m by omega]

theorem add_wW (a b : Nat) (h : a + b < 9007199254740992) : double.add (wW a) (wW b) = some (wW (a + b)) := by
 obtain ⟨ea, ha, ra⟩ := read_wW a (by omega)
 obtain ⟨eb, hb, rb⟩ := read_wW b (by omega)
 unfold Format.add
 rw [ra, rb]
 simp only [Datum.sum, Option.map_some, Format.write]
 obtain ⟨m, hm, hm1, hm2⟩ : ∃ m : Nat, min (-(ea : Int)) (-(eb : Int)) = -(m : Int) ∧ ea ≤ m ∧ eb ≤ m := ⟨max ea eb, by omega, by omega, by omega⟩
 have hm3 : m ≤ 1074 := by omega
 rw [hm, signed_f, signed_f, up_eq a ea m hm1, up_eq b eb m hm2]
 have e1 : ((a * 2 ^ m : Nat) : Int) + ((b * 2 ^ m : Nat) : Int) = (((a + b) * 2 ^ m : Nat) : Int) := by rw [Nat.add_mul]; omega
 rw [e1, Int.natAbs_natCast]
 have e2 : (if (((a + b) * 2 ^ m : Nat) : Int) = 0 then false && false else decide ((((a + b) * 2 ^ m : Nat) : Int) < 0)) = false := by
  split
  ·rfl
  ·rw [decide_eq_false_iff_not]; omega
 rw [e2, near_wW (a + b) m h hm3]

theorem order_self (a : Nat) (h : a < 9007199254740992) : double.order (wW a) (wW a) = some .eq := by
 obtain ⟨e, _, r⟩ := read_wW a h
 unfold Format.order
 rw [r]
 simp [Datum.order]

theorem order_low (a : Nat) (h : a < 9007199254740992) : double.order (wW a) 14069245235905429504 = some .gt := by
 obtain ⟨e, _, r⟩ := read_wW a h
 have rc : double.read 14069245235905429504 = .number true 4503599627370496 1 := by decide
 unfold Format.order
 rw [r, rc]
 simp only [Datum.order]
 rw [signed_f]
 unfold signed
 simp only [if_true]
 have hgt : ∀ x y : Int, y < x → compare x y = .gt := fun x y h => by
  show compareOfLessAndEq x y = .gt
  unfold compareOfLessAndEq
  rw [if_neg (by omega), if_neg (by omega)]
 refine congrArg some (hgt _ _ ?_)
 have : 0 < (4503599627370496 : Nat) <<< (1 - min (-(e : Int)) 1).toNat := by rw [Nat.shiftLeft_eq]; exact Nat.mul_pos (by decide) (Nat.two_pow_pos _)
 omega

theorem order_high (a : Nat) (h : a < 9007199254740992) : double.order (wW a) 4845873199050653696 = some .lt := by
 obtain ⟨e, _, r⟩ := read_wW a h
 have rc : double.read 4845873199050653696 = .number false 4503599627370496 1 := by decide
 unfold Format.order
 rw [r, rc]
 simp only [Datum.order]
 rw [signed_f, signed_f]
 have hlt : ∀ x y : Int, x < y → compare x y = .lt := fun x y h => by
  show compareOfLessAndEq x y = .lt
  unfold compareOfLessAndEq
  rw [if_pos h]
 refine congrArg some (hlt _ _ ?_)
 rw [show (-(e : Int) - min (-(e : Int)) 1).toNat = 0 by omega, show (1 - min (-(e : Int)) 1).toNat = e + 1 by omega, Nat.pow_zero, Nat.mul_one]
 have h1 : a * 2 ^ e < 9007199254740992 * 2 ^ e := Nat.mul_lt_mul_of_pos_right h (Nat.two_pow_pos _)
 have h2 : (4503599627370496 : Nat) * 2 ^ (e + 1) = 9007199254740992 * 2 ^ e := by
  rw [Nat.pow_succ]; omega
 omega

theorem integral_wW (a : Nat) (h : a < 9007199254740992) : (double.read (wW a)).integral .zero = .number false a 0 := by
 obtain ⟨e, _, r⟩ := read_wW a h
 rw [r]
 simp only [Datum.integral]
 rw [show (-(e : Int)).toNat = 0 by omega, show (-(-(e : Int))).toNat = e by omega, Nat.shiftLeft_zero]
 by_cases ha : a = 0
 ·subst ha
  rw [Nat.zero_mul]
  congr 1
  unfold Toward.cut
  simp
 ·rw [cut_exact .zero (.inr rfl) a e ha]

theorem f64_nearest (n : Nat) : FloatKind.f64.nearest (n : Int) = wW n := by
 have h : decide ((n : Int) < 0) = false := decide_eq_false (by omega)
 show double.nearest (decide ((n : Int) < 0)) (n : Int).natAbs 0 = _
 rw [h, Int.natAbs_natCast]
 rfl
theorem f64_toInt (a : Nat) (h : a < 9007199254740992) : (FloatKind.f64.decode (wW a)).toInt .zero = some (a : Int) := by
 show (double.read (wW a)).toInt .zero = _
 unfold Datum.toInt
 rw [integral_wW a h]
 simp [signed]
theorem f64_add (a b : Nat) (h : a + b < 9007199254740992) : FloatKind.f64.format.add (wW a) (wW b) = some (wW (a + b)) := add_wW a b h
theorem trunc_step (x : Nat) : ∃ g : Bool → Nat → Sem Value, Extern.MathFloor.toIntegral "math.archTrunc" .zero #[.float .f64 x] = (match FloatKind.f64.decode x with
  | .nan s t => g s t
  | d => pure (.float .f64 (FloatKind.f64.encode (d.integral .zero)))) :=
 ⟨_, rfl⟩
theorem f64_trunc (a : Nat) (h : a < 9007199254740992) : Extern.MathFloor.toIntegral "math.archTrunc" .zero #[.float .f64 (wW a)] = pure (.float .f64 (wW a)) := by
 obtain ⟨x, _, r⟩ := read_wW a h
 have i := integral_wW a h
 rw [r] at i
 obtain ⟨g, e⟩ := trunc_step (wW a)
 rw [e, show FloatKind.f64.decode (wW a) = _ from r]
 simp only [i]
 rfl
end Go.Px

namespace Go.Proofs.YtknnooannohflaaGreatDoor.Met
open Go Go.Px Go.Proofs Cmp
set_option maxRecDepth 100000
set_option linter.unusedVariables false

theorem und247 : Tryz.prog.underlying 251 = some (.float .f64) := by kernel_rfl
theorem und2 : Tryz.prog.underlying 2 = some (.int .i64) := by kernel_rfl
theorem fcvt_if (n : Int) : fcvt Tryz.prog 2 251 (.int .i64 n) (.float .f64 (FloatKind.f64.nearest n)) := by
 intro w
 simp [convert, run_underlying und2, run_underlying und247, Conv.intToFloat]
theorem fcvt_fi {b : Nat} {n : Int} (h : (FloatKind.f64.decode b).toInt .zero = some n) (h1 : IntKind.i64.min ≤ n ∧ n ≤ IntKind.i64.max) : fcvt Tryz.prog 251 2 (.float .f64 b) (.int .i64 n) := by
 intro w
 simp [convert, run_underlying und2, run_underlying und247, Conv.floatToInt, h, h1]
 have h2 : n ≤ 9223372036854775807 := h1.2
 intro h3; omega
theorem fbin_cadd {P : Program} {t : TypeId} {a b c d e f : Nat} (h1 : FloatKind.f64.format.add a c = some e) (h2 : FloatKind.f64.format.add b d = some f) : fbin P .add t (.complex .f64 a b) (.complex .f64 c d) (.complex .f64 e f) := by
 intro w
 simp [binOp, Op.complexOp, Op.Complex.arith, Op.floatArith, h1, h2]
theorem fbin_geq {P : Program} {t : TypeId} {a b : Nat} {o : Option Ordering} (h : FloatKind.f64.format.order a b = o) : fbin P .geq t (.float .f64 a) (.float .f64 b) (.bool (o == some .gt || o == some .eq)) := by
 intro w
 simp [binOp, Op.floatCmp, h]
theorem fbin_leq {P : Program} {t : TypeId} {a b : Nat} {o : Option Ordering} (h : FloatKind.f64.format.order a b = o) : fbin P .leq t (.float .f64 a) (.float .f64 b) (.bool (o == some .lt || o == some .eq)) := by
 intro w
 simp [binOp, Op.floatCmp, h]
theorem fbin_eql {P : Program} {t : TypeId} {a b : Nat} {o : Option Ordering} (h : FloatKind.f64.format.order a b = o) : fbin P .eql t (.float .f64 a) (.float .f64 b) (.bool (o == some .eq)) := by
 intro w
 simp [binOp, Op.floatCmp, h]
theorem xTn : Extern.findNext Tryz.f222 = none := by kernel_rfl
theorem xT : Extern.find Tryz.f222 = some (Extern.MathFloor.toIntegral "math.archTrunc" .zero) := by kernel_rfl
theorem fext_trunc {n m : Nat} (h : Extern.MathFloor.toIntegral "math.archTrunc" .zero #[.float .f64 n] = pure (.float .f64 m)) : fext Tryz.prog 222 [.float .f64 n] (.float .f64 m) := by
 intro w
 rw [run_callFunc_extern Tryz.func222 (by kernel_rfl) (by kernel_rfl) xTn xT]
 rw [h]; rfl


theorem fcvt_n (n : Nat) : fcvt Tryz.prog 2 251 (.int .i64 (n : Int)) (.float .f64 (wW n)) := by
 have := fcvt_if (n : Int)
 rwa [f64_nearest] at this
theorem tof_n {a b : Nat} (ha : heldP a) (hb : heldP b) : Ct Tryz.prog 147 {} [I a, I b] (fun r => r = [.val (.complex .f64 (wW a) (wW b))]) := by
 have h1 := hold_fn a; rw [hold_id ha] at h1
 have h2 := hold_fn b; rw [hold_id hb] at h2
 exact mtof_nf _ _ _ (Cl.of h1 ⟨_, rfl, _, fcvt_n a, Cl.of h2 ⟨_, rfl, _, fcvt_n b, rfl⟩⟩)
theorem whole_n {n : Nat} (h : n < (9007199254740992 : Nat)) : Ct Tryz.prog 186 {} [.val (.float .f64 (wW n))] (fun r => r = [I n]) := by
 refine mtwhole_nf _ _ ⟨_, fbin_geq (order_low n h), ifB_intro (fun _ => ⟨_, fbin_leq (order_high n h), ifB_intro (fun _ => Cl.of (R := [.val (.float .f64 (wW n))]) (mtrunc_nf _ _ ⟨_, fext_trunc (f64_trunc n h), rfl⟩) ⟨_, rfl, _, fbin_eql (order_self n h), ifB_intro (fun _ => ⟨_, fcvt_fi (f64_toInt n h) ?_, rfl⟩) (fun h => by simp at h)⟩) (fun h => by simp at h)⟩) (fun h => by simp at h)⟩
 have a1 : IntKind.i64.min ≤ 0 := by decide
 have a2 : ((9007199254740992 : Nat) : Int) ≤ IntKind.i64.max := by decide
 constructor
 ·show IntKind.i64.min ≤ (n : Int); omega
 ·show (n : Int) ≤ IntKind.i64.max; omega
theorem parts_n {a b : Nat} (ha : a < (9007199254740992 : Nat)) (hb : b < (9007199254740992 : Nat)) : Ct Tryz.prog 148 {} [.val (.complex .f64 (wW a) (wW b))] (fun r => r = [I a, I b]) :=
 mtparts_nf _ _ _ (Cl.of (whole_n ha) ⟨_, rfl, Cl.of (whole_n hb) ⟨_, rfl, rfl⟩⟩)

abbrev nR2 (l : List (Nat × Nat)) : List (List SV) := l.map fun c => [.val (.complex .f64 (wW c.1) (wW c.2))]
def s1 (l : List (Nat × Nat)) : Nat := (l.map (·.1)).sum
def s2 (l : List (Nat × Nat)) : Nat := (l.map (·.2)).sum
theorem s1_take (l : List (Nat × Nat)) {i : Nat} (h : i < l.length) : s1 (l.take (i + 1)) = s1 (l.take i) + l[i].1 := by
 unfold s1; rw [List.take_add_one, List.getElem?_eq_getElem h, List.map_append, List.sum_append]; simp only [Option.toList_some, List.map_cons, List.map_nil, List.sum_cons, List.sum_nil, Nat.add_zero]
theorem s2_take (l : List (Nat × Nat)) {i : Nat} (h : i < l.length) : s2 (l.take (i + 1)) = s2 (l.take i) + l[i].2 := by
 unfold s2; rw [List.take_add_one, List.getElem?_eq_getElem h, List.map_append, List.sum_append]; simp only [Option.toList_some, List.map_cons, List.map_nil, List.sum_cons, List.sum_nil, Nat.add_zero]
theorem s1_le (l : List (Nat × Nat)) (i : Nat) : s1 (l.take i) ≤ s1 l := by
 have : s1 l = s1 (l.take i) + s1 (l.drop i) := by unfold s1; rw [← List.sum_append, ← List.map_append, List.take_append_drop]
 omega
theorem s2_le (l : List (Nat × Nat)) (i : Nat) : s2 (l.take i) ≤ s2 l := by
 have : s2 l = s2 (l.take i) + s2 (l.drop i) := by unfold s2; rw [← List.sum_append, ← List.map_append, List.take_append_drop]
 omega

theorem wW0 : wW 0 = 0 := by unfold wW; exact near_0 0

theorem tsum_n (l : List (Nat × Nat)) (h1 : s1 l < (9007199254740992 : Nat)) (h2 : s2 l < (9007199254740992 : Nat)) (hl : l.length ≤ 40) : Ct Tryz.prog 149 {} [SL 1 (nR2 l)] (fun r => r = [.val (.complex .f64 (wW (s1 l)) (wW (s2 l)))]) := by
 have hr : rlen (nR2 l) = (l.length : Int) := by simp
 refine mtsum_nf _ _ ⟨fun p x => (0 ≤ x ∧ x ≤ l.length) ∧ p = (wW (s1 (l.take x.toNat)), wW (s2 (l.take x.toNat))), fun _ x => (l.length - x).toNat, ⟨by omega, by simp [s1, s2, wW0]⟩, ?_⟩
 rintro p x ⟨⟨x0, xl⟩, rfl⟩
 rw [hr]
 refine ifB_intro (fun hx => ?_) (fun hx => ?_)
 ·have hx : x < l.length := by simpa using hx
  rw [wadd_i64 (by omega) (by omega)]
  have hi : x.toNat < l.length := by omega
  have ei : (x + 1).toNat = x.toNat + 1 := by omega
  have t1 := s1_take l hi
  have t2 := s2_take l hi
  have u1 := s1_le l (x.toNat + 1)
  have u2 := s2_le l (x.toNat + 1)
  refine ⟨⟨x0, hx⟩, _, _, by simp [rget, hi]; exact ⟨rfl, rfl⟩, _, _, fbin_cadd (f64_add _ _ (by omega)) (f64_add _ _ (by omega)), rfl, ⟨by omega, ?_⟩, mlt (by dsimp only; omega)⟩
  rw [ei, t1, t2]
 ·have hx : l.length ≤ x := by simpa using hx
  have e : x.toNat = l.length := by omega
  rw [e, List.take_length]
  rfl

abbrev nC (l : List (Int × Int)) : List (Nat × Nat) := l.map fun c => (c.1.toNat, c.2.toNat)
theorem s1_bound (l : List (Int × Int)) (h : cellsP l) : s1 (nC l) ≤ l.length * 1099511627776 := by
 induction l with
 | nil => simp [s1]
 | cons c l ih =>
  have := ih fun x hx => h x (List.mem_cons_of_mem _ hx)
  have hc := (h c (List.mem_cons_self ..)).1
  unfold heldP at hc
  simp only [s1, nC, List.map_cons, List.sum_cons, List.length_cons] at this ⊢
  omega
theorem s2_bound (l : List (Int × Int)) (h : cellsP l) : s2 (nC l) ≤ l.length * 1099511627776 := by
 induction l with
 | nil => simp [s2]
 | cons c l ih =>
  have := ih fun x hx => h x (List.mem_cons_of_mem _ hx)
  have hc := (h c (List.mem_cons_self ..)).2
  unfold heldP at hc
  simp only [s2, nC, List.map_cons, List.sum_cons, List.length_cons] at this ⊢
  omega

theorem wsum_fn (wd sl : Int) (l : List (Int × Int)) (hw : winP wd sl l) : Ct Tryz.prog 101 {} [.agg [I wd, I sl, SL 2 (cR l)]] (fun r => r = [.agg [I (s1 (nC l)), I (s2 (nC l))]]) := by
 have hr : rlen (cR l) = (l.length : Int) := by simp
 have hl : l.length ≤ 16 := hw.2.2.1.2
 have hc := hw.2.2.2
 have b1 := s1_bound l hc
 have b2 := s2_bound l hc
 have hn : (nC l).length = l.length := by simp
 refine msum_nf _ _ _ _ (Cl.of (wright_fn wd sl l) ⟨_, rfl, ifB_intro (fun h => ?_) (fun _ => ⟨⟨by decide, by rw [hr]; omega, by rw [hr]; omega⟩, fun m x => (0 ≤ x ∧ x ≤ l.length) ∧ m = nR2 ((nC l).take x.toNat), fun _ x => (l.length - x).toNat, ⟨by omega, by simp [rrep]⟩, ?_⟩)⟩)
 ·simp [hw] at h
 rintro m x ⟨⟨x0, xl⟩, rfl⟩
 rw [hr]
 refine ifB_intro (fun hx => ?_) (fun hx => ?_)
 ·have hx : x < l.length := by simpa using hx
  rw [wadd_i64 (by omega) (by omega)]
  have hi : x.toNat < l.length := by omega
  have hi' : x.toNat < (nC l).length := by omega
  have ei : (x + 1).toNat = x.toNat + 1 := by omega
  have hh := hc _ (List.getElem_mem hi)
  have e1 : ((nC l)[x.toNat].1 : Int) = l[x.toNat].1 := by
   have := hh.1; unfold heldP at this; simp only [nC, List.getElem_map]; omega
  have e2 : ((nC l)[x.toNat].2 : Int) = l[x.toNat].2 := by
   have := hh.2; unfold heldP at this; simp only [nC, List.getElem_map]; omega
  have hg : rget (cR l) x = [I ((nC l)[x.toNat].1 : Int), I ((nC l)[x.toNat].2 : Int)] := by rw [e1, e2]; simp [rget, hi]
  refine ⟨⟨x0, hx⟩, _, _, hg, Cl.of (tof_n (by rw [e1]; exact hh.1) (by rw [e2]; exact hh.2)) ⟨_, _, rfl, ?_, rfl, ⟨by omega, ?_⟩, mlt (by dsimp only; omega)⟩⟩
  ·simp [lsum]; omega
  ·rw [ei, List.take_add_one, List.getElem?_eq_getElem hi']
   unfold nR2 rapp
   rw [List.map_append]
   rfl
 ·have hx : l.length ≤ x := by simpa using hx
  have e : x.toNat = (nC l).length := by omega
  rw [e, List.take_length]
  exact Cl.of (tsum_n (nC l) (by omega) (by omega) (by omega)) ⟨_, _, rfl, Cl.of (parts_n (by omega) (by omega)) ⟨_, _, rfl, rfl⟩⟩

def partI (wd sl : Int) (l : List (Int × Int)) : Int :=
 if winP wd sl l then (if s1 (nC l) + s2 (nC l) = 0 then 0 else wquo .i64 (wmul .i64 1000 (s2 (nC l))) (s1 (nC l) + s2 (nC l) : Nat)) else 0

theorem part_fn (wd sl : Int) (l : List (Int × Int)) (hw : winP wd sl l) : Ct Tryz.prog 66 {} [.agg [I wd, I sl, SL 2 (cR l)]] (fun r => r = [I (partI wd sl l)]) := by
 have hl : l.length ≤ 16 := hw.2.2.1.2
 have hc := hw.2.2.2
 have b1 := s1_bound l hc
 have b2 := s2_bound l hc
 refine mpart_nf _ _ _ _ (Cl.of (wsum_fn wd sl l hw) ⟨_, _, rfl, ?_⟩)
 rw [wadd_i64 (by omega) (by omega)]
 unfold partI
 rw [if_pos hw]
 refine ifB_intro (fun h => ?_) (fun h => ?_)
 ·have h : ((s1 (nC l) : Int) + s2 (nC l)) = 0 := by simpa using h
  rw [if_pos (by omega)]
 ·have h : ¬ ((s1 (nC l) : Int) + s2 (nC l)) = 0 := by simpa using h
  refine ⟨h, ?_⟩
  rw [if_neg (by omega)]
  push_cast
  rfl

end Go.Proofs.YtknnooannohflaaGreatDoor.Met

namespace Go.Proofs.YtknnooannohflaaGreatDoor.Met
open Go Go.Px Go.Proofs Cmp Go.Proofs.YtknnooannohflaaGreatDoor.St
set_option maxRecDepth 100000
set_option linter.unusedVariables false

abbrev LaD := ByteArray × ByteArray
structure SmD where
 nm : ByteArray
 ls : List LaD
 v : Int
structure FaD where
 nm : ByteArray
 hp : ByteArray
 ty : Int
 ss : List SmD
abbrev laR (l : List LaD) : List (List SV) := l.map fun p => [S p.1, S p.2]
abbrev SmD.row (x : SmD) : List SV := [S x.nm, SL 2 (laR x.ls), I x.v]
abbrev smR (l : List SmD) : List (List SV) := l.map SmD.row
abbrev FaD.row (f : FaD) : List SV := [S f.nm, S f.hp, I f.ty, SL 3 (smR f.ss)]
abbrev faR (l : List FaD) : List (List SV) := l.map FaD.row

abbrev comN : ByteArray := bA [99, 111, 109, 112, 111, 110, 101, 110, 116]
def labs (c : CoD) (more : List LaD) : List LaD := (comN, c.nm) :: more

theorem labels_fn (c : CoD) (more : List LaD) (h : more.length ≤ 1000) : Ct Tryz.prog 99 {} [c.sv, SL 2 (laR more)] (fun r => r = [SL 2 (laR (labs c more))]) := by
 refine mlabels_nf _ _ _ _ _ _ _ _ _ _ _ _ _ _ _ _ _ _ _ _ _ _ _ ⟨?_, rfl⟩
 simp [lsum]; omega

theorem single_fn (n hp : ByteArray) (k x : Int) : Ct Tryz.prog 62 {} [S n, S hp, I k, I x] (fun r => r = [.agg (FaD.row ⟨n, hp, k, [⟨n, [], x⟩]⟩)]) :=
 msingle_nf _ _ _ _ _ rfl

def ofC (c : CoD) (roles : List Int) : List CoD := roles.flatMap fun r => if c.ro = r then [c] else []
def ofR (cs : List CoD) (roles : List Int) : List CoD := cs.flatMap fun c => ofC c roles

theorem flat_take {α β : Type} (l : List α) (f : α → List β) {i : Nat} (h : i < l.length) : (l.take (i + 1)).flatMap f = (l.take i).flatMap f ++ f l[i] := by
 rw [List.take_add_one, List.getElem?_eq_getElem h, List.flatMap_append]
 simp
theorem flat_len {α β : Type} (l : List α) (f : α → List β) (n : Nat) (h : ∀ a ∈ l, (f a).length ≤ n) : (l.flatMap f).length ≤ l.length * n := by
 induction l with
 | nil => simp
 | cons a l ih =>
  have h1 := h a (List.mem_cons_self ..)
  have h2 := ih fun b hb => h b (List.mem_cons_of_mem _ hb)
  rw [List.flatMap_cons, List.length_append, List.length_cons, Nat.succ_mul]
  omega
theorem ofC_len (c : CoD) (roles : List Int) : (ofC c roles).length ≤ roles.length := by
 have := flat_len roles (fun r => if c.ro = r then [c] else []) 1 (fun r _ => by split <;> simp)
 unfold ofC; omega
theorem ofR_len (cs : List CoD) (roles : List Int) : (ofR cs roles).length ≤ cs.length * roles.length := flat_len _ _ _ fun c _ => ofC_len c roles

abbrev rolR (l : List Int) : List (List SV) := l.map fun r => [I r]

theorem of_fn (d : StD) (roles : List Int) (hl : d.cs.length ≤ 1000) (hr : roles.length ≤ 2) : Ct Tryz.prog 98 {} [d.sv, SL 1 (rolR roles)] (fun r => r = [SL 21 (coR (ofR d.cs roles))]) := by
 refine mofs_nf _ _ _ _ _ ⟨fun l x => (0 ≤ x ∧ x ≤ d.cs.length) ∧ l = coR (ofR (d.cs.take x.toNat) roles), fun _ x => (d.cs.length - x).toNat, ⟨by omega, rfl⟩, ?_⟩
 rintro l x ⟨⟨x0, xl⟩, rfl⟩
 rw [rlen_eq, List.length_map]
 refine ifB_intro (fun hx => ?_) (fun hx => ?_)
 ·have hx : x < d.cs.length := by simpa using hx
  have hi : x.toNat < d.cs.length := by omega
  have ei : (x + 1).toNat = x.toNat + 1 := by omega
  have hb := ofR_len (d.cs.take x.toNat) roles
  rw [List.length_take] at hb
  have hb' : (ofR (d.cs.take x.toNat) roles).length ≤ 2000 := by
   refine Nat.le_trans hb (Nat.le_trans (Nat.mul_le_mul (Nat.le_trans (Nat.min_le_right _ _) hl) hr) (by decide))
  refine ⟨⟨x0, hx⟩, _, _, _, _, _, _, _, _, _, _, _, _, _, _, _, _, _, _, _, _, _, rget_mapI CoD.row d.cs x x0 hx,
   fun m y => (0 ≤ y ∧ y ≤ roles.length) ∧ m = coR (ofR (d.cs.take x.toNat) roles ++ ofC d.cs[x.toNat] (roles.take y.toNat)), fun _ y => (roles.length - y).toNat, ⟨by omega, by simp [ofC]⟩, ?_⟩
  rintro m y ⟨⟨y0, yl⟩, rfl⟩
  rw [rlen_eq, List.length_map]
  refine ifB_intro (fun hy => ?_) (fun hy => ?_)
  ·have hy : y < roles.length := by simpa using hy
   have hj : y.toNat < roles.length := by omega
   have ej : (y + 1).toNat = y.toNat + 1 := by omega
   have hcl := ofC_len d.cs[x.toNat] (roles.take y.toNat)
   rw [List.length_take] at hcl
   refine ⟨⟨y0, hy⟩, _, rget_mapI (fun r => [I r]) roles y y0 hy, ?_⟩
   rw [wadd_i64 (by omega) (by omega)]
   have tk : ofC d.cs[x.toNat] (roles.take (y.toNat + 1)) = ofC d.cs[x.toNat] (roles.take y.toNat) ++ (if d.cs[x.toNat].ro = roles[y.toNat] then [d.cs[x.toNat]] else []) := flat_take roles _ hj
   refine ifB_intro (fun he => ?_) (fun he => ?_)
   ·have he : d.cs[x.toNat].ro = roles[y.toNat] := by simpa using he
    rw [if_pos he] at tk
    refine ⟨?_, rfl, ⟨by omega, ?_⟩, mlt (by dsimp only; omega)⟩
    ·simp only [lsum, rlen_eq, List.length_map, List.length_append, List.length_cons, List.length_nil]; omega
    ·rw [ej, tk, ← List.append_assoc]
     exact rapp_map CoD.row _ [d.cs[x.toNat]]
   ·have he : ¬ d.cs[x.toNat].ro = roles[y.toNat] := by simpa using he
    rw [if_neg he, List.append_nil] at tk
    exact ⟨rfl, ⟨by omega, by rw [ej, tk]⟩, mlt (by dsimp only; omega)⟩
  ·have hy : roles.length ≤ y := by simpa using hy
   rw [wadd_i64 (by omega) (by omega)]
   refine ⟨rfl, ⟨by omega, ?_⟩, mlt (by dsimp only; omega)⟩
   rw [ei, List.take_of_length_le (by omega : roles.length ≤ y.toNat)]
   unfold ofR
   rw [flat_take d.cs _ hi]
 ·have hx : d.cs.length ≤ x := by simpa using hx
  rw [List.take_of_length_le (by omega)]

def gaugeF (n hp : ByteArray) (cs : List CoD) (roles : List Int) (f : CoD → Int) : FaD := ⟨n, hp, 2, (ofR cs roles).map fun c => ⟨n, labs c [], f c⟩⟩

theorem map_take {α β : Type} (l : List α) (f : α → β) {i : Nat} (h : i < l.length) : (l.take (i + 1)).map f = (l.take i).map f ++ [f l[i]] := by
 rw [List.take_add_one, List.getElem?_eq_getElem h, List.map_append]; rfl

theorem gauge_fn (n hp : ByteArray) (d : StD) (roles : List Int) (hl : d.cs.length ≤ 1000) (hr : roles.length ≤ 2) (fn : FuncId) (f : CoD → Int)
  (hf : ∀ c ∈ ofR d.cs roles, Ct Tryz.prog fn {} [c.sv] (fun r => r = [I (f c)])) :
  Ct Tryz.prog 58 {} [S n, S hp, d.sv, SL 1 (rolR roles), .clo fn []] (fun r => r = [.agg (gaugeF n hp d.cs roles f).row]) := by
 have hb : (ofR d.cs roles).length ≤ 2000 := Nat.le_trans (ofR_len d.cs roles) (Nat.le_trans (Nat.mul_le_mul hl hr) (by decide))
 refine mgauge_nf _ _ _ _ _ _ _ _ (Cl.of (of_fn d roles hl hr) ⟨_, rfl, ?_⟩)
 generalize hL : ofR d.cs roles = L at hb hf
 have eg : gaugeF n hp d.cs roles f = ⟨n, hp, 2, L.map fun c => ⟨n, labs c [], f c⟩⟩ := by unfold gaugeF; rw [hL]
 rw [eg]
 refine ⟨fun x a b k l => (0 ≤ x ∧ x ≤ L.length) ∧ a = n ∧ b = hp ∧ k = 2 ∧ l = smR ((L.take x.toNat).map fun c => ⟨n, labs c [], f c⟩), fun x _ _ _ _ => (L.length - x).toNat, ⟨by omega, rfl, rfl, rfl, rfl⟩, ?_⟩
 rintro x a b k l ⟨⟨x0, xl⟩, rfl, rfl, rfl, rfl⟩
 rw [rlen_eq, List.length_map]
 refine ifB_intro (fun hx => ?_) (fun hx => ?_)
 ·have hx : x < L.length := by simpa using hx
  have hi : x.toNat < L.length := by omega
  have ei : (x + 1).toNat = x.toNat + 1 := by omega
  refine ⟨⟨x0, hx⟩, _, _, _, _, _, _, _, _, _, _, _, _, _, _, _, _, _, _, _, _, _, rget_mapI CoD.row L x x0 hx, Cl.of (labels_fn L[x.toNat] [] (by simp)) ⟨_, rfl, Cl.of (hf _ (List.getElem_mem hi)) ⟨_, rfl, ?_, rfl, ⟨?_, rfl, rfl, rfl, ?_⟩, ?_⟩⟩⟩
  ·simp only [lsum, rlen_eq, List.length_map, List.length_take, List.length_cons, List.length_nil]; omega
  ·rw [wadd_i64 (by omega) (by omega)]; omega
  ·rw [wadd_i64 (by omega) (by omega), ei, map_take L _ hi]
   exact rapp_map SmD.row _ [⟨a, labs L[x.toNat] [], f L[x.toNat]⟩]
  ·rw [wadd_i64 (by omega) (by omega)]; exact mlt (by dsimp only; omega)
 ·have hx : L.length ≤ x := by simpa using hx
  rw [List.take_of_length_le (by omega)]

def cnt3 (n lb v0 v1 v2 : ByteArray) (c : CoD) : List SmD := [⟨n, labs c [(lb, v0)], c.c0⟩, ⟨n, labs c [(lb, v1)], c.c1⟩, ⟨n, labs c [(lb, v2)], c.c2⟩]
def counterF (n hp : ByteArray) (cs : List CoD) (role : Int) (lb v0 v1 v2 : ByteArray) : FaD := ⟨n, hp, 1, (ofR cs [role]).flatMap (cnt3 n lb v0 v1 v2)⟩

theorem counter_fn (n hp : ByteArray) (d : StD) (role : Int) (lb v0 v1 v2 : ByteArray) (hl : d.cs.length ≤ 1000) :
  Ct Tryz.prog 61 {} [S n, S hp, d.sv, I role, S lb, SL 1 [[S v0], [S v1], [S v2]]] (fun r => r = [.agg (counterF n hp d.cs role lb v0 v1 v2).row]) := by
 have hb : (ofR d.cs [role]).length ≤ 2000 := Nat.le_trans (ofR_len d.cs [role]) (Nat.le_trans (Nat.mul_le_mul hl (by simp : [role].length ≤ 2)) (by decide))
 refine mcounter_nf _ _ _ _ _ _ _ _ _ (Cl.of (of_fn d [role] hl (by simp)) ⟨_, rfl, ?_⟩)
 generalize hL : ofR d.cs [role] = L at hb
 have eg : counterF n hp d.cs role lb v0 v1 v2 = ⟨n, hp, 1, L.flatMap (cnt3 n lb v0 v1 v2)⟩ := by unfold counterF; rw [hL]
 rw [eg]
 refine ⟨fun x a b k l => (0 ≤ x ∧ x ≤ L.length) ∧ a = n ∧ b = hp ∧ k = 1 ∧ l = smR ((L.take x.toNat).flatMap (cnt3 n lb v0 v1 v2)), fun x _ _ _ _ => (L.length - x).toNat, ⟨by omega, rfl, rfl, rfl, rfl⟩, ?_⟩
 rintro x a b k l ⟨⟨x0, xl⟩, rfl, rfl, rfl, rfl⟩
 rw [rlen_eq, List.length_map]
 refine ifB_intro (fun hx => ?_) (fun hx => ?_)
 ·have hx : x < L.length := by simpa using hx
  have hi : x.toNat < L.length := by omega
  have ei : (x + 1).toNat = x.toNat + 1 := by omega
  have hq : ((L.take x.toNat).flatMap (cnt3 a lb v0 v1 v2)).length ≤ 6000 := by
   refine Nat.le_trans (flat_len _ _ 3 fun c _ => by simp [cnt3]) ?_
   rw [List.length_take]; omega
  refine ⟨⟨x0, hx⟩, _, _, _, _, _, _, _, _, _, _, _, _, _, _, _, _, _, _, _, _, _, rget_mapI CoD.row L x x0 hx,
   fun y p q r m => (0 ≤ y ∧ y ≤ 3) ∧ p = a ∧ q = b ∧ r = 1 ∧ m = smR ((L.take x.toNat).flatMap (cnt3 a lb v0 v1 v2) ++ (cnt3 a lb v0 v1 v2 L[x.toNat]).take y.toNat), fun y _ _ _ _ => (3 - y).toNat, ⟨by omega, rfl, rfl, rfl, by simp⟩, ?_⟩
  rintro y p q r m ⟨⟨y0, yl⟩, rfl, rfl, rfl, rfl⟩
  refine ifB_intro (fun hy => ?_) (fun hy => ?_)
  ·have hy : y < 3 := by simpa using hy
   refine ⟨⟨y0, hy⟩, fun e => ?_, fun e => ?_, fun e => ?_, trivial⟩
   ·subst e
    refine ⟨⟨by decide, by simp⟩, v0, rfl, Cl.of (labels_fn L[x.toNat] [(lb, v0)] (by simp)) ⟨_, rfl, ?_, rfl, ⟨by decide, rfl, rfl, rfl, ?_⟩, mlt (by dsimp only; decide)⟩⟩
    ·simp only [lsum, rlen_eq, List.length_map, List.length_append, List.length_take, List.length_cons, List.length_nil]; omega
    ·exact (congrArg (rapp · _) (by simp)).trans (rapp_map SmD.row ((L.take x.toNat).flatMap (cnt3 p lb v0 v1 v2)) [⟨p, labs L[x.toNat] [(lb, v0)], L[x.toNat].c0⟩])
   ·subst e
    refine ⟨⟨by decide, by simp⟩, v1, rfl, Cl.of (labels_fn L[x.toNat] [(lb, v1)] (by simp)) ⟨_, rfl, ?_, rfl, ⟨by decide, rfl, rfl, rfl, ?_⟩, mlt (by dsimp only; decide)⟩⟩
    ·simp only [lsum, rlen_eq, List.length_map, List.length_append, List.length_take, List.length_cons, List.length_nil]; omega
    ·exact (rapp_map SmD.row ((L.take x.toNat).flatMap (cnt3 p lb v0 v1 v2) ++ [⟨p, labs L[x.toNat] [(lb, v0)], L[x.toNat].c0⟩]) [⟨p, labs L[x.toNat] [(lb, v1)], L[x.toNat].c1⟩]).trans (by rw [List.append_assoc])
   ·subst e
    refine ⟨⟨by decide, by simp⟩, v2, rfl, Cl.of (labels_fn L[x.toNat] [(lb, v2)] (by simp)) ⟨_, rfl, ?_, rfl, ⟨by decide, rfl, rfl, rfl, ?_⟩, mlt (by dsimp only; decide)⟩⟩
    ·simp only [lsum, rlen_eq, List.length_map, List.length_append, List.length_take, List.length_cons, List.length_nil]; omega
    ·exact (rapp_map SmD.row ((L.take x.toNat).flatMap (cnt3 p lb v0 v1 v2) ++ [⟨p, labs L[x.toNat] [(lb, v0)], L[x.toNat].c0⟩, ⟨p, labs L[x.toNat] [(lb, v1)], L[x.toNat].c1⟩]) [⟨p, labs L[x.toNat] [(lb, v2)], L[x.toNat].c2⟩]).trans (by rw [List.append_assoc])
  ·have hy : y = 3 := by have : 3 ≤ y := by simpa using hy
                         omega
   subst hy
   refine ⟨rfl, ⟨?_, rfl, rfl, rfl, ?_⟩, ?_⟩
   ·rw [wadd_i64 (by omega) (by omega)]; omega
   ·rw [wadd_i64 (by omega) (by omega), ei, flat_take L _ hi]; rfl
   ·rw [wadd_i64 (by omega) (by omega)]; exact mlt (by dsimp only; omega)
 ·have hx : L.length ≤ x := by simpa using hx
  rw [List.take_of_length_le (by omega)]

end Go.Proofs.YtknnooannohflaaGreatDoor.Met

/- The readings of the arguments of layer 22's laws. -/
import Derived.Test.YtknnooannohflaaDoorTrmL
namespace Go.Proofs.YtknnooannohflaaDoor.Trm
open Go Go.Px Go.Proofs Go.ChangeShapes Go.WideShapes Go.ChangeAt Go.RowKit
set_option maxRecDepth 100000

theorem own : ownKnob Tryd.prog.godebug = none := by kernel_rfl
theorem laidOut : laidOutB Tryd.prog = true := by kernel_rfl
theorem uB : Tryd.prog.underlying 4 = some .bool := by kernel_rfl
theorem uS : Tryd.prog.underlying 9 = some .string := by kernel_rfl
theorem u16_ : Tryd.prog.underlying 46 = some (.int .u16) := by kernel_rfl
theorem u3_ : Tryd.prog.underlying 3 = some (.int .i64) := by kernel_rfl
theorem u2_ : Tryd.prog.underlying 2 = some (.int .i64) := by kernel_rfl
theorem u33_ : Tryd.prog.underlying 33 = some (.slice 35) := by kernel_rfl
theorem c35 : Tryd.prog.cellsOf 35 = 5 := by kernel_rfl
theorem b35 : bndL Tryd.prog 35 = reachBytes := by kernel_rfl
abbrev S0 : List TypeId := [35, 3, 2, 9, 33, 46]
theorem hS0 : S0.all (layT Tryd.prog S0) = true := by kernel_rfl
theorem reach : reachBytes ≤ 140737488355327 := by decide

theorem e35 (n : Nat) (ss : List SV) : TypW Tryd.prog (n + 1) 35 ss = splits (fun f s => TypW Tryd.prog n f s) [3, 2, 2, 9, 33] ss := by kernel_rfl

theorem step35 (ss : List SV) (h : TypI Tryd.prog 35 ss) : ∃ op a b nm rows, ss = [I op, I a, I b, S nm, SL 5 rows] ∧ nm.size ≤ 140737488355327 ∧ rows.length ≤ 140737488355327 ∧ ∀ r ∈ rows, TypI Tryd.prog 35 r := by
  have key : ∀ n, ∃ op a b nm rows, ss = [I op, I a, I b, S nm, SL 5 rows] ∧ nm.size ≤ 140737488355327 ∧ rows.length ≤ 140737488355327 ∧ ∀ r ∈ rows, TypW Tryd.prog n 35 r := fun n => by
    have h2 := h (n + 2)
    rw [e35] at h2
    simp only [splits, TypW, u3_, u2_, uS, u33_] at h2
    obtain ⟨_, _, rfl, ⟨op, rfl, _⟩, _, _, rfl, ⟨a, rfl, _⟩, _, _, rfl, ⟨b, rfl, _⟩, _, _, rfl, ⟨nm, rfl, hnm⟩, _, _, rfl, ⟨rows, rfl, hl, hr⟩, rfl⟩ := h2
    rw [c35]
    rw [b35] at hl
    exact ⟨op, a, b, nm, rows, rfl, Nat.le_trans hnm reach, Nat.le_trans hl reach, hr⟩
  obtain ⟨op, a, b, nm, rows, e, h1, h2, _⟩ := key 0
  refine ⟨op, a, b, nm, rows, e, h1, h2, fun r hr n => ?_⟩
  obtain ⟨op', a', b', nm', rows', e', _, _, h3⟩ := key n
  rw [e] at e'
  simp only [List.cons.injEq, SV.slice.injEq, true_and, and_true] at e'
  rw [e'.2.2.2.2] at hr
  exact h3 r hr

theorem typ_flt {s : SV} (h : TypVI Tryd.prog 35 s) : ∃ f : FlD, s = f.sv ∧ smF f := by
  obtain ⟨ss, h1, h2, _⟩ := h
  obtain ⟨f, rfl, hf⟩ := read_flt (TypI Tryd.prog 35) step35 _ ss (Nat.le_refl _) h1
  exact ⟨f, h2 (by kernel_rfl), hf⟩
theorem typ_str {s : SV} (h : TypVI Tryd.prog 9 s) : ∃ t : ByteArray, s = S t := by
  obtain ⟨ss, h1, _, h3⟩ := h
  have h3 := h3 (by kernel_rfl)
  subst h3
  have := h1 1
  simp only [TypW, uS] at this
  obtain ⟨t, e, _⟩ := this
  exact ⟨t, by simpa using e⟩
theorem typ_u16 {s : SV} (h : TypVI Tryd.prog 46 s) : ∃ x : Int, s = U16 x ∧ 0 ≤ x ∧ x ≤ 65535 := by
  obtain ⟨ss, h1, _, h3⟩ := h
  have h3 := h3 (by kernel_rfl)
  subst h3
  have := h1 1
  simp only [TypW, u16_] at this
  obtain ⟨x, e, hx⟩ := this
  refine ⟨x, by simpa using e, ?_⟩
  simp [Lit.wf, IntKind.min, IntKind.max, IntKind.signed, IntKind.bits] at hx
  omega
end Go.Proofs.YtknnooannohflaaDoor.Trm

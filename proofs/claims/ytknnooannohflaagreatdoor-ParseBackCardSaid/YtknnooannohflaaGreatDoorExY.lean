/- Printed conditions of functions. -/
import Derived.Test.YtknnooannohflaaGreatDoorMzA
import Derived.Test.YtknnooannohflaaGreatDoorExX
import Derived.Test.YtknnooannohflaaGreatDoorDkA
import Derived.Test.YtknnooannohflaaGreatDoorRpP1
import Derived.Test.YtknnooannohflaaGreatDoorEvA
import Derived.Test.YtknnooannohflaaGreatDoorPxMm
namespace Go.Proofs.YtknnooannohflaaGreatDoor.Met
open Go Go.Px Go.Proofs 
set_option maxRecDepth 100000
set_option linter.unusedVariables false

end Go.Proofs.YtknnooannohflaaGreatDoor.Met

namespace Go.Proofs.YtknnooannohflaaGreatDoor.Exp
open Go Go.Px Go.Proofs Trm Met
set_option maxRecDepth 100000
set_option linter.unusedVariables false

end Go.Proofs.YtknnooannohflaaGreatDoor.Exp

namespace Go.Proofs.YtknnooannohflaaGreatDoor.Exp
open Go Go.Px Go.Proofs Go.RowKit Trm Met
set_option maxRecDepth 100000
set_option linter.unusedVariables false



def awF : FaD := ⟨⟨#[120]⟩, ⟨#[97, 92, 98]⟩, 2, [⟨⟨#[120]⟩, [(⟨#[98]⟩, ⟨#[113, 34, 10]⟩)], -5⟩]⟩
theorem ifB_no {b : Bool} {x y : Prop} (e : b = false) (h : y) : ifB b x y := by subst e; exact h
theorem ifB_yes {b : Bool} {x y : Prop} (e : b = true) (h : x) : ifB b x y := by subst e; exact h

theorem sz_ok2 {f : FaD} (h : szF f) : f.ok := ⟨h.2.1, fun x hx => (h.2.2 x hx).1⟩
end Go.Proofs.YtknnooannohflaaGreatDoor.Exp

namespace Go.Proofs.YtknnooannohflaaGreatDoor.Exp
open Go Go.Px Go.Proofs Met Go.ChangeShapes Go.WideShapes Go.ChangeAt Go.RowKit
set_option maxRecDepth 100000
set_option linter.unusedVariables false
theorem own : ownKnob Tryz.prog.godebug = none := by kernel_rfl
theorem laidOut : laidOutB Tryz.prog = true := by kernel_rfl
theorem uB : Tryz.prog.underlying 4 = some .bool := by kernel_rfl

theorem w9 (n : Nat) (ss : List SV) : TypW Tryz.prog (n + 1) 9 ss = ∃ s : ByteArray, ss = [.val (.string s)] ∧ s.size ≤ reachBytes := by kernel_rfl
theorem w2 (n : Nat) (ss : List SV) : TypW Tryz.prog (n + 1) 2 ss = ∃ x : Int, ss = [.val (.int .i64 x)] ∧ (Lit.int .i64 x).wf = true := by kernel_rfl
theorem w3 (n : Nat) (ss : List SV) : TypW Tryz.prog (n + 1) 3 ss = ∃ x : Int, ss = [.val (.int .i64 x)] ∧ (Lit.int .i64 x).wf = true := by kernel_rfl
theorem w68 (n : Nat) (ss : List SV) : TypW Tryz.prog (n + 1) 68 ss = splits (fun f s => TypW Tryz.prog n f s) [9, 9] ss := by kernel_rfl
theorem w30 (n : Nat) (ss : List SV) : TypW Tryz.prog (n + 1) 30 ss = ∃ rows, ss = [.slice (Tryz.prog.cellsOf 68) rows 0] ∧ rows.length ≤ bndL Tryz.prog 68 ∧ ∀ r ∈ rows, TypW Tryz.prog n 68 r := by kernel_rfl
theorem w32 (n : Nat) (ss : List SV) : TypW Tryz.prog (n + 1) 32 ss = splits (fun f s => TypW Tryz.prog n f s) [9, 30, 2] ss := by kernel_rfl
theorem w26 (n : Nat) (ss : List SV) : TypW Tryz.prog (n + 1) 26 ss = ∃ rows, ss = [.slice (Tryz.prog.cellsOf 32) rows 0] ∧ rows.length ≤ bndL Tryz.prog 32 ∧ ∀ r ∈ rows, TypW Tryz.prog n 32 r := by kernel_rfl
theorem w28 (n : Nat) (ss : List SV) : TypW Tryz.prog (n + 1) 28 ss = splits (fun f s => TypW Tryz.prog n f s) [9, 9, 3, 26] ss := by kernel_rfl
theorem w22 (n : Nat) (ss : List SV) : TypW Tryz.prog (n + 1) 22 ss = ∃ rows, ss = [.slice (Tryz.prog.cellsOf 28) rows 0] ∧ rows.length ≤ bndL Tryz.prog 28 ∧ ∀ r ∈ rows, TypW Tryz.prog n 28 r := by kernel_rfl
theorem b68 : bndL Tryz.prog 68 = reachBytes := by kernel_rfl
theorem b32 : bndL Tryz.prog 32 = reachBytes := by kernel_rfl
theorem b28 : bndL Tryz.prog 28 = reachBytes := by kernel_rfl
theorem c68 : Tryz.prog.cellsOf 68 = 2 := by kernel_rfl
theorem c32 : Tryz.prog.cellsOf 32 = 3 := by kernel_rfl
theorem c28 : Tryz.prog.cellsOf 28 = 4 := by kernel_rfl
theorem reach4 : reachBytes ≤ 4000000000000000000 := by decide

theorem rows_good {α : Type} {f : α → List SV} {p : α → Prop} : ∀ (rows : List (List SV)), (∀ r ∈ rows, ∃ a, r = f a ∧ p a) → ∃ l : List α, rows = l.map f ∧ ∀ a ∈ l, p a
 | [], _ => ⟨[], rfl, by simp⟩
 | r :: rows, h => by
  obtain ⟨a, rfl, ha⟩ := h r (by simp)
  obtain ⟨l, rfl, hl⟩ := rows_good rows (fun r hr => h r (by simp [hr]))
  exact ⟨a :: l, rfl, fun b hb => by rcases List.mem_cons.1 hb with rfl | hb; exact ha; exact hl b hb⟩

theorem i64_of {x : Int} (h : (Lit.int .i64 x).wf = true) : i64 x := by
 have h1 : IntKind.i64.min = -9223372036854775808 := by decide
 simp [Lit.wf] at h
 rw [h1] at h
 unfold i64; omega

theorem typ_la {n : Nat} {ss : List SV} (h : TypW Tryz.prog (n + 2) 68 ss) : ∃ p : LaD, ss = [S p.1, S p.2] ∧ p.1.size ≤ 9000000000000000000 := by
 rw [w68] at h
 simp only [splits, w9] at h
 obtain ⟨_, _, rfl, ⟨a, rfl, ha⟩, _, _, rfl, ⟨b, rfl, hb⟩, rfl⟩ := h
 exact ⟨(a, b), rfl, Nat.le_trans ha (by decide)⟩

theorem typ_las {n : Nat} {ss : List SV} (h : TypW Tryz.prog (n + 3) 30 ss) : ∃ l : List LaD, ss = [SL 2 (laR l)] ∧ szL l := by
 rw [w30] at h
 obtain ⟨rows, rfl, hl, hr⟩ := h
 obtain ⟨l, rfl, hp⟩ := rows_good (f := fun p : LaD => [S p.1, S p.2]) (p := fun p => p.1.size ≤ 9000000000000000000) rows (fun r hm => typ_la (hr r hm))
 rw [b68, List.length_map] at hl
 exact ⟨l, by rw [c68], Nat.le_trans hl reach4, hp⟩

theorem typ_sm {n : Nat} {ss : List SV} (h : TypW Tryz.prog (n + 4) 32 ss) : ∃ x : SmD, ss = SmD.row x ∧ szL x.ls ∧ i64 x.v := by
 rw [w32] at h
 simp only [splits, w9, w2] at h
 obtain ⟨_, _, rfl, ⟨a, rfl, ha⟩, _, _, rfl, h1, _, _, rfl, ⟨v, rfl, hv⟩, rfl⟩ := h
 obtain ⟨l, rfl, hl⟩ := typ_las h1
 exact ⟨⟨a, l, v⟩, rfl, hl, i64_of hv⟩

theorem typ_fa {n : Nat} {ss : List SV} (h : TypW Tryz.prog (n + 6) 28 ss) : ∃ f : FaD, ss = FaD.row f ∧ szF f ∧ rgF f := by
 rw [w28] at h
 simp only [splits, w9, w3] at h
 obtain ⟨_, _, rfl, ⟨a, rfl, ha⟩, _, _, rfl, ⟨b, rfl, hb⟩, _, _, rfl, ⟨t, rfl, _⟩, _, _, rfl, h1, rfl⟩ := h
 rw [w26] at h1
 obtain ⟨rows, rfl, hl, hr⟩ := h1
 obtain ⟨l, rfl, hp⟩ := rows_good (f := SmD.row) (p := fun x => szL x.ls ∧ i64 x.v) rows (fun r hm => typ_sm (hr r hm))
 rw [b32, List.length_map] at hl
 exact ⟨⟨a, b, t, l⟩, by rw [c32]; rfl, ⟨Nat.le_trans ha (by decide), Nat.le_trans hl reach4, fun x hx => (hp x hx).1⟩, fun x hx => (hp x hx).2⟩

theorem typ_fas {s : SV} (ht : TypVW Tryz.prog 9 22 s) : ∃ l : List FaD, s = SL 4 (faR l) ∧ l.length ≤ 4000000000000000000 ∧ (∀ f ∈ l, szF f) ∧ ∀ f ∈ l, rgF f := by
 obtain ⟨ss, h1, _, h3⟩ := ht
 have h3 := h3 (by kernel_rfl)
 subst h3
 rw [w22] at h1
 obtain ⟨rows, e, hl, hr⟩ := h1
 obtain ⟨l, rfl, hp⟩ := rows_good (f := FaD.row) (p := fun f => szF f ∧ rgF f) rows (fun r hm => typ_fa (hr r hm))
 rw [b28, List.length_map] at hl
 rw [c28] at e
 exact ⟨l, by simpa using e, Nat.le_trans hl reach4, fun f hf => (hp f hf).1, fun f hf => (hp f hf).2⟩

theorem typ_strW {s : SV} (ht : TypVW Tryz.prog 9 9 s) : ∃ b : ByteArray, s = S b ∧ b.size ≤ 140737488351232 := by
 obtain ⟨ss, h1, _, h3⟩ := ht
 have h3 := h3 (by kernel_rfl)
 subst h3
 rw [w9] at h1
 obtain ⟨b, e, hb⟩ := h1
 exact ⟨b, by simpa using e, Nat.le_trans hb (by decide)⟩
end Go.Proofs.YtknnooannohflaaGreatDoor.Exp

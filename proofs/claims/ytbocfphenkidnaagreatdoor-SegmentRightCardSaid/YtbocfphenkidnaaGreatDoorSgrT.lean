/- The readings of the arguments of layer 9's laws. -/
import Derived.Test.YtbocfphenkidnaaGreatDoorSgrA
import Derived.Test.YtbocfphenkidnaaGreatDoorPxJ
import Derived.ProofKit
namespace Go.Proofs.YtbocfphenkidnaaGreatDoor.Seg
open Go Go.Px Go.Proofs Go.ChangeShapes Go.WideShapes Go.ChangeAt Go.RowKit Go.Proofs.YtbocfphenkidnaaGreatDoor.Cod
set_option maxRecDepth 100000

theorem own : ownKnob Tryz.prog.godebug = none := by kernel_rfl
theorem laidOut : laidOutB Tryz.prog = true := by kernel_rfl
theorem u2 : Tryz.prog.underlying 2 = some (.int .i64) := by kernel_rfl
theorem u3 : Tryz.prog.underlying 3 = some (.int .i64) := by kernel_rfl
theorem u4 : Tryz.prog.underlying 4 = some .bool := by kernel_rfl
theorem u5 : Tryz.prog.underlying 5 = some (.int .u8) := by kernel_rfl
theorem u9 : Tryz.prog.underlying 9 = some .string := by kernel_rfl
theorem u25 : Tryz.prog.underlying 25 = some (.slice 41) := by kernel_rfl
theorem u26 : Tryz.prog.underlying 26 = some (.slice 5) := by kernel_rfl
theorem u22 : Tryz.prog.underlying 22 = some (.slice 9) := by kernel_rfl
theorem c41 : Tryz.prog.cellsOf 41 = 7 := by kernel_rfl
theorem c9 : Tryz.prog.cellsOf 9 = 1 := by kernel_rfl
theorem c5 : Tryz.prog.cellsOf 5 = 1 := by kernel_rfl
theorem maxLen_eq : maxLen = 9223372036854775807 := rfl
theorem e41 (n : Nat) (ss : List SV) : Typ Tryz.prog (n + 2) 41 ss = splits (fun f s => Typ Tryz.prog (n + 1) f s) [2, 2, 3, 9, 2, 2, 2] ss := by kernel_rfl

theorem rows_map {α : Type} {f : α → List SV} : ∀ (rows : List (List SV)), (∀ r ∈ rows, ∃ a, r = f a) → ∃ l : List α, rows = l.map f
  | [], _ => ⟨[], rfl⟩
  | r :: rows, h => by
    obtain ⟨a, rfl⟩ := h r (by simp)
    obtain ⟨l, rfl⟩ := rows_map rows (fun r hr => h r (by simp [hr]))
    exact ⟨a :: l, rfl⟩

theorem rows_bR : ∀ (rows : List (List SV)), (∀ r ∈ rows, ∃ n : Int, r = [U8 n] ∧ 0 ≤ n ∧ n ≤ 255) → ∃ l : List Int, rows = bR l ∧ Byts l
  | [], _ => ⟨[], rfl, fun x hx => by cases hx⟩
  | r :: rows, h => by
    obtain ⟨n, rfl, hn⟩ := h r (by simp)
    obtain ⟨l, rfl, hl⟩ := rows_bR rows (fun r hr => h r (by simp [hr]))
    refine ⟨n :: l, rfl, fun x hx => ?_⟩
    rcases List.mem_cons.1 hx with rfl | hx
    · exact hn
    · exact hl x hx

theorem typ_bytes {s : SV} (ht : TypV Tryz.prog 8 26 s) : ∃ l : List Int, s = SL 1 (bR l) ∧ Byts l := by
  obtain ⟨ss, h1, _, h3⟩ := ht
  have h3 := h3 (by simp [isAggT])
  simp only [Typ, u26, u5] at h1
  obtain ⟨rows, e, _, hr⟩ := h1
  subst h3
  simp at e
  obtain ⟨l, rfl, hl⟩ := rows_bR rows (fun r hm => by obtain ⟨x, hx, hw⟩ := hr r hm; exact ⟨x, hx, wf_u8 hw⟩)
  exact ⟨l, by rw [e, c5], hl⟩

theorem typ_i64 {s : SV} (ht : TypV Tryz.prog 8 2 s) : ∃ x : Int, s = I x := by
  obtain ⟨ss, h1, _, h3⟩ := ht
  have h3 := h3 (by simp [isAggT])
  subst h3
  simp only [Typ, u2] at h1
  obtain ⟨x, e, _⟩ := h1
  simp at e
  exact ⟨x, e⟩

theorem wf_i64 {a : Int} (h : (Lit.int .i64 a).wf = true) : -9223372036854775808 ≤ a ∧ a ≤ 9223372036854775807 := by
  simp [Lit.wf, IntKind.min, IntKind.max, IntKind.signed, IntKind.bits] at h
  omega

theorem typ_int {s : SV} (ht : TypV Tryz.prog 6 3 s) : ∃ x : Int, s = I x ∧ -9223372036854775808 ≤ x ∧ x ≤ 9223372036854775807 := by
  obtain ⟨ss, h1, _, h3⟩ := ht
  have h3 := h3 (by simp [isAggT])
  subst h3
  simp only [Typ, u3] at h1
  obtain ⟨x, e, hw⟩ := h1
  simp at e
  exact ⟨x, e, wf_i64 hw⟩

theorem typ_bool {s : SV} (ht : TypV Tryz.prog 8 4 s) : ∃ x : Bool, s = B x := by
  obtain ⟨ss, h1, _, h3⟩ := ht
  have h3 := h3 (by simp [isAggT])
  subst h3
  simp only [Typ, u4] at h1
  obtain ⟨x, e⟩ := h1
  simp at e
  exact ⟨x, e⟩

theorem typ_evr {n : Nat} {ss : List SV} (h1 : Typ Tryz.prog (n + 2) 41 ss) : ∃ e : EvD, ss = [I e.s, I e.a, I e.k, S e.c, I e.x, I e.y, I e.z] := by
  rw [e41] at h1
  simp only [splits, Typ, u2, u3, u9] at h1
  obtain ⟨_, _, rfl, ⟨sq, rfl, _⟩, _, _, rfl, ⟨a, rfl, _⟩, _, _, rfl, ⟨k, rfl, _⟩, _, _, rfl, ⟨c, rfl, _⟩, _, _, rfl, ⟨x, rfl, _⟩, _, _, rfl, ⟨y, rfl, _⟩, _, _, rfl, ⟨z, rfl, _⟩, rfl⟩ := h1
  exact ⟨⟨sq, a, k, c, x, y, z⟩, rfl⟩

theorem typ_evs {s : SV} (ht : TypV Tryz.prog 8 25 s) : ∃ l : List EvD, s = SL 7 (evR l) ∧ l.length ≤ 9223372036854775807 := by
  obtain ⟨ss, h1, _, h3⟩ := ht
  have h3 := h3 (by simp [isAggT])
  subst h3
  unfold Typ at h1
  rw [u25] at h1
  obtain ⟨rows, e, hl, hr⟩ := h1
  obtain ⟨l, rfl⟩ := rows_map (f := fun e : EvD => [I e.s, I e.a, I e.k, S e.c, I e.x, I e.y, I e.z]) rows (fun r hm => typ_evr (hr r hm))
  refine ⟨l, ?_, by rw [maxLen_eq] at hl; simpa using hl⟩
  rw [c41] at e
  simpa using e

theorem typ_ctx {s : SV} (ht : TypV Tryz.prog 8 24 s) : ∃ (cs ca : Int) (l : List ByteArray), s = Seg.cx3 cs ca (nR l) ∧ l.length ≤ 9223372036854775807 := by
  obtain ⟨ss, h1, h2, _⟩ := ht
  have h2 := h2 (by kernel_rfl)
  have h1 : splits (fun f s => Typ Tryz.prog 7 f s) [2, 2, 22] ss := by
    have e : Typ Tryz.prog 8 24 ss = splits (fun f s => Typ Tryz.prog 7 f s) [2, 2, 22] ss := by kernel_rfl
    rw [← e]; exact h1
  simp only [splits, Typ, u2, u22, u9] at h1
  obtain ⟨_, _, rfl, ⟨sq, rfl, _⟩, _, _, rfl, ⟨a, rfl, _⟩, _, _, rfl, ⟨rows, rfl, hlen, hr⟩, rfl⟩ := h1
  obtain ⟨l, rfl⟩ := rows_map (f := fun s : ByteArray => [S s]) rows (fun r hm => by obtain ⟨x, hx, _⟩ := hr r hm; exact ⟨x, hx⟩)
  refine ⟨sq, a, l, by rw [h2, c9]; rfl, ?_⟩
  rw [maxLen_eq] at hlen
  simpa using hlen

end Go.Proofs.YtbocfphenkidnaaGreatDoor.Seg

/- The readings of the arguments of layer 9's laws. -/
import Derived.Test.YtbocfphenkidnaaGreatDoorSgr5
import Derived.Test.YtbocfphenkidnaaGreatDoorPxJ
import Derived.ProofKit
import Derived.Test.YtbocfphenkidnaaGreatDoorPxM
import Derived.Test.YtbocfphenkidnaaGreatDoorSnF
import Derived.Test.YtbocfphenkidnaaGreatDoorStA
namespace Go.Proofs.YtbocfphenkidnaaGreatDoor.Seg
open Go Go.Px Go.Proofs Go.ChangeShapes Go.WideShapes Go.ChangeAt Go.RowKit Cod
set_option maxRecDepth 100000

theorem own : ownKnob Tryz.prog.godebug = none := by kernel_rfl
theorem laidOut : laidOutB Tryz.prog = true := by kernel_rfl
theorem u2 : Tryz.prog.underlying 2 = some (.int .i64) := by kernel_rfl
theorem u3 : Tryz.prog.underlying 3 = some (.int .i64) := by kernel_rfl
theorem u9 : Tryz.prog.underlying 9 = some .string := by kernel_rfl
theorem c5 : Tryz.prog.cellsOf 5 = 1 := by kernel_rfl
theorem maxLen_eq : maxLen = 9223372036854775807 := rfl
theorem rows_map {α : Type} {f : α → List SV} : ∀ (rows : List (List SV)), (∀ r ∈ rows, ∃ a, r = f a) → ∃ l : List α, rows = l.map f
 | [], _ => ⟨[], rfl⟩
 | r :: rows, h => by
  obtain ⟨a, rfl⟩ := h r (by simp)
  obtain ⟨l, rfl⟩ := rows_map rows (fun r hr => h r (by simp [hr]))
  exact ⟨a :: l, rfl⟩

theorem wf_i64 {a : Int} (h : (Lit.int .i64 a).wf = true) : -9223372036854775808 ≤ a ∧ a ≤ 9223372036854775807 := by
 simp [Lit.wf, IntKind.min, IntKind.max, IntKind.signed, IntKind.bits] at h
 omega

end Go.Proofs.YtbocfphenkidnaaGreatDoor.Seg

namespace Go.Proofs.YtbocfphenkidnaaGreatDoor.Dsk
open Go Go.Px Go.Proofs Snp Go.ChangeShapes Go.WideShapes Go.ChangeAt Go.RowKit
set_option maxRecDepth 100000

theorem w3 : Tryz.prog.underlying 3 = some (.int .i64) := by kernel_rfl
theorem w4 : Tryz.prog.underlying 4 = some .bool := by kernel_rfl
theorem w5 : Tryz.prog.underlying 5 = some (.int .u8) := by kernel_rfl
theorem w9 : Tryz.prog.underlying 9 = some .string := by kernel_rfl
theorem w22 : Tryz.prog.underlying 53 = some (.slice 84) := by kernel_rfl
theorem w25 : Tryz.prog.underlying 26 = some (.slice 5) := by kernel_rfl
theorem c3 : Tryz.prog.cellsOf 3 = 1 := by kernel_rfl
theorem c5W : Tryz.prog.cellsOf 5 = 1 := by kernel_rfl
theorem c42 : Tryz.prog.cellsOf 84 = 3 := by kernel_rfl
theorem b3 : bndL Tryz.prog 3 = 140737488351232 := by kernel_rfl
theorem b5 : bndL Tryz.prog 5 = 140737488351232 := by kernel_rfl
theorem b42 : bndL Tryz.prog 84 = 140737488351232 := by kernel_rfl
theorem e24W (ss : List SV) : TypW Tryz.prog 9 55 ss = splits (fun f s => TypW Tryz.prog 8 f s) [53, 3, 3, 4] ss := by kernel_rfl
theorem e42W (ss : List SV) : TypW Tryz.prog 7 84 ss = splits (fun f s => TypW Tryz.prog 6 f s) [9, 26, 26] ss := by kernel_rfl

theorem rows_mapW {α : Type} {f : α → List SV} {Q : α → Prop} : ∀ (rows : List (List SV)), (∀ r ∈ rows, ∃ a, r = f a ∧ Q a) → ∃ l : List α, rows = l.map f ∧ ∀ a ∈ l, Q a
 | [], _ => ⟨[], rfl, by simp⟩
 | r :: rows, h => by
  obtain ⟨a, rfl, ha⟩ := h r (by simp)
  obtain ⟨l, rfl, hl⟩ := rows_mapW rows (fun r hr => h r (by simp [hr]))
  refine ⟨a :: l, rfl, fun b hb => ?_⟩
  rcases List.mem_cons.1 hb with rfl | hb
  ·exact ha
  ·exact hl b hb
theorem typ_u8sW {n : Nat} {ss : List SV} (h : TypW Tryz.prog (n + 1) 5 ss) : ∃ x : Int, ss = [U8 x] ∧ 0 ≤ x ∧ x ≤ 255 := by
 simp only [TypW, w5] at h
 obtain ⟨x, h, hw⟩ := h
 exact ⟨x, h, wf_u8 hw⟩
theorem typ_i64sW {n : Nat} {ss : List SV} (h : TypW Tryz.prog (n + 1) 3 ss) : ∃ x : Int, ss = [I x] ∧ -9223372036854775808 ≤ x ∧ x ≤ 9223372036854775807 := by
 simp only [TypW, w3] at h
 obtain ⟨x, h, hw⟩ := h
 exact ⟨x, h, wf_i64 hw⟩
theorem typ_bysW {n : Nat} {ss : List SV} (h : TypW Tryz.prog (n + 2) 26 ss) : ∃ l : List UInt8, ss = [SL 1 (uR l)] ∧ l.length ≤ 140737488351232 := by
 unfold TypW at h
 rw [w25] at h
 obtain ⟨rows, rfl, hl, hr⟩ := h
 obtain ⟨l, rfl, _⟩ := rows_mapW (f := fun b : UInt8 => [U8 (b.toNat : Int)]) (Q := fun _ => True) rows (fun r hm => by
  obtain ⟨x, rfl, h0, h1⟩ := typ_u8sW (hr r hm)
  refine ⟨UInt8.ofNat x.toNat, ?_, trivial⟩
  have : (UInt8.ofNat x.toNat).toNat = x.toNat := by
   rw [UInt8.toNat_ofNat']; omega
  rw [this]
  have : ((x.toNat : Nat) : Int) = x := by omega
  rw [this])
 exact ⟨l, by rw [c5W], by rw [b5] at hl; simpa using hl⟩
theorem typ_filW {ss : List SV} (h : TypW Tryz.prog 7 84 ss) : ∃ f : FiD, ss = f.row ∧ f.su.length ≤ 140737488351232 ∧ f.lo.length ≤ 140737488351232 := by
 rw [e42W] at h
 simp only [splits] at h
 obtain ⟨_, _, rfl, h0, _, _, rfl, h1, _, _, rfl, h2, rfl⟩ := h
 simp only [TypW, w9] at h0
 obtain ⟨s, rfl, _⟩ := h0
 obtain ⟨a, rfl, ha⟩ := typ_bysW h1
 obtain ⟨b, rfl, hb⟩ := typ_bysW h2
 exact ⟨⟨s, a, b⟩, rfl, ha, hb⟩
theorem typ_dskW {s : SV} (ht : TypVW Tryz.prog 9 55 s) : ∃ d : DiD, s = d.sv ∧ DiD.Sz d := by
 obtain ⟨ss, h1, h2, _⟩ := ht
 have h2 := h2 (by kernel_rfl)
 rw [e24W] at h1
 simp only [splits] at h1
 obtain ⟨z0, _, rfl, h0, _, _, rfl, h3, _, _, rfl, h4, _, _, rfl, h5, rfl⟩ := h1
 have h0 : ∃ rows, z0 = [SV.slice (Tryz.prog.cellsOf 84) rows 0] ∧ rows.length ≤ bndL Tryz.prog 84 ∧ ∀ r ∈ rows, TypW Tryz.prog 7 84 r := by
  unfold TypW at h0; rw [w22] at h0; exact h0
 obtain ⟨rows, rfl, hl, hr⟩ := h0
 obtain ⟨fs, rfl, hq⟩ := rows_mapW (f := FiD.row) (Q := fun f => f.su.length ≤ 140737488351232 ∧ f.lo.length ≤ 140737488351232) rows (fun r hm => by
  obtain ⟨f, e, ha, hb⟩ := typ_filW (hr r hm)
  exact ⟨f, e, ha, hb⟩)
 obtain ⟨rm, rfl, _⟩ := typ_i64sW h3
 obtain ⟨st, rfl, _, hst⟩ := typ_i64sW h4
 simp only [TypW, w4] at h5
 obtain ⟨b, rfl⟩ := h5
 refine ⟨⟨fs, rm, st, b⟩, by rw [h2, c42]; rfl, by rw [b42] at hl; simpa using hl, hq, hst⟩
theorem typ_byW {s : SV} (ht : TypVW Tryz.prog 9 26 s) : ∃ l : List UInt8, s = SL 1 (uR l) ∧ l.length ≤ 140737488351232 := by
 obtain ⟨ss, h1, _, h3⟩ := ht
 have h3 := h3 (by simp [isAggT])
 subst h3
 obtain ⟨l, e, hl⟩ := typ_bysW h1
 exact ⟨l, by simpa using e, hl⟩
theorem typ_strW {s : SV} (ht : TypVW Tryz.prog 9 9 s) : ∃ b : ByteArray, s = S b := by
 obtain ⟨ss, h1, _, h3⟩ := ht
 have h3 := h3 (by simp [isAggT])
 subst h3
 simp only [TypW, w9] at h1
 obtain ⟨b, e, _⟩ := h1
 exact ⟨b, by simpa using e⟩
end Go.Proofs.YtbocfphenkidnaaGreatDoor.Dsk

namespace Go.Proofs.YtbocfphenkidnaaGreatDoor.St
open Go Go.Px Go.Proofs Go.ChangeShapes Go.WideShapes Go.ChangeAt Go.RowKit Cmp
set_option maxRecDepth 100000

theorem u2 : Tryz.prog.underlying 2 = some (.int .i64) := by kernel_rfl
theorem u3 : Tryz.prog.underlying 3 = some (.int .i64) := by kernel_rfl
theorem u9 : Tryz.prog.underlying 9 = some .string := by kernel_rfl
theorem u62 : Tryz.prog.underlying 56 = some (.slice 122) := by kernel_rfl
theorem c93 : Tryz.prog.cellsOf 122 = 21 := by kernel_rfl
theorem e85 (ss : List SV) : Typ Tryz.prog 6 114 ss = splits (fun f s => Typ Tryz.prog 5 f s) [2, 2, 112] ss := by kernel_rfl
theorem e83 (ss : List SV) : Typ Tryz.prog 5 112 ss = ∃ rows, ss = [.slice (Tryz.prog.cellsOf 207) rows 0] ∧ rows.length ≤ maxLen ∧ ∀ r ∈ rows, Typ Tryz.prog 4 207 r := by kernel_rfl
theorem eCell (ss : List SV) : Typ Tryz.prog 4 207 ss = splits (fun f s => Typ Tryz.prog 3 f s) [2, 2] ss := by kernel_rfl
theorem e88 (ss : List SV) : Typ Tryz.prog 6 117 ss = splits (fun f s => Typ Tryz.prog 5 f s) [115, 2] ss := by kernel_rfl
theorem e86 (ss : List SV) : Typ Tryz.prog 5 115 ss = splits (fun f s => Typ Tryz.prog 4 f s) [2, 2, 2, 2, 2, 2, 2, 2, 2] ss := by kernel_rfl
theorem e90 (ss : List SV) : Typ Tryz.prog 6 119 ss = splits (fun f s => Typ Tryz.prog 5 f s) [2, 2] ss := by kernel_rfl
theorem e91 (ss : List SV) : Typ Tryz.prog 6 120 ss = splits (fun f s => Typ Tryz.prog 5 f s) [2, 2, 2] ss := by kernel_rfl
theorem e93 (ss : List SV) : Typ Tryz.prog 7 122 ss = splits (fun f s => Typ Tryz.prog 6 f s) [9, 3, 2, 114, 117, 119, 120] ss := by kernel_rfl
theorem e64 (ss : List SV) : Typ Tryz.prog 9 58 ss = splits (fun f s => Typ Tryz.prog 8 f s) [56, 2, 2] ss := by kernel_rfl
theorem maxLen_eq : maxLen = 9223372036854775807 := rfl

theorem rows_cR : ∀ (rows : List (List SV)), (∀ r ∈ rows, ∃ a b : Int, r = [I a, I b]) → ∃ l : List (Int × Int), rows = cR l
 | [], _ => ⟨[], rfl⟩
 | r :: rows, h => by
  obtain ⟨a, b, rfl⟩ := h r (by simp)
  obtain ⟨l, rfl⟩ := rows_cR rows (fun r hr => h r (by simp [hr]))
  exact ⟨(a, b) :: l, rfl⟩
theorem rows_map {α : Type} {f : α → List SV} : ∀ (rows : List (List SV)), (∀ r ∈ rows, ∃ a, r = f a) → ∃ l : List α, rows = l.map f
 | [], _ => ⟨[], rfl⟩
 | r :: rows, h => by
  obtain ⟨a, rfl⟩ := h r (by simp)
  obtain ⟨l, rfl⟩ := rows_map rows (fun r hr => h r (by simp [hr]))
  exact ⟨a :: l, rfl⟩

theorem int_of {n : Nat} {ss : List SV} (h : Typ Tryz.prog (n + 1) 2 ss) : ∃ x : Int, ss = [I x] := by
 simp only [Typ, u2] at h
 obtain ⟨x, h, _⟩ := h
 exact ⟨x, h⟩

theorem typ_comp {ss : List SV} (h1 : Typ Tryz.prog 7 122 ss) : ∃ c : CoD, ss = c.row := by
 rw [e93] at h1
 simp only [splits, e85, e88, e86, e90, e91] at h1
 obtain ⟨_, _, rfl, t0, _, _, rfl, t1, _, _, rfl, t2, _, _, rfl, ⟨_, _, rfl, w0, _, _, rfl, w1, _, _, rfl, w2, rfl⟩, _, _, rfl, ⟨_, _, rfl, ⟨_, _, rfl, p0, _, _, rfl, p1, _, _, rfl, p2, _, _, rfl, p3, _, _, rfl, p4, _, _, rfl, p5, _, _, rfl, p6, _, _, rfl, p7, _, _, rfl, p8, rfl⟩, _, _, rfl, ps, rfl⟩, _, _, rfl, ⟨_, _, rfl, b0, _, _, rfl, b1, rfl⟩, _, _, rfl, ⟨_, _, rfl, c0, _, _, rfl, c1, _, _, rfl, c2, rfl⟩, rfl⟩ := h1
 simp only [Typ, u9] at t0
 simp only [Typ, u3] at t1
 rw [e83] at w2
 obtain ⟨nm, rfl, _⟩ := t0
 obtain ⟨ro, rfl, _⟩ := t1
 obtain ⟨mo, rfl⟩ := int_of t2
 obtain ⟨wd, rfl⟩ := int_of w0
 obtain ⟨sl, rfl⟩ := int_of w1
 obtain ⟨rows, rfl, _, hr⟩ := w2
 obtain ⟨h0, rfl⟩ := int_of p0
 obtain ⟨g1, rfl⟩ := int_of p1
 obtain ⟨h2', rfl⟩ := int_of p2
 obtain ⟨h3, rfl⟩ := int_of p3
 obtain ⟨h4, rfl⟩ := int_of p4
 obtain ⟨h5, rfl⟩ := int_of p5
 obtain ⟨h6, rfl⟩ := int_of p6
 obtain ⟨h7, rfl⟩ := int_of p7
 obtain ⟨h8, rfl⟩ := int_of p8
 obtain ⟨hs, rfl⟩ := int_of ps
 obtain ⟨rm, rfl⟩ := int_of b0
 obtain ⟨ha, rfl⟩ := int_of b1
 obtain ⟨k0, rfl⟩ := int_of c0
 obtain ⟨k1, rfl⟩ := int_of c1
 obtain ⟨k2, rfl⟩ := int_of c2
 have hz : Tryz.prog.cellsOf 207 = 2 := by kernel_rfl
 obtain ⟨l, rfl⟩ := rows_cR rows (fun r hm => by
  have := hr r hm
  rw [eCell] at this
  simp only [splits] at this
  obtain ⟨_, _, rfl, q0, _, _, rfl, q1, rfl⟩ := this
  obtain ⟨a, rfl⟩ := int_of q0
  obtain ⟨b, rfl⟩ := int_of q1
  exact ⟨a, b, rfl⟩)
 exact ⟨⟨nm, ro, mo, wd, sl, l, h0, g1, h2', h3, h4, h5, h6, h7, h8, hs, rm, ha, k0, k1, k2⟩, by rw [hz]; rfl⟩

theorem typ_st {s : SV} (ht : TypV Tryz.prog 9 58 s) : ∃ d : StD, s = d.sv ∧ d.cs.length ≤ 9223372036854775807 := by
 obtain ⟨ss, h1, h2, _⟩ := ht
 have h2 := h2 (by kernel_rfl)
 rw [e64] at h1
 simp only [splits] at h1
 obtain ⟨z0, _, rfl, h0, _, _, rfl, h3, _, _, rfl, h4, rfl⟩ := h1
 have h0 : ∃ rows, z0 = [SV.slice (Tryz.prog.cellsOf 122) rows 0] ∧ rows.length ≤ maxLen ∧ ∀ r ∈ rows, Typ Tryz.prog 7 122 r := by
  unfold Typ at h0; rw [u62] at h0; exact h0
 obtain ⟨rows, rfl, hl, hr⟩ := h0
 obtain ⟨cs, rfl⟩ := rows_map (f := CoD.row) rows (fun r hm => typ_comp (hr r hm))
 obtain ⟨q, rfl⟩ := int_of h3
 obtain ⟨t, rfl⟩ := int_of h4
 exact ⟨⟨cs, q, t⟩, by rw [h2, c93]; rfl, by rw [maxLen_eq] at hl; simpa using hl⟩

end Go.Proofs.YtbocfphenkidnaaGreatDoor.St

namespace Go.Px
open Go.RowKit Go.ChangeShapes Go.WideShapes Go.ChangeAt
set_option linter.unusedVariables false

theorem splits_imp {α : Type} {Q R : α → List SV → Prop} (h : ∀ a s, Q a s → R a s) : ∀ (l : List α) (ss : List SV), splits Q l ss → splits R l ss
 | [], _, k => k
 | x :: xs, ss, ⟨a, b, e, h1, h2⟩ => ⟨a, b, e, h x a h1, splits_imp h xs b h2⟩

theorem bndL_le (P : Program) (e : TypeId) : bndL P e ≤ maxLen := by
 unfold bndL
 cases Nat.beq (P.bytesOf e) 0
 ·show reachBytes ≤ maxLen; decide
 ·exact Nat.le_refl _

theorem typ_of_W (P : Program) : ∀ (n : Nat) (t : TypeId) (ss : List SV), TypW P n t ss → Typ P n t ss
 | 0, _, _, _ => trivial
 | n + 1, t, ss, h => by
  unfold TypW at h
  unfold Typ
  cases hu : P.underlying t with
  | none => rw [hu] at h; exact trivial
  | some u =>
   rw [hu] at h
   cases u with
   | bool => exact h
   | int k => exact h
   | string => obtain ⟨s, e, hs⟩ := h; exact ⟨s, e, Nat.le_trans hs (by decide)⟩
   | slice e => obtain ⟨rows, er, hl, hr⟩ := h; exact ⟨rows, er, Nat.le_trans hl (bndL_le P e), fun r hm => typ_of_W P n e r (hr r hm)⟩
   | struct fs => exact splits_imp (fun a s => typ_of_W P n a s) _ _ h
   | array m e => exact splits_imp (fun a s => typ_of_W P n a s) _ _ h
   | _ => trivial

theorem typV_of_W {P : Program} {n : Nat} {t : TypeId} {s : SV} (h : TypVW P n t s) : TypV P n t s := by
 obtain ⟨ss, h1, h2, h3⟩ := h
 exact ⟨ss, typ_of_W P n t ss h1, h2, h3⟩
end Go.Px

namespace Go.Proofs.YtbocfphenkidnaaGreatDoor.Snp
open Go Go.Px Go.Proofs Go.ChangeShapes Go.WideShapes Go.ChangeAt Go.RowKit Cod Go.Proofs.YtbocfphenkidnaaGreatDoor.St
set_option maxRecDepth 100000

theorem own : ownKnob Tryz.prog.godebug = none := by kernel_rfl
theorem laidOut : laidOutB Tryz.prog = true := by kernel_rfl
theorem uB : Tryz.prog.underlying 4 = some .bool := by kernel_rfl
theorem uQ : Tryz.prog.underlying 2 = some (.int .i64) := by kernel_rfl
theorem typ_q {s : SV} (ht : TypV Tryz.prog 9 2 s) : ∃ x : Int, s = I x := by
 obtain ⟨ss, h1, _, h3⟩ := ht
 have h3 := h3 (by simp [isAggT])
 subst h3
 simp only [Typ, uQ] at h1
 obtain ⟨x, e, _⟩ := h1
 simp at e
 exact ⟨x, e⟩
end Go.Proofs.YtbocfphenkidnaaGreatDoor.Snp

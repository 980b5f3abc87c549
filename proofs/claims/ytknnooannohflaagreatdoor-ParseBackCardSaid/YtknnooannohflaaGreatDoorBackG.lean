/- The iterator over groups of eleven samples. -/
import Derived.WalkKit
import Derived.TacticsInMore
import Derived.LoopNIn
import Derived.LoopIn
import Derived.Shelf.Abstract
import Derived.Test.YtknnooannohflaaGreatDoorProg
import Derived.Test.YtknnooannohflaaGreatDoorPxIt
namespace Go.Proofs.YtknnooannohflaaGreatDoor.Met
open Go Go.Px Go.Proofs Go.RowKit Go.Shelf
set_option linter.unusedVariables false

attribute [local go_sem] Oper.semAt_some

def rst (v : Value) : Nat → Value
 | 0 => v
 | k + 1 => match rst v k with
  | .slice a len cap => sliced a (min 11 len) len cap 3
  | x => x
def gyv (v : Value) (k : Nat) : Value :=
 match rst v k with
 | .slice a len cap => sliced a 0 (min 11 len) (min 11 len) 3
 | x => x

theorem slice_shape {h : Hp} {v : Value} {sz tok : Nat} {rows : List (List SV)} (r : PRep h v (.slice sz rows tok)) : ∃ a cap, v = .slice a rows.length cap ∧ rows.length ≤ cap := by
 cases r with
 | empty p cap => exact ⟨p, cap, rfl, by simp⟩
 | slice b off cap _ _ _ vs _ _ _ _ _ _ _ hle => exact ⟨_, cap, rfl, hle⟩

theorem rst_rep {h : Hp} {v : Value} {tok : Nat} {rows : List (List SV)} (r : PRep h v (.slice 3 rows tok)) (k : Nat) : PRep h (rst v k) (.slice 3 (rows.drop (11 * k)) 0) := by
 induction k with
 | zero => exact r.tok0
 | succ k ih =>
  obtain ⟨a, cap, e, hc⟩ := slice_shape ih
  unfold rst
  rw [e] at ih ⊢
  have := ih.sub (l := min 11 (rows.drop (11 * k)).length) (hh := (rows.drop (11 * k)).length) (m := cap) (z := 3) (by omega) (Nat.le_refl _) hc (Nat.le_refl _) (.inl rfl) 0 (by omega) (by omega)
  rw [List.take_length, List.drop_drop] at this
  have e2 : rows.drop (11 * (k + 1)) = rows.drop (11 * k + min 11 (rows.drop (11 * k)).length) := by
   by_cases h11 : 11 ≤ (rows.drop (11 * k)).length
   ·rw [Nat.min_eq_left h11]; rfl
   ·rw [List.length_drop] at h11 ⊢
    rw [List.drop_eq_nil_of_le (by omega), List.drop_eq_nil_of_le (by omega)]
  rw [e2]
  exact this

theorem gyv_rep {h : Hp} {v : Value} {tok : Nat} {rows : List (List SV)} (r : PRep h v (.slice 3 rows tok)) (k : Nat) : PRep h (gyv v k) (.slice 3 (grpAt rows (k : Int)) 1) := by
 have ih := rst_rep r k
 obtain ⟨a, cap, e, hc⟩ := slice_shape ih
 unfold gyv
 rw [e] at ih ⊢
 have := ih.sub (l := 0) (hh := min 11 (rows.drop (11 * k)).length) (m := min 11 (rows.drop (11 * k)).length) (z := 3) (by omega) (by omega) (Nat.le_refl _) (by omega) (.inl rfl) 1 (by omega) (by omega)
 rw [List.drop_zero] at this
 have e2 : grpAt rows (k : Int) = (rows.drop (11 * k)).take (min 11 (rows.drop (11 * k)).length) := by
  unfold grpAt
  rw [Int.toNat_natCast]
  by_cases h11 : 11 ≤ (rows.drop (11 * k)).length
  ·rw [Nat.min_eq_left h11]
  ·rw [Nat.min_eq_right (by omega), List.take_length, List.take_of_length_le (by omega)]
 rw [e2]
 exact this

set_option maxRecDepth 100000 in
set_option maxHeartbeats 2000000 in
theorem grp_ok {h : Hp} {Bs bo tok : Nat} {v : Value} {rows : List (List SV)} (hB : h Bs bo = some v) (r : PRep h v (.slice 3 rows tok)) :
  ItOK Tryz.prog 146 h #[.pointer (some ⟨Bs, bo, none⟩)] ((rows.length + 10) / 11) (gyv v) := by
 refine ⟨enters_of Tryz.func146 (by kernel_rfl) rfl, ?_⟩
 intro l J Jx hJh hY W h0
 have hBs0 : W.cell? ⟨Bs, bo, none⟩ = some v := hJh _ _ h0 _ _ _ hB
 obtain ⟨a0, c0, ev, hc0⟩ := slice_shape r
 refine callsIn_of_wp Tryz.func146 rfl trivial ?_ rfl
 simp only [Tryz.ntmps146, List.size_toArray, List.length_cons, List.length_nil, Nat.reduceAdd, Nat.reduceSub, Array.replicate_succ, Array.replicate_zero, List.push_toArray, List.append_toArray, List.nil_append, List.cons_append]
 gi_wp2
 gi_loopw [3] (fun i wr => ∃ k : Nat, 11 * k ≤ rows.length + 10 ∧ i = rst v k ∧ J k wr)
  (fun i _ => match i with | .slice _ n _ => n | _ => 0)
 case atStart => exact ⟨0, by omega, by first | rfl | exact ev.symm | (subst ev; rfl), h0⟩
 case round =>
  obtain ⟨k, hk, rfl, hJs⟩ := hrel
  have rr := rst_rep r k
  obtain ⟨a, cap, e, hc⟩ := slice_shape rr
  have hyv : gyv v k = sliced a 0 (min 11 (rows.drop (11 * k)).length) (min 11 (rows.drop (11 * k)).length) 3 := by unfold gyv; rw [e]
  have hnx : rst v (k + 1) = sliced a (min 11 (rows.drop (11 * k)).length) (rows.drop (11 * k)).length cap 3 := by
   show (match rst v k with | .slice a len cap => sliced a (min 11 len) len cap 3 | x => x) = _
   rw [e]
  have hln : (rows.drop (11 * k)).length = rows.length - 11 * k := by rw [List.length_drop]
  rw [e]
  generalize (rows.drop (11 * k)).length = n at hyv hnx hln hc
  by_cases hlt : 0 < n
  ·obtain ⟨fn, tmps, assign, body, hy, hR⟩ := hY k wr hJs (by omega)
   have hk2 : 11 * (k + 1) ≤ rows.length + 10 := by omega
   clear hln
   by_cases h11 : 11 ≤ n
   ·rw [Nat.min_eq_left h11] at hyv hnx
    have hz : (11 : Int) ≤ (n : Int) := by omega
    rw [hyv] at hy
    have hy2 : (Instr.yield l #[Value.slice a 11 11]).run Tryz.prog wr = .ok (.round l fn tmps assign body) wr := by simpa [sliced, go_sem] using hy
    gi_wp2

    refine hR.mono ?_
    rintro e W3 (⟨rfl, hJ3⟩ | ⟨rfl, hx⟩)
    ·gi_wp2
     go_roundw
     case rel => exact ⟨k + 1, hk2, by rw [hnx]; simp [sliced, go_sem], hJ3⟩
     case measure => simp; omega
    ·gi_wp2
     exact ⟨rfl, _, results_none rfl _ _ _, ⟨_, rfl⟩, .inr hx⟩
   ·rw [Nat.min_eq_right (by omega)] at hyv hnx
    have hz : (n : Int) < (11 : Int) := by omega
    rw [hyv] at hy
    have hy2 : (Instr.yield l #[Value.slice a n n]).run Tryz.prog wr = .ok (.round l fn tmps assign body) wr := by simpa [sliced, go_sem] using hy
    gi_wp2

    refine hR.mono ?_
    rintro e W3 (⟨rfl, hJ3⟩ | ⟨rfl, hx⟩)
    ·gi_wp2
     go_roundw
     case rel => exact ⟨k + 1, hk2, by rw [hnx]; simp [sliced, go_sem], hJ3⟩
     case measure => simp; omega
    ·gi_wp2
     exact ⟨rfl, _, results_none rfl _ _ _, ⟨_, rfl⟩, .inr hx⟩
  ·obtain rfl : k = (rows.length + 10) / 11 := by omega
   gi_wp2
   go_end0
   exact ⟨⟨_, rfl⟩, .inl hJs⟩

theorem itG_spec : ItSpec Tryz.prog 146 itGrp := by
 intro rows h v r
 cases r with
 | clo _ vs _ hl hc =>
  simp [itGrp] at hl
  obtain ⟨u, rfl⟩ : ∃ u, vs = #[u] := by
   rcases vs with ⟨l⟩
   match l, hl with
   | [u], _ => exact ⟨u, rfl⟩
  have r1 := hc 0 u _ (by simp) (by simp [itGrp]; rfl)
  cases r1 with
  | ref bb base _ _ vs hh hr =>
   have h1 := hh 0 _ (by simp; rfl)
   have h2 := hr 0 _ (by simp; rfl)
   refine ⟨#[.pointer (some ⟨bb, base + 0, none⟩)], (rows.length + 10) / 11, gyv (vs 0), rfl, ?_, fun k _ => gyv_rep h2 k, grp_ok h1 h2⟩
   show (((rows.length + 10) / 11 : Nat) : Int) = ((rows.length : Int) + 10) / 11
   omega

def ItG : Nat → Option (FuncId × ItT) := fun (p : Nat) => bif Nat.beq p 10 then some (146, itGrp) else none
theorem hItG : ∀ p f it, ItG p = some (f, it) → ItSpec Tryz.prog f it := by
 intro p f it e
 unfold ItG at e
 cases h : Nat.beq p 10 with
 | false => simp only [h, cond_false] at e; cases e
 | true =>
  simp only [h, cond_true, Option.some.injEq, Prod.mk.injEq] at e
  obtain ⟨rfl, rfl⟩ := e
  exact itG_spec

end Go.Proofs.YtknnooannohflaaGreatDoor.Met

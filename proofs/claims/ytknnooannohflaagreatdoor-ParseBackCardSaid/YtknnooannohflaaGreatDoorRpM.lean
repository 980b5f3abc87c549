/- expo.Help and expo.Value. -/
import Derived.Test.YtknnooannohflaaGreatDoorRpK1
import Derived.Test.YtknnooannohflaaGreatDoorExX
import Derived.Test.YtknnooannohflaaGreatDoorTrS
namespace Go.Proofs.YtknnooannohflaaGreatDoor.Rp
open Go Go.Proofs Go.RowKit

theorem escH_size : ∀ c r, escH c = some r → r.size = 2 := by
 intro c r h
 unfold escH at h
 split at h
 ·cases h; rfl
 ·split at h
  ·cases h; rfl
  ·cases h
theorem escV_size : ∀ c r, escV c = some r → r.size = 2 := by
 intro c r h
 unfold escV at h
 split at h
 ·cases h; rfl
 ·split at h
  ·cases h; rfl
  ·split at h
   ·cases h; rfl
   ·cases h
theorem escH_keys : ∀ κ : UInt8, κ ∈ [(10 : UInt8), 92] ↔ (escH κ).isSome = true := by
 intro κ
 unfold escH
 by_cases h1 : κ = 10
 ·simp [h1]
 ·by_cases h2 : κ = 92
  ·simp [h2]
  ·simp [h1, h2]
theorem escV_keys : ∀ κ : UInt8, κ ∈ [(34 : UInt8), 10, 92] ↔ (escV κ).isSome = true := by
 intro κ
 unfold escV
 by_cases h0 : κ = 34
 ·simp [h0]
 ·by_cases h1 : κ = 10
  ·simp [h1]
  ·by_cases h2 : κ = 92
   ·simp [h2]
   ·simp [h0, h1, h2]

structure Fresh (R O c : Nat) (ss : List ByteArray) (w : World) : Prop where
 lt : R < w.heap.size
 c0 : w.cell? ⟨R, 0, none⟩ = some (.int .u32 0)
 c1 : w.cell? ⟨R, 1, none⟩ = some (.int .i32 0)
 c3 : w.cell? ⟨R, 3, none⟩ = some .nilIface
 c4 : w.cell? ⟨R, 4, none⟩ = some (.slice (some ⟨O, 0, none⟩) ss.length c)
 fz : ∀ i, w.frozen? ⟨R, i, none⟩ = false
 ts : ∀ j s, ss[j]? = some s → w.cell? ⟨O, j, none⟩ = some (.string s)
theorem newrep_fresh (ss : List ByteArray) (B : Nat) (w : World) (hb : ∀ j s, ss[j]? = some s → w.cell? ⟨B, j, none⟩ = some (.string s)) (hl : ss.length ≤ 6) (hev : ss.length % 2 = 0) (h0 : 0 < ss.length) :
  Calls Tryz.prog 38 #[.slice (some ⟨B, 0, none⟩) ss.length ss.length] w fun e w' => e = .returned (.pointer (some ⟨w.heap.size + 1, 0, none⟩)) ∧ (∃ c, Fresh (w.heap.size + 1) w.heap.size c ss w') ∧ Below w.heap.size w w' := by
 refine (newrep ss B w hb hl hev h0).mono ?_
 rintro e w' ⟨rfl, c, rfl⟩
 refine ⟨rfl, ⟨c, ?_, ?_, ?_, ?_, ?_, ?_, ?_⟩, ?_⟩
 ·simp
 ·refine (cell_alloc_win _ _ _ _ _ _ (by simp)).trans rfl
 ·refine (cell_alloc_win _ _ _ _ _ _ (by simp)).trans rfl
 ·refine (cell_alloc_win _ _ _ _ _ _ (by simp)).trans rfl
 ·refine (cell_alloc_win _ _ _ _ _ _ (by simp)).trans rfl
 ·intro i
  have := World.frozen?_alloc_new (w.drew.alloc (.cells ((ss.map Value.string).toArray ++ Builtin.zeroCells #[.string ByteArray.empty] (c - ss.length)) 9)) #[.int .u32 0, .int .i32 0, .int .u32 0, .nilIface, .slice (some ⟨w.heap.size, 0, none⟩) ss.length c] 136 i
  simpa using this
 ·intro j s hj
  have h1 : ((w.drew.alloc (.cells ((ss.map Value.string).toArray ++ Builtin.zeroCells #[.string ByteArray.empty] (c - ss.length)) 9)).alloc (.cells #[.int .u32 0, .int .i32 0, .int .u32 0, .nilIface, .slice (some ⟨w.heap.size, 0, none⟩) ss.length c] 136)).cell? ⟨w.heap.size, j, none⟩ = (w.drew.alloc (.cells ((ss.map Value.string).toArray ++ Builtin.zeroCells #[.string ByteArray.empty] (c - ss.length)) 9)).cell? ⟨w.heap.size, j, none⟩ :=
   ((Below.refl (w.heap.size + 1) _).alloc (by simp) _).cell (Nat.lt_succ_self _)
  refine (h1.trans (cell_alloc_win _ _ _ _ _ _ (by simp))).trans ?_
  have hj2 : j < ss.length := (List.getElem?_eq_some_iff.1 hj).1
  rw [Array.getElem?_append_left (by simpa using hj2), List.getElem?_toArray, List.getElem?_map, hj]
  rfl
 ·refine ((Below.refl w.heap.size w).drew.alloc (Nat.le_refl _) _).alloc (by simp) _

theorem Fresh.lock {R O c : Nat} {ss : List ByteArray} {w : World} (h : Fresh R O c ss w) (hO : O ≠ R) (v : Value) : (w.setCell ⟨R, 1, none⟩ v).cell? ⟨R, 4, none⟩ = some (.slice (some ⟨O, 0, none⟩) ss.length c) ∧ ∀ j s, ss[j]? = some s → (w.setCell ⟨R, 1, none⟩ v).cell? ⟨O, j, none⟩ = some (.string s) :=
 ⟨(World.cell?_setCell_other _ ⟨R, 1, none⟩ ⟨R, 4, none⟩ _ (by simp)).trans h.c4, fun j s hj => (World.cell?_setCell_other _ ⟨R, 1, none⟩ ⟨O, j, none⟩ _ (fun e => hO (Addr.mk.inj e).1.symm)).trans (h.ts j s hj)⟩

theorem set_size (w : World) (a : Addr) (v : Value) : (w.setCell a v).heap.size = w.heap.size := by simp [World.setCell]

theorem help_do (R O c : Nat) (s : ByteArray) (w : World) (h : Fresh R O c [⟨#[92]⟩, ⟨#[92, 92]⟩, ⟨#[10]⟩, ⟨#[92, 110]⟩] w) (hO : O ≠ R) (hs : s.size ≤ 5000000) :
  Calls Tryz.prog 39 #[.pointer (some ⟨R, 0, none⟩), .string s] w fun e w' => e = .returned (.string ⟨(rpl escH s.data.toList).toArray⟩) ∧ Below R w w' := by
 obtain ⟨l4, lt⟩ := h.lock hO (.int .i32 1)
 have hb := build2 R O c (w.setCell ⟨R, 1, none⟩ (.int .i32 1)) l4 (lt 0 _ rfl) (lt 1 _ rfl) (lt 2 _ rfl) (lt 3 _ rfl)
 rw [set_size] at hb
 exact replace_gen R (w.heap.size + 1) w.heap.size [10, 92] escH s w (do_rep R [10, 92] escH _ _ w h.lt h.c0 h.c1 h.c3 h.c4 h.fz escH_size hb)
  fun w5 hX => repl_walk _ _ _ _ s w5 hX (by decide) (by decide) hs escH_size escH_keys (by decide)
theorem value_do (R O c : Nat) (s : ByteArray) (w : World) (h : Fresh R O c [⟨#[92]⟩, ⟨#[92, 92]⟩, ⟨#[10]⟩, ⟨#[92, 110]⟩, ⟨#[34]⟩, ⟨#[92, 34]⟩] w) (hO : O ≠ R) (hs : s.size ≤ 5000000) :
  Calls Tryz.prog 39 #[.pointer (some ⟨R, 0, none⟩), .string s] w fun e w' => e = .returned (.string ⟨(rpl escV s.data.toList).toArray⟩) ∧ Below R w w' := by
 obtain ⟨l4, lt⟩ := h.lock hO (.int .i32 1)
 have hb := build3 R O c (w.setCell ⟨R, 1, none⟩ (.int .i32 1)) l4 (lt 0 _ rfl) (lt 1 _ rfl) (lt 2 _ rfl) (lt 3 _ rfl) (lt 4 _ rfl) (lt 5 _ rfl)
 rw [set_size] at hb
 exact replace_gen R (w.heap.size + 1) w.heap.size [34, 10, 92] escV s w (do_rep R [34, 10, 92] escV _ _ w h.lt h.c0 h.c1 h.c3 h.c4 h.fz escV_size hb)
  fun w5 hX => repl_walk _ _ _ _ s w5 hX (by decide) (by decide) hs escV_size escV_keys (by decide)

theorem four_at (w : World) (a b c d : ByteArray) (j : Nat) (s : ByteArray) (h : [a, b, c, d][j]? = some s) : (w.alloc (.cells #[.string a, .string b, .string c, .string d] 9)).cell? ⟨w.heap.size, j, none⟩ = some (.string s) := by
 rw [cell_alloc_win _ _ _ _ _ _ rfl]
 match j, h with
 | 0, h => cases h; rfl
 | 1, h => cases h; rfl
 | 2, h => cases h; rfl
 | 3, h => cases h; rfl
 | j + 4, h => cases h
theorem six_at (w : World) (a b c d e f : ByteArray) (j : Nat) (s : ByteArray) (h : [a, b, c, d, e, f][j]? = some s) : (w.alloc (.cells #[.string a, .string b, .string c, .string d, .string e, .string f] 9)).cell? ⟨w.heap.size, j, none⟩ = some (.string s) := by
 rw [cell_alloc_win _ _ _ _ _ _ rfl]
 match j, h with
 | 0, h => cases h; rfl
 | 1, h => cases h; rfl
 | 2, h => cases h; rfl
 | 3, h => cases h; rfl
 | 4, h => cases h; rfl
 | 5, h => cases h; rfl
 | j + 6, h => cases h

set_option maxRecDepth 100000 in
set_option maxHeartbeats 3200000 in
theorem help_walk (s : ByteArray) (w : World) (hs : s.size ≤ 5000000) : Calls Tryz.prog 11 #[.string s] w fun e w' => e = .returned (.string ⟨(rpl escH s.data.toList).toArray⟩) ∧ Below w.heap.size w w' := by
 go_enter Tryz.func11, Tryz.ntmps11
 go_wp2_with (go_at_call 38; refine (newrep_fresh [⟨#[92]⟩, ⟨#[92, 92]⟩, ⟨#[10]⟩, ⟨#[92, 110]⟩] w.heap.size _ (four_at w _ _ _ _) (by simp) (by simp) (by simp)).mono ?_)
 rintro e w1 ⟨rfl, ⟨c, hF⟩, hb⟩
 have hsz : (w.alloc (.cells #[.string ⟨#[92]⟩, .string ⟨#[92, 92]⟩, .string ⟨#[10]⟩, .string ⟨#[92, 110]⟩] 9)).heap.size = w.heap.size + 1 := by simp
 have hb0 : Below w.heap.size w w1 := ((Below.refl _ w).alloc (Nat.le_refl _) _).trans (hb.mono (by omega))
 rw [hsz] at hF
 clear hb
 have hd := help_do _ _ _ s w1 hF (by omega) hs
 clear hF
 go_wp2_with (go_at_call 39; refine hd.mono ?_)
 rintro e w2 ⟨rfl, hb2⟩
 go_wp2
 go_ret
 exact ⟨rfl, hb0.trans (hb2.mono (by omega))⟩

set_option maxRecDepth 100000 in
set_option maxHeartbeats 3200000 in
theorem value_walk (s : ByteArray) (w : World) (hs : s.size ≤ 5000000) : Calls Tryz.prog 13 #[.string s] w fun e w' => e = .returned (.string ⟨(rpl escV s.data.toList).toArray⟩) ∧ Below w.heap.size w w' := by
 go_enter Tryz.func13, Tryz.ntmps13
 go_wp2_with (go_at_call 38; refine (newrep_fresh [⟨#[92]⟩, ⟨#[92, 92]⟩, ⟨#[10]⟩, ⟨#[92, 110]⟩, ⟨#[34]⟩, ⟨#[92, 34]⟩] w.heap.size _ (six_at w _ _ _ _ _ _) (by simp) (by simp) (by simp)).mono ?_)
 rintro e w1 ⟨rfl, ⟨c, hF⟩, hb⟩
 have hsz : (w.alloc (.cells #[.string ⟨#[92]⟩, .string ⟨#[92, 92]⟩, .string ⟨#[10]⟩, .string ⟨#[92, 110]⟩, .string ⟨#[34]⟩, .string ⟨#[92, 34]⟩] 9)).heap.size = w.heap.size + 1 := by simp
 have hb0 : Below w.heap.size w w1 := ((Below.refl _ w).alloc (Nat.le_refl _) _).trans (hb.mono (by omega))
 rw [hsz] at hF
 clear hb
 have hd := value_do _ _ _ s w1 hF (by omega) hs
 clear hF
 go_wp2_with (go_at_call 39; refine hd.mono ?_)
 rintro e w2 ⟨rfl, hb2⟩
 go_wp2
 go_ret
 exact ⟨rfl, hb0.trans (hb2.mono (by omega))⟩

theorem rp_eH (c : UInt8) : rp escH c = Exp.eH c := by
 unfold rp escH Exp.eH
 split
 ·rename_i h; split at h
  ·rename_i e; cases h; simp [e]
  ·split at h
   ·rename_i e1 e; cases h; simp [e]
   ·cases h
 ·rename_i h; split at h
  ·cases h
  ·split at h
   ·cases h
   ·rename_i e1 e2; simp [e1, e2]
theorem rp_eV (c : UInt8) : rp escV c = Exp.eV c := by
 unfold rp escV Exp.eV
 split
 ·rename_i h; split at h
  ·rename_i e; cases h; simp [e]
  ·split at h
   ·rename_i e1 e; cases h; simp [e]
   ·split at h
    ·rename_i e2 e1 e; cases h; simp [e]
    ·cases h
 ·rename_i h; split at h
  ·cases h
  ·split at h
   ·cases h
   ·split at h
    ·cases h
    ·rename_i e0 e1 e2; simp [e0, e1, e2]
theorem rpl_H (l : List UInt8) : rpl escH l = Exp.hlpT l := by
 unfold rpl Exp.hlpT; congr 1; funext c; exact rp_eH c
theorem rpl_V (l : List UInt8) : rpl escV l = Exp.valT l := by
 unfold rpl Exp.valT; congr 1; funext c; exact rp_eV c

end Go.Proofs.YtknnooannohflaaGreatDoor.Rp

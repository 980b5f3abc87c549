/- expo.Write: what the memory holds, and the walk. -/
import Derived.Test.YtknnooannohflaaGreatDoorRpN
import Derived.Test.YtknnooannohflaaGreatDoorRpO1
import Derived.Test.YtknnooannohflaaGreatDoorTrmDz
import Derived.Test.YtknnooannohflaaGreatDoorExX
namespace Go.Proofs.YtknnooannohflaaGreatDoor.Exp
open Go Go.Px Go.Proofs Go.RowKit Trm Met
set_option linter.unusedVariables false
set_option maxRecDepth 100000

def RowsAt (p : Option Addr) (z n : Nat) (w : World) (f : Nat → (Nat → Option Value) → Prop) : Prop :=
 ∀ j, j < n → ∃ b off, p = some ⟨b, off, none⟩ ∧ b < w.heap.size ∧ f j (fun i => w.cell? ⟨b, off + j * z + i, none⟩)
def LabAt (ls : List LaD) (w : World) (v : Value) : Prop := ∃ p cap, v = .slice p ls.length cap ∧
 ∀ (j : Nat) l, ls[j]? = some l → ∃ b off, p = some ⟨b, off, none⟩ ∧ w.cell? ⟨b, off + j * 2, none⟩ = some (.string l.1) ∧ w.cell? ⟨b, off + j * 2 + 1, none⟩ = some (.string l.2)
def SamAt (ss : List SmD) (w : World) (v : Value) : Prop := ∃ p cap, v = .slice p ss.length cap ∧
 ∀ (j : Nat) x, ss[j]? = some x → ∃ b off lv, p = some ⟨b, off, none⟩ ∧ w.cell? ⟨b, off + j * 3, none⟩ = some (.string x.nm) ∧ w.cell? ⟨b, off + j * 3 + 1, none⟩ = some lv ∧ w.cell? ⟨b, off + j * 3 + 2, none⟩ = some (.int .i64 x.v) ∧ LabAt x.ls w lv
def FamAt (l : List FaD) (w : World) (v : Value) : Prop := ∃ p cap, v = .slice p l.length cap ∧
 ∀ (j : Nat) x, l[j]? = some x → ∃ b off sv, p = some ⟨b, off, none⟩ ∧ w.cell? ⟨b, off + j * 4, none⟩ = some (.string x.nm) ∧ w.cell? ⟨b, off + j * 4 + 1, none⟩ = some (.string x.hp) ∧ w.cell? ⟨b, off + j * 4 + 2, none⟩ = some (.int .i64 x.ty) ∧ w.cell? ⟨b, off + j * 4 + 3, none⟩ = some sv ∧ SamAt x.ss w sv
theorem cell_below {w w' : World} (hb : Below w.heap.size w w') {a : Addr} {v : Value} (h : w.cell? a = some v) : w'.cell? a = some v :=
 (hb.cell (World.block_lt_of_cell? w _ h)).trans h
theorem LabAt.below {ls : List LaD} {w w' : World} {v : Value} (h : LabAt ls w v) (hb : Below w.heap.size w w') : LabAt ls w' v := by
 obtain ⟨p, cap, rfl, h⟩ := h
 refine ⟨p, cap, rfl, fun j l hj => ?_⟩
 obtain ⟨b, off, e, h1, h2⟩ := h j l hj
 exact ⟨b, off, e, cell_below hb h1, cell_below hb h2⟩
theorem SamAt.below {ss : List SmD} {w w' : World} {v : Value} (h : SamAt ss w v) (hb : Below w.heap.size w w') : SamAt ss w' v := by
 obtain ⟨p, cap, rfl, h⟩ := h
 refine ⟨p, cap, rfl, fun j l hj => ?_⟩
 obtain ⟨b, off, lv, e, h1, h2, h3, h4⟩ := h j l hj
 exact ⟨b, off, lv, e, cell_below hb h1, cell_below hb h2, cell_below hb h3, h4.below hb⟩
theorem FamAt.below {l : List FaD} {w w' : World} {v : Value} (h : FamAt l w v) (hb : Below w.heap.size w w') : FamAt l w' v := by
 obtain ⟨p, cap, rfl, h⟩ := h
 refine ⟨p, cap, rfl, fun j l hj => ?_⟩
 obtain ⟨b, off, sv, e, h1, h2, h3, h4, h5⟩ := h j l hj
 exact ⟨b, off, sv, e, cell_below hb h1, cell_below hb h2, cell_below hb h3, cell_below hb h4, h5.below hb⟩

theorem lab_of {h : Hp} {w : World} (hs : HSub h w) {v : Value} {ls : List LaD} (r : PRep h v (SL 2 (laR ls))) : LabAt ls w v := by
 generalize hg : laR ls = rows at r
 have hlen : rows.length = ls.length := by rw [← hg]; simp
 cases r with
 | empty p cap =>
  have : ls = [] := by simpa using hlen.symm
  subst this
  exact ⟨p, cap, rfl, fun j l hj => by cases hj⟩
 | slice b off cap _ _ _ vv hpos hz hh hr ho ht hh1 hle =>
  subst hg
  rw [hlen]
  refine ⟨_, _, rfl, fun j l hj => ?_⟩
  have hrow : (laR ls)[j]? = some [S l.1, S l.2] := by rw [List.getElem?_map, hj]; rfl
  have q1 := hs _ _ _ (hh j _ 0 _ hrow rfl)
  have q2 : vv j 0 = .string l.1 := (Rep.pure (ρ := fun _ => noLoc) _ _ (hr j _ 0 _ hrow rfl)).val_inv
  have q3 := hs _ _ _ (hh j _ 1 _ hrow rfl)
  have q4 : vv j 1 = .string l.2 := (Rep.pure (ρ := fun _ => noLoc) _ _ (hr j _ 1 _ hrow rfl)).val_inv
  rw [q2] at q1
  rw [q4] at q3
  exact ⟨b, off, rfl, by simpa using q1, by simpa using q3⟩
theorem sam_of {h : Hp} {w : World} (hs : HSub h w) {v : Value} {ss : List SmD} (r : PRep h v (SL 3 (smR ss))) : SamAt ss w v := by
 generalize hg : smR ss = rows at r
 have hlen : rows.length = ss.length := by rw [← hg]; simp
 cases r with
 | empty p cap =>
  have : ss = [] := by simpa using hlen.symm
  subst this
  exact ⟨p, cap, rfl, fun j l hj => by cases hj⟩
 | slice b off cap _ _ _ vv hpos hz hh hr ho ht hh1 hle =>
  subst hg
  rw [hlen]
  refine ⟨_, _, rfl, fun j x hj => ?_⟩
  have hrow : (smR ss)[j]? = some (SmD.row x) := by rw [List.getElem?_map, hj]; rfl
  have q1 := hs _ _ _ (hh j _ 0 _ hrow rfl)
  have q2 : vv j 0 = .string x.nm := (Rep.pure (ρ := fun _ => noLoc) _ _ (hr j _ 0 _ hrow rfl)).val_inv
  have q3 := hs _ _ _ (hh j _ 1 _ hrow rfl)
  have q4 := lab_of hs (hr j _ 1 _ hrow rfl)
  have q5 := hs _ _ _ (hh j _ 2 _ hrow rfl)
  have q6 : vv j 2 = .int .i64 x.v := (Rep.pure (ρ := fun _ => noLoc) _ _ (hr j _ 2 _ hrow rfl)).val_inv
  rw [q2] at q1
  rw [q6] at q5
  exact ⟨b, off, vv j 1, rfl, by simpa using q1, by simpa using q3, by simpa using q5, q4⟩
theorem fam_of {h : Hp} {w : World} (hs : HSub h w) {v : Value} {l : List FaD} (r : PRep h v (SL 4 (faR l))) : FamAt l w v := by
 generalize hg : faR l = rows at r
 have hlen : rows.length = l.length := by rw [← hg]; simp
 cases r with
 | empty p cap =>
  have : l = [] := by simpa using hlen.symm
  subst this
  exact ⟨p, cap, rfl, fun j l hj => by cases hj⟩
 | slice b off cap _ _ _ vv hpos hz hh hr ho ht hh1 hle =>
  subst hg
  rw [hlen]
  refine ⟨_, _, rfl, fun j x hj => ?_⟩
  have hrow : (faR l)[j]? = some (FaD.row x) := by rw [List.getElem?_map, hj]; rfl
  have q1 := hs _ _ _ (hh j _ 0 _ hrow rfl)
  have q2 : vv j 0 = .string x.nm := (Rep.pure (ρ := fun _ => noLoc) _ _ (hr j _ 0 _ hrow rfl)).val_inv
  have q3 := hs _ _ _ (hh j _ 1 _ hrow rfl)
  have q4 : vv j 1 = .string x.hp := (Rep.pure (ρ := fun _ => noLoc) _ _ (hr j _ 1 _ hrow rfl)).val_inv
  have q5 := hs _ _ _ (hh j _ 2 _ hrow rfl)
  have q6 : vv j 2 = .int .i64 x.ty := (Rep.pure (ρ := fun _ => noLoc) _ _ (hr j _ 2 _ hrow rfl)).val_inv
  have q7 := hs _ _ _ (hh j _ 3 _ hrow rfl)
  have q8 := sam_of hs (hr j _ 3 _ hrow rfl)
  rw [q2] at q1
  rw [q4] at q3
  rw [q6] at q5
  exact ⟨b, off, vv j 3, rfl, by simpa using q1, by simpa using q3, by simpa using q5, by simpa using q7, q8⟩

theorem txtT_take (l : List FaD) (k : Nat) : (txtT (l.take k)).length ≤ (txtT l).length := by
 have : txtT l = txtT (l.take k) ++ txtT (l.drop k) := by rw [txtT, txtT, txtT, ← List.flatMap_append, List.take_append_drop]
 rw [this, List.length_append]; omega
theorem samT_take (l : List SmD) (k : Nat) : (samT (l.take k)).length ≤ (samT l).length := by
 have : samT l = samT (l.take k) ++ samT (l.drop k) := by rw [samT, samT, samT, ← List.flatMap_append, List.take_append_drop]
 rw [this, List.length_append]; omega
def lblOK (f : FaD) : Prop := ∀ x ∈ f.ss, ∀ q ∈ x.ls, q.2.size ≤ 5000000

theorem help_walk2 (s : ByteArray) (w : World) (hs : s.size ≤ 5000000) : Calls Tryz.prog 11 #[.string s] w fun e w' => e = .returned (.string ⟨(hlpT s.data.toList).toArray⟩) ∧ Below w.heap.size w w' := by
 rw [← Rp.rpl_H]; exact Rp.help_walk s w hs
theorem word_walk (k : Int) (w : World) : Calls Tryz.prog 45 #[.int .i64 k] w fun e w' => e = .returned (.string ⟨(wrdT k).toArray⟩) ∧ Below w.heap.size w w' := by
 by_cases h1 : k = 1
 ·subst h1
  go_enter Tryz.func45, Tryz.ntmps45
  go_wp2
  go_ret
  exact ⟨rfl, Below.refl _ _⟩
 ·have b1 : (k == 1) = false := by simpa using h1
  by_cases h2 : k = 2
  ·subst h2
   go_enter Tryz.func45, Tryz.ntmps45
   go_wp2
   go_ret
   exact ⟨rfl, Below.refl _ _⟩
  ·have b2 : (k == 2) = false := by simpa using h2
   have e : wrdT k = [104, 105, 115, 116, 111, 103, 114, 97, 109] := by unfold wrdT; rw [if_neg h1, if_neg h2]
   rw [e]
   go_enter Tryz.func45, Tryz.ntmps45
   go_wp2
   go_ret
   exact ⟨rfl, Below.refl _ _⟩

set_option maxHeartbeats 4000000 in
theorem write_walk (l : List FaD) (h : Hp) (w : World) (v : Value) (hs : HSub h w) (hg : Gl h w) (hr : PRep h v (SL 4 (faR l)))
  (hz : ∀ f ∈ l, f.ss.length ≤ 4000000000000000000) (hrg : ∀ f ∈ l, rgF f) (htab : Lib.TabIs Tryz.prog w "internal/strconv.uint64pow10" .u64 Lib.pow10Tab) (hall : allP l) :
  Calls Tryz.prog 17 #[v] w fun e w' => e = .returned (.tuple #[.string (bA (txtT l)), .int .i64 0]) ∧ Below w.heap.size w w' := by
 have hbound := txt_len hall hrg
 have hA := calls_of_ct (vs := #[v]) (rv := .bool true) (by have := all_full l hz; rw [decide_eq_true hall] at this; exact this) hs hg (ρ := fun _ => noLoc) ⟨rfl, fun i a s ha hb => by
  match i, ha, hb with
  | 0, ha, hb => cases ha; cases hb; exact .pure _ _ hr
  | i + 1, ha, hb => simp at ha⟩
 have hF := fam_of hs hr
 clear hr hs hg
 obtain ⟨p, cap, rfl, hF⟩ := hF
 have hl40 : l.length ≤ 40 := hall.1
 go_enter Tryz.func17, Tryz.ntmps17
 go_wp2_with (go_at_call 20; refine hA.mono ?_)
 rintro e w0 ⟨rfl, hb0⟩
 have hbn := bld_new w0
 clear hA
 go_wp2
 go_loopw [14] (fun i wr => ∃ k : Nat, k ≤ l.length ∧ i = .int .i64 k ∧ Bld w0.heap.size w0.heap.size (txtT (l.take k)) wr ∧ Below w0.heap.size w0 wr) (fun i _ => l.length - (intOf i).toNat)
 case atStart => exact ⟨0, Nat.zero_le _, rfl, by simpa [txtT] using hbn, (Below.refl _ _).alloc (Nat.le_refl _) _⟩
 case round =>
  obtain ⟨k, hk, rfl, hI, hbw⟩ := hrel
  have hBr : w0.heap.size ≤ wr.heap.size := hbw.size
  clear hbn
  by_cases hlt : k < l.length
  ·have hkk : l[k]? = some (l[k]'hlt) := List.getElem?_eq_getElem hlt
   obtain ⟨b, off, sv, hpe, c0, c1, c2, c3, hS⟩ := hF k _ hkk
   subst hpe
   have hfP : famP (l[k]'hlt) := (hall.2 k hlt hlt).1
   have hfR := hrg _ (List.getElem_mem hlt)
   have hwr : Below w.heap.size w wr := hb0.trans (hbw.mono hb0.size)
   have d0 := cell_below hwr c0
   have d1 := cell_below hwr c1
   have d2 := cell_below hwr c2
   have d3 := cell_below hwr c3
   have hnx : txtT (l.take (k + 1)) = txtT (l.take k) ++ famT (l[k]'hlt) := by
    rw [List.take_add_one, hkk, txtT, List.flatMap_append]; simp [txtT]
   obtain ⟨sp, scap, rfl, hS3⟩ := hS
   have hlL := txtT_take l (k + 1)
   generalize l[k]'hlt = f at *
   clear c0 c1 c2 c3
   go_wp2
   have hneF : some wr.heap.size ≠ some w0.heap.size := by
    intro e
    have e := Option.some.inj e
    have : w0.heap.size < wr.heap.size := by rcases hI with h | h; exact h.lt; exact h.lt
    omega
   have hsz0 : (txtT (l.take k)).length + (hdH f).length + (hdT f).length + (samT f.ss).length ≤ 100000000 := by
    have e := congrArg List.length hnx
    rw [List.length_append] at e
    simp only [famT, List.length_append] at e
    omega
   have hhp : f.hp.size ≤ 5000000 := by have := hfP.1.2.1; omega
   have hHb : (wr.alloc (.cells #[.string f.nm, .string f.hp, .int .i64 f.ty, .slice sp f.ss.length scap] 28)).heap[wr.heap.size]? = some (.cells #[.string f.nm, .string f.hp, .int .i64 f.ty, .slice sp f.ss.length scap] 28 (0, 0)) := heap_alloc_last wr _
   have hI2 : Bld w0.heap.size w0.heap.size (txtT (l.take k)) (wr.alloc (.cells #[.string f.nm, .string f.hp, .int .i64 f.ty, .slice sp f.ss.length scap] 28)) := bld_carry hI ((Below.refl _ wr).alloc (Nat.le_refl _) _)
   have hbw2 : Below w0.heap.size w0 (wr.alloc (.cells #[.string f.nm, .string f.hp, .int .i64 f.ty, .slice sp f.ss.length scap] 28)) := hbw.alloc hBr _
   generalize hT : txtT (l.take k) = T at *
   generalize hWB : wr.alloc (.cells #[.string f.nm, .string f.hp, .int .i64 f.ty, .slice sp f.ss.length scap] 28) = wb at *
   obtain ⟨ft, hft⟩ : ∃ v : ByteArray, ⟨(hlpT f.hp.data.toList).toArray⟩ = v := ⟨_, rfl⟩
   obtain ⟨v2, hv2⟩ : ∃ v : ByteArray, ⟨#[35, 32, 72, 69, 76, 80, 32]⟩ ++ f.nm = v := ⟨_, rfl⟩
   obtain ⟨v3, hv3⟩ : ∃ v : ByteArray, v2 ++ ⟨#[32]⟩ = v := ⟨_, rfl⟩
   obtain ⟨v7, hv7⟩ : ∃ v : ByteArray, v3 ++ ft = v := ⟨_, rfl⟩
   obtain ⟨v8, hv8⟩ : ∃ v : ByteArray, v7 ++ ⟨#[10]⟩ = v := ⟨_, rfl⟩
   have hcall : ∀ w : World, Calls Tryz.prog 11 #[.string f.hp] w fun e w' => e = .returned (.string ft) ∧ Below w.heap.size w w' := fun w => by rw [← hft]; exact help_walk2 f.hp w hhp
   have q1 : v2.size = 7 + f.nm.size := by rw [← hv2, ByteArray.size_append]; rfl
   have q2 : v3.size = v2.size + 1 := by rw [← hv3, ByteArray.size_append]; rfl
   have q3 : v7.size = v3.size + ft.size := by rw [← hv7, ByteArray.size_append]
   have q4 : v8.size = v7.size + 1 := by rw [← hv8, ByteArray.size_append]; rfl
   have q5 : v8.data.toList = hdH f := by rw [← hv8, ← hv7, ← hv3, ← hv2, ← hft]; simp [hdH]
   have q6 : v8.size = (hdH f).length := by rw [← q5]; exact (tl_size v8).symm
   have n2 : ¬ 9223372036854775807 < 7 + f.nm.size := by omega
   have n3 : ¬ 9223372036854775807 < v2.size + 1 := by omega
   have n7 : ¬ 9223372036854775807 < v3.size + ft.size := by omega
   have n8 : ¬ 9223372036854775807 < v7.size + 1 := by omega
   have hlen1 : T.length + v8.size ≤ 140737488355328 := by omega
   clear hft
   refine wp_region_any (by kernel_rfl) ?_
   refine wpAny_start (fun listed w' => (listed.getD 9 false = false → Bld w0.heap.size w0.heap.size T w') ∧ (listed.getD 9 false = true → Bld w0.heap.size w0.heap.size (T ++ hdH f) w') ∧ Below w0.heap.size w0 w' ∧ w'.heap[wr.heap.size]? = some (.cells #[.string f.nm, .string f.hp, .int .i64 f.ty, .slice sp f.ss.length scap] 28 (0, 0)))
    [(18, .pointer (some ⟨wr.heap.size, 0, none⟩)), (19, .string f.nm), (20, .string v2), (21, .string v3), (22, .pointer (some ⟨wr.heap.size, 1, none⟩)), (23, .string f.hp), (24, .string ft), (25, .string v7), (26, .string v8), (27, .tuple #[.int .i64 (v8 : ByteArray).size, .nilIface])]
    rfl (by show List.Nodup [18, 19, 20, 21, 22, 23, 24, 25, 26, 27]; decide) (by simp) rfl ?_ ?_ ?_ (all_up rfl)
   ·exact ⟨fun _ => bld_carry hI2 (Below.refl _ _).drew, fun hc => absurd hc (by simp), hbw2.drew, hHb⟩
   ·intro i d u o listed a w1 ho hl hsee hl0 hls hdeps hJ K' hK'
    obtain ⟨hJ1, hJ2, hJ3, hJ4⟩ := hJ
    have cl := cell_row hJ4
    have c0 := cl 0
    have c1 := cl 1
    simp only [List.getElem?_toArray, List.getElem?_cons_succ, List.getElem?_cons_zero] at c0 c1
    match i, ho, hl with
    | 0, ho, hl =>
     simp only [List.getElem?_toArray, List.getElem?_cons_zero, Option.some.injEq, Prod.mk.injEq] at ho hl
     obtain ⟨rfl, rfl⟩ := hl
     subst ho
     have e0 : a.tmps.getD 6 undef = _ := hsee.old 6 rfl
     simp only [Array.getD_eq_getD_getElem?, List.getElem?_toArray, List.getElem?_cons_succ, List.getElem?_cons_zero, Option.getD_some] at e0
     refine cast ?_ (hK' w1 ⟨fun h => hJ1 (by rw [getD_setIf _ _ _ (by rw [hls]; decide)] at h; exact h), fun h => hJ2 (by rw [getD_setIf _ _ _ (by rw [hls]; decide)] at h; exact h), hJ3, hJ4⟩)
     simp [Oper.wp, execOp, Act.eval, e0, go_sem]
    | 1, ho, hl =>
     simp only [List.getElem?_toArray, List.getElem?_cons_succ, List.getElem?_cons_zero, Option.some.injEq, Prod.mk.injEq] at ho hl
     obtain ⟨rfl, rfl⟩ := hl
     subst ho
     have e0 := hsee.full 0 18 _ rfl rfl
     simp only [Array.getD_eq_getD_getElem?] at e0
     refine cast ?_ (hK' w1 ⟨fun h => hJ1 (by rw [getD_setIf _ _ _ (by rw [hls]; decide)] at h; exact h), fun h => hJ2 (by rw [getD_setIf _ _ _ (by rw [hls]; decide)] at h; exact h), hJ3, hJ4⟩)
     simp [Oper.wp, execOp, Act.eval, e0, c0, go_sem]
    | 2, ho, hl =>
     simp only [List.getElem?_toArray, List.getElem?_cons_succ, List.getElem?_cons_zero, Option.some.injEq, Prod.mk.injEq] at ho hl
     obtain ⟨rfl, rfl⟩ := hl
     subst ho
     have e0 := hsee.full 1 19 _ rfl rfl
     simp only [Array.getD_eq_getD_getElem?] at e0
     refine cast ?_ (hK' w1 ⟨fun h => hJ1 (by rw [getD_setIf _ _ _ (by rw [hls]; decide)] at h; exact h), fun h => hJ2 (by rw [getD_setIf _ _ _ (by rw [hls]; decide)] at h; exact h), hJ3, hJ4⟩)
     simp [Oper.wp, execOp, Act.eval, e0, go_sem, hv2, n2]
    | 3, ho, hl =>
     simp only [List.getElem?_toArray, List.getElem?_cons_succ, List.getElem?_cons_zero, Option.some.injEq, Prod.mk.injEq] at ho hl
     obtain ⟨rfl, rfl⟩ := hl
     subst ho
     have e0 := hsee.full 2 20 _ rfl rfl
     simp only [Array.getD_eq_getD_getElem?] at e0
     refine cast ?_ (hK' w1 ⟨fun h => hJ1 (by rw [getD_setIf _ _ _ (by rw [hls]; decide)] at h; exact h), fun h => hJ2 (by rw [getD_setIf _ _ _ (by rw [hls]; decide)] at h; exact h), hJ3, hJ4⟩)
     simp [Oper.wp, execOp, Act.eval, e0, go_sem, hv3, n3]
    | 4, ho, hl =>
     simp only [List.getElem?_toArray, List.getElem?_cons_succ, List.getElem?_cons_zero, Option.some.injEq, Prod.mk.injEq] at ho hl
     obtain ⟨rfl, rfl⟩ := hl
     subst ho
     have e0 : a.tmps.getD 6 undef = _ := hsee.old 6 rfl
     simp only [Array.getD_eq_getD_getElem?, List.getElem?_toArray, List.getElem?_cons_succ, List.getElem?_cons_zero, Option.getD_some] at e0
     refine cast ?_ (hK' w1 ⟨fun h => hJ1 (by rw [getD_setIf _ _ _ (by rw [hls]; decide)] at h; exact h), fun h => hJ2 (by rw [getD_setIf _ _ _ (by rw [hls]; decide)] at h; exact h), hJ3, hJ4⟩)
     simp [Oper.wp, execOp, Act.eval, e0, go_sem]
    | 5, ho, hl =>
     simp only [List.getElem?_toArray, List.getElem?_cons_succ, List.getElem?_cons_zero, Option.some.injEq, Prod.mk.injEq] at ho hl
     obtain ⟨rfl, rfl⟩ := hl
     subst ho
     have e0 := hsee.full 4 22 _ rfl rfl
     simp only [Array.getD_eq_getD_getElem?] at e0
     refine cast ?_ (hK' w1 ⟨fun h => hJ1 (by rw [getD_setIf _ _ _ (by rw [hls]; decide)] at h; exact h), fun h => hJ2 (by rw [getD_setIf _ _ _ (by rw [hls]; decide)] at h; exact h), hJ3, hJ4⟩)
     simp [Oper.wp, execOp, Act.eval, e0, c1, go_sem]
    | 6, ho, hl =>
     simp only [List.getElem?_toArray, List.getElem?_cons_succ, List.getElem?_cons_zero, Option.some.injEq, Prod.mk.injEq] at ho hl
     obtain ⟨rfl, rfl⟩ := hl
     subst ho
     have e0 := hsee.full 5 23 _ rfl rfl
     simp only [Array.getD_eq_getD_getElem?] at e0
     unfold Oper.wp
     rw [show (execOp a.eval _).run Tryz.prog w1 = .ok (.enter 11 #[.string f.hp]) w1 from by simp [Act.eval, e0, go_sem], Oper.upon_enter]
     refine (hcall w1).mono ?_
     rintro e w2 ⟨rfl, hb2⟩
     have g4 := (hb2.block _ (Array.getElem?_eq_some_iff.1 hJ4).1).trans hJ4
     refine hK' w2 ⟨fun h => bld_carry (hJ1 (by rw [getD_setIf _ _ _ (by rw [hls]; decide)] at h; exact h)) hb2, fun h => bld_carry (hJ2 (by rw [getD_setIf _ _ _ (by rw [hls]; decide)] at h; exact h)) hb2, hJ3.trans (hb2.mono hJ3.size), g4⟩
    | 7, ho, hl =>
     simp only [List.getElem?_toArray, List.getElem?_cons_succ, List.getElem?_cons_zero, Option.some.injEq, Prod.mk.injEq] at ho hl
     obtain ⟨rfl, rfl⟩ := hl
     subst ho
     have e0 := hsee.full 3 21 _ rfl rfl
     simp only [Array.getD_eq_getD_getElem?] at e0
     have e1 := hsee.full 6 24 _ rfl rfl
     simp only [Array.getD_eq_getD_getElem?] at e1
     refine cast ?_ (hK' w1 ⟨fun h => hJ1 (by rw [getD_setIf _ _ _ (by rw [hls]; decide)] at h; exact h), fun h => hJ2 (by rw [getD_setIf _ _ _ (by rw [hls]; decide)] at h; exact h), hJ3, hJ4⟩)
     simp [Oper.wp, execOp, Act.eval, e0, e1, go_sem, hv7, n7]
    | 8, ho, hl =>
     simp only [List.getElem?_toArray, List.getElem?_cons_succ, List.getElem?_cons_zero, Option.some.injEq, Prod.mk.injEq] at ho hl
     obtain ⟨rfl, rfl⟩ := hl
     subst ho
     have e0 := hsee.full 7 25 _ rfl rfl
     simp only [Array.getD_eq_getD_getElem?] at e0
     refine cast ?_ (hK' w1 ⟨fun h => hJ1 (by rw [getD_setIf _ _ _ (by rw [hls]; decide)] at h; exact h), fun h => hJ2 (by rw [getD_setIf _ _ _ (by rw [hls]; decide)] at h; exact h), hJ3, hJ4⟩)
     simp [Oper.wp, execOp, Act.eval, e0, go_sem, hv8, n8]
    | 9, ho, hl =>
     simp only [List.getElem?_toArray, List.getElem?_cons_succ, List.getElem?_cons_zero, Option.some.injEq, Prod.mk.injEq] at ho hl
     obtain ⟨rfl, rfl⟩ := hl
     subst ho
     have e0 : a.tmps.getD 4 undef = _ := hsee.old 4 rfl
     simp only [Array.getD_eq_getD_getElem?, List.getElem?_toArray, List.getElem?_cons_succ, List.getElem?_cons_zero, Option.getD_some] at e0
     have e1 := hsee.full 8 26 _ rfl rfl
     simp only [Array.getD_eq_getD_getElem?] at e1
     unfold Oper.wp
     rw [show (execOp a.eval _).run Tryz.prog w1 = .ok (.enter 40 #[.pointer (some ⟨w0.heap.size, 0, none⟩), .string v8]) w1 from by simp [Act.eval, e0, e1, go_sem], Oper.upon_enter]
     refine (wstr w0.heap.size w0.heap.size T v8 w1 (hJ1 hl0) hlen1 hJ3.size).mono ?_
     rintro e w2 ⟨rfl, b2, s2, o2⟩
     refine hK' w2 ⟨fun h => ?_, fun _ => ?_, hJ3.trans s2, o2 _ _ hJ4 hneF (fun c fz e => by cases e)⟩
     ·rw [getD_setIf _ _ _ (by rw [hls]; decide)] at h; exact absurd h (by simp)
     ·rw [← q5]; exact b2
    | i + 10, ho, hl => simp at ho
   ·intro listed w2 hall hJ
    obtain ⟨_, hJ2, hJ3, hJ4⟩ := hJ
    have hJ2 := hJ2 (hall 9 (by decide))
    simp only [puts, Act.put, List.setIfInBounds_toArray, List.set_cons_succ, List.set_cons_zero]
    clear hcall q1 q2 q3 q4 q5 q6 n2 n3 n7 n8 hlen1 hI2 hbw2 hHb hI hWB d0 d1 d2 d3
    obtain ⟨T2, hT2⟩ : ∃ t : Tx, T ++ hdH f = t := ⟨_, rfl⟩
    rw [hT2] at hJ2
    have hsz2 : T2.length + (hdT f).length + (samT f.ss).length ≤ 100000000 := by rw [← hT2, List.length_append]; exact hsz0
    go_wp2
    obtain ⟨ft, hft⟩ : ∃ v : ByteArray, ⟨(wrdT f.ty).toArray⟩ = v := ⟨_, rfl⟩
    obtain ⟨v2, hv2⟩ : ∃ v : ByteArray, ⟨#[35, 32, 84, 89, 80, 69, 32]⟩ ++ f.nm = v := ⟨_, rfl⟩
    obtain ⟨v3, hv3⟩ : ∃ v : ByteArray, v2 ++ ⟨#[32]⟩ = v := ⟨_, rfl⟩
    obtain ⟨v7, hv7⟩ : ∃ v : ByteArray, v3 ++ ft = v := ⟨_, rfl⟩
    obtain ⟨v8, hv8⟩ : ∃ v : ByteArray, v7 ++ ⟨#[10]⟩ = v := ⟨_, rfl⟩
    have hcall : ∀ w : World, Calls Tryz.prog 45 #[.int .i64 f.ty] w fun e w' => e = .returned (.string ft) ∧ Below w.heap.size w w' := fun w => by rw [← hft]; exact word_walk f.ty w
    have q1 : v2.size = 7 + f.nm.size := by rw [← hv2, ByteArray.size_append]; rfl
    have q2 : v3.size = v2.size + 1 := by rw [← hv3, ByteArray.size_append]; rfl
    have q3 : v7.size = v3.size + ft.size := by rw [← hv7, ByteArray.size_append]
    have q4 : v8.size = v7.size + 1 := by rw [← hv8, ByteArray.size_append]; rfl
    have q5 : v8.data.toList = hdT f := by rw [← hv8, ← hv7, ← hv3, ← hv2, ← hft]; simp [hdT]
    have q6 : v8.size = (hdT f).length := by rw [← q5]; exact (tl_size v8).symm
    have n2 : ¬ 9223372036854775807 < 7 + f.nm.size := by omega
    have n3 : ¬ 9223372036854775807 < v2.size + 1 := by omega
    have n7 : ¬ 9223372036854775807 < v3.size + ft.size := by omega
    have n8 : ¬ 9223372036854775807 < v7.size + 1 := by omega
    have hlen1 : T2.length + v8.size ≤ 140737488355328 := by omega
    clear hft
    refine wp_region_any (by kernel_rfl) ?_
    refine wpAny_start (fun listed w' => (listed.getD 9 false = false → Bld w0.heap.size w0.heap.size T2 w') ∧ (listed.getD 9 false = true → Bld w0.heap.size w0.heap.size (T2 ++ hdT f) w') ∧ Below w0.heap.size w0 w' ∧ w'.heap[wr.heap.size]? = some (.cells #[.string f.nm, .string f.hp, .int .i64 f.ty, .slice sp f.ss.length scap] 28 (0, 0)))
     [(28, .pointer (some ⟨wr.heap.size, 0, none⟩)), (29, .string f.nm), (30, .string v2), (31, .string v3), (32, .pointer (some ⟨wr.heap.size, 2, none⟩)), (33, .int .i64 f.ty), (34, .string ft), (35, .string v7), (36, .string v8), (37, .tuple #[.int .i64 (v8 : ByteArray).size, .nilIface])]
     rfl (by show List.Nodup [28, 29, 30, 31, 32, 33, 34, 35, 36, 37]; decide) (by simp) rfl ?_ ?_ ?_ (all_up rfl)
    ·exact ⟨fun _ => bld_carry hJ2 (Below.refl _ _).drew, fun hc => absurd hc (by simp), hJ3.drew, hJ4⟩
    ·intro i d u o listed a w1 ho hl hsee hl0 hls hdeps hJ K' hK'
     obtain ⟨hJ1, hJ2, hJ3, hJ4⟩ := hJ
     have cl := cell_row hJ4
     have c0 := cl 0
     have c1 := cl 2
     simp only [List.getElem?_toArray, List.getElem?_cons_succ, List.getElem?_cons_zero] at c0 c1
     match i, ho, hl with
     | 0, ho, hl =>
      simp only [List.getElem?_toArray, List.getElem?_cons_zero, Option.some.injEq, Prod.mk.injEq] at ho hl
      obtain ⟨rfl, rfl⟩ := hl
      subst ho
      have e0 : a.tmps.getD 6 undef = _ := hsee.old 6 rfl
      simp only [Array.getD_eq_getD_getElem?, List.getElem?_toArray, List.getElem?_cons_succ, List.getElem?_cons_zero, Option.getD_some] at e0
      refine cast ?_ (hK' w1 ⟨fun h => hJ1 (by rw [getD_setIf _ _ _ (by rw [hls]; decide)] at h; exact h), fun h => hJ2 (by rw [getD_setIf _ _ _ (by rw [hls]; decide)] at h; exact h), hJ3, hJ4⟩)
      simp [Oper.wp, execOp, Act.eval, e0, go_sem]
     | 1, ho, hl =>
      simp only [List.getElem?_toArray, List.getElem?_cons_succ, List.getElem?_cons_zero, Option.some.injEq, Prod.mk.injEq] at ho hl
      obtain ⟨rfl, rfl⟩ := hl
      subst ho
      have e0 := hsee.full 0 28 _ rfl rfl
      simp only [Array.getD_eq_getD_getElem?] at e0
      refine cast ?_ (hK' w1 ⟨fun h => hJ1 (by rw [getD_setIf _ _ _ (by rw [hls]; decide)] at h; exact h), fun h => hJ2 (by rw [getD_setIf _ _ _ (by rw [hls]; decide)] at h; exact h), hJ3, hJ4⟩)
      simp [Oper.wp, execOp, Act.eval, e0, c0, go_sem]
     | 2, ho, hl =>
      simp only [List.getElem?_toArray, List.getElem?_cons_succ, List.getElem?_cons_zero, Option.some.injEq, Prod.mk.injEq] at ho hl
      obtain ⟨rfl, rfl⟩ := hl
      subst ho
      have e0 := hsee.full 1 29 _ rfl rfl
      simp only [Array.getD_eq_getD_getElem?] at e0
      refine cast ?_ (hK' w1 ⟨fun h => hJ1 (by rw [getD_setIf _ _ _ (by rw [hls]; decide)] at h; exact h), fun h => hJ2 (by rw [getD_setIf _ _ _ (by rw [hls]; decide)] at h; exact h), hJ3, hJ4⟩)
      simp [Oper.wp, execOp, Act.eval, e0, go_sem, hv2, n2]
     | 3, ho, hl =>
      simp only [List.getElem?_toArray, List.getElem?_cons_succ, List.getElem?_cons_zero, Option.some.injEq, Prod.mk.injEq] at ho hl
      obtain ⟨rfl, rfl⟩ := hl
      subst ho
      have e0 := hsee.full 2 30 _ rfl rfl
      simp only [Array.getD_eq_getD_getElem?] at e0
      refine cast ?_ (hK' w1 ⟨fun h => hJ1 (by rw [getD_setIf _ _ _ (by rw [hls]; decide)] at h; exact h), fun h => hJ2 (by rw [getD_setIf _ _ _ (by rw [hls]; decide)] at h; exact h), hJ3, hJ4⟩)
      simp [Oper.wp, execOp, Act.eval, e0, go_sem, hv3, n3]
     | 4, ho, hl =>
      simp only [List.getElem?_toArray, List.getElem?_cons_succ, List.getElem?_cons_zero, Option.some.injEq, Prod.mk.injEq] at ho hl
      obtain ⟨rfl, rfl⟩ := hl
      subst ho
      have e0 : a.tmps.getD 6 undef = _ := hsee.old 6 rfl
      simp only [Array.getD_eq_getD_getElem?, List.getElem?_toArray, List.getElem?_cons_succ, List.getElem?_cons_zero, Option.getD_some] at e0
      refine cast ?_ (hK' w1 ⟨fun h => hJ1 (by rw [getD_setIf _ _ _ (by rw [hls]; decide)] at h; exact h), fun h => hJ2 (by rw [getD_setIf _ _ _ (by rw [hls]; decide)] at h; exact h), hJ3, hJ4⟩)
      simp [Oper.wp, execOp, Act.eval, e0, go_sem]
     | 5, ho, hl =>
      simp only [List.getElem?_toArray, List.getElem?_cons_succ, List.getElem?_cons_zero, Option.some.injEq, Prod.mk.injEq] at ho hl
      obtain ⟨rfl, rfl⟩ := hl
      subst ho
      have e0 := hsee.full 4 32 _ rfl rfl
      simp only [Array.getD_eq_getD_getElem?] at e0
      refine cast ?_ (hK' w1 ⟨fun h => hJ1 (by rw [getD_setIf _ _ _ (by rw [hls]; decide)] at h; exact h), fun h => hJ2 (by rw [getD_setIf _ _ _ (by rw [hls]; decide)] at h; exact h), hJ3, hJ4⟩)
      simp [Oper.wp, execOp, Act.eval, e0, c1, go_sem]
     | 6, ho, hl =>
      simp only [List.getElem?_toArray, List.getElem?_cons_succ, List.getElem?_cons_zero, Option.some.injEq, Prod.mk.injEq] at ho hl
      obtain ⟨rfl, rfl⟩ := hl
      subst ho
      have e0 := hsee.full 5 33 _ rfl rfl
      simp only [Array.getD_eq_getD_getElem?] at e0
      unfold Oper.wp
      rw [show (execOp a.eval _).run Tryz.prog w1 = .ok (.enter 45 #[.int .i64 f.ty]) w1 from by simp [Act.eval, e0, go_sem], Oper.upon_enter]
      refine (hcall w1).mono ?_
      rintro e w2 ⟨rfl, hb2⟩
      have g4 := (hb2.block _ (Array.getElem?_eq_some_iff.1 hJ4).1).trans hJ4
      refine hK' w2 ⟨fun h => bld_carry (hJ1 (by rw [getD_setIf _ _ _ (by rw [hls]; decide)] at h; exact h)) hb2, fun h => bld_carry (hJ2 (by rw [getD_setIf _ _ _ (by rw [hls]; decide)] at h; exact h)) hb2, hJ3.trans (hb2.mono hJ3.size), g4⟩
     | 7, ho, hl =>
      simp only [List.getElem?_toArray, List.getElem?_cons_succ, List.getElem?_cons_zero, Option.some.injEq, Prod.mk.injEq] at ho hl
      obtain ⟨rfl, rfl⟩ := hl
      subst ho
      have e0 := hsee.full 3 31 _ rfl rfl
      simp only [Array.getD_eq_getD_getElem?] at e0
      have e1 := hsee.full 6 34 _ rfl rfl
      simp only [Array.getD_eq_getD_getElem?] at e1
      refine cast ?_ (hK' w1 ⟨fun h => hJ1 (by rw [getD_setIf _ _ _ (by rw [hls]; decide)] at h; exact h), fun h => hJ2 (by rw [getD_setIf _ _ _ (by rw [hls]; decide)] at h; exact h), hJ3, hJ4⟩)
      simp [Oper.wp, execOp, Act.eval, e0, e1, go_sem, hv7, n7]
     | 8, ho, hl =>
      simp only [List.getElem?_toArray, List.getElem?_cons_succ, List.getElem?_cons_zero, Option.some.injEq, Prod.mk.injEq] at ho hl
      obtain ⟨rfl, rfl⟩ := hl
      subst ho
      have e0 := hsee.full 7 35 _ rfl rfl
      simp only [Array.getD_eq_getD_getElem?] at e0
      refine cast ?_ (hK' w1 ⟨fun h => hJ1 (by rw [getD_setIf _ _ _ (by rw [hls]; decide)] at h; exact h), fun h => hJ2 (by rw [getD_setIf _ _ _ (by rw [hls]; decide)] at h; exact h), hJ3, hJ4⟩)
      simp [Oper.wp, execOp, Act.eval, e0, go_sem, hv8, n8]
     | 9, ho, hl =>
      simp only [List.getElem?_toArray, List.getElem?_cons_succ, List.getElem?_cons_zero, Option.some.injEq, Prod.mk.injEq] at ho hl
      obtain ⟨rfl, rfl⟩ := hl
      subst ho
      have e0 : a.tmps.getD 4 undef = _ := hsee.old 4 rfl
      simp only [Array.getD_eq_getD_getElem?, List.getElem?_toArray, List.getElem?_cons_succ, List.getElem?_cons_zero, Option.getD_some] at e0
      have e1 := hsee.full 8 36 _ rfl rfl
      simp only [Array.getD_eq_getD_getElem?] at e1
      unfold Oper.wp
      rw [show (execOp a.eval _).run Tryz.prog w1 = .ok (.enter 40 #[.pointer (some ⟨w0.heap.size, 0, none⟩), .string v8]) w1 from by simp [Act.eval, e0, e1, go_sem], Oper.upon_enter]
      refine (wstr w0.heap.size w0.heap.size T2 v8 w1 (hJ1 hl0) hlen1 hJ3.size).mono ?_
      rintro e w2 ⟨rfl, b2, s2, o2⟩
      refine hK' w2 ⟨fun h => ?_, fun _ => ?_, hJ3.trans s2, o2 _ _ hJ4 hneF (fun c fz e => by cases e)⟩
      ·rw [getD_setIf _ _ _ (by rw [hls]; decide)] at h; exact absurd h (by simp)
      ·rw [← q5]; exact b2
     | i + 10, ho, hl => simp at ho
    ·intro listed w2 hall hJ
     obtain ⟨_, hJ2, hJ3, hJ4⟩ := hJ
     have hJ2 := hJ2 (hall 9 (by decide))
     simp only [puts, Act.put, List.setIfInBounds_toArray, List.set_cons_succ, List.set_cons_zero]
     clear hcall q1 q2 q3 q4 q5 q6 n2 n3 n7 n8 hlen1
     obtain ⟨T3, hT3⟩ : ∃ t : Tx, T2 ++ hdT f = t := ⟨_, rfl⟩
     rw [hT3] at hJ2
     have hsz3 : T3.length + (samT f.ss).length ≤ 100000000 := by rw [← hT3, List.length_append]; exact hsz2
     have hl400 : f.ss.length ≤ 400 := hfP.1.2.2.2.2
     have c3 := cell_row hJ4 3
     simp only [List.getElem?_toArray, List.getElem?_cons_succ, List.getElem?_cons_zero] at c3
     go_wp2
     go_loopw [41] (fun i wr2 => ∃ j : Nat, j ≤ f.ss.length ∧ i = .int .i64 j ∧ Bld w0.heap.size w0.heap.size (T3 ++ samT (f.ss.take j)) wr2 ∧ Below w0.heap.size w0 wr2) (fun i _ => f.ss.length - (intOf i).toNat)
     case atStart => exact ⟨0, Nat.zero_le _, rfl, by simpa [samT] using hJ2, hJ3⟩
     case round =>
      obtain ⟨j, hj, rfl, hI, hbw3⟩ := hrel
      clear c3 hJ2 hJ3 hJ4
      by_cases hjt : j < f.ss.length
      ·have hjj : f.ss[j]? = some (f.ss[j]'hjt) := List.getElem?_eq_getElem hjt
       obtain ⟨b2, off2, lv, hpe2, c0, c1, c2, hL⟩ := hS3 j _ hjj
       subst hpe2
       obtain ⟨lp, lcap, rfl, hL3⟩ := hL
       have hxm : f.ss[j]'hjt ∈ f.ss := List.getElem_mem hjt
       have hlin := fam_lin hfP hfR _ hxm
       have hvv := hfR _ hxm
       have hlab : ∀ q ∈ (f.ss[j]'hjt).ls, q.2.size ≤ 5000000 := fun q hq => by
        obtain ⟨m, hm, rfl⟩ := List.mem_iff_getElem.1 hq
        have := ((hfP.2.1 _ hxm).2 m hm hm).2.1
        omega
       have hnx2 : samT (f.ss.take (j + 1)) = samT (f.ss.take j) ++ (linT (f.ss[j]'hjt) ++ [10]) := by
        rw [List.take_add_one, hjj, samT, List.flatMap_append]; simp [samT]
       have hlS : (samT (f.ss.take (j + 1))).length ≤ (samT f.ss).length := samT_take _ _
       generalize f.ss[j]'hjt = x at *
       have hw3 : Below w.heap.size w wr := hb0.trans (hbw3.mono hb0.size)
       have d0 := cell_below hw3 c0
       have d1 := cell_below hw3 c1
       have d2 := cell_below hw3 c2
       have hI4 : Bld w0.heap.size w0.heap.size (T3 ++ samT (f.ss.take j)) (wr.alloc (.cells #[.string x.nm, .slice lp x.ls.length lcap, .int .i64 x.v] 32)) := bld_carry hI ((Below.refl _ wr).alloc (Nat.le_refl _) _)
       have hbw4 : Below w0.heap.size w0 (wr.alloc (.cells #[.string x.nm, .slice lp x.ls.length lcap, .int .i64 x.v] 32)) := hbw3.alloc hbw3.size _
       have hw4 : Below w.heap.size w (wr.alloc (.cells #[.string x.nm, .slice lp x.ls.length lcap, .int .i64 x.v] 32)) := hb0.trans (hbw4.mono hb0.size)
       have hLx : ∀ (j : Nat) q, x.ls[j]? = some q → ∃ b off, lp = some ⟨b, off, none⟩ ∧ (wr.alloc (.cells #[.string x.nm, .slice lp x.ls.length lcap, .int .i64 x.v] 32)).cell? ⟨b, off + j * 2, none⟩ = some (.string q.1) ∧ (wr.alloc (.cells #[.string x.nm, .slice lp x.ls.length lcap, .int .i64 x.v] 32)).cell? ⟨b, off + j * 2 + 1, none⟩ = some (.string q.2) := fun j q hq => by
        obtain ⟨b, off, e, g1, g2⟩ := hL3 j q hq
        exact ⟨b, off, e, cell_below hw4 g1, cell_below hw4 g2⟩
       have t4 := tabIs_below htab hw4
       have hline := line_walk x lp lcap _ hLx hlab (by omega) hvv.1 hvv.2 t4
       obtain ⟨v9, hv9⟩ : ∃ u : ByteArray, bA (linT x) ++ ⟨#[10]⟩ = u := ⟨_, rfl⟩
       have q9 : v9.data.toList = linT x ++ [10] := by rw [← hv9]; simp
       have q10 : v9.size = (linT x).length + 1 := by rw [← tl_size, q9]; simp
       have n9 : ¬ 9223372036854775807 < (linT x).length + 1 := by omega
       have hlen9 : (T3 ++ samT (f.ss.take j)).length + v9.size ≤ 140737488355328 := by
        rw [hnx2] at hlS
        simp only [List.length_append, List.length_cons, List.length_nil] at hlS ⊢
        omega
       clear hLx t4 hL3 c0 c1 c2 hI hw3 hw4 htab hF hS3
       go_wp2_with (go_at_call 15; refine hline.mono ?_)
       rintro e w5
       first | rintro rfl s5 | rintro ⟨rfl, s5⟩
       have b5 := bld_carry hI4 s5
       have g5 := hbw4.trans (s5.mono hbw4.size)
       clear hI4 hbw4 s5 hline d0 d1 d2
       go_wp2_with (go_at_call 40; refine (wstr w0.heap.size w0.heap.size _ v9 _ b5 hlen9 g5.size).mono ?_)
       rintro e w6
       first | rintro rfl b6 s6 o6 | rintro ⟨rfl, b6, s6, o6⟩
       have g6 := g5.trans s6
       rw [q9] at b6
       clear b5 g5 s6 o6
       go_wp2
       refine ⟨⟨j + 1, by omega, by simp, ?_, g6⟩, ?_⟩
       ·rw [hnx2, ← List.append_assoc]; simpa using b6
       ·simp [intOf]; omega
      ·have hje : j = f.ss.length := by omega
       subst hje
       rw [List.take_length] at hI
       have hTT : T3 ++ samT f.ss = T ++ famT f := by rw [← hT3, ← hT2]; simp [famT]
       rw [hTT] at hI
       go_wp2
       refine ⟨⟨k + 1, by omega, by simp, ?_, hbw3⟩, ?_⟩
       ·rw [hnx]; exact hI
       ·simp [intOf]; omega
  ·have hke : k = l.length := by omega
   subst hke
   rw [List.take_length] at hI
   go_wp2_with (go_at_call 43; refine (str_walk w0.heap.size w0.heap.size _ _ hI hBr).mono ?_)
   rintro e w5
   first | rintro rfl s5 | rintro ⟨rfl, s5⟩
   go_wp2
   go_ret2
   exact ⟨rfl, hb0.trans ((hbw.trans s5).mono hb0.size)⟩

set_option maxHeartbeats 4000000 in
theorem write_no (l : List FaD) (h : Hp) (w : World) (v : Value) (hs : HSub h w) (hg : Gl h w) (hr : PRep h v (SL 4 (faR l)))
  (hz : ∀ f ∈ l, f.ss.length ≤ 4000000000000000000) (hall : ¬ allP l) :
  Calls Tryz.prog 17 #[v] w fun e w' => e = .returned (.tuple #[.string ⟨#[]⟩, .int .i64 1]) ∧ Below w.heap.size w w' := by
 have hA := calls_of_ct (vs := #[v]) (rv := .bool false) (by have := all_full l hz; rw [decide_eq_false hall] at this; exact this) hs hg (ρ := fun _ => noLoc) ⟨rfl, fun i a s ha hb => by
  match i, ha, hb with
  | 0, ha, hb => cases ha; cases hb; exact .pure _ _ hr
  | i + 1, ha, hb => simp at ha⟩
 clear hr hs hg
 go_enter Tryz.func17, Tryz.ntmps17
 go_wp2_with (go_at_call 20; refine hA.mono ?_)
 rintro e w0 ⟨rfl, hb0⟩
 clear hA
 go_wp2
 go_ret2
 exact ⟨rfl, hb0⟩

def wrT (l : List FaD) : ByteArray := if allP l then bA (txtT l) else ⟨#[]⟩
def wrE (l : List FaD) : Int := if allP l then 0 else 1
theorem two_ret {h : Hp} {w w' : World} (s : ByteArray) (n : Int) (hb : Below w.heap.size w w') : ∃ (vr : List Value) (rs : List SV), Ending.returned (Value.tuple #[.string s, .int .i64 n]) = .returned (rets vr) ∧ vr.length = rs.length ∧
   (∀ (i : Nat) v s, vr[i]? = some v → rs[i]? = some s → PRep h v s) ∧ rs = [S s, I n] ∧ Below w.heap.size w w' := by
 refine ⟨[.string s, .int .i64 n], [S s, I n], rfl, rfl, fun i x y hx hy => ?_, rfl, hb⟩
 match i, hx, hy with
 | 0, hx, hy => cases hx; cases hy; exact .val _
 | 1, hx, hy => cases hx; cases hy; exact .val _
 | i + 2, hx, hy => simp at hx
theorem write_fn (l : List FaD) (hz : ∀ f ∈ l, f.ss.length ≤ 4000000000000000000) (hrg : ∀ f ∈ l, rgF f) : Ct Tryz.prog 17 {} [SL 4 (faR l)] (fun r => r = [S (wrT l), I (wrE l)]) := by
 refine ct_of_callsR Tryz.func17 (by kernel_rfl) (by kernel_rfl) _ _ (fun h ρ w vs hsub hgl hrep => ?_)
 obtain ⟨v0, hvs⟩ : ∃ v0, vs.toList = [v0] := by
  have := hrep.1
  match h : vs.toList, this with
  | [a], _ => exact ⟨a, rfl⟩
 obtain rfl := arr_of hvs
 have r0 : Rep h ρ v0 (SL 4 (faR l)) := hrep.2 0 v0 _ rfl rfl
 have p0 : PRep h v0 (SL 4 (faR l)) := by
  cases r0 with
  | pure _ _ r => exact r
 unfold wrT wrE
 by_cases hall : allP l
 ·rw [if_pos hall, if_pos hall]
  refine (write_walk l h w v0 hsub hgl p0 hz hrg (tab_is hsub hgl) hall).mono ?_
  rintro e w' ⟨rfl, hb⟩
  exact two_ret _ _ hb
 ·rw [if_neg hall, if_neg hall]
  refine (write_no l h w v0 hsub hgl p0 hz hall).mono ?_
  rintro e w' ⟨rfl, hb⟩
  exact two_ret _ _ hb
end Go.Proofs.YtknnooannohflaaGreatDoor.Exp

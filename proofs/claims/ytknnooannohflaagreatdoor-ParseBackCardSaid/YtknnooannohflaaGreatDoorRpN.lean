/- expo.Line. -/
import Derived.Test.YtknnooannohflaaGreatDoorRpM
import Derived.Test.YtknnooannohflaaGreatDoorSht
import Derived.WalkKit
import Derived.BigCall
import Derived.BigGuard
namespace Go.Proofs.YtknnooannohflaaGreatDoor.Exp
open Go Go.Px Go.Proofs Go.RowKit Trm Met
set_option linter.unusedVariables false

theorem byteCells_str (a : Tx) (s : ByteArray) : Lib.byteCells a ++ Lib.strCells s = Lib.byteCells (a ++ s.data.toList) := by
 rw [Lib.byteCells_append, Lib.strCells_eq]
theorem byteCells_one (a : Tx) (c : UInt8) (n : Int) (h : n = (c.toNat : Int)) : Lib.byteCells a ++ [Value.int .u8 n] = Lib.byteCells (a ++ [c]) := by
 subst h
 rw [Lib.byteCells_append]; rfl
abbrev Bld (B b : Nat) (a : Tx) (w : World) : Prop := Lib.IsBuilderF 74 5 B b (Lib.byteCells a) w
theorem bld_carry {B b : Nat} {a : Tx} {w w' : World} (h : Bld B b a w) (hb : Below w.heap.size w w') : Bld B b a w' := by
 have one : ∀ p, Lib.BuilderAtF 74 5 B b p (Lib.byteCells a) w → Lib.BuilderAtF 74 5 B b p (Lib.byteCells a) w' := by
  rintro p hA
  have hlt := hA.lt
  obtain ⟨hB, v, h1, ⟨h2, h3⟩, h4⟩ := hA
  refine ⟨hB, v, (hb.block b hlt).trans h1, ⟨h2, ?_⟩, h4⟩
  rcases h3 with h3 | ⟨g, cap, cur, fz, e1, e2, e3, e4⟩
  ·exact .inl h3
  ·have hg : g < w.heap.size := (Array.getElem?_eq_some_iff.1 e3).1
   exact .inr ⟨g, cap, cur, fz, e1, e2, (hb.block g hg).trans e3, e4⟩
 rcases h with h | h
 ·exact .inl (one _ h)
 ·exact .inr (one _ h)
theorem bld_new (w : World) : Bld w.heap.size w.heap.size [] (w.alloc (.cells #[.pointer none, .slice none 0 0] 74)) := Lib.IsBuilderF.of (Lib.fresh_isBuilder 74 5 w)
theorem wstr (B b : Nat) (a : Tx) (s : ByteArray) (w : World) (h : Bld B b a w) (hl : a.length + s.size ≤ 140737488355328) (hB : B ≤ w.heap.size) :
  Calls Tryz.prog 40 #[.pointer (some ⟨b, 0, none⟩), .string s] w fun e w' => e = .returned (.tuple #[.int .i64 s.size, .nilIface]) ∧ Bld B b (a ++ s.data.toList) w' ∧ Below B w w' ∧ Lib.OthersKept 5 (some b) w w' := by
 refine (Tryz.Builder_WriteString_k B b _ s w h (by rw [Lib.byteCells_length]; exact hl) hB).mono ?_
 rintro e w' ⟨rfl, h1, h2⟩
 rw [byteCells_str] at h1
 exact ⟨rfl, Or.inr h1, h2⟩
theorem wbyte (B b : Nat) (a : Tx) (c : UInt8) (n : Int) (hn : n = (c.toNat : Int)) (w : World) (h : Bld B b a w) (hl : a.length + 1 ≤ 140737488355328) (hB : B ≤ w.heap.size) :
  Calls Tryz.prog 41 #[.pointer (some ⟨b, 0, none⟩), .int .u8 n] w fun e w' => e = .returned .nilIface ∧ Bld B b (a ++ [c]) w' ∧ Below B w w' ∧ Lib.OthersKept 5 (some b) w w' := by
 refine (Tryz.Builder_WriteByte_k B b _ n w h (by rw [Lib.byteCells_length]; exact hl) hB).mono ?_
 rintro e w' ⟨rfl, h1, h2⟩
 rw [byteCells_one a c n hn] at h1
 exact ⟨rfl, Or.inr h1, h2⟩
theorem cell_row {w : World} {k : Nat} {c : Array Value} {t : TypeId} {fz : Nat × Nat} (h : w.heap[k]? = some (.cells c t fz)) (i : Nat) : w.cell? ⟨k, i, none⟩ = c[i]? := by
 simp [World.cell?, h]

theorem labT_len : ∀ l : List LaD, (labT l).length = (l.map fun p => 1 + (labC p).length).sum
 | [] => rfl
 | p :: l => by
  have : ∀ l : List LaD, (l.flatMap fun q => 44 :: labC q).length = (l.map fun p => 1 + (labC p).length).sum := fun l => by
   induction l with
   | nil => rfl
   | cons q l ih => rw [List.flatMap_cons, List.length_append, ih]; simp; omega
  simp only [labT, List.length_append, List.length_cons, this, List.map_cons, List.sum_cons]
  omega
theorem sum_take_le : ∀ (l : List Nat) (k : Nat), (l.take k).sum ≤ l.sum
 | [], k => by simp
 | a :: l, 0 => Nat.zero_le _
 | a :: l, k + 1 => by have := sum_take_le l k; simp only [List.take_succ_cons, List.sum_cons]; omega
theorem labT_take (l : List LaD) (k : Nat) : (labT (l.take k)).length ≤ (labT l).length := by
 rw [labT_len, labT_len, List.map_take]; exact sum_take_le _ _
theorem labT_many (l : List LaD) : l.length ≤ (labT l).length := by
 rw [labT_len]
 induction l with
 | nil => exact Nat.le_refl _
 | cons a l ih => simp only [List.map_cons, List.sum_cons, List.length_cons]; omega
theorem labT_next (l : List LaD) {k : Nat} (h : k < l.length) : labT (l.take (k + 1)) = labT (l.take k) ++ (if k = 0 then 123 else 44) :: labC l[k] := by
 rw [List.take_add_one, List.getElem?_eq_getElem h, Option.toList_some, labT_snoc]
 congr 2
 by_cases e : k = 0
 ·subst e; simp
 ·rw [if_neg e, if_neg (fun q => ?_)]
  have h2 := congrArg List.length q
  rw [List.length_take, List.length_nil] at h2
  have : min k l.length = k := Nat.min_eq_left (by omega)
  omega
theorem tabIs_below {P : Program} {w w' : World} {name : String} {k : IntKind} {zs : List Int} (h : Lib.TabIs P w name k zs) (hb : Below w.heap.size w w') : Lib.TabIs P w' name k zs := by
 unfold Lib.TabIs World.var? at *
 cases hg : P.globalNamed name with
 | none => simp [hg] at h
 | some g =>
  simp only [hg, Option.bind_some] at h ⊢
  have hlt : g < w.heap.size := by
   rcases Nat.lt_or_ge g w.heap.size with h' | h'
   ·exact h'
   ·rw [Array.getElem?_eq_none h'] at h; simp at h
  rw [hb.block g hlt]
  exact h

theorem fmt_walk (n : Int) (h0 : -9223372036854775808 ≤ n) (h1 : n ≤ 9223372036854775807) (w : World) (htab : Lib.TabIs Tryz.prog w "internal/strconv.uint64pow10" .u64 Lib.pow10Tab) :
  Calls Tryz.prog 42 #[.int .i64 n, .int .i64 10] w fun e w' => e = .returned (.string ⟨(Lib.itoa n).toArray⟩) ∧ Below w.heap.size w w' := by
 refine (Tryz.strconv_FormatInt_10 n h0 h1 w htab).mono ?_
 rintro e w' ⟨rfl, k2, os, rfl⟩
 refine ⟨rfl, rfl, rfl, rfl, by simp [Sort.grow], fun k hk => ?_⟩
 have : k < (w.drewN k2).heap.size := hk
 simp only [Sort.grow]
 rw [Array.getElem?_append_left this]
 rfl
theorem str_walk (B b : Nat) (a : Tx) (w : World) (h : Bld B b a w) (hB : B ≤ w.heap.size) : Calls Tryz.prog 43 #[.pointer (some ⟨b, 0, none⟩)] w fun e w' => e = .returned (.string (bA a)) ∧ Below B w w' := by
 refine (Tryz.Builder_String_any_k B b a w h hB).mono ?_
 rintro e w' ⟨rfl, _, h2, _⟩
 exact ⟨rfl, h2⟩

set_option maxHeartbeats 4000000 in
set_option maxRecDepth 100000 in
theorem line_walk (x : SmD) (p : Option Addr) (cap : Nat) (w : World) (hp : ∀ (j : Nat) l, x.ls[j]? = some l → ∃ b off, p = some ⟨b, off, none⟩ ∧ w.cell? ⟨b, off + j * 2, none⟩ = some (.string l.1) ∧ w.cell? ⟨b, off + j * 2 + 1, none⟩ = some (.string l.2))
  (hv : ∀ q ∈ x.ls, q.2.size ≤ 5000000) (hlen : (linT x).length ≤ 1000000000) (h0 : -9223372036854775808 ≤ x.v) (h1 : x.v ≤ 9223372036854775807) (htab : Lib.TabIs Tryz.prog w "internal/strconv.uint64pow10" .u64 Lib.pow10Tab) :
  Calls Tryz.prog 15 #[.agg #[.string x.nm, .slice p x.ls.length cap, .int .i64 x.v]] w fun e w' => e = .returned (.string (bA (linT x))) ∧ Below w.heap.size w w' := by
 have hln : x.nm.data.toList.length + (labT x.ls).length + 1 + (Lib.itoa x.v).length + (if x.ls = [] then 0 else 1) ≤ 1000000000 := by
  unfold linT at hlen
  simp only [List.length_append, List.length_cons] at hlen
  split at hlen <;> rename_i e
  ·rw [if_pos e]; simp at hlen ⊢; omega
  ·rw [if_neg e]; simp at hlen ⊢; omega
 have hnl : x.ls.length ≤ 1000000000 := by have := labT_many x.ls; omega
 have hnz : x.nm.data.toList.length = x.nm.size := Array.length_toList
 have hA := bld_new (w.alloc (.cells #[.string x.nm, .slice p x.ls.length cap, .int .i64 x.v] 32))
 rw [show (w.alloc (.cells #[.string x.nm, .slice p x.ls.length cap, .int .i64 x.v] 32)).heap.size = w.heap.size + 1 by simp] at hA
 go_enter Tryz.func15, Tryz.ntmps15
 go_wp2_with (go_at_call 40; refine (wstr (w.heap.size + 1) (w.heap.size + 1) [] x.nm _ hA (by simp; omega) (by simp)).mono ?_)
 rintro e w1 ⟨rfl, hb1, hw1, _⟩
 rw [List.nil_append] at hb1
 have hW : Below (w.heap.size + 1) (w.alloc (.cells #[.string x.nm, .slice p x.ls.length cap, .int .i64 x.v] 32)) w1 := ((Below.refl _ _).alloc (by simp) _).trans hw1
 clear hA hw1
 have hB1 : w.heap.size + 1 ≤ w1.heap.size := by have := hW.size; simpa using this
 have a1 : ∀ i, w1.cell? ⟨w.heap.size, i, none⟩ = (#[.string x.nm, .slice p x.ls.length cap, .int .i64 x.v] : Array Value)[i]? := fun i => (hW.cell (p := ⟨w.heap.size, i, none⟩) (Nat.lt_succ_self _)).trans (Rp.cell_alloc_win _ _ _ _ _ _ rfl)
 have a11 := a1 1
 simp only [List.getElem?_toArray, List.getElem?_cons_succ, List.getElem?_cons_zero] at a11
 go_wp2
 go_loopw [12] (fun i wr => ∃ k : Nat, k ≤ x.ls.length ∧ i = .int .i64 k ∧ Bld (w.heap.size + 1) (w.heap.size + 1) (x.nm.data.toList ++ labT (x.ls.take k)) wr ∧ Below (w.heap.size + 1) (w.alloc (.cells #[.string x.nm, .slice p x.ls.length cap, .int .i64 x.v] 32)) wr) (fun i _ => x.ls.length - (intOf i).toNat)
 case atStart => exact ⟨0, Nat.zero_le _, rfl, by simpa [labT] using hb1, hW⟩
 case round =>
  obtain ⟨k, hk, rfl, hI, hbw⟩ := hrel
  have hBr : w.heap.size + 1 ≤ wr.heap.size := by have := hbw.size; simp at this; exact this
  clear a1 a11 hb1 hW
  by_cases hlt : k < x.ls.length
  ·obtain ⟨b, off, hpe, hc1, hc2⟩ := hp k _ (List.getElem?_eq_getElem hlt)
   subst hpe
   have hbl : b < w.heap.size := World.block_lt_of_cell? w _ hc1
   have hcar : ∀ i, wr.cell? ⟨b, i, none⟩ = w.cell? ⟨b, i, none⟩ := fun i => (hbw.cell (p := ⟨b, i, none⟩) (by show b < _; omega)).trans (((Below.refl w.heap.size w).alloc (Nat.le_refl _) _).cell (p := ⟨b, i, none⟩) hbl)
   have d1 := (hcar _).trans hc1
   have d2 := (hcar _).trans hc2
   have hnx := labT_next x.ls hlt
   have hll := labT_take x.ls (k + 1)
   have hvs := hv _ (List.getElem_mem hlt)
   generalize x.ls[k]'hlt = l at *
   have hI2 : Bld (w.heap.size + 1) (w.heap.size + 1) (x.nm.data.toList ++ labT (x.ls.take k)) (wr.alloc (.cells #[.string l.1, .string l.2] 68)) := bld_carry hI ((Below.refl _ wr).alloc (Nat.le_refl _) _)
   have hbw2 : Below (w.heap.size + 1) (w.alloc (.cells #[.string x.nm, .slice (some ⟨b, off, none⟩) x.ls.length cap, .int .i64 x.v] 32)) (wr.alloc (.cells #[.string l.1, .string l.2] 68)) := hbw.alloc hBr _
   have hLb : (wr.alloc (.cells #[.string l.1, .string l.2] 68)).heap[wr.heap.size]? = some (.cells #[.string l.1, .string l.2] 68 (0, 0)) := heap_alloc_last wr _
   have hsz2 : w.heap.size + 1 ≤ (wr.alloc (.cells #[.string l.1, .string l.2] 68)).heap.size := by simp; omega
   have hne : some wr.heap.size ≠ some (w.heap.size + 1) := by
    intro e
    have e := Option.some.inj e
    have hbb : w.heap.size + 1 < wr.heap.size := by rcases hI with h | h; exact h.lt; exact h.lt
    omega
   rw [hnx] at hll
   simp only [labC, List.length_append, List.length_cons, List.length_nil] at hll
   have hz1 : l.1.data.toList.length = l.1.size := Array.length_toList
   have hz6 : (labT ([] : List LaD)).length = 0 := rfl
   have hz2 : (ByteArray.mk #[61, 34]).data.toList.length = 2 := rfl
   have hz3 : (ByteArray.mk #[61, 34]).size = 2 := rfl
   have hz4 : (ByteArray.mk (valT l.2.data.toList).toArray).data.toList.length = (valT l.2.data.toList).length := by simp
   have hz5 : (ByteArray.mk (valT l.2.data.toList).toArray).size = (valT l.2.data.toList).length := by simp [ByteArray.size]
   clear hcar hc1 hc2 hp htab hlen
   by_cases hk0 : k = 0
   ·subst hk0
    simp only [if_true] at hnx
    simp only [Nat.zero_mul, Nat.add_zero] at d1 d2
    go_wp2_with (go_at_call 41; fail)
    refine (wbyte (w.heap.size + 1) (w.heap.size + 1) _ 123 123 rfl _ hI2 (by simp only [List.length_append]; omega) hsz2).mono ?_
    rintro e w2
    first | rintro rfl b2 s2 o2 | rintro ⟨rfl, b2, s2, o2⟩
    have hL2 := o2 _ _ hLb hne (fun c fz e => by cases e)
    have c21 := cell_row hL2 0
    have c22 := cell_row hL2 1
    simp only [List.getElem?_toArray, List.getElem?_cons_succ, List.getElem?_cons_zero] at c21 c22
    have z2 := Nat.le_trans hsz2 s2.size
    have g2 := hbw2.trans s2
    clear hI2 hbw2 hLb o2 s2 d1 d2 hI hbw
    go_wp2_with (go_at_call 40; refine (wstr (w.heap.size + 1) (w.heap.size + 1) _ l.1 _ b2 (by simp only [List.length_append, List.length_cons, List.length_nil]; omega) z2).mono ?_)
    rintro e w3
    first | rintro rfl b3 s3 o3 | rintro ⟨rfl, b3, s3, o3⟩
    have hL3 := o3 _ _ hL2 hne (fun c fz e => by cases e)
    have z3 := Nat.le_trans z2 s3.size
    have g3 := g2.trans s3
    clear b2 s3 o3 c21 c22 g2 hL2
    go_wp2_with (go_at_call 40; refine (wstr (w.heap.size + 1) (w.heap.size + 1) _ ⟨#[61, 34]⟩ _ b3 (by simp only [List.length_append, List.length_cons, List.length_nil, hz3]; omega) z3).mono ?_)
    rintro e w4
    first | rintro rfl b4 s4 o4 | rintro ⟨rfl, b4, s4, o4⟩
    have hL4 := o4 _ _ hL3 hne (fun c fz e => by cases e)
    have c42 := cell_row hL4 1
    simp only [List.getElem?_toArray, List.getElem?_cons_succ, List.getElem?_cons_zero] at c42
    have z4 := Nat.le_trans z3 s4.size
    have g4 := g3.trans s4
    clear b3 s4 o4 g3 hL3
    go_wp2_with (go_at_call 13; refine (Rp.value_walk l.2 _ hvs).mono ?_)
    rintro e w5
    first | rintro rfl s5 | rintro ⟨rfl, s5⟩
    rw [Rp.rpl_V]
    have b5 := bld_carry b4 s5
    have z5 := Nat.le_trans z4 s5.size
    have g5 := g4.trans (s5.mono z4)
    clear b4 s5 c42 g4 hL4
    go_wp2_with (go_at_call 40; refine (wstr (w.heap.size + 1) (w.heap.size + 1) _ ⟨(valT l.2.data.toList).toArray⟩ _ b5 (by simp only [List.length_append, List.length_cons, hz2, hz5]; omega) z5).mono ?_)
    rintro e w6
    first | rintro rfl b6 s6 _ | rintro ⟨rfl, b6, s6, _⟩
    have z6 := Nat.le_trans z5 s6.size
    have g6 := g5.trans s6
    clear b5 s6 g5
    go_wp2_with (go_at_call 41; refine (wbyte (w.heap.size + 1) (w.heap.size + 1) _ 34 34 rfl _ b6 (by simp only [List.length_append, List.length_cons]; omega) z6).mono ?_)
    rintro e w7
    first | rintro rfl b7 s7 _ | rintro ⟨rfl, b7, s7, _⟩
    have g7 := g6.trans s7
    clear b6 s7 g6
    go_wp2
    refine ⟨⟨0 + 1, by omega, rfl, ?_, g7⟩, ?_⟩
    rotate_left
    ·simp [intOf]; omega
    rw [hnx]
    simpa [labC] using b7
   ·simp only [hk0, if_false] at hnx
    have hk1 : ((k : Int) == 0) = false := by simpa using hk0
    go_wp2_with (go_at_call 41; fail)
    refine (wbyte (w.heap.size + 1) (w.heap.size + 1) _ 44 44 rfl _ hI2 (by simp only [List.length_append]; omega) hsz2).mono ?_
    rintro e w2
    first | rintro rfl b2 s2 o2 | rintro ⟨rfl, b2, s2, o2⟩
    have hL2 := o2 _ _ hLb hne (fun c fz e => by cases e)
    have c21 := cell_row hL2 0
    have c22 := cell_row hL2 1
    simp only [List.getElem?_toArray, List.getElem?_cons_succ, List.getElem?_cons_zero] at c21 c22
    have z2 := Nat.le_trans hsz2 s2.size
    have g2 := hbw2.trans s2
    clear hI2 hbw2 hLb o2 s2 d1 d2 hI hbw
    go_wp2_with (go_at_call 40; refine (wstr (w.heap.size + 1) (w.heap.size + 1) _ l.1 _ b2 (by simp only [List.length_append, List.length_cons, List.length_nil]; omega) z2).mono ?_)
    rintro e w3
    first | rintro rfl b3 s3 o3 | rintro ⟨rfl, b3, s3, o3⟩
    have hL3 := o3 _ _ hL2 hne (fun c fz e => by cases e)
    have z3 := Nat.le_trans z2 s3.size
    have g3 := g2.trans s3
    clear b2 s3 o3 c21 c22 g2 hL2
    go_wp2_with (go_at_call 40; refine (wstr (w.heap.size + 1) (w.heap.size + 1) _ ⟨#[61, 34]⟩ _ b3 (by simp only [List.length_append, List.length_cons, List.length_nil, hz3]; omega) z3).mono ?_)
    rintro e w4
    first | rintro rfl b4 s4 o4 | rintro ⟨rfl, b4, s4, o4⟩
    have hL4 := o4 _ _ hL3 hne (fun c fz e => by cases e)
    have c42 := cell_row hL4 1
    simp only [List.getElem?_toArray, List.getElem?_cons_succ, List.getElem?_cons_zero] at c42
    have z4 := Nat.le_trans z3 s4.size
    have g4 := g3.trans s4
    clear b3 s4 o4 g3 hL3
    go_wp2_with (go_at_call 13; refine (Rp.value_walk l.2 _ hvs).mono ?_)
    rintro e w5
    first | rintro rfl s5 | rintro ⟨rfl, s5⟩
    rw [Rp.rpl_V]
    have b5 := bld_carry b4 s5
    have z5 := Nat.le_trans z4 s5.size
    have g5 := g4.trans (s5.mono z4)
    clear b4 s5 c42 g4 hL4
    go_wp2_with (go_at_call 40; refine (wstr (w.heap.size + 1) (w.heap.size + 1) _ ⟨(valT l.2.data.toList).toArray⟩ _ b5 (by simp only [List.length_append, List.length_cons, hz2, hz5]; omega) z5).mono ?_)
    rintro e w6
    first | rintro rfl b6 s6 _ | rintro ⟨rfl, b6, s6, _⟩
    have z6 := Nat.le_trans z5 s6.size
    have g6 := g5.trans s6
    clear b5 s6 g5
    go_wp2_with (go_at_call 41; refine (wbyte (w.heap.size + 1) (w.heap.size + 1) _ 34 34 rfl _ b6 (by simp only [List.length_append, List.length_cons]; omega) z6).mono ?_)
    rintro e w7
    first | rintro rfl b7 s7 _ | rintro ⟨rfl, b7, s7, _⟩
    have g7 := g6.trans s7
    clear b6 s7 g6
    go_wp2
    refine ⟨⟨k + 1, by omega, by simp, ?_, g7⟩, ?_⟩
    rotate_left
    ·simp [intOf]; omega
    rw [hnx]
    simpa [labC] using b7
  ·have hke : k = x.ls.length := by omega
   subst hke
   rw [List.take_length] at hI
   have a2 : ∀ i, wr.cell? ⟨w.heap.size, i, none⟩ = (#[.string x.nm, .slice p x.ls.length cap, .int .i64 x.v] : Array Value)[i]? := fun i => (hbw.cell (p := ⟨w.heap.size, i, none⟩) (Nat.lt_succ_self _)).trans (Rp.cell_alloc_win _ _ _ _ _ _ rfl)
   have a21 := a2 1
   have a22 := a2 2
   simp only [List.getElem?_toArray, List.getElem?_cons_succ, List.getElem?_cons_zero] at a21 a22
   clear a2 hp
   have hbase := (Below.refl w.heap.size w).alloc (Nat.le_refl _) (.cells #[.string x.nm, .slice p x.ls.length cap, .int .i64 x.v] 32)
   by_cases hz : x.ls = []
   ·have hz0 : x.ls.length = 0 := by rw [hz]; rfl
    rw [if_pos hz] at hln
    go_wp2_with (go_at_call 41; refine (wbyte (w.heap.size + 1) (w.heap.size + 1) _ 32 32 rfl _ hI (by simp only [List.length_append]; omega) hBr).mono ?_)
    rintro e v2
    first | rintro rfl b2 s2 o2 | rintro ⟨rfl, b2, s2, o2⟩
    have z2 : w.heap.size + 1 ≤ v2.heap.size := Nat.le_trans hBr s2.size
    have a23 := (s2.cell (p := ⟨w.heap.size, 2, none⟩) (Nat.lt_succ_self _)).trans a22
    have t3 := tabIs_below htab (hbase.trans ((hbw.trans s2).mono (Nat.le_succ _)))
    have g2 := hbw.trans s2
    go_wp2_with (go_at_call 42; refine (fmt_walk x.v h0 h1 _ t3).mono ?_)
    rintro e v3
    first | rintro rfl s3 | rintro ⟨rfl, s3⟩
    have b3 := bld_carry b2 s3
    have z3 := Nat.le_trans z2 s3.size
    have g3 := g2.trans (s3.mono z2)
    have y1 : (ByteArray.mk (Lib.itoa x.v).toArray).size = (Lib.itoa x.v).length := by simp [ByteArray.size]
    go_wp2_with (go_at_call 40; refine (wstr (w.heap.size + 1) (w.heap.size + 1) _ ⟨(Lib.itoa x.v).toArray⟩ _ b3 (by simp only [List.length_append, List.length_cons, List.length_nil, y1]; omega) z3).mono ?_)
    rintro e v4
    first | rintro rfl b4 s4 o4 | rintro ⟨rfl, b4, s4, o4⟩
    have z4 := Nat.le_trans z3 s4.size
    have g4 := g3.trans s4
    go_wp2_with (go_at_call 43; refine (str_walk (w.heap.size + 1) (w.heap.size + 1) _ _ b4 z4).mono ?_)
    rintro e v5
    first | rintro rfl s5 | rintro ⟨rfl, s5⟩
    have g5 := g4.trans s5
    go_wp2
    go_ret
    refine ⟨?_, ((Below.refl w.heap.size w).alloc (Nat.le_refl _) _).trans (g5.mono (Nat.le_succ _))⟩
    show Ending.returned (Value.string _) = _
    congr 2
    simp [bA, linT, hz]
   ·have hz0 : 0 < x.ls.length := List.length_pos_iff.2 hz
    rw [if_neg hz] at hln
    go_wp2_with (go_at_call 41; fail)
    refine (wbyte (w.heap.size + 1) (w.heap.size + 1) _ 125 125 rfl _ hI (by simp only [List.length_append]; omega) hBr).mono ?_
    rintro e v1
    first | rintro rfl b1 s1 o1 | rintro ⟨rfl, b1, s1, o1⟩
    have z1 := Nat.le_trans hBr s1.size
    have a24 := (s1.cell (p := ⟨w.heap.size, 2, none⟩) (Nat.lt_succ_self _)).trans a22
    clear hI a21 a22
    go_wp2_with (go_at_call 41; refine (wbyte (w.heap.size + 1) (w.heap.size + 1) _ 32 32 rfl _ b1 (by simp only [List.length_append, List.length_cons, List.length_nil]; omega) z1).mono ?_)
    rintro e v2
    first | rintro rfl b2 s2 o2 | rintro ⟨rfl, b2, s2, o2⟩
    have z2 : w.heap.size + 1 ≤ v2.heap.size := Nat.le_trans z1 s2.size
    have a23 := (s2.cell (p := ⟨w.heap.size, 2, none⟩) (Nat.lt_succ_self _)).trans a24
    have t3 := tabIs_below htab (hbase.trans (((hbw.trans s1).trans s2).mono (Nat.le_succ _)))
    have g2 := (hbw.trans s1).trans s2
    go_wp2_with (go_at_call 42; refine (fmt_walk x.v h0 h1 _ t3).mono ?_)
    rintro e v3
    first | rintro rfl s3 | rintro ⟨rfl, s3⟩
    have b3 := bld_carry b2 s3
    have z3 := Nat.le_trans z2 s3.size
    have g3 := g2.trans (s3.mono z2)
    have y1 : (ByteArray.mk (Lib.itoa x.v).toArray).size = (Lib.itoa x.v).length := by simp [ByteArray.size]
    go_wp2_with (go_at_call 40; refine (wstr (w.heap.size + 1) (w.heap.size + 1) _ ⟨(Lib.itoa x.v).toArray⟩ _ b3 (by simp only [List.length_append, List.length_cons, List.length_nil, y1]; omega) z3).mono ?_)
    rintro e v4
    first | rintro rfl b4 s4 o4 | rintro ⟨rfl, b4, s4, o4⟩
    have z4 := Nat.le_trans z3 s4.size
    have g4 := g3.trans s4
    go_wp2_with (go_at_call 43; refine (str_walk (w.heap.size + 1) (w.heap.size + 1) _ _ b4 z4).mono ?_)
    rintro e v5
    first | rintro rfl s5 | rintro ⟨rfl, s5⟩
    have g5 := g4.trans s5
    go_wp2
    go_ret
    refine ⟨?_, ((Below.refl w.heap.size w).alloc (Nat.le_refl _) _).trans (g5.mono (Nat.le_succ _))⟩
    show Ending.returned (Value.string _) = _
    congr 2
    simp [bA, linT, hz]
end Go.Proofs.YtknnooannohflaaGreatDoor.Exp

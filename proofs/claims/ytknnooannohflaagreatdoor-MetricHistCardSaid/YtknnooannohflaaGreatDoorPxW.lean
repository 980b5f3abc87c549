/- Slices of one's own: made, appended to, written. -/
import Derived.Test.YtknnooannohflaaGreatDoorPxT
namespace Go.Px
open Go.RowKit
set_option linter.unusedVariables false

theorem wrap_i64 {a : Int} (h1 : -9223372036854775808 ≤ a) (h2 : a ≤ 9223372036854775807) : IntKind.i64.wrap a = a := by
 have e1 : (2 : Int) ^ 64 = 18446744073709551616 := by decide
 have e2 : (2 : Int) ^ (64 - 1) = 9223372036854775808 := by decide
 simp only [IntKind.wrap, IntKind.signed, IntKind.bits, Bool.true_and, e1, e2, ge_iff_le, decide_eq_true_eq]
 split <;> omega

theorem growBy_le (n : Nat) : ∀ (r c : Nat), Builtin.growBy n r c ≤ max c (n + (n + 768) / 4)
 | 0, c => by simp [Builtin.growBy]; omega
 | r + 1, c => by
  simp only [Builtin.growBy]
  split
  ·omega
  ·have := growBy_le n r (c + (c + 768) / 4)
   omega

theorem nextslicecap_le {need cap : Nat} (h : cap < need) : Builtin.nextslicecap need cap ≤ 2 * need + 200 := by
 unfold Builtin.nextslicecap
 split
 ·omega
 ·split
  ·omega
  ·have := growBy_le need 4 cap
   omega

section
variable {X : Cx} {h : Hp} {ρ : Nat → Loc} {st : St} {a : Act} {w : World} {P : Program}

theorem askRoom_run (n : Nat) (w : World) : (askRoom n).run P w = .ok () w := by
 unfold askRoom
 split <;> simp [mark, Sem.run]

theorem makeSlice_run (hsub : HSub h w) {t e : TypeId} {n m : Int} {z : List SV} (hu : P.underlying t = some (.slice e)) (hz : zeroRow P e = some z) (hb : bytesOK P e = true) (hzs : z.length = (szT P e).getD 0)
  (h0 : 0 ≤ n) (h1 : n ≤ m) (h2 : m ≤ 2147483648) : ∃ cs, (Instr.makeSlice t (.int .i64 n) (.int .i64 m)).run P w = .ok (.slice (some ⟨w.heap.size, 0, none⟩) n.toNat m.toNat) (w.alloc (.cells cs e)) ∧
   OwnOK h (w.alloc (.cells cs e)) ⟨w.heap.size, 0, (rrep n z).length, m.toNat, z.length, false⟩ z.length (rrep n z) := by
 obtain ⟨i, zv, hi, hby, hpos, hzz, hzc, hszT⟩ := bytesOK_spec hb
 have hsz : z.length = i.size := by rw [hzs, hszT]; rfl
 obtain ⟨v, hv, hvs, hvz, hvc⟩ := zeroRow_sound (h := h) hz
 have hvz' : zv = v := by have := hvz i hi; rw [hzz] at this; cases this; rfl
 subst hvz'
 have wn : IntKind.i64.wrap n = n := wrap_i64 (by omega) (by omega)
 have wm : IntKind.i64.wrap m = m := wrap_i64 (by omega) (by omega)
 have hb48 : ¬ ((i.bytes : Int) * m > 2 ^ 48) := by
  have h3 : (i.bytes : Int) * m ≤ 8192 * 2147483648 := Int.mul_le_mul (by omega) h2 (by omega) (by omega)
  have h4 : (2 : Int) ^ 48 = 281474976710656 := by decide
  omega
 have key : ∃ cs, (Instr.makeSlice t (.int .i64 n) (.int .i64 m)).run P w = .ok (.slice (some ⟨w.heap.size, 0, none⟩) n.toNat m.toNat) (w.alloc (.cells cs e)) ∧ cs.size = m.toNat * i.size ∧
   ∀ k j, k < m.toNat → j < i.size → cs[k * i.size + j]? = zv.cells[j]? := by
  have hc : ¬ ((decide (m < 0) || decide ((i.bytes : Int) * m > 2 ^ 48) || decide (n < 0) || decide (n > m)) = true) := by
   simp only [Bool.or_eq_true, decide_eq_true_eq]
   omega
  by_cases hn : m.toNat * i.size = 0
  ·refine ⟨#[], ?_, by rw [hn]; rfl, fun k j hk hj => ?_⟩
   ·unfold Instr.makeSlice
    simp only [Sem.run_bind, run_underlying hu, Result.andThen_ok, asInt, asIntOf, Sem.run_pure, run_typeInfo' w hi, wn, wm]
    rw [if_neg hc]
    simp only [Sem.run_bind, Result.andThen_ok, askRoom_run, run_sizeOf' w hszT]
    simp [hn, newRow]
    congr 2
    apply Array.eq_empty_of_size_eq_zero
    simp
   ·rcases Nat.mul_eq_zero.1 hn with e0 | e0 <;> omega
  ·refine ⟨(Array.range (m.toNat * i.size)).map (zv.cells[· % zv.cells.size]!), ?_, by simp, fun k j hk hj => zero_cells hzc hk hj⟩
   unfold Instr.makeSlice
   simp only [Sem.run_bind, run_underlying hu, Result.andThen_ok, asInt, asIntOf, Sem.run_pure, run_typeInfo' w hi, wn, wm]
   rw [if_neg hc]
   simp only [Sem.run_bind, Sem.run_pure, Result.andThen_ok, askRoom_run, run_sizeOf' w hszT, hn, if_false, hv w]
   simp [newRow]
 obtain ⟨cs, e1, e2, e3⟩ := key
 refine ⟨cs, e1, ?_⟩
 have hrl : (rrep n z).length = n.toNat := by simp [rrep]
 have hrz : ∀ (k : Nat) r, (rrep n z)[k]? = some r → k < n.toNat ∧ r = z := fun k r hk => by
  simp only [rrep, List.getElem?_replicate] at hk
  split at hk
  ·rename_i hlt; cases hk; exact ⟨hlt, rfl⟩
  ·cases hk
 refine ownNew (cs := cs) (e := e) (fz := (0, 0)) (by rw [hsz]; exact hpos) (by rw [hrl]; omega) (by omega) (fun k r hk => by rw [(hrz k r hk).2]) (by show (w.heap.push _)[_]? = _; simp) (by rw [hsz, e2]; exact Nat.le_refl _) (fun o _ => by simp) (fun o => hnew_blk hsub o _ (Nat.le_refl _)) (.inl rfl) (fun k r j c hk hj => ?_)
 obtain ⟨hkl, rfl⟩ := hrz k r hk
 have hjl : j < i.size := by have := (List.getElem?_eq_some_iff.1 hj).1; omega
 rw [hsz, e3 k j (by omega) hjl]
 have : j < zv.cells.size := by omega
 exact ⟨zv.cells[j], Array.getElem?_eq_getElem this, hvc j _ c (Array.getElem?_eq_getElem this) hj⟩

structure Flat (h : Hp) (sz : Nat) (rows : List (List SV)) (vs : List Value) : Prop where
 len : vs.length = rows.length * sz
 row : ∀ (i : Nat) r, rows[i]? = some r → r.length = sz
 cell : ∀ (i : Nat) r (j : Nat) c, rows[i]? = some r → r[j]? = some c → ∃ v, vs[i * sz + j]? = some v ∧ PRep h v c
 one : ∀ v ∈ vs, v.oneCell' = true

theorem Flat.nil (sz : Nat) : Flat h sz [] [] := ⟨by simp, by simp, by simp, by simp⟩

theorem div_mod_row {k n sz : Nat} (hk : k < n * sz) : 0 < sz ∧ k / sz < n ∧ k % sz < sz ∧ k = k / sz * sz + k % sz := by
 have hs : 0 < sz := by
  rcases Nat.eq_zero_or_pos sz with e | e
  ·subst e; simp at hk
  ·exact e
 refine ⟨hs, Nat.div_lt_of_lt_mul (by rw [Nat.mul_comm]; exact hk), Nat.mod_lt _ hs, ?_⟩
 have := Nat.div_add_mod k sz
 rw [Nat.mul_comm] at this
 exact this.symm

theorem flat_mem {b off sz : Nat} {rows : List (List SV)} (hpos : 0 < sz) (hrow : ∀ (i : Nat) r, rows[i]? = some r → r.length = sz)
  (hc : ∀ (i : Nat) r (j : Nat) c, rows[i]? = some r → r[j]? = some c → ∃ v, w.cell? ⟨b, off + i * sz + j, none⟩ = some v ∧ PRep h v c ∧ v.oneCell' = true) :
  ∃ vs, Flat h sz rows vs ∧ ∀ w' : World, w'.heap[b]? = w.heap[b]? → (loadCells ⟨b, off, none⟩ (rows.length * sz)).run P w' = .ok vs.toArray w' := by
 have hk : ∀ k, k < rows.length * sz → ∃ v, w.cell? ⟨b, off + k, none⟩ = some v ∧ v.oneCell' = true := fun k hk => by
  obtain ⟨_, h1, h2, h3⟩ := div_mod_row hk
  have hr := List.getElem?_eq_getElem h1
  have hl := hrow _ _ hr
  obtain ⟨v, e1, _, e3⟩ := hc _ _ (k % sz) _ hr (List.getElem?_eq_getElem (by omega))
  refine ⟨v, ?_, e3⟩
  rw [Nat.add_assoc, ← h3] at e1
  exact e1
 refine ⟨(List.range (rows.length * sz)).map fun k => (w.cell? ⟨b, off + k, none⟩).getD undef, ⟨by simp, hrow, fun i r j c h1 h2 => ?_, fun v hv => ?_⟩, fun w' hw => ?_⟩
 ·have hi := (List.getElem?_eq_some_iff.1 h1).1
  have hj : j < sz := by have := (List.getElem?_eq_some_iff.1 h2).1; rw [hrow i r h1] at this; exact this
  have hlt := row_lt hi hj
  obtain ⟨v, e1, e2, _⟩ := hc i r j c h1 h2
  refine ⟨v, ?_, e2⟩
  simp only [List.getElem?_map, List.getElem?_range hlt, Option.map_some]
  rw [← Nat.add_assoc, e1]; rfl
 ·simp only [List.mem_map, List.mem_range] at hv
  obtain ⟨k, hkl, rfl⟩ := hv
  obtain ⟨v, e1, e2⟩ := hk k hkl
  rw [e1]; exact e2
 ·have := run_loadCells (P := P) w' ⟨b, off, none⟩ (rows.length * sz) (fun k => (w.cell? ⟨b, off + k, none⟩).getD undef) (fun k hkl => by
   rw [add_mk]
   obtain ⟨v, e1, _⟩ := hk k hkl
   rw [cell_same hw e1, e1]; rfl)
  rw [this]

theorem appSrc_sound (F : FitsAt X h ρ st a w) {t2 : TypeId} {y : SV} {vy : Value} {sz' : Option Nat} {ys : List (List SV)} {z : Nat} (hr : Rep h ρ vy y) (e : appSrc P st t2 y = some (sz', ys))
  (hz : srcOK z sz' = true) (hpos : 0 < z) :
  (∃ d, P.underlying t2 = some d ∧ ∀ k, d ≠ .int k) ∧ (∀ w', (Builtin.lenOf vy).run P w' = .ok ys.length w') ∧
  ∃ vs, Flat h z ys vs ∧ ∀ w' : World, (∀ b, b < w.heap.size → w'.heap[b]? = w.heap[b]?) → (Builtin.firstCells z ys.length vy).run P w' = .ok vs.toArray w' := by
 unfold appSrc at e
 split at e
 ·rename_i e0 x hu
  simp at e
  obtain ⟨sz, hro, rfl⟩ := e
  obtain ⟨p, cap, rfl, hp⟩ := rowsOf_cells F hr hro
  refine ⟨⟨_, hu, by simp⟩, fun w' => by simp [Builtin.lenOf], ?_⟩
  by_cases h0 : 0 < ys.length
  ·obtain ⟨b, off, rfl, hsz, hrow, hc⟩ := hp h0
   have hzz : sz = z := by
    simp only [srcOK, Bool.or_eq_true] at hz
    rcases hz with hz | hz
    ·exact Nat.eq_of_beq_eq_true hz
    ·have := Nat.eq_of_beq_eq_true hz; omega
   subst hzz
   obtain ⟨vs, hf, hl⟩ := flat_mem (P := P) (w := w) hsz hrow hc
   refine ⟨vs, hf, fun w' hw => ?_⟩
   have hblt : b < w.heap.size := by
    have hr0 : ys[0]? = some (ys[0]'h0) := List.getElem?_eq_getElem h0
    have hl0 : 0 < (ys[0]'h0).length := by rw [hrow 0 _ hr0]; exact hsz
    obtain ⟨v, e1, _⟩ := hc 0 _ 0 ((ys[0]'h0)[0]'hl0) hr0 (List.getElem?_eq_getElem hl0)
    unfold World.cell? at e1
    simp only [] at e1
    rcases Nat.lt_or_ge b w.heap.size with h' | h'
    ·exact h'
    ·rw [Array.getElem?_eq_none h'] at e1; cases e1
   simp only [Builtin.firstCells]
   exact hl w' (hw b hblt)
  ·have hys : ys = [] := by cases ys with
    | nil => rfl
    | cons => simp at h0
   subst hys
   refine ⟨[], Flat.nil z, fun w' _ => ?_⟩
   cases p with
   | none => simp [Builtin.firstCells]
   | some ad => simp [Builtin.firstCells, loadCells, loadCellsFrom]
 ·rename_i s hu
  simp at e
  obtain ⟨rfl, rfl⟩ := e
  have hz1 : z = 1 := Nat.eq_of_beq_eq_true hz
  subst hz1
  have hv := hr.val_inv
  subst hv
  have hlen : (sbytes s).length = s.size := by
   unfold sbytes
   rw [List.length_map]
   exact Array.length_toList
  refine ⟨⟨_, hu, by simp⟩, fun w' => by simp [Builtin.lenOf, hlen], s.data.toList.map (fun b => .int .u8 b.toNat), ⟨by simp [sbytes], fun i r hi => ?_, fun i r j c hi hj => ?_, by simp [Value.oneCell']⟩, fun w' _ => ?_⟩
  ·simp [sbytes] at hi; obtain ⟨b, _, rfl⟩ := hi; rfl
  ·simp [sbytes] at hi
   obtain ⟨b, hb, rfl⟩ := hi
   cases j with
   | zero => simp at hj; subst hj; exact ⟨.int .u8 b.toNat, by simp [hb], .val _⟩
   | succ j => simp at hj
  ·simp only [Builtin.firstCells, hlen, Sem.run_pure]
   have hex : s.extract 0 s.size = s := by simp [ByteArray.extract_zero_size]
   rw [hex]
   congr 1
   apply Array.ext'
   simp
 ·cases e

theorem Flat.append {sz : Nat} {r1 r2 : List (List SV)} {v1 v2 : List Value} (a : Flat h sz r1 v1) (b : Flat h sz r2 v2) : Flat h sz (r1 ++ r2) (v1 ++ v2) where
 len := by simp [a.len, b.len, Nat.add_mul]
 row := fun i r hi => by
  rw [List.getElem?_append] at hi
  split at hi
  ·exact a.row i r hi
  ·exact b.row _ r hi
 cell := fun i r j c hi hj => by
  rw [List.getElem?_append] at hi
  split at hi
  ·rename_i hlt
   obtain ⟨v, e1, e2⟩ := a.cell i r j c hi hj
   exact ⟨v, by rw [List.getElem?_append_left (List.getElem?_eq_some_iff.1 e1).1]; exact e1, e2⟩
  ·rename_i hlt
   obtain ⟨v, e1, e2⟩ := b.cell _ r j c hi hj
   refine ⟨v, ?_, e2⟩
   have : r1.length * sz ≤ i * sz := Nat.mul_le_mul_right sz (by omega)
   rw [List.getElem?_append_right (by rw [a.len]; omega), a.len]
   rw [← e1]
   congr 1
   rw [Nat.sub_mul]
   omega
 one := fun v hv => (List.mem_append.1 hv).elim (a.one v) (b.one v)

theorem append_fit {t1 t2 e ty : TypeId} {i : TypeInfo} {d2 : TypeDesc} (hu : P.underlying t1 = some (.slice e)) (hi : P.info? e = some i) (hu2 : P.underlying t2 = some d2) (hd2 : ∀ k, d2 ≠ .int k) {vy : Value} {m : Nat} {vs : List Value}
  (hlen : (Builtin.lenOf vy).run P w = .ok m w) (hsrc : (Builtin.firstCells i.size m vy).run P w = .ok vs.toArray w) {p : Option Addr} {n cap : Nat} (hfit : n + m ≤ cap) {w' : World}
  (hst : match p with | some ad => (storeCells (ad.add (n * i.size)) vs).run P w = .ok () w' | none => w' = w) :
  (Builtin.append_ #[t1, t2] ty #[.slice p n cap, vy]).run P w = .ok (.slice p (n + m) cap) w' := by
 have hz : (match d2 with | .int _ => true | _ => false) = false := by cases d2 <;> first | rfl | exact absurd rfl (hd2 _)
 unfold Builtin.append_
 simp only [sizeOf]
 have hz' : (d2 matches .int _) = false := by cases d2 <;> first | rfl | exact absurd rfl (hd2 _)
 simp [hlen, hfit, hsrc, run_underlying hu, run_underlying hu2, run_typeInfo' w hi]
 cases p with
 | none => simp at hst; subst hst; simp
 | some ad => simp at hst; simp [hst]

theorem append_grow {t1 t2 e ty : TypeId} {i : TypeInfo} {z : Value} {d2 : TypeDesc} (hu : P.underlying t1 = some (.slice e)) (hi : P.info? e = some i) (hzz : i.zero = some z) (hby : i.bytes ≤ 8192) (hu2 : P.underlying t2 = some d2) (hd2 : ∀ k, d2 ≠ .int k) {vy : Value} {m : Nat} {vs old : List Value}
  (hlen : (Builtin.lenOf vy).run P w = .ok m w) {p : Option Addr} {n cap : Nat} (hno : ¬ n + m ≤ cap) (hmax : n + m ≤ 2147483648)
  (hsrc : (Builtin.firstCells i.size m vy).run P w.drew = .ok vs.toArray w.drew)
  (hold : (Builtin.firstCells i.size n (.slice p n cap)).run P w.drew = .ok old.toArray w.drew) :
  ∃ nc, n + m ≤ nc ∧ nc ≤ 9223372036854775807 ∧ (Builtin.append_ #[t1, t2] ty #[.slice p n cap, vy]).run P w = .ok (.slice (some ⟨w.heap.size, 0, none⟩) (n + m) nc)
   (w.drew.alloc (.cells (old.toArray ++ vs.toArray ++ Builtin.zeroCells z.cells (nc - (n + m))) e)) := by
 have hz' : (d2 matches .int _) = false := by cases d2 <;> first | rfl | exact absurd rfl (hd2 _)
 refine ⟨(n + m) + (w.tape w.drawn (.appendCap (n + m) cap e)) % (2 ^ 63 - (n + m)), by omega, by have := Nat.mod_lt (w.tape w.drawn (.appendCap (n + m) cap e)) (show 0 < 2 ^ 63 - (n + m) by omega); omega, ?_⟩
 unfold Builtin.append_
 have h1 : ¬ (((n + m : Nat) : Int) > IntKind.i64.max ∧ (false = true ∨ i.bytes = 0)) := by
  have : IntKind.i64.max = 9223372036854775807 := by decide
  omega
 have h2 : ¬ (Builtin.nextslicecap (n + m) cap * i.bytes > 2 ^ 48) := by
  have e1 := nextslicecap_le (need := n + m) (cap := cap) (by omega)
  have e2 : Builtin.nextslicecap (n + m) cap * i.bytes ≤ (2 * (n + m) + 200) * 8192 := Nat.mul_le_mul e1 hby
  omega
 simp only [sizeOf]
 simp [hlen, hno, run_underlying hu, run_underlying hu2, run_typeInfo' w hi]
 have h1' : ¬ (9223372036854775807 < (n : Int) + (m : Int) ∧ i.bytes = 0) := by omega
 have h2' : ¬ (281474976710656 < Builtin.nextslicecap (n + m) cap * i.bytes) := by
  have : (2 : Nat) ^ 48 = 281474976710656 := by decide
  omega
 rw [if_neg h1', if_neg h2']
 simp [Question.forced, Question.cut, run_typeInfo' _ hi, hold, hsrc, zeroValue, hzz, newRow]
 congr 2
 rw [← Array.append_assoc]
 simp

end
end Go.Px

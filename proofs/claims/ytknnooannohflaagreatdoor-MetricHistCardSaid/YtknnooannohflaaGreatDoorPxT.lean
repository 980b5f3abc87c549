/- Slices and maps of one's own: how they are made and written. -/
import Derived.Test.YtknnooannohflaaGreatDoorPxS
namespace Go.Px
open Go.RowKit
set_option linter.unusedVariables false

theorem fold_cells (off : Nat) : ∀ (l : List Value) (k : Nat) (acc : Array Value) (j : Nat), ((l.zipIdx k).foldl (fun cs (c : Value × Nat) => cs.setIfInBounds (off + c.2) c.1) acc)[j]? =
  if off + k ≤ j ∧ j < off + k + l.length ∧ j < acc.size then l[j - (off + k)]? else acc[j]? := by
 intro l
 induction l with
 | nil => intro k acc j; simp; omega
 | cons x xs ih =>
  intro k acc j
  simp only [List.zipIdx_cons, List.foldl_cons]
  rw [ih]
  simp only [Array.size_setIfInBounds, List.length_cons]
  by_cases hj : j = off + k
  ·subst hj
   have : ¬ (off + (k + 1) ≤ off + k ∧ off + k < off + (k + 1) + xs.length ∧ off + k < acc.size) := by omega
   rw [if_neg this]
   by_cases hs : off + k < acc.size
   ·rw [if_pos (by omega)]; simp [hs]
   ·rw [if_neg (by omega)]; simp [hs]
  ·rw [Array.getElem?_setIfInBounds_ne (by omega)]
   by_cases hc : off + (k + 1) ≤ j ∧ j < off + (k + 1) + xs.length ∧ j < acc.size
   ·rw [if_pos hc, if_pos (by omega)]
    have : j - (off + k) = (j - (off + (k + 1))) + 1 := by omega
    rw [this]; simp
   ·rw [if_neg hc, if_neg (by omega)]

theorem fold_size (off : Nat) : ∀ (l : List (Value × Nat)) (acc : Array Value), (l.foldl (fun cs (c : Value × Nat) => cs.setIfInBounds (off + c.2) c.1) acc).size = acc.size := by
 intro l; induction l with
 | nil => intro acc; rfl
 | cons x xs ih => intro acc; simp [ih]

theorem row_inj {i i' j j' sz : Nat} (hj : j < sz) (hj' : j' < sz) (e : i * sz + j = i' * sz + j') : i = i' ∧ j = j' := by
 have h1 : (i * sz + j) / sz = i := by rw [Nat.mul_comm, Nat.mul_add_div (by omega), Nat.div_eq_of_lt hj]; rfl
 have h2 : (i' * sz + j') / sz = i' := by rw [Nat.mul_comm, Nat.mul_add_div (by omega), Nat.div_eq_of_lt hj']; rfl
 have : i = i' := by rw [← h1, ← h2, e]
 subst this
 exact ⟨rfl, by omega⟩

theorem fill_rows (len sz : Nat) (hsz : 0 < sz) : ∀ (parts : List (Nat × Value)) (cells : Array Value), (∀ p ∈ parts, p.1 < len ∧ p.2.cells.size = sz) → (parts.map (·.1)).Nodup → cells.size = len * sz →
  ∃ cells', Instr.fill (fun i => some (i * sz, sz)) cells parts = some cells' ∧ cells'.size = len * sz ∧ ∀ i j, i < len → j < sz → cells'[i * sz + j]? = match parts.find? (fun p => Nat.beq p.1 i) with
   | some p => p.2.cells[j]?
   | none => cells[i * sz + j]?
 | [], cells, _, _, hs => ⟨cells, rfl, hs, fun i j _ _ => rfl⟩
 | (k, v) :: parts, cells, hp, hn, hs => by
  simp only [List.map_cons, List.nodup_cons] at hn
  obtain ⟨hk, hv⟩ := hp (k, v) (by simp)
  simp only at hk hv
  have hle : k * sz + sz ≤ len * sz := by
   have : (k + 1) * sz ≤ len * sz := Nat.mul_le_mul_right sz (by omega)
   rw [Nat.add_mul] at this; omega
  obtain ⟨cells', e1, e2, e3⟩ := fill_rows len sz hsz parts (v.cells.zipIdx.foldl (fun cs (c : Value × Nat) => cs.setIfInBounds (k * sz + c.2) c.1) cells) (fun p hp' => hp p (by simp [hp'])) hn.2 (by
   rw [← Array.foldl_toList, fold_size]; exact hs)
  refine ⟨cells', ?_, e2, fun i j hi hj => ?_⟩
  ·unfold Instr.fill
   have hcond : ¬ ((v.cells.size ≠ sz || k * sz + v.cells.size > cells.size) = true) := by simp; omega
   simp only []
   rw [if_neg hcond]
   exact e1
  ·rw [e3 i j hi hj, List.find?_cons]
   by_cases hki : k = i
   ·subst hki
    have hnone : parts.find? (fun p => Nat.beq p.1 k) = none := by
     rw [List.find?_eq_none]
     intro p hp' hb
     exact hn.1 (by rw [← Nat.eq_of_beq_eq_true hb]; exact List.mem_map_of_mem (f := (·.1)) hp')
    simp only [Nat.beq_refl, hnone]
    rw [← Array.foldl_toList, Array.toList_zipIdx, fold_cells]
    simp only [Nat.add_zero, Array.length_toList, hv]
    rw [if_pos (by omega)]
    have : k * sz + j - k * sz = j := by omega
    rw [this]; simp
   ·simp only [beq_false hki]
    cases hf : parts.find? (fun p => Nat.beq p.1 i) with
    | some p => rfl
    | none =>
     simp only []
     rw [← Array.foldl_toList, Array.toList_zipIdx, fold_cells]
     simp only [Nat.add_zero, Array.length_toList, hv]
     rw [if_neg]
     rintro ⟨c1, c2, _⟩
     have := row_inj (i := i) (i' := k) (j := j) (j' := i * sz + j - k * sz) hj (by omega) (by omega)
     exact hki this.1.symm

section
variable {X : Cx} {h : Hp} {ρ : Nat → Loc} {st : St} {a : Act} {w : World} {P : Program}

theorem ownNew {cs : Array Value} {e : TypeId} {fz : Nat × Nat} {b cap sz : Nat} {rows : List (List SV)} (hpos : 0 < sz) (hcap : rows.length ≤ cap) (hcm : cap ≤ 9223372036854775807) (hrow : ∀ (i : Nat) r, rows[i]? = some r → r.length = sz)
  (hb : w.heap[b]? = some (.cells cs e fz)) (hs : cap * sz ≤ cs.size) (hf : ∀ o, o < cap * sz → ¬ (fz.1 ≤ o ∧ o < fz.2)) (hh : ∀ o, h b o = none) (hz0 : fz = (0, 0) ∨ (sz = 1 ∧ cs.size ≤ fz.1))
  (hv : ∀ (i : Nat) r (j : Nat) c, rows[i]? = some r → r[j]? = some c → ∃ v, cs[i * sz + j]? = some v ∧ PRep h v c ∧ v.oneCell' = true) : OwnOK h w ⟨b, 0, rows.length, cap, sz, false⟩ sz rows where
 pos := hpos
 hsz := rfl
 hlen := rfl
 hcap := hcap
 hrow := hrow
 hblk := ⟨cs, e, fz, hb, by simpa using hs, fun o _ ho => hf o (by simpa using ho), fun i r j c h1 h2 => by simpa using hv i r j c h1 h2⟩
 hh := hh
 hfz := fun cs' t' fz' e => by rw [hb] at e; cases e; exact hz0
 hcm := hcm

theorem zeroRow_sound {e : TypeId} {z : List SV} (hz : zeroRow P e = some z) : ∃ v, (∀ w, (zeroValue e).run P w = .ok v w) ∧ v.cells.size = z.length ∧ (∀ i, P.info? e = some i → i.zero = some v) ∧
  ∀ (j : Nat) u c, v.cells[j]? = some u → z[j]? = some c → PRep h u c ∧ u.oneCell' = true := by
 unfold zeroRow at hz
 split at hz
 ·rename_i s hs
  obtain ⟨v, hv, r, hb⟩ := zeroSV_sound (h := h) (ρ := fun _ => noLoc) hs
  obtain ⟨h1, h2⟩ := rep_cells r hb
  obtain ⟨l, g⟩ := pureL_sound _ _ hz
  refine ⟨v, hv, by omega, fun i hi => ?_, fun j u c hu hc => ?_⟩
  ·have := hv default
   cases hzz : i.zero with
   | none => simp [zeroValue, run_typeInfo' default hi, hzz, unsupported] at this
   | some v' => simp [zeroValue, run_typeInfo' default hi, hzz] at this; rw [this]
  ·obtain ⟨c0, e1, e2⟩ := g j c hc
   obtain ⟨r1, r2⟩ := h2 j u c0 hu e1
   exact ⟨pureCell_sound r1 e2, r2⟩
 ·cases hz

theorem mod_row {i j sz : Nat} (hj : j < sz) : (i * sz + j) % sz = j := by
 rw [Nat.mul_comm, Nat.mul_add_mod, Nat.mod_eq_of_lt hj]

theorem zero_cells {z : Array Value} {n sz i j : Nat} (hz : z.size = sz) (hi : i < n) (hj : j < sz) : ((Array.range (n * sz)).map (z[· % z.size]!))[i * sz + j]? = z[j]? := by
 have hlt := row_lt hi hj
 have hj' : j < z.size := by omega
 simp only [Array.getElem?_map, Array.getElem?_range, hlt, if_true, Option.map_some, hz, mod_row hj]
 rw [getElem!_pos z j hj', Array.getElem?_eq_getElem hj']

theorem bytesOK_spec {e : TypeId} (hb : bytesOK P e = true) : ∃ i z, P.info? e = some i ∧ i.bytes ≤ 8192 ∧ 0 < i.size ∧ i.zero = some z ∧ z.cells.size = i.size ∧ szT P e = some i.size := by
 unfold bytesOK at hb
 cases hi : P.info? e with
 | none => simp [hi] at hb
 | some i =>
  simp only [hi, Bool.and_eq_true] at hb
  obtain ⟨⟨h1, h2⟩, h3⟩ := hb
  cases hz : i.zero with
  | none => simp [hz] at h3
  | some z =>
   simp only [hz] at h3
   exact ⟨i, z, rfl, Nat.le_of_ble_eq_true h1, Nat.le_of_ble_eq_true h2, hz, Nat.eq_of_beq_eq_true h3, by simp [szT, hi]⟩

theorem buildRows_spec (zero : List SV) (parts : List (Nat × SV)) : ∀ (n i : Nat) (rows : List (List SV)), buildRows zero parts n i = some rows → rows.length = n ∧ ∀ (k : Nat) r, rows[k]? = some r → r.length = zero.length ∧
  match parts.find? (fun p => Nat.beq p.1 (i + k)) with
  | some p => ∃ s, pureArg p.2 = some s ∧ r = cellsOf s
  | none => r = zero
 | 0, i, rows, e => by simp [buildRows] at e; subst e; simp
 | n + 1, i, rows, e => by
  simp only [buildRows] at e
  split at e
  ·rename_i r rs h1 h2
   cases hb : Nat.beq (lenN r) (lenN zero) with
   | false => simp [hb] at e
   | true =>
    simp [hb] at e
    subst e
    obtain ⟨l, g⟩ := buildRows_spec zero parts n (i + 1) rs h2
    have hl : r.length = zero.length := by rw [← lenN_eq, ← lenN_eq]; exact Nat.eq_of_beq_eq_true hb
    refine ⟨by simp [l], fun k r' hk => ?_⟩
    cases k with
    | zero =>
     simp at hk; subst hk
     refine ⟨hl, ?_⟩
     rw [Nat.add_zero]
     split at h1
     ·rename_i p hp
      rw [hp]
      split at h1
      ·rename_i s hs; cases h1; exact ⟨s, hs, rfl⟩
      ·cases h1
     ·rename_i hp
      rw [hp]; cases h1; rfl
    | succ k =>
     have := g k r' (by simpa using hk)
     rwa [show i + (k + 1) = i + 1 + k by omega]
  ·cases e

theorem pureArg_cells {v : Value} {s s' : SV} (r : Rep h ρ v s) (hp : pureArg s = some s') : v.cells.size = (cellsOf s').length ∧ ∀ (i : Nat) u c, v.cells[i]? = some u → (cellsOf s')[i]? = some c → PRep h u c ∧ u.oneCell' = true := by
 have hpr := pureArg_sound r hp
 have hb : boxL (cellsOf s') = true := by
  have hcell : ∀ c c', pureCell c = some c' → boxCell c' = true := by
   intro c c' e
   cases c <;> simp [pureCell] at e
   ·rename_i v; cases v <;> simp at e <;> subst e <;> rfl
   all_goals (subst e; rfl)
  have hL : ∀ cs cs', pureL cs = some cs' → boxL cs' = true := by
   intro cs
   induction cs with
   | nil => intro cs' e; simp [pureL] at e; subst e; rfl
   | cons c cs ih =>
    intro cs' e
    simp only [pureL] at e
    split at e
    ·rename_i c1 cs1 h1 h2
     cases e
     simp [boxL, hcell c c1 h1, ih cs1 h2]
    ·cases e
  unfold pureArg at hp
  split at hp
  ·simp at hp; obtain ⟨cs', hcs, rfl⟩ := hp; exact hL _ _ hcs
  ·rename_i hna
   have h1 := hcell _ _ hp
   have : cellsOf s' = [s'] := by cases s' <;> first | rfl | (simp [boxCell] at h1)
   rw [this]; simp [boxL, h1]
 obtain ⟨h1, h2⟩ := rep_cells (ρ := fun _ => noLoc) (.pure _ _ hpr) hb
 refine ⟨h1, fun i u c hu hc => ?_⟩
 obtain ⟨r1, r2⟩ := h2 i u c hu hc
 refine ⟨?_, r2⟩
 -- a cell of a pure datum
 cases hpr with
 | agg vs cs hl hcc => exact hcc i u c hu hc
 | val v =>
  cases i with
  | zero =>
   have hbc := boxL_get hb 0 (.val v) (by simp [cellsOf])
   simp [cellsOf] at hc; subst hc
   have hvc : v.cells = #[v] := by cases v <;> first | rfl | (simp [boxCell] at hbc)
   rw [hvc] at hu; simp at hu; subst hu; exact .val _
  | succ i => simp [cellsOf] at hc
 | empty p cap sz tok ht ht1 hn =>
  cases i with
  | zero => simp [cellsOf, Value.cells] at hu hc; subst hu; subst hc; exact .empty p cap sz tok ht ht1 hn
  | succ i => simp [cellsOf] at hc
 | slice b off cap sz rows tok vs hpos hz hh hr ho ht ht1 hle =>
  cases i with
  | zero => simp [cellsOf, Value.cells] at hu hc; subst hu; subst hc; exact .slice b off cap sz rows tok vs hpos hz hh hr ho ht ht1 hle
  | succ i => simp [cellsOf] at hc
 | ref b base off cells vs hh hr =>
  cases i with
  | zero => simp [cellsOf, Value.cells] at hu hc; subst hu; subst hc; exact .ref b base off cells vs hh hr
  | succ i => simp [cellsOf] at hc
 | clo f vs cs hl hcc =>
  cases i with
  | zero => simp [cellsOf, Value.cells] at hu hc; subst hu; subst hc; exact .clo f vs cs hl hcc
  | succ i => simp [cellsOf] at hc
 | ifc t v s hv =>
  cases i with
  | zero => simp [cellsOf, Value.cells] at hu hc; subst hu; subst hc; exact .ifc t v s hv
  | succ i => simp [cellsOf] at hc
 | arr => simp [cellsOf, boxL, boxCell] at hb
 | unk v => simp [cellsOf, boxL, boxCell] at hb

theorem buildSlice_run (hsub : HSub h w) {t e : TypeId} {len : Nat} {z : List SV} {parts : List (Nat × SV)} {vparts : Array (Nat × Value)} {rows : List (List SV)} (hu : P.underlying t = some (.slice e)) (hz : zeroRow P e = some z) (hb : bytesOK P e = true)
  (hmax : len * z.length ≤ 16777216) (hzs : z.length = (szT P e).getD 0) (hlt : ∀ p ∈ parts, p.1 < len) (hnd : (parts.map (·.1)).Nodup) (hrows : buildRows z parts len 0 = some rows)
  (hl : vparts.size = parts.length) (hp : ∀ (i : Nat) p q, parts[i]? = some p → vparts[i]? = some q → q.1 = p.1 ∧ Rep h ρ q.2 p.2) (hall : ∀ p ∈ parts, ∃ s, pureArg p.2 = some s ∧ (cellsOf s).length = z.length) :
  ∃ cs, (Instr.buildSlice t len vparts).run P w = .ok (.slice (some ⟨w.heap.size, 0, none⟩) len len) (w.alloc (.cells cs e)) ∧ rows.length = len ∧ OwnOK h (w.alloc (.cells cs e)) ⟨w.heap.size, 0, rows.length, len, z.length, false⟩ z.length rows := by
 obtain ⟨i, zv, hi, hby, hpos, hzz, hzc, hszT⟩ := bytesOK_spec hb
 have hsz : z.length = i.size := by rw [hzs, hszT]; rfl
 obtain ⟨v, hv, hvs, hvz, hvc⟩ := zeroRow_sound (h := h) hz
 have hvz' : zv = v := by have := hvz i hi; rw [hzz] at this; cases this; rfl
 subst hvz'
 obtain ⟨hrl, hrg⟩ := buildRows_spec z parts len 0 rows hrows
 have hget : ∀ (k : Nat) q, vparts[k]? = some q → ∃ p, parts[k]? = some p ∧ q.1 = p.1 ∧ Rep h ρ q.2 p.2 := fun k q hq => by
  have hk : k < parts.length := by have := (Array.getElem?_eq_some_iff.1 hq).1; omega
  exact ⟨parts[k], List.getElem?_eq_getElem hk, hp k _ q (List.getElem?_eq_getElem hk) hq⟩
 have hmap : vparts.toList.map (·.1) = parts.map (·.1) := by
  apply List.ext_getElem?
  intro k
  simp only [List.getElem?_map, Array.getElem?_toList]
  cases hq : vparts[k]? with
  | none =>
   have : parts[k]? = none := by rw [List.getElem?_eq_none_iff]; rw [Array.getElem?_eq_none_iff] at hq; omega
   simp [this]
  | some q =>
   obtain ⟨p, e1, e2, _⟩ := hget k q hq
   simp [e1, e2]
 obtain ⟨cs, e1, e2, e3⟩ := fill_rows len i.size hpos vparts.toList ((Array.range (len * i.size)).map (zv.cells[· % zv.cells.size]!)) (fun q hq => by
   obtain ⟨k, hk, e⟩ := List.mem_iff_getElem.1 hq
   have hk' : k < vparts.size := by simpa using hk
   obtain ⟨p, e1, e2, e3⟩ := hget k q (by rw [Array.getElem?_eq_getElem hk']; simp at e; rw [e])
   have hpm := List.mem_of_getElem? e1
   obtain ⟨s, q1, q2⟩ := hall p hpm
   exact ⟨by rw [e2]; exact hlt p hpm, by rw [(pureArg_cells e3 q1).1, q2, hsz]⟩) (by rw [hmap]; exact hnd) (by simp)
 refine ⟨cs, ?_, hrl, ?_⟩
 ·unfold Instr.buildSlice
  have hmax' : ¬ (len * i.size > 2 ^ 24) := by rw [← hsz]; omega
  simp only [Sem.run_bind, run_underlying hu, Result.andThen_ok, run_sizeOf' w hszT, hmax', if_false]
  by_cases h0 : len * i.size = 0
  ·have hl0 : len = 0 := (Nat.mul_eq_zero.1 h0).resolve_right (by omega)
   have hp0 : parts = [] := by
    cases parts with
    | nil => rfl
    | cons p _ => have := hlt p (by simp); omega
   have hv0 : vparts = #[] := Array.eq_empty_of_size_eq_zero (by rw [hl, hp0]; rfl)
   have hc0 : cs = #[] := Array.eq_empty_of_size_eq_zero (by rw [e2, h0])
   subst hc0; subst hv0; subst hl0
   simp [Instr.fill, newRow]
   congr 2
   apply Array.eq_empty_of_size_eq_zero
   simp
  ·simp only [h0, if_false, Sem.run_bind, hv w, Result.andThen_ok, Sem.run_pure]
   simp [e1, newRow]
 ·refine ownNew (cs := cs) (e := e) (fz := (0, 0)) (by rw [hsz]; exact hpos) (by rw [hrl]; exact Nat.le_refl _) (by have := Nat.le_mul_of_pos_right len (show 0 < z.length by rw [hsz]; exact hpos); omega) (fun k r hk => (hrg k r hk).1) (by show (w.heap.push _)[_]? = _; simp) (by rw [hsz, e2]; exact Nat.le_refl _) (fun o _ => by simp) (fun o => hnew_blk hsub o _ (Nat.le_refl _)) (.inl rfl) (fun k r j c hk hj => ?_)
  have hkl : k < len := by have := (List.getElem?_eq_some_iff.1 hk).1; omega
  obtain ⟨hrz, hr2⟩ := hrg k r hk
  have hjl : j < i.size := by have := (List.getElem?_eq_some_iff.1 hj).1; omega
  rw [hsz, e3 k j hkl hjl]
  rw [Nat.zero_add] at hr2
  have hfind : ∀ (vl : List (Nat × Value)) (pl : List (Nat × SV)), vl.map (·.1) = pl.map (·.1) → (∀ (m : Nat) q, vl[m]? = some q → ∃ p, pl[m]? = some p ∧ q.1 = p.1 ∧ Rep h ρ q.2 p.2) →
    (∃ q p, vl.find? (fun p => Nat.beq p.1 k) = some q ∧ pl.find? (fun p => Nat.beq p.1 k) = some p ∧ Rep h ρ q.2 p.2) ∨ (vl.find? (fun p => Nat.beq p.1 k) = none ∧ pl.find? (fun p => Nat.beq p.1 k) = none) := by
   intro vl
   induction vl with
   | nil => intro pl he _; simp at he; subst he; exact .inr ⟨rfl, rfl⟩
   | cons q vl ih =>
    intro pl he hg
    cases pl with
    | nil => simp at he
    | cons p pl =>
     simp only [List.map_cons, List.cons.injEq] at he
     rw [List.find?_cons, List.find?_cons, he.1]
     cases hbk : Nat.beq p.1 k with
     | true =>
      obtain ⟨p', q1, q2, q3⟩ := hg 0 q rfl
      simp at q1; subst q1
      exact .inl ⟨q, p, rfl, rfl, q3⟩
     | false => exact ih pl he.2 (fun m q' hm => by simpa using hg (m + 1) q' (by simpa using hm))
  rcases hfind vparts.toList parts hmap (fun m q hm => hget m q (by simpa using hm)) with ⟨q, p, g1, g2, g3⟩ | ⟨g1, g2⟩
  ·rw [g1]
   rw [g2] at hr2
   simp only [] at hr2 ⊢
   obtain ⟨s, q1, rfl⟩ := hr2
   obtain ⟨c1, c2⟩ := pureArg_cells g3 q1
   have : j < q.2.cells.size := by rw [c1]; exact (List.getElem?_eq_some_iff.1 hj).1
   exact ⟨q.2.cells[j], Array.getElem?_eq_getElem this, c2 j _ c (Array.getElem?_eq_getElem this) hj⟩
  ·rw [g1]
   rw [g2] at hr2
   simp only [] at hr2 ⊢
   subst hr2
   rw [zero_cells hzc hkl hjl]
   have : j < zv.cells.size := by omega
   exact ⟨zv.cells[j], Array.getElem?_eq_getElem this, hvc j _ c (Array.getElem?_eq_getElem this) hj⟩

end
end Go.Px

/- Slices and maps of one's own: how they are made and written. -/
import Derived.Test.YtknnooannohflaaDoorPxPS
namespace Go.Px
open Go.RowKit
set_option linter.unusedVariables false

theorem Zln (off : Nat) : ∀ (l : List Value) (k : Nat) (acc : Array Value) (j : Nat), ((l.zipIdx k).foldl (fun cs (c : Value × Nat) => cs.setIfInBounds (off + c.2) c.1) acc)[j]? =
  if off + k ≤ j ∧ j < off + k + l.length ∧ j < acc.size then l[j - (off + k)]? else acc[j]? := by
 intro l
 induction l with
 | nil => intro k acc j; simp; omega
 | cons x xs ih =>
  intro k acc j; simp only [List.zipIdx_cons, List.foldl_cons]; rw [ih]; simp only [Array.size_setIfInBounds, List.length_cons]; by_cases hj : j = off + k
  ·subst hj; have : ¬ (off + (k + 1) ≤ off + k ∧ off + k < off + (k + 1) + xs.length ∧ off + k < acc.size) := (by omega); rw [if_neg this]; by_cases hs : off + k < acc.size
   ·rw [if_pos (by omega)]; simp [hs]
   ·rw [if_neg (by omega)]; simp [hs]
  ·rw [Array.getElem?_setIfInBounds_ne (by omega)]; by_cases hc : off + (k + 1) ≤ j ∧ j < off + (k + 1) + xs.length ∧ j < acc.size
   ·rw [if_pos hc, if_pos (by omega)]; have : j - (off + k) = (j - (off + (k + 1))) + 1 := (by omega); rw [this]; simp
   ·rw [if_neg hc, if_neg (by omega)]

theorem Zs3 (off : Nat) : ∀ (l : List (Value × Nat)) (acc : Array Value), (l.foldl (fun cs (c : Value × Nat) => cs.setIfInBounds (off + c.2) c.1) acc).size = acc.size := by
 intro l; induction l with
 | nil => intro acc; rfl
 | cons x xs ih => intro acc; simp [ih]

theorem row_inj {i i' j j' sz : Nat} (hj : j < sz) (hj' : j' < sz) (e : i * sz + j = i' * sz + j') : i = i' ∧ j = j' := by
 have h1 : (i * sz + j) / sz = i := (by rw [Nat.mul_comm, Nat.mul_add_div (by omega), Nat.div_eq_of_lt hj]; rfl); have h2 : (i' * sz + j') / sz = i' := (by rw [Nat.mul_comm, Nat.mul_add_div (by omega), Nat.div_eq_of_lt hj']; rfl); have : i = i' := (by rw [← h1, ← h2, e]); subst this; exact ⟨rfl, by omega⟩

theorem Znx (len sz : Nat) (hsz : 0 < sz) : ∀ (parts : List (Nat × Value)) (cells : Array Value), (∀ p ∈ parts, p.1 < len ∧ p.2.cells.size = sz) → (parts.map (·.1)).Nodup → cells.size = len * sz →
  ∃ cells', Instr.fill (fun i => some (i * sz, sz)) cells parts = some cells' ∧ cells'.size = len * sz ∧ ∀ i j, i < len → j < sz → cells'[i * sz + j]? = match parts.find? (fun p => Nat.beq p.1 i) with
   | some p => p.2.cells[j]?
   | none => cells[i * sz + j]?
 | [], cells, _, _, hs => ⟨cells, rfl, hs, fun i j _ _ => rfl⟩
 | (k, v) :: parts, cells, hp, hn, hs => by
  simp only [List.map_cons, List.nodup_cons] at hn; obtain ⟨hk, hv⟩ := hp (k, v) (by simp); simp only at hk hv; have hle : k * sz + sz ≤ len * sz := by have : (k + 1) * sz ≤ len * sz := Nat.mul_le_mul_right sz (by omega); rw [Nat.add_mul] at this; omega
  obtain ⟨cells', e1, e2, e3⟩ := Znx len sz hsz parts (v.cells.zipIdx.foldl (fun cs (c : Value × Nat) => cs.setIfInBounds (k * sz + c.2) c.1) cells) (fun p hp' => hp p (by simp [hp'])) hn.2 (by
   rw [← Array.foldl_toList, Zs3]; exact hs)
  refine ⟨cells', ?_, e2, fun i j hi hj => ?_⟩
  ·unfold Instr.fill; have hcond : ¬ ((v.cells.size ≠ sz || k * sz + v.cells.size > cells.size) = true) := by simp; omega
   simp only []; rw [if_neg hcond]; exact e1
  ·rw [e3 i j hi hj, List.find?_cons]; by_cases hki : k = i
   ·subst hki; have hnone : parts.find? (fun p => Nat.beq p.1 k) = none := (by rw [List.find?_eq_none]; intro p hp' hb; exact hn.1 (by rw [← Nat.eq_of_beq_eq_true hb]; exact List.mem_map_of_mem (f := (·.1)) hp')); simp only [Nat.beq_refl, hnone]; rw [← Array.foldl_toList, Array.toList_zipIdx, Zln]; simp only [Nat.add_zero, Array.length_toList, hv]; rw [if_pos (by omega)]; have : k * sz + j - k * sz = j := (by omega); rw [this]; simp
   ·simp only [Zaq hki]
    cases hf : parts.find? (fun p => Nat.beq p.1 i) with
    | some p => rfl
    | none => simp only []; rw [← Array.foldl_toList, Array.toList_zipIdx, Zln]; simp only [Nat.add_zero, Array.length_toList, hv]; rw [if_neg]; rintro ⟨c1, c2, _⟩; have := row_inj (i := i) (i' := k) (j := j) (j' := i * sz + j - k * sz) hj (by omega) (by omega); exact hki this.1.symm

section
variable {X : Cx} {h : Hp} {ρ : Nat → Loc} {st : St} {a : Act} {w : World} {P : Program}

theorem Zny {cs : Array Value} {e : TypeId} {fz : Nat × Nat} {b cap sz : Nat} {rows : List (List SV)} (hpos : 0 < sz) (hcap : rows.length ≤ cap) (hcm : cap ≤ 9223372036854775807) (hrow : ∀ (i : Nat) r, rows[i]? = some r → r.length = sz)
  (hb : w.heap[b]? = some (.cells cs e fz)) (hs : cap * sz ≤ cs.size) (hf : ∀ o, o < cap * sz → ¬ (fz.1 ≤ o ∧ o < fz.2)) (hh : ∀ o, h b o = none) (hz0 : fz = (0, 0) ∨ (sz = 1 ∧ cs.size ≤ fz.1))
  (hv : ∀ (i : Nat) r (j : Nat) c, rows[i]? = some r → r[j]? = some c → ∃ v, cs[i * sz + j]? = some v ∧ PRep h v c ∧ v.oneCell' = true) : OwnOK h w ⟨b, 0, rows.length, cap, sz, false⟩ sz rows where
 pos := hpos
 hsz := rfl
 hlen := rfl
 hcap := hcap
 hrow := hrow
 hblk := ⟨cs, e, fz, hb, by simpa using hs, fun o _ ho => hf o (by simpa using ho), fun i r j c h1 h2 => by simpa using hv i r j c h1 h2⟩
 hh := hh
 hfz := fun cs' t' fz' e => by rw [hb] at e; cases e; exact hz0
 hcm := hcm

theorem Zdd {e : TypeId} {z : List SV} (hz : Zfw P e = some z) : ∃ v, (∀ w, (zeroValue e).run P w = .ok v w) ∧ v.cells.size = z.length ∧ (∀ i, P.info? e = some i → i.zero = some v) ∧
  ∀ (j : Nat) u c, v.cells[j]? = some u → z[j]? = some c → PRep h u c ∧ u.oneCell' = true := by
 unfold Zfw at hz
 split at hz
 ·rename_i s hs; obtain ⟨v, hv, r, hb⟩ := Zc3 (h := h) (ρ := fun _ => noLoc) hs; obtain ⟨h1, h2⟩ := Zer r hb; obtain ⟨l, g⟩ := Zdn _ _ hz; refine ⟨v, hv, by omega, fun i hi => ?_, fun j u c hu hc => ?_⟩
  ·have := hv default
   cases hzz : i.zero with
   | none => simp [zeroValue, run_typeInfo' default hi, hzz, unsupported] at this
   | some v' => simp [zeroValue, run_typeInfo' default hi, hzz] at this; rw [this]
  ·obtain ⟨c0, e1, e2⟩ := g j c hc; obtain ⟨r1, r2⟩ := h2 j u c0 hu e1; exact ⟨Zb2 r1 e2, r2⟩
 ·cases hz

theorem Zxo {i j sz : Nat} (hj : j < sz) : (i * sz + j) % sz = j := by
 rw [Nat.mul_comm, Nat.mul_add_mod, Nat.mod_eq_of_lt hj]

theorem Zf6 {z : Array Value} {n sz i j : Nat} (hz : z.size = sz) (hi : i < n) (hj : j < sz) : ((Array.range (n * sz)).map (z[· % z.size]!))[i * sz + j]? = z[j]? := by
 have hlt := Zkb hi hj; have hj' : j < z.size := (by omega); simp only [Array.getElem?_map, Array.getElem?_range, hlt, if_true, Option.map_some, hz, Zxo hj]; rw [getElem!_pos z j hj', Array.getElem?_eq_getElem hj']

theorem Zcm {e : TypeId} (hb : Zce P e = true) : ∃ i z, P.info? e = some i ∧ i.bytes ≤ 8192 ∧ 0 < i.size ∧ i.zero = some z ∧ z.cells.size = i.size ∧ szT P e = some i.size := by
 unfold Zce at hb
 cases hi : P.info? e with
 | none => simp [hi] at hb
 | some i =>
  simp only [hi, Bool.and_eq_true] at hb; obtain ⟨⟨h1, h2⟩, h3⟩ := hb
  cases hz : i.zero with
  | none => simp [hz] at h3
  | some z => simp only [hz] at h3; exact ⟨i, z, rfl, Nat.le_of_ble_eq_true h1, Nat.le_of_ble_eq_true h2, hz, Nat.eq_of_beq_eq_true h3, by simp [szT, hi]⟩

theorem Zeh (zero : List SV) (parts : List (Nat × SV)) : ∀ (n i : Nat) (rows : List (List SV)), Zdw zero parts n i = some rows → rows.length = n ∧ ∀ (k : Nat) r, rows[k]? = some r → r.length = zero.length ∧
  match parts.find? (fun p => Nat.beq p.1 (i + k)) with
  | some p => ∃ s, Zdv p.2 = some s ∧ r = cellsOf s
  | none => r = zero
 | 0, i, rows, e => by simp [Zdw] at e; subst e; simp
 | n + 1, i, rows, e => by
  simp only [Zdw] at e
  split at e
  ·rename_i r rs h1 h2
   cases hb : Nat.beq (lenN r) (lenN zero) with
   | false => simp [hb] at e
   | true =>
    simp [hb] at e; subst e; obtain ⟨l, g⟩ := Zeh zero parts n (i + 1) rs h2; have hl : r.length = zero.length := by rw [← Zbi, ← Zbi]; exact Nat.eq_of_beq_eq_true hb
    refine ⟨by simp [l], fun k r' hk => ?_⟩
    cases k with
    | zero =>
     simp at hk; subst hk; refine ⟨hl, ?_⟩; rw [Nat.add_zero]
     split at h1
     ·rename_i p hp; rw [hp]
      split at h1
      ·rename_i s hs; cases h1; exact ⟨s, hs, rfl⟩
      ·cases h1
     ·rename_i hp; rw [hp]; cases h1; rfl
    | succ k => have := g k r' (by simpa using hk); rwa [show i + (k + 1) = i + 1 + k by omega]
  ·cases e

theorem Ze7 {v : Value} {s s' : SV} (r : Rep h ρ v s) (hp : Zdv s = some s') : v.cells.size = (cellsOf s').length ∧ ∀ (i : Nat) u c, v.cells[i]? = some u → (cellsOf s')[i]? = some c → PRep h u c ∧ u.oneCell' = true := by
 have hpr := Zhk r hp
 have hb : boxL (cellsOf s') = true := by
  have hcell : ∀ c c', Zau c = some c' → Zbv c' = true := by
   intro c c' e
   cases c <;> simp [Zau] at e
   ·rename_i v; cases v <;> simp at e <;> subst e <;> rfl
   all_goals (subst e; rfl)
  have hL : ∀ cs cs', pureL cs = some cs' → boxL cs' = true := by
   intro cs
   induction cs with
   | nil => intro cs' e; simp [pureL] at e; subst e; rfl
   | cons c cs ih =>
    intro cs' e; simp only [pureL] at e
    split at e
    ·rename_i c1 cs1 h1 h2
     cases e
     simp [boxL, hcell c c1 h1, ih cs1 h2]
    ·cases e
  unfold Zdv at hp
  split at hp
  ·simp at hp; obtain ⟨cs', hcs, rfl⟩ := hp; exact hL _ _ hcs
  ·rename_i hna; have h1 := hcell _ _ hp
   have : cellsOf s' = [s'] := by cases s' <;> first | rfl | (simp [Zbv] at h1)
   rw [this]; simp [boxL, h1]
 obtain ⟨h1, h2⟩ := Zer (ρ := fun _ => noLoc) (.pure _ _ hpr) hb; refine ⟨h1, fun i u c hu hc => ?_⟩; obtain ⟨r1, r2⟩ := h2 i u c hu hc; refine ⟨?_, r2⟩
 -- a cell of a pure datum
 cases hpr with
 | agg vs cs hl hcc => exact hcc i u c hu hc
 | val v =>
  cases i with
  | zero =>
   have hbc := Zi2 hb 0 (.val v) (by simp [cellsOf]); simp [cellsOf] at hc; subst hc
   have hvc : v.cells = #[v] := by cases v <;> first | rfl | (simp [Zbv] at hbc)
   rw [hvc] at hu; simp at hu; subst hu; exact .val _
  | succ i => simp [cellsOf] at hc
 | empty p cap sz tok ht ht1 hn =>
  cases i with
  | zero => simp [cellsOf, Value.cells] at hu hc; subst hu; subst hc; exact .empty p cap sz tok ht ht1 hn
  | succ i => simp [cellsOf] at hc
 | slice b off cap sz rows tok vs hpos hz hh hr ho ht ht1 hle =>
  cases i with
  | zero => simp [cellsOf, Value.cells] at hu hc; subst hu; subst hc; exact .slice b off cap sz rows tok vs hpos hz hh hr ho ht ht1 hle
  | succ i => simp [cellsOf] at hc
 | ref b base off cells vs hh hr =>
  cases i with
  | zero => simp [cellsOf, Value.cells] at hu hc; subst hu; subst hc; exact .ref b base off cells vs hh hr
  | succ i => simp [cellsOf] at hc
 | clo f vs cs hl hcc =>
  cases i with
  | zero => simp [cellsOf, Value.cells] at hu hc; subst hu; subst hc; exact .clo f vs cs hl hcc
  | succ i => simp [cellsOf] at hc
 | ifc t v s hv =>
  cases i with
  | zero => simp [cellsOf, Value.cells] at hu hc; subst hu; subst hc; exact .ifc t v s hv
  | succ i => simp [cellsOf] at hc
 | arr => simp [cellsOf, boxL, Zbv] at hb
 | unk v => simp [cellsOf, boxL, Zbv] at hb

theorem Zkw (hsub : HSub h w) {t e : TypeId} {len : Nat} {z : List SV} {parts : List (Nat × SV)} {vparts : Array (Nat × Value)} {rows : List (List SV)} (hu : P.underlying t = some (.slice e)) (hz : Zfw P e = some z) (hb : Zce P e = true)
  (hmax : len * z.length ≤ 16777216) (hzs : z.length = (szT P e).getD 0) (hlt : ∀ p ∈ parts, p.1 < len) (hnd : (parts.map (·.1)).Nodup) (hrows : Zdw z parts len 0 = some rows)
  (hl : vparts.size = parts.length) (hp : ∀ (i : Nat) p q, parts[i]? = some p → vparts[i]? = some q → q.1 = p.1 ∧ Rep h ρ q.2 p.2) (hall : ∀ p ∈ parts, ∃ s, Zdv p.2 = some s ∧ (cellsOf s).length = z.length) :
  ∃ cs, (Instr.buildSlice t len vparts).run P w = .ok (.slice (some ⟨w.heap.size, 0, none⟩) len len) (w.alloc (.cells cs e)) ∧ rows.length = len ∧ OwnOK h (w.alloc (.cells cs e)) ⟨w.heap.size, 0, rows.length, len, z.length, false⟩ z.length rows := by
 obtain ⟨i, zv, hi, hby, hpos, hzz, hzc, hszT⟩ := Zcm hb; have hsz : z.length = i.size := by rw [hzs, hszT]; rfl
 obtain ⟨v, hv, hvs, hvz, hvc⟩ := Zdd (h := h) hz; have hvz' : zv = v := by have := hvz i hi; rw [hzz] at this; cases this; rfl
 subst hvz'; obtain ⟨hrl, hrg⟩ := Zeh z parts len 0 rows hrows; have hget : ∀ (k : Nat) q, vparts[k]? = some q → ∃ p, parts[k]? = some p ∧ q.1 = p.1 ∧ Rep h ρ q.2 p.2 := fun k q hq => by have hk : k < parts.length := (by have := (Array.getElem?_eq_some_iff.1 hq).1; omega); exact ⟨parts[k], List.getElem?_eq_getElem hk, hp k _ q (List.getElem?_eq_getElem hk) hq⟩
 have hmap : vparts.toList.map (·.1) = parts.map (·.1) := by
  apply List.ext_getElem?; intro k; simp only [List.getElem?_map, Array.getElem?_toList]
  cases hq : vparts[k]? with
  | none => have : parts[k]? = none := (by rw [List.getElem?_eq_none_iff]; rw [Array.getElem?_eq_none_iff] at hq; omega); simp [this]
  | some q => obtain ⟨p, e1, e2, _⟩ := hget k q hq; simp [e1, e2]
 obtain ⟨cs, e1, e2, e3⟩ := Znx len i.size hpos vparts.toList ((Array.range (len * i.size)).map (zv.cells[· % zv.cells.size]!)) (fun q hq => by
   obtain ⟨k, hk, e⟩ := List.mem_iff_getElem.1 hq; have hk' : k < vparts.size := (by simpa using hk); obtain ⟨p, e1, e2, e3⟩ := hget k q (by rw [Array.getElem?_eq_getElem hk']; simp at e; rw [e]); have hpm := List.mem_of_getElem? e1; obtain ⟨s, q1, q2⟩ := hall p hpm
   exact ⟨by rw [e2]; exact hlt p hpm, by rw [(Ze7 e3 q1).1, q2, hsz]⟩) (by rw [hmap]; exact hnd) (by simp)
 refine ⟨cs, ?_, hrl, ?_⟩
 ·unfold Instr.buildSlice; have hmax' : ¬ (len * i.size > 2 ^ 24) := by rw [← hsz]; omega
  simp only [Sem.run_bind, run_underlying hu, Result.andThen_ok, run_sizeOf' w hszT, hmax', if_false]; by_cases h0 : len * i.size = 0
  ·have hl0 : len = 0 := (Nat.mul_eq_zero.1 h0).resolve_right (by omega)
   have hp0 : parts = [] := by
    cases parts with
    | nil => rfl
    | cons p _ => have := hlt p (by simp); omega
   have hv0 : vparts = #[] := Array.eq_empty_of_size_eq_zero (by rw [hl, hp0]; rfl); have hc0 : cs = #[] := Array.eq_empty_of_size_eq_zero (by rw [e2, h0]); subst hc0; subst hv0; subst hl0; simp [Instr.fill, newRow]; congr 2; apply Array.eq_empty_of_size_eq_zero; simp
  ·simp only [h0, if_false, Sem.run_bind, hv w, Result.andThen_ok, Sem.run_pure]; simp [e1, newRow]
 ·refine Zny (cs := cs) (e := e) (fz := (0, 0)) (by rw [hsz]; exact hpos) (by rw [hrl]; exact Nat.le_refl _) (by have := Nat.le_mul_of_pos_right len (show 0 < z.length by rw [hsz]; exact hpos); omega) (fun k r hk => (hrg k r hk).1) (by show (w.heap.push _)[_]? = _; simp) (by rw [hsz, e2]; exact Nat.le_refl _) (fun o _ => by simp) (fun o => Zcy hsub o _ (Nat.le_refl _)) (.inl rfl) (fun k r j c hk hj => ?_); have hkl : k < len := by have := (List.getElem?_eq_some_iff.1 hk).1; omega
  obtain ⟨hrz, hr2⟩ := hrg k r hk; have hjl : j < i.size := by have := (List.getElem?_eq_some_iff.1 hj).1; omega
  rw [hsz, e3 k j hkl hjl]; rw [Nat.zero_add] at hr2
  have hfind : ∀ (vl : List (Nat × Value)) (pl : List (Nat × SV)), vl.map (·.1) = pl.map (·.1) → (∀ (m : Nat) q, vl[m]? = some q → ∃ p, pl[m]? = some p ∧ q.1 = p.1 ∧ Rep h ρ q.2 p.2) →
    (∃ q p, vl.find? (fun p => Nat.beq p.1 k) = some q ∧ pl.find? (fun p => Nat.beq p.1 k) = some p ∧ Rep h ρ q.2 p.2) ∨ (vl.find? (fun p => Nat.beq p.1 k) = none ∧ pl.find? (fun p => Nat.beq p.1 k) = none) := by
   intro vl
   induction vl with
   | nil => intro pl he _; simp at he; subst he; exact .inr ⟨rfl, rfl⟩
   | cons q vl ih =>
    intro pl he hg
    cases pl with
    | nil => simp at he
    | cons p pl =>
     simp only [List.map_cons, List.cons.injEq] at he; rw [List.find?_cons, List.find?_cons, he.1]
     cases hbk : Nat.beq p.1 k with
     | true => obtain ⟨p', q1, q2, q3⟩ := hg 0 q rfl; simp at q1; subst q1; exact .inl ⟨q, p, rfl, rfl, q3⟩
     | false => exact ih pl he.2 (fun m q' hm => by simpa using hg (m + 1) q' (by simpa using hm))
  rcases hfind vparts.toList parts hmap (fun m q hm => hget m q (by simpa using hm)) with ⟨q, p, g1, g2, g3⟩ | ⟨g1, g2⟩
  ·rw [g1]; rw [g2] at hr2; simp only [] at hr2 ⊢; obtain ⟨s, q1, rfl⟩ := hr2; obtain ⟨c1, c2⟩ := Ze7 g3 q1; have : j < q.2.cells.size := by rw [c1]; exact (List.getElem?_eq_some_iff.1 hj).1
   exact ⟨q.2.cells[j], Array.getElem?_eq_getElem this, c2 j _ c (Array.getElem?_eq_getElem this) hj⟩
  ·rw [g1]; rw [g2] at hr2; simp only [] at hr2 ⊢; subst hr2; rw [Zf6 hzc hkl hjl]; have : j < zv.cells.size := (by omega); exact ⟨zv.cells[j], Array.getElem?_eq_getElem this, hvc j _ c (Array.getElem?_eq_getElem this) hj⟩

end

theorem Zhn {a : Int} (h1 : -9223372036854775808 ≤ a) (h2 : a ≤ 9223372036854775807) : IntKind.i64.wrap a = a := by
 have e1 : (2 : Int) ^ 64 = 18446744073709551616 := (by decide); have e2 : (2 : Int) ^ (64 - 1) = 9223372036854775808 := (by decide); simp only [IntKind.wrap, IntKind.signed, IntKind.bits, Bool.true_and, e1, e2, ge_iff_le, decide_eq_true_eq]
 split <;> omega

theorem Znz (n : Nat) : ∀ (r c : Nat), Builtin.growBy n r c ≤ max c (n + (n + 768) / 4)
 | 0, c => by simp [Builtin.growBy]; omega
 | r + 1, c => by
  simp only [Builtin.growBy]
  split
  ·omega
  ·have := Znz n r (c + (c + 768) / 4); omega

theorem Zfq {need cap : Nat} (h : cap < need) : Builtin.nextslicecap need cap ≤ 2 * need + 200 := by
 unfold Builtin.nextslicecap
 split
 ·omega
 ·split
  ·omega
  ·have := Znz need 4 cap; omega

section
variable {X : Cx} {h : Hp} {ρ : Nat → Loc} {st : St} {a : Act} {w : World} {P : Program}

theorem Zke (n : Nat) (w : World) : (askRoom n).run P w = .ok () w := by
 unfold askRoom
 split <;> simp [mark, Sem.run]

theorem Zms (hsub : HSub h w) {t e : TypeId} {n m : Int} {z : List SV} (hu : P.underlying t = some (.slice e)) (hz : Zfw P e = some z) (hb : Zce P e = true) (hzs : z.length = (szT P e).getD 0)
  (h0 : 0 ≤ n) (h1 : n ≤ m) (h2 : m ≤ 2147483648) : ∃ cs, (Instr.makeSlice t (.int .i64 n) (.int .i64 m)).run P w = .ok (.slice (some ⟨w.heap.size, 0, none⟩) n.toNat m.toNat) (w.alloc (.cells cs e)) ∧
   OwnOK h (w.alloc (.cells cs e)) ⟨w.heap.size, 0, (rrep n z).length, m.toNat, z.length, false⟩ z.length (rrep n z) := by
 obtain ⟨i, zv, hi, hby, hpos, hzz, hzc, hszT⟩ := Zcm hb; have hsz : z.length = i.size := by rw [hzs, hszT]; rfl
 obtain ⟨v, hv, hvs, hvz, hvc⟩ := Zdd (h := h) hz; have hvz' : zv = v := by have := hvz i hi; rw [hzz] at this; cases this; rfl
 subst hvz'; have wn : IntKind.i64.wrap n = n := Zhn (by omega) (by omega); have wm : IntKind.i64.wrap m = m := Zhn (by omega) (by omega); have hb48 : ¬ ((i.bytes : Int) * m > 2 ^ 48) := by have h3 : (i.bytes : Int) * m ≤ 8192 * 2147483648 := Int.mul_le_mul (by omega) h2 (by omega) (by omega); have h4 : (2 : Int) ^ 48 = 281474976710656 := (by decide); omega
 have key : ∃ cs, (Instr.makeSlice t (.int .i64 n) (.int .i64 m)).run P w = .ok (.slice (some ⟨w.heap.size, 0, none⟩) n.toNat m.toNat) (w.alloc (.cells cs e)) ∧ cs.size = m.toNat * i.size ∧
   ∀ k j, k < m.toNat → j < i.size → cs[k * i.size + j]? = zv.cells[j]? := by
  have hc : ¬ ((decide (m < 0) || decide ((i.bytes : Int) * m > 2 ^ 48) || decide (n < 0) || decide (n > m)) = true) := (by simp only [Bool.or_eq_true, decide_eq_true_eq]; omega); by_cases hn : m.toNat * i.size = 0
  ·refine ⟨#[], ?_, by rw [hn]; rfl, fun k j hk hj => ?_⟩
   ·unfold Instr.makeSlice; simp only [Sem.run_bind, run_underlying hu, Result.andThen_ok, asInt, asIntOf, Sem.run_pure, run_typeInfo' w hi, wn, wm]; rw [if_neg hc]; simp only [Sem.run_bind, Result.andThen_ok, Zke, run_sizeOf' w hszT]; simp [hn, newRow]; congr 2; apply Array.eq_empty_of_size_eq_zero; simp
   ·rcases Nat.mul_eq_zero.1 hn with e0 | e0 <;> omega
  ·refine ⟨(Array.range (m.toNat * i.size)).map (zv.cells[· % zv.cells.size]!), ?_, by simp, fun k j hk hj => Zf6 hzc hk hj⟩; unfold Instr.makeSlice; simp only [Sem.run_bind, run_underlying hu, Result.andThen_ok, asInt, asIntOf, Sem.run_pure, run_typeInfo' w hi, wn, wm]; rw [if_neg hc]; simp only [Sem.run_bind, Sem.run_pure, Result.andThen_ok, Zke, run_sizeOf' w hszT, hn, if_false, hv w]; simp [newRow]
 obtain ⟨cs, e1, e2, e3⟩ := key; refine ⟨cs, e1, ?_⟩; have hrl : (rrep n z).length = n.toNat := by simp [rrep]
 have hrz : ∀ (k : Nat) r, (rrep n z)[k]? = some r → k < n.toNat ∧ r = z := fun k r hk => by
  simp only [rrep, List.getElem?_replicate] at hk
  split at hk
  ·rename_i hlt; cases hk; exact ⟨hlt, rfl⟩
  ·cases hk
 refine Zny (cs := cs) (e := e) (fz := (0, 0)) (by rw [hsz]; exact hpos) (by rw [hrl]; omega) (by omega) (fun k r hk => by rw [(hrz k r hk).2]) (by show (w.heap.push _)[_]? = _; simp) (by rw [hsz, e2]; exact Nat.le_refl _) (fun o _ => by simp) (fun o => Zcy hsub o _ (Nat.le_refl _)) (.inl rfl) (fun k r j c hk hj => ?_); obtain ⟨hkl, rfl⟩ := hrz k r hk; have hjl : j < i.size := by have := (List.getElem?_eq_some_iff.1 hj).1; omega
 rw [hsz, e3 k j (by omega) hjl]; have : j < zv.cells.size := (by omega); exact ⟨zv.cells[j], Array.getElem?_eq_getElem this, hvc j _ c (Array.getElem?_eq_getElem this) hj⟩

structure Flat (h : Hp) (sz : Nat) (rows : List (List SV)) (vs : List Value) : Prop where
 len : vs.length = rows.length * sz
 row : ∀ (i : Nat) r, rows[i]? = some r → r.length = sz
 cell : ∀ (i : Nat) r (j : Nat) c, rows[i]? = some r → r[j]? = some c → ∃ v, vs[i * sz + j]? = some v ∧ PRep h v c
 one : ∀ v ∈ vs, v.oneCell' = true

theorem Flat.nil (sz : Nat) : Flat h sz [] [] := ⟨by simp, by simp, by simp, by simp⟩

theorem Zkf {k n sz : Nat} (hk : k < n * sz) : 0 < sz ∧ k / sz < n ∧ k % sz < sz ∧ k = k / sz * sz + k % sz := by
 have hs : 0 < sz := by
  rcases Nat.eq_zero_or_pos sz with e | e
  ·subst e; simp at hk
  ·exact e
 refine ⟨hs, Nat.div_lt_of_lt_mul (by rw [Nat.mul_comm]; exact hk), Nat.mod_lt _ hs, ?_⟩; have := Nat.div_add_mod k sz; rw [Nat.mul_comm] at this; exact this.symm

theorem Zmt {b off sz : Nat} {rows : List (List SV)} (hpos : 0 < sz) (hrow : ∀ (i : Nat) r, rows[i]? = some r → r.length = sz)
  (hc : ∀ (i : Nat) r (j : Nat) c, rows[i]? = some r → r[j]? = some c → ∃ v, w.cell? ⟨b, off + i * sz + j, none⟩ = some v ∧ PRep h v c ∧ v.oneCell' = true) :
  ∃ vs, Flat h sz rows vs ∧ ∀ w' : World, w'.heap[b]? = w.heap[b]? → (loadCells ⟨b, off, none⟩ (rows.length * sz)).run P w' = .ok vs.toArray w' := by
 have hk : ∀ k, k < rows.length * sz → ∃ v, w.cell? ⟨b, off + k, none⟩ = some v ∧ v.oneCell' = true := fun k hk => by obtain ⟨_, h1, h2, h3⟩ := Zkf hk; have hr := List.getElem?_eq_getElem h1; have hl := hrow _ _ hr; obtain ⟨v, e1, _, e3⟩ := hc _ _ (k % sz) _ hr (List.getElem?_eq_getElem (by omega)); refine ⟨v, ?_, e3⟩; rw [Nat.add_assoc, ← h3] at e1; exact e1
 refine ⟨(List.range (rows.length * sz)).map fun k => (w.cell? ⟨b, off + k, none⟩).getD undef, ⟨by simp, hrow, fun i r j c h1 h2 => ?_, fun v hv => ?_⟩, fun w' hw => ?_⟩
 ·have hi := (List.getElem?_eq_some_iff.1 h1).1; have hj : j < sz := (by have := (List.getElem?_eq_some_iff.1 h2).1; rw [hrow i r h1] at this; exact this); have hlt := Zkb hi hj; obtain ⟨v, e1, e2, _⟩ := hc i r j c h1 h2; refine ⟨v, ?_, e2⟩; simp only [List.getElem?_map, List.getElem?_range hlt, Option.map_some]; rw [← Nat.add_assoc, e1]; rfl
 ·simp only [List.mem_map, List.mem_range] at hv; obtain ⟨k, hkl, rfl⟩ := hv; obtain ⟨v, e1, e2⟩ := hk k hkl; rw [e1]; exact e2
 ·have := run_loadCells (P := P) w' ⟨b, off, none⟩ (rows.length * sz) (fun k => (w.cell? ⟨b, off + k, none⟩).getD undef) (fun k hkl => by
   rw [Zb0]; obtain ⟨v, e1, _⟩ := hk k hkl
   rw [Zfm hw e1, e1]; rfl)
  rw [this]

theorem Zd7 (F : FitsAt X h ρ st a w) {t2 : TypeId} {y : SV} {vy : Value} {sz' : Option Nat} {ys : List (List SV)} {z : Nat} (hr : Rep h ρ vy y) (e : Zhs P st t2 y = some (sz', ys))
  (hz : srcOK z sz' = true) (hpos : 0 < z) :
  (∃ d, P.underlying t2 = some d ∧ ∀ k, d ≠ .int k) ∧ (∀ w', (Builtin.lenOf vy).run P w' = .ok ys.length w') ∧
  ∃ vs, Flat h z ys vs ∧ ∀ w' : World, (∀ b, b < w.heap.size → w'.heap[b]? = w.heap[b]?) → (Builtin.firstCells z ys.length vy).run P w' = .ok vs.toArray w' := by
 unfold Zhs at e
 split at e
 ·rename_i e0 x hu; simp at e; obtain ⟨sz, hro, rfl⟩ := e; obtain ⟨p, cap, rfl, hp⟩ := Zd3 F hr hro; refine ⟨⟨_, hu, by simp⟩, fun w' => by simp [Builtin.lenOf], ?_⟩; by_cases h0 : 0 < ys.length
  ·obtain ⟨b, off, rfl, hsz, hrow, hc⟩ := hp h0
   have hzz : sz = z := by
    simp only [srcOK, Bool.or_eq_true] at hz
    rcases hz with hz | hz
    ·exact Nat.eq_of_beq_eq_true hz
    ·have := Nat.eq_of_beq_eq_true hz; omega
   subst hzz; obtain ⟨vs, hf, hl⟩ := Zmt (P := P) (w := w) hsz hrow hc; refine ⟨vs, hf, fun w' hw => ?_⟩
   have hblt : b < w.heap.size := by
    have hr0 : ys[0]? = some (ys[0]'h0) := List.getElem?_eq_getElem h0; have hl0 : 0 < (ys[0]'h0).length := (by rw [hrow 0 _ hr0]; exact hsz); obtain ⟨v, e1, _⟩ := hc 0 _ 0 ((ys[0]'h0)[0]'hl0) hr0 (List.getElem?_eq_getElem hl0); unfold World.cell? at e1; simp only [] at e1
    rcases Nat.lt_or_ge b w.heap.size with h' | h'
    ·exact h'
    ·rw [Array.getElem?_eq_none h'] at e1; cases e1
   simp only [Builtin.firstCells]; exact hl w' (hw b hblt)
  ·have hys : ys = [] := by cases ys with
    | nil => rfl
    | cons => simp at h0
   subst hys; refine ⟨[], Flat.nil z, fun w' _ => ?_⟩
   cases p with
   | none => simp [Builtin.firstCells]
   | some ad => simp [Builtin.firstCells, loadCells, loadCellsFrom]
 ·rename_i s hu; simp at e; obtain ⟨rfl, rfl⟩ := e; have hz1 : z = 1 := Nat.eq_of_beq_eq_true hz; subst hz1; have hv := hr.val_inv; subst hv; have hlen : (Zdq s).length = s.size := (by unfold Zdq; rw [List.length_map]; exact Array.length_toList); refine ⟨⟨_, hu, by simp⟩, fun w' => by simp [Builtin.lenOf, hlen], s.data.toList.map (fun b => .int .u8 b.toNat), ⟨by simp [Zdq], fun i r hi => ?_, fun i r j c hi hj => ?_, by simp [Value.oneCell']⟩, fun w' _ => ?_⟩
  ·simp [Zdq] at hi; obtain ⟨b, _, rfl⟩ := hi; rfl
  ·simp [Zdq] at hi; obtain ⟨b, hb, rfl⟩ := hi
   cases j with
   | zero => simp at hj; subst hj; exact ⟨.int .u8 b.toNat, by simp [hb], .val _⟩
   | succ j => simp at hj
  ·simp only [Builtin.firstCells, hlen, Sem.run_pure]; have hex : s.extract 0 s.size = s := (by simp [ByteArray.extract_zero_size]); rw [hex]; congr 1; apply Array.ext'; simp
 ·cases e

theorem Flat.append {sz : Nat} {r1 r2 : List (List SV)} {v1 v2 : List Value} (a : Flat h sz r1 v1) (b : Flat h sz r2 v2) : Flat h sz (r1 ++ r2) (v1 ++ v2) where
 len := by simp [a.len, b.len, Nat.add_mul]
 row := fun i r hi => by
  rw [List.getElem?_append] at hi
  split at hi
  ·exact a.row i r hi
  ·exact b.row _ r hi
 cell := fun i r j c hi hj => by
  rw [List.getElem?_append] at hi
  split at hi
  ·rename_i hlt; obtain ⟨v, e1, e2⟩ := a.cell i r j c hi hj; exact ⟨v, by rw [List.getElem?_append_left (List.getElem?_eq_some_iff.1 e1).1]; exact e1, e2⟩
  ·rename_i hlt; obtain ⟨v, e1, e2⟩ := b.cell _ r j c hi hj; refine ⟨v, ?_, e2⟩; have : r1.length * sz ≤ i * sz := Nat.mul_le_mul_right sz (by omega); rw [List.getElem?_append_right (by rw [a.len]; omega), a.len]; rw [← e1]; congr 1; rw [Nat.sub_mul]; omega
 one := fun v hv => (List.mem_append.1 hv).elim (a.one v) (b.one v)

theorem Zes {t1 t2 e ty : TypeId} {i : TypeInfo} {d2 : TypeDesc} (hu : P.underlying t1 = some (.slice e)) (hi : P.info? e = some i) (hu2 : P.underlying t2 = some d2) (hd2 : ∀ k, d2 ≠ .int k) {vy : Value} {m : Nat} {vs : List Value}
  (hlen : (Builtin.lenOf vy).run P w = .ok m w) (hsrc : (Builtin.firstCells i.size m vy).run P w = .ok vs.toArray w) {p : Option Addr} {n cap : Nat} (hfit : n + m ≤ cap) {w' : World}
  (hst : match p with | some ad => (storeCells (ad.add (n * i.size)) vs).run P w = .ok () w' | none => w' = w) :
  (Builtin.append_ #[t1, t2] ty #[.slice p n cap, vy]).run P w = .ok (.slice p (n + m) cap) w' := by
 have hz : (match d2 with | .int _ => true | _ => false) = false := by cases d2 <;> first | rfl | exact absurd rfl (hd2 _)
 unfold Builtin.append_; simp only [sizeOf]; have hz' : (d2 matches .int _) = false := by cases d2 <;> first | rfl | exact absurd rfl (hd2 _)
 simp [hlen, hfit, hsrc, run_underlying hu, run_underlying hu2, run_typeInfo' w hi]
 cases p with
 | none => simp at hst; subst hst; simp
 | some ad => simp at hst; simp [hst]

theorem Ze8 {t1 t2 e ty : TypeId} {i : TypeInfo} {z : Value} {d2 : TypeDesc} (hu : P.underlying t1 = some (.slice e)) (hi : P.info? e = some i) (hzz : i.zero = some z) (hby : i.bytes ≤ 8192) (hu2 : P.underlying t2 = some d2) (hd2 : ∀ k, d2 ≠ .int k) {vy : Value} {m : Nat} {vs old : List Value}
  (hlen : (Builtin.lenOf vy).run P w = .ok m w) {p : Option Addr} {n cap : Nat} (hno : ¬ n + m ≤ cap) (hmax : n + m ≤ 2147483648)
  (hsrc : (Builtin.firstCells i.size m vy).run P w.drew = .ok vs.toArray w.drew)
  (hold : (Builtin.firstCells i.size n (.slice p n cap)).run P w.drew = .ok old.toArray w.drew) :
  ∃ nc, n + m ≤ nc ∧ nc ≤ 9223372036854775807 ∧ (Builtin.append_ #[t1, t2] ty #[.slice p n cap, vy]).run P w = .ok (.slice (some ⟨w.heap.size, 0, none⟩) (n + m) nc)
   (w.drew.alloc (.cells (old.toArray ++ vs.toArray ++ Builtin.zeroCells z.cells (nc - (n + m))) e)) := by
 have hz' : (d2 matches .int _) = false := by cases d2 <;> first | rfl | exact absurd rfl (hd2 _)
 refine ⟨(n + m) + (w.tape w.drawn (.appendCap (n + m) cap e)) % (2 ^ 63 - (n + m)), by omega, by have := Nat.mod_lt (w.tape w.drawn (.appendCap (n + m) cap e)) (show 0 < 2 ^ 63 - (n + m) by omega); omega, ?_⟩; unfold Builtin.append_; have h1 : ¬ (((n + m : Nat) : Int) > IntKind.i64.max ∧ (false = true ∨ i.bytes = 0)) := by have : IntKind.i64.max = 9223372036854775807 := (by decide); omega
 have h2 : ¬ (Builtin.nextslicecap (n + m) cap * i.bytes > 2 ^ 48) := (by have e1 := Zfq (need := n + m) (cap := cap) (by omega); have e2 : Builtin.nextslicecap (n + m) cap * i.bytes ≤ (2 * (n + m) + 200) * 8192 := Nat.mul_le_mul e1 hby; omega); simp only [sizeOf]; simp [hlen, hno, run_underlying hu, run_underlying hu2, run_typeInfo' w hi]; have h1' : ¬ (9223372036854775807 < (n : Int) + (m : Int) ∧ i.bytes = 0) := (by omega); have h2' : ¬ (281474976710656 < Builtin.nextslicecap (n + m) cap * i.bytes) := (by have : (2 : Nat) ^ 48 = 281474976710656 := (by decide); omega); rw [if_neg h1', if_neg h2']; simp [Question.forced, Question.cut, run_typeInfo' _ hi, hold, hsrc, zeroValue, hzz, newRow]; congr 2; rw [← Array.append_assoc]; simp

end

section
variable {X : Cx} {h : Hp} {ρ : Nat → Loc} {st : St} {a : Act} {w : World} {P : Program}

theorem Zo8 {w' : World} {cs : Array Value} {e : TypeId} {fz : Nat × Nat} {b cap sz : Nat} {rows : List (List SV)} {vs : List Value} (hf : Flat h sz rows vs) (hpos : 0 < sz) (hcap : rows.length ≤ cap) (hcm : cap ≤ 9223372036854775807)
  (hb : w'.heap[b]? = some (.cells cs e fz)) (hs : cap * sz ≤ cs.size) (hfz : ∀ o, o < cap * sz → ¬ (fz.1 ≤ o ∧ o < fz.2)) (hh : ∀ o, h b o = none) (hz0 : fz = (0, 0) ∨ (sz = 1 ∧ cs.size ≤ fz.1)) (hv : ∀ (k : Nat) v, vs[k]? = some v → cs[k]? = some v) :
  OwnOK h w' ⟨b, 0, rows.length, cap, sz, false⟩ sz rows :=
 Zny hpos hcap hcm hf.row hb hs hfz hh hz0 fun i r j c hi hj => by obtain ⟨v, e1, e2⟩ := hf.cell i r j c hi hj; exact ⟨v, hv _ _ e1, e2, hf.one v (List.mem_of_getElem? e1)⟩

theorem Zal (w : World) (o : Obj) : Keeps (fun _ => False) w (w.drew.alloc o) :=
 (Zrn w).trans (Zby w.drew o)

theorem OwnOK.flat {l : Loc} {sz : Nat} {rows : List (List SV)} (o : OwnOK h w l sz rows) : ∃ vs, Flat h sz rows vs ∧ ∀ w' : World, w'.heap[l.blk]? = w.heap[l.blk]? → (loadCells ⟨l.blk, l.off, none⟩ (rows.length * sz)).run P w' = .ok vs.toArray w' := by
 obtain ⟨cs, t, fz, hc, hs, hf, hv⟩ := o.hblk
 exact Zmt o.pos o.hrow (fun i r j c h1 h2 => by
  obtain ⟨v, e1, e2, e3⟩ := hv i r j c h1 h2
  exact ⟨v, by simp [World.cell?, hc, e1], e2, e3⟩)

theorem OwnOK.more {l : Loc} {sz : Nat} {rows ys : List (List SV)} {vs : List Value} (o : OwnOK h w l sz rows) (hf : Flat h sz ys vs) (hfit : rows.length + ys.length ≤ l.cap) :
  ∃ w', (storeCells ((⟨l.blk, l.off, none⟩ : Addr).add (rows.length * sz)) vs).run P w = .ok () w' ∧ Keeps (fun k => k = l.blk) w w' ∧ (∀ k, k ≠ l.blk → w'.heap[k]? = w.heap[k]?) ∧ OwnOK h w' { l with len := rows.length + ys.length } sz (rapp rows ys) := by
 obtain ⟨cs, t, fz, hc, hs, hfz, hv⟩ := o.hblk; have hmul : rows.length * sz + ys.length * sz ≤ l.cap * sz := by rw [← Nat.add_mul]; exact Nat.mul_le_mul_right sz hfit
 have hrun := Zcb P l.blk (l.off + rows.length * sz) t fz vs 0 cs w hc (by rw [hf.len]; omega) hf.one (fun x hx1 hx2 => hfz x (by omega) (by rw [hf.len] at hx2; omega)); rw [Zb0]; simp only [Nat.add_zero] at hrun; refine ⟨_, hrun, Zb5 _ _ _, fun k hk => setRow_other _ _ _ _ hk, ⟨o.pos, o.hsz, by simp [rapp], by simp [rapp]; exact hfit, fun i r hi => ?_, ⟨_, t, fz, setRow_heap w _ cs _ t _ hc, ?_, hfz, fun i r j c hi hj => ?_⟩, o.hh, fun cs' t' fz' e => by rw [setRow_heap w _ cs _ t _ hc] at e; cases e; exact (o.hfz _ _ _ hc).imp (fun z => z) fun q => ⟨q.1, by simp [hf.len]; omega⟩, o.hcm⟩⟩
 ·simp only [rapp, List.getElem?_append] at hi
  split at hi
  ·exact o.hrow i r hi
  ·exact hf.row _ r hi
 ·simp [hf.len]; omega
 ·simp only [rapp, List.getElem?_append] at hi; simp only [List.getElem?_toArray]; have l1 : (List.take (l.off + rows.length * sz) cs.toList).length = l.off + rows.length * sz := by simp; omega
  split at hi
  ·rename_i hlt; obtain ⟨v, e1, e2, e3⟩ := hv i r j c hi hj; have hjl : j < sz := by have := (List.getElem?_eq_some_iff.1 hj).1; rw [o.hrow i r hi] at this; exact this
   have := Zkb hlt hjl; refine ⟨v, ?_, e2, e3⟩; rw [List.append_assoc, List.getElem?_append_left (by rw [l1]; omega), List.getElem?_take, if_pos (by omega)]
   simpa using e1
  ·rename_i hlt; obtain ⟨v, e1, e2⟩ := hf.cell _ r j c hi hj; refine ⟨v, ?_, e2, hf.one v (List.mem_of_getElem? e1)⟩; have hle : rows.length * sz ≤ i * sz := Nat.mul_le_mul_right sz (by omega); have hlv := (List.getElem?_eq_some_iff.1 e1).1; rw [Nat.sub_mul] at e1 hlv; rw [List.getElem?_append_left (by rw [List.length_append, l1]; omega), List.getElem?_append_right (by rw [l1]; omega), l1, ← e1]; congr 1; omega

structure Appended (X : Cx) (h : Hp) (st st' : St) (a : Act) (w : World) (v : Value) (w' : World) (id : Nat) (ρ : Nat → Loc) : Prop where
 fits : ∃ ρ', FitsAt X h ρ' st' a w' ∧ Rep h ρ' v (.osl id)
 size : w.heap.size ≤ w'.heap.size

theorem Zrr (F : FitsAt X h ρ st a w) {t1 t2 e ty : TypeId} {vx vy : Value} {y : SV} {sz' : Option Nat} {ys : List (List SV)} {z id nid : Nat} {rows : List (List SV)} (hu : P.underlying t1 = some (.slice e)) (hz : szT P e = some z) (hb : Zce P e = true)
  (hsrc : Zhs P st t2 y = some (sz', ys)) (hry : Rep h ρ vy y) (hok : srcOK z sz' = true) (ho : oget st.objs id = some (.own z rows)) (hrx : Rep h ρ vx (.osl id)) (hmax : lsum (rlen rows) (rlen ys) ≤ most) (hnid : idOK nid = true) :
  ∃ v w', (Builtin.append_ #[t1, t2] ty #[vx, vy]).run P w = .ok v w' ∧ (∃ ρ', FitsAt X h ρ' ((st.drop id).bind nid (.own z (rapp rows ys))) a w' ∧ Rep h ρ' v (.osl nid)) ∧ w.heap.size ≤ w'.heap.size ∧
   ∀ b, b < w.heap.size → (live st.objs ρ id → (ρ id).blk ≠ b) → w'.heap[b]? = w.heap[b]? := by
 obtain ⟨i, zv, hi, hby, hpos, hzz, hzc, hszT⟩ := Zcm hb; have hzi : z = i.size := by rw [hszT] at hz; cases hz; rfl
 subst hzi; obtain ⟨⟨d2, hu2, hd2⟩, hlen, vs, hf, hcells⟩ := Zd7 (P := P) F hry hsrc hok hpos; have hmax' : rows.length + ys.length ≤ 2147483648 := by simp only [lsum, rlen, most, Int.ofNat_eq_natCast] at hmax; omega
 have Fd := F.drop id (ρ' := ρ) (fun _ _ => rfl) (.inr rfl); have hdl : ∀ k, live (st.drop id).objs ρ k → k ≠ id ∧ live st.objs ρ k := fun k hk => Zst (fun _ _ => rfl) hk
 have newObj : ∀ (cs : Array Value) (nc : Nat), rows.length + ys.length ≤ nc → OwnOK h (w.drew.alloc (.cells cs e)) ⟨w.heap.size, 0, (rapp rows ys).length, nc, i.size, false⟩ i.size (rapp rows ys) →
   ∃ ρ', FitsAt X h ρ' ((st.drop id).bind nid (.own i.size (rapp rows ys))) a (w.drew.alloc (.cells cs e)) ∧ Rep h ρ' (.slice (some ⟨w.heap.size, 0, none⟩) (rapp rows ys).length nc) (.osl nid) := by
  intro cs nc hnc hown; have hl : (⟨w.heap.size, 0, (rapp rows ys).length, nc, i.size, false⟩ : Loc).none = false := rfl; refine ⟨upd ρ nid _, Fd.newOwn nid hnid (.own i.size (rapp rows ys)) ⟨w.heap.size, 0, (rapp rows ys).length, nc, i.size, false⟩ (Zal w _) (by simp) (fun _ => Nat.le_refl _) (.inr ⟨by rw [Zad], by rw [Zad]; exact hown⟩), ?_⟩; have := Rep.osl (h := h) (ρ := upd ρ nid ⟨w.heap.size, 0, (rapp rows ys).length, nc, i.size, false⟩) nid (by rw [Zad]); rw [Zad] at this; exact this
 have hrl : (rapp rows ys).length = rows.length + ys.length := (by simp [rapp]); have hblkAlloc : ∀ (o : Obj) b, b < w.heap.size → (w.drew.alloc o).heap[b]? = w.heap[b]? := fun o b hb => (Zal w o).block b hb (fun e => e); have hszAlloc : ∀ (o : Obj), w.heap.size ≤ (w.drew.alloc o).heap.size := fun o => (Zal w o).size
 have hflat : ∀ (old : List Value) (nc : Nat), Flat h i.size rows old → rows.length + ys.length ≤ nc → nc ≤ 9223372036854775807 → OwnOK h (w.drew.alloc (.cells (old.toArray ++ vs.toArray ++ Builtin.zeroCells zv.cells (nc - (rows.length + ys.length))) e)) ⟨w.heap.size, 0, (rapp rows ys).length, nc, i.size, false⟩ i.size (rapp rows ys) := by
  intro old nc ho' hnc hnm; refine Zo8 (fz := (0, 0)) (e := e) (cs := old.toArray ++ vs.toArray ++ Builtin.zeroCells zv.cells (nc - (rows.length + ys.length))) (ho'.append hf) hpos (by rw [hrl]; exact hnc) hnm (by show (w.heap.push _)[_]? = _; simp) ?_ (fun o _ => by simp) (fun o => Zcy F.sub o _ (Nat.le_refl _)) (.inl rfl) (fun k v hk => ?_)
  ·simp only [Array.size_append, List.size_toArray, ho'.len, hf.len, Builtin.zeroCells, Array.size_map, Array.size_range, hzc]; rw [← Nat.add_mul, ← Nat.add_mul]; exact Nat.mul_le_mul_right _ (by omega)
  ·have hk' := (List.getElem?_eq_some_iff.1 hk).1; rw [Array.getElem?_append_left (by simpa using hk')]
   simpa using hk
 rcases F.obj id _ ho with ⟨hn, rfl⟩ | ⟨hn, o⟩
 ·rcases hrx.osl_inv with ⟨_, p, rfl⟩ | ⟨hn', _⟩
  ·by_cases h0 : ys.length = 0
   ·have hys : ys = [] := List.eq_nil_of_length_eq_zero h0; subst hys; have hvs : vs = [] := List.eq_nil_of_length_eq_zero (by rw [hf.len]; simp); subst hvs; have hrun := Zes (P := P) (ty := ty) hu hi hu2 hd2 (hlen w) (hcells w (fun _ _ => rfl)) (p := p) (n := 0) (cap := 0) (by simp) (w' := w) (by cases p <;> simp [storeCells]); refine ⟨_, _, hrun, ⟨upd ρ nid noLoc, Fd.newOwn nid hnid (.own i.size (rapp [] [])) noLoc (Keeps.refl _ _) (by simp) (by simp [noLoc]) (.inl ⟨by rw [Zad]; rfl, rfl⟩), ?_⟩, Nat.le_refl _, fun _ _ _ => rfl⟩; exact .osl0 nid p (by rw [Zad]; rfl)
   ·obtain ⟨nc, hnc, hnm, hrun⟩ := Ze8 (P := P) (ty := ty) (p := p) (n := 0) (cap := 0) (old := []) hu hi hzz hby hu2 hd2 (hlen w) (by omega) (by simpa using hmax') (hcells w.drew (fun _ _ => rfl)) (by
     cases p with
     | none => simp [Builtin.firstCells]
     | some ad => simp [Builtin.firstCells, loadCells, loadCellsFrom])
    simp only [Nat.zero_add] at hrun hnc; obtain ⟨ρ', F', r'⟩ := newObj _ nc (by simpa using hnc) (hflat [] nc (Flat.nil _) (by simpa using hnc) hnm); simp only [List.length_nil, Nat.zero_add] at F' r'; refine ⟨_, _, hrun, ⟨ρ', F', ?_⟩, hszAlloc _, fun b hb _ => hblkAlloc _ b hb⟩
    simpa [rapp] using r'
  ·rw [hn] at hn'; cases hn'
 ·rcases hrx.osl_inv with ⟨hn', _⟩ | ⟨_, rfl⟩
  ·rw [hn] at hn'; cases hn'
  ·have hlv : live st.objs ρ id := ⟨⟨_, ho⟩, hn⟩
   by_cases hfit : rows.length + ys.length ≤ (ρ id).cap
   ·obtain ⟨w', hst, hk, hoth, hown⟩ := o.more (P := P) hf hfit; have hrun := Zes (P := P) (ty := ty) hu hi hu2 hd2 (hlen w) (hcells w (fun _ _ => rfl)) (p := some ⟨(ρ id).blk, (ρ id).off, none⟩) (n := (ρ id).len) (cap := (ρ id).cap) (by rw [o.hlen]; exact hfit) (w' := w') (by rw [o.hlen]; exact hst); have Ft := Fd.touch (ρ id).blk (fun k hk => F.inj k id (hdl k hk).2 hlv (hdl k hk).1) o.hh (F.own id hlv) hoth hk; refine ⟨_, _, hrun, ⟨upd ρ nid { ρ id with len := rows.length + ys.length }, Ft.bind nid hnid (.own i.size (rapp rows ys)) { ρ id with len := rows.length + ys.length } (.inr ⟨by rw [Zad]; exact hn, by rw [Zad]; exact hown⟩) (fun _ => F.own id hlv) (fun _ k _ hk => F.inj k id (hdl k hk).2 hlv (hdl k hk).1), ?_⟩, hk.size, fun b hb hne => hoth b (fun e => hne hlv e.symm)⟩; have := Rep.osl (h := h) (ρ := upd ρ nid { ρ id with len := rows.length + ys.length }) nid (by rw [Zad]; exact hn); rw [Zad] at this; rw [o.hlen]; exact this
   ·obtain ⟨old, hfo, hlo⟩ := o.flat (P := P)
    obtain ⟨nc, hnc, hnm, hrun⟩ := Ze8 (P := P) (ty := ty) (p := some ⟨(ρ id).blk, (ρ id).off, none⟩) (n := (ρ id).len) (cap := (ρ id).cap) (old := old) hu hi hzz hby hu2 hd2 (hlen w) (by rw [o.hlen]; exact hfit) (by rw [o.hlen]; exact hmax') (hcells w.drew (fun _ _ => rfl)) (by
     simp only [Builtin.firstCells]; rw [o.hlen]
     exact hlo w.drew rfl)
    rw [o.hlen] at hrun hnc; obtain ⟨ρ', F', r'⟩ := newObj _ nc hnc (hflat old nc hfo hnc hnm); rw [hrl] at r'; refine ⟨_, _, ?_, ⟨ρ', F', r'⟩, hszAlloc _, fun b hb _ => hblkAlloc _ b hb⟩; rw [o.hlen]; exact hrun

theorem append_nil (F : FitsAt X h ρ st a w) {t1 t2 e ty : TypeId} {vx vy : Value} {y : SV} {sz' : Option Nat} {ys : List (List SV)} {z sz nid : Nat} (hu : P.underlying t1 = some (.slice e)) (hz : szT P e = some z) (hb : Zce P e = true)
  (hsrc : Zhs P st t2 y = some (sz', ys)) (hry : Rep h ρ vy y) (hok : srcOK z sz' = true) (hrx : Rep h ρ vx (.slice sz [] 1)) (hmax : rlen ys ≤ most) (hnid : idOK nid = true) :
  ∃ v w', (Builtin.append_ #[t1, t2] ty #[vx, vy]).run P w = .ok v w' ∧ (∃ ρ', FitsAt X h ρ' (st.bind nid (.own z ys)) a w' ∧ Rep h ρ' v (.osl nid)) ∧ w.heap.size ≤ w'.heap.size ∧ ∀ b, b < w.heap.size → w'.heap[b]? = w.heap[b]? := by
 obtain ⟨i, zv, hi, hby, hpos, hzz, hzc, hszT⟩ := Zcm hb; have hzi : z = i.size := by rw [hszT] at hz; cases hz; rfl
 subst hzi; obtain ⟨⟨d2, hu2, hd2⟩, hlen, vs, hf, hcells⟩ := Zd7 (P := P) F hry hsrc hok hpos; have hmax' : ys.length ≤ 2147483648 := by simp only [rlen, most, Int.ofNat_eq_natCast] at hmax; omega
 have hvx : ∃ p, vx = .slice p 0 0 := by
  cases hrx with
  | pure _ _ hp => cases hp with
   | empty p cap _ _ ht h1 hn => have := h1 rfl; subst this; exact ⟨p, rfl⟩
   | slice b off cap _ rows tok vs hpos hz hh hr ho ht h1 hle => have := h1 rfl; subst this; exact ⟨_, rfl⟩
 obtain ⟨p, rfl⟩ := hvx; by_cases h0 : ys.length = 0
 ·have hys : ys = [] := List.eq_nil_of_length_eq_zero h0; subst hys; have hvs : vs = [] := List.eq_nil_of_length_eq_zero (by rw [hf.len]; simp); subst hvs; have hrun := Zes (P := P) (ty := ty) hu hi hu2 hd2 (hlen w) (hcells w (fun _ _ => rfl)) (p := p) (n := 0) (cap := 0) (by simp) (w' := w) (by cases p <;> simp [storeCells]); refine ⟨_, _, hrun, ⟨upd ρ nid noLoc, F.newOwn nid hnid (.own i.size []) noLoc (Keeps.refl _ _) (by simp) (by simp [noLoc]) (.inl ⟨by rw [Zad]; rfl, rfl⟩), ?_⟩, Nat.le_refl _, fun _ _ => rfl⟩; exact .osl0 nid p (by rw [Zad]; rfl)
 ·obtain ⟨nc, hnc, hnm, hrun⟩ := Ze8 (P := P) (ty := ty) (p := p) (n := 0) (cap := 0) (old := []) hu hi hzz hby hu2 hd2 (hlen w) (by omega) (by simpa using hmax') (hcells w.drew (fun _ _ => rfl)) (by
   cases p with
   | none => simp [Builtin.firstCells]
   | some ad => simp [Builtin.firstCells, loadCells, loadCellsFrom])
  simp only [Nat.zero_add] at hrun hnc; refine ⟨_, _, hrun, ⟨upd ρ nid ⟨w.heap.size, 0, ys.length, nc, i.size, false⟩, F.newOwn nid hnid (.own i.size ys) _ (Zal w _) (by simp) (fun _ => Nat.le_refl _) (.inr ⟨by rw [Zad], ?_⟩), ?_⟩, (Zal w _).size, fun b hb => (Zal w _).block b hb (fun e => e)⟩
  ·rw [Zad]; refine Zo8 (fz := (0, 0)) (e := e) (cs := ([] : List Value).toArray ++ vs.toArray ++ Builtin.zeroCells zv.cells (nc - ys.length)) hf hpos hnc hnm (by show (w.heap.push _)[_]? = _; simp) ?_ (fun o _ => by simp) (fun o => Zcy F.sub o _ (Nat.le_refl _)) (.inl rfl) (fun k v hk => ?_)
   ·simp only [Array.size_append, List.size_toArray, List.length_nil, hf.len, Builtin.zeroCells, Array.size_map, Array.size_range, hzc, Nat.zero_add]; rw [← Nat.add_mul]; exact Nat.mul_le_mul_right _ (by omega)
   ·have hk' := (List.getElem?_eq_some_iff.1 hk).1; rw [Array.getElem?_append_left (by simpa using hk')]
    simpa using hk
  ·have := Rep.osl (h := h) (ρ := upd ρ nid ⟨w.heap.size, 0, ys.length, nc, i.size, false⟩) nid (by rw [Zad]); rw [Zad] at this; exact this

end

section
variable {X : Cx} {h : Hp} {ρ : Nat → Loc} {st : St} {a : Act} {w : World} {P : Program}

theorem Zs4 (F : FitsAt X h ρ st a w) {t : TypeId} {id off n sz : Nat} {i : Int} {rows : List (List SV)} {cs cs' : List SV} {v : Value} {y s : SV} (ho : oget st.objs id = some (.own sz rows)) (hz : szT P t = some n)
  (hy : Rep h ρ v y) (hs : Zdv y = some s) (hn : (cellsOf s).length = n) (h0 : 0 ≤ i) (h1 : i < rlen rows) (hrow : rows[i.toNat]? = some cs) (hsp : Zbs off (cellsOf s) cs = some cs') (hn0 : (ρ id).none = false) :
  ∃ w', (Instr.storeAt t (.pointer (some ⟨(ρ id).blk, (ρ id).off + i.toNat * (ρ id).sz + off, none⟩)) v).run P w = .ok () w' ∧ FitsAt X h ρ { st with objs := oput st.objs id (.own sz (rset rows i cs')) } a w' ∧
   w.heap.size ≤ w'.heap.size ∧ ∀ b, b ≠ (ρ id).blk → w'.heap[b]? = w.heap[b]? := by
 rcases F.obj id _ ho with ⟨hn', _⟩ | ⟨_, o⟩
 ·rw [hn0] at hn'; cases hn'
 ·obtain ⟨cv, ty, fz, hc, hsz, hfz, hv⟩ := o.hblk; obtain ⟨hvs, hvc⟩ := Ze7 hy hs; obtain ⟨hle, rfl⟩ := Zck _ _ _ _ hsp; have hit : i.toNat < rows.length := (List.getElem?_eq_some_iff.1 hrow).1; have hcl : cs.length = sz := o.hrow _ _ hrow; have hbnd : i.toNat * sz + sz ≤ (ρ id).cap * sz := (by have : (i.toNat + 1) * sz ≤ (ρ id).cap * sz := Nat.mul_le_mul_right sz (by have := o.hcap; omega); rw [Nat.add_mul] at this; omega); have hszl : (ρ id).sz = sz := o.hsz
  have hrun := Zcb P (ρ id).blk ((ρ id).off + i.toNat * sz + off) ty fz v.cells.toList 0 cv w hc (by simp [hvs]; omega) (fun u hu => by
   obtain ⟨k, hk, e⟩ := List.mem_iff_getElem.1 hu; have hk' : k < v.cells.size := (by simpa using hk); have hlt : k < (cellsOf s).length := by omega
   exact (hvc k u _ (by rw [Array.getElem?_eq_getElem hk']; simp at e; rw [e]) (List.getElem?_eq_getElem hlt)).2) (fun x hx1 hx2 => hfz x (by omega) (by simp [hvs] at hx2; omega))
  refine ⟨_, ?_, F.setOb id (.own sz rows) _ (w.setRow (ρ id).blk (cv.toList.take ((ρ id).off + i.toNat * sz + off + 0) ++ v.cells.toList ++ cv.toList.drop ((ρ id).off + i.toNat * sz + off + 0 + v.cells.toList.length)).toArray) ho hn0 (.inr ⟨hn0, ⟨o.pos, o.hsz, by simp [rset, o.hlen], by simp [rset]; exact o.hcap, fun k r hk => ?_, ⟨_, ty, fz, setRow_heap w _ cv _ ty _ hc, ?_, hfz, fun k r j c hk hj => ?_⟩, o.hh, fun cs' t' fz' e => by rw [setRow_heap w _ cv _ ty _ hc] at e; cases e; exact (o.hfz _ _ _ hc).imp (fun z => z) fun q => ⟨q.1, by simp [hvs]; omega⟩, o.hcm⟩⟩)
   (fun b hb => setRow_other _ _ _ _ hb) (Zb5 _ _ _), by simp, fun b hb => setRow_other _ _ _ _ hb⟩
  ·simp only [Instr.storeAt, Instr.sureAddr, storeVar, Sem.run_bind, Sem.run_pure, Result.andThen_ok, run_sizeOf' w hz, hszl]; have : ¬ (v.cells.size ≠ n) := by rw [hvs, hn]; simp
   simp only [this, if_false]; exact hrun
  ·simp only [rset, List.getElem?_set] at hk
   split at hk
   ·cases hk; simp; omega
   ·exact o.hrow k r hk
  ·simp [hvs]; omega
  ·have hjs : j < sz := by
    have h3 := (List.getElem?_eq_some_iff.1 hj).1; simp only [rset, List.getElem?_set] at hk
    split at hk
    ·cases hk; simp at h3; omega
    ·rw [o.hrow k r hk] at h3; exact h3
   have l3 : (List.take ((ρ id).off + i.toNat * sz + off) cv.toList).length = (ρ id).off + i.toNat * sz + off := by simp; omega
   -- the cell as it is now
   have hget : ∀ q, (cv.toList.take ((ρ id).off + i.toNat * sz + off + 0) ++ v.cells.toList ++ cv.toList.drop ((ρ id).off + i.toNat * sz + off + 0 + v.cells.toList.length)).toArray[q]? =
     if (ρ id).off + i.toNat * sz + off ≤ q ∧ q < (ρ id).off + i.toNat * sz + off + (cellsOf s).length then v.cells[q - ((ρ id).off + i.toNat * sz + off)]? else cv[q]? := by
    intro q; simp only [Nat.add_zero, List.getElem?_toArray, Array.length_toList, hvs]; rw [List.append_assoc, List.getElem?_append, l3]; by_cases hq : q < (ρ id).off + i.toNat * sz + off
    ·rw [if_pos hq, if_neg (by omega), List.getElem?_take, if_pos hq]; simp
    ·rw [if_neg hq, List.getElem?_append]; simp only [Array.length_toList, hvs]; by_cases hq2 : q - ((ρ id).off + i.toNat * sz + off) < (cellsOf s).length
     ·rw [if_pos hq2, if_pos (by omega)]; simp
     ·rw [if_neg hq2, if_neg (by omega), List.getElem?_drop]; simp only [Array.getElem?_toList]; congr 1; omega
   rw [hget]; by_cases hki : k = i.toNat
   ·subst hki; simp only [rset, List.getElem?_set, if_true, if_pos hit] at hk
    cases hk
    rw [List.append_assoc, List.getElem?_append] at hj; have l4 : (List.take off cs).length = off := by simp; omega
    rw [l4] at hj; by_cases c1 : j < off
    ·rw [if_pos c1, List.getElem?_take, if_pos c1] at hj; rw [if_neg (by omega)]; exact hv _ cs j c hrow hj
    ·rw [if_neg c1, List.getElem?_append] at hj; by_cases c2 : j - off < (cellsOf s).length
     ·rw [if_pos c2] at hj; rw [if_pos (by omega)]; have hlt : j - off < v.cells.size := (by omega); have hq : (ρ id).off + i.toNat * sz + j - ((ρ id).off + i.toNat * sz + off) = j - off := (by omega); rw [hq]; exact ⟨v.cells[j - off], Array.getElem?_eq_getElem hlt, hvc _ _ c (Array.getElem?_eq_getElem hlt) hj⟩
     ·rw [if_neg c2, List.getElem?_drop] at hj; rw [if_neg (by omega)]; have := hv _ cs j c hrow (by rw [← hj]; congr 1; omega); exact this
   ·have hk' : rows[k]? = some r := (by simp only [rset, List.getElem?_set] at hk; rw [if_neg (fun e => hki e.symm)] at hk; exact hk); rw [if_neg]
    ·exact hv k r j c hk' hj
    ·rintro ⟨c1, c2⟩; have := row_inj (i := k) (i' := i.toNat) (j := j) (j' := (ρ id).off + k * sz + j - ((ρ id).off + i.toNat * sz)) hjs (by omega) (by omega); exact hki this.1

theorem Zrs (F : FitsAt X h ρ st a w) {src dst e : TypeId} {s : ByteArray} {nid : Nat} (hs : P.underlying src = some .string) (hd : P.underlying dst = some (.slice e)) (he : P.underlying e = some (.int .u8)) (hnid : idOK nid = true) (hmax : slen s ≤ most) :
  ∃ v w', (convert src dst (.string s)).run P w = .ok v w' ∧ (∃ ρ', FitsAt X h ρ' (st.bind nid (.own 1 (Zdq s))) a w' ∧ Rep h ρ' v (.osl nid)) ∧ w.heap.size ≤ w'.heap.size ∧ ∀ b, b < w.heap.size → w'.heap[b]? = w.heap[b]? := by
 have hmax' : s.size ≤ 2147483648 := by simp only [slen, most, Int.ofNat_eq_natCast] at hmax; omega
 let nc := s.size + w.tape w.drawn (.appendCap s.size 0 e) % (2 ^ 63 - s.size)
 let cs : Array Value := s.data.map (fun b => .int .u8 b.toNat) ++ Array.replicate (nc - s.size) (.int .u8 0)
 have hnc : s.size ≤ nc := (by simp only [nc]; omega); have hncm : nc ≤ 9223372036854775807 := (by have := Nat.mod_lt (w.tape w.drawn (.appendCap s.size 0 e)) (show 0 < 2 ^ 63 - s.size by omega); simp only [nc]; omega); have hcs : cs.size = nc := by have : s.data.size = s.size := rfl; simp only [cs, Array.size_append, Array.size_map, Array.size_replicate, this]; omega
 let w1 := w.drew.alloc (.cells cs e)
 let w' := w1.freeze { block := w.heap.size, off := nc } 1
 have hb1 : w1.heap[w.heap.size]? = some (.cells cs e (0, 0)) := (by show (w.heap.push _)[_]? = _; simp); have hw' : w'.heap[w.heap.size]? = some (.cells cs e (nc, nc + 1)) := (by show (w1.heap.modify w.heap.size _)[w.heap.size]? = _; rw [Array.getElem?_modify, if_pos rfl, hb1]; rfl); have hoth : ∀ b, b < w.heap.size → w'.heap[b]? = w.heap[b]? := fun b hb => by show (w1.heap.modify w.heap.size _)[b]? = _; rw [Array.getElem?_modify, if_neg (by omega : ¬ w.heap.size = b)]; exact (Zal w _).block b hb (fun e => e)
 have hkp : Keeps (fun _ => False) w w' := ⟨rfl, rfl, rfl, by show _ ≤ (w1.heap.modify w.heap.size _).size; rw [Array.size_modify]; exact (Zal w _).size, fun k hk _ => hoth k hk⟩
 have hrun : (convert src dst (.string s)).run P w = .ok (.slice (some ⟨w.heap.size, 0, none⟩) s.size nc) w' := (by have hsh : (shape w.heap.size).run P w1 = .ok (some (e, nc)) w1 := (by show Result.ok (w1.shape? w.heap.size) w1 = _; simp [World.shape?, hb1, hcs]); have hnr : (newRow e cs).run P w.drew = .ok ⟨w.heap.size, 0, none⟩ w1 := (by simp [newRow, w1]; rfl); simp only [convert, Sem.run_bind, run_underlying hs, run_underlying hd, run_underlying he, Result.andThen_ok, Conv.stringToBytes]; have hch : (choose (.appendCap s.size 0 e)).run P w = .ok nc w.drew := (by simp [choose, Sem.run, Question.forced, Question.cut, nc]); simp only [hch, Result.andThen_ok]; have hcs' : (Array.map (fun b => Value.int IntKind.u8 (b.toNat : Int)) s.data ++ Array.replicate (nc - s.size) (Value.int IntKind.u8 0)) = cs := rfl; rw [hcs', hnr]; simp only [Result.andThen_ok, markStringish, Sem.run_bind, hsh, Sem.run_pure]; rfl); have hlen : (Zdq s).length = s.size := (by unfold Zdq; rw [List.length_map]; exact Array.length_toList); refine ⟨_, _, hrun, ⟨upd ρ nid ⟨w.heap.size, 0, (Zdq s).length, nc, 1, false⟩, F.newOwn nid hnid (.own 1 (Zdq s)) _ hkp (by simp) (fun _ => Nat.le_refl _) (.inr ⟨by rw [Zad], ?_⟩), ?_⟩, hkp.size, hoth⟩
 ·rw [Zad]; refine Zny (cs := cs) (e := e) (fz := (nc, nc + 1)) (by omega) (by rw [hlen]; exact hnc) hncm (fun i r hi => ?_) hw' (by omega) (fun o ho => by omega) (fun o => Zcy F.sub o _ (Nat.le_refl _)) (.inr ⟨rfl, by rw [hcs]; exact Nat.le_refl _⟩) (fun i r j c hi hj => ?_)
  ·simp [Zdq] at hi; obtain ⟨b, _, rfl⟩ := hi; rfl
  ·simp [Zdq] at hi; obtain ⟨b, hb, rfl⟩ := hi
   cases j with
   | zero => simp at hj; subst hj; refine ⟨.int .u8 b.toNat, ?_, .val _, rfl⟩; have hlt := (Array.getElem?_eq_some_iff.1 hb).1; simp only [cs, Nat.mul_one, Nat.add_zero]; rw [Array.getElem?_append_left (by simpa using hlt)]; simp [hb]
   | succ j => simp at hj
 ·have := Rep.osl (h := h) (ρ := upd ρ nid ⟨w.heap.size, 0, (Zdq s).length, nc, 1, false⟩) nid (by rw [Zad]); rw [Zad] at this; rw [hlen] at this; rw [hlen]; exact this

theorem Zs5 (F : FitsAt X h ρ st a w) {t kt et : TypeId} {id : Nat} {es : List (ByteArray × Int)} {s : ByteArray} {n : Int} (hu : P.underlying t = some (.map kt et)) (hkt : P.underlying kt = some .string) (ho : oget st.objs id = some (.mp es)) :
  ∃ w', (Instr.mapUpdate t (.map (some (ρ id).blk)) (.string s) (.int .i64 n)).run P w = .ok () w' ∧ FitsAt X h ρ { st with objs := oput st.objs id (.mp (mset es s n)) } a w' ∧ w.heap.size ≤ w'.heap.size ∧ ∀ b, b ≠ (ρ id).blk → w'.heap[b]? = w.heap[b]? := by
 obtain ⟨hn, ⟨ents, cl, hb, hm⟩, hno⟩ := F.obj id _ ho; have hlt : (ρ id).blk < w.heap.size := (Array.getElem?_eq_some_iff.1 hb).1
 have key : ∀ (ents' : Array MapEntry) (cl' : Nat), MapOK ents' (mset es s n) → (Instr.mapUpdate t (.map (some (ρ id).blk)) (.string s) (.int .i64 n)).run P w = .ok () { w with heap := w.heap.setIfInBounds (ρ id).blk (.map ents' cl') } →
   ∃ w', (Instr.mapUpdate t (.map (some (ρ id).blk)) (.string s) (.int .i64 n)).run P w = .ok () w' ∧ FitsAt X h ρ { st with objs := oput st.objs id (.mp (mset es s n)) } a w' ∧ w.heap.size ≤ w'.heap.size ∧ ∀ b, b ≠ (ρ id).blk → w'.heap[b]? = w.heap[b]? := by
  intro ents' cl' hm' hrun; have hoth : ∀ b, b ≠ (ρ id).blk → (w.heap.setIfInBounds (ρ id).blk (.map ents' cl'))[b]? = w.heap[b]? := fun b hb => Array.getElem?_setIfInBounds_ne (Ne.symm hb); refine ⟨_, hrun, F.setOb id (.mp es) _ _ ho hn ⟨hn, ⟨ents', cl', by simp [hlt], hm'⟩, hno⟩ hoth ⟨rfl, rfl, rfl, by simp, fun k hk hg => hoth k hg⟩, by simp, hoth⟩
 rcases Zgp s ents.toList es 0 hm with ⟨g1, j, _, g2, g3, g4⟩ | ⟨g1, g2, g3, g4⟩
 ·have hkey : (ents[j]?).map (·.key) = some (.string s) := (by simpa using g3); have hgo : ((ents[j]?).map (·.key)).getD (.string s) = .string s := (by rw [hkey]; rfl); refine key (ents.modify j fun e => { e with key := .string s, val := .int .i64 n }) cl ?_ ?_
  ·have := g4 n; simp only [Nat.sub_zero] at this; unfold MapOK; rw [← this, Array.toList_modify]
  ·have hks : (Instr.keyThatStays (.string s) (.string s)).run P w = .ok (.string s) w := (by simp [Instr.keyThatStays, Instr.sameBits, Zss]); simp [Instr.mapUpdate, run_underlying hu, getObj, setObj, Sem.run, hb, Zcp hkt, Instr.findKey, run_underlying hkt, g2, hgo, hks]
 ·refine key (ents.push { key := .string s, val := .int .i64 n, born := cl }) (cl + 1) ?_ ?_
  ·unfold MapOK at hm ⊢; rw [g4 n]; simp [hm]
  ·simp [Instr.mapUpdate, run_underlying hu, getObj, setObj, Sem.run, hb, Zcp hkt, Instr.findKey, run_underlying hkt, g3]

theorem Zrt (F : FitsAt X h ρ st a w) {src e : TypeId} {v : Value} {id : Nat} {rows : List (List SV)} (hs : P.underlying src = some (.slice e)) (he : P.underlying e = some (.int .u8)) (ho : oget st.objs id = some (.own 1 rows))
  (hr : Rep h ρ v (.osl id)) (hpos : 0 < rlen rows) :
  ∃ w', (convert src src v).run P w = .ok v w' ∧ FitsAt X h ρ { st with objs := oput st.objs id (.own 1 rows) } a w' ∧ w.heap.size ≤ w'.heap.size ∧ (ρ id).none = false ∧ ∀ b, b ≠ (ρ id).blk → w'.heap[b]? = w.heap[b]? := by
 have hpos' : 0 < rows.length := by simp only [rlen, Int.ofNat_eq_natCast] at hpos; omega
 rcases F.obj id _ ho with ⟨_, e0⟩ | ⟨hn, o⟩
 ·rw [e0] at hpos'; simp at hpos'
 rcases hr.osl_inv with ⟨hn', _⟩ | ⟨_, rfl⟩
 ·rw [hn] at hn'; cases hn'
 obtain ⟨cs, t, fz, hc, hsz, hfz, hv⟩ := o.hblk
 let w' := w.freeze { block := (ρ id).blk, off := cs.size } 1
 have hw' : ∃ fz', w'.heap[(ρ id).blk]? = some (.cells cs t fz') ∧ (fz' = (cs.size, cs.size + 1) ∨ (cs.size ≤ fz.1 ∧ fz' = (min fz.1 cs.size, max fz.2 (cs.size + 1)))) := by
  refine ⟨if fz.1 == fz.2 then (cs.size, cs.size + 1) else (min fz.1 cs.size, max fz.2 (cs.size + 1)), ?_, ?_⟩
  ·show (w.heap.modify (ρ id).blk _)[(ρ id).blk]? = _; rw [Array.getElem?_modify, if_pos rfl, hc]; rfl
  ·rcases o.hfz cs t fz hc with h0 | ⟨_, h0⟩
   ·rw [h0]; exact .inl rfl
   ·by_cases hq : (fz.1 == fz.2) = true
    ·rw [if_pos hq]; exact .inl rfl
    ·rw [if_neg hq]; exact .inr ⟨h0, rfl⟩
 obtain ⟨fz', hw', hfz'⟩ := hw'
 have hge : cs.size ≤ fz'.1 := by
  rcases hfz' with h0 | ⟨h1, h0⟩
  ·rw [h0]; exact Nat.le_refl _
  ·rw [h0]; show cs.size ≤ min fz.1 cs.size; omega
 have hoth : ∀ b, b ≠ (ρ id).blk → w'.heap[b]? = w.heap[b]? := fun b hb => by show (w.heap.modify (ρ id).blk _)[b]? = _; rw [Array.getElem?_modify, if_neg (fun e => hb e.symm)]
 have hsize : w'.heap.size = w.heap.size := by show (w.heap.modify (ρ id).blk _).size = _; rw [Array.size_modify]
 have hkp : Keeps (fun b => b = (ρ id).blk) w w' := ⟨rfl, rfl, rfl, by rw [hsize]; exact Nat.le_refl _, fun k _ hk => hoth k hk⟩
 refine ⟨w', ?_, F.setOb id (.own 1 rows) _ w' ho hn (.inr ⟨hn, ⟨o.pos, o.hsz, o.hlen, o.hcap, o.hrow, ⟨cs, t, fz', hw', hsz, fun x hx1 hx2 hx3 => by omega, hv⟩, o.hh, fun cs' t' fz'' e' => by rw [hw'] at e'; cases e'; exact .inr ⟨rfl, hge⟩, o.hcm⟩⟩) hoth hkp, by rw [hsize]; exact Nat.le_refl _, hn, hoth⟩; have hsh : (shape (ρ id).blk).run P w = .ok (some (t, cs.size)) w := (by show Result.ok (w.shape? (ρ id).blk) w = _; simp [World.shape?, hc]); simp only [convert, Sem.run_bind, run_underlying hs, run_underlying he, Result.andThen_ok]; simp only [beq_self_eq_true, markStringish, Sem.run_bind, hsh, Result.andThen_ok, Sem.run_pure]; rfl

end
end Go.Px

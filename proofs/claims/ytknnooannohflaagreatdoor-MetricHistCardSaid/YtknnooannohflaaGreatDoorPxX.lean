/- Slices of one's own, as objects: appended to, written; texts as bytes. -/
import Derived.Test.YtknnooannohflaaGreatDoorPxW
namespace Go.Px
open Go.RowKit
set_option linter.unusedVariables false

section
variable {X : Cx} {h : Hp} {ρ : Nat → Loc} {st : St} {a : Act} {w : World} {P : Program}

theorem ownFlat {w' : World} {cs : Array Value} {e : TypeId} {fz : Nat × Nat} {b cap sz : Nat} {rows : List (List SV)} {vs : List Value} (hf : Flat h sz rows vs) (hpos : 0 < sz) (hcap : rows.length ≤ cap) (hcm : cap ≤ 9223372036854775807)
  (hb : w'.heap[b]? = some (.cells cs e fz)) (hs : cap * sz ≤ cs.size) (hfz : ∀ o, o < cap * sz → ¬ (fz.1 ≤ o ∧ o < fz.2)) (hh : ∀ o, h b o = none) (hz0 : fz = (0, 0) ∨ (sz = 1 ∧ cs.size ≤ fz.1)) (hv : ∀ (k : Nat) v, vs[k]? = some v → cs[k]? = some v) :
  OwnOK h w' ⟨b, 0, rows.length, cap, sz, false⟩ sz rows :=
 ownNew hpos hcap hcm hf.row hb hs hfz hh hz0 fun i r j c hi hj => by
  obtain ⟨v, e1, e2⟩ := hf.cell i r j c hi hj
  exact ⟨v, hv _ _ e1, e2, hf.one v (List.mem_of_getElem? e1)⟩

theorem keeps_drew_alloc (w : World) (o : Obj) : Keeps (fun _ => False) w (w.drew.alloc o) :=
 (keeps_drew w).trans (keeps_alloc w.drew o)

theorem OwnOK.flat {l : Loc} {sz : Nat} {rows : List (List SV)} (o : OwnOK h w l sz rows) : ∃ vs, Flat h sz rows vs ∧ ∀ w' : World, w'.heap[l.blk]? = w.heap[l.blk]? → (loadCells ⟨l.blk, l.off, none⟩ (rows.length * sz)).run P w' = .ok vs.toArray w' := by
 obtain ⟨cs, t, fz, hc, hs, hf, hv⟩ := o.hblk
 exact flat_mem o.pos o.hrow (fun i r j c h1 h2 => by
  obtain ⟨v, e1, e2, e3⟩ := hv i r j c h1 h2
  exact ⟨v, by simp [World.cell?, hc, e1], e2, e3⟩)

theorem OwnOK.more {l : Loc} {sz : Nat} {rows ys : List (List SV)} {vs : List Value} (o : OwnOK h w l sz rows) (hf : Flat h sz ys vs) (hfit : rows.length + ys.length ≤ l.cap) :
  ∃ w', (storeCells ((⟨l.blk, l.off, none⟩ : Addr).add (rows.length * sz)) vs).run P w = .ok () w' ∧ Keeps (fun k => k = l.blk) w w' ∧ (∀ k, k ≠ l.blk → w'.heap[k]? = w.heap[k]?) ∧ OwnOK h w' { l with len := rows.length + ys.length } sz (rapp rows ys) := by
 obtain ⟨cs, t, fz, hc, hs, hfz, hv⟩ := o.hblk
 have hmul : rows.length * sz + ys.length * sz ≤ l.cap * sz := by rw [← Nat.add_mul]; exact Nat.mul_le_mul_right sz hfit
 have hrun := run_storeCells_fz P l.blk (l.off + rows.length * sz) t fz vs 0 cs w hc (by rw [hf.len]; omega) hf.one (fun x hx1 hx2 => hfz x (by omega) (by rw [hf.len] at hx2; omega))
 rw [add_mk]
 simp only [Nat.add_zero] at hrun
 refine ⟨_, hrun, keeps_setRow _ _ _, fun k hk => setRow_other _ _ _ _ hk, ⟨o.pos, o.hsz, by simp [rapp], by simp [rapp]; exact hfit, fun i r hi => ?_, ⟨_, t, fz, setRow_heap w _ cs _ t _ hc, ?_, hfz, fun i r j c hi hj => ?_⟩, o.hh, fun cs' t' fz' e => by rw [setRow_heap w _ cs _ t _ hc] at e; cases e; exact (o.hfz _ _ _ hc).imp (fun z => z) fun q => ⟨q.1, by simp [hf.len]; omega⟩, o.hcm⟩⟩
 ·simp only [rapp, List.getElem?_append] at hi
  split at hi
  ·exact o.hrow i r hi
  ·exact hf.row _ r hi
 ·simp [hf.len]; omega
 ·simp only [rapp, List.getElem?_append] at hi
  simp only [List.getElem?_toArray]
  have l1 : (List.take (l.off + rows.length * sz) cs.toList).length = l.off + rows.length * sz := by simp; omega
  split at hi
  ·rename_i hlt
   obtain ⟨v, e1, e2, e3⟩ := hv i r j c hi hj
   have hjl : j < sz := by have := (List.getElem?_eq_some_iff.1 hj).1; rw [o.hrow i r hi] at this; exact this
   have := row_lt hlt hjl
   refine ⟨v, ?_, e2, e3⟩
   rw [List.append_assoc, List.getElem?_append_left (by rw [l1]; omega), List.getElem?_take, if_pos (by omega)]
   simpa using e1
  ·rename_i hlt
   obtain ⟨v, e1, e2⟩ := hf.cell _ r j c hi hj
   refine ⟨v, ?_, e2, hf.one v (List.mem_of_getElem? e1)⟩
   have hle : rows.length * sz ≤ i * sz := Nat.mul_le_mul_right sz (by omega)
   have hlv := (List.getElem?_eq_some_iff.1 e1).1
   rw [Nat.sub_mul] at e1 hlv
   rw [List.getElem?_append_left (by rw [List.length_append, l1]; omega), List.getElem?_append_right (by rw [l1]; omega), l1, ← e1]
   congr 1
   omega

structure Appended (X : Cx) (h : Hp) (st st' : St) (a : Act) (w : World) (v : Value) (w' : World) (id : Nat) (ρ : Nat → Loc) : Prop where
 fits : ∃ ρ', FitsAt X h ρ' st' a w' ∧ Rep h ρ' v (.osl id)
 size : w.heap.size ≤ w'.heap.size

theorem append_own (F : FitsAt X h ρ st a w) {t1 t2 e ty : TypeId} {vx vy : Value} {y : SV} {sz' : Option Nat} {ys : List (List SV)} {z id nid : Nat} {rows : List (List SV)} (hu : P.underlying t1 = some (.slice e)) (hz : szT P e = some z) (hb : bytesOK P e = true)
  (hsrc : appSrc P st t2 y = some (sz', ys)) (hry : Rep h ρ vy y) (hok : srcOK z sz' = true) (ho : oget st.objs id = some (.own z rows)) (hrx : Rep h ρ vx (.osl id)) (hmax : lsum (rlen rows) (rlen ys) ≤ most) (hnid : idOK nid = true) :
  ∃ v w', (Builtin.append_ #[t1, t2] ty #[vx, vy]).run P w = .ok v w' ∧ (∃ ρ', FitsAt X h ρ' ((st.drop id).bind nid (.own z (rapp rows ys))) a w' ∧ Rep h ρ' v (.osl nid)) ∧ w.heap.size ≤ w'.heap.size ∧
   ∀ b, b < w.heap.size → (live st.objs ρ id → (ρ id).blk ≠ b) → w'.heap[b]? = w.heap[b]? := by
 obtain ⟨i, zv, hi, hby, hpos, hzz, hzc, hszT⟩ := bytesOK_spec hb
 have hzi : z = i.size := by rw [hszT] at hz; cases hz; rfl
 subst hzi
 obtain ⟨⟨d2, hu2, hd2⟩, hlen, vs, hf, hcells⟩ := appSrc_sound (P := P) F hry hsrc hok hpos
 have hmax' : rows.length + ys.length ≤ 2147483648 := by simp only [lsum, rlen, most, Int.ofNat_eq_natCast] at hmax; omega
 have Fd := F.drop id (ρ' := ρ) (fun _ _ => rfl) (.inr rfl)
 have hdl : ∀ k, live (st.drop id).objs ρ k → k ≠ id ∧ live st.objs ρ k := fun k hk => live_drop (fun _ _ => rfl) hk
 have newObj : ∀ (cs : Array Value) (nc : Nat), rows.length + ys.length ≤ nc → OwnOK h (w.drew.alloc (.cells cs e)) ⟨w.heap.size, 0, (rapp rows ys).length, nc, i.size, false⟩ i.size (rapp rows ys) →
   ∃ ρ', FitsAt X h ρ' ((st.drop id).bind nid (.own i.size (rapp rows ys))) a (w.drew.alloc (.cells cs e)) ∧ Rep h ρ' (.slice (some ⟨w.heap.size, 0, none⟩) (rapp rows ys).length nc) (.osl nid) := by
  intro cs nc hnc hown
  have hl : (⟨w.heap.size, 0, (rapp rows ys).length, nc, i.size, false⟩ : Loc).none = false := rfl
  refine ⟨upd ρ nid _, Fd.newOwn nid hnid (.own i.size (rapp rows ys)) ⟨w.heap.size, 0, (rapp rows ys).length, nc, i.size, false⟩ (keeps_drew_alloc w _) (by simp) (fun _ => Nat.le_refl _) (.inr ⟨by rw [upd_same], by rw [upd_same]; exact hown⟩), ?_⟩
  have := Rep.osl (h := h) (ρ := upd ρ nid ⟨w.heap.size, 0, (rapp rows ys).length, nc, i.size, false⟩) nid (by rw [upd_same])
  rw [upd_same] at this
  exact this
 have hrl : (rapp rows ys).length = rows.length + ys.length := by simp [rapp]
 have hblkAlloc : ∀ (o : Obj) b, b < w.heap.size → (w.drew.alloc o).heap[b]? = w.heap[b]? := fun o b hb => (keeps_drew_alloc w o).block b hb (fun e => e)
 have hszAlloc : ∀ (o : Obj), w.heap.size ≤ (w.drew.alloc o).heap.size := fun o => (keeps_drew_alloc w o).size
 have hflat : ∀ (old : List Value) (nc : Nat), Flat h i.size rows old → rows.length + ys.length ≤ nc → nc ≤ 9223372036854775807 → OwnOK h (w.drew.alloc (.cells (old.toArray ++ vs.toArray ++ Builtin.zeroCells zv.cells (nc - (rows.length + ys.length))) e)) ⟨w.heap.size, 0, (rapp rows ys).length, nc, i.size, false⟩ i.size (rapp rows ys) := by
  intro old nc ho' hnc hnm
  refine ownFlat (fz := (0, 0)) (e := e) (cs := old.toArray ++ vs.toArray ++ Builtin.zeroCells zv.cells (nc - (rows.length + ys.length))) (ho'.append hf) hpos (by rw [hrl]; exact hnc) hnm (by show (w.heap.push _)[_]? = _; simp) ?_ (fun o _ => by simp) (fun o => hnew_blk F.sub o _ (Nat.le_refl _)) (.inl rfl) (fun k v hk => ?_)
  ·simp only [Array.size_append, List.size_toArray, ho'.len, hf.len, Builtin.zeroCells, Array.size_map, Array.size_range, hzc]
   rw [← Nat.add_mul, ← Nat.add_mul]
   exact Nat.mul_le_mul_right _ (by omega)
  ·have hk' := (List.getElem?_eq_some_iff.1 hk).1
   rw [Array.getElem?_append_left (by simpa using hk')]
   simpa using hk
 rcases F.obj id _ ho with ⟨hn, rfl⟩ | ⟨hn, o⟩
 ·rcases hrx.osl_inv with ⟨_, p, rfl⟩ | ⟨hn', _⟩
  ·by_cases h0 : ys.length = 0
   ·have hys : ys = [] := List.eq_nil_of_length_eq_zero h0
    subst hys
    have hvs : vs = [] := List.eq_nil_of_length_eq_zero (by rw [hf.len]; simp)
    subst hvs
    have hrun := append_fit (P := P) (ty := ty) hu hi hu2 hd2 (hlen w) (hcells w (fun _ _ => rfl)) (p := p) (n := 0) (cap := 0) (by simp) (w' := w) (by cases p <;> simp [storeCells])
    refine ⟨_, _, hrun, ⟨upd ρ nid noLoc, Fd.newOwn nid hnid (.own i.size (rapp [] [])) noLoc (Keeps.refl _ _) (by simp) (by simp [noLoc]) (.inl ⟨by rw [upd_same]; rfl, rfl⟩), ?_⟩, Nat.le_refl _, fun _ _ _ => rfl⟩
    exact .osl0 nid p (by rw [upd_same]; rfl)
   ·obtain ⟨nc, hnc, hnm, hrun⟩ := append_grow (P := P) (ty := ty) (p := p) (n := 0) (cap := 0) (old := []) hu hi hzz hby hu2 hd2 (hlen w) (by omega) (by simpa using hmax') (hcells w.drew (fun _ _ => rfl)) (by
     cases p with
     | none => simp [Builtin.firstCells]
     | some ad => simp [Builtin.firstCells, loadCells, loadCellsFrom])
    simp only [Nat.zero_add] at hrun hnc
    obtain ⟨ρ', F', r'⟩ := newObj _ nc (by simpa using hnc) (hflat [] nc (Flat.nil _) (by simpa using hnc) hnm)
    simp only [List.length_nil, Nat.zero_add] at F' r'
    refine ⟨_, _, hrun, ⟨ρ', F', ?_⟩, hszAlloc _, fun b hb _ => hblkAlloc _ b hb⟩
    simpa [rapp] using r'
  ·rw [hn] at hn'; cases hn'
 ·rcases hrx.osl_inv with ⟨hn', _⟩ | ⟨_, rfl⟩
  ·rw [hn] at hn'; cases hn'
  ·have hlv : live st.objs ρ id := ⟨⟨_, ho⟩, hn⟩
   by_cases hfit : rows.length + ys.length ≤ (ρ id).cap
   ·obtain ⟨w', hst, hk, hoth, hown⟩ := o.more (P := P) hf hfit
    have hrun := append_fit (P := P) (ty := ty) hu hi hu2 hd2 (hlen w) (hcells w (fun _ _ => rfl)) (p := some ⟨(ρ id).blk, (ρ id).off, none⟩) (n := (ρ id).len) (cap := (ρ id).cap) (by rw [o.hlen]; exact hfit) (w' := w') (by rw [o.hlen]; exact hst)
    have Ft := Fd.touch (ρ id).blk (fun k hk => F.inj k id (hdl k hk).2 hlv (hdl k hk).1) o.hh (F.own id hlv) hoth hk
    refine ⟨_, _, hrun, ⟨upd ρ nid { ρ id with len := rows.length + ys.length }, Ft.bind nid hnid (.own i.size (rapp rows ys)) { ρ id with len := rows.length + ys.length } (.inr ⟨by rw [upd_same]; exact hn, by rw [upd_same]; exact hown⟩) (fun _ => F.own id hlv) (fun _ k _ hk => F.inj k id (hdl k hk).2 hlv (hdl k hk).1), ?_⟩, hk.size, fun b hb hne => hoth b (fun e => hne hlv e.symm)⟩
    have := Rep.osl (h := h) (ρ := upd ρ nid { ρ id with len := rows.length + ys.length }) nid (by rw [upd_same]; exact hn)
    rw [upd_same] at this
    rw [o.hlen]
    exact this
   ·obtain ⟨old, hfo, hlo⟩ := o.flat (P := P)
    obtain ⟨nc, hnc, hnm, hrun⟩ := append_grow (P := P) (ty := ty) (p := some ⟨(ρ id).blk, (ρ id).off, none⟩) (n := (ρ id).len) (cap := (ρ id).cap) (old := old) hu hi hzz hby hu2 hd2 (hlen w) (by rw [o.hlen]; exact hfit) (by rw [o.hlen]; exact hmax') (hcells w.drew (fun _ _ => rfl)) (by
     simp only [Builtin.firstCells]
     rw [o.hlen]
     exact hlo w.drew rfl)
    rw [o.hlen] at hrun hnc
    obtain ⟨ρ', F', r'⟩ := newObj _ nc hnc (hflat old nc hfo hnc hnm)
    rw [hrl] at r'
    refine ⟨_, _, ?_, ⟨ρ', F', r'⟩, hszAlloc _, fun b hb _ => hblkAlloc _ b hb⟩
    rw [o.hlen]
    exact hrun

theorem append_nil (F : FitsAt X h ρ st a w) {t1 t2 e ty : TypeId} {vx vy : Value} {y : SV} {sz' : Option Nat} {ys : List (List SV)} {z sz nid : Nat} (hu : P.underlying t1 = some (.slice e)) (hz : szT P e = some z) (hb : bytesOK P e = true)
  (hsrc : appSrc P st t2 y = some (sz', ys)) (hry : Rep h ρ vy y) (hok : srcOK z sz' = true) (hrx : Rep h ρ vx (.slice sz [] 1)) (hmax : rlen ys ≤ most) (hnid : idOK nid = true) :
  ∃ v w', (Builtin.append_ #[t1, t2] ty #[vx, vy]).run P w = .ok v w' ∧ (∃ ρ', FitsAt X h ρ' (st.bind nid (.own z ys)) a w' ∧ Rep h ρ' v (.osl nid)) ∧ w.heap.size ≤ w'.heap.size ∧ ∀ b, b < w.heap.size → w'.heap[b]? = w.heap[b]? := by
 obtain ⟨i, zv, hi, hby, hpos, hzz, hzc, hszT⟩ := bytesOK_spec hb
 have hzi : z = i.size := by rw [hszT] at hz; cases hz; rfl
 subst hzi
 obtain ⟨⟨d2, hu2, hd2⟩, hlen, vs, hf, hcells⟩ := appSrc_sound (P := P) F hry hsrc hok hpos
 have hmax' : ys.length ≤ 2147483648 := by simp only [rlen, most, Int.ofNat_eq_natCast] at hmax; omega
 have hvx : ∃ p, vx = .slice p 0 0 := by
  cases hrx with
  | pure _ _ hp => cases hp with
   | empty p cap _ _ ht h1 hn => have := h1 rfl; subst this; exact ⟨p, rfl⟩
   | slice b off cap _ rows tok vs hpos hz hh hr ho ht h1 hle => have := h1 rfl; subst this; exact ⟨_, rfl⟩
 obtain ⟨p, rfl⟩ := hvx
 by_cases h0 : ys.length = 0
 ·have hys : ys = [] := List.eq_nil_of_length_eq_zero h0
  subst hys
  have hvs : vs = [] := List.eq_nil_of_length_eq_zero (by rw [hf.len]; simp)
  subst hvs
  have hrun := append_fit (P := P) (ty := ty) hu hi hu2 hd2 (hlen w) (hcells w (fun _ _ => rfl)) (p := p) (n := 0) (cap := 0) (by simp) (w' := w) (by cases p <;> simp [storeCells])
  refine ⟨_, _, hrun, ⟨upd ρ nid noLoc, F.newOwn nid hnid (.own i.size []) noLoc (Keeps.refl _ _) (by simp) (by simp [noLoc]) (.inl ⟨by rw [upd_same]; rfl, rfl⟩), ?_⟩, Nat.le_refl _, fun _ _ => rfl⟩
  exact .osl0 nid p (by rw [upd_same]; rfl)
 ·obtain ⟨nc, hnc, hnm, hrun⟩ := append_grow (P := P) (ty := ty) (p := p) (n := 0) (cap := 0) (old := []) hu hi hzz hby hu2 hd2 (hlen w) (by omega) (by simpa using hmax') (hcells w.drew (fun _ _ => rfl)) (by
   cases p with
   | none => simp [Builtin.firstCells]
   | some ad => simp [Builtin.firstCells, loadCells, loadCellsFrom])
  simp only [Nat.zero_add] at hrun hnc
  refine ⟨_, _, hrun, ⟨upd ρ nid ⟨w.heap.size, 0, ys.length, nc, i.size, false⟩, F.newOwn nid hnid (.own i.size ys) _ (keeps_drew_alloc w _) (by simp) (fun _ => Nat.le_refl _) (.inr ⟨by rw [upd_same], ?_⟩), ?_⟩, (keeps_drew_alloc w _).size, fun b hb => (keeps_drew_alloc w _).block b hb (fun e => e)⟩
  ·rw [upd_same]
   refine ownFlat (fz := (0, 0)) (e := e) (cs := ([] : List Value).toArray ++ vs.toArray ++ Builtin.zeroCells zv.cells (nc - ys.length)) hf hpos hnc hnm (by show (w.heap.push _)[_]? = _; simp) ?_ (fun o _ => by simp) (fun o => hnew_blk F.sub o _ (Nat.le_refl _)) (.inl rfl) (fun k v hk => ?_)
   ·simp only [Array.size_append, List.size_toArray, List.length_nil, hf.len, Builtin.zeroCells, Array.size_map, Array.size_range, hzc, Nat.zero_add]
    rw [← Nat.add_mul]
    exact Nat.mul_le_mul_right _ (by omega)
   ·have hk' := (List.getElem?_eq_some_iff.1 hk).1
    rw [Array.getElem?_append_left (by simpa using hk')]
    simpa using hk
  ·have := Rep.osl (h := h) (ρ := upd ρ nid ⟨w.heap.size, 0, ys.length, nc, i.size, false⟩) nid (by rw [upd_same])
   rw [upd_same] at this
   exact this

end
end Go.Px

/- Memory of one's own: boxes, slices, maps. -/
import Derived.Test.YtknnooannohflaaGreatDoorPxE
import Derived.Laws.CopyRow
namespace Go.Px
open Go.RowKit
set_option linter.unusedVariables false

theorem run_storeCells_fz (P : Program) (g o : Nat) (t : TypeId) (fz : Nat × Nat) : ∀ (vs : List Value) (i : Nat) (cur : Array Value) (w : World), w.heap[g]? = some (.cells cur t fz) → o + i + vs.length ≤ cur.size → (∀ v ∈ vs, v.oneCell' = true) →
  (∀ x, o + i ≤ x → x < o + i + vs.length → ¬ (fz.1 ≤ x ∧ x < fz.2)) →
  (storeCells ⟨g, o, none⟩ vs i).run P w = .ok () (w.setRow g (cur.toList.take (o + i) ++ vs ++ cur.toList.drop (o + i + vs.length)).toArray)
 | [], i, cur, w, hg, _, _, _ => by
  simp only [storeCells, List.append_nil, List.length_nil, Nat.add_zero, List.take_append_drop, Array.toArray_toList]
  rw [setRow_self w g cur t fz hg]
  rfl
 | v :: rest, i, cur, w, hg, hl, h1, hf => by
  have hi : o + i < cur.size := by simp at hl; omega
  have hadd : (⟨g, o, none⟩ : Addr).add i = ⟨g, o + i, none⟩ := by unfold Addr.add; split <;> simp_all
  have hcell : w.cell? ⟨g, o + i, none⟩ = some cur[o + i] := by simp [World.cell?, hg, hi]
  have hfro : w.frozen? ⟨g, o + i, none⟩ = false := by
   have := hf (o + i) (Nat.le_refl _) (by simp)
   simp only [World.frozen?, hg]
   simpa using this
  have hst : (store ((⟨g, o, none⟩ : Addr).add i) v).run P w = .ok () (w.setRow g (cur.setIfInBounds (o + i) v)) := by
   rw [hadd, run_store P w _ v _ (h1 v (by simp)), hcell]
   simp [hfro, setCell_eq_setRow w g (o + i) cur t fz v hg]
  have ih := run_storeCells_fz P g o t fz rest (i + 1) (cur.setIfInBounds (o + i) v) (w.setRow g (cur.setIfInBounds (o + i) v)) (setRow_heap w g cur _ t _ hg) (by simp at hl ⊢; omega) (fun x hx => h1 x (by simp [hx]))
   (fun x hx1 hx2 => hf x (by omega) (by simp at hx2 ⊢; omega))
  simp only [storeCells, Sem.run_bind, hst, Result.andThen_ok, ih, setRow_setRow]
  congr 3
  have e := list_seg_step cur.toList (o + i) v rest (by simp at hl ⊢; omega)
  simpa [Array.toList_setIfInBounds, Nat.add_assoc] using e

theorem keeps_setRow (w : World) (g : Nat) (cs : Array Value) : Keeps (fun b => b = g) w (w.setRow g cs) :=
 ⟨rfl, rfl, rfl, by simp, fun k hk hg => setRow_other _ _ _ _ hg⟩

theorem keeps_alloc (w : World) (o : Obj) : Keeps (fun _ => False) w (w.alloc o) :=
 ⟨rfl, rfl, rfl, by show _ ≤ (w.heap.push _).size; simp, fun k hk _ => Below.heap_alloc w o k hk⟩

theorem keeps_drew (w : World) : Keeps (fun _ => False) w { w with drawn := w.drawn + 1 } := ⟨rfl, rfl, rfl, Nat.le_refl _, fun _ _ _ => rfl⟩

section
variable {X : Cx} {h : Hp} {ρ : Nat → Loc} {st : St} {a : Act} {w : World} {P : Program}

theorem FitsAt.made {w' : World} (F : FitsAt X h ρ st a w) (hk : Keeps (fun _ => False) w w') : FitsAt X h ρ st a w' :=
 F.world (fun b hb => hk.block b hb id) (F.kp.step hk (fun _ e => e.elim))

theorem hnew_blk (hs : HSub h w) (o : Nat) (b : Nat) (hb : w.heap.size ≤ b) : h b o = none := by
 cases e : h b o with
 | none => rfl
 | some v => exact absurd (hs.lt e) (by omega)

theorem FitsAt.newBox (F : FitsAt X h ρ st a w) (id : Nat) (hid : idOK id = true) (vs : Array Value) (t : TypeId) (cells : List SV) (hl : vs.size = cells.length)
  (hc : ∀ (i : Nat) u c, vs[i]? = some u → cells[i]? = some c → Rep h ρ u c ∧ u.oneCell' = true) :
  FitsAt X h (upd ρ id ⟨w.heap.size, 0, 0, 0, 0, false⟩) (st.bind id (.box cells)) a (w.alloc (.cells vs t)) := by
 have F1 := F.made (keeps_alloc w (.cells vs t))
 refine F1.bind id hid (.box cells) _ ?_ (fun _ => .inl F.kp.size) (fun _ i _ hi => ?_)
 ·simp only [ObOK, hmapOb, upd_same]
  refine ⟨trivial, ⟨vs, t, by show (w.heap.push _)[_]? = _; simp, by rw [hmapL_length]; exact hl, fun i v c hv hc' => ?_⟩, fun o => hnew_blk F.sub o _ (Nat.le_refl _)⟩
  rw [hmapL_getElem?] at hc'
  cases hx : cells[i]? with
  | none => simp [hx] at hc'
  | some y =>
   simp [hx] at hc'
   subst hc'
   obtain ⟨p, q⟩ := hc i v y hv hx
   exact ⟨p.kill id (HLe.refl h) (fun j hj => upd_ne ρ _ hj), q⟩
 ·obtain ⟨⟨o, ho⟩, hn⟩ := hi
  exact Nat.ne_of_lt (ObOK.blk_lt (F.obj i o ho) hn)

theorem FitsAt.newOwn {w' : World} (F : FitsAt X h ρ st a w) (id : Nat) (hid : idOK id = true) (o : Ob) (l : Loc) (hk : Keeps (fun _ => False) w w') (hbox : ∀ cs, o ≠ .box cs) (hl : l.none = false → w.heap.size ≤ l.blk)
  (ho : ObOK h (upd ρ id l) w' id o) : FitsAt X h (upd ρ id l) (st.bind id o) a w' := by
 have hm : hmapOb (killG id) o = o := by cases o <;> first | rfl | exact absurd rfl (hbox _)
 refine (F.made hk).bind id hid o l (by rw [hm]; exact ho) (fun hn => .inl (Nat.le_trans F.kp.size (hl hn))) (fun hn i _ hi => ?_)
 obtain ⟨⟨o, ho⟩, hni⟩ := hi
 have := ObOK.blk_lt (F.obj i o ho) hni
 have := hl hn
 omega

theorem FitsAt.touch {w' : World} (F : FitsAt X h ρ st a w) (b : Nat) (hb : ∀ i, live st.objs ρ i → (ρ i).blk ≠ b) (hh : ∀ o, h b o = none) (hg : X.w.heap.size ≤ b ∨ X.G b)
  (hoth : ∀ k, k ≠ b → w'.heap[k]? = w.heap[k]?) (hkp : Keeps (fun k => k = b) w w') : FitsAt X h ρ st a w' := by
 refine { F with sub := fun k o v e => ?_, obj := fun i o ho => ?_, kp := F.kp.step hkp (fun k e => by subst e; exact hg) }
 ·have hne : k ≠ b := fun e' => by subst e'; rw [hh o] at e; cases e
  have := F.sub k o v e
  unfold World.cell? at this ⊢
  simp only [] at this ⊢
  rw [hoth k hne]; exact this
 ·exact (F.obj i o ho).carry (HLe.refl h) (fun hn => hoth _ (hb i ⟨⟨o, ho⟩, hn⟩)) (fun _ _ e => e)

theorem live_drop {ρ' : Nat → Loc} {id i : Nat} (hρ : ∀ i, i ≠ id → ρ' i = ρ i) (hi : live (st.drop id).objs ρ' i) : i ≠ id ∧ live st.objs ρ i := by
 obtain ⟨⟨o, e⟩, hn⟩ := hi
 obtain ⟨o', e', rfl⟩ := oget_hmapO_some e
 obtain ⟨hne, e''⟩ := oget_odel_some e'
 rw [hρ i hne] at hn
 exact ⟨hne, ⟨o', e''⟩, hn⟩

theorem store_sound (F : FitsAt X h ρ st a w) {t : TypeId} {id off n : Nat} {cs cs' : List SV} {v : Value} {y : SV} (ho : oget st.objs id = some (.box cs)) (hz : szT P t = some n)
  (hy : Rep h ρ v y) (hb : boxL (cellsOf y) = true) (hn : lenN (cellsOf y) = n) (hs : spliceN off (cellsOf y) cs = some cs') :
  ∃ w', (Instr.storeAt t (.pointer (some ⟨(ρ id).blk, off, none⟩)) v).run P w = .ok () w' ∧ FitsAt X h ρ { st with objs := oput st.objs id (.box cs') } a w' ∧
   w.heap.size ≤ w'.heap.size ∧ ∀ b, b ≠ (ρ id).blk → w'.heap[b]? = w.heap[b]? := by
 obtain ⟨hn0, ⟨cur, ty, hcur, hsz, hcell⟩, hno⟩ := F.obj id _ ho
 obtain ⟨hvs, hvc⟩ := rep_cells hy hb
 obtain ⟨hle, rfl⟩ := spliceN_spec _ _ _ _ hs
 rw [lenN_eq] at hn
 have hrun := run_storeCells_at P (ρ id).blk off ty v.cells.toList 0 cur w hcur (by simp [hvs]; omega) (fun u hu => by
  obtain ⟨i, hi, e⟩ := List.mem_iff_getElem.1 hu
  have hi' : i < v.cells.size := by simpa using hi
  have hlt : i < (cellsOf y).length := by omega
  exact (hvc i u _ (by rw [Array.getElem?_eq_getElem hi']; simp at e; rw [e]) (List.getElem?_eq_getElem hlt)).2)
 refine ⟨_, ?_, F.setOb id (.box cs) _ (w.setRow (ρ id).blk (cur.toList.take (off + 0) ++ v.cells.toList ++ cur.toList.drop (off + 0 + v.cells.toList.length)).toArray) ho hn0 ⟨hn0, ⟨_, ty, setRow_heap w _ cur _ ty _ hcur, ?_, ?_⟩, hno⟩
  (fun b hb => setRow_other _ _ _ _ hb) (keeps_setRow _ _ _), by simp, fun b hb => setRow_other _ _ _ _ hb⟩
 ·simp only [Instr.storeAt, Instr.sureAddr, storeVar, Sem.run_bind, Sem.run_pure, Result.andThen_ok, run_sizeOf' w hz]
  have : ¬ (v.cells.size ≠ n) := by rw [hvs, hn]; simp
  simp only [this, if_false]
  exact hrun
 ·simp [hvs]; omega
 ·intro i u c hu hc
  simp only [List.getElem?_toArray, Nat.add_zero, Array.length_toList] at hu
  rw [List.getElem?_append] at hu hc
  have l1 : (List.take off cur.toList ++ v.cells.toList).length = off + (cellsOf y).length := by simp [hvs]; omega
  have l2 : (List.take off cs ++ cellsOf y).length = off + (cellsOf y).length := by simp; omega
  rw [l1] at hu; rw [l2] at hc
  by_cases h1 : i < off + (cellsOf y).length
  ·rw [if_pos h1] at hu hc
   rw [List.getElem?_append] at hu hc
   have l3 : (List.take off cur.toList).length = off := by simp; omega
   have l4 : (List.take off cs).length = off := by simp; omega
   rw [l3] at hu; rw [l4] at hc
   by_cases h2 : i < off
   ·rw [if_pos h2] at hu hc
    rw [List.getElem?_take, if_pos h2] at hu hc
    exact hcell i u c (by simpa using hu) hc
   ·rw [if_neg h2] at hu hc
    exact hvc _ u c (by simpa using hu) hc
  ·rw [if_neg h1] at hu hc
   rw [List.getElem?_drop] at hu hc
   rw [hvs] at hu
   exact hcell _ u c (by simpa using hu) hc

/- Handing on for good. -/

def frzH (h : Hp) (w : World) (l : Loc) (n : Nat) : Hp := fun b o => if b = l.blk ∧ l.off ≤ o ∧ o < l.off + n then w.cell? ⟨b, o, none⟩ else h b o

theorem row_lt {i n j sz : Nat} (hi : i < n) (hj : j < sz) : i * sz + j < n * sz := by
 have : (i + 1) * sz ≤ n * sz := Nat.mul_le_mul_right sz (by omega)
 rw [Nat.add_mul] at this
 omega

theorem frz_slice {l : Loc} {sz : Nat} {rows : List (List SV)} (hle : HLe h (frzH h w l (rows.length * sz))) (o : OwnOK h w l sz rows) :
  PRep (frzH h w l (rows.length * sz)) (.slice (some ⟨l.blk, l.off, none⟩) l.len l.cap) (.slice sz rows 0) := by
 obtain ⟨cs, t, fz, hc, hs, hf, hv⟩ := o.hblk
 rw [o.hlen]
 refine .slice l.blk l.off l.cap sz rows 0 (fun i j => (cs[l.off + i * sz + j]?).getD undef) o.pos o.hrow (fun i r j c h1 h2 => ?_) (fun i r j c h1 h2 => ?_) (fun i r j c h1 h2 => ?_) (by omega) (by omega) o.hcap
 ·obtain ⟨v, e1, _⟩ := hv i r j c h1 h2
  have hi := (List.getElem?_eq_some_iff.1 h1).1
  have hj := (List.getElem?_eq_some_iff.1 h2).1
  rw [o.hrow i r h1] at hj
  have := row_lt hi hj
  have hcond : l.off ≤ l.off + i * sz + j ∧ l.off + i * sz + j < l.off + rows.length * sz := ⟨by omega, by omega⟩
  simp only [frzH, hcond, and_self, if_true, e1, Option.getD_some]
  simp [World.cell?, hc, e1]
 ·obtain ⟨v, e1, e2, _⟩ := hv i r j c h1 h2
  simp only [e1, Option.getD_some]
  exact e2.mono hle
 ·obtain ⟨v, e1, _, e3⟩ := hv i r j c h1 h2
  simp only [e1, Option.getD_some]
  exact e3

theorem FitsAt.frz (F : FitsAt X h ρ st a w) (id : Nat) : ∃ h', HLe h h' ∧ FitsAt X h' ρ (st.frz id) a w := by
 unfold St.frz
 split
 ·rename_i sz rows ho
  have hob := F.obj id _ ho
  -- what h becomes
  have key : ∃ h', HLe h h' ∧ HSub h' w ∧ (∀ b, b ≠ (ρ id).blk ∨ (ρ id).none = true → ∀ o, h' b o = h b o) ∧ ∀ v, Rep h ρ v (.osl id) → PRep h' v (.slice sz rows 0) := by
   rcases hob with ⟨hn, rfl⟩ | ⟨hn, o⟩
   ·refine ⟨h, HLe.refl h, F.sub, fun _ _ _ => rfl, fun v r => ?_⟩
    rcases r.osl_inv with ⟨_, p, rfl⟩ | ⟨hn', _⟩
    ·exact .empty p 0 sz 0 (by omega) (by omega) (fun _ => rfl)
    ·rw [hn] at hn'; cases hn'
   ·have hle : HLe h (frzH h w (ρ id) (rows.length * sz)) := fun b x v e => by
     have hb : b ≠ (ρ id).blk := fun e' => by subst e'; rw [o.hh] at e; cases e
     simp [frzH, hb, e]
    refine ⟨frzH h w (ρ id) (rows.length * sz), hle, fun b x v e => ?_, fun b hb x => ?_, fun v r => ?_⟩
    ·unfold frzH at e
     split at e
     ·exact e
     ·exact F.sub b x v e
    ·rcases hb with hb | hb
     ·simp [frzH, hb]
     ·rw [hn] at hb; cases hb
    ·rcases r.osl_inv with ⟨hn', _⟩ | ⟨_, rfl⟩
     ·rw [hn] at hn'; cases hn'
     ·exact frz_slice hle o
  obtain ⟨h', hle, hsub, hsame, hsl⟩ := key
  have hrep : ∀ v s, Rep h ρ v s → Rep h' ρ v (hmap (frzG id sz rows) s) := fun v s r => r.turn fun v s hs r => by
   cases r with
   | pure _ _ hp =>
    have : frzG id sz rows s = s := by cases hp <;> first | rfl | (simp [isLeaf] at hs)
    rw [this]; exact .pure _ _ (hp.mono hle)
   | agg => simp [isLeaf] at hs
   | tup => simp [isLeaf] at hs
   | ptr i off => exact .ptr i off
   | bsl i off n => exact .bsl i off n
   | osl0 i p hn =>
    by_cases hi : i = id
    ·subst hi; simp only [frzG, Nat.beq_refl, cond_true]; exact .pure _ _ (hsl _ (.osl0 i p hn))
    ·simp only [frzG, beq_false hi, cond_false]; exact .osl0 i p hn
   | osl i hn =>
    by_cases hi : i = id
    ·subst hi; simp only [frzG, Nat.beq_refl, cond_true]; exact .pure _ _ (hsl _ (.osl i hn))
    ·simp only [frzG, beq_false hi, cond_false]; exact .osl i hn
   | eptr i e j off hn =>
    by_cases hi : i = id
    ·subst hi; simp only [frzG, Nat.beq_refl, cond_true]; exact .pure _ _ (.unk _)
    ·simp only [frzG, beq_false hi, cond_false]; exact .eptr i e j off hn
   | osv i l hh c p h0 h1 h2 hc hp =>
    by_cases hi : i = id
    ·subst hi; simp only [frzG, Nat.beq_refl, cond_true]; exact .pure _ _ (.unk _)
    ·simp only [frzG, beq_false hi, cond_false]; exact .osv i l hh c p h0 h1 h2 hc hp
   | omp i => exact .omp i
   | aptr i n => exact .aptr i n
   | asl i l hh cap => exact .asl i l hh cap
  refine ⟨h', hle, F.turn _ _ hrep (fun i o e => ?_) (fun i hi => ?_) hsub hle (fun b hb hg x e => ?_) F.kp (fun _ _ => rfl)⟩
  ·obtain ⟨o', e', rfl⟩ := oget_hmapO_some e
   obtain ⟨hne, e''⟩ := oget_odel_some e'
   refine (F.obj i o' e'').turn hrep hle rfl (fun _ => rfl) (fun hn x e => ?_)
   rw [hsame]
   ·exact e
   ·by_cases hn' : (ρ id).none = true
    ·exact .inr hn'
    ·exact .inl (F.inj i id ⟨⟨o', e''⟩, hn⟩ ⟨⟨_, ho⟩, by simpa using hn'⟩ hne)
  ·obtain ⟨⟨o, e⟩, hn⟩ := hi
   obtain ⟨o', e', rfl⟩ := oget_hmapO_some e
   obtain ⟨hne, e''⟩ := oget_odel_some e'
   exact ⟨⟨⟨o', e''⟩, hn⟩, rfl⟩
  ·rw [hsame]
   ·exact e
   ·by_cases hn' : (ρ id).none = true
    ·exact .inr hn'
    ·refine .inl fun eb => ?_
     subst eb
     rcases F.own id ⟨⟨_, ho⟩, by simpa using hn'⟩ with h1 | h1
     ·omega
     ·exact hg h1
 ·exact ⟨h, HLe.refl h, F⟩

theorem FitsAt.frzAll : ∀ (ids : List Nat) {st : St} {h : Hp}, FitsAt X h ρ st a w → ∃ h', HLe h h' ∧ FitsAt X h' ρ (St.frzAll ids st) a w
 | [], st, h, F => ⟨h, HLe.refl h, F⟩
 | id :: ids, st, h, F => by
  obtain ⟨h1, hle1, F1⟩ := F.frz id
  obtain ⟨h2, hle2, F2⟩ := FitsAt.frzAll ids F1
  exact ⟨h2, hle1.trans hle2, F2⟩

theorem pureCell_sound {v : Value} {s s' : SV} (r : Rep h ρ v s) (hp : pureCell s = some s') : PRep h v s' := by
 cases r with
 | pure _ _ hr =>
  cases hr with
  | val v => cases v <;> simp [pureCell] at hp <;> subst hp <;> exact .val _
  | agg => simp [pureCell] at hp
  | empty p cap sz tok ht h1 hn => simp [pureCell] at hp; subst hp; exact .empty p cap _ 0 (by omega) (by omega) hn
  | slice b off cap sz rows tok vs hpos hz hh hr ho ht h1 hle => simp [pureCell] at hp; subst hp; exact .slice b off cap sz rows 0 vs hpos hz hh hr ho (by omega) (by omega) hle
  | ref b base off cells vs hh hr => simp [pureCell] at hp; subst hp; exact .ref b base off cells vs hh hr
  | clo f vs cs hl hc => simp [pureCell] at hp; subst hp; exact .clo f vs cs hl hc
  | ifc t v s hv => simp [pureCell] at hp; subst hp; exact .ifc t v s hv
  | arr => simp [pureCell] at hp
  | unk => simp [pureCell] at hp
 | agg => simp [pureCell] at hp
 | tup => simp [pureCell] at hp
 | ptr => simp [pureCell] at hp
 | bsl => simp [pureCell] at hp
 | osl0 => simp [pureCell] at hp
 | osl => simp [pureCell] at hp
 | eptr => simp [pureCell] at hp
 | osv => simp [pureCell] at hp
 | omp => simp [pureCell] at hp
 | aptr => simp [pureCell] at hp
 | asl => simp [pureCell] at hp

theorem pureL_sound : ∀ (cs cs' : List SV), pureL cs = some cs' → cs'.length = cs.length ∧
  ∀ (i : Nat) c', cs'[i]? = some c' → ∃ c, cs[i]? = some c ∧ pureCell c = some c'
 | [], cs', h => by simp [pureL] at h; subst h; simp
 | c :: cs, cs', h => by
  simp only [pureL] at h
  split at h
  ·rename_i c1 cs1 h1 h2
   cases h
   obtain ⟨l, g⟩ := pureL_sound cs cs1 h2
   refine ⟨by simp [l], fun i c' hc => ?_⟩
   cases i with
   | zero => simp at hc; subst hc; exact ⟨c, by simp, h1⟩
   | succ i => simpa using g i c' (by simpa using hc)
  ·cases h

theorem pureArg_sound {v : Value} {s s' : SV} (r : Rep h ρ v s) (hp : pureArg s = some s') : PRep h v s' := by
 unfold pureArg at hp
 split at hp
 ·rename_i cs
  simp at hp
  obtain ⟨cs', hcs, rfl⟩ := hp
  obtain ⟨l, g⟩ := pureL_sound _ _ hcs
  obtain ⟨vs, rfl, hl, hc⟩ := r.agg_inv'
  refine .agg vs cs' (by omega) fun i u c hu hc' => ?_
  obtain ⟨c0, h0, h1⟩ := g i c hc'
  exact pureCell_sound (hc i u c0 hu h0) h1
 ·exact pureCell_sound r hp

theorem pureArr_sound {v : Value} {s s' : SV} (r : Rep h ρ v s) (hp : pureArr s = some s') : PRep h v s' := by
 unfold pureArr at hp
 split at hp
 ·cases hp
  cases r with
  | pure _ _ hp => exact hp
 ·exact pureArg_sound r hp

theorem FitsAt.frzBox (F : FitsAt X h ρ st a w) (id : Nat) {st' : St} (hs : st.frzBox id = some st') : ∃ h', HLe h h' ∧ FitsAt X h' ρ st' a w := by
 unfold St.frzBox at hs
 split at hs
 ·rename_i cs ho
  split at hs
  ·rename_i cs' hcs
   cases hs
   obtain ⟨hn, ⟨cv, t, hblk, hsz, hcell⟩, hno⟩ := F.obj id _ ho
   obtain ⟨hl, hget⟩ := pureL_sound _ _ hcs
   let h' : Hp := fun b o => if b = (ρ id).blk then w.cell? ⟨b, o, none⟩ else h b o
   have hle : HLe h h' := fun b o v e => by
    have hb : b ≠ (ρ id).blk := fun e' => by subst e'; rw [hno] at e; cases e
    simp [h', hb, e]
   have hsub : HSub h' w := fun b o v e => by
    simp only [h'] at e
    split at e
    ·exact e
    ·exact F.sub b o v e
   have hsame : ∀ b, b ≠ (ρ id).blk → ∀ o, h' b o = h b o := fun b hb o => by simp [h', hb]
   have hcellv : ∀ (j : Nat) c, cs'[j]? = some c → ∃ v, cv[j]? = some v ∧ PRep h v c := fun j c hc => by
    obtain ⟨c0, h0, h1⟩ := hget j c hc
    have hj : j < cv.size := by rw [hsz]; exact (List.getElem?_eq_some_iff.1 h0).1
    exact ⟨cv[j], Array.getElem?_eq_getElem hj, pureCell_sound (hcell j _ c0 (Array.getElem?_eq_getElem hj) h0).1 h1⟩
   have hrep : ∀ v s, Rep h ρ v s → Rep h' ρ v (hmap (frzBG id cs') s) := fun v s r => r.turn fun v s hs r => by
    cases r with
    | pure _ _ hp =>
     have : frzBG id cs' s = s := by cases hp <;> first | rfl | (simp [isLeaf] at hs)
     rw [this]; exact .pure _ _ (hp.mono hle)
    | agg => simp [isLeaf] at hs
    | tup => simp [isLeaf] at hs
    | ptr i off =>
     by_cases hi : i = id
     ·subst hi
      simp only [frzBG, Nat.beq_refl, cond_true]
      have := PRep.ref (h := h') (ρ i).blk 0 off cs' (fun j => (cv[j]?).getD undef) (fun j c hc => by
       obtain ⟨v, e1, _⟩ := hcellv j c hc
       simp only [h', if_true, Nat.zero_add, e1, Option.getD_some]
       simp [World.cell?, hblk, e1]) (fun j c hc => by
       obtain ⟨v, e1, e2⟩ := hcellv j c hc
       simp only [e1, Option.getD_some]; exact e2.mono hle)
      rw [Nat.zero_add] at this
      exact .pure _ _ this
     ·simp only [frzBG, beq_false hi, cond_false]; exact .ptr i off
    | bsl i off n =>
     by_cases hi : i = id
     ·subst hi; simp only [frzBG, Nat.beq_refl, cond_true]; exact .pure _ _ (.unk _)
     ·simp only [frzBG, beq_false hi, cond_false]; exact .bsl i off n
    | osl0 i p hn => exact .osl0 i p hn
    | osl i hn => exact .osl i hn
    | eptr i e j off hn => exact .eptr i e j off hn
    | osv i l hh c p h0 h1 h2 hc hp => exact .osv i l hh c p h0 h1 h2 hc hp
    | omp i => exact .omp i
    | aptr i n => exact .aptr i n
    | asl i l hh cap => exact .asl i l hh cap
   refine ⟨h', hle, F.turn _ _ hrep (fun i o e => ?_) (fun i hi => ?_) hsub hle (fun b hb hg x e => ?_) F.kp (fun _ _ => rfl)⟩
   ·obtain ⟨o', e', rfl⟩ := oget_hmapO_some e
    obtain ⟨hne, e''⟩ := oget_odel_some e'
    refine (F.obj i o' e'').turn hrep hle rfl (fun _ => rfl) (fun hni x e => ?_)
    rw [hsame]
    ·exact e
    ·exact F.inj i id ⟨⟨o', e''⟩, hni⟩ ⟨⟨_, ho⟩, hn⟩ hne
   ·obtain ⟨⟨o, e⟩, hn⟩ := hi
    obtain ⟨o', e', rfl⟩ := oget_hmapO_some e
    obtain ⟨hne, e''⟩ := oget_odel_some e'
    exact ⟨⟨⟨o', e''⟩, hn⟩, rfl⟩
   ·rw [hsame]
    ·exact e
    ·intro eb
     subst eb
     rcases F.own id ⟨⟨_, ho⟩, hn⟩ with h1 | h1
     ·omega
     ·exact hg h1
  ·cases hs
 ·cases hs

theorem FitsAt.frzBoxes : ∀ (ids : List Nat) {st st' : St} {h : Hp}, FitsAt X h ρ st a w → St.frzBoxes ids st = some st' → ∃ h', HLe h h' ∧ FitsAt X h' ρ st' a w
 | [], st, st', h, F, e => by simp [St.frzBoxes] at e; subst e; exact ⟨h, HLe.refl h, F⟩
 | id :: ids, st, st', h, F, e => by
  simp only [St.frzBoxes] at e
  split at e
  ·rename_i cs ho
   split at e
   ·rename_i s1 hs1
    obtain ⟨h1, l1, F1⟩ := F.frzAll (ownIdsL cs)
    obtain ⟨h2, l2, F2⟩ := F1.frzBox id hs1
    obtain ⟨h3, l3, F3⟩ := FitsAt.frzBoxes ids F2 e
    exact ⟨h3, (l1.trans l2).trans l3, F3⟩
   ·cases e
  ·cases e

end
end Go.Px

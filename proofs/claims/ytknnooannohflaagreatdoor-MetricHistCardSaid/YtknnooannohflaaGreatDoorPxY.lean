/- Operations that make or write memory, or call. -/
import Derived.Test.YtknnooannohflaaGreatDoorPxX
namespace Go.Px
open Go.RowKit
set_option linter.unusedVariables false

section
variable {X : Cx} {h : Hp} {ρ : Nat → Loc} {st : St} {a : Act} {w : World} {P : Program}

theorem own_store (F : FitsAt X h ρ st a w) {t : TypeId} {id off n sz : Nat} {i : Int} {rows : List (List SV)} {cs cs' : List SV} {v : Value} {y s : SV} (ho : oget st.objs id = some (.own sz rows)) (hz : szT P t = some n)
  (hy : Rep h ρ v y) (hs : pureArg y = some s) (hn : (cellsOf s).length = n) (h0 : 0 ≤ i) (h1 : i < rlen rows) (hrow : rows[i.toNat]? = some cs) (hsp : spliceN off (cellsOf s) cs = some cs') (hn0 : (ρ id).none = false) :
  ∃ w', (Instr.storeAt t (.pointer (some ⟨(ρ id).blk, (ρ id).off + i.toNat * (ρ id).sz + off, none⟩)) v).run P w = .ok () w' ∧ FitsAt X h ρ { st with objs := oput st.objs id (.own sz (rset rows i cs')) } a w' ∧
   w.heap.size ≤ w'.heap.size ∧ ∀ b, b ≠ (ρ id).blk → w'.heap[b]? = w.heap[b]? := by
 rcases F.obj id _ ho with ⟨hn', _⟩ | ⟨_, o⟩
 ·rw [hn0] at hn'; cases hn'
 ·obtain ⟨cv, ty, fz, hc, hsz, hfz, hv⟩ := o.hblk
  obtain ⟨hvs, hvc⟩ := pureArg_cells hy hs
  obtain ⟨hle, rfl⟩ := spliceN_spec _ _ _ _ hsp
  have hit : i.toNat < rows.length := (List.getElem?_eq_some_iff.1 hrow).1
  have hcl : cs.length = sz := o.hrow _ _ hrow
  have hbnd : i.toNat * sz + sz ≤ (ρ id).cap * sz := by
   have : (i.toNat + 1) * sz ≤ (ρ id).cap * sz := Nat.mul_le_mul_right sz (by have := o.hcap; omega)
   rw [Nat.add_mul] at this; omega
  have hszl : (ρ id).sz = sz := o.hsz
  have hrun := run_storeCells_fz P (ρ id).blk ((ρ id).off + i.toNat * sz + off) ty fz v.cells.toList 0 cv w hc (by simp [hvs]; omega) (fun u hu => by
   obtain ⟨k, hk, e⟩ := List.mem_iff_getElem.1 hu
   have hk' : k < v.cells.size := by simpa using hk
   have hlt : k < (cellsOf s).length := by omega
   exact (hvc k u _ (by rw [Array.getElem?_eq_getElem hk']; simp at e; rw [e]) (List.getElem?_eq_getElem hlt)).2) (fun x hx1 hx2 => hfz x (by omega) (by simp [hvs] at hx2; omega))
  refine ⟨_, ?_, F.setOb id (.own sz rows) _ (w.setRow (ρ id).blk (cv.toList.take ((ρ id).off + i.toNat * sz + off + 0) ++ v.cells.toList ++ cv.toList.drop ((ρ id).off + i.toNat * sz + off + 0 + v.cells.toList.length)).toArray) ho hn0 (.inr ⟨hn0, ⟨o.pos, o.hsz, by simp [rset, o.hlen], by simp [rset]; exact o.hcap, fun k r hk => ?_, ⟨_, ty, fz, setRow_heap w _ cv _ ty _ hc, ?_, hfz, fun k r j c hk hj => ?_⟩, o.hh, fun cs' t' fz' e => by rw [setRow_heap w _ cv _ ty _ hc] at e; cases e; exact (o.hfz _ _ _ hc).imp (fun z => z) fun q => ⟨q.1, by simp [hvs]; omega⟩, o.hcm⟩⟩)
   (fun b hb => setRow_other _ _ _ _ hb) (keeps_setRow _ _ _), by simp, fun b hb => setRow_other _ _ _ _ hb⟩
  ·simp only [Instr.storeAt, Instr.sureAddr, storeVar, Sem.run_bind, Sem.run_pure, Result.andThen_ok, run_sizeOf' w hz, hszl]
   have : ¬ (v.cells.size ≠ n) := by rw [hvs, hn]; simp
   simp only [this, if_false]
   exact hrun
  ·simp only [rset, List.getElem?_set] at hk
   split at hk
   ·cases hk; simp; omega
   ·exact o.hrow k r hk
  ·simp [hvs]; omega
  ·have hjs : j < sz := by
    have h3 := (List.getElem?_eq_some_iff.1 hj).1
    simp only [rset, List.getElem?_set] at hk
    split at hk
    ·cases hk; simp at h3; omega
    ·rw [o.hrow k r hk] at h3; exact h3
   have l3 : (List.take ((ρ id).off + i.toNat * sz + off) cv.toList).length = (ρ id).off + i.toNat * sz + off := by simp; omega
   -- the cell as it is now
   have hget : ∀ q, (cv.toList.take ((ρ id).off + i.toNat * sz + off + 0) ++ v.cells.toList ++ cv.toList.drop ((ρ id).off + i.toNat * sz + off + 0 + v.cells.toList.length)).toArray[q]? =
     if (ρ id).off + i.toNat * sz + off ≤ q ∧ q < (ρ id).off + i.toNat * sz + off + (cellsOf s).length then v.cells[q - ((ρ id).off + i.toNat * sz + off)]? else cv[q]? := by
    intro q
    simp only [Nat.add_zero, List.getElem?_toArray, Array.length_toList, hvs]
    rw [List.append_assoc, List.getElem?_append, l3]
    by_cases hq : q < (ρ id).off + i.toNat * sz + off
    ·rw [if_pos hq, if_neg (by omega), List.getElem?_take, if_pos hq]; simp
    ·rw [if_neg hq, List.getElem?_append]
     simp only [Array.length_toList, hvs]
     by_cases hq2 : q - ((ρ id).off + i.toNat * sz + off) < (cellsOf s).length
     ·rw [if_pos hq2, if_pos (by omega)]; simp
     ·rw [if_neg hq2, if_neg (by omega), List.getElem?_drop]
      simp only [Array.getElem?_toList]
      congr 1
      omega
   rw [hget]
   by_cases hki : k = i.toNat
   ·subst hki
    simp only [rset, List.getElem?_set, if_true, if_pos hit] at hk
    cases hk
    rw [List.append_assoc, List.getElem?_append] at hj
    have l4 : (List.take off cs).length = off := by simp; omega
    rw [l4] at hj
    by_cases c1 : j < off
    ·rw [if_pos c1, List.getElem?_take, if_pos c1] at hj
     rw [if_neg (by omega)]
     exact hv _ cs j c hrow hj
    ·rw [if_neg c1, List.getElem?_append] at hj
     by_cases c2 : j - off < (cellsOf s).length
     ·rw [if_pos c2] at hj
      rw [if_pos (by omega)]
      have hlt : j - off < v.cells.size := by omega
      have hq : (ρ id).off + i.toNat * sz + j - ((ρ id).off + i.toNat * sz + off) = j - off := by omega
      rw [hq]
      exact ⟨v.cells[j - off], Array.getElem?_eq_getElem hlt, hvc _ _ c (Array.getElem?_eq_getElem hlt) hj⟩
     ·rw [if_neg c2, List.getElem?_drop] at hj
      rw [if_neg (by omega)]
      have := hv _ cs j c hrow (by rw [← hj]; congr 1; omega)
      exact this
   ·have hk' : rows[k]? = some r := by
     simp only [rset, List.getElem?_set] at hk
     rw [if_neg (fun e => hki e.symm)] at hk; exact hk
    rw [if_neg]
    ·exact hv k r j c hk' hj
    ·rintro ⟨c1, c2⟩
     have := row_inj (i := k) (i' := i.toNat) (j := j) (j' := (ρ id).off + k * sz + j - ((ρ id).off + i.toNat * sz)) hjs (by omega) (by omega)
     exact hki this.1

theorem bytes_make (F : FitsAt X h ρ st a w) {src dst e : TypeId} {s : ByteArray} {nid : Nat} (hs : P.underlying src = some .string) (hd : P.underlying dst = some (.slice e)) (he : P.underlying e = some (.int .u8)) (hnid : idOK nid = true) (hmax : slen s ≤ most) :
  ∃ v w', (convert src dst (.string s)).run P w = .ok v w' ∧ (∃ ρ', FitsAt X h ρ' (st.bind nid (.own 1 (sbytes s))) a w' ∧ Rep h ρ' v (.osl nid)) ∧ w.heap.size ≤ w'.heap.size ∧ ∀ b, b < w.heap.size → w'.heap[b]? = w.heap[b]? := by
 have hmax' : s.size ≤ 2147483648 := by simp only [slen, most, Int.ofNat_eq_natCast] at hmax; omega
 let nc := s.size + w.tape w.drawn (.appendCap s.size 0 e) % (2 ^ 63 - s.size)
 let cs : Array Value := s.data.map (fun b => .int .u8 b.toNat) ++ Array.replicate (nc - s.size) (.int .u8 0)
 have hnc : s.size ≤ nc := by simp only [nc]; omega
 have hncm : nc ≤ 9223372036854775807 := by
  have := Nat.mod_lt (w.tape w.drawn (.appendCap s.size 0 e)) (show 0 < 2 ^ 63 - s.size by omega)
  simp only [nc]; omega
 have hcs : cs.size = nc := by
  have : s.data.size = s.size := rfl
  simp only [cs, Array.size_append, Array.size_map, Array.size_replicate, this]; omega
 let w1 := w.drew.alloc (.cells cs e)
 let w' := w1.freeze { block := w.heap.size, off := nc } 1
 have hb1 : w1.heap[w.heap.size]? = some (.cells cs e (0, 0)) := by show (w.heap.push _)[_]? = _; simp
 have hw' : w'.heap[w.heap.size]? = some (.cells cs e (nc, nc + 1)) := by
  show (w1.heap.modify w.heap.size _)[w.heap.size]? = _
  rw [Array.getElem?_modify, if_pos rfl, hb1]
  rfl
 have hoth : ∀ b, b < w.heap.size → w'.heap[b]? = w.heap[b]? := fun b hb => by
  show (w1.heap.modify w.heap.size _)[b]? = _
  rw [Array.getElem?_modify, if_neg (by omega : ¬ w.heap.size = b)]
  exact (keeps_drew_alloc w _).block b hb (fun e => e)
 have hkp : Keeps (fun _ => False) w w' := ⟨rfl, rfl, rfl, by show _ ≤ (w1.heap.modify w.heap.size _).size; rw [Array.size_modify]; exact (keeps_drew_alloc w _).size, fun k hk _ => hoth k hk⟩
 have hrun : (convert src dst (.string s)).run P w = .ok (.slice (some ⟨w.heap.size, 0, none⟩) s.size nc) w' := by
  have hsh : (shape w.heap.size).run P w1 = .ok (some (e, nc)) w1 := by
   show Result.ok (w1.shape? w.heap.size) w1 = _
   simp [World.shape?, hb1, hcs]
  have hnr : (newRow e cs).run P w.drew = .ok ⟨w.heap.size, 0, none⟩ w1 := by
   simp [newRow, w1]
   rfl
  simp only [convert, Sem.run_bind, run_underlying hs, run_underlying hd, run_underlying he, Result.andThen_ok, Conv.stringToBytes]
  have hch : (choose (.appendCap s.size 0 e)).run P w = .ok nc w.drew := by
   simp [choose, Sem.run, Question.forced, Question.cut, nc]
  simp only [hch, Result.andThen_ok]
  have hcs' : (Array.map (fun b => Value.int IntKind.u8 (b.toNat : Int)) s.data ++ Array.replicate (nc - s.size) (Value.int IntKind.u8 0)) = cs := rfl
  rw [hcs', hnr]
  simp only [Result.andThen_ok, markStringish, Sem.run_bind, hsh, Sem.run_pure]
  rfl
 have hlen : (sbytes s).length = s.size := by
  unfold sbytes
  rw [List.length_map]
  exact Array.length_toList
 refine ⟨_, _, hrun, ⟨upd ρ nid ⟨w.heap.size, 0, (sbytes s).length, nc, 1, false⟩, F.newOwn nid hnid (.own 1 (sbytes s)) _ hkp (by simp) (fun _ => Nat.le_refl _) (.inr ⟨by rw [upd_same], ?_⟩), ?_⟩, hkp.size, hoth⟩
 ·rw [upd_same]
  refine ownNew (cs := cs) (e := e) (fz := (nc, nc + 1)) (by omega) (by rw [hlen]; exact hnc) hncm (fun i r hi => ?_) hw' (by omega) (fun o ho => by omega) (fun o => hnew_blk F.sub o _ (Nat.le_refl _)) (.inr ⟨rfl, by rw [hcs]; exact Nat.le_refl _⟩) (fun i r j c hi hj => ?_)
  ·simp [sbytes] at hi; obtain ⟨b, _, rfl⟩ := hi; rfl
  ·simp [sbytes] at hi
   obtain ⟨b, hb, rfl⟩ := hi
   cases j with
   | zero =>
    simp at hj; subst hj
    refine ⟨.int .u8 b.toNat, ?_, .val _, rfl⟩
    have hlt := (Array.getElem?_eq_some_iff.1 hb).1
    simp only [cs, Nat.mul_one, Nat.add_zero]
    rw [Array.getElem?_append_left (by simpa using hlt)]
    simp [hb]
   | succ j => simp at hj
 ·have := Rep.osl (h := h) (ρ := upd ρ nid ⟨w.heap.size, 0, (sbytes s).length, nc, 1, false⟩) nid (by rw [upd_same])
  rw [upd_same] at this
  rw [hlen] at this
  rw [hlen]
  exact this

theorem map_store (F : FitsAt X h ρ st a w) {t kt et : TypeId} {id : Nat} {es : List (ByteArray × Int)} {s : ByteArray} {n : Int} (hu : P.underlying t = some (.map kt et)) (hkt : P.underlying kt = some .string) (ho : oget st.objs id = some (.mp es)) :
  ∃ w', (Instr.mapUpdate t (.map (some (ρ id).blk)) (.string s) (.int .i64 n)).run P w = .ok () w' ∧ FitsAt X h ρ { st with objs := oput st.objs id (.mp (mset es s n)) } a w' ∧ w.heap.size ≤ w'.heap.size ∧ ∀ b, b ≠ (ρ id).blk → w'.heap[b]? = w.heap[b]? := by
 obtain ⟨hn, ⟨ents, cl, hb, hm⟩, hno⟩ := F.obj id _ ho
 have hlt : (ρ id).blk < w.heap.size := (Array.getElem?_eq_some_iff.1 hb).1
 have key : ∀ (ents' : Array MapEntry) (cl' : Nat), MapOK ents' (mset es s n) → (Instr.mapUpdate t (.map (some (ρ id).blk)) (.string s) (.int .i64 n)).run P w = .ok () { w with heap := w.heap.setIfInBounds (ρ id).blk (.map ents' cl') } →
   ∃ w', (Instr.mapUpdate t (.map (some (ρ id).blk)) (.string s) (.int .i64 n)).run P w = .ok () w' ∧ FitsAt X h ρ { st with objs := oput st.objs id (.mp (mset es s n)) } a w' ∧ w.heap.size ≤ w'.heap.size ∧ ∀ b, b ≠ (ρ id).blk → w'.heap[b]? = w.heap[b]? := by
  intro ents' cl' hm' hrun
  have hoth : ∀ b, b ≠ (ρ id).blk → (w.heap.setIfInBounds (ρ id).blk (.map ents' cl'))[b]? = w.heap[b]? := fun b hb => Array.getElem?_setIfInBounds_ne (Ne.symm hb)
  refine ⟨_, hrun, F.setOb id (.mp es) _ _ ho hn ⟨hn, ⟨ents', cl', by simp [hlt], hm'⟩, hno⟩ hoth ⟨rfl, rfl, rfl, by simp, fun k hk hg => hoth k hg⟩, by simp, hoth⟩
 rcases findNow_map s ents.toList es 0 hm with ⟨g1, j, _, g2, g3, g4⟩ | ⟨g1, g2, g3, g4⟩
 ·have hkey : (ents[j]?).map (·.key) = some (.string s) := by simpa using g3
  have hgo : ((ents[j]?).map (·.key)).getD (.string s) = .string s := by rw [hkey]; rfl
  refine key (ents.modify j fun e => { e with key := .string s, val := .int .i64 n }) cl ?_ ?_
  ·have := g4 n
   simp only [Nat.sub_zero] at this
   unfold MapOK
   rw [← this, Array.toList_modify]
  ·have hks : (Instr.keyThatStays (.string s) (.string s)).run P w = .ok (.string s) w := by
    simp [Instr.keyThatStays, Instr.sameBits, ba_beq]
   simp [Instr.mapUpdate, run_underlying hu, getObj, setObj, Sem.run, hb, checkKey_string hkt, Instr.findKey, run_underlying hkt, g2, hgo, hks]
 ·refine key (ents.push { key := .string s, val := .int .i64 n, born := cl }) (cl + 1) ?_ ?_
  ·unfold MapOK at hm ⊢
   rw [g4 n]
   simp [hm]
  ·simp [Instr.mapUpdate, run_underlying hu, getObj, setObj, Sem.run, hb, checkKey_string hkt, Instr.findKey, run_underlying hkt, g3]

theorem bytes_mark (F : FitsAt X h ρ st a w) {src e : TypeId} {v : Value} {id : Nat} {rows : List (List SV)} (hs : P.underlying src = some (.slice e)) (he : P.underlying e = some (.int .u8)) (ho : oget st.objs id = some (.own 1 rows))
  (hr : Rep h ρ v (.osl id)) (hpos : 0 < rlen rows) :
  ∃ w', (convert src src v).run P w = .ok v w' ∧ FitsAt X h ρ { st with objs := oput st.objs id (.own 1 rows) } a w' ∧ w.heap.size ≤ w'.heap.size ∧ (ρ id).none = false ∧ ∀ b, b ≠ (ρ id).blk → w'.heap[b]? = w.heap[b]? := by
 have hpos' : 0 < rows.length := by simp only [rlen, Int.ofNat_eq_natCast] at hpos; omega
 rcases F.obj id _ ho with ⟨_, e0⟩ | ⟨hn, o⟩
 ·rw [e0] at hpos'; simp at hpos'
 rcases hr.osl_inv with ⟨hn', _⟩ | ⟨_, rfl⟩
 ·rw [hn] at hn'; cases hn'
 obtain ⟨cs, t, fz, hc, hsz, hfz, hv⟩ := o.hblk
 let w' := w.freeze { block := (ρ id).blk, off := cs.size } 1
 have hw' : ∃ fz', w'.heap[(ρ id).blk]? = some (.cells cs t fz') ∧ (fz' = (cs.size, cs.size + 1) ∨ (cs.size ≤ fz.1 ∧ fz' = (min fz.1 cs.size, max fz.2 (cs.size + 1)))) := by
  refine ⟨if fz.1 == fz.2 then (cs.size, cs.size + 1) else (min fz.1 cs.size, max fz.2 (cs.size + 1)), ?_, ?_⟩
  ·show (w.heap.modify (ρ id).blk _)[(ρ id).blk]? = _
   rw [Array.getElem?_modify, if_pos rfl, hc]
   rfl
  ·rcases o.hfz cs t fz hc with h0 | ⟨_, h0⟩
   ·rw [h0]; exact .inl rfl
   ·by_cases hq : (fz.1 == fz.2) = true
    ·rw [if_pos hq]; exact .inl rfl
    ·rw [if_neg hq]; exact .inr ⟨h0, rfl⟩
 obtain ⟨fz', hw', hfz'⟩ := hw'
 have hge : cs.size ≤ fz'.1 := by
  rcases hfz' with h0 | ⟨h1, h0⟩
  ·rw [h0]; exact Nat.le_refl _
  ·rw [h0]; show cs.size ≤ min fz.1 cs.size; omega
 have hoth : ∀ b, b ≠ (ρ id).blk → w'.heap[b]? = w.heap[b]? := fun b hb => by
  show (w.heap.modify (ρ id).blk _)[b]? = _
  rw [Array.getElem?_modify, if_neg (fun e => hb e.symm)]
 have hsize : w'.heap.size = w.heap.size := by show (w.heap.modify (ρ id).blk _).size = _; rw [Array.size_modify]
 have hkp : Keeps (fun b => b = (ρ id).blk) w w' := ⟨rfl, rfl, rfl, by rw [hsize]; exact Nat.le_refl _, fun k _ hk => hoth k hk⟩
 refine ⟨w', ?_, F.setOb id (.own 1 rows) _ w' ho hn (.inr ⟨hn, ⟨o.pos, o.hsz, o.hlen, o.hcap, o.hrow, ⟨cs, t, fz', hw', hsz, fun x hx1 hx2 hx3 => by omega, hv⟩, o.hh, fun cs' t' fz'' e' => by rw [hw'] at e'; cases e'; exact .inr ⟨rfl, hge⟩, o.hcm⟩⟩) hoth hkp, by rw [hsize]; exact Nat.le_refl _, hn, hoth⟩
 have hsh : (shape (ρ id).blk).run P w = .ok (some (t, cs.size)) w := by
  show Result.ok (w.shape? (ρ id).blk) w = _
  simp [World.shape?, hc]
 simp only [convert, Sem.run_bind, run_underlying hs, run_underlying he, Result.andThen_ok]
 simp only [beq_self_eq_true, markStringish, Sem.run_bind, hsh, Result.andThen_ok, Sem.run_pure]
 rfl

end
end Go.Px

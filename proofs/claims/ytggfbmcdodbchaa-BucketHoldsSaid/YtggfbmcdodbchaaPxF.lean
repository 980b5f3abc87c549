/- Operations that make or write memory of one's own; calls. -/
import Derived.Test.YtggfbmcdodbchaaPxE
import Derived.Laws.CopyRow
namespace Go.Px
open Go.RowKit

section
variable {w0 : World} {h0 h : Hp} {ρ : Nat → Loc} {st : St} {a : Act} {w : World} {P : Program}

/-- A new box. -/
theorem FitsAt.newBox (F : FitsAt w0 h0 h ρ st a w) (id : Nat) (vs : Array Value) (t : TypeId) (cells : List SV) (hl : vs.size = cells.length)
    (hc : ∀ (i : Nat) u c, vs[i]? = some u → cells[i]? = some c → Rep h ρ u c ∧ u.oneCell' = true) :
    FitsAt w0 h0 h (upd ρ id ⟨w.heap.size, 0, 0, 0, 0, false⟩) (st.bind id (.box cells)) a (w.alloc (.cells vs t)) := by
  have hold : ∀ b, b < w.heap.size → (w.alloc (.cells vs t)).heap[b]? = w.heap[b]? := fun b hb => Below.heap_alloc w _ b hb
  have F1 := F.world hold (F.bel.alloc F.bel.size _)
  refine F1.bind id (.box cells) _ ?_ (fun _ => F.bel.size) (fun _ i _ hi => ?_)
  · simp only [ObOK, killOb, upd_same]
    refine ⟨trivial, ⟨vs, t, by show (w.heap.push _)[_]? = _; simp, by rw [killL_length]; exact hl, fun i v c hv hc' => ?_⟩, fun o => ?_⟩
    · rw [killL_getElem?] at hc'
      cases hx : cells[i]? with
      | none => simp [hx] at hc'
      | some y =>
        simp [hx] at hc'
        subst hc'
        obtain ⟨p, q⟩ := hc i v y hv hx
        exact ⟨p.kill id (fun j hj => upd_ne ρ _ hj), q⟩
    · cases e : h w.heap.size o with
      | none => rfl
      | some v => exact absurd (F.sub.lt e) (Nat.lt_irrefl _)
  · obtain ⟨⟨o, ho⟩, hn⟩ := hi
    exact Nat.ne_of_lt (ObOK.blk_lt (F.obj i o ho) hn)

/-- A write into a box of one's own. -/
theorem FitsAt.setBox (F : FitsAt w0 h0 h ρ st a w) (id : Nat) (cells cells' : List SV) (ho : oget st.objs id = some (.box cells)) (cs' : Array Value)
    (hl : cs'.size = cells'.length) (hc : ∀ (i : Nat) u c, cs'[i]? = some u → cells'[i]? = some c → Rep h ρ u c ∧ u.oneCell' = true) :
    FitsAt w0 h0 h ρ { st with objs := oput st.objs id (.box cells') } a (w.setRow (ρ id).blk cs') := by
  have hob := F.obj id _ ho
  obtain ⟨hn, ⟨cs, t, hcs, hsz, hcell⟩, hno⟩ := hob
  have hlv : live st.objs ρ id := ⟨⟨_, ho⟩, hn⟩
  have hlive : ∀ i, live (oput st.objs id (.box cells')) ρ i → live st.objs ρ i := by
    rintro i ⟨⟨x, hx⟩, hni⟩
    rw [oget_oput] at hx
    split at hx
    · rename_i e; subst e; exact hlv
    · exact ⟨⟨x, hx⟩, hni⟩
  refine { F with tm := F.tm, sub := fun b o v e => ?_, obj := fun i o hi => ?_, inj := fun i j hi hj => F.inj i j (hlive i hi) (hlive j hj), own := fun i hi => F.own i (hlive i hi), bel := ?_ }
  · by_cases hb : b = (ρ id).blk
    · subst hb; rw [hno o] at e; cases e
    · rw [cell_setRow_other w _ cs' _ (by exact hb)]; exact F.sub b o v e
  · rw [oget_oput] at hi
    by_cases hii : id = i
    · subst hii
      rw [if_pos rfl, ho] at hi
      cases hi
      exact ⟨hn, ⟨cs', t, setRow_heap w _ cs cs' t _ hcs, hl, hc⟩, hno⟩
    · rw [if_neg hii] at hi
      have r := F.obj i o hi
      have hne : (ρ i).none = false → (ρ i).blk ≠ (ρ id).blk := fun hni => F.inj i id ⟨⟨o, hi⟩, hni⟩ hlv (Ne.symm hii)
      cases o with
      | box c2 =>
        obtain ⟨hn2, ⟨cs2, t2, hc2, hsz2, hcell2⟩, hno2⟩ := r
        exact ⟨hn2, ⟨cs2, t2, by rw [setRow_other _ _ _ _ (hne hn2)]; exact hc2, hsz2, hcell2⟩, hno2⟩
      | tip =>
        rcases r with r | ⟨⟨cs2, t2, fz, hc2, hsz2, hf⟩, hno2⟩
        · exact .inl r
        · cases hnn : (ρ i).none with
          | true => exact .inl hnn
          | false => exact .inr ⟨⟨cs2, t2, fz, by rw [setRow_other _ _ _ _ (hne hnn)]; exact hc2, hsz2, hf⟩, hno2⟩
  · have hb := F.own id hlv
    exact F.bel.trans ⟨rfl, rfl, rfl, by simp, fun k hk => setRow_other _ _ _ _ (by omega)⟩

theorem store_sound (F : FitsAt w0 h0 h ρ st a w) {t : TypeId} {id off n : Nat} {cs cs' : List SV} {v : Value} {y : SV} (ho : oget st.objs id = some (.box cs)) (hz : szT P t = some n)
    (hy : Rep h ρ v y) (hb : boxL (cellsOf y) = true) (hn : lenN (cellsOf y) = n) (hs : spliceN off (cellsOf y) cs = some cs') :
    ∃ w', (Instr.storeAt t (.pointer (some ⟨(ρ id).blk, off, none⟩)) v).run P w = .ok () w' ∧ FitsAt w0 h0 h ρ { st with objs := oput st.objs id (.box cs') } a w' ∧
      w.heap.size ≤ w'.heap.size ∧ ∀ b, b ≠ (ρ id).blk → w'.heap[b]? = w.heap[b]? := by
  obtain ⟨hn0, ⟨cur, ty, hcur, hsz, hcell⟩, hno⟩ := F.obj id _ ho
  obtain ⟨hvs, hvc⟩ := rep_cells hy hb
  obtain ⟨hle, rfl⟩ := spliceN_spec _ _ _ _ hs
  rw [lenN_eq] at hn
  have hrun := run_storeCells_at P (ρ id).blk off ty v.cells.toList 0 cur w hcur (by simp [hvs]; omega) (fun u hu => by
    obtain ⟨i, hi, e⟩ := List.mem_iff_getElem.1 hu
    have hi' : i < v.cells.size := by simpa using hi
    have hlt : i < (cellsOf y).length := by omega
    exact (hvc i u _ (by rw [Array.getElem?_eq_getElem hi']; simp at e; rw [e]) (List.getElem?_eq_getElem hlt)).2)
  refine ⟨_, ?_, F.setBox id cs _ ho (cur.toList.take (off + 0) ++ v.cells.toList ++ cur.toList.drop (off + 0 + v.cells.toList.length)).toArray ?_ ?_, by simp, fun b hb => setRow_other _ _ _ _ hb⟩
  · simp only [Instr.storeAt, Instr.sureAddr, storeVar, Sem.run_bind, Sem.run_pure, Result.andThen_ok, run_sizeOf' w hz]
    have : ¬ (v.cells.size ≠ n) := by rw [hvs, hn]; simp
    simp only [this, if_false]
    exact hrun
  · simp [hvs]; omega
  · intro i u c hu hc
    simp only [List.getElem?_toArray, Nat.add_zero, Array.length_toList] at hu
    rw [List.getElem?_append] at hu hc
    have l1 : (List.take off cur.toList ++ v.cells.toList).length = off + (cellsOf y).length := by simp [hvs]; omega
    have l2 : (List.take off cs ++ cellsOf y).length = off + (cellsOf y).length := by simp; omega
    rw [l1] at hu; rw [l2] at hc
    by_cases h1 : i < off + (cellsOf y).length
    · rw [if_pos h1] at hu hc
      rw [List.getElem?_append] at hu hc
      have l3 : (List.take off cur.toList).length = off := by simp; omega
      have l4 : (List.take off cs).length = off := by simp; omega
      rw [l3] at hu; rw [l4] at hc
      by_cases h2 : i < off
      · rw [if_pos h2] at hu hc
        rw [List.getElem?_take, if_pos h2] at hu hc
        exact hcell i u c (by simpa using hu) hc
      · rw [if_neg h2] at hu hc
        exact hvc _ u c (by simpa using hu) hc
    · rw [if_neg h1] at hu hc
      rw [List.getElem?_drop] at hu hc
      rw [hvs] at hu
      exact hcell _ u c (by simpa using hu) hc

end
end Go.Px

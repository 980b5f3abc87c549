/- The conditions of operations are sound. -/
import Derived.Test.YtknnooannohflaaGreatDoorPxO
namespace Go.Px
open Go.RowKit
set_option linter.unusedVariables false

section
variable {X : Cx} {h : Hp} {ρ : Nat → Loc} {st : St} {a : Act} {w : World} {P : Program}

theorem frz_sub {st : St} {id i : Nat} {o : Ob} (e : oget (st.frz id).objs i = some o) : ∃ o', oget st.objs i = some o' := by
  unfold St.frz at e
  split at e
  · obtain ⟨o', e', _⟩ := oget_hmapO_some e
    exact ⟨o', (oget_odel_some e').2⟩
  · exact ⟨o, e⟩

theorem frzAll_sub : ∀ (ids : List Nat) {st : St} {i : Nat} {o : Ob}, oget (St.frzAll ids st).objs i = some o → ∃ o', oget st.objs i = some o'
  | [], st, i, o, e => ⟨o, e⟩
  | id :: ids, st, i, o, e => by
    obtain ⟨o', e'⟩ := frzAll_sub ids e
    exact frz_sub e'

def Touched (Sg : FuncId → Sig) (Sv : TypeId → Sig) (st : St) (ρ : Nat → Loc) (o : Oper) (b : Nat) : Prop :=
  ∀ tids, touch Sg Sv st o = some tids → ∃ id ∈ tids, live st.objs ρ id ∧ (ρ id).blk = b

theorem not_touched {Sg : FuncId → Sig} {Sv : TypeId → Sig} {o : Oper} {b : Nat} (h : ¬ Touched Sg Sv st ρ o b) : ∃ tids, touch Sg Sv st o = some tids ∧ ∀ id ∈ tids, live st.objs ρ id → (ρ id).blk ≠ b := by
  unfold Touched at h
  cases e : touch Sg Sv st o with
  | none => exact absurd (fun tids e' => by rw [e] at e'; cases e') h
  | some tids => exact ⟨tids, rfl, fun id hm hl eb => h fun tids' e' => by rw [e] at e'; cases e'; exact ⟨id, hm, hl, eb⟩⟩

/-- What comes of an operation that makes or writes memory, or calls. -/
def After (X : Cx) (K : St → Prop) (o : Oper) (a : Act) (w : World) (T : Nat → Prop) (a' : Act) (w' : World) : Prop :=
  Goes X K a' w' ∧ (∃ u, a' = a.put o.dst u) ∧ w.heap.size ≤ w'.heap.size ∧ ∀ b, b < w.heap.size → ¬ T b → w'.heap[b]? = w.heap[b]?

theorem idOK_lt {id : Nat} (h : id < 1048576) : idOK id = true := by
  have : Nat.blt id 1048576 = true := Nat.ble_eq_true_of_le (by omega)
  simp [idOK, this]

theorem dst_id {d k : Nat} (h : dstOK (some d) = true) (hk : k < 128) : idOK (128 * d + k) = true := by
  simp only [dstOK] at h
  have := Nat.le_of_ble_eq_true h
  exact idOK_lt (by omega)

/-- The first values that are copied. -/
theorem copyN_get {kd : IntKind} {n : Int} {rows : List (List SV)} {K : List SV → Prop} : ∀ (m : Nat) (acc : List SV), copyN kd n rows K m acc → (acc.length : Int) ≤ n → n ≤ (acc.length : Int) + m →
    (∀ (j : Nat) c, acc[j]? = some c → (∃ x, c = .val (.int kd x)) ∧ rget rows (Int.ofNat j) = [c]) →
    ∃ acc', K acc' ∧ (acc'.length : Int) = n ∧ ∀ (j : Nat) c, acc'[j]? = some c → (∃ x, c = .val (.int kd x)) ∧ rget rows (Int.ofNat j) = [c]
  | 0, acc, hc, h1, h2, hg => ⟨acc, hc, by omega, hg⟩
  | m + 1, acc, hc, h1, h2, hg => by
    simp only [copyN, lenN_eq] at hc
    by_cases he : n = Int.ofNat acc.length
    · exact ⟨acc, hc.1 he, by rw [he]; rfl, hg⟩
    · obtain ⟨x, hx, hrest⟩ := hc.2 (by simp only [Int.ofNat_eq_natCast] at he ⊢; omega)
      refine copyN_get m _ hrest (by simp only [Int.ofNat_eq_natCast] at he; simp; omega) (by simp; omega) (fun j c hj => ?_)
      rw [List.getElem?_append] at hj
      split at hj
      · exact hg j c hj
      · rename_i hlt
        have hjl : j = acc.length := by
          have := (List.getElem?_eq_some_iff.1 hj).1
          simp at this; omega
        subst hjl
        simp at hj
        subst hj
        exact ⟨⟨x, rfl⟩, hx⟩

theorem copy_box (F : FitsAt X h ρ st a w) {t1 t2 e ty : TypeId} {id off m : Nat} {cs cs' acc : List SV} {vy : Value} {y : SV} {sz' : Nat} {ys : List (List SV)} (hu : P.underlying t1 = some (.slice e)) (hz : szT P e = some 1) (ho : oget st.objs id = some (.box cs))
    (hro : rowsOf st.objs y = some (sz', ys)) (hry : Rep h ρ vy y) {kd : IntKind} (hacc : ∀ (j : Nat) c, acc[j]? = some c → (∃ x, c = .val (.int kd x)) ∧ rget ys (Int.ofNat j) = [c]) (hal : acc.length = min ys.length m) (hsp : spliceN off acc cs = some cs') :
    ∃ w', (Builtin.copy_ #[t1, t2] ty #[.slice (some ⟨(ρ id).blk, off, none⟩) m m, vy]).run P w = .ok (goInt acc.length) w' ∧ FitsAt X h ρ { st with objs := oput st.objs id (.box cs') } a w' ∧
      w.heap.size ≤ w'.heap.size ∧ ∀ b, b ≠ (ρ id).blk → w'.heap[b]? = w.heap[b]? := by
  obtain ⟨hn0, ⟨cur, tc, hcur, hsz, hcell⟩, hno⟩ := F.obj id _ ho
  obtain ⟨p, cap, rfl, hp⟩ := rowsOf_cells F hry hro
  obtain ⟨hle, rfl⟩ := spliceN_spec _ _ _ _ hsp
  obtain ⟨i, hi, hi1⟩ := szT_some hz
  let vals : List Value := acc.map fun c => match c with | .val v => v | _ => undef
  have hvl : vals.length = acc.length := by simp [vals]
  have hval : ∀ (j : Nat) v, vals[j]? = some v → ∃ x, v = .int kd x ∧ acc[j]? = some (.val (.int kd x)) := fun j v hv => by
    simp only [vals, List.getElem?_map] at hv
    cases hc : acc[j]? with
    | none => simp [hc] at hv
    | some c =>
      obtain ⟨⟨x, rfl⟩, _⟩ := hacc j c hc
      simp [hc] at hv
      exact ⟨x, hv.symm, rfl⟩
  have hone : ∀ v ∈ vals, v.oneCell' = true := fun v hv => by
    obtain ⟨j, hj, e⟩ := List.mem_iff_getElem.1 hv
    obtain ⟨x, rfl, _⟩ := hval j v (by rw [List.getElem?_eq_getElem hj, e])
    rfl
  have fin : ∀ w', w' = w.setRow (ρ id).blk (cur.toList.take off ++ vals ++ cur.toList.drop (off + vals.length)).toArray → FitsAt X h ρ { st with objs := oput st.objs id (.box (cs.take off ++ acc ++ cs.drop (off + acc.length))) } a w' ∧ w.heap.size ≤ w'.heap.size ∧ ∀ b, b ≠ (ρ id).blk → w'.heap[b]? = w.heap[b]? := by
    intro w' hw
    subst hw
    refine ⟨F.setOb id (.box cs) _ _ ho hn0 ⟨hn0, ⟨_, tc, setRow_heap w _ cur _ tc _ hcur, by simp [hvl]; omega, fun k u c hu hc => ?_⟩, hno⟩ (fun b hb => setRow_other _ _ _ _ hb) (keeps_setRow _ _ _), by simp, fun b hb => setRow_other _ _ _ _ hb⟩
    simp only [List.getElem?_toArray] at hu
    rw [List.append_assoc, List.getElem?_append] at hu hc
    have l1 : (List.take off cur.toList).length = off := by simp; omega
    have l2 : (List.take off cs).length = off := by simp; omega
    rw [l1] at hu; rw [l2] at hc
    by_cases c1 : k < off
    · rw [if_pos c1, List.getElem?_take, if_pos c1] at hu hc
      exact hcell k u c (by simpa using hu) hc
    · rw [if_neg c1, List.getElem?_append] at hu hc
      rw [hvl] at hu
      by_cases c2 : k - off < acc.length
      · rw [if_pos c2] at hu hc
        obtain ⟨x, rfl, e⟩ := hval _ u hu
        rw [e] at hc; cases hc
        exact ⟨.pure _ _ (.val _), rfl⟩
      · rw [if_neg c2, List.getElem?_drop] at hu hc
        exact hcell _ u c (by simpa using hu) hc
  by_cases h0 : 0 < ys.length
  · obtain ⟨b, o2, rfl, hsp', hrow, hc⟩ := hp h0
    have hs1 : sz' = 1 ∨ acc = [] := by
      cases hacc0 : acc with
      | nil => exact .inr rfl
      | cons c cs0 =>
        left
        obtain ⟨_, hr0⟩ := hacc 0 c (by rw [hacc0]; rfl)
        have hh : ys[0]? = some [c] := by
          rw [List.getElem?_eq_getElem h0]
          have : rget ys (Int.ofNat 0) = ys[0] := by simp [rget, h0]
          rw [← this, hr0]
        have := hrow 0 _ hh
        simpa using this.symm
    refine ⟨_, run_copy_row P w t1 t2 ty e (ρ id).blk off m m ⟨b, o2, none⟩ ys.length cap cur tc vals hu (by simp [hi, hi1]) hcur (by rw [hvl]; exact hal) (fun j v hv => ?_) (by rw [hvl]; omega) hone |>.trans (by rw [hvl]), fin _ rfl⟩
    obtain ⟨x, rfl, e⟩ := hval j v hv
    have hjl : j < ys.length := by have := (List.getElem?_eq_some_iff.1 e).1; omega
    obtain ⟨_, hr0⟩ := hacc j _ e
    have hh : ys[j]? = some [.val (.int kd x)] := by
      rw [List.getElem?_eq_getElem hjl]
      have : rget ys (Int.ofNat j) = ys[j] := by simp [rget, hjl]
      rw [← this, hr0]
    obtain ⟨v', q1, q2, _⟩ := hc j _ 0 _ hh rfl
    cases q2
    rw [add_mk]
    rcases hs1 with rfl | hnil
    · simpa using q1
    · rw [hnil] at e; simp at e
  · have hys : ys = [] := by cases ys with
      | nil => rfl
      | cons => simp at h0
    subst hys
    have hacc0 : acc = [] := List.eq_nil_of_length_eq_zero (by rw [hal]; simp)
    subst hacc0
    have hw : w = w.setRow (ρ id).blk (cur.toList.take off ++ vals ++ cur.toList.drop (off + vals.length)).toArray := by
      have : (cur.toList.take off ++ vals ++ cur.toList.drop (off + vals.length)).toArray = cur := by simp [vals]
      rw [this, setRow_self w _ cur tc _ hcur]
    refine ⟨w, ?_, fin w hw⟩
    cases p with
    | none =>
      have hs : ((P.info? e).map (·.size)).isSome = true := by simp [hi]
      have := run_copy_nil P w t1 t2 ty e ⟨(ρ id).blk, off, none⟩ m m hu hs
      have hcap : ∀ c, (Builtin.copy_ #[t1, t2] ty #[.slice (some ⟨(ρ id).blk, off, none⟩) m m, .slice none 0 c]).run P w = .ok (goInt 0) w := by
        intro c
        simp [Builtin.copy_, run_underlying hu, Builtin.lenOf, Builtin.firstCells, sizeOf, typeInfo, hi, storeCells]
      simpa using hcap cap
    | some ad =>
      simp [Builtin.copy_, run_underlying hu, Builtin.lenOf, Builtin.firstCells, sizeOf, typeInfo, hi, storeCells, loadCells, loadCellsFrom]

/-- Each part of a slice that is written out stands in its rows. -/
theorem buildRows_all {z : List SV} {parts : List (Nat × SV)} {len : Nat} {rows : List (List SV)} (hr : buildRows z parts len 0 = some rows) (hlt : ∀ p ∈ parts, p.1 < len) (hn : (parts.map (·.1)).Nodup) : ∀ p ∈ parts, ∃ s, pureArg p.2 = some s ∧ (cellsOf s).length = z.length := by
  intro p hp
  obtain ⟨hl, hg⟩ := buildRows_spec z parts len 0 rows hr
  have hk : p.1 < rows.length := by rw [hl]; exact hlt p hp
  obtain ⟨h1, h2⟩ := hg p.1 _ (List.getElem?_eq_getElem hk)
  rw [Nat.zero_add] at h2
  have hf : parts.find? (fun q => Nat.beq q.1 p.1) = some p := by
    clear hg hl hr hlt h1 h2 hk
    induction parts with
    | nil => simp at hp
    | cons q qs ih =>
      simp only [List.map_cons, List.nodup_cons] at hn
      rw [List.find?_cons]
      rcases List.mem_cons.1 hp with rfl | hp
      · simp
      · have hne : q.1 ≠ p.1 := fun e => hn.1 (by rw [e]; exact List.mem_map_of_mem (f := (·.1)) hp)
        simp only [beq_false hne]
        exact ih hn.2 hp
  rw [hf] at h2
  obtain ⟨s, e1, e2⟩ := h2
  exact ⟨s, e1, by rw [← e2]; exact h1⟩

theorem valsOf_sound {h : Hp} {ρ : Nat → Loc} {st : St} {a : Act} (hsv : ∀ x, Rep h ρ (a.eval x) (st.val x)) : ∀ (xs : List Operand) (vs : List Value), valsOf (xs.map st.val) = some vs → vs = xs.map a.eval
  | [], vs, e => by simp [valsOf] at e; simp [e]
  | x :: xs, vs, e => by
    have hx := hsv x
    simp only [List.map_cons] at e ⊢
    generalize st.val x = s at e hx
    cases s with
    | val v =>
      simp only [valsOf] at e
      split at e
      · rename_i us hu
        cases e
        rw [← valsOf_sound hsv xs us hu, hx.val_inv]
      · cases e
    | _ => simp [valsOf] at e

theorem zeroL_spec {kd : IntKind} : ∀ (m : Nat) (zs : List SV), zeroL kd m zs = true → zs = (azero m).map fun x => SV.val (.int kd x)
  | 0, [], _ => rfl
  | 0, _ :: _, h => by simp [zeroL] at h
  | m + 1, [], h => by simp [zeroL] at h
  | m + 1, z :: zs, h => by
    unfold zeroL at h
    split at h
    · simp_all
    · rename_i m' kd' zs' e1 e2
      cases e1
      cases e2
      simp only [Bool.and_eq_true, decide_eq_true_eq] at h
      obtain ⟨rfl, h2⟩ := h
      have := zeroL_spec m _ h2
      rw [this]
      simp [azero, List.replicate_succ]
    · cases h

/-- A new long array. -/
theorem newArr (F : FitsAt X h ρ st a w) (id : Nat) (hid : idOK id = true) (vs : Array Value) (t : TypeId) (kd : IntKind) (m : Nat) (ns : List Int) (hm : ns.length = m) (hv : vs.toList = ns.map (Value.int kd)) :
    FitsAt X h (upd ρ id ⟨w.heap.size, 0, 0, 0, 0, false⟩) (st.bind id (.arr kd m ns)) a (w.alloc (.cells vs t)) :=
  F.newOwn id hid (.arr kd m ns) _ (keeps_alloc w _) (by simp) (fun _ => Nat.le_refl _)
    ⟨by rw [upd_same], ⟨vs, t, by rw [upd_same]; show (w.heap.push _)[_]? = _; simp, hm, hv⟩, fun o => by rw [upd_same]; exact hnew_blk F.sub o _ (Nat.le_refl _)⟩

/-- A number is stored in a long array. -/
theorem arr_store (F : FitsAt X h ρ st a w) {t : TypeId} {id m : Nat} {kd : IntKind} {ns : List Int} {i v : Int} (ho : oget st.objs id = some (.arr kd m ns)) (hz : szT P t = some 1) (h0 : 0 ≤ i) (h1 : i < Int.ofNat m) :
    ∃ w', (Instr.storeAt t (.pointer (some ⟨(ρ id).blk, i.toNat, none⟩)) (.int kd v)).run P w = .ok () w' ∧ FitsAt X h ρ { st with objs := oput st.objs id (.arr kd m (aset ns i v)) } a w' ∧
      w.heap.size ≤ w'.heap.size ∧ ∀ b, b ≠ (ρ id).blk → w'.heap[b]? = w.heap[b]? := by
  obtain ⟨hn0, ⟨cur, ty, hcur, hm, hv⟩, hno⟩ := F.obj id _ ho
  have hlt : i.toNat < ns.length := by simp at h1; omega
  have hsz : cur.size = ns.length := by have := congrArg List.length hv; simpa using this
  have hrun := run_storeCells_at P (ρ id).blk i.toNat ty [.int kd v] 0 cur w hcur (by simp; omega) (fun u hu => by simp at hu; subst hu; rfl)
  refine ⟨_, ?_, F.setOb id (.arr kd m ns) (.arr kd m (aset ns i v)) (w.setRow (ρ id).blk (cur.toList.take (i.toNat + 0) ++ [Value.int kd v] ++ cur.toList.drop (i.toNat + 0 + [Value.int kd v].length)).toArray) ho hn0 ⟨hn0, ⟨_, ty, setRow_heap w _ cur _ ty _ hcur, by simp [aset]; exact hm, ?_⟩, hno⟩
    (fun b hb => setRow_other _ _ _ _ hb) (keeps_setRow _ _ _), by simp, fun b hb => setRow_other _ _ _ _ hb⟩
  · simp only [Instr.storeAt, Instr.sureAddr, storeVar, Sem.run_bind, Sem.run_pure, Result.andThen_ok, run_sizeOf' w hz]
    have : ¬ ((Value.int kd v).cells.size ≠ 1) := by simp [Value.cells]
    simp only [this, if_false]
    have hcs : (Value.int kd v).cells.toList = [.int kd v] := by simp [Value.cells]
    rw [hcs]
    exact hrun
  · rw [hv]
    simp only [List.length_cons, List.length_nil, Nat.add_zero, aset]
    rw [List.set_eq_take_append_cons_drop]
    simp [hlt, List.map_take, List.map_drop]

/-- A long array is stored. -/
theorem arr_put (F : FitsAt X h ρ st a w) {t : TypeId} {id m n : Nat} {kd : IntKind} {ns ns' : List Int} {vs : Array Value} (ho : oget st.objs id = some (.arr kd m ns)) (hz : szT P t = some n) (hn : n = m) (hm : ns'.length = m) (hvs : vs.toList = ns'.map (Value.int kd)) :
    ∃ w', (Instr.storeAt t (.pointer (some ⟨(ρ id).blk, 0, none⟩)) (.agg vs)).run P w = .ok () w' ∧ FitsAt X h ρ { st with objs := oput st.objs id (.arr kd m ns') } a w' ∧
      w.heap.size ≤ w'.heap.size ∧ ∀ b, b ≠ (ρ id).blk → w'.heap[b]? = w.heap[b]? := by
  obtain ⟨hn0, ⟨cur, ty, hcur, hm0, hv⟩, hno⟩ := F.obj id _ ho
  have hsz : cur.size = ns.length := by have := congrArg List.length hv; simpa using this
  have hsz2 : vs.size = m := by have := congrArg List.length hvs; simp at this; omega
  have hrun := run_storeCells_at P (ρ id).blk 0 ty vs.toList 0 cur w hcur (by simp; omega) (fun u hu => by
    rw [hvs] at hu
    obtain ⟨x, _, rfl⟩ := List.mem_map.1 hu
    rfl)
  refine ⟨_, ?_, F.setOb id (.arr kd m ns) (.arr kd m ns') (w.setRow (ρ id).blk (cur.toList.take (0 + 0) ++ vs.toList ++ cur.toList.drop (0 + 0 + vs.toList.length)).toArray) ho hn0 ⟨hn0, ⟨_, ty, setRow_heap w _ cur _ ty _ hcur, hm, ?_⟩, hno⟩
    (fun b hb => setRow_other _ _ _ _ hb) (keeps_setRow _ _ _), by simp, fun b hb => setRow_other _ _ _ _ hb⟩
  · simp only [Instr.storeAt, Instr.sureAddr, storeVar, Sem.run_bind, Sem.run_pure, Result.andThen_ok, run_sizeOf' w hz]
    have : ¬ ((Value.agg vs).cells.size ≠ n) := by simp [Value.cells]; omega
    simp only [this, if_false]
    exact hrun
  · have hd : cur.toList.drop (0 + 0 + vs.toList.length) = [] := List.drop_eq_nil_of_le (by simp; omega)
    rw [hd]
    simpa using hvs

theorem loud_sound (F : FitsAt X h ρ st a w) (Sg : FuncId → Sig) (Sv : TypeId → Sig) (o : Oper) (K : St → Prop) (hx : loudC P Sg Sv o st K) (Q : Exit → Act → World → Prop) : o.wp P a w (After X K o a w (Touched Sg Sv st ρ o)) Q := by
  have hsv := F.val
  unfold loudC at hx
  cases hdst : dstOK o.dst with
  | false => simp [hdst] at hx
  | true =>
  simp only [hdst, cond_true] at hx
  split at hx
  · rename_i t heq
    split at hx
    · rename_i kd m hbig
      unfold arrAlloc at hx
      split at hx
      · rename_i zs d hz hd
        rw [hd] at hdst
        cases hzl : zeroL kd m zs with
        | false => simp only [hzl, cond_false] at hx
        | true =>
          simp only [hzl, cond_true] at hx
          obtain ⟨v, hv, r, hb⟩ := zeroSV_sound (h := h) (ρ := ρ) hz
          have hzs := zeroL_spec m zs hzl
          obtain ⟨vs, rfl, hs, hcv⟩ := r.agg_inv'
          have hvl := vals_list (h := h) (ρ := ρ) (kd := kd) (ns := azero m) (vs := vs) (by rw [hs, hzs]; simp) (fun i v c h1 h2 => hcv i v c h1 (by rw [hzs]; exact h2))
          have F1 := (newArr F (128 * d) (by simpa using dst_id hdst (k := 0) (by omega)) vs t kd m (azero m) (by simp [azero]) hvl).put o.dst (TRep.of_rep' (v := .pointer (some ⟨w.heap.size, 0, none⟩)) (s := .ptr (128 * d) 0) (by
            have := Rep.ptr (h := h) (ρ := upd ρ (128 * d) ⟨w.heap.size, 0, 0, 0, 0, false⟩) (128 * d) 0
            rwa [upd_same] at this))
          have hrun : (execOp a.eval o).run P w = .ok (.value (.pointer (some ⟨w.heap.size, 0, none⟩))) (w.alloc (.cells vs t)) := by
            simp [execOp, heq, Instr.alloc, hv, newVar, newRow, Value.cells]
          unfold Oper.wp
          rw [hrun]
          exact ⟨⟨_, ⟨h, _, F1⟩, hx⟩, ⟨_, rfl⟩, by show _ ≤ (w.heap.push _).size; simp, fun b hb _ => Below.heap_alloc w _ b hb⟩
      · exact hx.elim
    split at hx
    · rename_i z d hz hd
      rw [hd] at hdst
      obtain ⟨v, hv, r, hb⟩ := zeroSV_sound (h := h) (ρ := ρ) hz
      obtain ⟨hl, hc⟩ := rep_cells r hb
      have F1 := (F.newBox (128 * d) (by simpa using dst_id hdst (k := 0) (by omega)) v.cells t (cellsOf z) hl hc).put o.dst (TRep.of_rep' (v := .pointer (some ⟨w.heap.size, 0, none⟩)) (s := .ptr (128 * d) 0) (by
        have := Rep.ptr (h := h) (ρ := upd ρ (128 * d) ⟨w.heap.size, 0, 0, 0, 0, false⟩) (128 * d) 0
        rwa [upd_same] at this))
      have hrun : (execOp a.eval o).run P w = .ok (.value (.pointer (some ⟨w.heap.size, 0, none⟩))) (w.alloc (.cells v.cells t)) := by
        simp [execOp, heq, Instr.alloc, hv, newVar, newRow]
      unfold Oper.wp
      rw [hrun]
      exact ⟨⟨_, ⟨h, _, F1⟩, hx⟩, ⟨_, rfl⟩, by show _ ≤ (w.heap.push _).size; simp, fun b hb _ => Below.heap_alloc w _ b hb⟩
    · exact hx.elim
  · rename_i t x heq
    split at hx
    · rename_i kd m ns har
      have hxs : st.val x = .arr kd m ns := by
        unfold arrOf at har
        split at har
        · rename_i hh; cases har; exact hh
        · cases har
      unfold arrBox at hx
      split at hx
      · rename_i d hd
        rw [hd] at hdst
        have hrx := hsv x
        rw [hxs] at hrx
        obtain ⟨vs, hvx, hm, hvl⟩ := hrx.arr_inv
        have F1 := (newArr F (128 * d) (by simpa using dst_id hdst (k := 0) (by omega)) vs t kd m ns hm hvl).put o.dst (TRep.of_rep' (v := .pointer (some ⟨w.heap.size, 0, none⟩)) (s := .ptr (128 * d) 0) (by
          have := Rep.ptr (h := h) (ρ := upd ρ (128 * d) ⟨w.heap.size, 0, 0, 0, 0, false⟩) (128 * d) 0
          rwa [upd_same] at this))
        have hrun : (execOp a.eval o).run P w = .ok (.value (.pointer (some ⟨w.heap.size, 0, none⟩))) (w.alloc (.cells vs t)) := by
          simp [execOp, heq, hvx, Instr.box, newVar, newRow, Value.cells]
        unfold Oper.wp
        rw [hrun]
        exact ⟨⟨_, ⟨h, _, F1⟩, hx⟩, ⟨_, rfl⟩, by show _ ≤ (w.heap.push _).size; simp, fun b hb _ => Below.heap_alloc w _ b hb⟩
      · exact hx.elim
    split at hx
    · rename_i d hd
      rw [hd] at hdst
      cases hb : boxL (cellsOf (st.val x)) with
      | false => simp [hb] at hx
      | true =>
        simp only [hb, cond_true] at hx
        obtain ⟨hl, hc⟩ := rep_cells (hsv x) hb
        have F1 := (F.newBox (128 * d) (by simpa using dst_id hdst (k := 0) (by omega)) (a.eval x).cells t (cellsOf (st.val x)) hl hc).put o.dst (TRep.of_rep' (v := .pointer (some ⟨w.heap.size, 0, none⟩)) (s := .ptr (128 * d) 0) (by
          have := Rep.ptr (h := h) (ρ := upd ρ (128 * d) ⟨w.heap.size, 0, 0, 0, 0, false⟩) (128 * d) 0
          rwa [upd_same] at this))
        have hrun : (execOp a.eval o).run P w = .ok (.value (.pointer (some ⟨w.heap.size, 0, none⟩))) (w.alloc (.cells (a.eval x).cells t)) := by
          simp [execOp, heq, Instr.box, newVar, newRow]
        unfold Oper.wp
        rw [hrun]
        exact ⟨⟨_, ⟨h, _, F1⟩, hx⟩, ⟨_, rfl⟩, by show _ ≤ (w.heap.push _).size; simp, fun b hb _ => Below.heap_alloc w _ b hb⟩
    · exact hx.elim
  · rename_i t x y heq
    split at hx
    rotate_left
    · rename_i id i hxs hz
      unfold arrStore at hx
      split at hx
      · rename_i kd m ns kd' v ho hys
        by_cases hk : kd = kd'
        · subst hk
          simp only [decide_true, cond_true] at hx
          obtain ⟨⟨h0, h1⟩, hx⟩ := hx
          have hrx := hsv x
          rw [hxs] at hrx
          have hpx := hrx.aptr_inv
          have hry := hsv y
          rw [hys] at hry
          obtain ⟨w', hrun, F1, hsz, hoth⟩ := arr_store (P := P) (t := t) (v := v) F ho hz h0 h1
          have hrun' : (execOp a.eval o).run P w = .ok .skip w' := by
            simp [execOp, heq, hpx, hry.val_inv, hrun]
          unfold Oper.wp
          rw [hrun']
          refine ⟨⟨_, ⟨h, ρ, F1.put o.dst (TRep.rep_unk _ _)⟩, hx⟩, ⟨_, rfl⟩, hsz, fun b _ hne => hoth b (fun e => ?_)⟩
          obtain ⟨tids, e1, e2⟩ := not_touched hne
          simp only [touch, heq, hxs] at e1
          cases e1
          exact e2 id (by simp) ⟨⟨_, ho⟩, (F.obj id _ ho).1⟩ e.symm
        · simp [hk] at hx
      · rename_i cs kd v ho hys
        split at hx
        · rename_i ns hns
          obtain ⟨⟨h0, h1⟩, hx⟩ := hx
          have hcs := intsOf_eq hns
          subst hcs
          have hrx := hsv x
          rw [hxs] at hrx
          have hpx := hrx.aptr_inv
          have hry := hsv y
          have h1 : i < ns.length := by rw [lenN_eq] at h1; simpa using h1
          obtain ⟨w', hrun, F1, hsz, hoth⟩ := store_sound F ho hz hry (by rw [hys]; rfl) (by rw [hys]; rfl) (by rw [hys]; exact puts_splice kd i v ns h0 h1)
          have hrun' : (execOp a.eval o).run P w = .ok .skip w' := by
            simp [execOp, heq, hpx, hrun]
          unfold Oper.wp
          rw [hrun']
          refine ⟨⟨_, ⟨h, ρ, F1.put o.dst (TRep.rep_unk _ _)⟩, hx⟩, ⟨_, rfl⟩, hsz, fun b _ hne => hoth b (fun e => ?_)⟩
          obtain ⟨tids, e1, e2⟩ := not_touched hne
          simp only [touch, heq, hxs] at e1
          cases e1
          exact e2 id (by simp) ⟨⟨_, ho⟩, (F.obj id _ ho).1⟩ e.symm
        · exact hx.elim
      · exact hx.elim
    rotate_right
    · rename_i id off n hxs hz
      split at hx
      · rename_i cs ho
        cases hb : (boxL (cellsOf (st.val y)) && Nat.beq (lenN (cellsOf (st.val y))) n) with
        | false => simp [hb] at hx
        | true =>
          simp only [hb, cond_true] at hx
          simp only [Bool.and_eq_true] at hb
          split at hx
          · rename_i cs' hsp
            have hrx := hsv x
            rw [hxs] at hrx
            have hpx := hrx.ptr_inv
            obtain ⟨w', hrun, F1, hsz, hoth⟩ := store_sound F ho hz (hsv y) hb.1 (Nat.eq_of_beq_eq_true hb.2) hsp
            have hrun' : (execOp a.eval o).run P w = .ok .skip w' := by
              simp [execOp, heq, hpx, hrun]
            unfold Oper.wp
            rw [hrun']
            refine ⟨⟨_, ⟨h, ρ, F1.put o.dst (TRep.rep_unk _ _)⟩, hx⟩, ⟨_, rfl⟩, hsz, fun b _ hne => hoth b (fun e => ?_)⟩
            obtain ⟨tids, e1, e2⟩ := not_touched hne
            simp only [touch, heq, hxs] at e1
            cases e1
            exact e2 id (by simp) ⟨⟨_, ho⟩, (F.obj id _ ho).1⟩ e.symm
          · exact hx.elim
      · rename_i kd m ns ho
        unfold arrPut at hx
        split at hx
        · rename_i kd' m' ns' hys
          cases hb : (decide (kd = kd') && Nat.beq m m' && Nat.beq off 0 && Nat.beq n m) with
          | false => simp only [hb, cond_false] at hx
          | true =>
            simp only [hb, cond_true] at hx
            simp only [Bool.and_eq_true, decide_eq_true_eq] at hb
            obtain ⟨⟨⟨rfl, b1⟩, b2⟩, b3⟩ := hb
            have h1 : m = m' := Nat.eq_of_beq_eq_true b1
            have h2 : off = 0 := Nat.eq_of_beq_eq_true b2
            have h3 : n = m := Nat.eq_of_beq_eq_true b3
            subst h1 h2
            have hrx := hsv x
            rw [hxs] at hrx
            have hpx := hrx.ptr_inv
            have hry := hsv y
            rw [hys] at hry
            obtain ⟨vs, hvy, hm, hvl⟩ := hry.arr_inv
            obtain ⟨w', hrun, F1, hsz, hoth⟩ := arr_put (P := P) (t := t) F ho hz h3 hm hvl
            have hrun' : (execOp a.eval o).run P w = .ok .skip w' := by
              simp [execOp, heq, hpx, hvy, hrun]
            unfold Oper.wp
            rw [hrun']
            refine ⟨⟨_, ⟨h, ρ, F1.put o.dst (TRep.rep_unk _ _)⟩, hx⟩, ⟨_, rfl⟩, hsz, fun b _ hne => hoth b (fun e => ?_)⟩
            obtain ⟨tids, e1, e2⟩ := not_touched hne
            simp only [touch, heq, hxs] at e1
            cases e1
            exact e2 id (by simp) ⟨⟨_, ho⟩, (F.obj id _ ho).1⟩ e.symm
        · exact hx.elim
      · exact hx.elim
    · rename_i id e i off n hxs hz
      split at hx
      · rename_i sz rows z s ho hze hs
        cases hb : (Nat.beq z sz && Nat.beq (lenN (cellsOf s)) n) with
        | false => simp [hb] at hx
        | true =>
          simp only [hb, cond_true] at hx
          simp only [Bool.and_eq_true] at hb
          have hzs : z = sz := Nat.eq_of_beq_eq_true hb.1
          subst hzs
          have hcl : (cellsOf s).length = n := by rw [← lenN_eq]; exact Nat.eq_of_beq_eq_true hb.2
          obtain ⟨⟨h0, h1⟩, hx⟩ := hx
          obtain ⟨h', hle, F'⟩ := F.pureOps [y]
          have hrx := hsv x
          rw [hxs] at hrx
          obtain ⟨hn0, hpx⟩ := hrx.eptr_inv
          have fin : ∀ cs cs', rows[i.toNat]? = some cs → spliceN off (cellsOf s) cs = some cs' → K (({ pureOps [y] st with objs := oput (pureOps [y] st).objs id (.own z (rset rows i cs')) } : St).put o.dst .unk) →
              o.wp P a w (After X K o a w (Touched Sg Sv st ρ o)) Q := by
            intro cs cs' hrow hsp hk
            obtain ⟨w', hrun, F1, hsz, hoth⟩ := own_store F' ho hz (F'.val y) hs hcl h0 h1 hrow hsp hn0
            have hrun' : (execOp a.eval o).run P w = .ok .skip w' := by
              simp [execOp, heq, hpx, hrun]
            unfold Oper.wp
            rw [hrun']
            refine ⟨⟨_, ⟨h', ρ, F1.put o.dst (TRep.rep_unk _ _)⟩, hk⟩, ⟨_, rfl⟩, hsz, fun b _ hne => hoth b (fun e => ?_)⟩
            obtain ⟨tids, e1, e2⟩ := not_touched hne
            simp only [touch, heq, hxs] at e1
            cases e1
            exact e2 id (by simp) ⟨frzAll_sub _ ho, hn0⟩ e.symm
          cases hfull : (Nat.beq n z && Nat.beq off 0) with
          | true =>
            simp only [hfull, cond_true] at hx
            simp only [Bool.and_eq_true] at hfull
            have hnz := Nat.eq_of_beq_eq_true hfull.1
            have hoff := Nat.eq_of_beq_eq_true hfull.2
            subst hoff
            have hit : i.toNat < rows.length := by simp only [rlen] at h1; simp at h1; omega
            have hrl : (rows[i.toNat]).length = z := by
              rcases F'.obj id _ ho with ⟨hn', _⟩ | ⟨_, ok⟩
              · rw [hn0] at hn'; cases hn'
              · exact ok.hrow _ _ (List.getElem?_eq_getElem hit)
            have hspl : ∀ (vs l : List SV), vs.length = l.length → spliceN 0 vs l = some vs := by
              intro vs
              induction vs with
              | nil => intro l e; cases l with
                | nil => rfl
                | cons => simp at e
              | cons v vs ih => intro l e; cases l with
                | nil => simp at e
                | cons y l => simp [spliceN, ih l (by simpa using e)]
            exact fin _ _ (List.getElem?_eq_getElem hit) (hspl _ _ (by omega)) hx
          | false =>
            simp only [hfull, cond_false] at hx
            obtain ⟨cs, _, hcs, hk⟩ := shape_get _ _ _ hx
            obtain ⟨_, hrow⟩ := rget_some h0 h1 hcs
            split at hk
            · rename_i cs' hsp
              exact fin cs cs' hrow hsp hk
            · exact hk.elim
      · exact hx.elim
    · exact hx.elim
  · rename_i t len parts heq
    split at hx
    · rename_i e d hu hd
      rw [hd] at hdst
      split at hx
      · rename_i z hz
        cases hb : (bytesOK P e && Nat.ble (len * lenN z) 16777216 && Nat.beq (lenN z) ((szT P e).getD 0) && parts.toList.all (fun p => Nat.blt p.1 len) && nodupB (parts.toList.map (·.1))) with
        | false => simp only [hb, cond_false] at hx
        | true =>
          simp only [hb, cond_true] at hx
          simp only [Bool.and_eq_true, List.all_eq_true, lenN_eq] at hb
          obtain ⟨⟨⟨⟨hb1, hb2⟩, hb3⟩, hb4⟩, hb5⟩ := hb
          split at hx
          · rename_i rows hrows
            obtain ⟨h', hle, F'⟩ := F.pureOps (parts.toList.map (·.2))
            have hnd : ((parts.toList.map fun p => (p.1, (pureOps (parts.toList.map (·.2)) st).val p.2)).map (·.1)).Nodup := by
              rw [List.map_map]
              exact nodupB_spec hb5
            have hlt : ∀ p ∈ (parts.toList.map fun p => (p.1, (pureOps (parts.toList.map (·.2)) st).val p.2)), p.1 < len := fun p hp => by
              obtain ⟨q, hq, rfl⟩ := List.mem_map.1 hp
              exact Nat.le_of_ble_eq_true (hb4 q hq)
            obtain ⟨cs, hrun, hrl, hown⟩ := buildSlice_run (P := P) (ρ := ρ) F'.sub (vparts := parts.map fun (i, x) => (i, a.eval x)) hu hz hb1 (Nat.le_of_ble_eq_true hb2) (Nat.eq_of_beq_eq_true hb3) hlt hnd hrows (by simp) (fun i p q hp hq => by
              simp at hp hq
              obtain ⟨m, n, e1, rfl⟩ := hp
              obtain ⟨m', n', e2, rfl⟩ := hq
              rw [e1] at e2
              cases e2
              exact ⟨rfl, F'.val n⟩) (buildRows_all hrows hlt hnd)
            have hid := dst_id hdst (k := 64) (by omega)
            have F1 := F'.newOwn (128 * d + 64) hid (.own z.length rows) ⟨w.heap.size, 0, rows.length, len, z.length, false⟩ (keeps_alloc w _) (by simp) (fun _ => Nat.le_refl _) (.inr ⟨by rw [upd_same], by rw [upd_same]; exact hown⟩)
            have hr := Rep.osl (h := h') (ρ := upd ρ (128 * d + 64) ⟨w.heap.size, 0, rows.length, len, z.length, false⟩) (128 * d + 64) (by rw [upd_same])
            rw [upd_same, hrl] at hr
            have hrun' : (execOp a.eval o).run P w = .ok (.value (.slice (some ⟨w.heap.size, 0, none⟩) len len)) (w.alloc (.cells cs e)) := by
              simp only [execOp, heq, Sem.run_bind, hrun, Result.andThen_ok]; rfl
            unfold Oper.wp
            rw [hrun']
            rw [lenN_eq] at hx
            refine ⟨⟨_, ⟨h', _, F1.put o.dst (TRep.of_rep' ?_)⟩, hx⟩, ⟨_, rfl⟩, (keeps_alloc w _).size, fun b hb _ => Below.heap_alloc w _ b hb⟩
            rw [hrl]; exact hr
          · exact hx.elim
      · exact hx.elim
    · exact hx.elim
  · rename_i t l c heq
    split at hx
    · rename_i e d n m hu hd hls hcs
      rw [hd] at hdst
      split at hx
      · rename_i z hz
        cases hb : (bytesOK P e && Nat.beq (lenN z) ((szT P e).getD 0)) with
        | false => simp only [hb, cond_false] at hx
        | true =>
          simp only [hb, cond_true] at hx
          simp only [lenN_eq] at hx
          simp only [Bool.and_eq_true, lenN_eq] at hb
          obtain ⟨⟨h0, h1, h2⟩, hx⟩ := hx
          obtain ⟨cs, hrun, hown⟩ := makeSlice_run (P := P) F.sub hu hz hb.1 (Nat.eq_of_beq_eq_true hb.2) h0 h1 h2
          have hl := hsv l; rw [hls] at hl
          have hc := hsv c; rw [hcs] at hc
          have hid := dst_id hdst (k := 64) (by omega)
          have F1 := F.newOwn (128 * d + 64) hid (.own z.length (rrep n z)) ⟨w.heap.size, 0, (rrep n z).length, m.toNat, z.length, false⟩ (keeps_alloc w (.cells cs e)) (by simp) (fun _ => Nat.le_refl _) (.inr ⟨by rw [upd_same], by rw [upd_same]; exact hown⟩)
          have hr := Rep.osl (h := h) (ρ := upd ρ (128 * d + 64) ⟨w.heap.size, 0, (rrep n z).length, m.toNat, z.length, false⟩) (128 * d + 64) (by rw [upd_same])
          rw [upd_same] at hr
          have hrl : (rrep n z).length = n.toNat := by simp [rrep]
          have hrun' : (execOp a.eval o).run P w = .ok (.value (.slice (some ⟨w.heap.size, 0, none⟩) n.toNat m.toNat)) (w.alloc (.cells cs e)) := by
            simp only [execOp, heq, hl.val_inv, hc.val_inv, Sem.run_bind, hrun, Result.andThen_ok]; rfl
          unfold Oper.wp
          rw [hrun']
          refine ⟨⟨_, ⟨h, _, F1.put o.dst (TRep.of_rep' ?_)⟩, hx⟩, ⟨_, rfl⟩, (keeps_alloc w _).size, fun b hb _ => Below.heap_alloc w _ b hb⟩
          simp only [hrl] at hr ⊢
          exact hr
      · exact hx.elim
    · exact hx.elim
  · rename_i t r heq
    split at hx
    · rename_i kt et d hu hd
      rw [hd] at hdst
      have hid := dst_id hdst (k := 64) (by omega)
      have go : K ((st.bind (128 * d + 64) (.mp [])).put o.dst (.omp (128 * d + 64))) → (execOp a.eval o).run P w = .ok (.value (.map (some w.heap.size))) (w.alloc (.map #[] 0)) → o.wp P a w (After X K o a w (Touched Sg Sv st ρ o)) Q := by
        intro hk hrun
        have F1 := F.newOwn (128 * d + 64) hid (.mp []) ⟨w.heap.size, 0, 0, 0, 0, false⟩ (keeps_alloc w (.map #[] 0)) (by simp) (fun _ => Nat.le_refl _) ⟨by rw [upd_same], ⟨#[], 0, by rw [upd_same]; show (w.heap.push _)[_]? = _; simp, by simp [MapOK]⟩, fun o => by rw [upd_same]; exact hnew_blk F.sub o _ (Nat.le_refl _)⟩
        have hr := Rep.omp (h := h) (ρ := upd ρ (128 * d + 64) ⟨w.heap.size, 0, 0, 0, 0, false⟩) (128 * d + 64)
        rw [upd_same] at hr
        unfold Oper.wp
        rw [hrun]
        exact ⟨⟨_, ⟨h, _, F1.put o.dst (TRep.of_rep' hr)⟩, hk⟩, ⟨_, rfl⟩, (keeps_alloc w _).size, fun b hb _ => Below.heap_alloc w _ b hb⟩
      split at hx
      · rename_i hr0
        have hr1 : r = none := by cases r <;> simp at hr0; rfl
        subst hr1
        exact go hx (by simp [execOp, heq, Instr.makeMap, newObj, Sem.run])
      · rename_i kd n hr0
        cases r with
        | none => simp at hr0
        | some y =>
          simp at hr0
          have hy := hsv y; rw [hr0] at hy
          exact go hx (by simp [execOp, heq, Instr.makeMap, newObj, Sem.run, run_underlying hu, hy.val_inv, asInt, asIntOf])
      · exact hx.elim
    · exact hx.elim
  · rename_i t m k v heq
    split at hx
    · rename_i kt et id s n hu hms hks hvs
      split at hx
      · rename_i es hkt ho
        have h1 := hsv m; rw [hms] at h1
        have h2 := hsv k; rw [hks] at h2
        have h3 := hsv v; rw [hvs] at h3
        obtain ⟨w', hrun, F1, hsz, hoth⟩ := map_store (P := P) F (n := n) (s := s) hu hkt ho
        have hrun' : (execOp a.eval o).run P w = .ok .skip w' := by
          simp [execOp, heq, h1.omp_inv, h2.val_inv, h3.val_inv, hrun]
        unfold Oper.wp
        rw [hrun']
        refine ⟨⟨_, ⟨h, ρ, F1.put o.dst (TRep.rep_unk _ _)⟩, hx⟩, ⟨_, rfl⟩, hsz, fun b _ hne => hoth b (fun e => ?_)⟩
        obtain ⟨tids, e1, e2⟩ := not_touched hne
        simp only [touch, heq, hms] at e1
        cases e1
        exact e2 id (by simp) ⟨⟨_, ho⟩, (F.obj id _ ho).1⟩ e.symm
      · exact hx.elim
    · exact hx.elim
  · rename_i src dst x heq
    split at hx
    · rename_i e s hs hd hxs
      split at hx
      · rename_i d he hdd
        rw [hdd] at hdst
        have h1 := hsv x; rw [hxs] at h1
        obtain ⟨v, w', hrun, ⟨ρ', F1, hr⟩, hsz, hoth⟩ := bytes_make (P := P) F hs hd he (dst_id hdst (k := 64) (by omega)) hx.1
        have hrun' : (execOp a.eval o).run P w = .ok (.value v) w' := by
          simp [execOp, heq, h1.val_inv, hrun]
        unfold Oper.wp
        rw [hrun']
        exact ⟨⟨_, ⟨h, ρ', F1.put o.dst (TRep.of_rep' hr)⟩, hx.2⟩, ⟨_, rfl⟩, hsz, fun b hb _ => hoth b hb⟩
      · exact hx.elim
    · rename_i e e' id hs hd hxs
      split at hx
      · rename_i sz rows he ho
        cases hb : (Nat.beq src dst && Nat.beq sz 1) with
        | false => simp only [hb, cond_false] at hx
        | true =>
          simp only [hb, cond_true] at hx
          simp only [Bool.and_eq_true] at hb
          have e1 := Nat.eq_of_beq_eq_true hb.1
          have e2 := Nat.eq_of_beq_eq_true hb.2
          subst e1; subst e2
          have h1 := hsv x; rw [hxs] at h1
          obtain ⟨w', hrun, F1, hsz, hn, hoth⟩ := bytes_mark (P := P) F hs he ho h1 hx.1
          have hrun' : (execOp a.eval o).run P w = .ok (.value (a.eval x)) w' := by
            simp [execOp, heq, hrun]
          unfold Oper.wp
          rw [hrun']
          refine ⟨⟨_, ⟨h, ρ, F1.put o.dst (TRep.of_rep' h1)⟩, hx.2⟩, ⟨_, rfl⟩, hsz, fun b hb hne => hoth b (fun e => ?_)⟩
          obtain ⟨tids, q1, q2⟩ := not_touched hne
          simp only [touch, heq, hxs] at q1
          cases q1
          exact q2 id (by simp) ⟨⟨_, ho⟩, hn⟩ e.symm
      · exact hx.elim
    · exact hx.elim
  · rename_i x y t1 t2 heq
    split at hx
    · rename_i e d sz' ys hu hd hsrc
      rw [hd] at hdst
      split at hx
      · rename_i z hz
        cases hb : (bytesOK P e && srcOK z sz') with
        | false => simp only [hb, cond_false] at hx
        | true =>
          simp only [hb, cond_true] at hx
          simp only [Bool.and_eq_true] at hb
          have hid := dst_id hdst (k := 64) (by omega)
          split at hx
          · rename_i id hxs
            split at hx
            · rename_i sz rows ho
              cases hzz : Nat.beq z sz with
              | false => simp only [hzz, cond_false] at hx
              | true =>
                simp only [hzz, cond_true] at hx
                have := Nat.eq_of_beq_eq_true hzz
                subst this
                have h1 := hsv x; rw [hxs] at h1
                obtain ⟨v, w', hrun, ⟨ρ', F1, hr⟩, hsz, hoth⟩ := append_own (P := P) (ty := o.type) F hu hz hb.1 hsrc (hsv y) hb.2 ho h1 hx.1 hid
                have hrun' : (execOp a.eval o).run P w = .ok (.value v) w' := by
                  simp [execOp, heq, resolve, invoke, builtin, hrun]
                unfold Oper.wp
                rw [hrun']
                refine ⟨⟨_, ⟨h, ρ', F1.put o.dst (TRep.of_rep' hr)⟩, hx.2⟩, ⟨_, rfl⟩, hsz, fun b hb' hne => hoth b hb' (fun hl => ?_)⟩
                obtain ⟨tids, e1, e2⟩ := not_touched hne
                simp only [touch, heq, hxs] at e1
                cases e1
                exact e2 id (by simp) hl
            · exact hx.elim
          · rename_i sz hxs
            have h1 := hsv x; rw [hxs] at h1
            obtain ⟨v, w', hrun, ⟨ρ', F1, hr⟩, hsz, hoth⟩ := append_nil (P := P) (ty := o.type) F hu hz hb.1 hsrc (hsv y) hb.2 h1 hx.1 hid
            have hrun' : (execOp a.eval o).run P w = .ok (.value v) w' := by
              simp [execOp, heq, resolve, invoke, builtin, hrun]
            unfold Oper.wp
            rw [hrun']
            exact ⟨⟨_, ⟨h, ρ', F1.put o.dst (TRep.of_rep' hr)⟩, hx.2⟩, ⟨_, rfl⟩, hsz, fun b hb' _ => hoth b hb'⟩
          · exact hx.elim
      · exact hx.elim
    · exact hx.elim
  · rename_i x y t1 t2 heq
    split at hx
    · rename_i e id off m zz ys hu hxs hsrc
      split at hx
      · rename_i cs kd hz ho he
        cases hb : Nat.ble m 4 with
        | false => simp only [hb, cond_false] at hx
        | true =>
          simp only [hb, cond_true] at hx
          have hro : ∃ sz', rowsOf st.objs (st.val y) = some (sz', ys) := by
            unfold appSrc at hsrc
            split at hsrc
            · simp at hsrc; exact ⟨_, hsrc⟩
            · simp at hsrc
            · cases hsrc
          obtain ⟨sz', hro⟩ := hro
          have h1 := hsv x; rw [hxs] at h1
          have hmin : imin (rlen ys) (Int.ofNat m) = ((min ys.length m : Nat) : Int) := by
            have hgen : ∀ p q : Int, imin p q = min p q := fun p q => by
              unfold imin; rw [Int.min_def]; split <;> split <;> omega
            rw [hgen]
            show min (ys.length : Int) (m : Int) = _
            omega
          obtain ⟨acc, hk, hal, hacc⟩ := copyN_get m [] hx (by rw [hmin]; simp) (by rw [hmin]; simp; omega) (by simp)
          rw [hmin] at hal
          split at hk
          · rename_i cs' hsp
            obtain ⟨w', hrun, F1, hsz, hoth⟩ := copy_box (P := P) (t2 := t2) (ty := o.type) (acc := acc) (m := m) F hu hz ho hro (hsv y) (kd := kd) hacc (by omega) hsp
            have hrun' : (execOp a.eval o).run P w = .ok (.value (goInt acc.length)) w' := by
              simp [execOp, heq, resolve, invoke, builtin, h1.bsl_inv, hrun]
            unfold Oper.wp
            rw [hrun']
            rw [lenN_eq] at hk
            refine ⟨⟨_, ⟨h, ρ, F1.put o.dst (TRep.of_rep' (.pure _ _ (.val _)))⟩, hk⟩, ⟨_, rfl⟩, hsz, fun b _ hne => hoth b (fun e => ?_)⟩
            obtain ⟨tids, e1, e2⟩ := not_touched hne
            simp only [touch, heq, hxs] at e1
            cases e1
            exact e2 id (by simp) ⟨⟨_, ho⟩, (F.obj id _ ho).1⟩ e.symm
          · exact hk.elim
      · exact hx.elim
    · exact hx.elim
  · rename_i f args at_ heq
    split at hx
    · exact hx.elim
    · rename_i fn hf
      split at hx
      · split at hx
        · rename_i vs hvs
          obtain ⟨v, hr, hk⟩ := fres_get hx
          have ha := valsOf_sound hsv _ _ hvs
          have hrun : (execOp a.eval o).run P w = .ok (.value v) w := by
            have := hr w
            rw [show vs.toArray = args.map a.eval from by subst ha; cases args; simp] at this
            simp [execOp, heq, resolve, Act.eval, Deferred.ofValue, invoke, this]
          unfold Oper.wp
          rw [hrun]
          exact ⟨Goes.put F o.dst (.pure _ _ (.val _)) hk, ⟨_, rfl⟩, Nat.le_refl _, fun b _ _ => rfl⟩
        · exact hx.elim
      obtain ⟨h', hle, F'⟩ := F.frzAll (frzArgs st.objs (Sg f).ps 0 (args.toList.map st.val))
      obtain ⟨g1, g2⟩ := call_sound (P := P) F F' hle f (Sg f) fn.params.toList fn.resultTypes.toList _ [] (args.map a.eval) #[] o.dst K (by simp) (fun i v s hv hs => by
        simp at hv hs
        obtain ⟨x, hx1, rfl⟩ := hv
        obtain ⟨x', hx2, rfl⟩ := hs
        rw [hx1] at hx2; cases hx2
        exact F'.val x) rfl (by simp) hx
      simp only [Array.append_empty] at g1 g2
      have hrun : (execOp a.eval o).run P w = .ok (.enter f (args.map a.eval)) w := by
        simp [execOp, heq, resolve, Act.eval, Deferred.ofValue, invoke, g1]
      unfold Oper.wp
      rw [hrun]
      refine Calls.mono g2 fun e w'' he => ?_
      obtain ⟨v, rfl, hg, hsz, hbl⟩ := he
      refine ⟨hg, ⟨_, rfl⟩, hsz, fun b hb hne => hbl b hb (fun id hm hl => ?_)⟩
      obtain ⟨tids, e1, e2⟩ := not_touched hne
      simp only [touch, heq] at e1
      cases e1
      obtain ⟨⟨o', ho'⟩, hnn⟩ := hl
      exact e2 id hm ⟨frzAll_sub _ ho', hnn⟩
  · rename_i t args argTypes heq
    split at hx
    · rename_i f caps hcl
      obtain ⟨h', hle, F'⟩ := F.frzAll (frzArgs st.objs (Sv o.type).ps 0 (args.toList.map st.val))
      have hft := hsv (.tmp t); rw [hcl] at hft
      have hclo : ∃ cv : Array Value, a.eval (.tmp t) = .func (.func f) #[] cv ∧ cv.size = caps.length ∧ ∀ (i : Nat) v s, cv[i]? = some v → caps[i]? = some s → PRep h v s := by
        generalize a.eval (.tmp t) = v at hft
        cases hft with
        | pure _ _ hp => cases hp with
          | clo _ vs _ hl hc => exact ⟨vs, rfl, hl, hc⟩
      obtain ⟨cv, hev, hcl1, hcl2⟩ := hclo
      obtain ⟨g1, g2⟩ := call_sound (P := P) F F' hle f (Sv o.type) argTypes.toList _ _ caps (args.map a.eval) cv o.dst K (by simp) (fun i v s hv hs => by
        simp at hv hs
        obtain ⟨x, hx1, rfl⟩ := hv
        obtain ⟨x', hx2, rfl⟩ := hs
        rw [hx1] at hx2; cases hx2
        exact F'.val x) hcl1 (fun i v s hv hs => (hcl2 i v s hv hs).mono hle) hx
      have hrun : (execOp a.eval o).run P w = .ok (.enter f (args.map a.eval ++ cv)) w := by
        simp [execOp, heq, resolve, hev, Deferred.ofValue, invoke, g1]
      unfold Oper.wp
      rw [hrun]
      refine Calls.mono g2 fun e w'' he => ?_
      obtain ⟨v, rfl, hg, hsz, hbl⟩ := he
      refine ⟨hg, ⟨_, rfl⟩, hsz, fun b hb hne => hbl b hb (fun id hm hl => ?_)⟩
      obtain ⟨tids, e1, e2⟩ := not_touched hne
      simp only [touch, heq] at e1
      cases e1
      obtain ⟨⟨o', ho'⟩, hnn⟩ := hl
      exact e2 id hm ⟨frzAll_sub _ ho', hnn⟩
    · exact hx.elim
  · exact hx.elim

end
end Go.Px

/- Operations that change nothing and may have no value. -/
import Derived.Test.YtknnooannohflaaGreatDoorPxPQ
import Derived.Laws.BytesString
import Derived.Tactics
namespace Go.Px
open Go.RowKit
set_option linter.unusedVariables false

section
variable {X : Cx} {h : Hp} {ρ : Nat → Loc} {st : St} {a : Act} {w : World} {P : Program}

theorem caseN_get {n : Int} {K : Nat → Prop} : ∀ (m j : Nat), caseN n K m j → ∀ i, j ≤ i → i < j + m → n = Int.ofNat i → K i
  | 0, j, _, i, h1, h2, _ => by omega
  | m + 1, j, h, i, h1, h2, e => by
    by_cases hij : i = j
    · subst hij; exact h.1 e
    · exact caseN_get m (j + 1) h.2 i (by omega) (by omega) e

theorem arrIx_get {m : Nat} {i : Operand} {n : Int} {K : Nat → Prop} (hx : arrIx m i n K) (hi : ∀ kd j, i = .const (.int kd (.ofNat j)) → n = Int.ofNat j) : ∃ j, j < m ∧ n = Int.ofNat j ∧ K j := by
  unfold arrIx at hx
  split at hx
  · rename_i kd j
    cases hb : Nat.blt j m with
    | false => simp [hb] at hx
    | true =>
      simp only [hb, cond_true] at hx
      exact ⟨j, Nat.le_of_ble_eq_true hb, hi kd j rfl, hx⟩
  · cases hb : Nat.ble m 16 with
    | false => simp [hb] at hx
    | true =>
      simp only [hb, cond_true] at hx
      obtain ⟨⟨h1, h2⟩, h3⟩ := hx
      refine ⟨n.toNat, by simp at h2; omega, by simp; omega, caseN_get m 0 h3 n.toNat (by omega) (by simp at h2; omega) (by simp; omega)⟩

theorem Rep.slice_pure {v : Value} {sz : Nat} {rows : List (List SV)} {tok : Nat} (r : Rep h ρ v (.slice sz rows tok)) : PRep h v (.slice sz rows 0) := by
  cases r with
  | pure _ _ hp => exact hp.tok0

/-- A part of a slice. -/
theorem PRep.sub {p : Option Addr} {len cap sz : Nat} {rows : List (List SV)} (r : PRep h (.slice p len cap) (.slice sz rows 0)) {l hh m z : Nat} (hl : l ≤ hh) (hr : hh ≤ rows.length) (hm : hh ≤ m) (hc : m ≤ cap) (hz : z = sz ∨ sz = 0) (tok : Nat) (ht : tok ≤ 1) (h1 : tok = 1 → m = hh) :
    PRep h (.slice (if m = l then p else p.map (·.add (l * z))) (hh - l) (m - l)) (.slice sz ((rows.take hh).drop l) tok) := by
  by_cases he : hh = l
  · subst he
    have : (rows.take hh).drop hh = [] := by simp
    rw [this, Nat.sub_self]
    refine .empty _ _ _ tok ht (fun e => by have := h1 e; omega) (fun e => ?_)
    generalize hv : Value.slice p len cap = v at r
    cases r with
    | empty p' cap' _ _ _ _ hn =>
      cases hv
      split at e
      · omega
      · simp at e; have := hn e; omega
    | slice b off cap' _ _ _ vs _ _ _ _ _ _ _ _ =>
      cases hv
      split at e <;> simp at e
  · generalize hv : Value.slice p len cap = v at r
    cases r with
    | empty => cases hv; simp at hr; omega
    | slice b off cap' _ _ _ vs hpos hz' hh' hr' ho' _ _ hle =>
      cases hv
      have hml : ¬ m = l := by omega
      simp only [hml, if_false, Option.map_some, add_mk]
      have hz2 : z = sz := by rcases hz with h | h; exact h; omega
      subst hz2
      have hlen : ((rows.take hh).drop l).length = hh - l := by simp; omega
      rw [← hlen]
      have hget : ∀ i r, ((rows.take hh).drop l)[i]? = some r → rows[l + i]? = some r := by
        intro i r e
        rw [List.getElem?_drop, List.getElem?_take] at e
        split at e
        · exact e
        · cases e
      refine .slice b (off + l * z) (m - l) z _ tok (fun i j => vs (l + i) j) hpos (fun i r e => hz' _ r (hget i r e)) (fun i r j c e1 e2 => ?_) (fun i r j c e1 e2 => hr' _ r j c (hget i r e1) e2) (fun i r j c e1 e2 => ho' _ r j c (hget i r e1) e2) ht (fun e => by have := h1 e; omega) (by omega)
      have := hh' (l + i) r j c (hget i r e1) e2
      rwa [Nat.add_mul, ← Nat.add_assoc] at this

theorem bounds_run {gv : List (Nat × Bool) → Operand → SV} {w' : World} (hsv : ∀ x, Rep h ρ (a.eval x) (gv [] x)) (isS : Bool) (len cap : Nat) {lo hi : Option Operand} {l h' : Int}
    (hl : bndOf gv 0 lo = some l) (hh : bndOf gv (Int.ofNat len) hi = some h') (h0 : 0 ≤ l) (h1 : l ≤ h') (h2 : h' ≤ (len : Int)) (h3 : h' ≤ (cap : Int)) :
    (Instr.sliceBounds isS len cap (lo.map a.eval) (hi.map a.eval) none).run P w' = .ok (l.toNat, h'.toNat, cap) w' := by
  have key : ∀ x n, bndOf gv n (some x) = some l → ∃ kd, a.eval x = .int kd l := by
    intro x n e
    simp only [bndOf] at e
    split at e
    · rename_i kd n' hx
      cases e
      have := hsv x; rw [hx] at this
      exact ⟨kd, this.val_inv⟩
    · cases e
  have key' : ∀ x n, bndOf gv n (some x) = some h' → ∃ kd, a.eval x = .int kd h' := by
    intro x n e
    simp only [bndOf] at e
    split at e
    · rename_i kd n' hx
      cases e
      have := hsv x; rw [hx] at this
      exact ⟨kd, this.val_inv⟩
    · cases e
  have hlt : l ≤ (h'.toNat : Int) := by omega
  cases lo with
  | none =>
    simp [bndOf] at hl
    subst hl
    cases hi with
    | none =>
      simp [bndOf] at hh
      subst hh
      simp [Instr.sliceBounds]
    | some y =>
      obtain ⟨kd, hy⟩ := key' y _ hh
      have : (0 : Int) ≤ h' ∧ h' ≤ (cap : Int) := ⟨by omega, h3⟩
      simp [Instr.sliceBounds, Instr.sliceBound, hy, asIntOf, this]
  | some x =>
    obtain ⟨kd, hx⟩ := key x _ hl
    cases hi with
    | none =>
      simp [bndOf] at hh
      subst hh
      have : (0 : Int) ≤ l ∧ l ≤ (len : Int) := ⟨h0, h1⟩
      simp [Instr.sliceBounds, Instr.sliceBound, hx, asIntOf, this]
    | some y =>
      obtain ⟨kd', hy⟩ := key' y _ hh
      have g1 : (0 : Int) ≤ h' ∧ h' ≤ (cap : Int) := ⟨by omega, h3⟩
      have g2 : (0 : Int) ≤ l ∧ l ≤ max h' 0 := ⟨h0, by omega⟩
      simp [Instr.sliceBounds, Instr.sliceBound, hx, hy, asIntOf, g1, g2]

theorem bounds_run3 {gv : List (Nat × Bool) → Operand → SV} {w' : World} (hsv : ∀ x, Rep h ρ (a.eval x) (gv [] x)) (len cap : Nat) {lo : Option Operand} {hi m : Operand} {kd : IntKind} {l h' : Int}
    (hl : bndOf gv 0 lo = some l) (hh : bndOf gv (Int.ofNat len) (some hi) = some h') (hm : a.eval m = .int kd h') (h0 : 0 ≤ l) (h1 : l ≤ h') (h3 : h' ≤ (cap : Int)) :
    (Instr.sliceBounds true len cap (lo.map a.eval) (some (a.eval hi)) (some (a.eval m))).run P w' = .ok (l.toNat, h'.toNat, h'.toNat) w' := by
  have hhi : ∃ kd, a.eval hi = .int kd h' := by
    simp only [bndOf] at hh
    split at hh
    · rename_i kd n' hx
      cases hh
      have := hsv hi; rw [hx] at this
      exact ⟨kd, this.val_inv⟩
    · cases hh
  obtain ⟨kd2, hhi⟩ := hhi
  have g1 : (0 : Int) ≤ h' ∧ h' ≤ (cap : Int) := ⟨by omega, h3⟩
  have g3 : (0 : Int) ≤ h' ∧ h' ≤ max h' 0 := ⟨by omega, by omega⟩
  cases lo with
  | none =>
    simp [bndOf] at hl
    subst hl
    simp [Instr.sliceBounds, Instr.sliceBound, hhi, hm, asIntOf, g1, g3]
  | some x =>
    have hx : ∃ kd, a.eval x = .int kd l := by
      simp only [bndOf] at hl
      split at hl
      · rename_i kd n' hx
        cases hl
        have := hsv x; rw [hx] at this
        exact ⟨kd, this.val_inv⟩
      · cases hl
    obtain ⟨kd3, hx⟩ := hx
    have g2 : (0 : Int) ≤ l ∧ l ≤ max h' 0 := ⟨h0, by omega⟩
    simp [Instr.sliceBounds, Instr.sliceBound, hhi, hm, hx, asIntOf, g1, g2, g3]

theorem FitsAt.val (F : FitsAt X h ρ st a w) (x : Operand) : Rep h ρ (a.eval x) (st.val x) := F.operand [] (by simp) x

/-- What never changes may be handed on for good ahead. -/
theorem FitsAt.pureOps (F : FitsAt X h ρ st a w) (xs : List Operand) : ∃ h', HLe h h' ∧ FitsAt X h' ρ (pureOps xs st) a w := F.frzAll _

theorem val_const (F : FitsAt X h ρ st a w) {i : Operand} {kd' : IntKind} {n : Int} (hi : st.val i = .val (.int kd' n)) : ∀ kd j, i = .const (.int kd (.ofNat j)) → n = Int.ofNat j := by
  intro kd j e
  subst e
  have := F.val (.const (.int kd (.ofNat j)))
  rw [hi] at this
  have := this.val_inv
  simp [Act.eval] at this
  exact this.2.symm

theorem Goes.put {K : St → Prop} (F : FitsAt X h ρ st a w) (d : Option Nat) {v : Value} {s : SV} (r : Rep h ρ v s) (hk : K (st.put d s)) : Goes X K (a.put d v) w :=
  ⟨_, ⟨h, ρ, F.put d (TRep.of_rep' r)⟩, hk⟩

theorem rget_some {rows : List (List SV)} {n : Int} {cs : List SV} (h0 : 0 ≤ n) (h1 : n < rlen rows) (e : rget rows n = cs) : n.toNat < rows.length ∧ rows[n.toNat]? = some cs := by
  simp only [rlen] at h1
  have hlt : n.toNat < rows.length := by simp at h1; omega
  refine ⟨hlt, ?_⟩
  rw [← e, rget, List.getD_eq_getElem?_getD, List.getElem?_eq_getElem hlt]; rfl

/-- A row of an own slice. -/
theorem own_row {sz : Nat} {rows : List (List SV)} {l : Loc} (o : OwnOK h w l sz rows) {n : Nat} {cs : List SV} (hr : rows[n]? = some cs) :
    ∃ vs : List Value, CellsAt w l.blk (l.off + n * sz) vs ∧ vs.length = cs.length ∧ ∀ (j : Nat) v c, vs[j]? = some v → cs[j]? = some c → Rep h ρ v c := by
  obtain ⟨cv, t, fz, hc, hs, hf, hv⟩ := o.hblk
  have hget : ∀ (j : Nat) c, cs[j]? = some c → ∃ v, cv[l.off + n * sz + j]? = some v ∧ PRep h v c := fun j c hcj => by
    obtain ⟨v, e1, e2, _⟩ := hv n cs j c hr hcj
    exact ⟨v, e1, e2⟩
  refine ⟨(List.range cs.length).map fun j => (cv[l.off + n * sz + j]?).getD undef, fun j v hj => ?_, by simp, fun j v c hj hcj => ?_⟩
  · have hlt : j < cs.length := by have := (List.getElem?_eq_some_iff.1 hj).1; simpa using this
    obtain ⟨v', e1, _⟩ := hget j _ (List.getElem?_eq_getElem hlt)
    simp [hlt, e1] at hj
    subst hj
    simp [World.cell?, hc, e1]
  · have hlt : j < cs.length := (List.getElem?_eq_some_iff.1 hcj).1
    obtain ⟨v', e1, e2⟩ := hget j c hcj
    simp [hlt, e1] at hj
    subst hj
    exact .pure _ _ e2

/-- The bytes of a slice, as they lie in memory. -/
theorem bytes_run {p : Option Addr} {len cap : Nat} {rows : List (List SV)} (hlen : len = rows.length) (hb : isBytes rows) (hp : 0 < len → ∃ b off, p = some ⟨b, off, none⟩ ∧ ∀ (i : Nat) r c, rows[i]? = some r → r[0]? = some c → ∃ v, w.cell? ⟨b, off + i, none⟩ = some v ∧ PRep h v c)
    (w' : World) (hw : ∀ b off, 0 < len → p = some ⟨b, off, none⟩ → w'.heap[b]? = w.heap[b]?) : (Conv.bytesToString (.slice p len cap)).run P w' = .ok (.string (bstr rows)) w' := by
  have key : ∀ (rows : List (List SV)), isBytes rows → ∃ ns : List Int, rows = ns.map (fun n => [.val (.int .u8 n)]) := by
    intro rows
    induction rows with
    | nil => intro _; exact ⟨[], rfl⟩
    | cons r rows ih =>
      intro hb
      obtain ⟨ns, e⟩ := ih (fun r hr => hb r (by simp [hr]))
      obtain ⟨n, e1, _⟩ := hb r (by simp)
      exact ⟨n :: ns, by simp [e1, e]⟩
  obtain ⟨ns, rfl⟩ := key rows hb
  have hfold : ∀ (ns : List Int) (s : ByteArray), ns.foldl (fun r n => r.push (UInt8.ofNat n.toNat)) s = ⟨s.data ++ (ns.map fun n => UInt8.ofNat n.toNat).toArray⟩ := by
    intro ns
    induction ns with
    | nil => intro s; simp
    | cons n ns ih => intro s; rw [List.foldl_cons, ih]; simp [ByteArray.push]
  have hstr : bstr (ns.map (fun n => [.val (.int .u8 n)])) = ns.foldl (fun r n => r.push (UInt8.ofNat n.toNat)) ByteArray.empty := by
    rw [hfold]
    simp [bstr, byteOfRow, Function.comp_def, ByteArray.empty, ByteArray.emptyWithCapacity]
    rfl
  simp at hlen
  subst hlen
  by_cases h0 : 0 < ns.length
  · obtain ⟨b, off, rfl, hc⟩ := hp h0
    rw [hstr]
    refine run_bytesToString w' _ _ cap ns ?_
    have := run_loadCells_list (P := P) w' ⟨b, off, none⟩ (ns.map (Value.int .u8)) (fun j v hv => by
      rw [add_mk]
      simp at hv
      obtain ⟨n, hn, rfl⟩ := hv
      obtain ⟨u, hu, hr⟩ := hc j [.val (.int .u8 n)] (.val (.int .u8 n)) (by simp [hn]) rfl
      cases hr
      exact cell_same (hw b off h0 rfl) hu)
    simpa using this
  · have hns : ns = [] := by cases ns with
      | nil => rfl
      | cons => simp at h0
    subst hns
    cases p with
    | none => simp [Conv.bytesToString, bstr]; rfl
    | some ad =>
      have : (loadCells ad 0).run P w' = .ok (([] : List Int).map (Value.int .u8)).toArray w' := by simp [loadCells, loadCellsFrom]
      have := run_bytesToString w' ad 0 cap [] this
      rw [hstr]; exact this

theorem PRep.cells {v : Value} {sz : Nat} {rows : List (List SV)} {tok : Nat} (hs : HSub h w) (r : PRep h v (.slice sz rows tok)) : ∃ p cap, v = .slice p rows.length cap ∧ (0 < rows.length → ∃ b off, p = some ⟨b, off, none⟩ ∧ 0 < sz ∧ (∀ (i : Nat) r, rows[i]? = some r → r.length = sz) ∧
    ∀ (i : Nat) r (j : Nat) c, rows[i]? = some r → r[j]? = some c → ∃ v, w.cell? ⟨b, off + i * sz + j, none⟩ = some v ∧ PRep h v c ∧ v.oneCell' = true) := by
  cases r with
  | empty p cap _ _ ht h1 hn => exact ⟨p, cap, rfl, fun h => by simp at h⟩
  | slice b off cap _ _ _ vs hpos hz hh hr ho ht h1 hle =>
    exact ⟨_, cap, rfl, fun _ => ⟨b, off, rfl, hpos, hz, fun i r j c e1 e2 => ⟨vs i j, hs _ _ _ (hh i r j c e1 e2), hr i r j c e1 e2, ho i r j c e1 e2⟩⟩⟩

/-- The rows of a slice that is read, as they lie in memory. -/
theorem rowsOf_cells (F : FitsAt X h ρ st a w) {v : Value} {s : SV} {sz : Nat} {rows : List (List SV)} (r : Rep h ρ v s) (e : rowsOf st.objs s = some (sz, rows)) : ∃ p cap, v = .slice p rows.length cap ∧ (0 < rows.length → ∃ b off, p = some ⟨b, off, none⟩ ∧ 0 < sz ∧
    (∀ (i : Nat) r, rows[i]? = some r → r.length = sz) ∧ ∀ (i : Nat) r (j : Nat) c, rows[i]? = some r → r[j]? = some c → ∃ v, w.cell? ⟨b, off + i * sz + j, none⟩ = some v ∧ PRep h v c ∧ v.oneCell' = true) := by
  unfold rowsOf at e
  split at e
  · cases e
    exact r.slice_pure.cells F.sub
  · rename_i id
    split at e
    · rename_i sz' rows' ho
      cases e
      rcases F.obj id _ ho with ⟨hn, rfl⟩ | ⟨hn, o⟩
      · rcases r.osl_inv with ⟨_, p, rfl⟩ | ⟨hn', _⟩
        · exact ⟨p, 0, rfl, fun h => by simp at h⟩
        · rw [hn] at hn'; cases hn'
      · rcases r.osl_inv with ⟨hn', _⟩ | ⟨_, rfl⟩
        · rw [hn] at hn'; cases hn'
        · refine ⟨_, _, by rw [o.hlen], fun _ => ⟨_, _, rfl, o.pos, o.hrow, fun i r j c e1 e2 => ?_⟩⟩
          obtain ⟨cv, t, fz, hc, hs, hf, hv⟩ := o.hblk
          obtain ⟨v, q1, q2, q3⟩ := hv i r j c e1 e2
          exact ⟨v, by simp [World.cell?, hc, q1], q2, q3⟩
    · cases e
  · cases e

theorem fres_get {P : Program} {t : TypeId} {R : Value → Prop} {K : SV → Prop} (h : fres P t R K) : ∃ v, R v ∧ K (.val v) := by
  unfold fres at h
  split at h
  · exact ⟨_, h.choose_spec⟩
  · exact ⟨_, h.choose_spec⟩
  · exact ⟨_, h.choose_spec⟩
  · obtain ⟨a, b, h⟩ := h; exact ⟨_, h⟩
  · exact h.elim

theorem bigT_inv {t : TypeId} {kd : IntKind} {m : Nat} (hb : bigT P t = some (kd, m)) : ∃ e, P.underlying t = some (.array m e) ∧ P.underlying e = some (.int kd) ∧ szT P e = some 1 ∧ szT P t = some m := by
  unfold bigT at hb
  split at hb
  · rename_i m' e hu
    cases h16 : Nat.blt 16 m' with
    | false => simp only [h16, cond_false] at hb; cases hb
    | true =>
      simp only [h16, cond_true] at hb
      split at hb
      · rename_i kd' n h1 h2 h3
        cases hn : Nat.beq n m' with
        | false => simp only [hn, cond_false] at hb; cases hb
        | true =>
          simp only [hn, cond_true] at hb
          cases hb
          have := Nat.eq_of_beq_eq_true hn
          subst this
          exact ⟨e, hu, h1, h2, h3⟩
      · cases hb
  · cases hb

theorem vals_list {kd : IntKind} {ns : List Int} {vs : Array Value} (hl : vs.size = ns.length) (hr : ∀ (i : Nat) v c, vs[i]? = some v → (ns.map fun x => SV.val (.int kd x))[i]? = some c → Rep h ρ v c) : vs.toList = ns.map (Value.int kd) := by
  apply List.ext_getElem?
  intro i
  by_cases hi : i < ns.length
  · have h1 : vs[i]? = some vs[i] := Array.getElem?_eq_getElem (by omega)
    have h2 := hr i vs[i] (.val (.int kd ns[i])) h1 (by simp [hi])
    have h3 := h2.val_inv
    rw [Array.getElem?_toList, h1, h3]
    simp [hi]
  · rw [List.getElem?_eq_none (by simp; omega), List.getElem?_eq_none (by simp; omega)]

/-- A long array of numbers is loaded. -/
theorem big_load {b : Nat} {t : TypeId} {kd : IntKind} {m : Nat} {ns : List Int} (hb : bigT P t = some (kd, m)) (hl : ns.length = m) (hc : CellsAt w b 0 (ns.map (Value.int kd))) :
    ∃ vs : Array Value, vs.toList = ns.map (Value.int kd) ∧ ∀ w' : World, w'.heap[b]? = w.heap[b]? → (loadVar t ⟨b, 0, none⟩).run P w' = .ok (.agg vs) w' := by
  obtain ⟨e, h1, h2, h3, h4⟩ := bigT_inv hb
  have hag : isAggT P t = true := by simp [isAggT, h1]
  have hp : partN P t 0 (ns.map fun x => SV.val (.int kd x)) = some (.agg (ns.map fun x => SV.val (.int kd x))) := by
    unfold partN
    simp only [h1, h4, hag, cond_true, lenN_eq, takeN_eq, dropN_eq]
    have : Nat.ble (0 + m) (ns.map fun x => SV.val (.int kd x)).length = true := Nat.ble_eq_true_of_le (by simp; omega)
    rw [this]
    simp only [cond_true, List.drop_zero, Option.some.injEq, SV.agg.injEq]
    exact List.take_of_length_le (by simp; omega)
  obtain ⟨v, hrun, hr⟩ := load_sound (P := P) (h := fun _ _ => none) (ρ := fun _ => noLoc) (cs := ns.map fun x => SV.val (.int kd x)) hc (by simp) (fun j v c hv hc => by
    simp at hv hc
    obtain ⟨x1, e1, rfl⟩ := hv
    obtain ⟨x2, e2, rfl⟩ := hc
    rw [e1] at e2; cases e2
    exact .pure _ _ (.val _)) hp
  obtain ⟨vs, rfl, hs, hcv⟩ := hr.agg_inv'
  exact ⟨vs, vals_list (by simpa using hs) hcv, hrun⟩

/-- A long array's cells. -/
theorem arr_cells (F : FitsAt X h ρ st a w) {id m : Nat} {kd : IntKind} {ns : List Int} (ho : oget st.objs id = some (.arr kd m ns)) :
    ns.length = m ∧ CellsAt w (ρ id).blk 0 (ns.map (Value.int kd)) := by
  obtain ⟨hn, ⟨cs, t, hc, hm, hv⟩, hno⟩ := F.obj id _ ho
  refine ⟨hm, fun j v hj => ?_⟩
  rw [← hv] at hj
  simp [World.cell?, hc]
  simpa using hj

theorem intsOf_eq {kd : IntKind} : ∀ {cs : List SV} {ns : List Int}, intsOf kd cs = some ns → cs = ns.map fun x => SV.val (.int kd x)
  | [], ns, e => by cases e; rfl
  | c :: cs, ns, e => by
    unfold intsOf at e
    split at e
    · rename_i h; cases h
    · rename_i kd' x cs' heq
      cases heq
      by_cases hk : kd' = kd
      · subst hk
        simp only [decide_true, cond_true] at e
        split at e
        · rename_i ns' h'
          cases e
          rw [intsOf_eq h']
          rfl
        · cases e
      · simp [hk] at e
    · cases e

theorem putsN_eq (kd : IntKind) (i v : Int) (hi : 0 ≤ i) : ∀ (ns : List Int) (j : Nat), putsN kd i v j ns = (ns.mapIdx fun k x => SV.val (.int kd (if i = ((j + k : Nat) : Int) then v else x)))
  | [], j => by simp [putsN]
  | x :: xs, j => by
    rw [List.mapIdx_cons]
    unfold putsN
    rw [putsN_eq kd i v hi xs (j + 1)]
    simp only [apick, Nat.add_zero, List.cons.injEq]
    refine ⟨rfl, ?_⟩
    congr 1
    funext k y
    have : j + 1 + k = j + (k + 1) := by omega
    rw [this]

theorem puts_splice (kd : IntKind) (i v : Int) (ns : List Int) (h0 : 0 ≤ i) (h1 : i < ns.length) : spliceN i.toNat [SV.val (.int kd v)] (ns.map fun x => SV.val (.int kd x)) = some (putsN kd i v 0 ns) := by
  have key : ∀ (n : Nat) (l : List SV), n < l.length → spliceN n [SV.val (.int kd v)] l = some (l.set n (.val (.int kd v))) := by
    intro n
    induction n with
    | zero => intro l hl; cases l with
      | nil => simp at hl
      | cons a l => cases l <;> rfl
    | succ n ih => intro l hl; cases l with
      | nil => simp at hl
      | cons a l =>
        have := ih l (by simpa using hl)
        simp [spliceN, this]
  rw [key _ _ (by simp; omega), putsN_eq kd i v h0]
  congr 1
  apply List.ext_getElem?
  intro k
  rw [List.getElem?_mapIdx, List.getElem?_set]
  by_cases hk : i.toNat = k
  · subst hk
    have h2 : i.toNat < ns.length := by omega
    have h3 : i = ((0 + i.toNat : Nat) : Int) := by omega
    rw [if_pos rfl, if_pos (by simpa using h2), List.getElem?_eq_getElem h2, Option.map_some, if_pos h3]
  · have hne : ¬ i = ((0 + k : Nat) : Int) := by omega
    simp only [hk, if_false, hne, List.getElem?_map]

theorem aget_some {ns : List Int} {n : Int} (h0 : 0 ≤ n) (h1 : n < ns.length) : ns[n.toNat]? = some (aget ns n) := by
  have : n.toNat < ns.length := by omega
  simp [aget, this]

theorem still_sound (F : FitsAt X h ρ st a w) (o : Oper) (K : St → Prop) (hx : stillC P o st K) :
    ∃ v, (∀ w', SameB (fblk P a o) w w' → (execOp a.eval o).run P w' = .ok (.value v) w') ∧ Goes X K (a.put o.dst v) w := by
  have hsv := F.val
  unfold stillC at hx
  split at hx
  · rename_i t x i heq
    split at hx
    · rename_i e sz rows tok kd n hu hxs his
      have h1 := hsv x; rw [hxs] at h1
      have h2 := hsv i; rw [his] at h2
      split at hx
      · rename_i z hz
        cases hb : (Nat.beq z sz && Nat.blt 0 z) with
        | false => simp [hb] at hx
        | true =>
          simp only [hb, cond_true] at hx
          simp only [Bool.and_eq_true] at hb
          have hzs : z = sz := Nat.eq_of_beq_eq_true hb.1
          subst hzs
          obtain ⟨⟨hn0, hn1⟩, hsh⟩ := hx
          obtain ⟨cs, _, hcs, hk⟩ := shape_get _ _ _ hsh
          obtain ⟨hlt, hrow⟩ := rget_some hn0 hn1 hcs
          simp only [rlen] at hn1
          have hp := h1.slice_pure
          generalize hv : a.eval x = v at hp
          cases hp with
          | empty => simp at hlt
          | slice b off cap _ _ _ vs hpos hz' hh hr _ _ _ hle =>
            refine ⟨.pointer (some ⟨b, off + n.toNat * z, none⟩), fun w' _ => ?_, Goes.put F o.dst ?_ hk⟩
            · have hcond : 0 ≤ n ∧ n < (rows.length : Int) := ⟨hn0, by simpa using hn1⟩
              simp [execOp, heq, hv, h2.val_inv, Instr.indexAt, asIntOf, run_underlying hu, run_sizeOf' w' hz, hcond, add_mk]
            · have := PRep.ref (h := h) b (off + n.toNat * z) 0 cs (fun j => vs n.toNat j) (fun j c e => hh _ cs j c hrow e) (fun j c e => hr _ cs j c hrow e)
              exact .pure _ _ this
      · exact hx.elim
    · rename_i e id kd n hu hxs his
      have h1 := hsv x; rw [hxs] at h1
      have h2 := hsv i; rw [his] at h2
      split at hx
      · rename_i z sz rows hz ho
        cases hb : (Nat.beq z sz && Nat.blt 0 z) with
        | false => simp [hb] at hx
        | true =>
          simp only [hb, cond_true] at hx
          simp only [Bool.and_eq_true] at hb
          have hzs : z = sz := Nat.eq_of_beq_eq_true hb.1
          subst hzs
          obtain ⟨⟨hn0, hn1⟩, hk⟩ := hx
          simp only [rlen] at hn1
          rcases F.obj id _ ho with ⟨hn, rfl⟩ | ⟨hn, ok⟩
          · simp at hn1; omega
          · rcases h1.osl_inv with ⟨hn', _⟩ | ⟨_, hv⟩
            · rw [hn] at hn'; cases hn'
            · have hr := Rep.eptr (h := h) (ρ := ρ) id e n 0 hn
              refine ⟨_, fun w' _ => ?_, Goes.put F o.dst hr hk⟩
              have hcond : 0 ≤ n ∧ n < ((ρ id).len : Int) := ⟨hn0, by rw [ok.hlen]; simpa using hn1⟩
              simp [execOp, heq, hv, h2.val_inv, Instr.indexAt, asIntOf, run_underlying hu, run_sizeOf' w' hz, hcond, add_mk, ok.hsz]
      · exact hx.elim
    · rename_i m e id off kd n hu hxs his
      have h1 := hsv x; rw [hxs] at h1
      have h2 := hsv i; rw [his] at h2
      split at hx
      · rename_i kd' m' ns hz ho
        cases hb : (Nat.beq m m' && Nat.beq off 0) with
        | false => simp only [hb, cond_false] at hx
        | true =>
          simp only [hb, cond_true] at hx
          simp only [Bool.and_eq_true] at hb
          have hoff : off = 0 := Nat.eq_of_beq_eq_true hb.2
          subst hoff
          obtain ⟨⟨hn0, hn1⟩, hk⟩ := hx
          obtain ⟨j, rfl⟩ := Int.eq_ofNat_of_zero_le hn0
          have hj : j < m := by simpa using hn1
          refine ⟨.pointer (some ⟨(ρ id).blk, j, none⟩), fun w' _ => ?_, Goes.put F o.dst (.aptr id (j : Int)) hk⟩
          simp [execOp, heq, h1.ptr_inv, h2.val_inv, Instr.indexAt, asIntOf, run_underlying hu, run_sizeOf' w' hz, Instr.sureAddr, hj, add_mk]
      · rename_i z hz _
        cases hb : (jmode st && Nat.beq z 1 && Nat.beq off 0) with
        | true =>
          simp only [hb, cond_true] at hx
          simp only [Bool.and_eq_true] at hb
          have hoff : off = 0 := Nat.eq_of_beq_eq_true hb.2
          have hz1 : z = 1 := Nat.eq_of_beq_eq_true hb.1.2
          subst hoff hz1
          obtain ⟨⟨hn0, hn1⟩, hk⟩ := hx
          obtain ⟨j, rfl⟩ := Int.eq_ofNat_of_zero_le hn0
          have hj : j < m := by simpa using hn1
          refine ⟨.pointer (some ⟨(ρ id).blk, j, none⟩), fun w' _ => ?_, Goes.put F o.dst (.aptr id (j : Int)) hk⟩
          simp [execOp, heq, h1.ptr_inv, h2.val_inv, Instr.indexAt, asIntOf, run_underlying hu, run_sizeOf' w' hz, Instr.sureAddr, hj, add_mk]
        | false =>
          simp only [hb, cond_false] at hx
          obtain ⟨j, hj, hnj, hk⟩ := arrIx_get hx (val_const F his)
          subst hnj
          refine ⟨.pointer (some ⟨(ρ id).blk, off + j * z, none⟩), fun w' _ => ?_, Goes.put F o.dst (.ptr id _) hk⟩
          simp [execOp, heq, h1.ptr_inv, h2.val_inv, Instr.indexAt, asIntOf, run_underlying hu, run_sizeOf' w' hz, Instr.sureAddr, hj, add_mk]
      · exact hx.elim
    · rename_i m e id e' i' off kd n hu hxs his
      have h1 := hsv x; rw [hxs] at h1
      have h2 := hsv i; rw [his] at h2
      split at hx
      · rename_i z hz
        obtain ⟨j, hj, hnj, hk⟩ := arrIx_get hx (val_const F his)
        subst hnj
        obtain ⟨hn, hv⟩ := h1.eptr_inv
        refine ⟨_, fun w' _ => ?_, Goes.put F o.dst (Rep.eptr (h := h) (ρ := ρ) id e' i' (off + j * z) hn) hk⟩
        simp [execOp, heq, hv, h2.val_inv, Instr.indexAt, asIntOf, run_underlying hu, run_sizeOf' w' hz, Instr.sureAddr, hj, add_mk, Nat.add_assoc]
      · exact hx.elim
    · rename_i m e off cs kd n hu hxs his
      have h1 := hsv x; rw [hxs] at h1
      have h2 := hsv i; rw [his] at h2
      split at hx
      · rename_i z hz
        obtain ⟨j, hj, hnj, hk⟩ := arrIx_get hx (val_const F his)
        subst hnj
        generalize hv : a.eval x = v at h1
        cases h1 with
        | pure _ _ hp =>
          cases hp with
          | ref b base _ _ vs hh hr =>
            refine ⟨.pointer (some ⟨b, base + (off + j * z), none⟩), fun w' _ => ?_, Goes.put F o.dst (.pure _ _ (.ref b base _ cs vs hh hr)) hk⟩
            simp [execOp, heq, hv, h2.val_inv, Instr.indexAt, asIntOf, run_underlying hu, run_sizeOf' w' hz, Instr.sureAddr, hj, add_mk, Nat.add_assoc]
      · exact hx.elim
    · exact hx.elim
  · rename_i t x heq
    split at hx
    · rename_i id e i off hxs
      have h1 := hsv x; rw [hxs] at h1
      split at hx
      · rename_i sz rows z ho hz
        cases hb : Nat.beq z sz with
        | false => simp [hb] at hx
        | true =>
          simp only [hb, cond_true] at hx
          have hzs : z = sz := Nat.eq_of_beq_eq_true hb
          subst hzs
          obtain ⟨⟨hn0, hn1⟩, hsh⟩ := hx
          obtain ⟨cs, _, hcs, hk⟩ := shape_get _ _ _ hsh
          obtain ⟨hlt, hrow⟩ := rget_some hn0 hn1 hcs
          split at hk
          · rename_i s hs
            obtain ⟨hn, hv⟩ := h1.eptr_inv
            rcases F.obj id _ ho with ⟨hn', _⟩ | ⟨_, ok⟩
            · rw [hn] at hn'; cases hn'
            · obtain ⟨vs, g1, g2, g3⟩ := own_row (ρ := ρ) ok hrow
              obtain ⟨u, hu, r⟩ := load_sound (P := P) g1 g2 g3 hs
              refine ⟨u, fun w' hw => ?_, Goes.put F o.dst r hk⟩
              have hu := hu w' (hw _ (by simp [fblk, addrRead, heq, hv]))
              simp [execOp, heq, hv, Instr.loadAt, Instr.sureAddr, ok.hsz, hu]
          · exact hk.elim
      · exact hx.elim
    · rename_i id off hxs
      have h1 := hsv x; rw [hxs] at h1
      split at hx
      · rename_i kd m ns kd' m' ho hbig
        cases hb : (Nat.beq m m' && Nat.beq off 0 && decide (kd = kd')) with
        | false => simp only [hb, cond_false] at hx
        | true =>
          simp only [hb, cond_true] at hx
          simp only [Bool.and_eq_true, decide_eq_true_eq] at hb
          obtain ⟨⟨b1, b2⟩, rfl⟩ := hb
          have hm' : m = m' := Nat.eq_of_beq_eq_true b1
          have hoff : off = 0 := Nat.eq_of_beq_eq_true b2
          subst hm' hoff
          obtain ⟨hlen, hcells⟩ := arr_cells F ho
          obtain ⟨vs, hvs, hl⟩ := big_load (P := P) (w := w) hbig hlen hcells
          refine ⟨.agg vs, fun w' hw => ?_, Goes.put F o.dst (.pure _ _ (.arr _ kd m ns hlen hvs)) hx⟩
          have hl := hl w' (hw _ (by simp [fblk, addrRead, heq, h1.ptr_inv]))
          simp [execOp, heq, h1.ptr_inv, Instr.loadAt, Instr.sureAddr, hl]
      · exact hx.elim
    · rename_i id n hxs
      have h1 := hsv x; rw [hxs] at h1
      split at hx
      · rename_i kd m ns kd' ho hu hz
        by_cases hk : kd = kd'
        · subst hk
          simp only [decide_true, cond_true] at hx
          obtain ⟨⟨hn0, hn1⟩, hk⟩ := hx
          obtain ⟨hlen, hcells⟩ := arr_cells F ho
          have hn1 : n < ns.length := by rw [hlen]; simpa using hn1
          have hag : isAggT P t = false := by simp [isAggT, hu]
          have hp : partN P t n.toNat (ns.map fun x => SV.val (.int kd x)) = some (.val (.int kd (aget ns n))) := by
            have h2 := aget_some hn0 hn1
            have h3 : n.toNat + 1 ≤ ns.length := by omega
            have h4 : Nat.ble (n.toNat + 1) ns.length = true := Nat.ble_eq_true_of_le h3
            simp [partN, hu, hz, hag, lenN_eq, lget_eq, h2, h4]
          obtain ⟨u, hu', r⟩ := load_sound (P := P) (h := h) (ρ := ρ) (cs := ns.map fun x => SV.val (.int kd x)) hcells (by simp) (fun j v c hv hc => by
            simp at hv hc
            obtain ⟨x1, e1, rfl⟩ := hv
            obtain ⟨x2, e2, rfl⟩ := hc
            rw [e1] at e2; cases e2
            exact .pure _ _ (.val _)) hp
          refine ⟨u, fun w' hw => ?_, Goes.put F o.dst r hk⟩
          have hu' := hu' w' (hw _ (by simp [fblk, addrRead, heq, h1.aptr_inv]))
          rw [Nat.zero_add] at hu'
          simp [execOp, heq, h1.aptr_inv, Instr.loadAt, Instr.sureAddr, hu']
        · simp [hk] at hx
      · rename_i cs kd ho hu hz
        split at hx
        · rename_i ns hns
          obtain ⟨⟨hn0, hn1⟩, hk⟩ := hx
          have hcs := intsOf_eq hns
          subst hcs
          have hn1 : n < ns.length := by rw [lenN_eq] at hn1; simpa using hn1
          have hag : isAggT P t = false := by simp [isAggT, hu]
          have hp : partN P t n.toNat (ns.map fun x => SV.val (.int kd x)) = some (.val (.int kd (aget ns n))) := by
            have h2 := aget_some hn0 hn1
            have h3 : n.toNat + 1 ≤ ns.length := by omega
            have h4 : Nat.ble (n.toNat + 1) ns.length = true := Nat.ble_eq_true_of_le h3
            simp [partN, hu, hz, hag, lenN_eq, lget_eq, h2, h4]
          obtain ⟨hcur0, ⟨cur, ty, hcur, hcsz, hcv⟩, _⟩ := F.obj id _ ho
          have hca : CellsAt w (ρ id).blk 0 cur.toList := fun j v hj => by
            simp [World.cell?, hcur]
            simpa using hj
          obtain ⟨u, hu', r⟩ := load_sound (P := P) (h := h) (ρ := ρ) (cs := ns.map fun x => SV.val (.int kd x)) hca (by simpa using hcsz) (fun j v c hv hc => (hcv j v c (by simpa using hv) hc).1) hp
          refine ⟨u, fun w' hw => ?_, Goes.put F o.dst r hk⟩
          have hu' := hu' w' (hw _ (by simp [fblk, addrRead, heq, h1.aptr_inv]))
          rw [Nat.zero_add] at hu'
          simp [execOp, heq, h1.aptr_inv, Instr.loadAt, Instr.sureAddr, hu']
        · exact hx.elim
      · exact hx.elim
    · exact hx.elim
  · rename_i t x i heq
    split at hx
    · rename_i s kd n hu hxs his
      have h1 := hsv x; rw [hxs] at h1
      have h2 := hsv i; rw [his] at h2
      obtain ⟨⟨hn0, hn1⟩, hk⟩ := hx
      simp only [slen] at hn1
      have hlt : n.toNat < s.size := by simp at hn1; omega
      refine ⟨.int .u8 (sbyte s n), fun w' _ => ?_, Goes.put F o.dst (.pure _ _ (.val _)) hk⟩
      simp [execOp, heq, h1.val_inv, h2.val_inv, Instr.index, asIntOf, run_underlying hu, hn0, hlt, sbyte]
      rfl
    · rename_i m0 e0 kd m' ns kd' n hu hxs his
      have h1 := hsv x; rw [hxs] at h1
      have h2 := hsv i; rw [his] at h2
      split at hx
      · rename_i kd2 m hbig
        cases hb : (Nat.beq m m' && decide (kd = kd2)) with
        | false => simp only [hb, cond_false] at hx
        | true =>
          simp only [hb, cond_true] at hx
          simp only [Bool.and_eq_true, decide_eq_true_eq] at hb
          obtain ⟨b1, rfl⟩ := hb
          have hmm : m = m' := Nat.eq_of_beq_eq_true b1
          subst hmm
          obtain ⟨e, q1, q2, q3, q4⟩ := bigT_inv hbig
          obtain ⟨⟨hn0, hn1⟩, hk⟩ := hx
          obtain ⟨vs, hv, hlen, hvs⟩ := h1.arr_inv
          obtain ⟨j, rfl⟩ := Int.eq_ofNat_of_zero_le hn0
          have hj : j < m := by simpa using hn1
          have hget := aget_some (ns := ns) (n := (j : Int)) hn0 (by rw [hlen]; exact hn1)
          have hsz : vs.size = ns.length := by have := congrArg List.length hvs; simpa using this
          have hag : isAggT P e = false := by simp [isAggT, q2]
          have hp : partN P e (j * 1) (ns.map fun x => SV.val (.int kd x)) = some (.val (.int kd (aget ns (j : Int)))) := by
            have h4 : Nat.ble (j + 1) ns.length = true := Nat.ble_eq_true_of_le (by omega)
            have h5 : ns[j]? = some (aget ns (j : Int)) := by simpa using hget
            simp [partN, q2, q3, hag, lenN_eq, lget_eq, h4, h5]
          obtain ⟨u, hu', r⟩ := part_sound (P := P) (h := h) (ρ := ρ) (vs := vs) (cs := ns.map fun x => SV.val (.int kd x)) (by simpa using hsz) (fun j v c hv hc => by
            rw [← Array.getElem?_toList, hvs] at hv
            simp at hv hc
            obtain ⟨x1, e1, rfl⟩ := hv
            obtain ⟨x2, e2, rfl⟩ := hc
            rw [e1] at e2; cases e2
            exact .pure _ _ (.val _)) hp
          refine ⟨u, fun w' _ => ?_, Goes.put F o.dst r hk⟩
          have hu' := hu' w'
          rw [Nat.mul_one] at hu'
          simp [execOp, heq, hv, h2.val_inv, Instr.index, asIntOf, run_underlying q1, run_sizeOf' w' q3, hj, hu']
      · exact hx.elim
    · rename_i m e cs kd n hu hxs his
      have h1 := hsv x; rw [hxs] at h1
      have h2 := hsv i; rw [his] at h2
      split at hx
      · rename_i z hz
        obtain ⟨j, hj, hnj, hk⟩ := arrIx_get hx (val_const F his)
        subst hnj
        split at hk
        · rename_i s hs
          obtain ⟨vs, hv, hl, hc⟩ := h1.agg_inv'
          obtain ⟨u, hu', r⟩ := part_sound (P := P) hl hc hs
          refine ⟨u, fun w' _ => ?_, Goes.put F o.dst r hk⟩
          simp [execOp, heq, hv, h2.val_inv, Instr.index, asIntOf, run_underlying hu, run_sizeOf' w' hz, hj, hu' w']
        · exact hk.elim
      · exact hx.elim
    · exact hx.elim
  · rename_i op t x y t' heq
    split at hx
    · rename_i kd m kd' n hxs hys
      have h1 := hsv x; rw [hxs] at h1
      have h2 := hsv y; rw [hys] at h2
      split at hx
      · by_cases hk : kd = kd'
        · subst hk
          simp at hx
          exact ⟨.int kd (wquo kd m n), fun w' _ => by simp [execOp, heq, h1.val_inv, h2.val_inv, eqGuard_int, binOp, Op.intDiv, hx.1, wquo], Goes.put F o.dst (.pure _ _ (.val _)) hx.2⟩
        · simp [hk] at hx
      · by_cases hk : kd = kd'
        · subst hk
          simp at hx
          exact ⟨.int kd (wrem m n), fun w' _ => by simp [execOp, heq, h1.val_inv, h2.val_inv, eqGuard_int, binOp, Op.intDiv, hx.1, wrem], Goes.put F o.dst (.pure _ _ (.val _)) hx.2⟩
        · simp [hk] at hx
      · have hn : ¬ n < 0 := by omega
        exact ⟨.int kd (wshl kd m n), fun w' _ => by simp [execOp, heq, h1.val_inv, h2.val_inv, eqGuard_int, binOp, Op.shift, hn, wshl], Goes.put F o.dst (.pure _ _ (.val _)) hx.2⟩
      · have hn : ¬ n < 0 := by omega
        exact ⟨.int kd (wshr kd m n), fun w' _ => by simp [execOp, heq, h1.val_inv, h2.val_inv, eqGuard_int, binOp, Op.shift, hn, wshr], Goes.put F o.dst (.pure _ _ (.val _)) hx.2⟩
      · exact hx.elim
    · rename_i m n hxs hys
      have h1 := hsv x; rw [hxs] at h1
      have h2 := hsv y; rw [hys] at h2
      split at hx
      · refine ⟨.string (scat m n), fun w' _ => ?_, Goes.put F o.dst (.pure _ _ (.val _)) hx.2⟩
        have hle : (m.size : Int) + (n.size : Int) ≤ 9223372036854775807 := by
          have := hx.1
          simpa only [slen, lsum, Int.ofNat_eq_natCast] using this
        simp [execOp, heq, h1.val_inv, h2.val_inv, eqGuard_str, binOp, Op.stringOp, scat]
        exact hle
      · exact hx.elim
    · rename_i k m k' n hxs hys
      have h1 := hsv x; rw [hxs] at h1
      have h2 := hsv y; rw [hys] at h2
      obtain ⟨v, hr, hk⟩ := fres_get hx
      refine ⟨v, fun w' _ => ?_, Goes.put F o.dst (.pure _ _ (.val _)) hk⟩
      have := hr w'
      simp [execOp, heq, h1.val_inv, h2.val_inv, eqGuard_flt, this]
    · rename_i k m m2 k' n n2 hxs hys
      have h1 := hsv x; rw [hxs] at h1
      have h2 := hsv y; rw [hys] at h2
      obtain ⟨v, hr, hk⟩ := fres_get hx
      refine ⟨v, fun w' _ => ?_, Goes.put F o.dst (.pure _ _ (.val _)) hk⟩
      have := hr w'
      simp [execOp, heq, h1.val_inv, h2.val_inv, eqGuard_cpx, this]
    · cases hnil : isNilC y with
      | false =>
        simp only [hnil, cond_false] at hx
        cases hnI : isNilI y with
        | false => simp [hnI] at hx
        | true =>
          simp only [hnI, cond_true] at hx
          have hy : y = .const .nilIface := by
            unfold isNilI at hnI
            split at hnI
            · rfl
            · cases hnI
          subst hy
          have hyv : a.eval (.const .nilIface) = .nilIface := rfl
          have heqv : ∀ (u : Value) (b : Bool) (ms), P.underlying t = some (.interface ms) → (u = .nilIface ∧ b = true ∨ ∃ tx vx, u = .iface tx vx ∧ b = false) → ∀ w' : World, (Op.equal t u .nilIface).run P w' = .ok b w' := by
            intro u b ms hu hb w'
            have he : ∀ d, (Op.equalIn (d + 1) t u .nilIface).run P w' = .ok b w' := by
              intro d
              rcases hb with ⟨rfl, rfl⟩ | ⟨tx, vx, rfl, rfl⟩ <;> simp [Op.equalIn, run_underlying hu]
            exact he 9999
          split at hx
          · rename_i ms hu
            have hc := (hsv x).ifc_inv hx.1
            refine ⟨.bool (isNilS (st.val x)), fun w' _ => ?_, Goes.put F o.dst (.pure _ _ (.val _)) hx.2⟩
            have := heqv _ _ ms hu hc w'
            rcases hc with ⟨e1, e2⟩ | ⟨tx, vx, e1, e2⟩ <;> rw [e1] at this <;> simp [execOp, heq, e1, hyv, eqGuard, binOp, this]
          · rename_i ms hu
            have hc := (hsv x).ifc_inv hx.1
            refine ⟨.bool !(isNilS (st.val x)), fun w' _ => ?_, Goes.put F o.dst (.pure _ _ (.val _)) hx.2⟩
            have := heqv _ _ ms hu hc w'
            rcases hc with ⟨e1, e2⟩ | ⟨tx, vx, e1, e2⟩ <;> rw [e1] at this <;> simp [execOp, heq, e1, hyv, eqGuard, binOp, this]
          · exact hx.elim
      | true =>
        simp only [hnil, cond_true] at hx
        have hy : y = .const (.slice none 0 0) := by
          unfold isNilC at hnil
          split at hnil
          · rfl
          · cases hnil
        subst hy
        have hnilp : ∀ {sz : Nat} {rows : List (List SV)}, rowsOf st.objs (st.val x) = some (sz, rows) → ∃ p cap, a.eval x = .slice p rows.length cap ∧ (p.isNone = true → rlen rows = 0) := by
          intro sz rows hro
          obtain ⟨p, cap, hv, hp⟩ := rowsOf_cells F (hsv x) hro
          refine ⟨p, cap, hv, fun hnn => ?_⟩
          by_cases h0 : 0 < rows.length
          · obtain ⟨b, off, rfl, _⟩ := hp h0
            simp at hnn
          · simp [rlen]; simpa using h0
        have heqv : ∀ (p : Option Addr) (n c : Nat) (e : TypeId), P.underlying t = some (.slice e) → ∀ w' : World, (Op.equal t (.slice p n c) (.slice none 0 0)).run P w' = .ok p.isNone w' := by
          intro p n c e hu w'
          have he : ∀ d, (Op.equalIn (d + 1) t (.slice p n c) (.slice none 0 0)).run P w' = .ok p.isNone w' := by
            intro d
            cases p <;> simp [Op.equalIn, run_underlying hu]
          exact he 9999
        have hyv : a.eval (.const (.slice none 0 0)) = .slice none 0 0 := rfl
        split at hx
        · rename_i e z rows hu hro
          obtain ⟨p, cap, hv, hp⟩ := hnilp hro
          refine ⟨.bool p.isNone, fun w' _ => ?_, Goes.put F o.dst (.pure _ _ (.val _)) (hx p.isNone hp)⟩
          have := heqv p rows.length cap e hu w'
          simp [execOp, heq, hv, hyv, eqGuard, binOp, this]
        · rename_i e z rows hu hro
          obtain ⟨p, cap, hv, hp⟩ := hnilp hro
          refine ⟨.bool !p.isNone, fun w' _ => ?_, Goes.put F o.dst (.pure _ _ (.val _)) (hx (!p.isNone) (fun e => hp (by simpa using e)))⟩
          have := heqv p rows.length cap e hu w'
          simp [execOp, heq, hv, hyv, eqGuard, binOp, this]
        · exact hx.elim
  · rename_i t x lo hi mx heq
    obtain ⟨h', hle, F'⟩ := F.pureOps [x]
    have hsv' := F'.val
    split at hx
    · rename_i s hu hxs
      have h1 := hsv' x; rw [hxs] at h1
      split at hx
      · rename_i l hh hl hhi
        obtain ⟨⟨hl0, hlh, hhs⟩, hk⟩ := hx
        simp only [slen] at hhs hhi
        refine ⟨.string (ssub s l hh), fun w' _ => ?_, Goes.put F' o.dst (.pure _ _ (.val _)) hk⟩
        have hb := bounds_run (P := P) (w' := w') (hsv := hsv') (gv := fun _ => (pureOps [x] st).val) false s.size s.size (lo := lo) (hi := hi) (l := l) (h' := hh) hl hhi hl0 hlh (by simpa using hhs) (by simpa using hhs)
        simp [execOp, heq, h1.val_inv, Instr.sliceAt, Instr.slice, run_underlying hu, hb, ssub]
      · exact hx.elim
    · rename_i e sz rows tok hu hxs
      have h1 := hsv' x; rw [hxs] at h1
      have hp := h1.slice_pure
      obtain ⟨p, cap, hv⟩ := h1.slice_inv
      rw [hv] at hp
      have hcap : rows.length ≤ cap := by
        generalize hvv : Value.slice p rows.length cap = v at hp
        cases hp with
        | empty => simp
        | slice _ _ _ _ _ _ _ _ _ _ _ _ _ _ hle => cases hvv; exact hle
      split at hx
      · rename_i z l hh hz hl hhi
        cases hb : (Nat.beq z sz || Nat.beq sz 0) with
        | false => simp [hb] at hx
        | true =>
          simp only [hb, cond_true] at hx
          simp only [Bool.or_eq_true] at hb
          have hzz : z = sz ∨ sz = 0 := hb.elim (fun e => .inl (Nat.eq_of_beq_eq_true e)) (fun e => .inr (Nat.eq_of_beq_eq_true e))
          obtain ⟨⟨hl0, hlh, hhs⟩, hk⟩ := hx
          simp only [rlen] at hhs hhi
          have hb' : hh.toNat ≤ rows.length := by simp at hhs; omega
          refine ⟨_, fun w' _ => ?_, Goes.put F' o.dst (.pure _ _ (PRep.sub (z := z) hp (l := l.toNat) (hh := hh.toNat) (m := cap) (by omega) hb' (by omega) (Nat.le_refl _) hzz 0 (by omega) (by omega))) (by simpa [rsub] using hk)⟩
          have hb := bounds_run (P := P) (w' := w') (hsv := hsv') (gv := fun _ => (pureOps [x] st).val) true rows.length cap (lo := lo) (hi := hi) (l := l) (h' := hh) hl hhi hl0 hlh (by simpa using hhs) (by simp at hhs ⊢; omega)
          simp [execOp, heq, hv, Instr.sliceAt, Instr.slice, run_underlying hu, hb, run_sizeOf' w' hz]
      · rename_i z l hh m hz hl hhi
        split at hx
        · rename_i hio kd mm hms
          cases hb : (Nat.beq z sz || Nat.beq sz 0) with
          | false => simp [hb] at hx
          | true =>
            simp only [hb, cond_true] at hx
            simp only [Bool.or_eq_true] at hb
            have hzz : z = sz ∨ sz = 0 := hb.elim (fun e => .inl (Nat.eq_of_beq_eq_true e)) (fun e => .inr (Nat.eq_of_beq_eq_true e))
            obtain ⟨⟨hl0, hlh, hmm, hhs⟩, hk⟩ := hx
            subst hmm
            simp only [rlen] at hhs hhi
            have hb' : hh.toNat ≤ rows.length := by simp at hhs; omega
            refine ⟨_, fun w' _ => ?_, Goes.put F' o.dst (.pure _ _ (PRep.sub (z := z) hp (l := l.toNat) (hh := hh.toNat) (m := hh.toNat) (by omega) hb' (by omega) (by omega) hzz 1 (by omega) (fun _ => rfl))) (by simpa [rsub] using hk)⟩
            have hm := hsv' m; rw [hms] at hm
            have hb := bounds_run3 (P := P) (w' := w') (hsv := hsv') (gv := fun _ => (pureOps [x] st).val) rows.length cap (lo := lo) (hi := hio) (m := m) (l := l) (h' := hh) hl hhi hm.val_inv hl0 hlh (by simp at hhs ⊢; omega)
            simp [execOp, heq, hv, Instr.sliceAt, Instr.slice, run_underlying hu, hb, run_sizeOf' w' hz]
        · exact hx.elim
      · exact hx.elim
    · rename_i m e id off hu hxs
      have h1 := hsv' x; rw [hxs] at h1
      split at hx
      · rename_i kd m' ns ho
        split at hx
        · rename_i l hh hz hl hhi
          cases hb : (Nat.beq m m' && Nat.beq off 0) with
          | false => simp only [hb, cond_false] at hx
          | true =>
            simp only [hb, cond_true] at hx
            simp only [Bool.and_eq_true] at hb
            have hoff : off = 0 := Nat.eq_of_beq_eq_true hb.2
            subst hoff
            obtain ⟨⟨hl0, hlh, hhm, hlm⟩, hk⟩ := hx
            refine ⟨.slice (some ⟨(ρ id).blk, l.toNat, none⟩) (hh - l).toNat (m - l.toNat), fun w' _ => ?_, Goes.put F' o.dst (.asl id l hh _) hk⟩
            have hb := bounds_run (P := P) (w' := w') (hsv := hsv') (gv := fun _ => (pureOps [x] st).val) false m m (lo := lo) (hi := hi) (l := l) (h' := hh) hl hhi hl0 hlh (by simpa using hhm) (by simpa using hhm)
            simp [execOp, heq, h1.ptr_inv, Instr.sliceAt, run_underlying hu, Instr.sureAddr, hb, run_sizeOf' w' hz, add_mk]
            have hne : ¬ m = l.toNat := by simp at hlm; omega
            simp [hne]
            omega
        · exact hx.elim
      split at hx
      · rename_i hz
        refine ⟨.slice (some ⟨(ρ id).blk, off, none⟩) m m, fun w' _ => ?_, Goes.put F o.dst (.bsl id off m) hx⟩
        have hadd : (⟨(ρ id).blk, off, none⟩ : Addr).add (0 * 1) = ⟨(ρ id).blk, off, none⟩ := by rw [add_mk]; rfl
        simp [execOp, heq, h1.ptr_inv, Instr.sliceAt, run_underlying hu, Instr.sureAddr, Instr.sliceBounds, run_sizeOf' w' hz, add_mk]
      · exact hx.elim
    · exact hx.elim
  · rename_i f first captured heq
    cases hfst : Nat.beq first.size 0 with
    | false => simp [hfst] at hx
    | true =>
      simp only [hfst, cond_true] at hx
      have hf0 : first = #[] := Array.eq_empty_of_size_eq_zero (Nat.eq_of_beq_eq_true hfst)
      subst hf0
      split at hx
      · exact hx.elim
      · rename_i st1 hst1
        split at hx
        · rename_i cs hcs
          obtain ⟨h1, hle1, F1⟩ := F.frzBoxes _ hst1
          obtain ⟨h2, hle2, F2⟩ := F1.pureOps captured.toList
          obtain ⟨hl, hg⟩ := pureL_sound _ _ hcs
          refine ⟨.func (.func f) #[] (captured.map a.eval), fun w' _ => by simp [execOp, heq, Instr.makeFunc], Goes.put F2 o.dst (.pure _ _ (.clo f _ cs (by simpa using hl.symm) fun i v c hv hc => ?_)) hx⟩
          obtain ⟨c0, g1, g2⟩ := hg i c hc
          simp at g1 hv
          obtain ⟨x, hx1, rfl⟩ := g1
          obtain ⟨x', hx2, rfl⟩ := hv
          rw [hx1] at hx2; cases hx2
          exact pureCell_sound (F2.val x) g2
        · exact hx.elim
  · rename_i src dst x heq
    split at hx
    · rename_i e id l hh hs hd hxs
      have h1 := hsv x; rw [hxs] at h1
      split at hx
      · rename_i kd m ns he ho
        obtain ⟨⟨hl0, hlh, hhm⟩, hb, hk⟩ := hx
        obtain ⟨hlen, hcells⟩ := arr_cells F ho
        obtain ⟨cap, hv⟩ := h1.asl_inv
        have hrl : (arows kd (asub ns l hh)).length = (hh - l).toNat := by simp [arows, asub, hlen]; simp at hhm; omega
        refine ⟨.string (bstr (arows kd (asub ns l hh))), fun w' hw => ?_, Goes.put F o.dst (.pure _ _ (.val _)) hk⟩
        have := bytes_run (P := P) (w := w) (h := h) (p := some ⟨(ρ id).blk, l.toNat, none⟩) (len := (hh - l).toNat) (cap := cap) hrl.symm hb (fun h0 => by
          refine ⟨_, _, rfl, fun i r c q1 q2 => ?_⟩
          simp only [arows, asub, List.getElem?_map, List.getElem?_drop] at q1
          rw [List.getElem?_take] at q1
          split at q1
          · cases hx : ns[l.toNat + i]? with
            | none => simp [hx] at q1
            | some y =>
              simp [hx] at q1
              subst q1
              simp at q2
              subst q2
              have := hcells (l.toNat + i) (.int kd y) (by simp [hx])
              exact ⟨.int kd y, by simpa using this, .val _⟩
          · simp at q1) w' (fun b off h0 e => hw b (by
            obtain ⟨k, hk⟩ : ∃ k, (hh - l).toNat = k + 1 := ⟨(hh - l).toNat - 1, by omega⟩
            rw [hk, e] at hv
            simp [fblk, addrRead, heq, hv, hs]))
        simp [execOp, heq, hv, run_convert_bytes_string w' src dst e _ _ cap hs he hd, this]
      · exact hx.elim
    · rename_i e hs hd hne
      split at hx
      · rename_i sz rows he hro
        obtain ⟨hb, hk⟩ := hx
        obtain ⟨p, cap, hv, hp⟩ := rowsOf_cells F (hsv x) hro
        refine ⟨.string (bstr rows), fun w' hw => ?_, Goes.put F o.dst (.pure _ _ (.val _)) hk⟩
        have := bytes_run (P := P) (w := w) (h := h) (p := p) (len := rows.length) (cap := cap) rfl hb (fun h0 => by
          obtain ⟨b, off, rfl, hpos, hrow, hc⟩ := hp h0
          have h1 : sz = 1 := by
            obtain ⟨n, e1, _⟩ := hb (rows[0]) (List.getElem_mem h0)
            have := hrow 0 _ (List.getElem?_eq_getElem h0)
            rw [e1] at this; simpa using this.symm
          subst h1
          refine ⟨b, off, rfl, fun i r c q1 q2 => ?_⟩
          obtain ⟨v, t1, t2, _⟩ := hc i r 0 c q1 q2
          exact ⟨v, by simpa using t1, t2⟩) w' (fun b off h0 e => hw b (by
            obtain ⟨k, hk⟩ : ∃ k, rows.length = k + 1 := ⟨rows.length - 1, by omega⟩
            rw [hk, e] at hv
            simp [fblk, addrRead, heq, hv, hs]))
        simp [execOp, heq, hv, run_convert_bytes_string w' src dst e p _ cap hs he hd, this]
      · exact hx.elim
    · rename_i k0 k1 k n hs hd hxs
      have h1 := hsv x; rw [hxs] at h1
      obtain ⟨v, hr, hk⟩ := fres_get hx
      refine ⟨v, fun w' _ => ?_, Goes.put F o.dst (.pure _ _ (.val _)) hk⟩
      have := hr w'
      simp [execOp, heq, h1.val_inv, this]
    · rename_i k0 k1 k n hs hd hxs
      have h1 := hsv x; rw [hxs] at h1
      obtain ⟨v, hr, hk⟩ := fres_get hx
      refine ⟨v, fun w' _ => ?_, Goes.put F o.dst (.pure _ _ (.val _)) hk⟩
      have := hr w'
      simp [execOp, heq, h1.val_inv, this]
    · exact hx.elim
  · exact hx.elim

end
end Go.Px

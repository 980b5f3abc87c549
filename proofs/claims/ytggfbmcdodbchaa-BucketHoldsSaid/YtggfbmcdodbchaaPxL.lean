/- Loops: what stands at a loop's head. -/
import Derived.Test.YtggfbmcdodbchaaPxR
namespace Go.Px
open Go.RowKit

theorem exists_min {p : Nat → Prop} : ∀ n, p n → ∃ k, p k ∧ ∀ j, j < k → ¬ p j := by
  intro n
  induction n using Nat.strongRecOn with
  | _ n ih =>
    intro hn
    by_cases h : ∃ j, j < n ∧ p j
    · obtain ⟨j, hj, pj⟩ := h; exact ih j hj pj
    · exact ⟨n, hn, fun j hj pj => h ⟨j, hj, pj⟩⟩

/-- A loop whose measure is a number that the relation names. -/
theorem wp_loop_rel {P : Program} {c : Code} {Q : Exit → Act → World → Prop} {a : Act} {w : World} (J : Nat → Act → World → Prop) (k₀ : Nat) (h₀ : J k₀ a w)
    (round : ∀ k a w, J k a w → c.wp P (Exit.then (fun a' w' => ∃ k', k' < k ∧ J k' a' w') Q) a w) : (Code.loop c).wp P Q a w := by
  classical
  let μ : Act → World → Nat := fun a w => if h : ∃ k, J k a w then Classical.choose (exists_min (p := fun k => J k a w) _ h.choose_spec) else 0
  have hμ : ∀ a w, (∃ k, J k a w) → J (μ a w) a w ∧ ∀ j, j < μ a w → ¬ J j a w := by
    intro a w h
    simp only [μ, dif_pos h]
    exact Classical.choose_spec (exists_min (p := fun k => J k a w) _ h.choose_spec)
  refine wp_loop (fun a w => ∃ k, J k a w) μ ⟨k₀, h₀⟩ fun a w h => ?_
  obtain ⟨h1, _⟩ := hμ a w h
  refine wp_mono (round _ a w h1) fun e a' w' hq => ?_
  cases e with
  | normal =>
    obtain ⟨k', hk, hJ⟩ := hq
    refine ⟨⟨k', hJ⟩, ?_⟩
    obtain ⟨_, h3⟩ := hμ a' w' ⟨k', hJ⟩
    rcases Nat.lt_or_ge k' (μ a' w') with h4 | h4
    · exact absurd hJ (h3 k' h4)
    · omega
  | _ => exact hq

section
variable {w0 : World} {h0 h : Hp} {ρ : Nat → Loc} {st : St} {a : Act} {w : World}

/-- Fewer slots and objects are known. -/
theorem FitsAt.weaken (F : FitsAt w0 h0 h ρ st a w) (st2 : St) (hl : st2.tmps.length = st.tmps.length) (ht : ∀ (t : Nat) s, st2.tmps[t]? = some s → TRep h ρ a.tmps (a.tmps.getD t undef) s)
    (ho : ∀ id o, oget st2.objs id = some o → oget st.objs id = some o) : FitsAt w0 h0 h ρ st2 a w :=
  { F with
    size := by rw [F.size, hl]
    tm := ht
    obj := fun id o e => F.obj id o (ho id o e)
    inj := fun i j ⟨⟨o, e⟩, hi⟩ ⟨⟨o', e'⟩, hj⟩ hij => F.inj i j ⟨⟨o, ho i o e⟩, hi⟩ ⟨⟨o', ho j o' e'⟩, hj⟩ hij
    own := fun i ⟨⟨o, e⟩, hi⟩ => F.own i ⟨⟨o, ho i o e⟩, hi⟩ }

theorem FitsAt.reslot (F : FitsAt w0 h0 h ρ st a w) (t : Nat) (s : SV) (r : TRep h ρ a.tmps (a.tmps.getD t undef) s) : FitsAt w0 h0 h ρ { st with tmps := lset st.tmps t s } a w := by
  refine F.weaken _ (by simp [lset_eq]) (fun i s' hs => ?_) (fun _ _ e => e)
  simp only [lset_eq] at hs
  rw [List.getElem?_set] at hs
  by_cases h : t = i
  · subst h
    simp only [if_true] at hs
    split at hs
    · cases hs; exact r
    · cases hs
  · simp only [h, if_false] at hs
    exact F.tm i s' hs

theorem PRep.fix {v : Value} {sz sz' : Nat} {rows : List (List SV)} {tok : Nat} (r : PRep h v (.slice sz' rows tok)) (hz : sz' = sz ∨ sz' = 0) : PRep h v (.slice sz rows tok) := by
  rcases hz with rfl | rfl
  · exact r
  · cases r with
    | empty p cap _ _ ht h1 hn => exact .empty p cap _ _ ht h1 hn
    | slice _ _ _ _ _ _ _ hpos => exact absurd hpos (Nat.lt_irrefl 0)

theorem Rep.tok1 {v : Value} {sz : Nat} {rows : List (List SV)} (r : Rep h ρ v (.slice sz rows 1)) : PRep h v (.slice sz rows 1) := by
  cases r with
  | pure _ _ hp => exact hp

theorem Rep.tip_inv {v : Value} {sz id : Nat} {rows : List (List SV)} (r : Rep h ρ v (.slice sz rows (id + 2))) : ((ρ id).none = true ∧ PRep h v (.slice sz rows 1)) ∨
    ((ρ id).none = false ∧ 0 < sz ∧ (ρ id).len = rows.length ∧ (ρ id).sz = sz ∧ v = .slice (some ⟨(ρ id).blk, (ρ id).off, none⟩) rows.length (ρ id).cap ∧ PRep h v (.slice sz rows 0)) := by
  generalize hk : id + 2 = k at r
  cases r with
  | pure _ _ hp => cases hp with
    | empty _ _ _ _ ht => omega
    | slice _ _ _ _ _ _ _ _ _ _ _ ht => omega
  | tip0 id' _ _ _ hn hp =>
    have : id' = id := by omega
    subst this
    exact .inl ⟨hn, hp⟩
  | tip id' _ _ hn hpos hl hs hp =>
    have : id' = id := by omega
    subst this
    exact .inr ⟨hn, hpos, hl, hs, rfl, hp⟩

theorem tipStep_fits (F : FitsAt w0 h0 h ρ st a w) {t sz : Nat} {s1 : St} (hs : tipStep t sz st = some s1) : ∃ ρ', FitsAt w0 h0 h ρ' s1 a w ∧ s1.tmps.length = st.tmps.length := by
  unfold tipStep at hs
  split at hs
  · rename_i sz' rows tok hx
    cases hb : (Nat.blt 0 sz && (Nat.beq sz' sz || Nat.beq sz' 0)) with
    | false => simp [hb] at hs
    | true =>
      simp only [hb, cond_true] at hs
      simp only [Bool.and_eq_true, Bool.or_eq_true] at hb
      have hpos : 0 < sz := Nat.le_of_ble_eq_true hb.1
      have hz : sz' = sz ∨ sz' = 0 := hb.2.elim (fun e => .inl (Nat.eq_of_beq_eq_true e)) (fun e => .inr (Nat.eq_of_beq_eq_true e))
      have hr := F.slot [] (by simp) t
      rw [hx] at hr
      simp only [ungd] at hr
      split at hs
      · cases hs
      · cases hs
        have hp := hr.tok1
        have F1 := F.bind (16 * t + 15) .tip ⟨0, 0, 0, 0, 0, true⟩ (by simp only [killOb, ObOK, upd_same]; exact .inl trivial) (fun e => by simp at e) (fun e => by simp at e)
        refine ⟨_, F1.reslot t _ (TRep.of_rep' (.tip0 _ _ _ _ (by rw [upd_same]) (hp.fix hz))), by simp [lset_eq, St.bind, killL_length]⟩
      · rename_i id
        split at hs
        · rename_i hob
          cases hs
          have F0 : FitsAt w0 h0 h ρ { st with objs := odel st.objs id } a w := F.weaken _ rfl F.tm (fun i o e => by
            rw [oget_odel] at e
            split at e
            · cases e
            · exact e)
          have hobk := F.obj id _ hob
          have F1 := F0.bind (16 * t + 15) .tip (ρ id) (by simp only [killOb, ObOK, upd_same] at hobk ⊢; exact hobk) (fun hn => F.own id ⟨⟨_, hob⟩, hn⟩) (fun hn i hi hl => by
            obtain ⟨⟨o, ho⟩, hni⟩ := hl
            simp only [oget_odel] at ho
            split at ho
            · cases ho
            · rename_i hne
              exact F.inj i id ⟨⟨o, ho⟩, hni⟩ ⟨⟨_, hob⟩, hn⟩ (Ne.symm hne))
          refine ⟨_, F1.reslot t _ (TRep.of_rep' ?_), by simp [lset_eq, St.bind, killL_length]⟩
          rcases hr.tip_inv with ⟨hn, hp⟩ | ⟨hn, hpos', hl, hsz, hv, hp⟩
          · exact .tip0 _ _ _ _ (by rw [upd_same]; exact hn) (hp.fix hz)
          · have hz' : sz' = sz := hz.resolve_right (by omega)
            subst hz'
            have e : upd ρ (16 * t + 15) (ρ id) (16 * t + 15) = ρ id := upd_same _ _ _
            rw [hv] at hp ⊢
            generalize upd ρ (16 * t + 15) (ρ id) = ρ' at e ⊢
            rw [← e] at hn hl hsz hp ⊢
            exact .tip _ _ _ hn hpos' hl hsz hp
        · cases hs
  · cases hs

theorem tipAll_fits : ∀ (l : List (Nat × Sh)) {st s1 : St} {ρ : Nat → Loc}, FitsAt w0 h0 h ρ st a w → tipAll l st = some s1 → ∃ ρ', FitsAt w0 h0 h ρ' s1 a w ∧ s1.tmps.length = st.tmps.length
  | [], st, s1, ρ, F, e => by simp [tipAll] at e; subst e; exact ⟨ρ, F, rfl⟩
  | (t, .tip sz) :: r, st, s1, ρ, F, e => by
    simp only [tipAll, Option.bind_eq_some_iff] at e
    obtain ⟨s2, h1, h2⟩ := e
    obtain ⟨ρ1, F1, l1⟩ := tipStep_fits F h1
    obtain ⟨ρ2, F2, l2⟩ := tipAll_fits r F1 h2
    exact ⟨ρ2, F2, by omega⟩
  | (t, .int k) :: r, st, s1, ρ, F, e => tipAll_fits r F (by simpa [tipAll] using e)
  | (t, .bool) :: r, st, s1, ρ, F, e => tipAll_fits r F (by simpa [tipAll] using e)
  | (t, .str) :: r, st, s1, ρ, F, e => tipAll_fits r F (by simpa [tipAll] using e)
  | (t, .sl sz) :: r, st, s1, ρ, F, e => tipAll_fits r F (by simpa [tipAll] using e)

/-- The datum of a shape is read as what it was got from. -/
theorem Sh.get_rep {id : Nat} {s : Sh} {v : SV} {x : s.ty} (hg : s.get id v = some x) {u : Value} (r : Rep h ρ u v) : Rep h ρ u (s.sv id x) := by
  cases s with
  | int k =>
    cases v with
    | val v => cases v with
      | int k' n =>
        simp only [Sh.get] at hg
        by_cases hk : k = k'
        · subst hk; simp at hg; subst hg; exact r
        · simp [hk] at hg
      | _ => simp [Sh.get] at hg
    | _ => simp [Sh.get] at hg
  | bool =>
    cases v with
    | val v => cases v with
      | bool b => simp [Sh.get] at hg; subst hg; exact r
      | _ => simp [Sh.get] at hg
    | _ => simp [Sh.get] at hg
  | str =>
    cases v with
    | val v => cases v with
      | string b => simp [Sh.get] at hg; subst hg; exact r
      | _ => simp [Sh.get] at hg
    | _ => simp [Sh.get] at hg
  | sl sz =>
    cases v with
    | slice sz' rows tok =>
      simp only [Sh.get] at hg
      cases hb : (Nat.beq sz' sz || Nat.beq sz' 0) with
      | false => simp [hb] at hg
      | true =>
        simp [hb] at hg
        subst hg
        simp only [Bool.or_eq_true] at hb
        exact .pure _ _ (r.slice_pure.fix (hb.elim (fun e => .inl (Nat.eq_of_beq_eq_true e)) (fun e => .inr (Nat.eq_of_beq_eq_true e))))
    | _ => simp [Sh.get] at hg
  | tip sz =>
    cases v with
    | slice sz' rows tok =>
      simp only [Sh.get] at hg
      cases hb : (Nat.beq sz' sz && Nat.beq tok (id + 2)) with
      | false => simp [hb] at hg
      | true =>
        simp [hb] at hg
        subst hg
        simp only [Bool.and_eq_true] at hb
        have e1 := Nat.eq_of_beq_eq_true hb.1
        have e2 := Nat.eq_of_beq_eq_true hb.2
        subst e1; subst e2
        exact r
    | _ => simp [Sh.get] at hg

theorem applyI_mono {R : Type} : ∀ (ss : List Sh) (ids : List Nat) (f : ITy ss R) (vs : List SV) (K K' : R → Prop), (∀ x, K x → K' x) → applyI ss ids f vs K → applyI ss ids f vs K'
  | [], _, f, [], K, K', hk, h => hk _ h
  | s :: ss, id :: ids, f, v :: vs, K, K', hk, h => by
    simp only [applyI] at h ⊢
    split at h
    · exact applyI_mono ss ids _ vs K K' hk h
    · exact h.elim
  | [], _, _, _ :: _, _, _, _, h => h.elim
  | _ :: _, [], _, _, _, _, _, h => h.elim
  | _ :: _, _ :: _, _, [], _, _, _, h => h.elim

theorem applyI_both {R : Type} : ∀ (ss : List Sh) (ids : List Nat) (f : ITy ss R) (vs : List SV) (K K' : R → Prop), applyI ss ids f vs K → applyI ss ids f vs K' → ∃ x, K x ∧ K' x
  | [], _, f, [], K, K', h, h' => ⟨f, h, h'⟩
  | s :: ss, id :: ids, f, v :: vs, K, K', h, h' => by
    simp only [applyI] at h h'
    split at h
    · rename_i x hx
      simp only [hx] at h'
      exact applyI_both ss ids _ vs K K' h h'
    · exact h.elim
  | [], _, _, _ :: _, _, _, h, _ => h.elim
  | _ :: _, [], _, _, _, _, h, _ => h.elim
  | _ :: _, _ :: _, _, [], _, _, h, _ => h.elim

/-- A list of data, each as the shape has it. -/
def Norm (vs vs' : List SV) : Prop := vs'.length = vs.length ∧ (∀ (i : Nat) t b x, vs[i]? ≠ some (.gd t b x)) ∧ ∀ (h : Hp) (ρ : Nat → Loc) (i : Nat) v v' u, vs[i]? = some v → vs'[i]? = some v' → Rep h ρ u v → Rep h ρ u v'

/-- What holds for all values holds for those that data have. -/
theorem allI_get : ∀ (ss : List Sh) (ids : List Nat) (I : ITy ss Prop) (m : ITy ss Nat) (K : List SV → Nat → Prop) (vals : List SV), allI ss ids I m K → applyI ss ids I vals (fun p => p) →
    ∃ vs' k, Norm vals vs' ∧ K vs' k ∧ applyI ss ids m vals (fun k' => k' = k)
  | [], ids, I, m, K, [], ha, hi => ⟨[], m, ⟨rfl, by simp, by simp⟩, ha hi, rfl⟩
  | [], ids, I, m, K, _ :: _, ha, hi => hi.elim
  | s :: ss, [], I, m, K, vals, ha, hi => ha.elim
  | s :: ss, id :: ids, I, m, K, [], ha, hi => hi.elim
  | s :: ss, id :: ids, I, m, K, v :: vals, ha, hi => by
    simp only [applyI] at hi
    split at hi
    · rename_i x hx
      obtain ⟨vs', k, ⟨hl, hg, hn⟩, hk, hm⟩ := allI_get ss ids (I x) (m x) _ vals (ha x) hi
      refine ⟨s.sv id x :: vs', k, ⟨by simp [hl], fun i t b y e => ?_, fun h ρ i v1 v2 u h1 h2 r => ?_⟩, hk, ?_⟩
      · cases i with
        | zero => simp at e; subst e; cases s <;> simp [Sh.get] at hx
        | succ i => exact hg i t b y (by simpa using e)
      · cases i with
        | zero => simp at h1 h2; subst h1; subst h2; exact Sh.get_rep hx r
        | succ i => exact hn h ρ i v1 v2 u (by simpa using h1) (by simpa using h2) r
      · simp only [applyI, hx]; exact hm
    · exact hi.elim

theorem Norm.split {a1 a2 vs' : List SV} (n : Norm (a1 ++ a2) vs') : Norm a1 (vs'.take a1.length) ∧ Norm a2 (vs'.drop a1.length) := by
  obtain ⟨hl, hg, hn⟩ := n
  simp at hl
  refine ⟨⟨by simp; omega, fun i t b x e => ?_, fun h ρ i v v' u h1 h2 r => ?_⟩, ⟨by simp; omega, fun i t b x e => ?_, fun h ρ i v v' u h1 h2 r => ?_⟩⟩
  · have hi := (List.getElem?_eq_some_iff.1 e).1
    exact hg i t b x (by rw [List.getElem?_append, if_pos hi]; exact e)
  · have hi := (List.getElem?_eq_some_iff.1 h1).1
    refine hn h ρ i v v' u (by rw [List.getElem?_append, if_pos hi]; exact h1) ?_ r
    rw [List.getElem?_take, if_pos hi] at h2; exact h2
  · exact hg (a1.length + i) t b x (by rw [List.getElem?_append_right (by omega)]; simpa using e)
  · refine hn h ρ (a1.length + i) v v' u (by rw [List.getElem?_append_right (by omega)]; simpa using h1) ?_ r
    rw [List.getElem?_drop] at h2; exact h2

theorem oget_append (l1 l2 : List (Nat × Ob)) (id : Nat) : oget (l1 ++ l2) id = (oget l1 id).or (oget l2 id) := by
  induction l1 with
  | nil => simp [oget]
  | cons x xs ih =>
    obtain ⟨k, o⟩ := x
    rw [List.cons_append, oget_cons, oget_cons, ih]
    split <;> simp

theorem boxAt_some {objs : List (Nat × Ob)} {id : Nat} {cs : List SV} (h : boxAt objs id = some cs) : oget objs id = some (.box cs) := by
  unfold boxAt at h
  split at h
  · cases h; assumption
  · cases h

theorem boxes_ok (objs : List (Nat × Ob)) : ∀ (bs : List (Nat × List Sh)) (cs vs' : List SV), boxesAt objs bs = some cs → Norm cs vs' → ∀ id o, oget (mkBoxes bs vs') id = some o →
    ∃ c c', oget objs id = some (.box c) ∧ o = .box c' ∧ Norm c c'
  | [], cs, vs', _, _, id, o, e => by simp [mkBoxes, oget] at e
  | (k, shs) :: r, cs, vs', hb, n, id, o, e => by
    simp only [boxesAt] at hb
    split at hb
    · rename_i c rest h1 h2
      cases hlen : Nat.beq (lenN c) shs.length with
      | false => simp [hlen] at hb
      | true =>
        simp only [hlen, cond_true] at hb
        cases hb
        have hl : c.length = shs.length := by rw [← lenN_eq]; exact Nat.eq_of_beq_eq_true hlen
        obtain ⟨n1, n2⟩ := n.split
        simp only [mkBoxes, oget_cons, takeN_eq, dropN_eq] at e
        split at e
        · rename_i hk
          subst hk
          cases e
          rw [hl] at n1
          exact ⟨c, _, boxAt_some h1, rfl, n1⟩
        · rw [hl] at n2
          exact boxes_ok objs r rest _ h2 n2 id o e
    · cases hb

theorem fixed_ok (objs : List (Nat × Ob)) : ∀ (ids : List Nat) (fs : List (List SV)), fixedAt objs ids = some fs → ∀ id o, oget (mkFixed ids fs) id = some o → oget objs id = some o
  | [], fs, _, id, o, e => by simp [mkFixed, oget] at e
  | k :: r, fs, hf, id, o, e => by
    simp only [fixedAt] at hf
    split at hf
    · rename_i c rest h1 h2
      cases hf
      simp only [mkFixed, oget_cons] at e
      split at e
      · rename_i hk; subst hk; cases e; exact boxAt_some h1
      · exact fixed_ok objs r rest h2 id o e
    · cases hf

theorem tipIds_ok : ∀ (l : List (Nat × Sh)) (id : Nat) (o : Ob), oget (tipIds l) id = some o → o = .tip ∧ ∃ p ∈ tipIds l, p.1 = id
  | [], id, o, e => by simp [tipIds, oget] at e
  | (t, s) :: r, id, o, e => by
    cases s with
    | tip sz =>
      simp only [tipIds, oget_cons] at e
      split at e
      · rename_i hk; cases e; exact ⟨rfl, (16 * t + 15, .tip), by simp [tipIds], hk⟩
      · obtain ⟨h1, p, hp, e2⟩ := tipIds_ok r id o e
        exact ⟨h1, p, by simp [tipIds, hp], e2⟩
    | _ =>
      obtain ⟨h1, p, hp, e2⟩ := tipIds_ok r id o (by simpa [tipIds] using e)
      exact ⟨h1, p, by simpa [tipIds] using hp, e2⟩

theorem setSlots_get : ∀ (ts : List Nat) (vs l : List SV) (t : Nat) (s : SV), (setSlots ts vs l)[t]? = some s → (∃ i : Nat, ts[i]? = some t ∧ vs[i]? = some s) ∨ l[t]? = some s
  | [], vs, l, t, s, h => .inr (by simpa [setSlots] using h)
  | t0 :: ts, [], l, t, s, h => .inr (by simpa [setSlots] using h)
  | t0 :: ts, v :: vs, l, t, s, h => by
    simp only [setSlots] at h
    rcases setSlots_get ts vs _ t s h with ⟨i, h1, h2⟩ | h1
    · exact .inl ⟨i + 1, by simpa using h1, by simpa using h2⟩
    · rw [lset_eq, List.getElem?_set] at h1
      by_cases e : t0 = t
      · subst e
        simp only [if_true] at h1
        split at h1
        · cases h1; exact .inl ⟨0, rfl, rfl⟩
        · cases h1
      · simp only [e, if_false] at h1; exact .inr h1

theorem setSlots_length : ∀ (ts : List Nat) (vs l : List SV), (setSlots ts vs l).length = l.length
  | [], vs, l => by simp [setSlots]
  | t0 :: ts, [], l => by simp [setSlots]
  | t0 :: ts, v :: vs, l => by simp [setSlots, setSlots_length ts vs, lset_eq]

theorem head_fits (F : FitsAt w0 h0 h ρ st a w) {sp : LoopSpec} {hd : Head} (hh : headOf sp st = some hd) {vs' : List SV} (hn : Norm hd.vals vs') :
    Fits w0 h0 (mkHead sp (lenN st.tmps) vs' hd.live hd.fixed) a w := by
  unfold headOf at hh
  split at hh
  · cases hh
  · rename_i s1 htip
    split at hh
    · rename_i cs fs hcs hfs
      cases hb : headOK sp s1 with
      | false => simp [hb] at hh
      | true =>
        simp only [hb, cond_true] at hh
        simp only [headOK, Bool.and_eq_true] at hb
        cases hh
        obtain ⟨ρ1, F1, hl1⟩ := tipAll_fits sp.slots F htip
        obtain ⟨n1, n2⟩ := hn.split
        simp only [List.length_map] at n1 n2
        have hobj : ∀ id o, oget (mkHead sp (lenN st.tmps) vs' (sp.live.map (lget s1.tmps)) fs).objs id = some o → ObOK h ρ1 w id o ∧ ∃ o', oget s1.objs id = some o' := by
          intro id o e
          simp only [mkHead, oget_append, dropN_eq] at e
          cases e1 : oget (tipIds sp.slots) id with
          | some o1 =>
            simp [e1] at e
            subst e
            obtain ⟨rfl, p, hp, rfl⟩ := tipIds_ok _ _ _ e1
            have := (List.all_eq_true.1 hb.1.1.1) p hp
            have ho : oget s1.objs p.1 = some .tip := by
              unfold isTip at this
              split at this
              · assumption
              · cases this
            exact ⟨F1.obj _ _ ho, _, ho⟩
          | none =>
            simp [e1] at e
            cases e2 : oget (mkBoxes sp.boxes (vs'.drop sp.slots.length)) id with
            | some o2 =>
              simp [e2] at e
              subst e
              obtain ⟨c, c', ho, rfl, nc⟩ := boxes_ok s1.objs sp.boxes cs _ hcs n2 id _ e2
              obtain ⟨hn0, ⟨cv, t, hcv, hsz, hcell⟩, hno⟩ := F1.obj id _ ho
              refine ⟨⟨hn0, ⟨cv, t, hcv, by rw [nc.1]; exact hsz, fun i v c2 hv hc2 => ?_⟩, hno⟩, _, ho⟩
              have hi : i < c.length := by have := (List.getElem?_eq_some_iff.1 hc2).1; rw [nc.1] at this; exact this
              obtain ⟨r1, r2⟩ := hcell i v _ hv (List.getElem?_eq_getElem hi)
              exact ⟨nc.2.2 h ρ1 i _ c2 v (List.getElem?_eq_getElem hi) hc2 r1, r2⟩
            | none =>
              simp [e2] at e
              have ho := fixed_ok s1.objs sp.fixed fs hfs id o e
              exact ⟨F1.obj id o ho, _, ho⟩
        refine ⟨h, ρ1, { F1 with size := ?_, tm := fun t s hs => ?_, obj := fun id o e => (hobj id o e).1, inj := fun i j ⟨⟨o, e⟩, hi⟩ ⟨⟨o', e'⟩, hj⟩ hij => F1.inj i j ⟨(hobj i o e).2, hi⟩ ⟨(hobj j o' e').2, hj⟩ hij, own := fun i ⟨⟨o, e⟩, hi⟩ => F1.own i ⟨(hobj i o e).2, hi⟩ }⟩
        · simp only [mkHead, setSlots_length, List.length_replicate, lenN_eq]; rw [F1.size, hl1]
        · simp only [mkHead] at hs
          rcases setSlots_get _ _ _ t s hs with ⟨i, h1, h2⟩ | h1
          · rw [List.getElem?_map] at h1
            cases hp : sp.slots[i]? with
            | none => simp [hp] at h1
            | some p =>
              simp [hp] at h1
              subst h1
              have hi : i < sp.slots.length := (List.getElem?_eq_some_iff.1 hp).1
              have hv : (sp.slots.map (fun p => lget s1.tmps p.1))[i]? = some (lget s1.tmps p.1) := by simp [hp]
              have hr := F1.slot [] (by simp) p.1
              have hng : ∀ t b x, lget s1.tmps p.1 ≠ .gd t b x := fun t b x e => n1.2.1 i t b x (by rw [hv, e])
              rw [ungd_ne hng] at hr
              exact TRep.of_rep' (n1.2.2 h ρ1 i _ s _ hv (by rw [List.getElem?_take, if_pos hi]; exact h2) hr)
          · rcases setSlots_get _ _ _ t s h1 with ⟨i, h1, h2⟩ | h1
            · rw [List.getElem?_map] at h2
              rw [h1] at h2
              simp at h2
              subst h2
              rw [lget_eq]
              cases hx : s1.tmps[t]? with
              | none => exact TRep.rep_unk _ _
              | some s2 => exact F1.tm t s2 hx
            · rw [List.getElem?_replicate] at h1
              split at h1
              · cases h1; exact TRep.rep_unk _ _
              · cases h1
    · cases hh

end
end Go.Px

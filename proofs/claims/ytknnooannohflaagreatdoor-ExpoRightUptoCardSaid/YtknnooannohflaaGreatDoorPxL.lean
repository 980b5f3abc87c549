/- Loops: what stands at a loop's head. -/
import Derived.Test.YtknnooannohflaaGreatDoorPxR
namespace Go.Px
open Go.RowKit
set_option linter.unusedVariables false

theorem exists_min {p : Nat → Prop} : ∀ n, p n → ∃ k, p k ∧ ∀ j, j < k → ¬ p j := by
  intro n
  induction n using Nat.strongRecOn with
  | _ n ih =>
    intro hn
    by_cases h : ∃ j, j < n ∧ p j
    · obtain ⟨j, hj, pj⟩ := h; exact ih j hj pj
    · exact ⟨n, hn, fun j hj pj => h ⟨j, hj, pj⟩⟩

/-- A loop whose measure is a number that the relation names. -/
theorem wp_loop_rel {P : Program} {c : Code} {Q : Exit → Act → World → Prop} {a : Act} {w : World} (J : Nat → Act → World → Prop) (k₀ : Nat) (h₀ : J k₀ a w)
    (round : ∀ k a w, J k a w → c.wp P (Exit.then (fun a' w' => ∃ k', k' < k ∧ J k' a' w') Q) a w) : (Code.loop c).wp P Q a w := by
  classical
  let μ : Act → World → Nat := fun a w => if h : ∃ k, J k a w then Classical.choose (exists_min (p := fun k => J k a w) _ h.choose_spec) else 0
  have hμ : ∀ a w, (∃ k, J k a w) → J (μ a w) a w ∧ ∀ j, j < μ a w → ¬ J j a w := by
    intro a w h
    simp only [μ, dif_pos h]
    exact Classical.choose_spec (exists_min (p := fun k => J k a w) _ h.choose_spec)
  refine wp_loop (fun a w => ∃ k, J k a w) μ ⟨k₀, h₀⟩ fun a w h => ?_
  obtain ⟨h1, _⟩ := hμ a w h
  refine wp_mono (round _ a w h1) fun e a' w' hq => ?_
  cases e with
  | normal =>
    obtain ⟨k', hk, hJ⟩ := hq
    refine ⟨⟨k', hJ⟩, ?_⟩
    obtain ⟨_, h3⟩ := hμ a' w' ⟨k', hJ⟩
    rcases Nat.lt_or_ge k' (μ a' w') with h4 | h4
    · exact absurd hJ (h3 k' h4)
    · omega
  | _ => exact hq

theorem hasN_iff {l : List Nat} {n : Nat} : hasN l n = true ↔ n ∈ l := by
  unfold hasN
  rw [List.any_eq_true]
  constructor
  · rintro ⟨x, hx, e⟩; rw [Nat.eq_of_beq_eq_true e]; exact hx
  · intro h; exact ⟨n, h, Nat.beq_refl n⟩

/-- The datum of a shape that another datum is. -/
def Nrm (d d' : SV) : Prop := d' = d ∨ ∃ sz rows tok sz', d = .slice sz rows tok ∧ d' = .slice sz' rows 0 ∧ (sz = sz' ∨ sz = 0)

def Nrms (vs vs' : List SV) : Prop := vs'.length = vs.length ∧ ∀ (i : Nat) v v', vs[i]? = some v → vs'[i]? = some v' → Nrm v v'

theorem Nrms.split {a1 a2 vs' : List SV} (n : Nrms (a1 ++ a2) vs') : Nrms a1 (vs'.take a1.length) ∧ Nrms a2 (vs'.drop a1.length) := by
  obtain ⟨hl, hn⟩ := n
  simp at hl
  refine ⟨⟨by simp; omega, fun i v v' h1 h2 => ?_⟩, ⟨by simp; omega, fun i v v' h1 h2 => ?_⟩⟩
  · have hi := (List.getElem?_eq_some_iff.1 h1).1
    refine hn i v v' (by rw [List.getElem?_append, if_pos hi]; exact h1) ?_
    rw [List.getElem?_take, if_pos hi] at h2; exact h2
  · refine hn (a1.length + i) v v' (by rw [List.getElem?_append_right (by omega)]; simpa using h1) ?_
    rw [List.getElem?_drop] at h2; exact h2

theorem Sh.get_nrm {s : Sh} {v : SV} {x : s.ty} (hg : s.get v = some x) : Nrm v (s.sv x) := by
  cases s with
  | int k =>
    cases v with
    | val v => cases v with
      | int k' n =>
        simp only [Sh.get] at hg
        by_cases hk : k = k'
        · subst hk; simp at hg; subst hg; exact .inl rfl
        · simp [hk] at hg
      | _ => simp [Sh.get] at hg
    | _ => simp [Sh.get] at hg
  | bool =>
    cases v with
    | val v => cases v with
      | bool b => simp [Sh.get] at hg; subst hg; exact .inl rfl
      | _ => simp [Sh.get] at hg
    | _ => simp [Sh.get] at hg
  | str =>
    cases v with
    | val v => cases v with
      | string b => simp [Sh.get] at hg; subst hg; exact .inl rfl
      | _ => simp [Sh.get] at hg
    | _ => simp [Sh.get] at hg
  | sl sz =>
    cases v with
    | slice sz' rows tok =>
      simp only [Sh.get] at hg
      cases hb : (Nat.beq sz' sz || Nat.beq sz' 0) with
      | false => simp [hb] at hg
      | true =>
        simp [hb] at hg
        subst hg
        simp only [Bool.or_eq_true] at hb
        exact .inr ⟨sz', rows, tok, sz, rfl, rfl, hb.elim (fun e => .inl (Nat.eq_of_beq_eq_true e)) (fun e => .inr (Nat.eq_of_beq_eq_true e))⟩
    | _ => simp [Sh.get] at hg
  | own sz =>
    cases v with
    | slice sz' rows tok =>
      simp only [Sh.get] at hg
      cases hb : (Nat.beq sz' sz || Nat.beq sz' 0) with
      | false => simp [hb] at hg
      | true =>
        simp [hb] at hg
        subst hg
        simp only [Bool.or_eq_true] at hb
        exact .inr ⟨sz', rows, tok, sz, rfl, rfl, hb.elim (fun e => .inl (Nat.eq_of_beq_eq_true e)) (fun e => .inr (Nat.eq_of_beq_eq_true e))⟩
    | _ => simp [Sh.get] at hg
  | mp =>
    cases v with
    | mapv es => simp [Sh.get] at hg; subst hg; exact .inl rfl
    | _ => simp [Sh.get] at hg
  | cpx k =>
    cases v with
    | val v => cases v with
      | complex k' a b =>
        simp only [Sh.get] at hg
        by_cases hk : k = k'
        · subst hk; simp at hg; subst hg; exact .inl rfl
        · simp [hk] at hg
      | _ => simp [Sh.get] at hg
    | _ => simp [Sh.get] at hg
  | arr kd m =>
    cases v with
    | arr kd' m' ns =>
      simp only [Sh.get] at hg
      cases hb : (decide (kd = kd') && Nat.beq m m') with
      | false => simp [hb] at hg
      | true =>
        simp [hb] at hg
        subst hg
        simp only [Bool.and_eq_true, decide_eq_true_eq] at hb
        obtain ⟨rfl, h2⟩ := hb
        have := Nat.eq_of_beq_eq_true h2
        subst this
        exact .inl rfl
    | _ => simp [Sh.get] at hg

theorem ownHA_eq {id : Nat} {v : SV} {p : SV × Ob} (h : ownH id v = some p) : ownHA id v = some p := by
  cases v <;> first | exact h | (simp [ownH] at h)

theorem applyI_both {R : Type} : ∀ (ss : List Sh) (f : ITy ss R) (vs : List SV) (K K' : R → Prop), applyI ss f vs K → applyI ss f vs K' → ∃ x, K x ∧ K' x
  | [], f, [], K, K', h, h' => ⟨f, h, h'⟩
  | s :: ss, f, v :: vs, K, K', h, h' => by
    simp only [applyI] at h h'
    split at h
    · rename_i x hx
      simp only [hx] at h'
      exact applyI_both ss _ vs K K' h h'
    · exact h.elim
  | [], _, _ :: _, _, _, h, _ => h.elim
  | _ :: _, _, [], _, _, h, _ => h.elim

/-- What holds for all values holds for those that data have. -/
theorem allI_get : ∀ (ss : List Sh) (I : ITy ss Prop) (m : ITy ss Nat) (K : List SV → Nat → Prop) (vals : List SV), allI ss I m K → applyI ss I vals (fun p => p) →
    ∃ vs' k, Nrms vals vs' ∧ K vs' k ∧ applyI ss m vals (fun k' => k' = k)
  | [], I, m, K, [], ha, hi => ⟨[], m, ⟨rfl, by simp⟩, ha hi, rfl⟩
  | [], I, m, K, _ :: _, ha, hi => hi.elim
  | s :: ss, I, m, K, [], ha, hi => hi.elim
  | s :: ss, I, m, K, v :: vals, ha, hi => by
    simp only [applyI] at hi
    split at hi
    · rename_i x hx
      obtain ⟨vs', k, ⟨hl, hn⟩, hk, hm⟩ := allI_get ss (I x) (m x) _ vals (ha x) hi
      refine ⟨s.sv x :: vs', k, ⟨by simp [hl], fun i v1 v2 h1 h2 => ?_⟩, hk, ?_⟩
      · cases i with
        | zero => simp at h1 h2; subst h1; subst h2; exact Sh.get_nrm hx
        | succ i => exact hn i v1 v2 (by simpa using h1) (by simpa using h2)
      · simp only [applyI, hx]; exact hm
    · exact hi.elim

section
variable {X : Cx} {h : Hp} {ρ ρ' : Nat → Loc} {st : St} {a : Act} {w : World} {objs : List (Nat × Ob)}

theorem Nrm.rep {d d' : SV} (n : Nrm d d') {v : Value} (r : Rep h ρ v d) : Rep h ρ v d' := by
  rcases n with rfl | ⟨sz, rows, tok, sz', rfl, rfl, hz⟩
  · exact r
  · cases r with
    | pure _ _ hp =>
      refine .pure _ _ (hp.tok0.fix ?_)
      rcases hz with e | e
      · exact .inl e
      · exact .inr e

theorem Nrm.own {d d' : SV} (n : Nrm d d') {id : Nat} {hd : SV} {o : Ob} (e : ownH id d = some (hd, o)) : ∃ o', ownH id d' = some (hd, o') ∧ (∀ x, o' ≠ .box x) ∧ ∀ (h : Hp) (ρ : Nat → Loc) (w : World), ObOK h ρ w id o → ObOK h ρ w id o' := by
  rcases n with rfl | ⟨sz, rows, tok, sz', rfl, rfl, hz⟩
  · refine ⟨o, e, ?_, fun _ _ _ r => r⟩
    unfold ownH at e
    split at e
    · cases e; simp
    · cases e; simp
    · cases e
  · simp only [ownH] at e
    cases e
    refine ⟨.own sz' rows, rfl, by simp, fun h ρ w r => ?_⟩
    rcases r with ⟨hn, hr⟩ | ⟨hn, o⟩
    · exact .inl ⟨hn, hr⟩
    · have : sz = sz' := hz.resolve_right (by have := o.pos; omega)
      subst this
      exact .inr ⟨hn, o⟩

/-- Cells that are lent, in another spelling. -/
theorem lend_norm (id : Nat) : ∀ (ds ds' : List SV) (j : Nat) (ms : List Bool) (cs : List SV) (os : List (Nat × Ob)), Nrms ds ds' → lendCells id j ms ds = some (cs, os) →
    ∃ cs2 os2, lendCells id j ms ds' = some (cs2, os2) ∧ cs2.length = cs.length ∧ (∀ (h : Hp) (ρ : Nat → Loc) (i : Nat) v c c', cs[i]? = some c → cs2[i]? = some c' → Rep h ρ v c → Rep h ρ v c') ∧
      (∀ c o2, (c, o2) ∈ os2 → (∀ x, o2 ≠ .box x) ∧ ∃ o, (c, o) ∈ os ∧ ∀ (h : Hp) (ρ : Nat → Loc) (w : World), ObOK h ρ w c o → ObOK h ρ w c o2)
  | [], [], j, ms, cs, os, _, e => by
    simp [lendCells] at e
    obtain ⟨rfl, rfl⟩ := e
    exact ⟨[], [], rfl, rfl, by simp, by simp⟩
  | [], _ :: _, j, ms, cs, os, n, e => by have := n.1; simp at this
  | _ :: _, [], j, ms, cs, os, n, e => by have := n.1; simp at this
  | d :: ds, d' :: ds', j, ms, cs, os, n, e => by
    have n0 : Nrm d d' := n.2 0 d d' rfl rfl
    have nr : Nrms ds ds' := ⟨by have := n.1; simpa using this, fun i v v' h1 h2 => n.2 (i + 1) v v' (by simpa using h1) (by simpa using h2)⟩
    simp only [lendCells] at e
    split at e
    · cases e
    · rename_i cs1 os1 h1
      obtain ⟨cs2, os2, e1, e2, e3, e4⟩ := lend_norm id ds ds' (j + 1) ms.tail cs1 os1 nr h1
      cases hm : ms.headD false with
      | true =>
        simp only [hm, cond_true] at e
        split at e
        · rename_i hd o ho
          cases e
          obtain ⟨o', g1, g2, g3⟩ := n0.own ho
          refine ⟨hd :: cs2, (cellId id ms j, o') :: os2, by simp only [lendCells, e1, hm, cond_true, g1], by simp [e2], fun h ρ i v c c' hc hc' r => ?_, fun c o2 hm' => ?_⟩
          · cases i with
            | zero => simp at hc hc'; subst hc; subst hc'; exact r
            | succ i => exact e3 h ρ i v c c' (by simpa using hc) (by simpa using hc') r
          · rcases List.mem_cons.1 hm' with e' | hm'
            · cases e'; exact ⟨g2, o, by simp, g3⟩
            · obtain ⟨q1, o0, q2, q3⟩ := e4 c o2 hm'
              exact ⟨q1, o0, by simp [q2], q3⟩
        · cases e
      | false =>
        simp only [hm, cond_false] at e
        cases e
        refine ⟨d' :: cs2, os2, by simp only [lendCells, e1, hm, cond_false], by simp [e2], fun h ρ i v c c' hc hc' r => ?_, e4⟩
        cases i with
        | zero => simp at hc hc'; subst hc; subst hc'; exact n0.rep r
        | succ i => exact e3 h ρ i v c c' (by simpa using hc) (by simpa using hc') r

theorem fixL'_nil (P : Program) (ds : List SV) : fixL' P [] ds = ds := by cases ds <;> rfl

theorem passCells_len : ∀ (cid j : Nat) (ms : List Bool) (cs ds : List SV) (ids : List (Option Nat × Nat)), passCells objs cid j ms cs = some (ds, ids) → ds.length = cs.length
  | cid, j, ms, [], ds, ids, e => by simp [passCells] at e; simp [e.1]
  | cid, j, ms, c :: cs, ds, ids, e => by
    simp only [passCells] at e
    split at e
    · rename_i d l ds' ls h1 h2
      cases e
      simp [passCells_len cid (j + 1) ms.tail cs ds' ls h2]
    · cases e

/-- Cells that stand at a loop's head. -/
theorem headCells_sound (hob : ∀ id o, oget objs id = some o → ObOK h ρ w id o) (cid : Nat) {cs ds ds' : List SV} {ms : List Bool} {ids : List (Option Nat × Nat)} (e : passCells objs cid 0 ms cs = some (ds, ids)) (hp : Pulls ids ρ ρ') (n : Nrms ds ds') :
    ∃ cs' os, lendCells cid 0 ms ds' = some (cs', os) ∧ cs'.length = cs.length ∧ (∀ (i : Nat) v c c', cs[i]? = some c → cs'[i]? = some c' → Rep h ρ v c → Rep h ρ' v c') ∧ PassOK objs h ρ' w ids os := by
  obtain ⟨cs1, os1, e1, e2, e3, e4, e5, _⟩ := passCells_sound (P := (default : Program)) hob cid cs 0 ms [] ds ids e hp
  rw [fixL'_nil] at e1
  obtain ⟨cs2, os2, g1, g2, g3, g4⟩ := lend_norm cid ds ds' 0 ms cs1 os1 n e1
  refine ⟨cs2, os2, g1, by omega, fun i v c c' hc hc' r => ?_, ⟨fun c o hm => ?_, fun c o hm => ?_, e4.here⟩⟩
  · have hi : i < cs1.length := by have := (List.getElem?_eq_some_iff.1 hc').1; omega
    exact g3 h ρ' i v _ c' (List.getElem?_eq_getElem hi) hc' (e3 i v c _ hc (List.getElem?_eq_getElem hi) r)
  · obtain ⟨_, o0, q1, q2⟩ := g4 c o hm
    exact q2 h ρ' w (e4.ob c o0 q1)
  · obtain ⟨_, o0, q1, _⟩ := g4 c o hm
    exact e4.at_ c o0 q1

theorem slots_ok (F : FitsAt X h ρ st a w) : ∀ (l : List (Nat × Bool × List Sh)) (ds vs tm tm' rest : List SV) (ids : List (Option Nat × Nat)) (os : List (Nat × Ob)), headSlots st l = some (ds, ids) → Pulls ids ρ ρ' → Nrms ds (vs.take ds.length) →
    mkSlots l vs tm = some (tm', os, rest) → rest = vs.drop ds.length ∧ PassOK st.objs h ρ' w ids os ∧ tm'.length = tm.length ∧ ∀ (t : Nat) s, tm'[t]? = some s → tm[t]? = some s ∨ Rep h ρ' (a.tmps.getD t undef) s
  | [], ds, vs, tm, tm', rest, ids, os, e, hp, n, hm => by
    simp [headSlots] at e
    obtain ⟨rfl, rfl⟩ := e
    simp [mkSlots] at hm
    obtain ⟨rfl, rfl, rfl⟩ := hm
    exact ⟨by simp, PassOK.nil, rfl, fun t s hs => .inl hs⟩
  | (t, ag, ss) :: r, ds, vs, tm, tm', rest, ids, os, e, hp, n, hm => by
    simp only [headSlots] at e
    split at e
    · rename_i d l ds2 ls h1 h2
      cases e
      have hsplit := Nrms.split (a1 := d) (a2 := ds2) n
      obtain ⟨n1, n2⟩ := hsplit
      have hlen := n.1
      simp at hlen
      rw [List.take_take] at n1
      rw [show min d.length (d ++ ds2).length = d.length by simp] at n1
      have n2' : Nrms ds2 ((vs.drop d.length).take ds2.length) := by
        rw [List.drop_take] at n2
        simpa using n2
      have key : ∃ cs, passCells st.objs (128 * t + 95) 0 (ownMs ss) cs = some (d, l) ∧ d.length = ss.length ∧ ((ag = true ∧ lget st.tmps t = .agg cs) ∨ (ag = false ∧ cs = [lget st.tmps t])) := by
        split at h1
        · rename_i cs heq
          cases hb : Nat.beq (lenN cs) ss.length with
          | false => simp [hb] at h1
          | true =>
            simp only [hb, cond_true] at h1
            have := passCells_len _ _ _ _ _ _ h1
            have hb := Nat.eq_of_beq_eq_true hb
            rw [lenN_eq] at hb
            exact ⟨cs, h1, by omega, .inl ⟨rfl, heq⟩⟩
        · cases hb : Nat.beq ss.length 1 with
          | false => simp [hb] at h1
          | true =>
            simp only [hb, cond_true] at h1
            have := passCells_len _ _ _ _ _ _ h1
            have hb := Nat.eq_of_beq_eq_true hb
            simp at this
            exact ⟨_, h1, by omega, .inr ⟨rfl, rfl⟩⟩
        · cases h1
      obtain ⟨cs, hpc, hdl, hcase⟩ := key
      simp only [mkSlots, takeN_eq, dropN_eq] at hm
      rw [← hdl] at hm
      obtain ⟨cs', os1, g1, g2, g3, g4⟩ := headCells_sound F.obj (128 * t + 95) hpc hp.left n1
      simp only [g1] at hm
      split at hm
      · rename_i tm1 os2 vs2 hm2
        cases hm
        obtain ⟨q1, q2, q3, q4⟩ := slots_ok F r ds2 _ _ tm' rest ls os2 h2 hp.right n2' hm2
        refine ⟨by rw [q1, List.drop_drop]; simp, g4.append q2, by rw [q3]; simp [lset_eq], fun k s hs => ?_⟩
        rcases q4 k s hs with hs | hs
        · rw [lset_eq, List.getElem?_set] at hs
          by_cases hk : t = k
          · subst hk
            simp only [if_true] at hs
            split at hs
            · cases hs
              right
              have hsl := F.slot [] (by simp) t
              rcases hcase with ⟨rfl, heq⟩ | ⟨rfl, rfl⟩
              · rw [heq] at hsl
                simp only [ungd] at hsl
                obtain ⟨va, hv, hvl, hvr⟩ := hsl.agg_inv'
                rw [hv]
                refine .agg va cs' (by omega) fun i v c hv hc => ?_
                have hi : i < cs.length := by have := (List.getElem?_eq_some_iff.1 hc).1; omega
                exact g3 i v _ c (List.getElem?_eq_getElem hi) hc (hvr i v _ hv (List.getElem?_eq_getElem hi))
              · match cs', g2 with
                | [c], _ =>
                  simp only
                  have hng : ∀ t' b x, lget st.tmps t ≠ .gd t' b x := by
                    intro t' b x e
                    rw [e] at hpc
                    simp only [passCells] at hpc
                    cases hmm : (ownMs ss).headD false <;> simp [passOwn, pureCell] at hpc
                  rw [ungd_ne hng] at hsl
                  exact g3 0 _ _ c rfl rfl hsl
            · cases hs
          · simp only [hk, if_false] at hs
            exact .inl hs
        · exact .inr hs
      · cases hm
    · cases e

theorem boxes_ok (hob : ∀ id o, oget objs id = some o → ObOK h ρ w id o) : ∀ (l : List (Nat × List Sh)) (ds vs rest : List SV) (ids : List (Option Nat × Nat)) (os : List (Nat × Ob)), headBoxes objs l = some (ds, ids) → Pulls ids ρ ρ' → Nrms ds (vs.take ds.length) →
    mkBoxes l vs = some (os, rest) → rest = vs.drop ds.length ∧ PassOK objs h ρ' w ids os
  | [], ds, vs, rest, ids, os, e, hp, n, hm => by
    simp [headBoxes] at e
    obtain ⟨rfl, rfl⟩ := e
    simp [mkBoxes] at hm
    obtain ⟨rfl, rfl⟩ := hm
    exact ⟨by simp, PassOK.nil⟩
  | (id, ss) :: r, ds, vs, rest, ids, os, e, hp, n, hm => by
    simp only [headBoxes] at e
    split at e
    · rename_i d l ds2 ls h1 h2
      cases e
      obtain ⟨n1, n2⟩ := Nrms.split (a1 := d) (a2 := ds2) n
      rw [List.take_take] at n1
      rw [show min d.length (d ++ ds2).length = d.length by simp] at n1
      have n2' : Nrms ds2 ((vs.drop d.length).take ds2.length) := by
        rw [List.drop_take] at n2
        simpa using n2
      split at h1
      · rename_i cs ho
        cases hb : Nat.beq (lenN cs) ss.length with
        | false => simp [hb] at h1
        | true =>
          simp only [hb, cond_true] at h1
          have hb := Nat.eq_of_beq_eq_true hb
          rw [lenN_eq] at hb
          have hdl : d.length = ss.length := by have := passCells_len _ _ _ _ _ _ h1; omega
          have hloc : ρ' id = ρ id := hp (some id, id) (by simp)
          have hp1 : Pulls l ρ ρ' := fun p hm' => hp p (by simp [hm'])
          have hp2 : Pulls ls ρ ρ' := fun p hm' => hp p (by simp [hm'])
          obtain ⟨cs', os1, g1, g2, g3, g4⟩ := headCells_sound hob id h1 hp1 n1
          simp only [mkBoxes, takeN_eq, dropN_eq] at hm
          rw [← hdl, g1] at hm
          split at hm
          · rename_i cs1 os1' os2 vs2 hc1 hm2
            cases hc1
            cases hm
            obtain ⟨q1, q2⟩ := boxes_ok hob r ds2 _ rest ls os2 h2 hp2 n2' hm2
            obtain ⟨hn0, ⟨cv, t, hcv, hsz, hcell⟩, hno⟩ := hob id _ ho
            refine ⟨by rw [q1, List.drop_drop]; simp, ?_⟩
            have hbox : PassOK objs h ρ' w [(some id, id)] [(id, .box cs')] := by
              refine ⟨fun c o hm' => ?_, fun c o hm' => ?_, fun i c hm' => ?_⟩
              · simp at hm'
                obtain ⟨rfl, rfl⟩ := hm'
                refine ⟨by rw [hloc]; exact hn0, ⟨cv, t, by rw [hloc]; exact hcv, by omega, fun i v c hv hc => ?_⟩, by rw [hloc]; exact hno⟩
                have hi : i < cs.length := by have := (List.getElem?_eq_some_iff.1 hc).1; omega
                obtain ⟨r1, r2⟩ := hcell i v _ hv (List.getElem?_eq_getElem hi)
                exact ⟨g3 i v _ c (List.getElem?_eq_getElem hi) hc r1, r2⟩
              · simp at hm'; exact ⟨(some id, id), by simp, hm'.1.symm⟩
              · simp at hm'; rw [hm'.1]; exact ⟨_, ho⟩
            have := (hbox.append g4).append q2
            simpa using this
          · cases hm
      · cases h1
    · cases e

theorem owns_ok (hob : ∀ id o, oget objs id = some o → ObOK h ρ w id o) : ∀ (l : List (Nat × Sh)) (ds vs : List SV) (ids : List (Option Nat × Nat)) (os : List (Nat × Ob)), headOwns objs l = some (ds, ids) → Pulls ids ρ ρ' → Nrms ds vs →
    mkOwns l vs = some os → PassOK objs h ρ' w ids os
  | [], ds, vs, ids, os, e, hp, n, hm => by
    simp [headOwns] at e
    obtain ⟨rfl, rfl⟩ := e
    simp [mkOwns] at hm
    subst hm
    exact PassOK.nil
  | (id, s) :: r, ds, vs, ids, os, e, hp, n, hm => by
    simp only [headOwns] at e
    split at e
    · rename_i d ds2 ls h1 h2
      cases e
      cases vs with
      | nil => simp [mkOwns] at hm
      | cons v vs =>
        simp only [mkOwns] at hm
        split at hm
        · rename_i hd o os2 ho hm2
          cases hm
          have n0 : Nrm d v := n.2 0 d v rfl rfl
          have nr : Nrms ds2 vs := ⟨by have := n.1; simpa using this, fun i x x' h1 h2 => n.2 (i + 1) x x' (by simpa using h1) (by simpa using h2)⟩
          have hloc : ρ' id = ρ id := hp (some id, id) (by simp)
          have hp2 : Pulls ls ρ ρ' := fun p hm' => hp p (by simp [hm'])
          have q := owns_ok hob r ds2 vs ls os2 h2 hp2 nr hm2
          have pure : ∀ (o0 : Ob), oget objs id = some o0 → (∃ hd0, ownH id d = some (hd0, o0)) → (∀ x, o0 ≠ .box x) → PassOK objs h ρ' w [(some id, id)] [(id, o)] := by
            rintro o0 ho0 ⟨hd0, hown⟩ hnb
            obtain ⟨o', g1, g2, g3⟩ := n0.own hown
            rw [ownHA_eq g1] at ho
            cases ho
            refine ⟨fun c o' hm' => ?_, fun c o' hm' => ?_, fun i c hm' => ?_⟩
            · simp at hm'
              obtain ⟨rfl, rfl⟩ := hm'
              exact g3 h ρ' w ((hob c o0 ho0).move hnb hloc)
            · simp at hm'; exact ⟨(some id, id), by simp, hm'.1.symm⟩
            · simp at hm'; rw [hm'.1]; exact ⟨_, ho0⟩
          have hone : PassOK objs h ρ' w [(some id, id)] [(id, o)] := by
            split at h1
            · rename_i sz rows ho0; cases h1; exact pure _ ho0 ⟨_, rfl⟩ (by simp)
            · rename_i es ho0; cases h1; exact pure _ ho0 ⟨_, rfl⟩ (by simp)
            · rename_i kd m ns ho0
              cases h1
              have hv : v = .arr kd m ns := by
                rcases n0 with e | ⟨_, _, _, _, e, _⟩
                · exact e
                · cases e
              subst hv
              simp [ownHA] at ho
              obtain ⟨rfl, rfl⟩ := ho
              refine ⟨fun c o' hm' => ?_, fun c o' hm' => ?_, fun i c hm' => ?_⟩
              · simp at hm'
                obtain ⟨rfl, rfl⟩ := hm'
                exact (hob c _ ho0).move (by simp) hloc
              · simp at hm'; exact ⟨(some id, id), by simp, hm'.1.symm⟩
              · simp at hm'; rw [hm'.1]; exact ⟨_, ho0⟩
            · cases h1
          exact hone.append q
        · cases hm
    · cases e

theorem keepV_cases (ids : List Nat) (s : SV) : keepV ids s = .unk ∨ (keepV ids s = s ∧ (pureDat s = true ∨ (∃ id off, s = .ptr id off ∧ id ∈ ids) ∨ (∃ id, s = .osl id ∧ id ∈ ids) ∨ (∃ id, s = .omp id ∧ id ∈ ids))) := by
  unfold keepV
  cases hp : pureDat s with
  | true => exact .inr ⟨rfl, .inl rfl⟩
  | false =>
    simp only [cond_false]
    split
    · rename_i id off
      cases hh : hasN ids id with
      | true => exact .inr ⟨rfl, .inr (.inl ⟨id, off, rfl, hasN_iff.1 hh⟩)⟩
      | false => exact .inl rfl
    · rename_i id
      cases hh : hasN ids id with
      | true => exact .inr ⟨rfl, .inr (.inr (.inl ⟨id, rfl, hasN_iff.1 hh⟩))⟩
      | false => exact .inl rfl
    · rename_i id
      cases hh : hasN ids id with
      | true => exact .inr ⟨rfl, .inr (.inr (.inr ⟨id, rfl, hasN_iff.1 hh⟩))⟩
      | false => exact .inl rfl
    · exact .inl rfl

theorem keepV_rep {ids : List Nat} {v : Value} {s : SV} (r : Rep h ρ v s) : Rep h ρ v (keepV ids s) := by
  rcases keepV_cases ids s with e | ⟨e, _⟩
  · rw [e]; exact .pure _ _ (.unk _)
  · rw [e]; exact r

/-- What is kept is read the same where the objects that keep their numbers lie where they lay. -/
theorem keepV_move {ids : List Nat} (hρ : ∀ id ∈ ids, ρ' id = ρ id) {v : Value} {s : SV} (r : Rep h ρ v (keepV ids s)) : Rep h ρ' v (keepV ids s) := by
  rcases keepV_cases ids s with e | ⟨e, hc⟩
  · rw [e]; exact .pure _ _ (.unk _)
  · rw [e] at r ⊢
    rcases hc with hp | ⟨id, off, rfl, hm⟩ | ⟨id, rfl, hm⟩ | ⟨id, rfl, hm⟩
    · exact .pure _ _ (r.toPure hp)
    · rw [r.ptr_inv, ← hρ id hm]; exact .ptr id off
    · rcases r.osl_inv with ⟨hn, p, rfl⟩ | ⟨hn, rfl⟩
      · exact .osl0 id p (by rw [hρ id hm]; exact hn)
      · rw [← hρ id hm] at hn ⊢; exact .osl id hn
    · rw [r.omp_inv, ← hρ id hm]; exact .omp id

theorem keepL_get (ids : List Nat) : ∀ (cs : List SV), (keepL ids cs).length = cs.length ∧ ∀ i : Nat, (keepL ids cs)[i]? = (cs[i]?).map (keepV ids)
  | [] => by simp [keepL]
  | c :: cs => by
    obtain ⟨h1, h2⟩ := keepL_get ids cs
    refine ⟨by simp [keepL, h1], fun i => ?_⟩
    cases i with
    | zero => simp [keepL]
    | succ i => simpa [keepL] using h2 i

theorem keepTmps_get (wr ids : List Nat) : ∀ (cs : List SV) (t0 : Nat), (keepTmps wr ids t0 cs).length = cs.length ∧ ∀ (i : Nat) s, (keepTmps wr ids t0 cs)[i]? = some s → ∃ c, cs[i]? = some c ∧ ((s = .unk) ∨ (t0 + i ∉ wr ∧ s = keepV ids c))
  | [], t0 => by simp [keepTmps]
  | c :: cs, t0 => by
    obtain ⟨h1, h2⟩ := keepTmps_get wr ids cs (t0 + 1)
    refine ⟨by simp [keepTmps, h1], fun i s hs => ?_⟩
    cases i with
    | zero =>
      simp [keepTmps] at hs
      refine ⟨c, by simp, ?_⟩
      cases hh : hasN wr t0 with
      | true => simp [hh] at hs; exact .inl hs.symm
      | false =>
        simp [hh] at hs
        refine .inr ⟨fun hm => ?_, hs.symm⟩
        have := hasN_iff.2 hm
        simp at this
        rw [hh] at this; cases this
    | succ i =>
      obtain ⟨c', hc', h3⟩ := h2 i s (by simpa [keepTmps] using hs)
      refine ⟨c', by simpa using hc', ?_⟩
      rw [show t0 + (i + 1) = t0 + 1 + i by omega]
      exact h3

theorem keptTmps_get : ∀ (l l' : List SV), keptTmps l l' = true → l'.length = l.length ∧ ∀ (i : Nat) s s', l[i]? = some s → l'[i]? = some s' → keptV s s' = true
  | [], [], _ => by simp
  | [], _ :: _, h => by simp [keptTmps] at h
  | _ :: _, [], h => by simp [keptTmps] at h
  | s :: ss, s' :: ss', h => by
    simp only [keptTmps, Bool.and_eq_true] at h
    obtain ⟨h1, h2⟩ := keptTmps_get ss ss' h.2
    refine ⟨by simp [h1], fun i x x' hx hx' => ?_⟩
    cases i with
    | zero => simp at hx hx'; subst hx; subst hx'; exact h.1
    | succ i => exact h2 i x x' (by simpa using hx) (by simpa using hx')

theorem keptV_eq {s s' : SV} (h : keptV s s' = true) (hs : (∃ id off, s = .ptr id off) ∨ (∃ id, s = .osl id) ∨ (∃ id, s = .omp id)) : s' = s := by
  rcases hs with ⟨id, off, rfl⟩ | ⟨id, rfl⟩ | ⟨id, rfl⟩
  · cases s' <;> simp [keptV] at h
    rw [h.1, h.2]
  · cases s' <;> simp [keptV] at h
    rw [h]
  · cases s' <;> simp [keptV] at h
    rw [h]

/-- Objects that stay: what is in them is the same. -/
theorem fixed_ok {objs0 : List (Nat × Ob)} (kid : List Nat) (hob : ∀ id o, oget objs id = some o → ObOK h ρ w id o) (hρ : ∀ id ∈ kid, ρ' id = ρ id) : ∀ (l : List Nat), (∀ id ∈ l, id ∈ kid) → (fixedAt kid objs0 l).isSome = true → fixedAt kid objs l = fixedAt kid objs0 l →
    PassOK objs h ρ' w (l.map fun id => (some id, id)) (mkFixed kid objs0 l)
  | [], _, _, _ => PassOK.nil
  | id :: r, hk, hs, he => by
    simp only [fixedAt] at hs he
    have hloc : ρ' id = ρ id := hρ id (hk id (by simp))
    cases ho0 : oget objs0 id with
    | none => simp [ho0] at hs
    | some o0 =>
      cases hr0 : fixedAt kid objs0 r with
      | none => cases o0 <;> simp [ho0, hr0] at hs
      | some rest0 =>
        cases hr : fixedAt kid objs r with
        | none =>
          exfalso
          rw [hr, hr0, ho0] at he
          cases ho : oget objs id with
          | none => rw [ho] at he; cases o0 <;> simp at he
          | some o => rw [ho] at he; cases o <;> cases o0 <;> simp at he
        | some rest =>
          cases ho : oget objs id with
          | none => exfalso; rw [hr, hr0, ho0, ho] at he; cases o0 <;> simp at he
          | some o =>
            rw [hr, hr0, ho0, ho] at he
            have hrest : rest = rest0 := by cases o <;> cases o0 <;> simp at he <;> exact he.2
            have q := fixed_ok kid hob hρ r (fun i hi => hk i (by simp [hi])) (by rw [hr0]; rfl) (by rw [hr, hr0, hrest])
            have hobk := hob id o ho
            have hone : ObOK h ρ' w id (keepOb kid o0) := by
              have notgd : ∀ cs x, keepL kid cs = [.gd 0 true x] → False := by
                intro cs x e2
                have := (keepL_get kid cs).2 0
                rw [e2] at this
                cases hc : cs[0]? with
                | none => simp [hc] at this
                | some c =>
                  simp [hc] at this
                  rcases keepV_cases kid c with e | ⟨e, hp⟩
                  · rw [e] at this; cases this
                  · rw [e] at this
                    subst this
                    rcases hp with hp | ⟨_, _, hp, _⟩ | ⟨_, hp, _⟩ | ⟨_, hp, _⟩
                    · simp [pureDat] at hp
                    all_goals cases hp
              cases o0 with
              | box cs0 =>
                cases o with
                | box cs =>
                  simp at he
                  obtain ⟨hn0, ⟨cv, t, hcv, hsz, hcell⟩, hno⟩ := hobk
                  have hl := (keepL_get kid cs).1
                  rw [he.1] at hl
                  refine ⟨by rw [hloc]; exact hn0, ⟨cv, t, by rw [hloc]; exact hcv, by omega, fun i v c hv hc => ?_⟩, by rw [hloc]; exact hno⟩
                  have hcc := (keepL_get kid cs).2 i
                  rw [he.1, hc] at hcc
                  cases hci : cs[i]? with
                  | none => simp [hci] at hcc
                  | some c1 =>
                    simp [hci] at hcc
                    obtain ⟨r1, r2⟩ := hcell i v c1 hv hci
                    rw [hcc]
                    exact ⟨keepV_move hρ (keepV_rep r1), r2⟩
                | own sz rows => simp at he; exact (notgd cs0 _ he.1.symm).elim
                | mp es => simp at he; exact (notgd cs0 _ he.1.symm).elim
                | arr kd m ns => simp at he; exact (notgd cs0 _ he.1.symm).elim
              | own sz0 rows0 =>
                cases o with
                | box cs => simp at he; exact (notgd cs _ he.1).elim
                | own sz rows =>
                  simp at he
                  obtain ⟨⟨rfl, rfl⟩, _⟩ := he
                  exact hobk.move (by simp [keepOb]) hloc
                | mp es => simp at he
                | arr kd m ns => simp at he
              | mp es0 =>
                cases o with
                | box cs => simp at he; exact (notgd cs _ he.1).elim
                | own sz rows => simp at he
                | arr kd m ns => simp at he
                | mp es =>
                  simp at he
                  obtain ⟨rfl, _⟩ := he
                  exact hobk.move (by simp [keepOb]) hloc
              | arr kd0 m0 ns0 =>
                cases o with
                | box cs => simp at he; exact (notgd cs _ he.1).elim
                | own sz rows => simp at he
                | mp es => simp at he
                | arr kd m ns =>
                  simp at he
                  obtain ⟨⟨rfl, rfl, rfl⟩, _⟩ := he
                  exact hobk.move (by simp [keepOb]) hloc
            have hp : PassOK objs h ρ' w [(some id, id)] [(id, keepOb kid o0)] := by
              refine ⟨fun c o' hm' => ?_, fun c o' hm' => ?_, fun i c hm' => ?_⟩
              · simp at hm'; obtain ⟨rfl, rfl⟩ := hm'; exact hone
              · simp at hm'; exact ⟨(some id, id), by simp, hm'.1.symm⟩
              · simp at hm'; rw [hm'.1]; exact ⟨_, ho⟩
            simp only [mkFixed, ho0]
            exact hp.append q

/-- What stands at a loop's head. -/
theorem head_fits (F : FitsAt X h ρ st a w) {sp : LoopSpec} {wr : List Nat} {st0 hd : St} {vals vs' : List SV} {ids : List (Option Nat × Nat)} (hh : headOf sp st = some (vals, ids)) (hok : headOK sp wr ids = true) (hn : Nrms vals vs')
    (hk : ∀ (t : Nat) s, (keepTmps wr (keepIds sp) 0 st0.tmps)[t]? = some s → Rep h ρ (a.tmps.getD t undef) s) (hlen : st0.tmps.length = st.tmps.length) (hs0 : (fixedAt (keepIds sp) st0.objs sp.fixed).isSome = true)
    (hfx : fixedAt (keepIds sp) st.objs sp.fixed = fixedAt (keepIds sp) st0.objs sp.fixed) (hm : mkHead sp wr st0 vs' = some hd) : ∃ ρ', FitsAt X h ρ' hd a w := by
  unfold headOf at hh
  split at hh
  · rename_i d1 l1 d2 l2 d3 l3 h1 h2 h3
    cases hh
    simp only [headOK, Bool.and_eq_true, List.all_eq_true] at hok
    obtain ⟨⟨⟨⟨⟨⟨_, _⟩, hn1⟩, hn2⟩, hid⟩, _⟩, _⟩ := hok
    have hn1 := nodupB_spec hn1
    have hn2 := nodupB_spec hn2
    let ids := l1 ++ l2 ++ l3 ++ sp.fixed.map fun id => ((some id, id) : Option Nat × Nat)
    have e1 : ids.filterMap (·.1) = (l1 ++ l2 ++ l3).filterMap (·.1) ++ sp.fixed := by
      have : ∀ l : List Nat, (l.map fun id => ((some id, id) : Option Nat × Nat)).filterMap (·.1) = l := by
        intro l; induction l with
        | nil => rfl
        | cons x xs ih => simp only [List.map_cons, List.filterMap_cons, ih]
      simp only [ids, List.filterMap_append, this]
    have e2 : ids.map (·.2) = (l1 ++ l2 ++ l3).map (·.2) ++ sp.fixed := by
      have : ∀ l : List Nat, (l.map fun id => ((some id, id) : Option Nat × Nat)).map (·.2) = l := by
        intro l; induction l with
        | nil => rfl
        | cons x xs ih => simp only [List.map_cons, ih]
      simp only [ids, List.map_append, this]
    let ρ' := pull ids ρ ρ
    have hp : Pulls ids ρ ρ' := pulls_pull ρ ρ (by rw [e2]; exact hn2)
    have hmemB : ∀ (l : List (Nat × List Sh)) ds ls, headBoxes st.objs l = some (ds, ls) → ∀ p ∈ l, (some p.1, p.1) ∈ ls := by
      intro l
      induction l with
      | nil => intro ds ls _ p hp; simp at hp
      | cons x xs ih =>
        obtain ⟨i, ss⟩ := x
        intro ds ls e p hp
        simp only [headBoxes] at e
        split at e
        · rename_i d l ds2 ls2 g1 g2
          cases e
          rcases List.mem_cons.1 hp with rfl | hp
          · simp
          · simp [ih _ _ g2 p hp]
        · cases e
    have hmemO : ∀ (l : List (Nat × Sh)) ds ls, headOwns st.objs l = some (ds, ls) → ∀ p ∈ l, (some p.1, p.1) ∈ ls := by
      intro l
      induction l with
      | nil => intro ds ls _ p hp; simp at hp
      | cons x xs ih =>
        obtain ⟨i, ss⟩ := x
        intro ds ls e p hp
        simp only [headOwns] at e
        split at e
        · rename_i d ds2 ls2 g1 g2
          cases e
          rcases List.mem_cons.1 hp with rfl | hp
          · simp
          · simp [ih _ _ g2 p hp]
        · cases e
    have hkeep : ∀ id ∈ keepIds sp, ρ' id = ρ id := by
      intro id hm
      simp only [keepIds, List.mem_append, List.mem_map] at hm
      rcases hm with (⟨p, hpm, rfl⟩ | ⟨p, hpm, rfl⟩) | hm
      · exact hp (some p.1, p.1) (by simp [ids, hmemB _ _ _ h2 p hpm])
      · exact hp (some p.1, p.1) (by simp [ids, hmemO _ _ _ h3 p hpm])
      · exact hp (some id, id) (by simp [ids, hm])
    -- the parts
    unfold mkHead at hm
    split at hm
    · rename_i tm os1 vs1 hm1
      split at hm
      · rename_i os2 vs2 hm2
        split at hm
        · rename_i os3 hm3
          cases hm
          have n0 : Nrms (d1 ++ (d2 ++ d3)) vs' := by rw [← List.append_assoc]; exact hn
          obtain ⟨n1, n23⟩ := n0.split
          obtain ⟨n2, n3⟩ := n23.split
          obtain ⟨q1, P1, q3, q4⟩ := slots_ok (ρ' := ρ') F sp.slots d1 vs' _ tm vs1 l1 os1 h1 (fun p hm => hp p (by simp [ids, hm])) n1 hm1
          rw [← q1] at n2 n3
          obtain ⟨q5, P2⟩ := boxes_ok (ρ' := ρ') F.obj sp.boxes d2 vs1 vs2 l2 os2 h2 (fun p hm => hp p (by simp [ids, hm])) n2 hm2
          rw [← q5] at n3
          have P3 := owns_ok (ρ' := ρ') F.obj sp.owns d3 vs2 l3 os3 h3 (fun p hm => hp p (by simp [ids, hm])) n3 hm3
          have P4 := fixed_ok (ρ' := ρ') (objs0 := st0.objs) (keepIds sp) F.obj hkeep sp.fixed (fun id hm => by simp [keepIds, hm]) hs0 hfx
          have PA := ((P1.append P2).append P3).append P4
          refine ⟨ρ', { F with size := ?_, tm := fun t s hs => ?_, obj := fun id o e => PA.ob id o (oget_mem e), inj := ?_, own := ?_, pin := ?_ }⟩
          · rw [F.size, ← hlen, ← (keepTmps_get wr (keepIds sp) st0.tmps 0).1]; exact q3.symm
          · rcases q4 t s hs with hs' | hr
            · have hr := hk t s hs'
              obtain ⟨c, _, hc | ⟨_, hc⟩⟩ := (keepTmps_get wr (keepIds sp) st0.tmps 0).2 t s hs'
              · rw [hc]; exact TRep.rep_unk _ _
              · rw [hc] at hr ⊢; exact TRep.of_rep' (keepV_move hkeep hr)
            · exact TRep.of_rep' hr
          · exact pass_inj PA hp (by rw [e1]; exact hn1) F.inj
          · rintro i ⟨⟨o, e⟩, hni⟩
            obtain ⟨id, c, hm, hlv, eb⟩ := pass_Gv PA hp ⟨i, ⟨⟨o, e⟩, hni⟩, rfl⟩
            rw [← eb]
            exact F.own id hlv
          · intro id l hpin
            obtain ⟨g1, g2⟩ := F.pin id l hpin
            refine ⟨?_, g2⟩
            by_cases hx : ∃ p ∈ ids, p.2 = id
            · obtain ⟨p, hpm, rfl⟩ := hx
              have hpp := hp p hpm
              simp only [ids] at hpm
              rcases List.mem_append.1 hpm with hpm' | hpm'
              · have := hid p hpm'
                simp only [g2, Bool.false_or] at this
                obtain ⟨p1, p2⟩ := p
                cases p1 with
                | none => simp at this
                | some id =>
                  simp at this
                  subst this
                  simp only at hpp
                  rw [hpp]; exact g1
              · obtain ⟨x, _, rfl⟩ := List.mem_map.1 hpm'
                simp only at hpp g1 ⊢
                rw [hpp]; exact g1
            · have : ρ' id = ρ id := pull_other ρ ρ (fun p hpm e => hx ⟨p, hpm, e⟩)
              rw [this]; exact g1
        · cases hm
      · cases hm
    · cases hm
  · cases hh

end
end Go.Px

/- Operations, carried out or not; lists of them. -/
import Derived.Test.YtknnooannohflaaGreatDoorPxZ
namespace Go.Px
open Go.RowKit
set_option linter.unusedVariables false

section
variable {X : Cx} {h : Hp} {ρ : Nat → Loc} {st : St} {a : Act} {w : World} {P : Program}

/-- An operation that is not loud: its value is the same in every world in which what it reads is. -/
theorem calm_sound (F : FitsAt X h ρ st a w) (Sg : FuncId → Sig) (Sv : TypeId → Sig) (o : Oper) (gv : List (Nat × Bool) → Operand → SV)
    (hgv : ∀ ex x, (∀ g ∈ ex, a.tmps.getD g.1 undef = .bool g.2) → Rep h ρ (a.eval x) (gv ex x)) (K : St → Prop) (hl : loud P o.op = false)
    (hx : exec P Sg Sv o gv st K) : ∃ v, (∀ w', SameB (fblk P a o) w w' → (execOp a.eval o).run P w' = .ok (.value v) w') ∧ Goes X K (a.put o.dst v) w := by
  unfold exec at hx
  split at hx
  · rename_i C hv
    obtain ⟨v, hrun, hg⟩ := view_calm F o K hl hv hx
    exact ⟨v, fun w' _ => hrun w', hg⟩
  · simp only [hl, cond_false] at hx
    split at hx
    · rename_i s hs
      obtain ⟨v, hrun, r⟩ := quiet_sound F o gv hgv hs
      exact ⟨v, hrun, _, ⟨h, ρ, F.put o.dst (TRep.of_rep' r)⟩, hx⟩
    · exact still_sound F o K hx

theorem exec_sound (F : FitsAt X h ρ st a w) (Sg : FuncId → Sig) (Sv : TypeId → Sig) (o : Oper) (gv : List (Nat × Bool) → Operand → SV)
    (hgv : ∀ ex x, (∀ g ∈ ex, a.tmps.getD g.1 undef = .bool g.2) → Rep h ρ (a.eval x) (gv ex x)) (K : St → Prop)
    (hx : exec P Sg Sv o gv st K) (Q : Exit → Act → World → Prop) : o.wp P a w (After X K o a w (Touched Sg Sv st ρ o)) Q := by
  cases hl : loud P o.op with
  | true =>
    unfold exec at hx
    split at hx
    · rename_i C hv
      obtain ⟨v, w', hrun, hg, hsz, ht⟩ := view_loud F o K hl hv hx
      unfold Oper.wp
      rw [hrun]
      refine ⟨hg, ⟨_, rfl⟩, hsz, fun b hbl hne => ?_⟩
      rcases ht with ⟨id, ht, hf⟩ | rfl
      · obtain ⟨tids, e1, e2⟩ := not_touched hne
        rw [ht] at e1; cases e1
        exact hf b ‹_› (fun hl => e2 id (by simp) hl)
      · rfl
    · simp only [hl, cond_true] at hx
      cases hk : (kmode st && constB o) with
      | false => rw [hk, cond_false] at hx; exact loud_sound F Sg Sv o K hx Q
      | true =>
        rw [hk, cond_true] at hx
        refine Oper.wp_mono (fun a' w' hA => ?_) (loud_sound F Sg Sv o _ hx Q)
        obtain ⟨⟨st', ⟨h', ρ', F'⟩, hK⟩, rest⟩ := hA
        obtain ⟨h2, _, F2⟩ := F'.pureOps (dstL o.dst)
        exact ⟨⟨_, ⟨h2, ρ', F2⟩, hK⟩, rest⟩
  | false =>
    obtain ⟨v, hrun, hg⟩ := calm_sound F Sg Sv o gv hgv K hl hx
    unfold Oper.wp
    rw [hrun w (SameB.refl _ w)]
    exact ⟨hg, ⟨_, rfl⟩, Nat.le_refl _, fun _ _ _ => rfl⟩

theorem chain_holds (F : FitsAt X h ρ st a w) : ∀ (n : Nat) (g : Nat × Bool), a.tmps.getD g.1 undef = .bool g.2 → ∀ g' ∈ chain st n g, a.tmps.getD g'.1 undef = .bool g'.2
  | 0, _, _ => by simp [chain]
  | n + 1, g, hg => by
    intro g' hm
    simp only [chain, List.mem_cons] at hm
    rcases hm with rfl | hm
    · exact hg
    · split at hm
      · rename_i t w' x hx
        rw [lget_eq] at hx
        cases hs : st.tmps[g.1]? with
        | none => simp [hs] at hx
        | some s =>
          simp [hs] at hx
          subst hx
          have r := F.tm g.1 _ hs
          rcases r with ⟨h1, _⟩ | ⟨_, h2⟩
          · exact chain_holds F n (t, w') h1 g' hm
          · rw [hg] at h2; simp [undef] at h2
      · simp at hm

theorem yielded_getD (ops : Array Oper) (tm : Array Value) (j t : Nat) (ht : (ops[j]?).bind (·.dst) = some t) (b : Bool) : (yielded ops tm j == some b) = true ↔ tm.getD t undef = .bool b := by
  unfold yielded
  simp only [ht, Option.bind_some]
  rw [Array.getD_eq_getD_getElem?]
  cases hx : tm[t]? with
  | none => simp [undef]
  | some v =>
    simp only [Option.getD_some]
    cases v <;> simp

theorem fixL_get (t : Nat) (b : Bool) : ∀ (cs : List SV) (i : Nat), (fixL t b cs)[i]? = (cs[i]?).map (fun s => match s with | .gd t' w v => (bif Nat.beq t t' then (bif w == b then v else .gd t' w v) else .gd t' w v) | s => s)
  | [], i => by simp [fixL]
  | c :: cs, 0 => by cases c <;> simp [fixL]
  | c :: cs, i + 1 => by
    have := fixL_get t b cs i
    cases c <;> simpa [fixL] using this

theorem fixL_length (t : Nat) (b : Bool) : ∀ (cs : List SV), (fixL t b cs).length = cs.length
  | [] => rfl
  | c :: cs => by cases c <;> simp [fixL, fixL_length t b cs]

/-- A guard's slot is known. -/
theorem FitsAt.fix (F : FitsAt X h ρ st a w) (t : Nat) (b : Bool) (hb : a.tmps.getD t undef = .bool b) : FitsAt X h ρ (st.fix t b) a w := by
  refine { F with size := ?_, tm := fun i s hs => ?_ }
  · simp [St.fix, lset_eq, fixL_length, F.size]
  · simp only [St.fix, lset_eq] at hs
    rw [List.getElem?_set] at hs
    by_cases hti : t = i
    · subst hti
      simp only [if_true] at hs
      split at hs
      · cases hs; rw [hb]; exact TRep.of_rep' (.pure _ _ (.val _))
      · cases hs
    · simp only [hti, if_false, fixL_get] at hs
      cases hx : st.tmps[i]? with
      | none => simp [hx] at hs
      | some x =>
        simp [hx] at hs
        have r := F.tm i x hx
        split at hs
        · rename_i t' w' v
          by_cases htt : t = t'
          · subst htt
            simp only [Nat.beq_refl, cond_true] at hs
            cases hwb : (w' == b) with
            | false => simp only [hwb, cond_false] at hs; subst hs; exact r
            | true =>
              simp only [hwb, cond_true] at hs
              subst hs
              have : w' = b := by simpa using hwb
              subst this
              rcases r with ⟨_, r⟩ | ⟨hne, _⟩
              · exact TRep.of_rep' r
              · exact absurd hb hne
          · rw [beq_false htt] at hs; simp only [cond_false] at hs; subst hs; exact r
        · subst hs; exact r

/-- Whether a guarded operation is carried out. -/
theorem wanted_iff {ops : Array Oper} {o : Oper} {j t : Nat} {wj : Bool} (hg : o.guard = some (j, wj)) (hdst : (ops[j]?).bind (·.dst) = some t) :
    Region.wanted o (yielded ops a.tmps) = true ↔ a.tmps.getD t undef = .bool wj := by
  simp only [Region.wanted, hg]
  exact yielded_getD ops a.tmps j t hdst wj

theorem gdst_inv {ops : Array Oper} {j t : Nat} {wj wt : Bool} (h : gdst ops (some (j, wj)) = some (t, wt)) : (ops[j]?).bind (·.dst) = some t ∧ wj = wt := by
  unfold gdst at h
  simp only [] at h
  split at h
  · rename_i t' ht; simp at h; exact ⟨by rw [ht, h.1], h.2⟩
  · cases h

def TouchedG (Sg : FuncId → Sig) (Sv : TypeId → Sig) (ops : Array Oper) (st : St) (ρ : Nat → Loc) (o : Oper) (b : Nat) : Prop :=
  ∀ tids, touchG Sg Sv ops st o = some tids → ∃ id ∈ tids, live st.objs ρ id ∧ (ρ id).blk = b

/-- What an operation comes to, whether it is carried out or not. -/
theorem FitsAt.gd_slot (F : FitsAt X h ρ st a w) {t t2 : Nat} {w2 : Bool} {s : SV} (hb : lget st.tmps t = .gd t2 w2 s) : (a.tmps.getD t2 undef = .bool w2 ∧ Rep h ρ (a.tmps.getD t undef) s) ∨ (a.tmps.getD t2 undef ≠ .bool w2 ∧ a.tmps.getD t undef = undef) := by
  rw [lget_eq] at hb
  cases hx : st.tmps[t]? with
  | none => rw [hx] at hb; simp at hb
  | some x =>
    rw [hx] at hb
    simp only [Option.getD_some] at hb
    subst hb
    exact F.tm t _ hx

theorem fixC_objs : ∀ (n : Nat) (st : St) (t : Nat) (w : Bool), (St.fixC n st t w).objs = st.objs
  | 0, st, t, w => rfl
  | n + 1, st, t, w => by
    unfold St.fixC
    split
    · exact fixC_objs n st _ _
    · rfl

theorem chain_sound (F : FitsAt X h ρ st a w) : ∀ (n t : Nat) (wt : Bool) (yes no : St → Prop), chainC n t wt st yes no →
    (a.tmps.getD t undef = .bool wt ∧ FitsAt X h ρ (St.fixC n st t wt) a w ∧ yes (St.fixC n st t wt)) ∨ (a.tmps.getD t undef ≠ .bool wt ∧ ∃ st', FitsAt X h ρ st' a w ∧ no st')
  | 0, t, wt, yes, no, hx => hx.elim
  | n + 1, t, wt, yes, no, hx => by
    unfold chainC at hx
    unfold St.fixC
    split at hx
    · rename_i b hb
      have hv : a.tmps.getD t undef = .bool b := by
        have := F.slot [] (by simp) t
        rw [hb] at this
        exact this.val_inv
      simp only [hb]
      by_cases e : b = wt
      · subst e
        exact .inl ⟨hv, F.fix t b hv, by cases b <;> exact hx⟩
      · refine .inr ⟨fun he => by rw [hv] at he; injection he with he; exact e he, st.fix t b, F.fix t b hv, ?_⟩
        cases b <;> cases wt <;> first | exact absurd rfl e | exact hx
    · rename_i t2 w2 b hb
      simp only [hb]
      have hg2 := F.gd_slot hb
      rcases chain_sound F n t2 w2 _ _ hx with ⟨h1, F1, hy⟩ | ⟨h1, st', F1, hn⟩
      · have hv : a.tmps.getD t undef = .bool b := by
          rcases hg2 with ⟨_, hr⟩ | ⟨hne, _⟩
          · exact hr.val_inv
          · exact absurd h1 hne
        by_cases e : b = wt
        · subst e
          exact .inl ⟨hv, F1.fix t b hv, by cases b <;> exact hy⟩
        · refine .inr ⟨fun he => by rw [hv] at he; injection he with he; exact e he, (St.fixC n st t2 w2).fix t b, F1.fix t b hv, ?_⟩
          cases b <;> cases wt <;> first | exact absurd rfl e | exact hy
      · have hu : a.tmps.getD t undef = undef := by
          rcases hg2 with ⟨he, _⟩ | ⟨_, hu⟩
          · exact absurd he h1
          · exact hu
        exact .inr ⟨fun he => by rw [hu] at he; simp [undef] at he, st', F1, hn⟩
    · exact hx.elim

theorem aop_sound (F : FitsAt X h ρ st a w) (Sg : FuncId → Sig) (Sv : TypeId → Sig) (ops : Array Oper) (o : Oper) (K : St → Prop) (hx : aop P Sg Sv ops o st K) (Q : Exit → Act → World → Prop) :
    if Region.wanted o (yielded ops a.tmps) then o.wp P a w (After X K o a w (TouchedG Sg Sv ops st ρ o)) Q else Goes X K (a.put o.dst undef) w := by
  unfold aop at hx
  split at hx
  · rename_i hg
    simp only [Region.wanted, hg, if_true]
    have e : TouchedG Sg Sv ops st ρ o = Touched Sg Sv st ρ o := by
      unfold TouchedG Touched touchG; simp only [hg]
    rw [e]
    exact exec_sound F Sg Sv o _ (fun ex x hg => F.operand ex hg x) K hx Q
  · rename_i g hg
    split at hx
    · exact hx.elim
    · rename_i t wt hgd
      obtain ⟨j, wj⟩ := g
      obtain ⟨hdst, rfl⟩ := gdst_inv hgd
      have hw := wanted_iff (a := a) hg hdst
      split at hx
      · rename_i s hs
        cases hl : loud P o.op with
        | true => simp [hl] at hs
        | false =>
          simp only [hl, cond_false] at hs
          by_cases hwant : Region.wanted o (yielded ops a.tmps) = true
          · rw [if_pos hwant]
            have hb := hw.1 hwant
            obtain ⟨v, hrun, r⟩ := quiet_sound F o _ (fun ex x hge => F.operand (ex ++ chain st 4 (t, wj)) (fun g hm => by
              rcases List.mem_append.1 hm with hm | hm
              · exact hge g hm
              · exact chain_holds F 4 (t, wj) hb g hm) x) hs
            unfold Oper.wp
            rw [hrun w (SameB.refl _ w)]
            exact ⟨⟨_, ⟨h, ρ, F.put o.dst (s := .gd t wj s) (.inl ⟨hb, r⟩)⟩, hx⟩, ⟨_, rfl⟩, Nat.le_refl _, fun _ _ _ => rfl⟩
          · rw [if_neg hwant]
            exact ⟨_, ⟨h, ρ, F.put o.dst (s := .gd t wj s) (.inr ⟨fun e => hwant (hw.2 e), rfl⟩)⟩, hx⟩
      · have base : ∀ {st1 : St} {b : Bool}, FitsAt X h ρ st1 a w → st1.objs = st.objs → TouchedG Sg Sv ops st ρ o = Touched Sg Sv (st1.fix t wj) ρ o → a.tmps.getD t undef = .bool b → aopB P Sg Sv o t wj b st1 K →
            if Region.wanted o (yielded ops a.tmps) then o.wp P a w (After X K o a w (TouchedG Sg Sv ops st ρ o)) Q else Goes X K (a.put o.dst undef) w := by
          intro st1 b F hobjs et hv hx
          by_cases hwant : Region.wanted o (yielded ops a.tmps) = true
          · rw [if_pos hwant]
            have e := hw.1 hwant
            rw [hv] at e
            have e' : b = wj := by injection e
            have F1 := F.fix t wj (by rw [hv, e'])
            rw [et]
            refine exec_sound F1 Sg Sv o _ (fun ex x hge => F1.operand ex hge x) K ?_ Q
            subst e'
            cases b <;> exact hx
          · rw [if_neg hwant]
            have e' : b = !wj := by
              cases b <;> cases wj <;> first | rfl | exact absurd (hw.2 hv) hwant
            have F1 := F.fix t (!wj) (by rw [hv, e'])
            refine ⟨_, ⟨h, ρ, F1.put o.dst (s := .gd t wj (.val (.bool true))) (.inr ⟨fun e => hwant (hw.2 e), rfl⟩)⟩, ?_⟩
            subst e'
            cases wj <;> exact hx
        split at hx
        · rename_i b hb
          have hv : a.tmps.getD t undef = .bool b := by
            have := F.slot [] (by simp) t
            rw [hb] at this
            exact this.val_inv
          refine base F rfl ?_ hv hx
          unfold TouchedG Touched touchG St.fixN St.fixC; simp only [hg, hgd, hb]; rfl
        · rename_i t2 w2 b hb
          split at hx
          · rename_i b2 hb2
            have hv2 : a.tmps.getD t2 undef = .bool b2 := by
              have := F.slot [] (by simp) t2
              rw [hb2] at this
              exact this.val_inv
            have hg2 := F.gd_slot hb
            by_cases e2 : b2 = w2
            · subst e2
              have hv : a.tmps.getD t undef = .bool b := by
                rcases hg2 with ⟨_, hr⟩ | ⟨hne, _⟩
                · exact hr.val_inv
                · exact absurd hv2 hne
              refine base (F.fix t2 b2 hv2) rfl ?_ hv ?_
              · unfold TouchedG Touched touchG St.fixN St.fixC; simp only [hg, hgd, hb]; unfold St.fixC; simp only [hb2]; rfl
              · cases b2 <;> exact hx
            · have hu : a.tmps.getD t undef = undef := by
                rcases hg2 with ⟨he, _⟩ | ⟨_, hu⟩
                · rw [hv2] at he; injection he with he; exact absurd he e2
                · exact hu
              have hnw : ¬ Region.wanted o (yielded ops a.tmps) = true := fun hwant => by
                have := hw.1 hwant
                rw [hu] at this
                simp [undef] at this
              rw [if_neg hnw]
              refine ⟨_, ⟨h, ρ, (F.fix t2 b2 hv2).put o.dst (s := .gd t2 w2 (.val (.bool true))) (.inr ⟨fun he => by rw [hv2] at he; injection he with he; exact e2 he, rfl⟩)⟩, ?_⟩
              cases b2 <;> cases w2 <;> first | exact absurd rfl e2 | exact hx
          · have hg2 := F.gd_slot hb
            rcases chain_sound F 4 t2 w2 _ _ hx with ⟨h1, F1, hy⟩ | ⟨h1, st', F1, hn⟩
            · have hv : a.tmps.getD t undef = .bool b := by
                rcases hg2 with ⟨_, hr⟩ | ⟨hne, _⟩
                · exact hr.val_inv
                · exact absurd h1 hne
              refine base F1 (fixC_objs 4 st t2 w2) ?_ hv hy
              have e5 : St.fixC 5 st t wj = (St.fixC 4 st t2 w2).fix t wj := by rw [St.fixC]; simp only [hb]
              have ho : ((St.fixC 4 st t2 w2).fix t wj).objs = st.objs := fixC_objs 4 st t2 w2
              unfold TouchedG Touched touchG St.fixN
              simp only [hg, hgd, e5, ho]
            · have hu : a.tmps.getD t undef = undef := by
                rcases hg2 with ⟨he, _⟩ | ⟨_, hu⟩
                · exact absurd he h1
                · exact hu
              have hnw : ¬ Region.wanted o (yielded ops a.tmps) = true := fun hwant => by
                have := hw.1 hwant
                rw [hu] at this
                simp [undef] at this
              rw [if_neg hnw]
              exact ⟨_, ⟨h, ρ, F1.put o.dst (s := .gd t2 w2 (.val (.bool true))) (.inr ⟨h1, rfl⟩)⟩, hn⟩
          · exact hx.elim
        · exact hx.elim

/-- An operation that is not loud, whether it is carried out or not: its value stays. -/
theorem aop_calm (F : FitsAt X h ρ st a w) (Sg : FuncId → Sig) (Sv : TypeId → Sig) (ops : Array Oper) (o : Oper) (K : St → Prop) (hl : loud P o.op = false) (hx : aop P Sg Sv ops o st K) :
    ∃ v, (Region.wanted o (yielded ops a.tmps) = true → ∀ w', SameB (fblk P a o) w w' → (execOp a.eval o).run P w' = .ok (.value v) w') ∧
      (Region.wanted o (yielded ops a.tmps) = false → v = undef) ∧ Goes X K (a.put o.dst v) w := by
  unfold aop at hx
  split at hx
  · rename_i hg
    obtain ⟨v, hrun, hgo⟩ := calm_sound F Sg Sv o _ (fun ex x hg => F.operand ex hg x) K hl hx
    exact ⟨v, fun _ => hrun, fun e => by simp [Region.wanted, hg] at e, hgo⟩
  · rename_i g hg
    split at hx
    · exact hx.elim
    · rename_i t wt hgd
      obtain ⟨j, wj⟩ := g
      obtain ⟨hdst, rfl⟩ := gdst_inv hgd
      have hw := wanted_iff (a := a) hg hdst
      split at hx
      · rename_i s hs
        simp only [hl, cond_false] at hs
        by_cases hwant : Region.wanted o (yielded ops a.tmps) = true
        · have hb := hw.1 hwant
          obtain ⟨v, hrun, r⟩ := quiet_sound F o _ (fun ex x hge => F.operand (ex ++ chain st 4 (t, wj)) (fun g hm => by
            rcases List.mem_append.1 hm with hm | hm
            · exact hge g hm
            · exact chain_holds F 4 (t, wj) hb g hm) x) hs
          exact ⟨v, fun _ => hrun, fun e => by (rw [hwant] at e; cases e), _, ⟨h, ρ, F.put o.dst (s := .gd t wj s) (.inl ⟨hb, r⟩)⟩, hx⟩
        · exact ⟨undef, fun e => absurd e hwant, fun _ => rfl, _, ⟨h, ρ, F.put o.dst (s := .gd t wj s) (.inr ⟨fun e => hwant (hw.2 e), rfl⟩)⟩, hx⟩
      · have base : ∀ {st1 : St} {b : Bool}, FitsAt X h ρ st1 a w → a.tmps.getD t undef = .bool b → aopB P Sg Sv o t wj b st1 K →
            ∃ v, (Region.wanted o (yielded ops a.tmps) = true → ∀ w', SameB (fblk P a o) w w' → (execOp a.eval o).run P w' = .ok (.value v) w') ∧
              (Region.wanted o (yielded ops a.tmps) = false → v = undef) ∧ Goes X K (a.put o.dst v) w := by
          intro st1 b F hv hx
          by_cases hwant : Region.wanted o (yielded ops a.tmps) = true
          · have e := hw.1 hwant
            rw [hv] at e
            have e' : b = wj := by injection e
            have F1 := F.fix t wj (by rw [hv, e'])
            obtain ⟨v, hrun, hgo⟩ := calm_sound F1 Sg Sv o _ (fun ex x hge => F1.operand ex hge x) K hl (by subst e'; cases b <;> exact hx)
            exact ⟨v, fun _ => hrun, fun e => by (rw [hwant] at e; cases e), hgo⟩
          · have e' : b = !wj := by
              cases b <;> cases wj <;> first | rfl | exact absurd (hw.2 hv) hwant
            have F1 := F.fix t (!wj) (by rw [hv, e'])
            refine ⟨undef, fun e => absurd e hwant, fun _ => rfl, _, ⟨h, ρ, F1.put o.dst (s := .gd t wj (.val (.bool true))) (.inr ⟨fun e => hwant (hw.2 e), rfl⟩)⟩, ?_⟩
            subst e'
            cases wj <;> exact hx
        split at hx
        · rename_i b hb
          have hv : a.tmps.getD t undef = .bool b := by
            have := F.slot [] (by simp) t
            rw [hb] at this
            exact this.val_inv
          exact base F hv hx
        · rename_i t2 w2 b hb
          split at hx
          · rename_i b2 hb2
            have hv2 : a.tmps.getD t2 undef = .bool b2 := by
              have := F.slot [] (by simp) t2
              rw [hb2] at this
              exact this.val_inv
            have hg2 := F.gd_slot hb
            by_cases e2 : b2 = w2
            · subst e2
              have hv : a.tmps.getD t undef = .bool b := by
                rcases hg2 with ⟨_, hr⟩ | ⟨hne, _⟩
                · exact hr.val_inv
                · exact absurd hv2 hne
              refine base (F.fix t2 b2 hv2) hv ?_
              cases b2 <;> exact hx
            · have hu : a.tmps.getD t undef = undef := by
                rcases hg2 with ⟨he, _⟩ | ⟨_, hu⟩
                · rw [hv2] at he; injection he with he; exact absurd he e2
                · exact hu
              have hnw : ¬ Region.wanted o (yielded ops a.tmps) = true := fun hwant => by
                have := hw.1 hwant
                rw [hu] at this
                simp [undef] at this
              refine ⟨undef, fun e => absurd e hnw, fun _ => rfl, _, ⟨h, ρ, (F.fix t2 b2 hv2).put o.dst (s := .gd t2 w2 (.val (.bool true))) (.inr ⟨fun he => by rw [hv2] at he; injection he with he; exact e2 he, rfl⟩)⟩, ?_⟩
              cases b2 <;> cases w2 <;> first | exact absurd rfl e2 | exact hx
          · have hg2 := F.gd_slot hb
            rcases chain_sound F 4 t2 w2 _ _ hx with ⟨h1, F1, hy⟩ | ⟨h1, st', F1, hn⟩
            · have hv : a.tmps.getD t undef = .bool b := by
                rcases hg2 with ⟨_, hr⟩ | ⟨hne, _⟩
                · exact hr.val_inv
                · exact absurd h1 hne
              exact base F1 hv hy
            · have hu : a.tmps.getD t undef = undef := by
                rcases hg2 with ⟨he, _⟩ | ⟨_, hu⟩
                · exact absurd he h1
                · exact hu
              have hnw : ¬ Region.wanted o (yielded ops a.tmps) = true := fun hwant => by
                have := hw.1 hwant
                rw [hu] at this
                simp [undef] at this
              exact ⟨undef, fun e => absurd e hnw, fun _ => rfl, _, ⟨h, ρ, F1.put o.dst (s := .gd t2 w2 (.val (.bool true))) (.inr ⟨h1, rfl⟩)⟩, hn⟩
          · exact hx.elim
        · exact hx.elim

end

section
variable {X : Cx} {P : Program}

/-- Slots that are not written hold what they held. -/
def Fr (ws : List Nat) (a a' : Act) : Prop := ∀ t, t ∉ ws → a'.tmps.getD t undef = a.tmps.getD t undef

theorem Fr.refl (ws : List Nat) (a : Act) : Fr ws a a := fun _ _ => rfl
theorem Fr.trans {ws : List Nat} {a b c : Act} (x : Fr ws a b) (y : Fr ws b c) : Fr ws a c := fun t ht => (y t ht).trans (x t ht)
theorem Fr.mono {ws ws' : List Nat} {a b : Act} (x : Fr ws a b) (h : ∀ t, t ∈ ws → t ∈ ws') : Fr ws' a b := fun t ht => x t fun hm => ht (h t hm)

theorem Fr.put {ws : List Nat} {a b : Act} (x : Fr ws a b) {d : Option Nat} (hd : ∀ t, d = some t → t ∈ ws) (v : Value) : Fr ws a (b.put d v) := by
  cases d with
  | none => exact x
  | some d =>
    intro t ht
    rw [← x t ht]
    exact getD_set_ne' v (fun e => ht (e ▸ hd d rfl))

theorem vcOps_sound (Sg : FuncId → Sig) (Sv : TypeId → Sig) (ops : Array Oper) (Q : Exit → Act → World → Prop) (K : St → Prop) (ws : List Nat) (a0 : Act) (hK : ∀ st a w, Fits X st a w → Fr ws a0 a → K st → Q .normal a w) :
    ∀ (l : List Oper) (st : St) (a : Act) (w : World), (∀ o ∈ l, ∀ t, o.dst = some t → t ∈ ws) → Fr ws a0 a → Fits X st a w → vcOps P Sg Sv ops l st K → wpList P ops Q l a w
  | [], st, a, w, _, hr, F, hv => hK st a w F hr hv
  | o :: rest, st, a, w, hd, hr, ⟨h, ρ, F⟩, hv => by
    have := aop_sound F Sg Sv ops o _ hv Q
    have hd0 := hd o (by simp)
    have hd' : ∀ o ∈ rest, ∀ t, o.dst = some t → t ∈ ws := fun o ho => hd o (by simp [ho])
    simp only [wpList]
    split
    · rename_i hw
      rw [if_pos hw] at this
      exact .inl (Oper.wp_mono (fun a' w' ⟨⟨st', F', hk⟩, ⟨u, e⟩, _⟩ => vcOps_sound Sg Sv ops Q K ws a0 hK rest st' a' w' hd' (by rw [e]; exact hr.put hd0 u) F' hk) this)
    · rename_i hw
      rw [if_neg hw] at this
      obtain ⟨st', F', hk⟩ := this
      exact vcOps_sound Sg Sv ops Q K ws a0 hK rest st' _ w hd' (hr.put hd0 _) F' hk

end
end Go.Px

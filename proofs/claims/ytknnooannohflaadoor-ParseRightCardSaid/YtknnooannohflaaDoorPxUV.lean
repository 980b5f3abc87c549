/- Operations, carried out or not; lists of them. -/
import Derived.Test.YtknnooannohflaaDoorPxOZ
namespace Go.Px
open Go.RowKit
set_option linter.unusedVariables false

section
variable {X : Cx} {h : Hp} {ρ : Nat → Loc} {st : St} {a : Act} {w : World} {P : Program}

theorem Zhv (F : FitsAt X h ρ st a w) (Sg : FuncId → Sig) (Sv : TypeId → Sig) (o : Oper) (gv : List (Nat × Bool) → Operand → SV)
  (hgv : ∀ ex x, (∀ g ∈ ex, a.tmps.getD g.1 undef = .bool g.2) → Rep h ρ (a.eval x) (gv ex x)) (K : St → Prop) (hl : loud P o.op = false)
  (hx : exec P Sg Sv o gv st K) : ∃ v, (∀ w', SameB (fblk P a o) w w' → (execOp a.eval o).run P w' = .ok (.value v) w') ∧ Goes X K (a.put o.dst v) w := by
 unfold exec at hx
 split at hx
 ·rename_i C hv; obtain ⟨v, hrun, hg⟩ := Zr5 F o K hl hv hx; exact ⟨v, fun w' _ => hrun w', hg⟩
 ·simp only [hl, cond_false] at hx
  split at hx
  ·rename_i s hs; obtain ⟨v, hrun, r⟩ := Zgq F o gv hgv hs; exact ⟨v, hrun, _, ⟨h, ρ, F.put o.dst (TRep.of_rep' r)⟩, hx⟩
  ·exact Zot F o K hx

theorem Zkx (F : FitsAt X h ρ st a w) (Sg : FuncId → Sig) (Sv : TypeId → Sig) (o : Oper) (gv : List (Nat × Bool) → Operand → SV)
  (hgv : ∀ ex x, (∀ g ∈ ex, a.tmps.getD g.1 undef = .bool g.2) → Rep h ρ (a.eval x) (gv ex x)) (K : St → Prop)
  (hx : exec P Sg Sv o gv st K) (Q : Exit → Act → World → Prop) : o.wp P a w (After X K o a w (Zc6 Sg Sv st ρ o)) Q := by
 cases hl : loud P o.op with
 | true =>
  unfold exec at hx
  split at hx
  ·rename_i C hv; obtain ⟨v, w', hrun, hg, hsz, ht⟩ := Zr6 F o K hl hv hx; unfold Oper.wp; rw [hrun]; refine ⟨hg, ⟨_, rfl⟩, hsz, fun b hbl hne => ?_⟩
   rcases ht with ⟨id, ht, hf⟩ | rfl
   ·obtain ⟨tids, e1, e2⟩ := Zbe hne; rw [ht] at e1; cases e1; exact hf b ‹_› (fun hl => e2 id (by simp) hl)
   ·rfl
  ·simp only [hl, cond_true] at hx
   cases hk : (kmode st && Zwi o) with
   | false => rw [hk, cond_false] at hx; exact Zk5 F Sg Sv o K hx Q
   | true => rw [hk, cond_true] at hx; refine Oper.wp_mono (fun a' w' hA => ?_) (Zk5 F Sg Sv o _ hx Q); obtain ⟨⟨st', ⟨h', ρ', F'⟩, hK⟩, rest⟩ := hA; obtain ⟨h2, _, F2⟩ := F'.pureOps (dstL o.dst); exact ⟨⟨_, ⟨h2, ρ', F2⟩, hK⟩, rest⟩
 | false => obtain ⟨v, hrun, hg⟩ := Zhv F Sg Sv o gv hgv K hl hx; unfold Oper.wp; rw [hrun w (SameB.refl _ w)]; exact ⟨hg, ⟨_, rfl⟩, Nat.le_refl _, fun _ _ _ => rfl⟩

theorem chain_holds (F : FitsAt X h ρ st a w) : ∀ (n : Nat) (g : Nat × Bool), a.tmps.getD g.1 undef = .bool g.2 → ∀ g' ∈ chain st n g, a.tmps.getD g'.1 undef = .bool g'.2
 | 0, _, _ => by simp [chain]
 | n + 1, g, hg => by
  intro g' hm; simp only [chain, List.mem_cons] at hm
  rcases hm with rfl | hm
  ·exact hg
  ·split at hm
   ·rename_i t w' x hx; rw [Zco] at hx
    cases hs : st.tmps[g.1]? with
    | none => simp [hs] at hx
    | some s =>
     simp [hs] at hx; subst hx; have r := F.tm g.1 _ hs
     rcases r with ⟨h1, _⟩ | ⟨_, h2⟩
     ·exact chain_holds F n (t, w') h1 g' hm
     ·rw [hg] at h2; simp [undef] at h2
   ·simp at hm

theorem Zm5 (ops : Array Oper) (tm : Array Value) (j t : Nat) (ht : (ops[j]?).bind (·.dst) = some t) (b : Bool) : (yielded ops tm j == some b) = true ↔ tm.getD t undef = .bool b := by
 unfold yielded; simp only [ht, Option.bind_some]; rw [Array.getD_eq_getD_getElem?]
 cases hx : tm[t]? with
 | none => simp [undef]
 | some v =>
  simp only [Option.getD_some]
  cases v <;> simp

theorem Zpi (t : Nat) (b : Bool) : ∀ (cs : List SV) (i : Nat), (fixL t b cs)[i]? = (cs[i]?).map (fun s => match s with | .gd t' w v => (bif Nat.beq t t' then (bif w == b then v else .gd t' w v) else .gd t' w v) | s => s)
 | [], i => by simp [fixL]
 | c :: cs, 0 => by cases c <;> simp [fixL]
 | c :: cs, i + 1 => by
  have := Zpi t b cs i
  cases c <;> simpa [fixL] using this

theorem Zi8 (t : Nat) (b : Bool) : ∀ (cs : List SV), (fixL t b cs).length = cs.length
 | [] => rfl
 | c :: cs => by cases c <;> simp [fixL, Zi8 t b cs]

theorem FitsAt.fix (F : FitsAt X h ρ st a w) (t : Nat) (b : Bool) (hb : a.tmps.getD t undef = .bool b) : FitsAt X h ρ (st.fix t b) a w := by
 refine { F with size := ?_, tm := fun i s hs => ?_ }
 ·simp [St.fix, Zfl, Zi8, F.size]
 ·simp only [St.fix, Zfl] at hs; rw [List.getElem?_set] at hs; by_cases hti : t = i
  ·subst hti; simp only [if_true] at hs
   split at hs
   ·cases hs; rw [hb]; exact TRep.of_rep' (.pure _ _ (.val _))
   ·cases hs
  ·simp only [hti, if_false, Zpi] at hs
   cases hx : st.tmps[i]? with
   | none => simp [hx] at hs
   | some x =>
    simp [hx] at hs; have r := F.tm i x hx
    split at hs
    ·rename_i t' w' v; by_cases htt : t = t'
     ·subst htt; simp only [Nat.beq_refl, cond_true] at hs
      cases hwb : (w' == b) with
      | false => simp only [hwb, cond_false] at hs; subst hs; exact r
      | true =>
       simp only [hwb, cond_true] at hs; subst hs; have : w' = b := (by simpa using hwb); subst this
       rcases r with ⟨_, r⟩ | ⟨hne, _⟩
       ·exact TRep.of_rep' r
       ·exact absurd hb hne
     ·rw [Zaq htt] at hs; simp only [cond_false] at hs; subst hs; exact r
    ·subst hs; exact r

theorem Zky {ops : Array Oper} {o : Oper} {j t : Nat} {wj : Bool} (hg : o.guard = some (j, wj)) (hdst : (ops[j]?).bind (·.dst) = some t) :
  Region.wanted o (yielded ops a.tmps) = true ↔ a.tmps.getD t undef = .bool wj := by
 simp only [Region.wanted, hg]; exact Zm5 ops a.tmps j t hdst wj

theorem Zpj {ops : Array Oper} {j t : Nat} {wj wt : Bool} (h : gdst ops (some (j, wj)) = some (t, wt)) : (ops[j]?).bind (·.dst) = some t ∧ wj = wt := by
 unfold gdst at h; simp only [] at h
 split at h
 ·rename_i t' ht; simp at h; exact ⟨by rw [ht, h.1], h.2⟩
 ·cases h

def Zcu (Sg : FuncId → Sig) (Sv : TypeId → Sig) (ops : Array Oper) (st : St) (ρ : Nat → Loc) (o : Oper) (b : Nat) : Prop :=
 ∀ tids, Zlu Sg Sv ops st o = some tids → ∃ id ∈ tids, live st.objs ρ id ∧ (ρ id).blk = b

theorem FitsAt.gd_slot (F : FitsAt X h ρ st a w) {t t2 : Nat} {w2 : Bool} {s : SV} (hb : lget st.tmps t = .gd t2 w2 s) : (a.tmps.getD t2 undef = .bool w2 ∧ Rep h ρ (a.tmps.getD t undef) s) ∨ (a.tmps.getD t2 undef ≠ .bool w2 ∧ a.tmps.getD t undef = undef) := by
 rw [Zco] at hb
 cases hx : st.tmps[t]? with
 | none => rw [hx] at hb; simp at hb
 | some x => rw [hx] at hb; simp only [Option.getD_some] at hb; subst hb; exact F.tm t _ hx

theorem Zi9 : ∀ (n : Nat) (st : St) (t : Nat) (w : Bool), (St.fixC n st t w).objs = st.objs
 | 0, st, t, w => rfl
 | n + 1, st, t, w => by
  unfold St.fixC
  split
  ·exact Zi9 n st _ _
  ·rfl

theorem Zgj (F : FitsAt X h ρ st a w) : ∀ (n t : Nat) (wt : Bool) (yes no : St → Prop), Zqz n t wt st yes no →
  (a.tmps.getD t undef = .bool wt ∧ FitsAt X h ρ (St.fixC n st t wt) a w ∧ yes (St.fixC n st t wt)) ∨ (a.tmps.getD t undef ≠ .bool wt ∧ ∃ st', FitsAt X h ρ st' a w ∧ no st')
 | 0, t, wt, yes, no, hx => hx.elim
 | n + 1, t, wt, yes, no, hx => by
  unfold Zqz at hx; unfold St.fixC
  split at hx
  ·rename_i b hb; have hv : a.tmps.getD t undef = .bool b := (by have := F.slot [] (by simp) t; rw [hb] at this; exact this.val_inv); simp only [hb]; by_cases e : b = wt
   ·subst e; exact .inl ⟨hv, F.fix t b hv, by cases b <;> exact hx⟩
   ·refine .inr ⟨fun he => by rw [hv] at he; injection he with he; exact e he, st.fix t b, F.fix t b hv, ?_⟩
    cases b <;> cases wt <;> first | exact absurd rfl e | exact hx
  ·rename_i t2 w2 b hb; simp only [hb]; have hg2 := F.gd_slot hb
   rcases Zgj F n t2 w2 _ _ hx with ⟨h1, F1, hy⟩ | ⟨h1, st', F1, hn⟩
   ·have hv : a.tmps.getD t undef = .bool b := by
     rcases hg2 with ⟨_, hr⟩ | ⟨hne, _⟩
     ·exact hr.val_inv
     ·exact absurd h1 hne
    by_cases e : b = wt
    ·subst e; exact .inl ⟨hv, F1.fix t b hv, by cases b <;> exact hy⟩
    ·refine .inr ⟨fun he => by rw [hv] at he; injection he with he; exact e he, (St.fixC n st t2 w2).fix t b, F1.fix t b hv, ?_⟩
     cases b <;> cases wt <;> first | exact absurd rfl e | exact hy
   ·have hu : a.tmps.getD t undef = undef := by
     rcases hg2 with ⟨he, _⟩ | ⟨_, hu⟩
     ·exact absurd he h1
     ·exact hu
    exact .inr ⟨fun he => by rw [hu] at he; simp [undef] at he, st', F1, hn⟩
  ·exact hx.elim

theorem Zm6 (F : FitsAt X h ρ st a w) (Sg : FuncId → Sig) (Sv : TypeId → Sig) (ops : Array Oper) (o : Oper) (K : St → Prop) (hx : aop P Sg Sv ops o st K) (Q : Exit → Act → World → Prop) :
  if Region.wanted o (yielded ops a.tmps) then o.wp P a w (After X K o a w (Zcu Sg Sv ops st ρ o)) Q else Goes X K (a.put o.dst undef) w := by
 unfold aop at hx
 split at hx
 ·rename_i hg; simp only [Region.wanted, hg, if_true]; have e : Zcu Sg Sv ops st ρ o = Zc6 Sg Sv st ρ o := (by unfold Zcu Zc6 Zlu; simp only [hg]); rw [e]; exact Zkx F Sg Sv o _ (fun ex x hg => F.operand ex hg x) K hx Q
 ·rename_i g hg
  split at hx
  ·exact hx.elim
  ·rename_i t wt hgd; obtain ⟨j, wj⟩ := g; obtain ⟨hdst, rfl⟩ := Zpj hgd; have hw := Zky (a := a) hg hdst
   split at hx
   ·rename_i s hs
    cases hl : loud P o.op with
    | true => simp [hl] at hs
    | false =>
     simp only [hl, cond_false] at hs; by_cases hwant : Region.wanted o (yielded ops a.tmps) = true
     ·rw [if_pos hwant]; have hb := hw.1 hwant
      obtain ⟨v, hrun, r⟩ := Zgq F o _ (fun ex x hge => F.operand (ex ++ chain st 4 (t, wj)) (fun g hm => by
       rcases List.mem_append.1 hm with hm | hm
       ·exact hge g hm
       ·exact chain_holds F 4 (t, wj) hb g hm) x) hs
      unfold Oper.wp; rw [hrun w (SameB.refl _ w)]; exact ⟨⟨_, ⟨h, ρ, F.put o.dst (s := .gd t wj s) (.inl ⟨hb, r⟩)⟩, hx⟩, ⟨_, rfl⟩, Nat.le_refl _, fun _ _ _ => rfl⟩
     ·rw [if_neg hwant]; exact ⟨_, ⟨h, ρ, F.put o.dst (s := .gd t wj s) (.inr ⟨fun e => hwant (hw.2 e), rfl⟩)⟩, hx⟩
   ·have base : ∀ {st1 : St} {b : Bool}, FitsAt X h ρ st1 a w → st1.objs = st.objs → Zcu Sg Sv ops st ρ o = Zc6 Sg Sv (st1.fix t wj) ρ o → a.tmps.getD t undef = .bool b → aopB P Sg Sv o t wj b st1 K →
      if Region.wanted o (yielded ops a.tmps) then o.wp P a w (After X K o a w (Zcu Sg Sv ops st ρ o)) Q else Goes X K (a.put o.dst undef) w := by
     intro st1 b F hobjs et hv hx; by_cases hwant : Region.wanted o (yielded ops a.tmps) = true
     ·rw [if_pos hwant]; have e := hw.1 hwant; rw [hv] at e; have e' : b = wj := (by injection e); have F1 := F.fix t wj (by rw [hv, e']); rw [et]; refine Zkx F1 Sg Sv o _ (fun ex x hge => F1.operand ex hge x) K ?_ Q; subst e'
      cases b <;> exact hx
     ·rw [if_neg hwant]
      have e' : b = !wj := by
       cases b <;> cases wj <;> first | rfl | exact absurd (hw.2 hv) hwant
      have F1 := F.fix t (!wj) (by rw [hv, e']); refine ⟨_, ⟨h, ρ, F1.put o.dst (s := .gd t wj (.val (.bool true))) (.inr ⟨fun e => hwant (hw.2 e), rfl⟩)⟩, ?_⟩; subst e'
      cases wj <;> exact hx
    split at hx
    ·rename_i b hb; have hv : a.tmps.getD t undef = .bool b := (by have := F.slot [] (by simp) t; rw [hb] at this; exact this.val_inv); refine base F rfl ?_ hv hx; unfold Zcu Zc6 Zlu St.fixN St.fixC; simp only [hg, hgd, hb]; rfl
    ·rename_i t2 w2 b hb
     split at hx
     ·rename_i b2 hb2; have hv2 : a.tmps.getD t2 undef = .bool b2 := (by have := F.slot [] (by simp) t2; rw [hb2] at this; exact this.val_inv); have hg2 := F.gd_slot hb; by_cases e2 : b2 = w2
      ·subst e2
       have hv : a.tmps.getD t undef = .bool b := by
        rcases hg2 with ⟨_, hr⟩ | ⟨hne, _⟩
        ·exact hr.val_inv
        ·exact absurd hv2 hne
       refine base (F.fix t2 b2 hv2) rfl ?_ hv ?_
       ·unfold Zcu Zc6 Zlu St.fixN St.fixC; simp only [hg, hgd, hb]; unfold St.fixC; simp only [hb2]; rfl
       ·cases b2 <;> exact hx
      ·have hu : a.tmps.getD t undef = undef := by
        rcases hg2 with ⟨he, _⟩ | ⟨_, hu⟩
        ·rw [hv2] at he; injection he with he; exact absurd he e2
        ·exact hu
       have hnw : ¬ Region.wanted o (yielded ops a.tmps) = true := fun hwant => by have := hw.1 hwant; rw [hu] at this; simp [undef] at this
       rw [if_neg hnw]; refine ⟨_, ⟨h, ρ, (F.fix t2 b2 hv2).put o.dst (s := .gd t2 w2 (.val (.bool true))) (.inr ⟨fun he => by rw [hv2] at he; injection he with he; exact e2 he, rfl⟩)⟩, ?_⟩
       cases b2 <;> cases w2 <;> first | exact absurd rfl e2 | exact hx
     ·have hg2 := F.gd_slot hb
      rcases Zgj F 4 t2 w2 _ _ hx with ⟨h1, F1, hy⟩ | ⟨h1, st', F1, hn⟩
      ·have hv : a.tmps.getD t undef = .bool b := by
        rcases hg2 with ⟨_, hr⟩ | ⟨hne, _⟩
        ·exact hr.val_inv
        ·exact absurd h1 hne
       refine base F1 (Zi9 4 st t2 w2) ?_ hv hy; have e5 : St.fixC 5 st t wj = (St.fixC 4 st t2 w2).fix t wj := by rw [St.fixC]; simp only [hb]
       have ho : ((St.fixC 4 st t2 w2).fix t wj).objs = st.objs := Zi9 4 st t2 w2; unfold Zcu Zc6 Zlu St.fixN; simp only [hg, hgd, e5, ho]
      ·have hu : a.tmps.getD t undef = undef := by
        rcases hg2 with ⟨he, _⟩ | ⟨_, hu⟩
        ·exact absurd he h1
        ·exact hu
       have hnw : ¬ Region.wanted o (yielded ops a.tmps) = true := fun hwant => by have := hw.1 hwant; rw [hu] at this; simp [undef] at this
       rw [if_neg hnw]; exact ⟨_, ⟨h, ρ, F1.put o.dst (s := .gd t2 w2 (.val (.bool true))) (.inr ⟨h1, rfl⟩)⟩, hn⟩
     ·exact hx.elim
    ·exact hx.elim

theorem Zua (F : FitsAt X h ρ st a w) (Sg : FuncId → Sig) (Sv : TypeId → Sig) (ops : Array Oper) (o : Oper) (K : St → Prop) (hl : loud P o.op = false) (hx : aop P Sg Sv ops o st K) :
  ∃ v, (Region.wanted o (yielded ops a.tmps) = true → ∀ w', SameB (fblk P a o) w w' → (execOp a.eval o).run P w' = .ok (.value v) w') ∧
   (Region.wanted o (yielded ops a.tmps) = false → v = undef) ∧ Goes X K (a.put o.dst v) w := by
 unfold aop at hx
 split at hx
 ·rename_i hg; obtain ⟨v, hrun, hgo⟩ := Zhv F Sg Sv o _ (fun ex x hg => F.operand ex hg x) K hl hx; exact ⟨v, fun _ => hrun, fun e => by simp [Region.wanted, hg] at e, hgo⟩
 ·rename_i g hg
  split at hx
  ·exact hx.elim
  ·rename_i t wt hgd; obtain ⟨j, wj⟩ := g; obtain ⟨hdst, rfl⟩ := Zpj hgd; have hw := Zky (a := a) hg hdst
   split at hx
   ·rename_i s hs; simp only [hl, cond_false] at hs; by_cases hwant : Region.wanted o (yielded ops a.tmps) = true
    ·have hb := hw.1 hwant
     obtain ⟨v, hrun, r⟩ := Zgq F o _ (fun ex x hge => F.operand (ex ++ chain st 4 (t, wj)) (fun g hm => by
      rcases List.mem_append.1 hm with hm | hm
      ·exact hge g hm
      ·exact chain_holds F 4 (t, wj) hb g hm) x) hs
     exact ⟨v, fun _ => hrun, fun e => by (rw [hwant] at e; cases e), _, ⟨h, ρ, F.put o.dst (s := .gd t wj s) (.inl ⟨hb, r⟩)⟩, hx⟩
    ·exact ⟨undef, fun e => absurd e hwant, fun _ => rfl, _, ⟨h, ρ, F.put o.dst (s := .gd t wj s) (.inr ⟨fun e => hwant (hw.2 e), rfl⟩)⟩, hx⟩
   ·have base : ∀ {st1 : St} {b : Bool}, FitsAt X h ρ st1 a w → a.tmps.getD t undef = .bool b → aopB P Sg Sv o t wj b st1 K →
      ∃ v, (Region.wanted o (yielded ops a.tmps) = true → ∀ w', SameB (fblk P a o) w w' → (execOp a.eval o).run P w' = .ok (.value v) w') ∧
       (Region.wanted o (yielded ops a.tmps) = false → v = undef) ∧ Goes X K (a.put o.dst v) w := by
     intro st1 b F hv hx; by_cases hwant : Region.wanted o (yielded ops a.tmps) = true
     ·have e := hw.1 hwant; rw [hv] at e; have e' : b = wj := (by injection e); have F1 := F.fix t wj (by rw [hv, e']); obtain ⟨v, hrun, hgo⟩ := Zhv F1 Sg Sv o _ (fun ex x hge => F1.operand ex hge x) K hl (by subst e'; cases b <;> exact hx); exact ⟨v, fun _ => hrun, fun e => by (rw [hwant] at e; cases e), hgo⟩
     ·have e' : b = !wj := by
       cases b <;> cases wj <;> first | rfl | exact absurd (hw.2 hv) hwant
      have F1 := F.fix t (!wj) (by rw [hv, e']); refine ⟨undef, fun e => absurd e hwant, fun _ => rfl, _, ⟨h, ρ, F1.put o.dst (s := .gd t wj (.val (.bool true))) (.inr ⟨fun e => hwant (hw.2 e), rfl⟩)⟩, ?_⟩; subst e'
      cases wj <;> exact hx
    split at hx
    ·rename_i b hb; have hv : a.tmps.getD t undef = .bool b := (by have := F.slot [] (by simp) t; rw [hb] at this; exact this.val_inv); exact base F hv hx
    ·rename_i t2 w2 b hb
     split at hx
     ·rename_i b2 hb2; have hv2 : a.tmps.getD t2 undef = .bool b2 := (by have := F.slot [] (by simp) t2; rw [hb2] at this; exact this.val_inv); have hg2 := F.gd_slot hb; by_cases e2 : b2 = w2
      ·subst e2
       have hv : a.tmps.getD t undef = .bool b := by
        rcases hg2 with ⟨_, hr⟩ | ⟨hne, _⟩
        ·exact hr.val_inv
        ·exact absurd hv2 hne
       refine base (F.fix t2 b2 hv2) hv ?_
       cases b2 <;> exact hx
      ·have hu : a.tmps.getD t undef = undef := by
        rcases hg2 with ⟨he, _⟩ | ⟨_, hu⟩
        ·rw [hv2] at he; injection he with he; exact absurd he e2
        ·exact hu
       have hnw : ¬ Region.wanted o (yielded ops a.tmps) = true := fun hwant => by have := hw.1 hwant; rw [hu] at this; simp [undef] at this
       refine ⟨undef, fun e => absurd e hnw, fun _ => rfl, _, ⟨h, ρ, (F.fix t2 b2 hv2).put o.dst (s := .gd t2 w2 (.val (.bool true))) (.inr ⟨fun he => by rw [hv2] at he; injection he with he; exact e2 he, rfl⟩)⟩, ?_⟩
       cases b2 <;> cases w2 <;> first | exact absurd rfl e2 | exact hx
     ·have hg2 := F.gd_slot hb
      rcases Zgj F 4 t2 w2 _ _ hx with ⟨h1, F1, hy⟩ | ⟨h1, st', F1, hn⟩
      ·have hv : a.tmps.getD t undef = .bool b := by
        rcases hg2 with ⟨_, hr⟩ | ⟨hne, _⟩
        ·exact hr.val_inv
        ·exact absurd h1 hne
       exact base F1 hv hy
      ·have hu : a.tmps.getD t undef = undef := by
        rcases hg2 with ⟨he, _⟩ | ⟨_, hu⟩
        ·exact absurd he h1
        ·exact hu
       have hnw : ¬ Region.wanted o (yielded ops a.tmps) = true := fun hwant => by have := hw.1 hwant; rw [hu] at this; simp [undef] at this
       exact ⟨undef, fun e => absurd e hnw, fun _ => rfl, _, ⟨h, ρ, F1.put o.dst (s := .gd t2 w2 (.val (.bool true))) (.inr ⟨h1, rfl⟩)⟩, hn⟩
     ·exact hx.elim
    ·exact hx.elim

end

section
variable {X : Cx} {P : Program}

def Fr (ws : List Nat) (a a' : Act) : Prop := ∀ t, t ∉ ws → a'.tmps.getD t undef = a.tmps.getD t undef

theorem Fr.refl (ws : List Nat) (a : Act) : Fr ws a a := fun _ _ => rfl
theorem Fr.trans {ws : List Nat} {a b c : Act} (x : Fr ws a b) (y : Fr ws b c) : Fr ws a c := fun t ht => (y t ht).trans (x t ht)
theorem Fr.mono {ws ws' : List Nat} {a b : Act} (x : Fr ws a b) (h : ∀ t, t ∈ ws → t ∈ ws') : Fr ws' a b := fun t ht => x t fun hm => ht (h t hm)

theorem Fr.put {ws : List Nat} {a b : Act} (x : Fr ws a b) {d : Option Nat} (hd : ∀ t, d = some t → t ∈ ws) (v : Value) : Fr ws a (b.put d v) := by
 cases d with
 | none => exact x
 | some d => intro t ht; rw [← x t ht]; exact getD_set_ne' v (fun e => ht (e ▸ hd d rfl))

theorem Zew (Sg : FuncId → Sig) (Sv : TypeId → Sig) (ops : Array Oper) (Q : Exit → Act → World → Prop) (K : St → Prop) (ws : List Nat) (a0 : Act) (hK : ∀ st a w, Fits X st a w → Fr ws a0 a → K st → Q .normal a w) :
  ∀ (l : List Oper) (st : St) (a : Act) (w : World), (∀ o ∈ l, ∀ t, o.dst = some t → t ∈ ws) → Fr ws a0 a → Fits X st a w → vcOps P Sg Sv ops l st K → wpList P ops Q l a w
 | [], st, a, w, _, hr, F, hv => hK st a w F hr hv
 | o :: rest, st, a, w, hd, hr, ⟨h, ρ, F⟩, hv => by
  have := Zm6 F Sg Sv ops o _ hv Q; have hd0 := hd o (by simp); have hd' : ∀ o ∈ rest, ∀ t, o.dst = some t → t ∈ ws := fun o ho => hd o (by simp [ho]); simp only [wpList]
  split
  ·rename_i hw; rw [if_pos hw] at this; exact .inl (Oper.wp_mono (fun a' w' ⟨⟨st', F', hk⟩, ⟨u, e⟩, _⟩ => Zew Sg Sv ops Q K ws a0 hK rest st' a' w' hd' (by rw [e]; exact hr.put hd0 u) F' hk) this)
  ·rename_i hw; rw [if_neg hw] at this; obtain ⟨st', F', hk⟩ := this; exact Zew Sg Sv ops Q K ws a0 hK rest st' _ w hd' (hr.put hd0 _) F' hk

end

section
variable {ops : Array Oper}

structure RegOK (ops : Array Oper) : Prop where
 uniq : ∀ (i k : Nat) d, dstOf ops i = some d → dstOf ops k = some d → i = k
 back : ∀ (k : Nat) o, ops[k]? = some o → ∀ e ∈ o.after, Region.binds .any e = true → e.on < k
 sel : ∀ (k : Nat) o cs b, ops[k]? = some o → o.op ≠ .select cs b
 sep : ∀ (k i : Nat) o p, ops[k]? = some o → ops[i]? = some p → i ≠ k → Zbn i o = true ∨ Zbn k p = true ∨ ∀ d, p.dst = some d → d ∉ o.looksAt ops

theorem Zed : ∀ (l : List Oper), (l.filterMap (·.dst)).Nodup → ∀ (i k : Nat) d, (l[i]?).bind (·.dst) = some d → (l[k]?).bind (·.dst) = some d → i = k
 | [], _, i, k, d, hi, _ => by simp at hi
 | o :: l, hn, i, k, d, hi, hk => by
  cases ho : o.dst with
  | none =>
   simp only [List.filterMap_cons, ho] at hn
   cases i with
   | zero => simp [ho] at hi
   | succ i => cases k with
    | zero => simp [ho] at hk
    | succ k => rw [Zed l hn i k d (by simpa using hi) (by simpa using hk)]
  | some x =>
   simp only [List.filterMap_cons, ho, List.nodup_cons] at hn
   have hmem : ∀ j : Nat, (l[j]?).bind (fun q : Oper => q.dst) = some x → False := fun j hj => by
    apply hn.1
    cases hl : l[j]? with
    | none => simp [hl] at hj
    | some q => simp [hl] at hj; exact List.mem_filterMap.2 ⟨q, List.mem_of_getElem? hl, hj⟩
   cases i with
   | zero =>
    simp [ho] at hi; subst hi
    cases k with
    | zero => rfl
    | succ k => exact (hmem k (by simpa using hk)).elim
   | succ i => cases k with
    | zero => simp [ho] at hk; subst hk; exact (hmem i (by simpa using hi)).elim
    | succ k => rw [Zed l hn.2 i k d (by simpa using hi) (by simpa using hk)]

theorem Zlz (h : Zht ops = true) : RegOK ops := by
 simp only [Zht, Bool.and_eq_true, List.all_eq_true, List.mem_range] at h; obtain ⟨h1, h2⟩ := h; have lt : ∀ {k : Nat} {o : Oper}, ops[k]? = some o → k < ops.size := fun e => (Array.getElem?_eq_some_iff.1 e).1; refine ⟨fun i k d hi hk => ?_, fun k o hk e he hb => ?_, fun k o cs b hk e => ?_, fun k i o p hk hi hne => ?_⟩
 ·exact Zed ops.toList (Zbm h1) i k d (by simpa [dstOf] using hi) (by simpa [dstOf] using hk)
 ·have := h2 k (lt hk); simp only [hk, Bool.and_eq_true, List.all_eq_true] at this; have := this.1.1 e (by simpa using he); simp [hb] at this; exact this
 ·have := h2 k (lt hk); simp only [hk, Bool.and_eq_true] at this; have := this.1.2; rw [e] at this
  cases this
 ·have := h2 k (lt hk); simp only [hk, Bool.and_eq_true, List.all_eq_true, List.mem_range] at this; have := this.2 i (lt hi); simp only [hi, Bool.or_eq_true] at this
  rcases this with (h3 | h3) | h3
  ·exact absurd (Nat.eq_of_beq_eq_true h3) hne
  ·exact .inl h3
  ·rcases h3 with h3 | h3
   ·exact .inr (.inl h3)
   ·refine .inr (.inr fun d hd hm => ?_); rw [hd] at h3; simp only [Bool.not_eq_true', List.any_eq_false] at h3; have := h3 d hm; simp at this

theorem Zgk {i : Nat} {o : Oper} : Zbn i o = true ↔ ∃ e ∈ o.after, Region.binds .any e = true ∧ e.on = i := by
 simp only [Zbn, List.any_eq_true, Bool.and_eq_true]; constructor
 ·rintro ⟨e, he, hb, hi⟩; exact ⟨e, by simpa using he, hb, Nat.eq_of_beq_eq_true hi⟩
 ·rintro ⟨e, he, hb, rfl⟩; exact ⟨e, by simpa using he, hb, Nat.beq_refl _⟩

def Zdz (ops : Array Oper) (l : Array Bool) : Prop := l.size = ops.size ∧ ∀ (k : Nat) o, ops[k]? = some o → l.getD k false = true → ∀ i, Zbn i o = true → l.getD i false = true

def In (l : Array Bool) (k : Nat) : Prop := l.getD k false = true

theorem Zd0 {l : Array Bool} {i k : Nat} (hi : i < l.size) : In (l.setIfInBounds i true) k ↔ k = i ∨ In l k := by
 unfold In; by_cases h : k = i
 ·subst h; simp [hi]
 ·have : (l.setIfInBounds i true).getD k false = l.getD k false := (by simp [Array.getElem?_setIfInBounds_ne (Ne.symm h)]); rw [this]; simp [h]

theorem Zek {l : Array Bool} {i : Nat} (hs : l.size = ops.size) : i ∈ Region.ready .any ops l ↔ ¬ In l i ∧ ∃ o, ops[i]? = some o ∧ ∀ j, Zbn j o = true → In l j := by
 rw [mem_ready]; constructor
 ·rintro ⟨h0, o, ho, hall⟩; have hlt : i < l.size := by rw [hs]; exact (Array.getElem?_eq_some_iff.1 ho).1
  refine ⟨fun hin => ?_, o, ho, fun j hj => ?_⟩
  ·unfold In at hin; simp [hlt] at h0 hin; rw [h0] at hin; cases hin
  ·obtain ⟨e, he, hb, rfl⟩ := Zgk.1 hj; exact hall e he hb
 ·rintro ⟨h0, o, ho, hall⟩; have hlt : i < l.size := by rw [hs]; exact (Array.getElem?_eq_some_iff.1 ho).1
  refine ⟨?_, o, ho, fun e he hb => hall e.on (Zgk.2 ⟨e, he, hb, rfl⟩)⟩; unfold In at h0; simp [hlt] at h0 ⊢; exact h0

theorem Zrz (R : RegOK ops) {l : Array Bool} (hs : l.size = ops.size) (h : Region.ready .any ops l = []) : ∀ k, k < ops.size → In l k := by
 intro k
 induction k using Nat.strongRecOn with
 | _ k ih =>
  intro hk; by_cases hin : In l k
  ·exact hin
  ·exfalso
   have : k ∈ Region.ready .any ops l := (Zek hs).2 ⟨hin, ops[k], Array.getElem?_eq_getElem hk, fun j hj => by
    obtain ⟨e, he, hb, rfl⟩ := Zgk.1 hj; have hlt := R.back k _ (Array.getElem?_eq_getElem hk) e he hb
    exact ih e.on hlt (by omega)⟩
   rw [h] at this; cases this

theorem Zdz.set {l : Array Bool} {i : Nat} {o : Oper} (c : Zdz ops l) (ho : ops[i]? = some o) (hr : ∀ j, Zbn j o = true → In l j) : Zdz ops (l.setIfInBounds i true) := by
 have hi : i < l.size := (by rw [c.1]; exact (Array.getElem?_eq_some_iff.1 ho).1); refine ⟨by simp [c.1], fun k p hp hk j hj => ?_⟩; have hk' : In (l.setIfInBounds i true) k := hk; show In (l.setIfInBounds i true) j; rw [Zd0 hi] at hk' ⊢
 rcases hk' with rfl | hk'
 ·rw [ho] at hp; cases hp; exact .inr (hr j hj)
 ·exact .inr (c.2 k p hp hk' j hj)

def wr (ops : Array Oper) (l : Array Bool) (t : Nat) : Option Nat := (List.range ops.size).find? fun k => l.getD k false && (dstOf ops k == some t)

theorem Zgl (R : RegOK ops) {l : Array Bool} {t k : Nat} (hk : In l k) (hd : dstOf ops k = some t) : wr ops l t = some k := by
 have hlt : k < ops.size := by
  unfold dstOf at hd
  rcases Nat.lt_or_ge k ops.size with h | h
  ·exact h
  ·rw [Array.getElem?_eq_none h] at hd; cases hd
 cases h : wr ops l t with
 | none => have := List.find?_eq_none.1 h k (by simpa using hlt); unfold In at hk; simp only [hk, hd] at this; simp at this
 | some j => have hj := List.find?_some h; simp only [Bool.and_eq_true, beq_iff_eq] at hj; rw [R.uniq j k t hj.2 hd]

theorem Zja {l : Array Bool} {t : Nat} (h : ∀ k, In l k → dstOf ops k ≠ some t) : wr ops l t = none := by
 rw [wr, List.find?_eq_none]; intro k _; simp only [Bool.and_eq_true, beq_iff_eq]; rintro ⟨h1, h2⟩; exact h k h1 h2

theorem Zkz {l : Array Bool} {t k : Nat} (h : wr ops l t = some k) : In l k ∧ dstOf ops k = some t := by
 have hj := List.find?_some h; simp only [Bool.and_eq_true, beq_iff_eq] at hj; exact hj

def slotV (ops : Array Oper) (a0 : Act) (u : Nat → Value) (l : Array Bool) (t : Nat) : Value :=
 match wr ops l t with
 | some k => u k
 | none => a0.tmps.getD t undef

def actOf (ops : Array Oper) (a0 : Act) (u : Nat → Value) (l : Array Bool) : Act :=
 { tmps := ((List.range a0.tmps.size).map (slotV ops a0 u l)).toArray, defers := a0.defers }

theorem Zca (a0 : Act) (u : Nat → Value) (l : Array Bool) (t : Nat) : (actOf ops a0 u l).tmps.getD t undef = if t < a0.tmps.size then slotV ops a0 u l t else undef := by
 simp only [actOf]; by_cases h : t < a0.tmps.size
 ·simp [h]
 ·simp [h]

theorem Zgt (R : RegOK ops) (a0 : Act) (u : Nat → Value) (l : Array Bool) (i : Nat) (o : Oper) (ho : ops[i]? = some o) (hs : l.size = ops.size) (hin : ¬ In l i) (v : Value) :
  (actOf ops a0 u l).put o.dst v = actOf ops a0 (fun k => if k = i then v else u k) (l.setIfInBounds i true) := by
 have hi : i < l.size := by rw [hs]; exact (Array.getElem?_eq_some_iff.1 ho).1
 have hother : ∀ t, o.dst ≠ some t → slotV ops a0 (fun k => if k = i then v else u k) (l.setIfInBounds i true) t = slotV ops a0 u l t := by
  intro t ht; unfold slotV
  cases hw : wr ops l t with
  | some k => obtain ⟨h1, h2⟩ := Zkz hw; rw [Zgl R ((Zd0 hi).2 (.inr h1)) h2]; have : k ≠ i := fun e => hin (e ▸ h1); simp [this]
  | none =>
   rw [Zja (fun k hk hd => ?_)]
   rcases (Zd0 hi).1 hk with rfl | hk
   ·simp [dstOf, ho] at hd; exact ht hd
   ·have := Zgl R hk hd; rw [hw] at this; cases this
 cases hd : o.dst with
 | none => simp only [Act.put]; unfold actOf; congr 2; apply List.map_congr_left; intro t _; exact (hother t (by simp [hd])).symm
 | some d =>
  simp only [Act.put]; unfold actOf; congr 1; apply Array.ext'; simp only [Array.toList_setIfInBounds]; apply List.ext_getElem?; intro t; rw [List.getElem?_set]; by_cases hdt : d = t
  ·subst hdt; by_cases hlt : d < a0.tmps.size
   ·simp [hlt]; have : wr ops (l.setIfInBounds i true) d = some i := Zgl R ((Zd0 hi).2 (.inl rfl)) (by simp [dstOf, ho, hd]); simp [slotV, this]
   ·simp [hlt]
  ·simp only [hdt, if_false]; by_cases hlt : t < a0.tmps.size
   ·simp [hlt, hother t (by simp [hd, hdt])]
   ·simp [hlt]

theorem Zvz (R : RegOK ops) {a0 : Act} {u : Nat → Value} {l l' : Array Bool} {i : Nat} {o : Oper} (ho : ops[i]? = some o) (c : Zdz ops l) (c' : Zdz ops l')
  (hr : ∀ j, Zbn j o = true → In l j) (hr' : ∀ j, Zbn j o = true → In l' j) (hn : ¬ In l i) (hn' : ¬ In l' i) (t : Nat) (ht : t ∈ o.looksAt ops) :
  (actOf ops a0 u l).tmps.getD t undef = (actOf ops a0 u l').tmps.getD t undef := by
 rw [Zca, Zca]
 split
 ·unfold slotV
  have key : ∀ {l : Array Bool}, Zdz ops l → (∀ j, Zbn j o = true → In l j) → ¬ In l i → ∀ k, dstOf ops k = some t → (In l k ↔ Zbn k o = true) := by
   intro l c hr hn k hd
   cases hp : ops[k]? with
   | none => simp [dstOf, hp] at hd
   | some p =>
    have hpd : p.dst = some t := (by simpa [dstOf, hp] using hd); constructor
    ·intro hk; have hki : k ≠ i := fun e => hn (e ▸ hk)
     rcases R.sep i k o p ho hp hki with h | h | h
     ·exact h
     ·exact absurd (c.2 k p hp hk i h) hn
     ·exact absurd ht (h t hpd)
    ·exact hr k
  cases hw : wr ops l t with
  | some k => obtain ⟨h1, h2⟩ := Zkz hw; have := (key c hr hn k h2).1 h1; rw [Zgl R ((key c' hr' hn' k h2).2 this) h2]
  | none => rw [Zja (fun k hk hd => ?_)]; have := (key c' hr' hn' k hd).1 hk; have h3 := Zgl R ((key c hr hn k hd).2 this) hd; rw [hw] at h3; cases h3
 ·rfl

theorem Ziq {a a' : Act} {o : Oper} (h : ∀ t ∈ o.looksAt ops, a.tmps.getD t undef = a'.tmps.getD t undef) : ∀ x ∈ o.op.operands, a.eval x = a'.eval x := by
 intro x hx
 cases x with
 | tmp t => exact h t (List.mem_append_left _ (List.mem_filterMap.2 ⟨.tmp t, by simpa using hx, rfl⟩))
 | _ => rfl

theorem Zfy {a a' : Act} {o : Oper} (h : ∀ t ∈ o.looksAt ops, a.tmps.getD t undef = a'.tmps.getD t undef) (hsz : a.tmps.size = a'.tmps.size) : Region.wanted o (yielded ops a.tmps) = Region.wanted o (yielded ops a'.tmps) := by
 unfold Region.wanted
 cases hg : o.guard with
 | none => rfl
 | some gw =>
  obtain ⟨g, b⟩ := gw
  have : yielded ops a.tmps g = yielded ops a'.tmps g := by
   unfold yielded
   cases ht : (ops[g]?).bind (·.dst) with
   | none => rfl
   | some t =>
    have e := h t (List.mem_append_right _ (by simp [hg, ht])); simp only [Option.bind_some]; rw [Array.getD_eq_getD_getElem?, Array.getD_eq_getD_getElem?] at e; by_cases hlt : t < a.tmps.size
    ·have hlt' : t < a'.tmps.size := hsz ▸ hlt; simp [hlt, hlt'] at e ⊢; rw [e]
    ·have hlt' : ¬ t < a'.tmps.size := hsz ▸ hlt; simp [hlt, hlt']
  simp only [this]

end

section
variable {X : Cx} {P : Program} {ops : Array Oper}

def Owed (P : Program) (ops : Array Oper) (a0 : Act) (u : Nat → Value) (w : World) (k : Nat) (o : Oper) : Prop :=
 loud P o.op = false ∧ ∀ l, Zdz ops l → (∀ j, Zbn j o = true → In l j) → ¬ In l k →
  (Region.wanted o (yielded ops (actOf ops a0 u l).tmps) = true → ∀ w', SameB (fblk P (actOf ops a0 u l) o) w w' → (execOp (actOf ops a0 u l).eval o).run P w' = .ok (.value (u k)) w') ∧
  (Region.wanted o (yielded ops (actOf ops a0 u l).tmps) = false → u k = undef)

structure Sim (P : Program) (Sg : FuncId → Sig) (Sv : TypeId → Sig) (ops : Array Oper) (X : Cx) (a0 : Act) (K : St → Prop) (u : Nat → Value) (la lc : Array Bool) (n : Nat) (st : St) (w : World) : Prop where
 ca : Zdz ops la
 cc : Zdz ops lc
 sub : ∀ k, In la k → In lc k
 fits : Fits X st (actOf ops a0 u lc) w
 owed : ∀ (k : Nat) o, ops[k]? = some o → In lc k → ¬ In la k → Owed P ops a0 u w k o
 vcs : vcAny P Sg Sv ops n lc st K

theorem Zjb : ∀ {l : List Nat} {f : Nat → Prop}, Zpf l f → ∀ i ∈ l, f i
 | [], _, _, i, h => by cases h
 | [j], f, h, i, hi => by simp at hi; subst hi; exact h
 | j :: k :: l, f, h, i, hi => by
  rcases List.mem_cons.1 hi with rfl | hi
  ·exact h.1
  ·exact Zjb h.2 i hi

theorem Zh7 {o : Op} {x : Operand} (h : Zb3 P o = some x) : x ∈ o.operands := by
 unfold Zb3 at h
 split at h
 ·cases h; simp [Op.operands]
 ·cases h; simp [Op.operands]
 ·split at h
  ·cases h; simp [Op.operands, Call.operands]
  ·cases h
 ·split at h
  ·cases h; simp [Op.operands]
  ·cases h
 ·cases h

theorem Zl0 {a a' : Act} {o : Oper} (h : ∀ x ∈ o.op.operands, a.eval x = a'.eval x) : fblk P a o = fblk P a' o := by
 unfold fblk
 split
 ·rfl
 ·rename_i x heq; rw [h x (Zh7 heq)]

theorem Zcj (a0 : Act) (u : Nat → Value) (l : Array Bool) : (actOf ops a0 u l).tmps.size = a0.tmps.size := by simp [actOf]

theorem Zgm {a0 : Act} {u u' : Nat → Value} {l : Array Bool} (h : ∀ k, In l k → u' k = u k) : actOf ops a0 u' l = actOf ops a0 u l := by
 unfold actOf; congr 2; apply List.map_congr_left; intro t _; unfold slotV
 cases hw : wr ops l t with
 | none => rfl
 | some k => exact h k (Zkz hw).1

theorem Owed.of_env (R : RegOK ops) {a0 : Act} {u : Nat → Value} {w : World} {k : Nat} {o : Oper} (ho : ops[k]? = some o) (hl : loud P o.op = false) {l : Array Bool} (c : Zdz ops l)
  (hr : ∀ j, Zbn j o = true → In l j) (hn : ¬ In l k)
  (h1 : Region.wanted o (yielded ops (actOf ops a0 u l).tmps) = true → ∀ w', SameB (fblk P (actOf ops a0 u l) o) w w' → (execOp (actOf ops a0 u l).eval o).run P w' = .ok (.value (u k)) w')
  (h2 : Region.wanted o (yielded ops (actOf ops a0 u l).tmps) = false → u k = undef) : Owed P ops a0 u w k o := by
 refine ⟨hl, fun l' c' hr' hn' => ?_⟩; have henv := Zvz R (a0 := a0) (u := u) ho c c' hr hr' hn hn'; have hev := Ziq henv; rw [← execOp_congr o (fun cs b => R.sel k o cs b ho) hev, ← Zl0 hev, ← Zfy henv (by rw [Zcj, Zcj])]; exact ⟨h1, h2⟩

theorem Sim.calm (R : RegOK ops) {Sg : FuncId → Sig} {Sv : TypeId → Sig} {a0 : Act} {K : St → Prop} {u : Nat → Value} {la lc : Array Bool} {n : Nat} {st : St} {w : World} (S : Sim P Sg Sv ops X a0 K u la lc (n + 1) st w)
  {i : Nat} {o : Oper} (ho : ops[i]? = some o) (hi : i ∈ Region.ready .any ops lc) (hl : loud P o.op = false)
  (hv : aop P Sg Sv ops o st fun st' => vcAny P Sg Sv ops n (lc.setIfInBounds i true) st' K) :
  ∃ u' st', (∀ k, In lc k → u' k = u k) ∧ Sim P Sg Sv ops X a0 K u' la (lc.setIfInBounds i true) n st' w := by
 obtain ⟨hni, o', ho', hr⟩ := (Zek S.cc.1).1 hi; rw [ho] at ho'; cases ho'; have hilt : i < lc.size := by rw [S.cc.1]; exact (Array.getElem?_eq_some_iff.1 ho).1
 obtain ⟨h, ρ, F⟩ := S.fits; obtain ⟨v, h1, h2, st', F', hk⟩ := Zua F Sg Sv ops o _ hl hv; have hu : ∀ k, In lc k → (fun k => if k = i then v else u k) k = u k := fun k hk => by have : k ≠ i := fun e => hni (e ▸ hk); simp [this]
 have hact := Zgm (ops := ops) (a0 := a0) hu; refine ⟨fun k => if k = i then v else u k, st', hu, S.ca, S.cc.set ho hr, fun k hk => (Zd0 hilt).2 (.inr (S.sub k hk)), ?_, fun k p hp hkc hka => ?_, hk⟩
 ·rw [← Zgt R a0 u lc i o ho S.cc.1 hni v]; exact F'
 ·rcases (Zd0 hilt).1 hkc with rfl | hkl
  ·rw [ho] at hp; cases hp; refine Owed.of_env R ho hl S.cc hr hni ?_ ?_
   ·rw [hact]; simpa using h1
   ·rw [hact]; simpa using h2
  ·have hne : k ≠ i := fun e => hni (e ▸ hkl); obtain ⟨g1, g2⟩ := S.owed k p hp hkl hka; refine ⟨g1, fun l c hrl hnl => ?_⟩
   have hcongr : ∀ t ∈ p.looksAt ops, (actOf ops a0 (fun k => if k = i then v else u k) l).tmps.getD t undef = (actOf ops a0 u l).tmps.getD t undef := by
    intro t ht; rw [Zca, Zca]
    split
    ·unfold slotV
     cases hw : wr ops l t with
     | none => rfl
     | some j =>
      obtain ⟨hj1, hj2⟩ := Zkz hw
      have hji : j ≠ i := by
       intro e; subst e; have hod : o.dst = some t := by simpa [dstOf, ho] using hj2
       rcases R.sep k j p o hp ho (fun e => hnl (e ▸ hj1)) with h | h | h
       ·exact hni (S.cc.2 k p hp hkl j h)
       ·exact hnl (c.2 j o ho hj1 k h)
       ·exact h t hod ht
      simp [hji]
    ·rfl
   have hev := Ziq hcongr; rw [execOp_congr p (fun cs b => R.sel k p cs b hp) hev, Zl0 hev, Zfy hcongr (by rw [Zcj, Zcj])]; have := g2 l c hrl hnl
   simpa [hne] using this

def blkOf : Value → Option Nat
 | .pointer (some ad) => some ad.block
 | .map (some r) => some r
 | .slice (some ad) (_ + 1) _ => some ad.block
 | _ => none

theorem Zr0 {a : Act} {o : Oper} {b : Nat} (h : fblk P a o = some b) : ∃ x, Zb3 P o.op = some x ∧ blkOf (a.eval x) = some b := by
 unfold fblk at h
 split at h
 ·cases h
 ·rename_i x hx; exact ⟨x, hx, h⟩

theorem Zm7 {st : St} {h : Hp} {ρ : Nat → Loc} {a : Act} {w : World} (F : FitsAt X h ρ st a w) {tids : List Nat} {y : Operand} (hk : Zeb st.objs tids (ev st y) = true)
  {b : Nat} (hy : blkOf (a.eval y) = some b) : b < w.heap.size ∧ ∀ id ∈ tids, live st.objs ρ id → (ρ id).blk ≠ b := by
 have own : ∀ id1, (!(tids.any (Nat.beq id1))) = true → live st.objs ρ id1 → b = (ρ id1).blk → b < w.heap.size ∧ ∀ id ∈ tids, live st.objs ρ id → (ρ id).blk ≠ b := (by intro id1 hna hl e; subst e; obtain ⟨⟨o, ho⟩, hn⟩ := hl; refine ⟨ObOK.blk_lt (F.obj id1 _ ho) hn, fun id hm hl' => F.inj id id1 hl' ⟨⟨o, ho⟩, hn⟩ fun e => ?_⟩; subst e; simp only [Bool.not_eq_true', List.any_eq_false] at hna; have := hna id hm; simp at this); have fixd : ∀ x v, h b x = some v → b < w.heap.size ∧ ∀ id ∈ tids, live st.objs ρ id → (ρ id).blk ≠ b := fun x v e => by refine ⟨F.sub.lt e, fun id _ ⟨⟨o, ho⟩, hn⟩ e' => ?_⟩; have := (F.obj id o ho).hno hn x; rw [e', e] at this; cases this
 have key : ∀ s, Zeb st.objs tids s = true → Rep h ρ (a.eval y) s → b < w.heap.size ∧ ∀ id ∈ tids, live st.objs ρ id → (ρ id).blk ≠ b := by
  intro s
  cases s with
  | ptr id1 off =>
   intro hs r; simp only [Zeb, Bool.and_eq_true] at hs; rw [r.ptr_inv] at hy; simp [blkOf] at hy; have hs2 := hs.2
   split at hs2
   ·rename_i o ho; exact own id1 hs.1 ⟨⟨_, ho⟩, (F.obj id1 _ ho).1⟩ hy.symm
   ·rename_i kd m ns ho; exact own id1 hs.1 ⟨⟨_, ho⟩, (F.obj id1 _ ho).1⟩ hy.symm
   ·cases hs2
  | aptr id1 i =>
   intro hs r; simp only [Zeb, Bool.and_eq_true] at hs; rw [r.aptr_inv] at hy; simp [blkOf] at hy; have hs2 := hs.2
   split at hs2
   ·rename_i o ho; exact own id1 hs.1 ⟨⟨_, ho⟩, (F.obj id1 _ ho).1⟩ hy.symm
   ·rename_i kd m ns ho; exact own id1 hs.1 ⟨⟨_, ho⟩, (F.obj id1 _ ho).1⟩ hy.symm
   ·cases hs2
  | eptr id1 e i off =>
   intro hs r; simp only [Zeb, Bool.and_eq_true] at hs; obtain ⟨hn, hv⟩ := r.eptr_inv; rw [hv] at hy; simp [blkOf] at hy; have hs2 := hs.2
   split at hs2
   ·rename_i o ho; exact own id1 hs.1 ⟨⟨_, ho⟩, hn⟩ hy.symm
   ·cases hs2
  | osl id1 =>
   intro hs r; simp only [Zeb, Bool.and_eq_true] at hs; have hs2 := hs.2
   split at hs2
   ·rename_i o ho
    rcases r.osl_inv with ⟨_, p, hv⟩ | ⟨hn, hv⟩
    ·rw [hv] at hy; cases p <;> simp [blkOf] at hy
    ·rw [hv] at hy
     have : (ρ id1).blk = b := by
      cases hln : (ρ id1).len with
      | zero => rw [hln] at hy; simp [blkOf] at hy
      | succ n => rw [hln] at hy; simpa [blkOf] using hy
     exact own id1 hs.1 ⟨⟨_, ho⟩, hn⟩ this.symm
   ·cases hs2
  | omp id1 =>
   intro hs r; simp only [Zeb, Bool.and_eq_true] at hs; rw [r.omp_inv] at hy; simp [blkOf] at hy; have hs2 := hs.2
   split at hs2
   ·rename_i o ho; exact own id1 hs.1 ⟨⟨_, ho⟩, (F.obj id1 _ ho).1⟩ hy.symm
   ·cases hs2
  | ref off cells =>
   intro hs r
   cases cells with
   | nil => simp [Zeb] at hs
   | cons c rest =>
    generalize a.eval y = v at r hy
    cases r with
    | pure _ _ hp =>
     cases hp with
     | ref b' base _ _ vs hh hr => simp [blkOf] at hy; subst hy; exact fixd _ _ (hh 0 c rfl)
  | slice sz rows tok =>
   intro hs r; generalize a.eval y = v at r hy
   cases r with
   | pure _ _ hp =>
    cases hp with
    | empty p cap _ _ ht h1 hn => cases p <;> simp [blkOf] at hy
    | slice b' off cap _ _ _ vs hpos hz hh hr ho ht h1 hle =>
     cases rows with
     | nil => simp [blkOf] at hy
     | cons r rs => simp [blkOf] at hy; subst hy; have hl := hz 0 r rfl; have hlt : 0 < r.length := (by omega); exact fixd _ _ (hh 0 r 0 r[0] rfl (List.getElem?_eq_getElem hlt))
  | gd t b s => intro hs r; exact r.not_gd.elim
  | _ => intro hs; simp [Zeb] at hs
 cases y with
 | tmp t =>
  simp only [ev, Zco] at hk
  cases hx : st.tmps[t]? with
  | none => simp [hx, Zeb] at hk
  | some s =>
   simp only [hx, Option.getD_some] at hk; have r := F.tm t s hx; by_cases hs : ∃ t w x, s = .gd t w x
   ·obtain ⟨t', w', x, rfl⟩ := hs
    rcases r with ⟨_, r⟩ | ⟨_, e⟩
    ·exact key x (by simpa [Zeb] using hk) r
    ·simp only [Act.eval] at hy; rw [e] at hy; simp [undef, blkOf] at hy
   ·exact key s hk (r.out fun t w x e => hs ⟨t, w, x, e⟩)
 | const v =>
  have := F.operand [] (by simp) (.const v)
  have hn : ∀ t w x, ev st (.const v) ≠ .gd t w x := by
   intro t w x; unfold ev
   split <;> first | (simp; done) | (simp_all; done)
  rw [Zmm hn] at this; exact key _ hk this
 | global g => exact key _ hk (.pure _ _ (F.global_rep g))
 | func f => simp [ev, Zeb] at hk

theorem Zjc {st : St} {h : Hp} {ρ : Nat → Loc} {a : Act} {w : World} (F : FitsAt X h ρ st a w) : ∀ (n t : Nat) (b : Bool), skipG n st t b = true → a.tmps.getD t undef ≠ .bool b
 | 0, _, _, h => by simp [skipG] at h
 | n + 1, t, b, h => by
  intro e; simp only [skipG, Zco] at h
  cases hx : st.tmps[t]? with
  | none => simp [hx] at h
  | some s =>
   simp only [hx, Option.getD_some] at h; have r := F.tm t s hx
   split at h
   ·rename_i b'; have := (show Rep _ _ _ _ from r).val_inv; rw [this] at e
    cases e
    revert h
    cases b <;> simp
   ·rename_i t2 w2 x
    rcases r with ⟨r1, _⟩ | ⟨_, r2⟩
    ·exact Zjc F n t2 w2 h r1
    ·rw [r2] at e; simp [undef] at e
   ·cases h

theorem Zn5 {st : St} {h : Hp} {ρ : Nat → Loc} {a : Act} {w : World} (F : FitsAt X h ρ st a w) {y : Operand} (hk : skipV st (ev st y) = true) : blkOf (a.eval y) = none := by
 cases y with
 | tmp t =>
  simp only [ev, Zco] at hk
  cases hx : st.tmps[t]? with
  | none => simp [hx, skipV] at hk
  | some s =>
   simp only [hx, Option.getD_some] at hk; have r := F.tm t s hx
   cases s with
   | gd t' w' x =>
    rcases r with ⟨r1, _⟩ | ⟨_, e⟩
    ·exact absurd r1 (Zjc F 5 t' w' hk)
    ·simp only [Act.eval]; rw [e]; simp [undef, blkOf]
   | _ => simp [skipV] at hk
 | const v =>
  exfalso; unfold ev at hk
  split at hk <;> simp_all [skipV]
 | global g =>
  exfalso; simp only [ev] at hk
  rcases Zcl g Zbz with e | ⟨cs, _, e⟩ <;> rw [e] at hk <;> simp [skipV] at hk
 | func f => simp [ev, skipV] at hk

theorem Owed.loud (R : RegOK ops) {a0 : Act} {u u' : Nat → Value} {w w' : World} {k i : Nat} {o p : Oper} (hp : ops[k]? = some p) (ho : ops[i]? = some o) (hki : k ≠ i) {la lc : Array Bool} (cc : Zdz ops lc)
  (hkc : In lc k) (hni : ¬ In lc i) (hka : ¬ In la k) (hri : ∀ j, Zbn j o = true → In la j)
  (hu : ∀ j, j ≠ i → u' j = u j) (g : Owed P ops a0 u w k p)
  (hw : ∀ l, Zdz ops l → (∀ j, Zbn j p = true → In l j) → ¬ In l k → SameB (fblk P (actOf ops a0 u l) p) w w') : Owed P ops a0 u' w' k p := by
 obtain ⟨g1, g2⟩ := g; refine ⟨g1, fun l c hrl hnl => ?_⟩
 have hcongr : ∀ t ∈ p.looksAt ops, (actOf ops a0 u' l).tmps.getD t undef = (actOf ops a0 u l).tmps.getD t undef := by
  intro t ht; rw [Zca, Zca]
  split
  ·unfold slotV
   cases hwr : wr ops l t with
   | none => rfl
   | some j =>
    obtain ⟨hj1, hj2⟩ := Zkz hwr
    have hji : j ≠ i := by
     intro e; have hod : o.dst = some t := by have := hj2; rw [e] at this; simpa [dstOf, ho] using this
     rcases R.sep k i p o hp ho (Ne.symm hki) with h | h | h
     ·exact hni (cc.2 k p hp hkc i h)
     ·exact hka (hri k h)
     ·exact h t hod ht
    exact hu j hji
  ·rfl
 have hev := Ziq hcongr; rw [execOp_congr p (fun cs b => R.sel k p cs b hp) hev, Zl0 hev, Zfy hcongr (by rw [Zcj, Zcj]), hu k hki]; obtain ⟨e1, e2⟩ := g2 l c hrl hnl; refine ⟨fun hwt w'' hs => e1 hwt w'' fun b hb => ?_, e2⟩; rw [hs b hb]; exact hw l c hrl hnl b hb

theorem Zk0 {p q : Nat → Bool} : ∀ (l : List Nat), (∀ k ∈ l, p k = q k) → l.find? p = l.find? q
 | [], _ => rfl
 | x :: xs, h => by rw [List.find?_cons, List.find?_cons, h x (by simp), Zk0 xs (fun k hk => h k (by simp [hk]))]

theorem put_defers' (a : Act) (d : Option Nat) (v : Value) : (a.put d v).defers = a.defers := by cases d <;> rfl

theorem Zub (R : RegOK ops) {a0 : Act} {u : Nat → Value} {l lc : Array Bool} {k : Nat} {p : Oper} (hp : ops[k]? = some p) {y : Operand} (hy : y ∈ p.op.operands) (hnl : Zpe ops k y = true)
  (cc : Zdz ops lc) (hk : In lc k) (hr : ∀ j, Zbn j p = true → In l j) : (actOf ops a0 u lc).eval y = (actOf ops a0 u l).eval y := by
 cases y with
 | tmp t =>
  have ht : t ∈ p.looksAt ops := List.mem_append_left _ (List.mem_filterMap.2 ⟨.tmp t, by simpa using hy, rfl⟩); simp only [Zpe, List.all_eq_true, List.mem_range] at hnl
  have hed : ∀ j, dstOf ops j = some t → Zbn j p = true := by
   intro j hd
   cases hq : ops[j]? with
   | none => simp [dstOf, hq] at hd
   | some q =>
    have hqd : q.dst = some t := (by simpa [dstOf, hq] using hd); have h1 := hnl j (Array.getElem?_eq_some_iff.1 hq).1; simp only [hq, hqd, Bool.or_eq_true, Bool.and_eq_true, Bool.not_eq_true'] at h1
    rcases h1 with h1 | ⟨h1, h2⟩
    ·simp at h1
    ·have hjk : j ≠ k := fun e => by subst e; simp at h2
     rcases R.sep k j p q hp hq hjk with h | h | h
     ·exact h
     ·rw [h1] at h; cases h
     ·exact absurd ht (h t hqd)
  simp only [Act.eval]; rw [Zca, Zca]
  split
  ·unfold slotV
   cases hw : wr ops l t with
   | some j => obtain ⟨_, h2⟩ := Zkz hw; rw [Zgl R (cc.2 k p hp hk j (hed j h2)) h2]
   | none => rw [Zja (fun j hj hd => ?_)]; have := Zgl R (hr j (hed j hd)) hd; rw [hw] at this; cases this
  ·rfl
 | _ => rfl

theorem Zuc {o : Oper} {a a' : Act} {next next' : Act → World → Prop} {Q : Exit → Act → World → Prop} {r : Result Next} (hn : ∀ v w, next (a.put o.dst v) w → next' (a'.put o.dst v) w)
  (hd : ∀ d w, next ({ a with defers := d :: a.defers }.put o.dst undef) w → next' ({ a' with defers := d :: a'.defers }.put o.dst undef) w)
  (hq : ∀ c w, Q (.panic c) a w → Q (.panic c) a' w) (h : o.upon P a next Q r) : o.upon P a' next' Q r := by
 cases r with
 | ok n w =>
  cases n <;> simp only [Oper.upon] at h ⊢
  case value v => exact hn v w h
  case skip => exact hn undef w h
  case defer d => exact hd d w h
  case enter f args =>
   refine Calls.mono h fun e w'' he => ?_
   cases e with
   | returned v => exact hn v w'' he
   | panicked c => exact hq c w'' he
   | outgrown => exact he
  case row row args => exact Rows.mono h fun v w'' he => hn v w'' he
 | halt x w =>
  cases x <;> simp only [Oper.upon] at h ⊢
  case panic v => exact hq _ w h

def Zex (X : Cx) (K : St → Prop) (ops : Array Oper) (a0 : Act) : Exit → Act → World → Prop
 | .normal, a, w => Goes X K a w ∧ Fr (ops.toList.filterMap (·.dst)) a0 a
 | _, _, _ => False

theorem Zud (a0 : Act) (u : Nat → Value) (l : Array Bool) : Fr (ops.toList.filterMap (·.dst)) a0 (actOf ops a0 u l) := by
 intro t ht; rw [Zca]; by_cases hlt : t < a0.tmps.size
 ·rw [if_pos hlt]; unfold slotV; rw [Zja (fun k _ hd => ht ?_)]; unfold dstOf at hd
  cases ho : ops[k]? with
  | none => simp [ho] at hd
  | some o => simp [ho] at hd; exact List.mem_filterMap.2 ⟨o, by rw [Array.mem_toList_iff]; exact Array.mem_of_getElem? ho, hd⟩
 ·rw [if_neg hlt]; simp [hlt]

def left (ops : Array Oper) (l : Array Bool) : Nat := ((List.range ops.size).filter fun k => !(l.getD k false)).length

theorem Zpk {l : Array Bool} {i : Nat} (hs : l.size = ops.size) (hi : i < ops.size) (hn : ¬ In l i) : left ops (l.setIfInBounds i true) + 1 = left ops l := by
 unfold left
 have key : ∀ (m : List Nat), m.Nodup → i ∈ m → (m.filter fun k => !((l.setIfInBounds i true).getD k false)).length + 1 = (m.filter fun k => !(l.getD k false)).length := by
  intro m
  have hset : ∀ k, (l.setIfInBounds i true).getD k false = if k = i then true else l.getD k false := by
   intro k; by_cases h : k = i
   ·subst h; simp [hs, hi]
   ·simp [h, Array.getElem?_setIfInBounds_ne (Ne.symm h)]
  have hni : l.getD i false = false := by simpa [In] using hn
  induction m with
  | nil => intro _ h; cases h
  | cons x xs ih =>
   intro hnd hm; obtain ⟨hx, hnd'⟩ := List.nodup_cons.1 hnd; by_cases hxi : x = i
   ·subst hxi; have hrest : (xs.filter fun k => !((l.setIfInBounds x true).getD k false)) = xs.filter fun k => !(l.getD k false) := (by apply List.filter_congr; intro k hk; have : k ≠ x := fun e => hx (e ▸ hk); rw [hset, if_neg this]); rw [List.filter_cons, List.filter_cons, hrest, hset]; simp [hni]
   ·have hm' : i ∈ xs := by
     rcases List.mem_cons.1 hm with e | e
     ·exact absurd e.symm hxi
     ·exact e
    have := ih hnd' hm'; rw [List.filter_cons, List.filter_cons, hset, if_neg hxi]
    split <;> simp_all <;> omega
 exact key _ List.nodup_range (by simpa using hi)

theorem Zwl (R : RegOK ops) {Sg : FuncId → Sig} {Sv : TypeId → Sig} {a0 : Act} {K : St → Prop} :
  ∀ (m : Nat) (u : Nat → Value) (la lc : Array Bool) (n : Nat) (st : St) (w : World), Sim P Sg Sv ops X a0 K u la lc n st w → left ops la = m →
   wpAny P .any ops (Zex X K ops a0) m la (actOf ops a0 u la) w := by
 intro m
 induction m with
 | zero =>
  intro u la lc n st w S hm
  have hall : ∀ k, k < ops.size → In la k := by
   intro k hk; unfold left at hm; have := List.length_eq_zero_iff.1 hm; rw [List.filter_eq_nil_iff] at this; have := this k (by simpa using hk)
   simpa [In] using this
  have hready : ∀ l : Array Bool, l.size = ops.size → (∀ k, k < ops.size → In l k) → Region.ready .any ops l = [] := (by intro l hs h; rw [List.eq_nil_iff_forall_not_mem]; intro i hi; obtain ⟨h1, o, ho, _⟩ := (Zek hs).1 hi; exact h1 (h i (Array.getElem?_eq_some_iff.1 ho).1)); refine ⟨hready la S.ca.1 hall, ?_⟩; have hc : ∀ k, k < ops.size → In lc k := fun k hk => S.sub k (hall k hk); have e : actOf ops a0 u la = actOf ops a0 u lc := (by unfold actOf; congr 2; apply List.map_congr_left; intro t _; unfold slotV; have : wr ops la t = wr ops lc t := (by unfold wr; refine Zk0 _ fun k hk => ?_; have hk' : k < ops.size := (by simpa using hk); have e1 : la.getD k false = true := hall k hk'; have e2 : lc.getD k false = true := hc k hk'; rw [e1, e2]); rw [this]); have hv := S.vcs
  cases n with
  | zero => exact hv.elim
  | succ n => simp only [vcAny, hready lc S.cc.1 hc] at hv; rw [e]; exact ⟨⟨st, S.fits, hv⟩, Zud a0 u lc⟩
 | succ m ihm =>
  intro u la lc n st w S hm; have hne : Region.ready .any ops la ≠ [] := (by intro h; have hall := Zrz R S.ca.1 h; have : left ops la = 0 := (by unfold left; rw [List.length_eq_zero_iff, List.filter_eq_nil_iff]; intro k hk; have := hall k (by simpa using hk); unfold In at this; simp [this]); omega); refine ⟨fun h => absurd h hne, fun i hi => ?_⟩; obtain ⟨hni, o, ho, hr⟩ := (Zek S.ca.1).1 hi; have hilt : i < ops.size := (Array.getElem?_eq_some_iff.1 ho).1; have hila : i < la.size := (by rw [S.ca.1]; exact hilt); have hleft : left ops (la.setIfInBounds i true) = m := by have := Zpk S.ca.1 hilt hni; omega
  -- the operation is owed, or the condition comes to it
  have owedStep : ∀ (u : Nat → Value) (lc : Array Bool) (n : Nat) (st : St), Sim P Sg Sv ops X a0 K u la lc n st w → In lc i →
    wpOp P ops (Zex X K ops a0) i (wpAny P .any ops (Zex X K ops a0) m (la.setIfInBounds i true)) (actOf ops a0 u la) w := by
   intro u lc n st S hic; obtain ⟨g1, g2⟩ := S.owed i o ho hic hni; obtain ⟨e1, e2⟩ := g2 la S.ca hr hni
   have hgo : wpAny P .any ops (Zex X K ops a0) m (la.setIfInBounds i true) ((actOf ops a0 u la).put o.dst (u i)) w := by
    rw [Zgt R a0 u la i o ho S.ca.1 hni (u i)]
    have : actOf ops a0 (fun k => if k = i then u i else u k) (la.setIfInBounds i true) = actOf ops a0 u (la.setIfInBounds i true) := Zgm (fun k _ => by
     by_cases h : k = i
     ·subst h; simp
     ·simp [h])
    rw [this]; refine ihm u (la.setIfInBounds i true) lc n st w ⟨S.ca.set ho hr, S.cc, fun k hk => ?_, S.fits, fun k p hp hkc hka => S.owed k p hp hkc (fun h => hka ((Zd0 hila).2 (.inr h))), S.vcs⟩ hleft
    rcases (Zd0 hila).1 hk with rfl | hk
    ·exact hic
    ·exact S.sub k hk
   unfold wpOp; simp only [ho]; by_cases hw : Region.wanted o (yielded ops (actOf ops a0 u la).tmps) = true
   ·rw [if_pos hw]; refine .inl ?_; unfold Oper.wp; rw [e1 hw w (SameB.refl _ w)]; exact hgo
   ·rw [if_neg hw]; have hw' : Region.wanted o (yielded ops (actOf ops a0 u la).tmps) = false := (by simpa using hw); rw [← e2 hw']; exact hgo
  -- the condition goes on till it has come to i
  have main : ∀ (d : Nat) (u : Nat → Value) (lc : Array Bool) (n : Nat) (st : St), left ops lc = d → Sim P Sg Sv ops X a0 K u la lc n st w →
    wpOp P ops (Zex X K ops a0) i (wpAny P .any ops (Zex X K ops a0) m (la.setIfInBounds i true)) (actOf ops a0 u la) w := by
   intro d
   induction d using Nat.strongRecOn with
   | _ d ihd =>
    intro u lc n st hd S; by_cases hic : In lc i
    ·exact owedStep u lc n st S hic
    ·have hrc : i ∈ Region.ready .any ops lc := (Zek S.cc.1).2 ⟨hic, o, ho, fun j hj => S.sub j (hr j hj)⟩; have hv := S.vcs
     cases n with
     | zero => exact hv.elim
     | succ n =>
      simp only [vcAny] at hv
      split at hv
      ·rename_i hnil; rw [hnil] at hrc; cases hrc
      ·rename_i i0 r hready; rw [← hready] at hv
       split at hv
       ·rename_i c hfind; have hcm : c ∈ Region.ready .any ops lc := List.mem_of_find?_eq_some hfind; have hcl := List.find?_some hfind
        split at hv
        ·rename_i oc hoc; simp only [hoc, Bool.not_eq_true'] at hcl; obtain ⟨u', st', hu, S'⟩ := S.calm R hoc hcm hcl hv; have hclt : c < ops.size := (Array.getElem?_eq_some_iff.1 hoc).1; have hnc := ((Zek S.cc.1).1 hcm).1; have hd' := Zpk S.cc.1 hclt hnc; have := ihd (left ops (lc.setIfInBounds c true)) (by omega) u' _ n st' rfl S'; rwa [Zgm (fun k hk => hu k (S.sub k hk))] at this
        ·exact hv.elim
       ·have hvi := Zjb hv i hrc; simp only [ho] at hvi
        cases hap : Zt1 P Sg Sv ops lc st i o with
        | false => simp [hap] at hvi
        | true =>
         simp only [hap, cond_true] at hvi; obtain ⟨h, ρ, F⟩ := S.fits; have hsound := Zm6 F Sg Sv ops o _ hvi (Zex X K ops a0); have henv := Zvz R (a0 := a0) (u := u) ho S.cc S.ca (fun j hj => S.sub j (hr j hj)) hr hic hni; have hev := Ziq henv; have hwe := Zfy henv (by rw [Zcj, Zcj])
         have hsamew : ∀ (w' : World), (∀ b, b < w.heap.size → ¬ Zcu Sg Sv ops st ρ o b → w'.heap[b]? = w.heap[b]?) → ∀ k p, ops[k]? = some p → In lc k → ¬ In la k → ∀ l, Zdz ops l → (∀ j, Zbn j p = true → In l j) → ¬ In l k → SameB (fblk P (actOf ops a0 u l) p) w w' := by
          intro w' hbl k p hp hkc hka l _ hrl _ b hb; unfold Zt1 at hap
          split at hap
          ·cases hap
          ·rename_i tids htids; simp only [Bool.and_eq_true] at hap; have hap := (List.all_eq_true.1 hap.2) k (by simpa using (Array.getElem?_eq_some_iff.1 hp).1); simp only [hp, Bool.or_eq_true] at hap; obtain ⟨y, hy1, hy2⟩ := Zr0 hb; simp only [hy1, Bool.and_eq_true, Bool.or_eq_true] at hap
           rcases hap with ((h1 | h1) | h1) | h1
           ·exact absurd (Nat.eq_of_beq_eq_true h1) (fun e => hka (e ▸ absurd hkc (e ▸ hic)))
           ·unfold In at hkc; rw [hkc] at h1; cases h1
           ·exact absurd (hr k h1) hka
           ·have hae := Zub R (a0 := a0) (u := u) hp (Zh7 hy1) h1.2 S.cc hkc hrl; rw [← hae] at hy2; obtain ⟨hlt, hne⟩ := Zm7 F (h1.1.resolve_right fun hs => by rw [Zn5 F hs] at hy2; cases hy2) hy2; refine hbl b hlt fun ht => ?_; obtain ⟨id, hm, hl, e⟩ := ht tids htids; exact hne id hm hl e
         have go : ∀ (v : Value) (w' : World), After X (fun st' => vcAny P Sg Sv ops n (lc.setIfInBounds i true) st' K) o (actOf ops a0 u lc) w (Zcu Sg Sv ops st ρ o) ((actOf ops a0 u lc).put o.dst v) w' →
           wpAny P .any ops (Zex X K ops a0) m (la.setIfInBounds i true) ((actOf ops a0 u la).put o.dst v) w' := by
          rintro v w' ⟨⟨st', hF', hvc⟩, _, hsz, hbl⟩; have hilc : i < lc.size := by rw [S.cc.1]; exact hilt
          rw [Zgt R a0 u lc i o ho S.cc.1 hic v] at hF'; rw [Zgt R a0 u la i o ho S.ca.1 hni v]; refine ihm _ _ (lc.setIfInBounds i true) n st' w' ⟨S.ca.set ho hr, S.cc.set ho (fun j hj => S.sub j (hr j hj)), fun k hk => ?_, hF', fun k p hp hkc hka => ?_, hvc⟩ hleft
          ·rcases (Zd0 hila).1 hk with rfl | hk
           ·exact (Zd0 hilc).2 (.inl rfl)
           ·exact (Zd0 hilc).2 (.inr (S.sub k hk))
          ·have hki : k ≠ i := fun e => hka ((Zd0 hila).2 (.inl e)); have hkl : In lc k := ((Zd0 hilc).1 hkc).resolve_left hki; have hkn : ¬ In la k := fun h => hka ((Zd0 hila).2 (.inr h)); exact Owed.loud R hp ho hki S.cc hkl hic hkn hr (fun j hj => by simp [hj]) (S.owed k p hp hkl hkn) (hsamew w' hbl k p hp hkl hkn)
         unfold wpOp; simp only [ho]; rw [← hwe]; by_cases hw : Region.wanted o (yielded ops (actOf ops a0 u lc).tmps) = true
         ·rw [if_pos hw] at hsound ⊢; refine .inl ?_; unfold Oper.wp at hsound ⊢; rw [← execOp_congr o (fun cs b => R.sel i o cs b ho) hev]; refine Zuc (a := actOf ops a0 u lc) (fun v w' hg => go v w' hg) (fun d w' hg => ?_) (fun c w' hg => False.elim hg) hsound; obtain ⟨_, ⟨u', e⟩, _⟩ := hg; have e1 := congrArg Act.defers e; rw [put_defers', put_defers'] at e1; exact absurd e1 (by simp)
         ·rw [if_neg hw] at hsound ⊢; exact go undef w ⟨hsound, ⟨undef, rfl⟩, Nat.le_refl _, fun _ _ _ => rfl⟩
  exact main _ u lc n st rfl S

theorem Zm8 (Sg : FuncId → Sig) (Sv : TypeId → Sig) (id : Nat) (ops : Array Oper) (hm : P.follows .mixedOrders = true) (hok : Zht ops = true) (st : St) (a : Act) (w : World) (F : Fits X st a w) (K : St → Prop)
  (hv : vcAny P Sg Sv ops (ops.size + 1) (Array.replicate ops.size false) st K) (Q : Exit → Act → World → Prop) (hQ : ∀ st a' w, Fits X st a' w → Fr (ops.toList.filterMap (·.dst)) a a' → K st → Q .normal a' w) : (Code.region id ops true).wp P Q a w := by
 have R := Zlz hok; have hnone : ∀ k, ¬ In (Array.replicate ops.size false) k := fun k h => by unfold In at h; by_cases hk : k < ops.size <;> simp [hk] at h
 have hact : actOf ops a (fun _ => undef) (Array.replicate ops.size false) = a := by
  unfold actOf
  have : ((List.range a.tmps.size).map (slotV ops a (fun _ => undef) (Array.replicate ops.size false))).toArray = a.tmps := by
   apply Array.ext'; apply List.ext_getElem?; intro t; have hw : wr ops (Array.replicate ops.size false) t = none := Zja (fun k hk => absurd hk (hnone k)); by_cases ht : t < a.tmps.size
   ·simp [ht, slotV, hw]
   ·simp [ht]
  rw [this]
 refine wp_mono (wp_region_any (Q := Zex X K ops a) hm ?_) (fun e a' w h => ?_)
 ·have F' : Fits X st a { w with drawn := w.drawn + 1 } := by obtain ⟨h, ρ, F⟩ := F; exact ⟨h, ρ, F.world (fun _ _ => rfl) ⟨F.kp.os, F.kp.tape, F.kp.output, F.kp.size, F.kp.block⟩⟩
  have S : Sim P Sg Sv ops X a K (fun _ => undef) (Array.replicate ops.size false) (Array.replicate ops.size false) (ops.size + 1) st { w with drawn := w.drawn + 1 } :=
   ⟨⟨by simp, fun k _ _ h => absurd h (hnone k)⟩, ⟨by simp, fun k _ _ h => absurd h (hnone k)⟩, fun _ h => h, by rw [hact]; exact F', fun k _ _ h => absurd h (hnone k), hv⟩
  have hl : left ops (Array.replicate ops.size false) = ops.size := (by unfold left; rw [List.filter_eq_self.2 (fun k _ => by simpa [In] using hnone k)]; simp); have := Zwl R ops.size _ _ _ _ _ _ S hl; rwa [hact] at this
 ·cases e with
  | normal => obtain ⟨⟨st, F, hk⟩, hfr⟩ := h; exact hQ st a' w F hfr hk
  | _ => exact False.elim h

end

theorem Zk1 {p : Nat → Prop} : ∀ n, p n → ∃ k, p k ∧ ∀ j, j < k → ¬ p j := by
 intro n
 induction n using Nat.strongRecOn with
 | _ n ih =>
  intro hn; by_cases h : ∃ j, j < n ∧ p j
  ·obtain ⟨j, hj, pj⟩ := h; exact ih j hj pj
  ·exact ⟨n, hn, fun j hj pj => h ⟨j, hj, pj⟩⟩

theorem Zn6 {P : Program} {c : Code} {Q : Exit → Act → World → Prop} {a : Act} {w : World} (J : Nat → Act → World → Prop) (k₀ : Nat) (h₀ : J k₀ a w)
  (round : ∀ k a w, J k a w → c.wp P (Exit.then (fun a' w' => ∃ k', k' < k ∧ J k' a' w') Q) a w) : (Code.loop c).wp P Q a w := by
 classical
 let μ : Act → World → Nat := fun a w => if h : ∃ k, J k a w then Classical.choose (Zk1 (p := fun k => J k a w) _ h.choose_spec) else 0
 have hμ : ∀ a w, (∃ k, J k a w) → J (μ a w) a w ∧ ∀ j, j < μ a w → ¬ J j a w := (by intro a w h; simp only [μ, dif_pos h]; exact Classical.choose_spec (Zk1 (p := fun k => J k a w) _ h.choose_spec)); refine wp_loop (fun a w => ∃ k, J k a w) μ ⟨k₀, h₀⟩ fun a w h => ?_; obtain ⟨h1, _⟩ := hμ a w h; refine wp_mono (round _ a w h1) fun e a' w' hq => ?_
 cases e with
 | normal =>
  obtain ⟨k', hk, hJ⟩ := hq; refine ⟨⟨k', hJ⟩, ?_⟩; obtain ⟨_, h3⟩ := hμ a' w' ⟨k', hJ⟩
  rcases Nat.lt_or_ge k' (μ a' w') with h4 | h4
  ·exact absurd hJ (h3 k' h4)
  ·omega
 | _ => exact hq

theorem Zgu {l : List Nat} {n : Nat} : hasN l n = true ↔ n ∈ l := by
 unfold hasN; rw [List.any_eq_true]; constructor
 ·rintro ⟨x, hx, e⟩; rw [Nat.eq_of_beq_eq_true e]; exact hx
 ·intro h; exact ⟨n, h, Nat.beq_refl n⟩

def Nrm (d d' : SV) : Prop := d' = d ∨ ∃ sz rows tok sz', d = .slice sz rows tok ∧ d' = .slice sz' rows 0 ∧ (sz = sz' ∨ sz = 0)

def Nrms (vs vs' : List SV) : Prop := vs'.length = vs.length ∧ ∀ (i : Nat) v v', vs[i]? = some v → vs'[i]? = some v' → Nrm v v'

theorem Nrms.split {a1 a2 vs' : List SV} (n : Nrms (a1 ++ a2) vs') : Nrms a1 (vs'.take a1.length) ∧ Nrms a2 (vs'.drop a1.length) := by
 obtain ⟨hl, hn⟩ := n; simp at hl; refine ⟨⟨by simp; omega, fun i v v' h1 h2 => ?_⟩, ⟨by simp; omega, fun i v v' h1 h2 => ?_⟩⟩
 ·have hi := (List.getElem?_eq_some_iff.1 h1).1; refine hn i v v' (by rw [List.getElem?_append, if_pos hi]; exact h1) ?_; rw [List.getElem?_take, if_pos hi] at h2; exact h2
 ·refine hn (a1.length + i) v v' (by rw [List.getElem?_append_right (by omega)]; simpa using h1) ?_; rw [List.getElem?_drop] at h2; exact h2

theorem Sh.get_nrm {s : Sh} {v : SV} {x : s.ty} (hg : s.get v = some x) : Nrm v (s.sv x) := by
 cases s with
 | int k =>
  cases v with
  | val v => cases v with
   | int k' n =>
    simp only [Sh.get] at hg; by_cases hk : k = k'
    ·subst hk; simp at hg; subst hg; exact .inl rfl
    ·simp [hk] at hg
   | _ => simp [Sh.get] at hg
  | _ => simp [Sh.get] at hg
 | bool =>
  cases v with
  | val v => cases v with
   | bool b => simp [Sh.get] at hg; subst hg; exact .inl rfl
   | _ => simp [Sh.get] at hg
  | _ => simp [Sh.get] at hg
 | str =>
  cases v with
  | val v => cases v with
   | string b => simp [Sh.get] at hg; subst hg; exact .inl rfl
   | _ => simp [Sh.get] at hg
  | _ => simp [Sh.get] at hg
 | sl sz =>
  cases v with
  | slice sz' rows tok =>
   simp only [Sh.get] at hg
   cases hb : (Nat.beq sz' sz || Nat.beq sz' 0) with
   | false => simp [hb] at hg
   | true => simp [hb] at hg; subst hg; simp only [Bool.or_eq_true] at hb; exact .inr ⟨sz', rows, tok, sz, rfl, rfl, hb.elim (fun e => .inl (Nat.eq_of_beq_eq_true e)) (fun e => .inr (Nat.eq_of_beq_eq_true e))⟩
  | _ => simp [Sh.get] at hg
 | own sz =>
  cases v with
  | slice sz' rows tok =>
   simp only [Sh.get] at hg
   cases hb : (Nat.beq sz' sz || Nat.beq sz' 0) with
   | false => simp [hb] at hg
   | true => simp [hb] at hg; subst hg; simp only [Bool.or_eq_true] at hb; exact .inr ⟨sz', rows, tok, sz, rfl, rfl, hb.elim (fun e => .inl (Nat.eq_of_beq_eq_true e)) (fun e => .inr (Nat.eq_of_beq_eq_true e))⟩
  | _ => simp [Sh.get] at hg
 | mp =>
  cases v with
  | mapv es => simp [Sh.get] at hg; subst hg; exact .inl rfl
  | _ => simp [Sh.get] at hg
 | cpx k =>
  cases v with
  | val v => cases v with
   | complex k' a b =>
    simp only [Sh.get] at hg; by_cases hk : k = k'
    ·subst hk; simp at hg; subst hg; exact .inl rfl
    ·simp [hk] at hg
   | _ => simp [Sh.get] at hg
  | _ => simp [Sh.get] at hg
 | arr kd m =>
  cases v with
  | arr kd' m' ns =>
   simp only [Sh.get] at hg
   cases hb : (decide (kd = kd') && Nat.beq m m') with
   | false => simp [hb] at hg
   | true => simp [hb] at hg; subst hg; simp only [Bool.and_eq_true, decide_eq_true_eq] at hb; obtain ⟨rfl, h2⟩ := hb; have := Nat.eq_of_beq_eq_true h2; subst this; exact .inl rfl
  | _ => simp [Sh.get] at hg

theorem Zue {id : Nat} {v : SV} {p : SV × Ob} (h : ownH id v = some p) : ownHA id v = some p := by
 cases v <;> first | exact h | (simp [ownH] at h)

theorem Zjd {R : Type} : ∀ (ss : List Sh) (f : ITy ss R) (vs : List SV) (K K' : R → Prop), Zb1 ss f vs K → Zb1 ss f vs K' → ∃ x, K x ∧ K' x
 | [], f, [], K, K', h, h' => ⟨f, h, h'⟩
 | s :: ss, f, v :: vs, K, K', h, h' => by
  simp only [Zb1] at h h'
  split at h
  ·rename_i x hx; simp only [hx] at h'; exact Zjd ss _ vs K K' h h'
  ·exact h.elim
 | [], _, _ :: _, _, _, h, _ => h.elim
 | _ :: _, _, [], _, _, h, _ => h.elim

theorem Zl1 : ∀ (ss : List Sh) (I : ITy ss Prop) (m : ITy ss Nat) (K : List SV → Nat → Prop) (vals : List SV), allI ss I m K → Zb1 ss I vals (fun p => p) →
  ∃ vs' k, Nrms vals vs' ∧ K vs' k ∧ Zb1 ss m vals (fun k' => k' = k)
 | [], I, m, K, [], ha, hi => ⟨[], m, ⟨rfl, by simp⟩, ha hi, rfl⟩
 | [], I, m, K, _ :: _, ha, hi => hi.elim
 | s :: ss, I, m, K, [], ha, hi => hi.elim
 | s :: ss, I, m, K, v :: vals, ha, hi => by
  simp only [Zb1] at hi
  split at hi
  ·rename_i x hx; obtain ⟨vs', k, ⟨hl, hn⟩, hk, hm⟩ := Zl1 ss (I x) (m x) _ vals (ha x) hi; refine ⟨s.sv x :: vs', k, ⟨by simp [hl], fun i v1 v2 h1 h2 => ?_⟩, hk, ?_⟩
   ·cases i with
    | zero => simp at h1 h2; subst h1; subst h2; exact Sh.get_nrm hx
    | succ i => exact hn i v1 v2 (by simpa using h1) (by simpa using h2)
   ·simp only [Zb1, hx]; exact hm
  ·exact hi.elim

section
variable {X : Cx} {h : Hp} {ρ ρ' : Nat → Loc} {st : St} {a : Act} {w : World} {objs : List (Nat × Ob)}

theorem Nrm.rep {d d' : SV} (n : Nrm d d') {v : Value} (r : Rep h ρ v d) : Rep h ρ v d' := by
 rcases n with rfl | ⟨sz, rows, tok, sz', rfl, rfl, hz⟩
 ·exact r
 ·cases r with
  | pure _ _ hp =>
   refine .pure _ _ (hp.tok0.fix ?_)
   rcases hz with e | e
   ·exact .inl e
   ·exact .inr e

theorem Nrm.own {d d' : SV} (n : Nrm d d') {id : Nat} {hd : SV} {o : Ob} (e : ownH id d = some (hd, o)) : ∃ o', ownH id d' = some (hd, o') ∧ (∀ x, o' ≠ .box x) ∧ ∀ (h : Hp) (ρ : Nat → Loc) (w : World), ObOK h ρ w id o → ObOK h ρ w id o' := by
 rcases n with rfl | ⟨sz, rows, tok, sz', rfl, rfl, hz⟩
 ·refine ⟨o, e, ?_, fun _ _ _ r => r⟩; unfold ownH at e
  split at e
  ·cases e; simp
  ·cases e; simp
  ·cases e
 ·simp only [ownH] at e
  cases e
  refine ⟨.own sz' rows, rfl, by simp, fun h ρ w r => ?_⟩
  rcases r with ⟨hn, hr⟩ | ⟨hn, o⟩
  ·exact .inl ⟨hn, hr⟩
  ·have : sz = sz' := hz.resolve_right (by have := o.pos; omega); subst this; exact .inr ⟨hn, o⟩

theorem Zm9 (id : Nat) : ∀ (ds ds' : List SV) (j : Nat) (ms : List Bool) (cs : List SV) (os : List (Nat × Ob)), Nrms ds ds' → Za6 id j ms ds = some (cs, os) →
  ∃ cs2 os2, Za6 id j ms ds' = some (cs2, os2) ∧ cs2.length = cs.length ∧ (∀ (h : Hp) (ρ : Nat → Loc) (i : Nat) v c c', cs[i]? = some c → cs2[i]? = some c' → Rep h ρ v c → Rep h ρ v c') ∧
   (∀ c o2, (c, o2) ∈ os2 → (∀ x, o2 ≠ .box x) ∧ ∃ o, (c, o) ∈ os ∧ ∀ (h : Hp) (ρ : Nat → Loc) (w : World), ObOK h ρ w c o → ObOK h ρ w c o2)
 | [], [], j, ms, cs, os, _, e => by simp [Za6] at e; obtain ⟨rfl, rfl⟩ := e; exact ⟨[], [], rfl, rfl, by simp, by simp⟩
 | [], _ :: _, j, ms, cs, os, n, e => by have := n.1; simp at this
 | _ :: _, [], j, ms, cs, os, n, e => by have := n.1; simp at this
 | d :: ds, d' :: ds', j, ms, cs, os, n, e => by
  have n0 : Nrm d d' := n.2 0 d d' rfl rfl
  have nr : Nrms ds ds' := ⟨by have := n.1; simpa using this, fun i v v' h1 h2 => n.2 (i + 1) v v' (by simpa using h1) (by simpa using h2)⟩
  simp only [Za6] at e
  split at e
  ·cases e
  ·rename_i cs1 os1 h1; obtain ⟨cs2, os2, e1, e2, e3, e4⟩ := Zm9 id ds ds' (j + 1) ms.tail cs1 os1 nr h1
   cases hm : ms.headD false with
   | true =>
    simp only [hm, cond_true] at e
    split at e
    ·rename_i hd o ho
     cases e
     obtain ⟨o', g1, g2, g3⟩ := n0.own ho; refine ⟨hd :: cs2, (Zhr id ms j, o') :: os2, by simp only [Za6, e1, hm, cond_true, g1], by simp [e2], fun h ρ i v c c' hc hc' r => ?_, fun c o2 hm' => ?_⟩
     ·cases i with
      | zero => simp at hc hc'; subst hc; subst hc'; exact r
      | succ i => exact e3 h ρ i v c c' (by simpa using hc) (by simpa using hc') r
     ·rcases List.mem_cons.1 hm' with e' | hm'
      ·cases e'; exact ⟨g2, o, by simp, g3⟩
      ·obtain ⟨q1, o0, q2, q3⟩ := e4 c o2 hm'; exact ⟨q1, o0, by simp [q2], q3⟩
    ·cases e
   | false =>
    simp only [hm, cond_false] at e
    cases e
    refine ⟨d' :: cs2, os2, by simp only [Za6, e1, hm, cond_false], by simp [e2], fun h ρ i v c c' hc hc' r => ?_, e4⟩
    cases i with
    | zero => simp at hc hc'; subst hc; subst hc'; exact n0.rep r
    | succ i => exact e3 h ρ i v c c' (by simpa using hc) (by simpa using hc') r

theorem fixL'_nil (P : Program) (ds : List SV) : fixL' P [] ds = ds := by cases ds <;> rfl

theorem Zda : ∀ (cid j : Nat) (ms : List Bool) (cs ds : List SV) (ids : List (Option Nat × Nat)), Zba objs cid j ms cs = some (ds, ids) → ds.length = cs.length
 | cid, j, ms, [], ds, ids, e => by simp [Zba] at e; simp [e.1]
 | cid, j, ms, c :: cs, ds, ids, e => by
  simp only [Zba] at e
  split at e
  ·rename_i d l ds' ls h1 h2
   cases e
   simp [Zda cid (j + 1) ms.tail cs ds' ls h2]
  ·cases e

theorem Zfd (hob : ∀ id o, oget objs id = some o → ObOK h ρ w id o) (cid : Nat) {cs ds ds' : List SV} {ms : List Bool} {ids : List (Option Nat × Nat)} (e : Zba objs cid 0 ms cs = some (ds, ids)) (hp : Pulls ids ρ ρ') (n : Nrms ds ds') :
  ∃ cs' os, Za6 cid 0 ms ds' = some (cs', os) ∧ cs'.length = cs.length ∧ (∀ (i : Nat) v c c', cs[i]? = some c → cs'[i]? = some c' → Rep h ρ v c → Rep h ρ' v c') ∧ PassOK objs h ρ' w ids os := by
 obtain ⟨cs1, os1, e1, e2, e3, e4, e5, _⟩ := Zdo (P := (default : Program)) hob cid cs 0 ms [] ds ids e hp; rw [fixL'_nil] at e1; obtain ⟨cs2, os2, g1, g2, g3, g4⟩ := Zm9 cid ds ds' 0 ms cs1 os1 n e1; refine ⟨cs2, os2, g1, by omega, fun i v c c' hc hc' r => ?_, ⟨fun c o hm => ?_, fun c o hm => ?_, e4.here⟩⟩
 ·have hi : i < cs1.length := (by have := (List.getElem?_eq_some_iff.1 hc').1; omega); exact g3 h ρ' i v _ c' (List.getElem?_eq_getElem hi) hc' (e3 i v c _ hc (List.getElem?_eq_getElem hi) r)
 ·obtain ⟨_, o0, q1, q2⟩ := g4 c o hm; exact q2 h ρ' w (e4.ob c o0 q1)
 ·obtain ⟨_, o0, q1, _⟩ := g4 c o hm; exact e4.at_ c o0 q1

theorem Zpl (F : FitsAt X h ρ st a w) : ∀ (l : List (Nat × Bool × List Sh)) (ds vs tm tm' rest : List SV) (ids : List (Option Nat × Nat)) (os : List (Nat × Ob)), Zfx st l = some (ds, ids) → Pulls ids ρ ρ' → Nrms ds (vs.take ds.length) →
  Zko l vs tm = some (tm', os, rest) → rest = vs.drop ds.length ∧ PassOK st.objs h ρ' w ids os ∧ tm'.length = tm.length ∧ ∀ (t : Nat) s, tm'[t]? = some s → tm[t]? = some s ∨ Rep h ρ' (a.tmps.getD t undef) s
 | [], ds, vs, tm, tm', rest, ids, os, e, hp, n, hm => by simp [Zfx] at e; obtain ⟨rfl, rfl⟩ := e; simp [Zko] at hm; obtain ⟨rfl, rfl, rfl⟩ := hm; exact ⟨by simp, PassOK.nil, rfl, fun t s hs => .inl hs⟩
 | (t, ag, ss) :: r, ds, vs, tm, tm', rest, ids, os, e, hp, n, hm => by
  simp only [Zfx] at e
  split at e
  ·rename_i d l ds2 ls h1 h2
   cases e
   have hsplit := Nrms.split (a1 := d) (a2 := ds2) n; obtain ⟨n1, n2⟩ := hsplit; have hlen := n.1; simp at hlen; rw [List.take_take] at n1; rw [show min d.length (d ++ ds2).length = d.length by simp] at n1
   have n2' : Nrms ds2 ((vs.drop d.length).take ds2.length) := by
    rw [List.drop_take] at n2
    simpa using n2
   have key : ∃ cs, Zba st.objs (128 * t + 95) 0 (ownMs ss) cs = some (d, l) ∧ d.length = ss.length ∧ ((ag = true ∧ lget st.tmps t = .agg cs) ∨ (ag = false ∧ cs = [lget st.tmps t])) := by
    split at h1
    ·rename_i cs heq
     cases hb : Nat.beq (lenN cs) ss.length with
     | false => simp [hb] at h1
     | true => simp only [hb, cond_true] at h1; have := Zda _ _ _ _ _ _ h1; have hb := Nat.eq_of_beq_eq_true hb; rw [Zbi] at hb; exact ⟨cs, h1, by omega, .inl ⟨rfl, heq⟩⟩
    ·cases hb : Nat.beq ss.length 1 with
     | false => simp [hb] at h1
     | true => simp only [hb, cond_true] at h1; have := Zda _ _ _ _ _ _ h1; have hb := Nat.eq_of_beq_eq_true hb; simp at this; exact ⟨_, h1, by omega, .inr ⟨rfl, rfl⟩⟩
    ·cases h1
   obtain ⟨cs, hpc, hdl, hcase⟩ := key; simp only [Zko, Ze2, Ze3] at hm; rw [← hdl] at hm; obtain ⟨cs', os1, g1, g2, g3, g4⟩ := Zfd F.obj (128 * t + 95) hpc hp.left n1; simp only [g1] at hm
   split at hm
   ·rename_i tm1 os2 vs2 hm2
    cases hm
    obtain ⟨q1, q2, q3, q4⟩ := Zpl F r ds2 _ _ tm' rest ls os2 h2 hp.right n2' hm2; refine ⟨by rw [q1, List.drop_drop]; simp, g4.append q2, by rw [q3]; simp [Zfl], fun k s hs => ?_⟩
    rcases q4 k s hs with hs | hs
    ·rw [Zfl, List.getElem?_set] at hs; by_cases hk : t = k
     ·subst hk; simp only [if_true] at hs
      split at hs
      ·cases hs
       right
       have hsl := F.slot [] (by simp) t
       rcases hcase with ⟨rfl, heq⟩ | ⟨rfl, rfl⟩
       ·rw [heq] at hsl; simp only [ungd] at hsl; obtain ⟨va, hv, hvl, hvr⟩ := hsl.agg_inv'; rw [hv]; refine .agg va cs' (by omega) fun i v c hv hc => ?_; have hi : i < cs.length := by have := (List.getElem?_eq_some_iff.1 hc).1; omega
        exact g3 i v _ c (List.getElem?_eq_getElem hi) hc (hvr i v _ hv (List.getElem?_eq_getElem hi))
       ·match cs', g2 with
        | [c], _ =>
         simp only
         have hng : ∀ t' b x, lget st.tmps t ≠ .gd t' b x := by
          intro t' b x e; rw [e] at hpc; simp only [Zba] at hpc
          cases hmm : (ownMs ss).headD false <;> simp [Zft, Zau] at hpc
         rw [Zmm hng] at hsl; exact g3 0 _ _ c rfl rfl hsl
      ·cases hs
     ·simp only [hk, if_false] at hs; exact .inl hs
    ·exact .inr hs
   ·cases hm
  ·cases e

theorem Zpm (hob : ∀ id o, oget objs id = some o → ObOK h ρ w id o) : ∀ (l : List (Nat × List Sh)) (ds vs rest : List SV) (ids : List (Option Nat × Nat)) (os : List (Nat × Ob)), Zdx objs l = some (ds, ids) → Pulls ids ρ ρ' → Nrms ds (vs.take ds.length) →
  Zkp l vs = some (os, rest) → rest = vs.drop ds.length ∧ PassOK objs h ρ' w ids os
 | [], ds, vs, rest, ids, os, e, hp, n, hm => by simp [Zdx] at e; obtain ⟨rfl, rfl⟩ := e; simp [Zkp] at hm; obtain ⟨rfl, rfl⟩ := hm; exact ⟨by simp, PassOK.nil⟩
 | (id, ss) :: r, ds, vs, rest, ids, os, e, hp, n, hm => by
  simp only [Zdx] at e
  split at e
  ·rename_i d l ds2 ls h1 h2
   cases e
   obtain ⟨n1, n2⟩ := Nrms.split (a1 := d) (a2 := ds2) n; rw [List.take_take] at n1; rw [show min d.length (d ++ ds2).length = d.length by simp] at n1
   have n2' : Nrms ds2 ((vs.drop d.length).take ds2.length) := by
    rw [List.drop_take] at n2
    simpa using n2
   split at h1
   ·rename_i cs ho
    cases hb : Nat.beq (lenN cs) ss.length with
    | false => simp [hb] at h1
    | true =>
     simp only [hb, cond_true] at h1; have hb := Nat.eq_of_beq_eq_true hb; rw [Zbi] at hb; have hdl : d.length = ss.length := by have := Zda _ _ _ _ _ _ h1; omega
     have hloc : ρ' id = ρ id := hp (some id, id) (by simp); have hp1 : Pulls l ρ ρ' := fun p hm' => hp p (by simp [hm']); have hp2 : Pulls ls ρ ρ' := fun p hm' => hp p (by simp [hm']); obtain ⟨cs', os1, g1, g2, g3, g4⟩ := Zfd hob id h1 hp1 n1; simp only [Zkp, Ze2, Ze3] at hm; rw [← hdl, g1] at hm
     split at hm
     ·rename_i cs1 os1' os2 vs2 hc1 hm2
      cases hc1
      cases hm
      obtain ⟨q1, q2⟩ := Zpm hob r ds2 _ rest ls os2 h2 hp2 n2' hm2; obtain ⟨hn0, ⟨cv, t, hcv, hsz, hcell⟩, hno⟩ := hob id _ ho; refine ⟨by rw [q1, List.drop_drop]; simp, ?_⟩
      have hbox : PassOK objs h ρ' w [(some id, id)] [(id, .box cs')] := by
       refine ⟨fun c o hm' => ?_, fun c o hm' => ?_, fun i c hm' => ?_⟩
       ·simp at hm'; obtain ⟨rfl, rfl⟩ := hm'; refine ⟨by rw [hloc]; exact hn0, ⟨cv, t, by rw [hloc]; exact hcv, by omega, fun i v c hv hc => ?_⟩, by rw [hloc]; exact hno⟩; have hi : i < cs.length := by have := (List.getElem?_eq_some_iff.1 hc).1; omega
        obtain ⟨r1, r2⟩ := hcell i v _ hv (List.getElem?_eq_getElem hi); exact ⟨g3 i v _ c (List.getElem?_eq_getElem hi) hc r1, r2⟩
       ·simp at hm'; exact ⟨(some id, id), by simp, hm'.1.symm⟩
       ·simp at hm'; rw [hm'.1]; exact ⟨_, ho⟩
      have := (hbox.append g4).append q2
      simpa using this
     ·cases hm
   ·cases h1
  ·cases e

theorem Zr1 (hob : ∀ id o, oget objs id = some o → ObOK h ρ w id o) : ∀ (l : List (Nat × Sh)) (ds vs : List SV) (ids : List (Option Nat × Nat)) (os : List (Nat × Ob)), Zfc objs l = some (ds, ids) → Pulls ids ρ ρ' → Nrms ds vs →
  Zlv l vs = some os → PassOK objs h ρ' w ids os
 | [], ds, vs, ids, os, e, hp, n, hm => by simp [Zfc] at e; obtain ⟨rfl, rfl⟩ := e; simp [Zlv] at hm; subst hm; exact PassOK.nil
 | (id, s) :: r, ds, vs, ids, os, e, hp, n, hm => by
  simp only [Zfc] at e
  split at e
  ·rename_i d ds2 ls h1 h2
   cases e
   cases vs with
   | nil => simp [Zlv] at hm
   | cons v vs =>
    simp only [Zlv] at hm
    split at hm
    ·rename_i hd o os2 ho hm2
     cases hm
     have n0 : Nrm d v := n.2 0 d v rfl rfl
     have nr : Nrms ds2 vs := ⟨by have := n.1; simpa using this, fun i x x' h1 h2 => n.2 (i + 1) x x' (by simpa using h1) (by simpa using h2)⟩
     have hloc : ρ' id = ρ id := hp (some id, id) (by simp); have hp2 : Pulls ls ρ ρ' := fun p hm' => hp p (by simp [hm']); have q := Zr1 hob r ds2 vs ls os2 h2 hp2 nr hm2
     have pure : ∀ (o0 : Ob), oget objs id = some o0 → (∃ hd0, ownH id d = some (hd0, o0)) → (∀ x, o0 ≠ .box x) → PassOK objs h ρ' w [(some id, id)] [(id, o)] := by
      rintro o0 ho0 ⟨hd0, hown⟩ hnb; obtain ⟨o', g1, g2, g3⟩ := n0.own hown; rw [Zue g1] at ho
      cases ho
      refine ⟨fun c o' hm' => ?_, fun c o' hm' => ?_, fun i c hm' => ?_⟩
      ·simp at hm'; obtain ⟨rfl, rfl⟩ := hm'; exact g3 h ρ' w ((hob c o0 ho0).move hnb hloc)
      ·simp at hm'; exact ⟨(some id, id), by simp, hm'.1.symm⟩
      ·simp at hm'; rw [hm'.1]; exact ⟨_, ho0⟩
     have hone : PassOK objs h ρ' w [(some id, id)] [(id, o)] := by
      split at h1
      ·rename_i sz rows ho0; cases h1; exact pure _ ho0 ⟨_, rfl⟩ (by simp)
      ·rename_i es ho0; cases h1; exact pure _ ho0 ⟨_, rfl⟩ (by simp)
      ·rename_i kd m ns ho0
       cases h1
       have hv : v = .arr kd m ns := by
        rcases n0 with e | ⟨_, _, _, _, e, _⟩
        ·exact e
        ·cases e
       subst hv; simp [ownHA] at ho; obtain ⟨rfl, rfl⟩ := ho; refine ⟨fun c o' hm' => ?_, fun c o' hm' => ?_, fun i c hm' => ?_⟩
       ·simp at hm'; obtain ⟨rfl, rfl⟩ := hm'; exact (hob c _ ho0).move (by simp) hloc
       ·simp at hm'; exact ⟨(some id, id), by simp, hm'.1.symm⟩
       ·simp at hm'; rw [hm'.1]; exact ⟨_, ho0⟩
      ·cases h1
     exact hone.append q
    ·cases hm
  ·cases e

theorem Zcr (ids : List Nat) (s : SV) : keepV ids s = .unk ∨ (keepV ids s = s ∧ (Za1 s = true ∨ (∃ id off, s = .ptr id off ∧ id ∈ ids) ∨ (∃ id, s = .osl id ∧ id ∈ ids) ∨ (∃ id, s = .omp id ∧ id ∈ ids))) := by
 unfold keepV
 cases hp : Za1 s with
 | true => exact .inr ⟨rfl, .inl rfl⟩
 | false =>
  simp only [cond_false]
  split
  ·rename_i id off
   cases hh : hasN ids id with
   | true => exact .inr ⟨rfl, .inr (.inl ⟨id, off, rfl, Zgu.1 hh⟩)⟩
   | false => exact .inl rfl
  ·rename_i id
   cases hh : hasN ids id with
   | true => exact .inr ⟨rfl, .inr (.inr (.inl ⟨id, rfl, Zgu.1 hh⟩))⟩
   | false => exact .inl rfl
  ·rename_i id
   cases hh : hasN ids id with
   | true => exact .inr ⟨rfl, .inr (.inr (.inr ⟨id, rfl, Zgu.1 hh⟩))⟩
   | false => exact .inl rfl
  ·exact .inl rfl

theorem Zr2 {ids : List Nat} {v : Value} {s : SV} (r : Rep h ρ v s) : Rep h ρ v (keepV ids s) := by
 rcases Zcr ids s with e | ⟨e, _⟩
 ·rw [e]; exact .pure _ _ (.unk _)
 ·rw [e]; exact r

theorem Zk2 {ids : List Nat} (hρ : ∀ id ∈ ids, ρ' id = ρ id) {v : Value} {s : SV} (r : Rep h ρ v (keepV ids s)) : Rep h ρ' v (keepV ids s) := by
 rcases Zcr ids s with e | ⟨e, hc⟩
 ·rw [e]; exact .pure _ _ (.unk _)
 ·rw [e] at r ⊢
  rcases hc with hp | ⟨id, off, rfl, hm⟩ | ⟨id, rfl, hm⟩ | ⟨id, rfl, hm⟩
  ·exact .pure _ _ (r.toPure hp)
  ·rw [r.ptr_inv, ← hρ id hm]; exact .ptr id off
  ·rcases r.osl_inv with ⟨hn, p, rfl⟩ | ⟨hn, rfl⟩
   ·exact .osl0 id p (by rw [hρ id hm]; exact hn)
   ·rw [← hρ id hm] at hn ⊢; exact .osl id hn
  ·rw [r.omp_inv, ← hρ id hm]; exact .omp id

theorem Zgv (ids : List Nat) : ∀ (cs : List SV), (keepL ids cs).length = cs.length ∧ ∀ i : Nat, (keepL ids cs)[i]? = (cs[i]?).map (keepV ids)
 | [] => by simp [keepL]
 | c :: cs => by
  obtain ⟨h1, h2⟩ := Zgv ids cs; refine ⟨by simp [keepL, h1], fun i => ?_⟩
  cases i with
  | zero => simp [keepL]
  | succ i => simpa [keepL] using h2 i

theorem Zcz (wr ids : List Nat) : ∀ (cs : List SV) (t0 : Nat), (Zay wr ids t0 cs).length = cs.length ∧ ∀ (i : Nat) s, (Zay wr ids t0 cs)[i]? = some s → ∃ c, cs[i]? = some c ∧ ((s = .unk) ∨ (t0 + i ∉ wr ∧ s = keepV ids c))
 | [], t0 => by simp [Zay]
 | c :: cs, t0 => by
  obtain ⟨h1, h2⟩ := Zcz wr ids cs (t0 + 1); refine ⟨by simp [Zay, h1], fun i s hs => ?_⟩
  cases i with
  | zero =>
   simp [Zay] at hs; refine ⟨c, by simp, ?_⟩
   cases hh : hasN wr t0 with
   | true => simp [hh] at hs; exact .inl hs.symm
   | false => simp [hh] at hs; refine .inr ⟨fun hm => ?_, hs.symm⟩; have := Zgu.2 hm; simp at this; rw [hh] at this; cases this
  | succ i => obtain ⟨c', hc', h3⟩ := h2 i s (by simpa [Zay] using hs); refine ⟨c', by simpa using hc', ?_⟩; rw [show t0 + (i + 1) = t0 + 1 + i by omega]; exact h3

theorem Zfe : ∀ (l l' : List SV), Za2 l l' = true → l'.length = l.length ∧ ∀ (i : Nat) s s', l[i]? = some s → l'[i]? = some s' → keptV s s' = true
 | [], [], _ => by simp
 | [], _ :: _, h => by simp [Za2] at h
 | _ :: _, [], h => by simp [Za2] at h
 | s :: ss, s' :: ss', h => by
  simp only [Za2, Bool.and_eq_true] at h; obtain ⟨h1, h2⟩ := Zfe ss ss' h.2; refine ⟨by simp [h1], fun i x x' hx hx' => ?_⟩
  cases i with
  | zero => simp at hx hx'; subst hx; subst hx'; exact h.1
  | succ i => exact h2 i x x' (by simpa using hx) (by simpa using hx')

theorem Zpn {s s' : SV} (h : keptV s s' = true) (hs : (∃ id off, s = .ptr id off) ∨ (∃ id, s = .osl id) ∨ (∃ id, s = .omp id)) : s' = s := by
 rcases hs with ⟨id, off, rfl⟩ | ⟨id, rfl⟩ | ⟨id, rfl⟩
 ·cases s' <;> simp [keptV] at h
  rw [h.1, h.2]
 ·cases s' <;> simp [keptV] at h
  rw [h]
 ·cases s' <;> simp [keptV] at h
  rw [h]

theorem Zpo {objs0 : List (Nat × Ob)} (kid : List Nat) (hob : ∀ id o, oget objs id = some o → ObOK h ρ w id o) (hρ : ∀ id ∈ kid, ρ' id = ρ id) : ∀ (l : List Nat), (∀ id ∈ l, id ∈ kid) → (Zat kid objs0 l).isSome = true → Zat kid objs l = Zat kid objs0 l →
  PassOK objs h ρ' w (l.map fun id => (some id, id)) (Zkq kid objs0 l)
 | [], _, _, _ => PassOK.nil
 | id :: r, hk, hs, he => by
  simp only [Zat] at hs he; have hloc : ρ' id = ρ id := hρ id (hk id (by simp))
  cases ho0 : oget objs0 id with
  | none => simp [ho0] at hs
  | some o0 =>
   cases hr0 : Zat kid objs0 r with
   | none => cases o0 <;> simp [ho0, hr0] at hs
   | some rest0 =>
    cases hr : Zat kid objs r with
    | none =>
     exfalso; rw [hr, hr0, ho0] at he
     cases ho : oget objs id with
     | none => rw [ho] at he; cases o0 <;> simp at he
     | some o => rw [ho] at he; cases o <;> cases o0 <;> simp at he
    | some rest =>
     cases ho : oget objs id with
     | none => exfalso; rw [hr, hr0, ho0, ho] at he; cases o0 <;> simp at he
     | some o =>
      rw [hr, hr0, ho0, ho] at he; have hrest : rest = rest0 := by cases o <;> cases o0 <;> simp at he <;> exact he.2
      have q := Zpo kid hob hρ r (fun i hi => hk i (by simp [hi])) (by rw [hr0]; rfl) (by rw [hr, hr0, hrest]); have hobk := hob id o ho
      have hone : ObOK h ρ' w id (Zlw kid o0) := by
       have notgd : ∀ cs x, keepL kid cs = [.gd 0 true x] → False := by
        intro cs x e2; have := (Zgv kid cs).2 0; rw [e2] at this
        cases hc : cs[0]? with
        | none => simp [hc] at this
        | some c =>
         simp [hc] at this
         rcases Zcr kid c with e | ⟨e, hp⟩
         ·rw [e] at this; cases this
         ·rw [e] at this; subst this
          rcases hp with hp | ⟨_, _, hp, _⟩ | ⟨_, hp, _⟩ | ⟨_, hp, _⟩
          ·simp [Za1] at hp
          all_goals cases hp
       cases o0 with
       | box cs0 =>
        cases o with
        | box cs =>
         simp at he; obtain ⟨hn0, ⟨cv, t, hcv, hsz, hcell⟩, hno⟩ := hobk; have hl := (Zgv kid cs).1; rw [he.1] at hl; refine ⟨by rw [hloc]; exact hn0, ⟨cv, t, by rw [hloc]; exact hcv, by omega, fun i v c hv hc => ?_⟩, by rw [hloc]; exact hno⟩; have hcc := (Zgv kid cs).2 i; rw [he.1, hc] at hcc
         cases hci : cs[i]? with
         | none => simp [hci] at hcc
         | some c1 => simp [hci] at hcc; obtain ⟨r1, r2⟩ := hcell i v c1 hv hci; rw [hcc]; exact ⟨Zk2 hρ (Zr2 r1), r2⟩
        | own sz rows => simp at he; exact (notgd cs0 _ he.1.symm).elim
        | mp es => simp at he; exact (notgd cs0 _ he.1.symm).elim
        | arr kd m ns => simp at he; exact (notgd cs0 _ he.1.symm).elim
       | own sz0 rows0 =>
        cases o with
        | box cs => simp at he; exact (notgd cs _ he.1).elim
        | own sz rows => simp at he; obtain ⟨⟨rfl, rfl⟩, _⟩ := he; exact hobk.move (by simp [Zlw]) hloc
        | mp es => simp at he
        | arr kd m ns => simp at he
       | mp es0 =>
        cases o with
        | box cs => simp at he; exact (notgd cs _ he.1).elim
        | own sz rows => simp at he
        | arr kd m ns => simp at he
        | mp es => simp at he; obtain ⟨rfl, _⟩ := he; exact hobk.move (by simp [Zlw]) hloc
       | arr kd0 m0 ns0 =>
        cases o with
        | box cs => simp at he; exact (notgd cs _ he.1).elim
        | own sz rows => simp at he
        | mp es => simp at he
        | arr kd m ns => simp at he; obtain ⟨⟨rfl, rfl, rfl⟩, _⟩ := he; exact hobk.move (by simp [Zlw]) hloc
      have hp : PassOK objs h ρ' w [(some id, id)] [(id, Zlw kid o0)] := by
       refine ⟨fun c o' hm' => ?_, fun c o' hm' => ?_, fun i c hm' => ?_⟩
       ·simp at hm'; obtain ⟨rfl, rfl⟩ := hm'; exact hone
       ·simp at hm'; exact ⟨(some id, id), by simp, hm'.1.symm⟩
       ·simp at hm'; rw [hm'.1]; exact ⟨_, ho⟩
      simp only [Zkq, ho0]; exact hp.append q

theorem Zna (F : FitsAt X h ρ st a w) {sp : LoopSpec} {wr : List Nat} {st0 hd : St} {vals vs' : List SV} {ids : List (Option Nat × Nat)} (hh : Zdy sp st = some (vals, ids)) (hok : Zci sp wr ids = true) (hn : Nrms vals vs')
  (hk : ∀ (t : Nat) s, (Zay wr (Zah sp) 0 st0.tmps)[t]? = some s → Rep h ρ (a.tmps.getD t undef) s) (hlen : st0.tmps.length = st.tmps.length) (hs0 : (Zat (Zah sp) st0.objs sp.fixed).isSome = true)
  (hfx : Zat (Zah sp) st.objs sp.fixed = Zat (Zah sp) st0.objs sp.fixed) (hm : Zgi sp wr st0 vs' = some hd) : ∃ ρ', FitsAt X h ρ' hd a w := by
 unfold Zdy at hh
 split at hh
 ·rename_i d1 l1 d2 l2 d3 l3 h1 h2 h3
  cases hh
  simp only [Zci, Bool.and_eq_true, List.all_eq_true] at hok; obtain ⟨⟨⟨⟨⟨⟨_, _⟩, hn1⟩, hn2⟩, hid⟩, _⟩, _⟩ := hok; have hn1 := Zbm hn1; have hn2 := Zbm hn2
  let ids := l1 ++ l2 ++ l3 ++ sp.fixed.map fun id => ((some id, id) : Option Nat × Nat)
  have e1 : ids.filterMap (·.1) = (l1 ++ l2 ++ l3).filterMap (·.1) ++ sp.fixed := by
   have : ∀ l : List Nat, (l.map fun id => ((some id, id) : Option Nat × Nat)).filterMap (·.1) = l := by
    intro l; induction l with
    | nil => rfl
    | cons x xs ih => simp only [List.map_cons, List.filterMap_cons, ih]
   simp only [ids, List.filterMap_append, this]
  have e2 : ids.map (·.2) = (l1 ++ l2 ++ l3).map (·.2) ++ sp.fixed := by
   have : ∀ l : List Nat, (l.map fun id => ((some id, id) : Option Nat × Nat)).map (·.2) = l := by
    intro l; induction l with
    | nil => rfl
    | cons x xs ih => simp only [List.map_cons, ih]
   simp only [ids, List.map_append, this]
  let ρ' := pull ids ρ ρ
  have hp : Pulls ids ρ ρ' := Zf4 ρ ρ (by rw [e2]; exact hn2)
  have hmemB : ∀ (l : List (Nat × List Sh)) ds ls, Zdx st.objs l = some (ds, ls) → ∀ p ∈ l, (some p.1, p.1) ∈ ls := by
   intro l
   induction l with
   | nil => intro ds ls _ p hp; simp at hp
   | cons x xs ih =>
    obtain ⟨i, ss⟩ := x; intro ds ls e p hp; simp only [Zdx] at e
    split at e
    ·rename_i d l ds2 ls2 g1 g2
     cases e
     rcases List.mem_cons.1 hp with rfl | hp
     ·simp
     ·simp [ih _ _ g2 p hp]
    ·cases e
  have hmemO : ∀ (l : List (Nat × Sh)) ds ls, Zfc st.objs l = some (ds, ls) → ∀ p ∈ l, (some p.1, p.1) ∈ ls := by
   intro l
   induction l with
   | nil => intro ds ls _ p hp; simp at hp
   | cons x xs ih =>
    obtain ⟨i, ss⟩ := x; intro ds ls e p hp; simp only [Zfc] at e
    split at e
    ·rename_i d ds2 ls2 g1 g2
     cases e
     rcases List.mem_cons.1 hp with rfl | hp
     ·simp
     ·simp [ih _ _ g2 p hp]
    ·cases e
  have hkeep : ∀ id ∈ Zah sp, ρ' id = ρ id := by
   intro id hm; simp only [Zah, List.mem_append, List.mem_map] at hm
   rcases hm with (⟨p, hpm, rfl⟩ | ⟨p, hpm, rfl⟩) | hm
   ·exact hp (some p.1, p.1) (by simp [ids, hmemB _ _ _ h2 p hpm])
   ·exact hp (some p.1, p.1) (by simp [ids, hmemO _ _ _ h3 p hpm])
   ·exact hp (some id, id) (by simp [ids, hm])
  -- the parts
  unfold Zgi at hm
  split at hm
  ·rename_i tm os1 vs1 hm1
   split at hm
   ·rename_i os2 vs2 hm2
    split at hm
    ·rename_i os3 hm3
     cases hm
     have n0 : Nrms (d1 ++ (d2 ++ d3)) vs' := (by rw [← List.append_assoc]; exact hn); obtain ⟨n1, n23⟩ := n0.split; obtain ⟨n2, n3⟩ := n23.split; obtain ⟨q1, P1, q3, q4⟩ := Zpl (ρ' := ρ') F sp.slots d1 vs' _ tm vs1 l1 os1 h1 (fun p hm => hp p (by simp [ids, hm])) n1 hm1; rw [← q1] at n2 n3; obtain ⟨q5, P2⟩ := Zpm (ρ' := ρ') F.obj sp.boxes d2 vs1 vs2 l2 os2 h2 (fun p hm => hp p (by simp [ids, hm])) n2 hm2; rw [← q5] at n3; have P3 := Zr1 (ρ' := ρ') F.obj sp.owns d3 vs2 l3 os3 h3 (fun p hm => hp p (by simp [ids, hm])) n3 hm3; have P4 := Zpo (ρ' := ρ') (objs0 := st0.objs) (Zah sp) F.obj hkeep sp.fixed (fun id hm => by simp [Zah, hm]) hs0 hfx; have PA := ((P1.append P2).append P3).append P4; refine ⟨ρ', { F with size := ?_, tm := fun t s hs => ?_, obj := fun id o e => PA.ob id o (Zd4 e), inj := ?_, own := ?_, pin := ?_ }⟩
     ·rw [F.size, ← hlen, ← (Zcz wr (Zah sp) st0.tmps 0).1]; exact q3.symm
     ·rcases q4 t s hs with hs' | hr
      ·have hr := hk t s hs'; obtain ⟨c, _, hc | ⟨_, hc⟩⟩ := (Zcz wr (Zah sp) st0.tmps 0).2 t s hs'
       ·rw [hc]; exact TRep.rep_unk _ _
       ·rw [hc] at hr ⊢; exact TRep.of_rep' (Zk2 hkeep hr)
      ·exact TRep.of_rep' hr
     ·exact Zqf PA hp (by rw [e1]; exact hn1) F.inj
     ·rintro i ⟨⟨o, e⟩, hni⟩; obtain ⟨id, c, hm, hlv, eb⟩ := Zo2 PA hp ⟨i, ⟨⟨o, e⟩, hni⟩, rfl⟩; rw [← eb]; exact F.own id hlv
     ·intro id l hpin; obtain ⟨g1, g2⟩ := F.pin id l hpin; refine ⟨?_, g2⟩; by_cases hx : ∃ p ∈ ids, p.2 = id
      ·obtain ⟨p, hpm, rfl⟩ := hx; have hpp := hp p hpm; simp only [ids] at hpm
       rcases List.mem_append.1 hpm with hpm' | hpm'
       ·have := hid p hpm'; simp only [g2, Bool.false_or] at this; obtain ⟨p1, p2⟩ := p
        cases p1 with
        | none => simp at this
        | some id => simp at this; subst this; simp only at hpp; rw [hpp]; exact g1
       ·obtain ⟨x, _, rfl⟩ := List.mem_map.1 hpm'; simp only at hpp g1 ⊢; rw [hpp]; exact g1
      ·have : ρ' id = ρ id := Zll ρ ρ (fun p hpm e => hx ⟨p, hpm, e⟩); rw [this]; exact g1
    ·cases hm
   ·cases hm
  ·cases hm
 ·cases hh

end

def Ex.to : Ex → Exit
 | .normal => .normal
 | .exit id => .exit id
 | .ret => .ret

theorem FitsAt.rebase {X : Cx} {h : Hp} {ρ : Nat → Loc} {st : St} {a : Act} {w : World} (F : FitsAt X h ρ st a w) : FitsAt { X with h := h } h ρ st a w :=
 { F with mono := HLe.refl h, ext := fun _ _ _ _ e => e, gl := ⟨F.gl.1.le F.mono, F.gl.2⟩ }

theorem FitsAt.unbase {X : Cx} {h0 h : Hp} {ρ0 ρ : Nat → Loc} {st0 st : St} {a0 a : Act} {w0 w : World} (F0 : FitsAt X h0 ρ0 st0 a0 w0) (F : FitsAt { X with h := h0 } h ρ st a w) : FitsAt X h ρ st a w :=
 { F with mono := F0.mono.trans F.mono, ext := fun b hb hg o e => F.ext b hb hg o (F0.ext b hb hg o e), gl := F0.gl }

theorem Zr3 : ∀ (ps : List (Nat × Nat)) (wr : List Nat) (tm : List SV) {t : Nat} {c : SV}, t ∉ unP ps wr → (setP ps tm)[t]? = some c → Za1 c = true → t ∉ wr ∧ tm[t]? = some c := by
 intro ps wr tm t c h1 h2 hp
 have key : ∀ (ps : List (Nat × Nat)) (tm : List SV), (setP ps tm)[t]? = some c → t ∉ ps.map (·.1) ∧ tm[t]? = some c := by
  intro ps
  induction ps with
  | nil => intro tm h; exact ⟨by simp, h⟩
  | cons p ps ih =>
   intro tm h; obtain ⟨g1, g2⟩ := ih (lset tm p.1 (.ptr p.2 0)) h
   have hl : ∀ (l : List SV) (n i : Nat) (v : SV), (lset l n v)[i]? = some c → (i = n ∧ c = v) ∨ (i ≠ n ∧ l[i]? = some c) := by
    intro l
    induction l with
    | nil => intro n i v h; simp [lset] at h
    | cons x xs ihx =>
     intro n i v h
     cases n with
     | zero =>
      cases i with
      | zero => simp [lset] at h; exact .inl ⟨rfl, h.symm⟩
      | succ i => simp [lset] at h; exact .inr ⟨by omega, by simpa using h⟩
     | succ n =>
      cases i with
      | zero => simp [lset] at h; exact .inr ⟨by omega, by simpa using h⟩
      | succ i =>
       simp [lset] at h
       rcases ihx n i v h with ⟨e, e2⟩ | ⟨e, e2⟩
       ·exact .inl ⟨by omega, e2⟩
       ·exact .inr ⟨by omega, by simpa using e2⟩
   rcases hl tm p.1 t _ g2 with ⟨_, e⟩ | ⟨e1, e2⟩
   ·rw [e] at hp; simp [Za1] at hp
   ·exact ⟨by simp only [List.map_cons, List.mem_cons]; rintro (e | e); exact e1 e; exact g1 e, e2⟩
 obtain ⟨g1, g2⟩ := key ps tm h2; refine ⟨fun hm => h1 ?_, g2⟩; unfold unP; rw [List.mem_filter]; refine ⟨hm, ?_⟩
 cases hh : hasN (ps.map (·.1)) t with
 | false => rfl
 | true => exact absurd (Zgu.1 hh) g1

theorem Zfz {X : Cx} {h0 h : Hp} {ρ00 ρ : Nat → Loc} {st st1 : St} {a0 a : Act} {w0 w : World} (F0 : FitsAt X h0 ρ00 st a0 w0) {sp : LoopSpec} {wr : List Nat} (hs0 : (Zat (Zah sp) st.objs sp.fixed).isSome = true)
  {vals : List SV} {ids : List (Option Nat × Nat)} (F1 : FitsAt { X with h := h0 } h ρ st1 a w) (hfr : Fr wr a0 a) (hh : Zdy sp st1 = some (vals, ids)) (hok1 : Zci sp (unP sp.ptrs wr) ids = true)
  (hkept : Za2 (Zay (unP sp.ptrs wr) (Zah sp) 0 (setP sp.ptrs st.tmps)) st1.tmps = true) (hfx : Zat (Zah sp) st1.objs sp.fixed = Zat (Zah sp) st.objs sp.fixed) {I : ITy (Za3 sp) Prop} {m : ITy (Za3 sp) Nat} {K : St → Prop}
  (h2 : allI (Za3 sp) I m fun vs _ => match Zgi sp (unP sp.ptrs wr) { st with tmps := setP sp.ptrs st.tmps } vs with | none => False | some hd => K hd) (hi : Zb1 (Za3 sp) I vals (fun p => p)) :
  ∃ hd, Fits { X with h := h0 } hd a w ∧ K hd := by
 obtain ⟨vs', k, hn, hk, hm⟩ := Zl1 _ I m _ _ h2 hi
 split at hk
 ·exact hk.elim
 ·rename_i hd hmk; obtain ⟨g1, g2⟩ := Zfe _ _ hkept; obtain ⟨k1, k2⟩ := Zcz (unP sp.ptrs wr) (Zah sp) (setP sp.ptrs st.tmps) 0
  obtain ⟨ρ', F'⟩ := Zna (st0 := { st with tmps := setP sp.ptrs st.tmps }) F1 hh hok1 hn (fun t s hs => by
   obtain ⟨c, hc, hcase⟩ := k2 t s hs
   rcases hcase with rfl | ⟨hnw, rfl⟩
   ·exact .pure _ _ (.unk _)
   ·rw [Nat.zero_add] at hnw
    rcases Zcr (Zah sp) c with e | ⟨e, hcs⟩
    ·rw [e]; exact .pure _ _ (.unk _)
    ·have hlt : t < st1.tmps.length := (by rw [g1]; exact (List.getElem?_eq_some_iff.1 hs).1); have hkv := g2 t _ _ hs (List.getElem?_eq_getElem hlt); rw [e] at hkv ⊢
     rcases hcs with hp | hcs
     ·obtain ⟨hnw, hc⟩ := Zr3 sp.ptrs wr st.tmps hnw hc hp; rw [hfr t hnw]; have ht := F0.tm t c hc; have hr : Rep h0 ρ00 (a0.tmps.getD t undef) c := ht.out (fun t' b x e' => by subst e'; simp [Za1] at hp); exact .pure _ _ ((hr.toPure hp).mono F1.mono)
     ·have he := Zpn hkv (by
       rcases hcs with ⟨id, off, e, _⟩ | ⟨id, e, _⟩ | ⟨id, e, _⟩
       ·exact .inl ⟨id, off, e⟩
       ·exact .inr (.inl ⟨id, e⟩)
       ·exact .inr (.inr ⟨id, e⟩))
      have ht := F1.tm t _ (List.getElem?_eq_getElem hlt); rw [he] at ht
      exact ht.out (fun t' b x e' => by rcases hcs with ⟨id, off, e, _⟩ | ⟨id, e, _⟩ | ⟨id, e, _⟩ <;> rw [e] at e' <;> cases e')) (by rw [g1, k1]) hs0 hfx hmk
  exact ⟨hd, ⟨h, ρ', F'⟩, hk⟩

theorem Zuf {P : Program} (Sg : FuncId → Sig) (Sv : TypeId → Sig) (L : Nat → Option LoopSpec) : ∀ (c : Code) (X : Cx) (st : St) (a : Act) (w : World) (QA : Ex → St → Prop) (Q : Exit → Act → World → Prop),
  (∀ e st a' w, Fits X st a' w → Fr (Zap c) a a' → QA e st → Q e.to a' w) → Fits X st a w → vc P Sg Sv L c st QA → c.wp P Q a w := by
 intro c
 induction c with
 | skip => intro X st a w QA Q hQ F hv; exact wp_skip (hQ .normal st a w F (Fr.refl _ _) hv)
 | region id ops draw =>
  intro X st a w QA Q hQ F hv
  cases draw with
  | true =>
   simp only [vc] at hv
   cases hok : (P.follows .mixedOrders && Zht ops) with
   | false => simp [hok] at hv
   | true =>
    simp only [hok, cond_true] at hv; simp only [Bool.and_eq_true] at hok
    split at hv
    ·exact Zm8 Sg Sv id ops hok.1 hok.2 st a w F _ hv Q (fun st a w F hf hk => hQ .normal st a w F hf hk)
    ·rename_i sp _; obtain ⟨h0, ρ0, F0⟩ := F; have Fb := F0.rebase; unfold cutC at hv
     cases hs0 : (Zat (Zah sp) st.objs sp.fixed).isSome with
     | false => simp only [hs0, cond_false] at hv
     | true =>
      simp only [hs0, cond_true] at hv; obtain ⟨I, m, h1, h2⟩ := hv; refine Zm8 Sg Sv id ops hok.1 hok.2 st a w ⟨_, _, Fb⟩ _ h1 Q (fun st1 a1 w1 F1 hf hk => ?_)
      split at hk
      ·exact hk.elim
      ·rename_i vals' ids' hhx
       cases hb : (Zci sp (unP sp.ptrs (ops.toList.filterMap (·.dst))) ids' && Za2 (Zay (unP sp.ptrs (ops.toList.filterMap (·.dst))) (Zah sp) 0 (setP sp.ptrs st.tmps)) (St.frzAll (Zaw st1 sp) st1).tmps) with
       | false => simp only [hb, cond_false] at hk
       | true => simp only [hb, cond_true] at hk; simp only [Bool.and_eq_true] at hb; obtain ⟨hx, ρx, Fx⟩ := F1; obtain ⟨hy, _, Fy⟩ := Fx.frzAll (Zaw st1 sp); obtain ⟨hd, ⟨hz, ρz, Fz⟩, hk2⟩ := Zfz F0 hs0 Fy hf hhx hb.1 hb.2 hk.1 h2 hk.2; exact hQ .normal hd a1 w1 ⟨hz, ρz, F0.unbase Fz⟩ hf hk2
  | false =>
   simp only [vc] at hv
   split at hv
   ·exact wp_region_list (Zew Sg Sv ops Q _ (Zap (.region id ops false)) a (fun st a w F hf hk => hQ .normal st a w F hf hk) ops.toList st a w (fun o ho t ht => List.mem_filterMap.2 ⟨o, ho, ht⟩) (Fr.refl _ _) F hv)
   ·rename_i sp _; obtain ⟨h0, ρ0, F0⟩ := F; have Fb := F0.rebase; unfold cutC at hv
    cases hs0 : (Zat (Zah sp) st.objs sp.fixed).isSome with
    | false => simp only [hs0, cond_false] at hv
    | true =>
     simp only [hs0, cond_true] at hv; obtain ⟨I, m, h1, h2⟩ := hv; refine wp_region_list (Zew Sg Sv ops Q _ (Zap (.region id ops false)) a (fun st1 a1 w1 F1 hf hk => ?_) ops.toList st a w (fun o ho t ht => List.mem_filterMap.2 ⟨o, ho, ht⟩) (Fr.refl _ _) ⟨_, _, Fb⟩ h1)
     split at hk
     ·exact hk.elim
     ·rename_i vals' ids' hhx
      cases hb : (Zci sp (unP sp.ptrs (ops.toList.filterMap (·.dst))) ids' && Za2 (Zay (unP sp.ptrs (ops.toList.filterMap (·.dst))) (Zah sp) 0 (setP sp.ptrs st.tmps)) (St.frzAll (Zaw st1 sp) st1).tmps) with
      | false => simp only [hb, cond_false] at hk
      | true => simp only [hb, cond_true] at hk; simp only [Bool.and_eq_true] at hb; obtain ⟨hx, ρx, Fx⟩ := F1; obtain ⟨hy, _, Fy⟩ := Fx.frzAll (Zaw st1 sp); obtain ⟨hd, ⟨hz, ρz, Fz⟩, hk2⟩ := Zfz F0 hs0 Fy hf hhx hb.1 hb.2 hk.1 h2 hk.2; exact hQ .normal hd a1 w1 ⟨hz, ρz, F0.unbase Fz⟩ hf hk2
 | seq x y ihx ihy =>
  intro X st a w QA Q hQ F hv; refine wp_seq (ihx X st a w _ _ ?_ F hv); intro e st' a' w' F' hf he; have hf1 : Fr (Zap (.seq x y)) a a' := hf.mono (fun t ht => by simp [Zap, ht])
  cases e with
  | normal => exact ihy X st' a' w' QA Q (fun e st2 a2 w2 F2 hf2 h2 => hQ e st2 a2 w2 F2 (hf1.trans (hf2.mono (fun t ht => by simp [Zap, ht]))) h2) F' he
  | exit id => exact hQ (.exit id) st' a' w' F' hf1 he
  | ret => exact hQ .ret st' a' w' F' hf1 he
 | cond c x y ihx ihy =>
  intro X st a w QA Q hQ F hv; simp only [vc] at hv
  split at hv
  ·rename_i b hb; obtain ⟨h, ρ, F'⟩ := F; have r := F'.operand [] (by simp) c; rw [hb] at r
   split at hv
   ·refine wp_cond_split r.val_inv (fun e => ihx X st a w QA Q (fun e st a' w F hf => hQ e st a' w F (hf.mono (fun t ht => by simp [Zap, ht]))) ⟨h, ρ, F'⟩ (by subst e; exact hv)) (fun e => ihy X st a w QA Q (fun e st a' w F hf => hQ e st a' w F (hf.mono (fun t ht => by simp [Zap, ht]))) ⟨h, ρ, F'⟩ (by subst e; exact hv))
   ·rename_i sp _; have Fb := F'.rebase; unfold cutC at hv
    cases hs0 : (Zat (Zah sp) st.objs sp.fixed).isSome with
    | false => simp only [hs0, cond_false] at hv
    | true =>
     simp only [hs0, cond_true] at hv; obtain ⟨I, m, h1, h2⟩ := hv
     have go : ∀ (e : Ex) (st1 : St) (a1 : Act) (w1 : World), Fits { X with h := h } st1 a1 w1 → Fr (Zap x ++ Zap y) a a1 →
       (match e with
       | .normal => (match Zdy sp (St.frzAll (Zaw st1 sp) st1) with
        | none => False
        | some (vals', ids') => bif Zci sp (unP sp.ptrs (Zap x ++ Zap y)) ids' && Za2 (Zay (unP sp.ptrs (Zap x ++ Zap y)) (Zah sp) 0 (setP sp.ptrs st.tmps)) (St.frzAll (Zaw st1 sp) st1).tmps then
          Zat (Zah sp) (St.frzAll (Zaw st1 sp) st1).objs sp.fixed = Zat (Zah sp) st.objs sp.fixed ∧ Zb1 (Za3 sp) I vals' (fun p => p) else False)
       | .exit i => QA (.exit i) st1
       | .ret => QA .ret st1) → Q e.to a1 w1 := by
      intro e st1 a1 w1 F1 hf he; have hf' : Fr (Zap (.cond c x y)) a a1 := hf.mono (fun t ht => by simpa [Zap] using ht); have back : Fits X st1 a1 w1 := by obtain ⟨hx, ρx, Fx⟩ := F1; exact ⟨hx, ρx, F'.unbase Fx⟩
      cases e with
      | normal =>
       simp only [] at he
       split at he
       ·exact he.elim
       ·rename_i vals' ids' hhx
        cases hb : (Zci sp (unP sp.ptrs (Zap x ++ Zap y)) ids' && Za2 (Zay (unP sp.ptrs (Zap x ++ Zap y)) (Zah sp) 0 (setP sp.ptrs st.tmps)) (St.frzAll (Zaw st1 sp) st1).tmps) with
        | false => simp only [hb, cond_false] at he
        | true => simp only [hb, cond_true] at he; simp only [Bool.and_eq_true] at hb; obtain ⟨hx, ρx, Fx⟩ := F1; obtain ⟨hy, _, Fy⟩ := Fx.frzAll (Zaw st1 sp); obtain ⟨hd, ⟨hz, ρz, Fz⟩, hk2⟩ := Zfz F' hs0 Fy hf hhx hb.1 hb.2 he.1 h2 he.2; exact hQ .normal hd a1 w1 ⟨hz, ρz, F'.unbase Fz⟩ hf' hk2
      | exit i => exact hQ (.exit i) st1 a1 w1 back hf' he
      | ret => exact hQ .ret st1 a1 w1 back hf' he
     refine wp_cond_split r.val_inv (fun e => ihx { X with h := h } st a w _ Q (fun e st1 a1 w1 F1 hf he => go e st1 a1 w1 F1 (hf.mono (fun t ht => by simp [ht])) he) ⟨_, _, Fb⟩ (by subst e; exact h1))
      (fun e => ihy { X with h := h } st a w _ Q (fun e st1 a1 w1 F1 hf he => go e st1 a1 w1 F1 (hf.mono (fun t ht => by simp [ht])) he) ⟨_, _, Fb⟩ (by subst e; exact h1))
  ·exact hv.elim
 | block id body ih =>
  intro X st a w QA Q hQ F hv; simp only [vc] at hv
  split at hv
  ·refine wp_block (ih X st a w _ _ ?_ F hv); intro e st' a' w' F' hf he
   cases e with
   | normal => exact hQ .normal st' a' w' F' hf he
   | exit i =>
    simp only [Ex.to, Exit.inBlock]; by_cases hi : i = id
    ·subst hi; simp only [Nat.beq_refl, cond_true] at he; rw [if_pos rfl]; exact hQ .normal st' a' w' F' hf he
    ·simp only [Zaq hi, cond_false] at he; rw [if_neg hi]; exact hQ (.exit i) st' a' w' F' hf he
   | ret => exact hQ .ret st' a' w' F' hf he
  ·rename_i sp _; obtain ⟨h0, ρ0, F0⟩ := F; have Fb := F0.rebase; unfold cutC at hv
   cases hs0 : (Zat (Zah sp) st.objs sp.fixed).isSome with
   | false => simp only [hs0, cond_false] at hv
   | true =>
    simp only [hs0, cond_true] at hv; obtain ⟨I, m, h1, h2⟩ := hv; refine wp_block (ih { X with h := h0 } st a w _ _ ?_ ⟨_, _, Fb⟩ h1); intro e st1 a1 w1 F1 hf he; have back : Fits X st1 a1 w1 := by obtain ⟨hx, ρx, Fx⟩ := F1; exact ⟨hx, ρx, F0.unbase Fx⟩
    have out : (match Zdy sp (St.frzAll (Zaw st1 sp) st1) with
      | none => False
      | some (vals', ids') => bif Zci sp (unP sp.ptrs (Zap body)) ids' && Za2 (Zay (unP sp.ptrs (Zap body)) (Zah sp) 0 (setP sp.ptrs st.tmps)) (St.frzAll (Zaw st1 sp) st1).tmps then
        Zat (Zah sp) (St.frzAll (Zaw st1 sp) st1).objs sp.fixed = Zat (Zah sp) st.objs sp.fixed ∧ Zb1 (Za3 sp) I vals' (fun p => p) else False) → Q .normal a1 w1 := by
     intro hk
     split at hk
     ·exact hk.elim
     ·rename_i vals' ids' hhx
      cases hb : (Zci sp (unP sp.ptrs (Zap body)) ids' && Za2 (Zay (unP sp.ptrs (Zap body)) (Zah sp) 0 (setP sp.ptrs st.tmps)) (St.frzAll (Zaw st1 sp) st1).tmps) with
      | false => simp only [hb, cond_false] at hk
      | true => simp only [hb, cond_true] at hk; simp only [Bool.and_eq_true] at hb; obtain ⟨hx, ρx, Fx⟩ := F1; obtain ⟨hy, _, Fy⟩ := Fx.frzAll (Zaw st1 sp); obtain ⟨hd, ⟨hz, ρz, Fz⟩, hk2⟩ := Zfz F0 hs0 Fy hf hhx hb.1 hb.2 hk.1 h2 hk.2; exact hQ .normal hd a1 w1 ⟨hz, ρz, F0.unbase Fz⟩ hf hk2
    cases e with
    | normal => exact out he
    | exit i =>
     simp only [Ex.to, Exit.inBlock]; by_cases hi : i = id
     ·subst hi; simp only [Nat.beq_refl, cond_true] at he; rw [if_pos rfl]; exact out he
     ·simp only [Zaq hi, cond_false] at he; rw [if_neg hi]; exact hQ (.exit i) st1 a1 w1 back hf he
    | ret => exact hQ .ret st1 a1 w1 back hf he
 | exit id => intro X st a w QA Q hQ F hv; exact wp_exit (hQ (.exit id) st a w F (Fr.refl _ _) hv)
 | ret => intro X st a w QA Q hQ F hv; exact wp_ret (hQ .ret st a w F (Fr.refl _ _) hv)
 | loop body ih =>
  intro X st00 a0 w0 QA Q hQ F00 hv; simp only [vc] at hv; generalize (L (Zt2 body)).getD (Zq1 Sg Sv body st00) = sp at hv; obtain ⟨h00, ρ00, F00⟩ := F00; obtain ⟨h0, _, F0⟩ := F00.frzAll (Zaw st00 sp); generalize St.frzAll (Zaw st00 sp) st00 = st at hv F0; have Fb := F0.rebase
  split at hv
  ·exact hv.elim
  ·rename_i vals ids hhd
   cases hok : (Zci sp (Zap body) ids && (Zat (Zah sp) st.objs sp.fixed).isSome) with
   | false => simp only [hok, cond_false] at hv
   | true =>
    simp only [hok, cond_true] at hv; simp only [Bool.and_eq_true] at hok; obtain ⟨I, m, h1, h2⟩ := hv
    have enter : ∀ (st1 : St) (a : Act) (w : World) (h : Hp) (ρ : Nat → Loc) (vals : List SV) (ids : List (Option Nat × Nat)), FitsAt { X with h := h0 } h ρ st1 a w → Fr (Zap body) a0 a → Zdy sp st1 = some (vals, ids) → Zci sp (Zap body) ids = true →
      Za2 (Zay (Zap body) (Zah sp) 0 st.tmps) st1.tmps = true → Zat (Zah sp) st1.objs sp.fixed = Zat (Zah sp) st.objs sp.fixed → Zb1 (Za3 sp) I vals (fun p => p) →
      ∃ k hd, Zb1 (Za3 sp) m vals (fun k' => k' = k) ∧ Fits { X with h := h0 } hd a w ∧ vc P Sg Sv L body hd fun e st1 => match e with
       | .normal => match Zdy sp (St.frzAll (Zaw st1 sp) st1) with
        | none => False
        | some (vals', ids') => bif Zci sp (Zap body) ids' && Za2 (Zay (Zap body) (Zah sp) 0 st.tmps) (St.frzAll (Zaw st1 sp) st1).tmps then
          Zat (Zah sp) (St.frzAll (Zaw st1 sp) st1).objs sp.fixed = Zat (Zah sp) st.objs sp.fixed ∧ Zb1 (Za3 sp) I vals' (fun p => p) ∧ Zb1 (Za3 sp) m vals' (fun k' => k' < k) else False
       | e => QA e st1 := by
     intro st1 a w h ρ vals ids F1 hfr hh hok1 hkept hfx hi; obtain ⟨vs', k, hn, hk, hm⟩ := Zl1 _ I m _ _ h2 hi
     split at hk
     ·exact hk.elim
     ·rename_i hd hmk; obtain ⟨g1, g2⟩ := Zfe _ _ hkept; obtain ⟨k1, k2⟩ := Zcz (Zap body) (Zah sp) st.tmps 0
      obtain ⟨ρ', F'⟩ := Zna F1 hh hok1 hn (fun t s hs => by
       obtain ⟨c, hc, hcase⟩ := k2 t s hs
       rcases hcase with rfl | ⟨hnw, rfl⟩
       ·exact .pure _ _ (.unk _)
       ·rw [Nat.zero_add] at hnw
        rcases Zcr (Zah sp) c with e | ⟨e, hcs⟩
        ·rw [e]; exact .pure _ _ (.unk _)
        ·have hlt : t < st1.tmps.length := (by rw [g1]; exact (List.getElem?_eq_some_iff.1 hs).1); have hkv := g2 t _ _ hs (List.getElem?_eq_getElem hlt); rw [e] at hkv ⊢
         rcases hcs with hp | hcs
         ·rw [hfr t hnw]; have ht := F0.tm t c hc; have hr : Rep h0 ρ00 (a0.tmps.getD t undef) c := ht.out (fun t' b x e' => by subst e'; simp [Za1] at hp); exact .pure _ _ ((hr.toPure hp).mono F1.mono)
         ·have he := Zpn hkv (by
           rcases hcs with ⟨id, off, e, _⟩ | ⟨id, e, _⟩ | ⟨id, e, _⟩
           ·exact .inl ⟨id, off, e⟩
           ·exact .inr (.inl ⟨id, e⟩)
           ·exact .inr (.inr ⟨id, e⟩))
          have ht := F1.tm t _ (List.getElem?_eq_getElem hlt); rw [he] at ht
          exact ht.out (fun t' b x e' => by rcases hcs with ⟨id, off, e, _⟩ | ⟨id, e, _⟩ | ⟨id, e, _⟩ <;> rw [e] at e' <;> cases e')) (by rw [g1, k1]) hok.2 hfx hmk
      exact ⟨k, hd, hm, ⟨h, ρ', F'⟩, hk⟩
    have hself : Za2 (Zay (Zap body) (Zah sp) 0 st.tmps) st.tmps = true := by
     have : ∀ (l : List SV) (t : Nat), Za2 (Zay (Zap body) (Zah sp) t l) l = true := by
      intro l
      induction l with
      | nil => intro t; rfl
      | cons c cs ihc =>
       intro t; simp only [Zay, Za2, ihc, Bool.and_true]
       cases hh : hasN (Zap body) t with
       | true => rfl
       | false =>
        simp only [cond_false]
        rcases Zcr (Zah sp) c with e | ⟨e, _⟩
        ·rw [e]; cases c <;> rfl
        ·rw [e]; cases c <;> simp [keptV]
     exact this _ _
    obtain ⟨k0, hd0, _, Fh0, hb0⟩ := enter st a0 w0 h0 ρ00 vals ids Fb (Fr.refl _ _) hhd hok.1 hself rfl h1
    refine Zn6 (fun k a w => Fr (Zap body) a0 a ∧ ∃ hd, Fits { X with h := h0 } hd a w ∧ vc P Sg Sv L body hd fun e st1 => match e with
       | .normal => match Zdy sp (St.frzAll (Zaw st1 sp) st1) with
        | none => False
        | some (vals', ids') => bif Zci sp (Zap body) ids' && Za2 (Zay (Zap body) (Zah sp) 0 st.tmps) (St.frzAll (Zaw st1 sp) st1).tmps then
          Zat (Zah sp) (St.frzAll (Zaw st1 sp) st1).objs sp.fixed = Zat (Zah sp) st.objs sp.fixed ∧ Zb1 (Za3 sp) I vals' (fun p => p) ∧ Zb1 (Za3 sp) m vals' (fun k' => k' < k) else False
       | e => QA e st1) k0 ⟨Fr.refl _ _, hd0, Fh0, hb0⟩ ?_
    rintro k a w ⟨hfr, hd, F', hb'⟩; refine ih { X with h := h0 } hd a w _ _ ?_ F' hb'; intro e st' a' w' Fx hf he; have hfr' := hfr.trans hf; have back : Fits X st' a' w' := by obtain ⟨hx, ρx, Fx⟩ := Fx; exact ⟨hx, ρx, F0.unbase Fx⟩
    cases e with
    | normal =>
     simp only [] at he
     split at he
     ·exact he.elim
     ·rename_i vals' ids' hhx
      cases hb : (Zci sp (Zap body) ids' && Za2 (Zay (Zap body) (Zah sp) 0 st.tmps) (St.frzAll (Zaw st' sp) st').tmps) with
      | false => simp [hb] at he
      | true => simp only [hb, cond_true] at he; simp only [Bool.and_eq_true] at hb; obtain ⟨e1, e2, e3⟩ := he; obtain ⟨hx, ρx, Fx⟩ := Fx; obtain ⟨hy, _, Fy⟩ := Fx.frzAll (Zaw st' sp); obtain ⟨k', hd1, g1, g2, g3⟩ := enter _ a' w' hy ρx vals' ids' Fy hfr' hhx hb.1 hb.2 e1 e2; refine ⟨k', ?_, hfr', hd1, g2, g3⟩; obtain ⟨x, hx1, hx2⟩ := Zjd _ m _ _ _ e3 g1; omega
    | exit id => exact hQ (.exit id) st' a' w' back hfr' he
    | ret => exact hQ .ret st' a' w' back hfr' he
 | rangeFunc f ps x y _ _ => intro X st a w QA Q hQ F hv; exact hv.elim
 | scope c _ => intro X st a w QA Q hQ F hv; exact hv.elim
 | label l => intro X st a w QA Q hQ F hv; exact hv.elim
 | goto l => intro X st a w QA Q hQ F hv; exact hv.elim
 | refuse s => intro X st a w QA Q hQ F hv; exact hv.elim

end Go.Px

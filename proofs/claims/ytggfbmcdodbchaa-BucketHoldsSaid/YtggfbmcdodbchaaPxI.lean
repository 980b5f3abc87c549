/- A function's contract out of its body's conditions. -/
import Derived.Test.YtggfbmcdodbchaaPxV
namespace Go.Px
open Go.RowKit

section
variable {w0 : World} {h0 h : Hp} {ρ : Nat → Loc} {st : St} {a : Act} {w : World} {P : Program}

def resRun (tmps : Array Value) : ResultVar → Sem Value
  | .tmp t => pure (tmps.getD t undef)
  | .cell a t => do loadVar t (← asAddr (tmps.getD a undef))

theorem resOf_sound (F : FitsAt w0 h0 h ρ st a w) (r : ResultVar) {s : SV} (hs : resOf P st r = some s) : ∃ v, (resRun a.tmps r).run P w = .ok v w ∧ Rep h ρ v s := by
  cases r with
  | tmp t =>
    simp only [resOf] at hs
    split at hs
    · cases hs
    · cases hs
      exact ⟨_, by simp [resRun], F.slot [] (by simp) t⟩
  | cell t ty =>
    simp only [resOf] at hs
    obtain ⟨u, ad, _, hu, r⟩ := loadOf_sound F (F.slot [] (by simp) t) hs
    refine ⟨u, ?_, r⟩
    have hu := hu w rfl
    simp only [resRun, Sem.run_bind]
    simp only [Instr.loadAt, Sem.run_bind] at hu
    generalize a.tmps.getD t undef = x at *
    cases x with
    | pointer p => cases p with
      | none => simp [Instr.sureAddr] at hu
      | some ad => simp [Instr.sureAddr] at hu; simp [asAddr, hu]
    | _ => simp [Instr.sureAddr] at hu

theorem resAll_sound (F : FitsAt w0 h0 h ρ st a w) : ∀ (l : List ResultVar) (ss : List SV), resAll P st l = some ss →
    ∃ vs : List Value, (l.mapM (resRun a.tmps)).run P w = .ok vs w ∧ vs.length = ss.length ∧ ∀ (i : Nat) v s, vs[i]? = some v → ss[i]? = some s → Rep h ρ v s
  | [], ss, e => by simp [resAll] at e; subst e; exact ⟨[], by simp, rfl, by simp⟩
  | r :: rs, ss, e => by
    simp only [resAll] at e
    split at e
    · rename_i s ss' h1 h2
      cases e
      obtain ⟨v, hv, rv⟩ := resOf_sound F r h1
      obtain ⟨vs, hvs, hl, hr⟩ := resAll_sound F rs ss' h2
      refine ⟨v :: vs, by simp [List.mapM_cons, hv, hvs], by simp [hl], fun i u c hu hc => ?_⟩
      cases i with
      | zero => simp at hu hc; subst hu; subst hc; exact rv
      | succ i => exact hr i u c (by simpa using hu) (by simpa using hc)
    · cases e

theorem results_run {fn : Func} {vs : List Value} {tmps : Array Value} (h : (fn.results.toList.mapM (resRun tmps)).run P w = .ok vs w) : (results fn tmps).run P w = .ok (rets vs) w := by
  have e : results fn tmps = (do let vs ← fn.results.mapM (resRun tmps); pure (if h : vs.size = 1 then vs[0] else .tuple vs)) := by
    unfold results
    rfl
  rw [e, Array.mapM_eq_mapM_toList]
  simp only [Sem.run_bind, Sem.run_map, h, Result.andThen_ok, Sem.run_pure]
  congr 1
  match vs with
  | [] => rfl
  | [v] => rfl
  | v :: v' :: vs => simp [rets]

theorem tipRes_get (T : Bool) : ∀ (ss : List SV) (seen : List Nat), tipRes T st seen ss = true →
    (∀ (i : Nat) sz rows tok, ss[i]? = some (.slice sz rows tok) → T = true → tok = 1 ∨ ∃ id, tok = id + 2 ∧ oget st.objs id = some .tip ∧ id ∉ seen) ∧
    (∀ (i j : Nat) sz rows tok sz' rows' tok', ss[i]? = some (.slice sz rows tok) → ss[j]? = some (.slice sz' rows' tok') → T = true → i ≠ j → tok ≠ 1 → tok' ≠ 1 → tok ≠ tok')
  | [], seen, _ => by simp
  | s :: ss, seen, ht => by
    by_cases hs : ∃ sz rows tok, s = .slice sz rows tok ∧ T = true
    · obtain ⟨sz, rows, tok, rfl, rfl⟩ := hs
      match tok, ht with
      | 0, ht => simp [tipRes] at ht
      | 1, ht =>
        simp only [tipRes] at ht
        obtain ⟨g1, g2⟩ := tipRes_get true ss seen ht
        refine ⟨fun i sz' rows' tok' hi _ => ?_, fun i j sz1 rows1 tok1 sz2 rows2 tok2 hi hj _ hij h1 h2 => ?_⟩
        · cases i with
          | zero => simp at hi; exact .inl hi.2.2.symm
          | succ i => exact g1 i sz' rows' tok' (by simpa using hi) rfl
        · cases i with
          | zero => simp at hi; exact absurd hi.2.2.symm h1
          | succ i => cases j with
            | zero => simp at hj; exact absurd hj.2.2.symm h2
            | succ j => exact g2 i j _ _ _ _ _ _ (by simpa using hi) (by simpa using hj) rfl (by omega) h1 h2
      | id + 2, ht =>
        simp only [tipRes, Bool.and_eq_true] at ht
        obtain ⟨⟨hid, hns⟩, hrest⟩ := ht
        have hid' : oget st.objs id = some .tip := by
          split at hid
          · assumption
          · cases hid
        have hns' : id ∉ seen := by simpa using hns
        obtain ⟨g1, g2⟩ := tipRes_get true ss (id :: seen) hrest
        refine ⟨fun i sz' rows' tok' hi _ => ?_, fun i j sz1 rows1 tok1 sz2 rows2 tok2 hi hj _ hij h1 h2 => ?_⟩
        · cases i with
          | zero => simp at hi; exact .inr ⟨id, hi.2.2.symm, hid', hns'⟩
          | succ i =>
            rcases g1 i sz' rows' tok' (by simpa using hi) rfl with e | ⟨id', e1, e2, e3⟩
            · exact .inl e
            · exact .inr ⟨id', e1, e2, fun hm => e3 (by simp [hm])⟩
        · cases i with
          | zero =>
            simp at hi
            cases j with
            | zero => exact absurd rfl hij
            | succ j =>
              rcases g1 j sz2 rows2 tok2 (by simpa using hj) rfl with e | ⟨id', e1, e2, e3⟩
              · exact absurd e h2
              · rw [← hi.2.2, e1]; intro e; apply e3; simp; omega
          | succ i => cases j with
            | zero =>
              simp at hj
              rcases g1 i sz1 rows1 tok1 (by simpa using hi) rfl with e | ⟨id', e1, e2, e3⟩
              · exact absurd e h1
              · rw [← hj.2.2, e1]; intro e; apply e3; simp; omega
            | succ j => exact g2 i j _ _ _ _ _ _ (by simpa using hi) (by simpa using hj) rfl (by omega) h1 h2
    · have hrest : tipRes T st seen ss = true := by
        cases T with
        | false => simp only [tipRes, Bool.and_eq_true] at ht; exact ht.2
        | true =>
          cases s <;> first | (simp only [tipRes, Bool.and_eq_true] at ht; exact ht.2) | exact absurd ⟨_, _, _, rfl, rfl⟩ hs
      obtain ⟨g1, g2⟩ := tipRes_get T ss seen hrest
      refine ⟨fun i sz' rows' tok' hi hT => ?_, fun i j sz1 rows1 tok1 sz2 rows2 tok2 hi hj hT hij h1 h2 => ?_⟩
      · cases i with
        | zero => simp at hi; exact absurd ⟨_, _, _, hi, hT⟩ hs
        | succ i => exact g1 i sz' rows' tok' (by simpa using hi) hT
      · cases i with
        | zero => simp at hi; exact absurd ⟨_, _, _, hi, hT⟩ hs
        | succ i => cases j with
          | zero => simp at hj; exact absurd ⟨_, _, _, hj, hT⟩ hs
          | succ j => exact g2 i j _ _ _ _ _ _ (by simpa using hi) (by simpa using hj) hT (by omega) h1 h2

theorem resNorm_get : ∀ (ts : List TypeId) (ss rs : List SV), resNorm P ts ss = some rs → rs.length = ss.length ∧
    ∀ (i : Nat) r, rs[i]? = some r → ∃ s c t, ss[i]? = some s ∧ pureArg s = some c ∧ r = normT P t c
  | [], [], rs, e => by simp [resNorm] at e; subst e; simp
  | [], _ :: _, rs, e => by simp [resNorm] at e
  | _ :: _, [], rs, e => by simp [resNorm] at e
  | t :: ts, s :: ss, rs, e => by
    simp only [resNorm] at e
    split at e
    · rename_i c cs h1 h2
      cases e
      obtain ⟨l, g⟩ := resNorm_get ts ss cs h2
      refine ⟨by simp [l], fun i r hr => ?_⟩
      cases i with
      | zero => simp at hr; exact ⟨s, c, t, by simp, h1, hr.symm⟩
      | succ i => simpa using g i r (by simpa using hr)
    · cases e

theorem bif0 {x y z : Nat} (e : z = bif Nat.beq x 0 then y else x) : z = x ∨ x = 0 := by
  cases hb : Nat.beq x 0 with
  | false => simp [hb] at e; exact .inl e
  | true => exact .inr (Nat.eq_of_beq_eq_true hb)

/-- A normed result that is a slice was one. -/
theorem norm_slice {s c : SV} {t : TypeId} {sz : Nat} {rows : List (List SV)} {tok : Nat} (hp : pureArg s = some c) (he : .slice sz rows tok = normT P t c) :
    ∃ sz0 tok0, s = .slice sz0 rows tok0 ∧ (sz = sz0 ∨ sz0 = 0) ∧ tok = 0 := by
  have hc : ∃ sz0, c = .slice sz0 rows tok ∧ (sz = sz0 ∨ sz0 = 0) := by
    unfold normT at he
    split at he
    · cases he
    · unfold fixSz at he
      split at he
      · injection he with e1 e2 e3
        subst e2; subst e3
        exact ⟨_, rfl, bif0 e1⟩
      · subst he; exact ⟨sz, rfl, .inl rfl⟩
  obtain ⟨sz0, rfl, hz⟩ := hc
  unfold pureArg at hp
  split at hp
  · simp at hp
  · unfold pureCell at hp
    split at hp <;> first | (cases hp; done) | skip
    cases hp
    exact ⟨_, _, rfl, hz, rfl⟩

end

theorem fn_sound {P : Program} (T : FuncId → Bool) (L : Nat → LoopSpec) {f : FuncId} {fn : Func} {c : Code} {args : List SV} {Q : List SV → Prop} (hf : P.funcs[f]? = some fn) (hb : fn.body = some c)
    (hv : vc P T L c (start fn args) (fin P fn (T f) Q)) : Ct P f (T f) args Q := by
  intro h w vs hsub hlen hrep
  refine calls_of_wp hf hb ?_
  have F : FitsAt w h h (fun _ => ⟨0, 0, 0, 0, 0, true⟩) (start fn args) { tmps := vs ++ Array.replicate (fn.ntmps - vs.size) undef, defers := [] } w := by
    refine ⟨by simp [start, hlen], fun t s hs => ?_, rfl, hsub, fun id o ho => by simp [start, oget] at ho, fun i j hi => ?_, fun i hi => ?_, fun _ _ _ => rfl, Below.refl _ _⟩
    · simp only [start] at hs
      rw [List.getElem?_append] at hs
      by_cases ht : t < args.length
      · rw [if_pos ht] at hs
        have hv' : (vs ++ Array.replicate (fn.ntmps - vs.size) undef).getD t undef = vs[t]'(by omega) := by
          simp [Array.getElem?_append, hlen, ht]
        simp only [hv']
        exact TRep.of_rep' (.pure _ _ (hrep t _ s (Array.getElem?_eq_getElem (by omega)) hs))
      · rw [if_neg ht] at hs
        rw [List.getElem?_replicate] at hs
        split at hs
        · cases hs; exact TRep.rep_unk _ _
        · cases hs
    · obtain ⟨⟨o, ho⟩, _⟩ := hi; simp [start, oget] at ho
    · obtain ⟨⟨o, ho⟩, _⟩ := hi; simp [start, oget] at ho
  refine vc_sound T L c _ _ _ _ _ ?_ ⟨h, _, F⟩ hv
  intro e st a w' hF he
  have key : finC P fn (T f) Q st → a.defers = [] ∧ ∃ v, (results fn a.tmps).run P w' = .ok v w' ∧ ∃ (vr : List Value) (h' : Hp) (ρ : Nat → Loc) (rs : List SV), Ending.returned v = .returned (rets vr) ∧ Q rs ∧
      vr.length = rs.length ∧ (∀ (i : Nat) v s, vr[i]? = some v → rs[i]? = some s → RetRep h' ρ (T f) i v s) ∧
      (∀ (i : Nat) sz rows tok, rs[i]? = some (.slice sz rows tok) → (T f) = true → ObOK h' ρ w' i .tip ∧ ((ρ i).none = false → w.heap.size ≤ (ρ i).blk)) ∧
      (∀ (i j : Nat) sz rows tok sz' rows' tok', rs[i]? = some (.slice sz rows tok) → rs[j]? = some (.slice sz' rows' tok') → (T f) = true → i ≠ j → (ρ i).none = false → (ρ j).none = false → (ρ i).blk ≠ (ρ j).blk) ∧
      HSub h' w' ∧ (∀ b, b < w.heap.size → ∀ o, h' b o = h b o) ∧ Below w.heap.size w w' := by
    intro hfin
    obtain ⟨h', ρ, F'⟩ := hF
    unfold finC at hfin
    split at hfin
    · exact hfin.elim
    · rename_i ss hss
      cases htip : tipRes (T f) st [] ss with
      | false => simp [htip] at hfin
      | true =>
        simp only [htip, cond_true] at hfin
        split at hfin
        · rename_i rs hrs
          obtain ⟨vr, hrun, hl, hr⟩ := resAll_sound F' _ _ hss
          obtain ⟨g1, g2⟩ := tipRes_get (T f) ss [] htip
          obtain ⟨l2, hn⟩ := resNorm_get _ _ _ hrs
          let ρr : Nat → Loc := fun i => match ss[i]? with | some (.slice _ _ (id + 2)) => ρ id | _ => ⟨0, 0, 0, 0, 0, true⟩
          have hρr : ∀ i sz rows id, ss[i]? = some (.slice sz rows (id + 2)) → ρr i = ρ id := fun i sz rows id e => by simp only [ρr, e]
          have hρ1 : ∀ i sz rows, ss[i]? = some (.slice sz rows 1) → (ρr i).none = true := fun i sz rows e => by simp only [ρr, e]
          have back : ∀ (i : Nat) sz rows tok, rs[i]? = some (.slice sz rows tok) → ∃ sz0 tok0, ss[i]? = some (.slice sz0 rows tok0) ∧ (sz = sz0 ∨ sz0 = 0) ∧ tok = 0 := fun i sz rows tok e => by
            obtain ⟨s, c, t, e1, e2, e3⟩ := hn i _ e
            obtain ⟨sz0, tok0, rfl, hz, h0⟩ := norm_slice e2 e3
            exact ⟨sz0, tok0, e1, hz, h0⟩
          refine ⟨F'.df, rets vr, results_run hrun, vr, h', ρr, rs, rfl, hfin, by omega, fun i v s hv hs => ?_, fun i sz rows tok hs hT => ?_, fun i j sz rows tok sz' rows' tok' hi hj hT hij => ?_, F'.sub, F'.ext, F'.bel⟩
          · by_cases hs' : ∃ sz rows tok, s = .slice sz rows tok ∧ T f = true
            · obtain ⟨sz, rows, tok, rfl, hT⟩ := hs'
              obtain ⟨sz0, tok0, e1, hz, h0⟩ := back i sz rows tok hs
              have rv := hr i v _ hv e1
              simp only [RetRep, hT]
              have fixp : ∀ tk, PRep h' v (.slice sz0 rows tk) → PRep h' v (.slice sz rows tk) := fun tk hp => by
                rcases hz with rfl | rfl
                · exact hp
                · cases hp with
                  | empty p cap _ _ ht h1 hn => exact .empty p cap _ _ ht h1 hn
                  | slice _ _ _ _ _ _ _ hpos => exact absurd hpos (Nat.lt_irrefl 0)
              rcases g1 i _ _ _ e1 hT with rfl | ⟨id, rfl, hob, _⟩
              · refine .tip0 i v sz rows (hρ1 i _ _ e1) (fixp 1 ?_)
                cases rv with
                | pure _ _ hp => exact hp
              · have e := hρr i _ _ _ e1
                cases rv with
                | pure _ _ hp => cases hp with
                  | empty _ _ _ _ ht => omega
                  | slice _ _ _ _ _ _ _ _ _ _ _ ht => omega
                | tip0 _ _ _ _ hn0 hp => exact .tip0 i v sz rows (by rw [e]; exact hn0) (fixp 1 hp)
                | tip _ _ _ hn0 hpos0 hl0 hs0 hp =>
                  have hz' : sz = sz0 := by
                    rcases hz with hz | hz
                    · exact hz
                    · subst hz; exact absurd hpos0 (Nat.lt_irrefl 0)
                  subst hz'
                  rw [← e] at hn0 hl0 hs0 hp ⊢
                  exact .tip i sz rows hn0 hpos0 hl0 hs0 hp
            · obtain ⟨s0, c, t, e1, e2, e3⟩ := hn i _ hs
              have hp : PRep h' v s := by rw [e3]; exact normT_sound t (pureArg_sound (hr i v s0 hv e1) e2)
              unfold RetRep
              split
              · rename_i sz rows tok hT; exact absurd ⟨_, _, _, rfl, hT⟩ hs'
              · exact hp
          · obtain ⟨sz0, tok0, e1, hz, h0⟩ := back i sz rows tok hs
            rcases g1 i _ _ _ e1 hT with rfl | ⟨id, rfl, hob, _⟩
            · have := hρ1 i _ _ e1
              exact ⟨.inl this, fun hn0 => by rw [this] at hn0; cases hn0⟩
            · have e := hρr i _ _ _ e1
              have ho := F'.obj id _ hob
              refine ⟨by simp only [ObOK, e] at ho ⊢; exact ho, fun hn0 => ?_⟩
              rw [e] at hn0 ⊢
              exact F'.own id ⟨⟨_, hob⟩, hn0⟩
          · intro hni hnj
            obtain ⟨sz0, tok0, e1, _, _⟩ := back i sz rows tok hi
            obtain ⟨sz1, tok1, e2, _, _⟩ := back j sz' rows' tok' hj
            rcases g1 i _ _ _ e1 hT with rfl | ⟨id, rfl, hob, _⟩
            · rw [hρ1 i _ _ e1] at hni; cases hni
            · rcases g1 j _ _ _ e2 hT with rfl | ⟨id', rfl, hob', _⟩
              · rw [hρ1 j _ _ e2] at hnj; cases hnj
              · have := g2 i j _ _ _ _ _ _ e1 e2 hT hij (by omega) (by omega)
                rw [hρr i _ _ _ e1] at hni ⊢
                rw [hρr j _ _ _ e2] at hnj ⊢
                exact F'.inj id id' ⟨⟨_, hob⟩, hni⟩ ⟨⟨_, hob'⟩, hnj⟩ (by omega)
        · exact hfin.elim
  cases e with
  | normal => exact key he
  | ret => exact key he
  | exit id => exact he.elim

/-- A function's contract out of its condition in another spelling. -/
theorem fn_of {P : Program} (T : FuncId → Bool) (L : Nat → LoopSpec) {f : FuncId} {fn : Func} {c : Code} {args : List SV} {Q : List SV → Prop} {X : Prop} {b : Bool} (hf : P.funcs[f]? = some fn) (hc : fn.body = some c) (hb : T f = b)
    (e : X = vc P T L c (start fn args) (fin P fn b Q)) (h : X) : Ct P f b args Q := by
  subst hb
  exact fn_sound T L hf hc (e.mp h)

end Go.Px

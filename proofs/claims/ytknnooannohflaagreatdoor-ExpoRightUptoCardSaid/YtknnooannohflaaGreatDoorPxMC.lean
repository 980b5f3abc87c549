/- A law whose statement is narrowed by the bulk of what it reads. -/
import Derived.Test.YtknnooannohflaaGreatDoorPxMm
import Derived.JoinedCond
namespace Go.Px
open Go.RowKit Go.ChangeShapes Go.WideShapes Go.ChangeAt
set_option linter.unusedVariables false

section
variable {H : Type} {enc : TypeId × Value → H} {P : Program} {w : World} {spare : Nat → Bool} {held : Bool}

theorem trod_typBV {μ : DataW H → Nat} (hμ : Wt μ) {base n : Nat} {t : TypeId} {v : Value} {d : DataW H} {ps : List MemPlace} (hl : lay P n t = true) (hok : Value.okWide P w .any base t v)
    (hwt : ∀ x ∈ d.weights P t, x ≤ reachBytes) (h : DataW.Trod enc P w 0 spare held t v d ps) : ∃ s, TypVW P n t s ∧ PRep (hof w) v s ∧ blk s ≤ μ d := by
  obtain ⟨fuel, hf⟩ := h
  obtain ⟨ss, hr, ht, hbk⟩ := trod_typB hμ fuel n t _ d ps hl hwt hf
  obtain ⟨h1, h2⟩ := okWide_form hok
  cases hagg : isAggT P t with
  | true =>
    obtain ⟨vs, rfl⟩ := h1 hagg
    refine ⟨.agg ss, ⟨ss, ht, fun _ => rfl, fun e => by (rw [hagg] at e; cases e)⟩, .agg vs ss (by have := hr.1; simpa [Value.cells] using this.symm) fun i v c hv hc => (hr.2 i v c (by simpa [Value.cells] using hv) hc).1, by simp only [blk]; omega⟩
  | false =>
    have e := h2 hagg
    rw [e] at hr
    have hlen : ss.length = 1 := hr.1
    match ss, hlen with
    | [s], _ => exact ⟨s, ⟨[s], ht, fun e => by (rw [hagg] at e; cases e), fun _ => rfl⟩, (hr.2 0 v s (by simp) (by simp)).1, by simp only [blkL] at hbk; omega⟩

theorem trodAll_typB {μ : DataW H → Nat} (hμ : Wt μ) {base n : Nat} : ∀ (ts : List TypeId) (vs : List Value) (ds : List (DataW H)) (ps : List MemPlace), (∀ t ∈ ts, lay P n t = true) →
    (∀ (j : Nat) t v, ts[j]? = some t → vs[j]? = some v → Value.okWide P w .any base t v) → (∀ x ∈ DataW.weightsEach P ts ds, x ≤ reachBytes) → DataW.TrodAll enc P w 0 spare held ts vs ds ps →
    ∃ ss, TypAllW P n ts ss ∧ vs.length = ss.length ∧ (∀ (i : Nat) v s, vs[i]? = some v → ss[i]? = some s → PRep (hof w) v s) ∧ blkL ss ≤ (ds.map μ).sum
  | [], [], [], ps, _, _, _, _ => ⟨[], rfl, rfl, by simp, Nat.zero_le _⟩
  | t :: ts, v :: vs, d :: ds, ps, hl, hok, hwt, h => by
    obtain ⟨p, q, h1, h2, _⟩ := h
    obtain ⟨s, hs, hp, hk⟩ := trod_typBV hμ (hl t (by simp)) (hok 0 t v rfl rfl) (fun x hx => hwt x (by simp only [DataW.weightsEach, List.mem_append]; exact .inl hx)) h1
    obtain ⟨ss, g1, g2, g3, g4⟩ := trodAll_typB hμ ts vs ds q (fun t ht => hl t (by simp [ht])) (fun j t v ht hv => hok (j + 1) t v (by simpa using ht) (by simpa using hv)) (fun x hx => hwt x (by simp only [DataW.weightsEach, List.mem_append]; exact .inr hx)) h2
    refine ⟨s :: ss, ⟨s, ss, rfl, hs, g1⟩, by simp [g2], fun i u c hu hc => ?_, by simp only [blkL, List.map_cons, List.sum_cons]; omega⟩
    cases i with
    | zero => simp at hu hc; subst hu; subst hc; exact hp
    | succ i => exact g3 i u c (by simpa using hu) (by simpa using hc)
  | [], _ :: _, _, _, _, _, _, h => by simp [DataW.TrodAll] at h
  | [], [], _ :: _, _, _, _, _, h => by simp [DataW.TrodAll] at h
  | _ :: _, [], _, _, _, _, _, h => by simp [DataW.TrodAll] at h
  | _ :: _, _ :: _, [], _, _, _, _, h => by simp [DataW.TrodAll] at h

/-- A law's contract, out of what it does with plain data. -/
theorem law_contractB {μ : DataW H → Nat} (hμ : Wt μ) (N : Nat) {f : FuncId} {fn : Func} (n : Nat) (s : ChangeSpec) (tb : TypeId) (hvars : s.vars = []) (hlo : laidOutB P = true)
    (hlay : fn.params.toList.all (fun t => lay P n t && P.readableRec t && Nat.blt t P.types.size) = true) (hres : fn.resultTypes = #[tb]) (htb : P.underlying tb = some .bool)
    (W : World) (base : Nat) (args : Array Value) (ds gs : List (DataW H)) (before : List MemPlace)
    (hfn : ∀ l : List (DataW H), l.length = fn.params.size → (s.fn H l).results = [.lit (.bool true)] ∧ (s.fn H l).args = l ∧ (s.fn H l).vars = [])
    (hval : ∀ (j : Nat) t v, fn.params[j]? = some t → args[j]? = some v → Value.okWide P W .any base t v)
    (hW : DataW.Whole enc P fn.params.toList s.vars false W args.toList ds gs before)
    (hwt : (DataW.weightsEach P (fn.params.toList ++ s.plain.varTypes P) (ds ++ gs)).all (· ≤ reachBytes) = true)
    (hgl : Gl (hof W) W) (hN : ((ds ++ gs).map μ).sum ≤ N)
    (hlaw : ∀ ss, TypAllW P n fn.params.toList ss → blkL ss ≤ N → Ct P f {} ss (fun r => r = [.val (.bool true)])) :
    Calls P f args W fun e W' => ∃ v, e = .returned v ∧ s.post enc P fn false true false false W args v W' := by
  have hW' := hW
  obtain ⟨p, q, hA, hV, rfl, hfz, hnd⟩ := hW
  rw [List.all_eq_true] at hlay
  obtain ⟨ss, h1, h2, h3, h4⟩ := trodAll_typB hμ (n := n) (base := base) fn.params.toList args.toList ds p (fun t ht => by have := hlay t ht; simp at this; exact this.1.1)
    (fun j t v ht hv => hval j t v (by simpa using ht) (by simpa using hv)) (fun x hx => by
      rw [List.all_eq_true] at hwt
      have := hwt x (weightsEach_app fn.params.toList ds _ gs hx)
      simpa using this) hA
  refine ((hlaw ss h1 (by rw [List.map_append, List.sum_append] at hN; omega)).2 ss [] (argsH_pureAll pId ss 0) (hof W) (fun _ => noLoc) W args ⟨hof_sub W, by simp, fun i j ⟨⟨o, e⟩, _⟩ => by simp [oget] at e⟩ hgl ⟨by simpa using h2, fun i v s hv hs => .pure _ _ (h3 i v s (by simpa using hv) hs)⟩).mono ?_
  rintro e W' ⟨vr, h', ρ, rs, hr, objs', rfl, rfl, hend, hrep, _, _, _, _, _, hkp⟩
  have hb : Below W.heap.size W W' := hkp.below (fun k ⟨i, ⟨⟨o, e⟩, _⟩, _⟩ => by simp [oget] at e)
  refine ⟨_, rfl, ?_⟩
  have hv : rets vr = .bool true := by
    unfold endH at hend
    simp only [argsH_pureAll] at hend
    split at hend
    · rename_i hs os os' ha hl
      cases ha
      cases hend
      have hlen := hrep.1
      match vr, hlen with
      | [], _ => simp [lentH] at hl
      | [v], _ =>
        have := hrep.2 0 v (.val (.bool true)) rfl (by simp)
        exact this.val_inv
      | _ :: _ :: _, hlen => simp at hlen
    · cases hend
  rw [hv]
  have hvq : q = [] ∧ gs = [] := by
    rw [hvars] at hV
    cases gs with
    | nil => exact ⟨by simpa [DataW.TrodVars] using hV, rfl⟩
    | cons x xs => simp [DataW.TrodVars] at hV
  obtain ⟨rfl, rfl⟩ := hvq
  have hfn := hfn (ds ++ []) (by rw [List.append_nil, trodAll_length _ _ _ _ hA]; simp)
  rw [List.append_nil] at hfn
  refine ⟨ds, [], p ++ [], [], p, [], hW', ?_, ?_, ?_, hb.frame _, fun h => by cases h⟩
  · rw [List.append_nil, hfn.1, hres]
    exact trodAll_mk1 (shut_bool htb true)
  · rw [List.append_nil, hfn.2.1]
    exact trodAll_below hlo hb _ _ _ _ (fun t ht => by have := hlay t ht; simp at this; exact ⟨this.1.2, this.2⟩) (fun x hx => hW'.lt x (by simpa using hx)) hA
  · rw [hvars, List.append_nil, hfn.2.2]; rfl

/-- A claim with a condition of its own, and with listed variables. -/
theorem returns_cond_and {a : Assume} {C : Checked} {os : Os} {f : FuncId} {fn : Func} {s : OpenSpec} {k : (H : Type) → List (DataW H) → Bool} (hk : s.cond = some k) {F : Stop.Interp} {conds : List PathCond} {apart fresh handsOn again : Bool} {X : World → Array Value → Prop}
    (hX : ∀ (w w' : World) (args : Array Value), w.heap = w'.heap → X w args → X w' args)
    (own : ownKnob C.prog.godebug = none) (started : os.Started) (noInit : C.prog.inits.idxOf? f = none) (hfn : C.prog.funcs[f]? = some fn)
    (witness : ∃ (w : World) (tape : Tape) (i : Input), w.os = os ∧ (w.forCall tape i).Shaped C.prog ∧ i.vars = [] ∧ Input.okWide C.prog (w.forCall tape i) .any w.heap.size f i ∧
      ((s.pre enc C.prog fn conds apart (w.forCall tape i).memory i.args ∧ X (w.forCall tape i).memory i.args) ∧ sizedMet enc C.prog fn s apart (w.forCall tape i).memory i.args) ∧ a.holds C.prog (lone (Frame.enter C.prog f i.args .normal) [] (w.forCall tape i)))
    (contract : ∀ (W : World) (base : Nat) (args : Array Value) (ds gs : List (DataW H)) (before : List MemPlace),
      (∀ (j : Nat) t v, fn.params[j]? = some t → args[j]? = some v → Value.okWide C.prog W .any base t v) →
      DataW.Whole enc C.prog fn.params.toList s.vars apart W args.toList ds gs before →
      conds.all (PathCond.test C.prog ⟨fn.params.toList, ds, s.bare.plain.varTypes C.prog, gs⟩) = true → k H (ds ++ gs) = true →
      (DataW.weightsEach C.prog (fn.params.toList ++ s.bare.plain.varTypes C.prog) (ds ++ gs)).all (· ≤ reachBytes) = true → X W args →
      a.holds C.prog (lone (Frame.enter C.prog f args .normal) [] W) →
      Calls C.prog f args W fun e W' => ∃ v, e = .returned v ∧ (s.at F).post enc C.prog fn apart fresh handsOn again W args v W') :
    ReturnsInHanded a C os f .any (fun w args => (s.pre enc C.prog fn conds apart w args ∧ X w args) ∧ sizedMet enc C.prog fn s apart w args) ((s.at F).post enc C.prog fn apart fresh handsOn again) := by
  refine returnsInHanded_of_calls own started noInit witness ?_
  intro w tape i _ _ _ hok hpre hholds
  obtain ⟨_, _, _, fn', hfn', _, _, _, _, hval⟩ := hok
  have e : fn' = fn := Option.some.inj (hfn'.symm.trans hfn)
  subst e
  obtain ⟨⟨hp, hx⟩, hz⟩ := hpre
  obtain ⟨ds, gs, before, hw, hc, hkk⟩ := (OpenSpec.pre_some hk conds apart _ _).1 hp
  have hw' := DataW.Whole.of_heap (w' := w.forCall tape i) (by rfl) hw
  refine (contract (w.forCall tape i) w.heap.size i.args ds gs before hval hw' hc hkk (hz.weights hw) (hX _ _ _ (by rfl) hx) hholds).mono fun e W' ⟨v, he, hp⟩ => ?_
  subst he
  exact ChangeSpec.post_blind hp

/-- Its hypotheses fit: at arguments whose reading is told. -/
theorem cond_witness {C : Checked} {os : Os} {f : FuncId} {fn : Func} {s : OpenSpec} {k : (H : Type) → List (DataW H) → Bool} (hk : s.cond = some k) {conds : List PathCond} {apart : Bool} {X : World → Array Value → Prop} (modest : Bool) (w0 : World) (args : Array Value) (fuel : Nat) (hos : w0.os = os)
    (hsh : (w0.forCall (fun _ _ => 0) ⟨#[], args, []⟩).Shaped C.prog)
    (hok : Input.okWideB C.prog (w0.forCall (fun _ _ => 0) ⟨#[], args, []⟩) f ⟨#[], args, []⟩ = true)
    (x : List (DataW H) × List (DataW H) × List MemPlace) (hx : DataW.whole enc C.prog (w0.forCall (fun _ _ => 0) ⟨#[], args, []⟩).memory fn.params.toList s.vars apart args.toList fuel = some x)
    (hconds : conds.all (PathCond.test C.prog ⟨fn.params.toList, x.1, s.bare.plain.varTypes C.prog, x.2.1⟩) = true) (hkk : k H (x.1 ++ x.2.1) = true)
    (hsz : s.bare.sizedB enc C.prog fn apart (w0.forCall (fun _ _ => 0) ⟨#[], args, []⟩).memory args fuel = true)
    (hX : X (w0.forCall (fun _ _ => 0) ⟨#[], args, []⟩).memory args) :
    ∃ (w : World) (tape : Tape) (i : Input), w.os = os ∧ (w.forCall tape i).Shaped C.prog ∧ i.vars = [] ∧ Input.okWide C.prog (w.forCall tape i) .any w.heap.size f i ∧
      ((s.pre enc C.prog fn conds apart (w.forCall tape i).memory i.args ∧ X (w.forCall tape i).memory i.args) ∧ sizedMet enc C.prog fn s apart (w.forCall tape i).memory i.args) ∧ ({ modest := modest } : Assume).holds C.prog (lone (Frame.enter C.prog f i.args .normal) [] (w.forCall tape i)) :=
  ⟨w0, fun _ _ => 0, ⟨#[], args, []⟩, hos, hsh, (Input.okWide_of_okWideB (base := 0) hok).1, (Input.okWide_of_okWideB hok).2,
    ⟨⟨(OpenSpec.pre_some hk conds apart _ _).2 ⟨x.1, x.2.1, x.2.2, DataW.Whole_of_whole hx, hconds, hkk⟩, hX⟩, sizedMet_of_sizedB hsz⟩, by
    simp only [Assume.holds]
    exact ⟨by simp, by simp, fun _ => Modest.zero, by simp, by simp⟩⟩

end
end Go.Px

/- A region of open order in the kit's own walk: each operation fills its slot with a value that is told ahead, whatever came up before. -/
import Derived.Test.YtknnooannohflaaGreatDoorPxAny
import Derived.RegionTactic
namespace Go.Px
open Go
set_option linter.unusedVariables false

/-- No operation has this slot. -/
def noDst (ops : Array Oper) (k : Nat) : Bool := ops.toList.all fun p => !(p.dst == some k)
theorem noDst_ne {ops : Array Oper} {k : Nat} (h : noDst ops k = true) (j : Nat) (p : Oper) (hp : ops[j]? = some p) : p.dst ≠ some k := by
  unfold noDst at h
  have := List.all_eq_true.1 h p (by rw [← Array.getElem?_toList] at hp; exact List.mem_of_getElem? hp)
  simpa using this

/-- What the operation i finds when it comes up. -/
structure ASee (ops : Array Oper) (base : Act) (val : Nat → Value) (i : Nat) (o : Oper) (a : Act) : Prop where
  full : ∀ (j : Nat) (p : Oper) (d : Nat), (∃ e ∈ o.after.toList, Region.binds .any e = true ∧ e.on = j) → ops[j]? = some p → p.dst = some d → a.tmps.getD d undef = val j
  rest : ∀ k : Nat, (∀ (j : Nat) (p : Oper), ops[j]? = some p → p.dst ≠ some k) → a.tmps.getD k undef = base.tmps.getD k undef

theorem ASee.old {ops : Array Oper} {base : Act} {val : Nat → Value} {i : Nat} {o : Oper} {a : Act} (h : ASee ops base val i o a) (k : Nat) (hk : noDst ops k = true) : a.tmps.getD k undef = base.tmps.getD k undef := h.rest k fun j p hp => noDst_ne hk j p hp

structure AFill (ops : Array Oper) (base : Act) (val : Nat → Value) (listed : Array Bool) (a : Act) : Prop where
  len : a.tmps.size = base.tmps.size
  defers : a.defers = base.defers
  lsz : listed.size = ops.size
  full : ∀ (j : Nat) (p : Oper) (d : Nat), ops[j]? = some p → listed.getD j false = true → p.dst = some d → a.tmps.getD d undef = val j
  rest : ∀ k : Nat, (∀ (j : Nat) (p : Oper), ops[j]? = some p → listed.getD j false = true → p.dst ≠ some k) → a.tmps.getD k undef = base.tmps.getD k undef

theorem getD_setIf (l : Array Bool) (i j : Nat) (h : i < l.size) : (l.setIfInBounds i true).getD j false = if i = j then true else l.getD j false := by
  simp only [Array.getD_eq_getD_getElem?]
  by_cases e : i = j
  · subst e
    rw [if_pos rfl]
    simp [h]
  · rw [if_neg e, Array.getElem?_setIfInBounds_ne e]
theorem getD_put (t : Array Value) (d k : Nat) (v : Value) (h : d < t.size) : (t.setIfInBounds d v).getD k undef = if d = k then v else t.getD k undef := by
  simp only [Array.getD_eq_getD_getElem?]
  by_cases e : d = k
  · subst e
    rw [if_pos rfl]
    simp [h]
  · rw [if_neg e, Array.getElem?_setIfInBounds_ne e]

theorem wpAny_fill {P : Program} {ops : Array Oper} {Q : Exit → Act → World → Prop} {base : Act} {val : Nat → Value} (J : Array Bool → World → Prop)
    (hdst : ∀ (i : Nat) (o : Oper), ops[i]? = some o → ∃ d, o.dst = some d ∧ d < base.tmps.size)
    (hinj : ∀ (i j : Nat) (o p : Oper), ops[i]? = some o → ops[j]? = some p → o.dst = p.dst → i = j)
    (hop : ∀ (i : Nat) (o : Oper) (listed : Array Bool) (a : Act) (w : World), ops[i]? = some o → ASee ops base val i o a → listed.getD i false = false → listed.size = ops.size → (∀ e ∈ o.after.toList, Region.binds .any e = true → listed.getD e.on false = true) → J listed w →
      Region.wanted o (yielded ops a.tmps) = true ∧ ∀ K' : Act → World → Prop, (∀ w', J (listed.setIfInBounds i true) w' → K' (a.put o.dst (val i)) w') → Oper.wp P o a w K' Q)
    (hend : ∀ (listed : Array Bool) (a : Act) (w : World), AFill ops base val listed a → Region.ready .any ops listed = [] → J listed w → Q .normal a w) :
    ∀ (n : Nat) (listed : Array Bool) (a : Act) (w : World), AFill ops base val listed a → J listed w → open_ listed ≤ n → wpAny P .any ops Q n listed a w := by
  have rdy : ∀ listed i o, i ∈ Region.ready .any ops listed → ops[i]? = some o → listed.size = ops.size → listed.getD i false = false ∧ (∀ e ∈ o.after.toList, Region.binds .any e = true → listed.getD e.on false = true) := by
    intro listed i o hi ho hsz
    have h1 := ready_mem hi
    unfold Region.ready at hi
    obtain ⟨_, h2⟩ := List.mem_filter.1 hi
    rw [ho] at h2
    simp only [Bool.and_eq_true, Option.map_some, Option.getD_some] at h2
    refine ⟨?_, fun e he hb => ?_⟩
    · have h3 := h1.2
      simp only [Array.getD_eq_getD_getElem?] at h3 ⊢
      rw [Array.getElem?_eq_getElem (by rw [hsz]; exact h1.1)] at h3 ⊢
      exact h3
    · have h3 := h2.2
      rw [← Array.all_toList] at h3
      have := List.all_eq_true.1 h3 e he
      simpa [hb] using this
  intro n
  induction n with
  | zero =>
    intro listed a w F hJ hn
    have hr : Region.ready .any ops listed = [] := by
      cases h : Region.ready .any ops listed with
      | nil => rfl
      | cons i r =>
        have := open_set (ready_mem (ops := ops) (listed := listed) (i := i) (by rw [h]; simp)).2
        omega
    exact ⟨hr, hend listed a w F hr hJ⟩
  | succ n ih =>
    intro listed a w F hJ hn
    refine ⟨fun hr => hend listed a w F hr hJ, fun i hi => ?_⟩
    have hlt := (ready_mem hi).1
    have ho := Array.getElem?_eq_getElem hlt
    obtain ⟨hl, hdeps⟩ := rdy listed i _ hi ho F.lsz
    have hsee : ASee ops base val i ops[i] a := by
      refine ⟨fun j p d he hp hpd => ?_, fun k hk => F.rest k fun j p hp _ => hk j p hp⟩
      obtain ⟨e, hm, hb, rfl⟩ := he
      exact F.full _ p d hp (hdeps e hm hb) hpd
    obtain ⟨hw, hstep⟩ := hop i _ listed a w ho hsee hl F.lsz hdeps hJ
    refine wpOp_step ho fun K' hK => ?_
    rw [if_pos hw]
    refine hstep K' fun w' hJ' => hK _ _ (ih _ _ _ ?_ hJ' ?_)
    · obtain ⟨d, hd, hdb⟩ := hdst i _ ho
      rw [hd]
      have hb : d < a.tmps.size := by rw [F.len]; exact hdb
      have hli : i < listed.size := by rw [F.lsz]; exact hlt
      refine ⟨by simp [Act.put, F.len], F.defers, by simp [F.lsz], fun j p k hp hj hpk => ?_, fun k hk => ?_⟩
      · rw [getD_setIf _ _ _ hli] at hj
        show (a.tmps.setIfInBounds d (val i)).getD k undef = val j
        rw [getD_put _ _ _ _ hb]
        by_cases e : i = j
        · subst e
          rw [ho] at hp
          cases hp
          rw [hd] at hpk
          cases hpk
          rw [if_pos rfl]
        · rw [if_neg e] at hj
          have hne : d ≠ k := fun q => e (hinj i j _ p ho hp (by rw [hd, hpk, q]))
          rw [if_neg hne]
          exact F.full j p k hp hj hpk
      · show (a.tmps.setIfInBounds d (val i)).getD k undef = _
        rw [getD_put _ _ _ _ hb]
        have hne : d ≠ k := fun q => by
          refine hk i _ ho ?_ (by rw [hd, q])
          rw [getD_setIf _ _ _ hli, if_pos rfl]
        rw [if_neg hne]
        refine F.rest k fun j p hp hj => hk j p hp ?_
        rw [getD_setIf _ _ _ hli]
        split
        · rfl
        · exact hj
    · have := open_set (ready_mem hi).2
      omega

/-- The frame behind a region all of whose operations came up. -/
theorem AFill.eq {ops : Array Oper} {base : Act} {val : Nat → Value} {listed : Array Bool} {a b : Act} (F : AFill ops base val listed a) (hall : ∀ j, j < ops.size → listed.getD j false = true)
    (hb : b.tmps.size = base.tmps.size) (hd : b.defers = base.defers) (hfull : ∀ (j : Nat) (p : Oper) (d : Nat), ops[j]? = some p → p.dst = some d → b.tmps.getD d undef = val j)
    (hrest : ∀ k : Nat, k < base.tmps.size → (∀ (j : Nat) (p : Oper), ops[j]? = some p → p.dst ≠ some k) → b.tmps.getD k undef = base.tmps.getD k undef) : a = b := by
  have ht : a.tmps = b.tmps := by
    apply Array.ext
    · rw [F.len, hb]
    · intro k h1 h2
      have g1 : a.tmps[k] = a.tmps.getD k undef := by simp [h1]
      have g2 : b.tmps[k] = b.tmps.getD k undef := by simp [h2]
      rw [g1, g2]
      by_cases e : ∃ (j : Nat) (p : Oper), ops[j]? = some p ∧ p.dst = some k
      · obtain ⟨j, p, hp, hk⟩ := e
        rw [F.full j p k hp (hall j (Array.getElem?_eq_some_iff.1 hp).1) hk, hfull j p k hp hk]
      · have e2 : ∀ (j : Nat) (p : Oper), ops[j]? = some p → p.dst ≠ some k := fun j p hp hk => e ⟨j, p, hp, hk⟩
        rw [F.rest k (fun j p hp _ => e2 j p hp), hrest k (by rw [← F.len]; exact h1) e2]
  have hdf : a.defers = b.defers := by rw [F.defers, hd]
  cases a; cases b; simp at ht hdf; subst ht; subst hdf; rfl

/-- Slots that are written, one behind the other. -/
def puts : List (Nat × Value) → Act → Act
  | [], a => a
  | (d, v) :: l, a => puts l (a.put (some d) v)
theorem puts_size : ∀ (l : List (Nat × Value)) (a : Act), (puts l a).tmps.size = a.tmps.size
  | [], _ => rfl
  | (d, v) :: l, a => (puts_size l _).trans (by simp [Act.put])
theorem puts_defers : ∀ (l : List (Nat × Value)) (a : Act), (puts l a).defers = a.defers
  | [], _ => rfl
  | (d, v) :: l, a => puts_defers l _
theorem puts_old : ∀ (l : List (Nat × Value)) (a : Act) (k : Nat), (∀ q ∈ l, q.1 ≠ k) → (∀ q ∈ l, q.1 < a.tmps.size) → (puts l a).tmps.getD k undef = a.tmps.getD k undef
  | [], _, _, _, _ => rfl
  | (d, v) :: l, a, k, h, hs => by
    have e : (a.put (some d) v).tmps.size = a.tmps.size := by simp [Act.put]
    rw [puts, puts_old l _ k (fun q hq => h q (by simp [hq])) (fun q hq => by rw [e]; exact hs q (by simp [hq]))]
    show (a.tmps.setIfInBounds d v).getD k undef = _
    rw [getD_put _ _ _ _ (hs (d, v) (by simp)), if_neg (h (d, v) (by simp))]
theorem puts_new : ∀ (l : List (Nat × Value)) (a : Act) (d : Nat) (v : Value), (d, v) ∈ l → (l.map (·.1)).Nodup → (∀ q ∈ l, q.1 < a.tmps.size) → (puts l a).tmps.getD d undef = v
  | [], _, _, _, h, _, _ => by cases h
  | (d', v') :: l, a, d, v, h, hn, hs => by
    have e : (a.put (some d') v').tmps.size = a.tmps.size := by simp [Act.put]
    obtain ⟨n1, n2⟩ := List.nodup_cons.1 hn
    have hs2 : ∀ q ∈ l, q.1 < (a.put (some d') v').tmps.size := fun q hq => by rw [e]; exact hs q (by simp [hq])
    rcases List.mem_cons.1 h with h | h
    · cases h
      rw [puts, puts_old l _ _ (fun q hq he => n1 (List.mem_map.2 ⟨q, hq, he⟩)) hs2]
      refine (getD_put _ _ _ _ ?_).trans (if_pos rfl)
      exact hs (d', v') (List.mem_cons_self ..)
    · rw [puts]
      exact puts_new l _ d v h n2 hs2
/-- The frame behind such a region, its slots told in a list. -/
theorem AFill.puts_eq {ops : Array Oper} {base : Act} {val : Nat → Value} {listed : Array Bool} {a : Act} (F : AFill ops base val listed a) (hall : ∀ j, j < ops.size → listed.getD j false = true) (l : List (Nat × Value))
    (hn : (l.map (·.1)).Nodup) (hs : ∀ q ∈ l, q.1 < base.tmps.size) (hl : ∀ (j : Nat) (p : Oper) (d : Nat), ops[j]? = some p → p.dst = some d → (d, val j) ∈ l) (hk : ∀ q ∈ l, ∃ (j : Nat) (p : Oper), ops[j]? = some p ∧ p.dst = some q.1) : a = puts l base := by
  refine F.eq hall (puts_size _ _) (puts_defers _ _) (fun j p d hp hd => puts_new l base d _ (hl j p d hp hd) hn hs) (fun k _ hno => puts_old l base k (fun q hq e => ?_) hs)
  obtain ⟨j, p, hp, hd⟩ := hk q hq
  exact hno j p hp (by rw [hd, e])

/-- What an operation finds: the slots of those that it follows are filled, the others are as they were. -/
structure Sees (ops : Array Oper) (base : Act) (l : List (Nat × Value)) (o : Oper) (a : Act) : Prop where
  full : ∀ (j d : Nat) (v : Value), l[j]? = some (d, v) → (o.after.toList.any fun e => Region.binds .any e && e.on == j) = true → a.tmps.getD d undef = v
  old : ∀ k : Nat, noDst ops k = true → a.tmps.getD k undef = base.tmps.getD k undef

theorem wpAny_start {P : Program} {ops : Array Oper} {Q : Exit → Act → World → Prop} {base : Act} {w : World} (J : Array Bool → World → Prop) (l : List (Nat × Value))
    (hd : ops.toList.map (·.dst) = l.map fun q => some q.1) (hn : (l.map (·.1)).Nodup) (hs : ∀ q ∈ l, q.1 < base.tmps.size) (hg : ops.toList.all (fun o => o.guard.isNone) = true) (hJ : J (Array.replicate ops.size false) w)
    (hop : ∀ (i d : Nat) (v : Value) (o : Oper) (listed : Array Bool) (a : Act) (w : World), ops[i]? = some o → l[i]? = some (d, v) → Sees ops base l o a → listed.getD i false = false → listed.size = ops.size → (∀ e ∈ o.after.toList, Region.binds .any e = true → listed.getD e.on false = true) → J listed w →
      ∀ K' : Act → World → Prop, (∀ w', J (listed.setIfInBounds i true) w' → K' (a.put (some d) v) w') → Oper.wp P o a w K' Q)
    (hend : ∀ (listed : Array Bool) (w : World), (∀ j, j < ops.size → listed.getD j false = true) → J listed w → Q .normal (puts l base) w)
    (hr : ∀ listed : Array Bool, listed.size = ops.size → Region.ready .any ops listed = [] → ∀ j, j < ops.size → listed.getD j false = true) :
    wpAny P .any ops Q ops.size (Array.replicate ops.size false) base w := by
  have hsz : l.length = ops.size := by
    have h := congrArg List.length hd
    rw [List.length_map, List.length_map, Array.length_toList] at h
    exact h.symm
  have hdl : ∀ (i : Nat) (o : Oper), ops[i]? = some o → ∃ d v, l[i]? = some (d, v) ∧ o.dst = some d := by
    intro i o ho
    have hi := (Array.getElem?_eq_some_iff.1 ho).1
    have h1 := congrArg (·[i]?) hd
    simp only [List.getElem?_map, Array.getElem?_toList, ho] at h1
    have h2 : l[i]? = some (l[i]'(by omega)) := List.getElem?_eq_getElem (by omega)
    rw [h2] at h1
    exact ⟨l[i].1, l[i].2, h2, by simpa using h1⟩
  have hval : ∀ (i d : Nat) (v : Value), l[i]? = some (d, v) → (l.getD i (0, undef)).2 = v := fun i d v h => by rw [List.getD_eq_getElem?_getD, h]; rfl
  have hno : open_ (Array.replicate ops.size false) ≤ ops.size := by
    unfold open_
    have := List.length_filter_le (fun b => !b) (Array.replicate ops.size false).toList
    simp
  have hf : ∀ j, (Array.replicate ops.size false).getD j false = false := fun j => by
    rw [Array.getD_eq_getD_getElem?, Array.getElem?_replicate]
    split <;> rfl
  refine wpAny_fill (base := base) (val := fun i => (l.getD i (0, undef)).2) J ?_ ?_ ?_ ?_ ops.size _ base w ?_ hJ hno
  · intro i o ho
    obtain ⟨d, v, h1, h2⟩ := hdl i o ho
    exact ⟨d, h2, hs _ (List.mem_of_getElem? h1)⟩
  · intro i j o p ho hp e
    obtain ⟨d, v, h1, h2⟩ := hdl i o ho
    obtain ⟨d', v', h3, h4⟩ := hdl j p hp
    have : d = d' := by rw [h2, h4] at e; exact Option.some.inj e
    subst this
    have hi : i < (l.map (·.1)).length := by rw [List.length_map]; exact (List.getElem?_eq_some_iff.1 h1).1
    have g1 : (l.map (·.1))[i]? = some d := by rw [List.getElem?_map, h1]; rfl
    have g2 : (l.map (·.1))[j]? = some d := by rw [List.getElem?_map, h3]; rfl
    exact (List.getElem?_inj hi hn).1 (g1.trans g2.symm)
  · intro i o listed a w ho hsee hl hls hdeps hJ
    refine ⟨?_, fun K' hK' => ?_⟩
    · have := List.all_eq_true.1 hg o (by rw [← Array.getElem?_toList] at ho; exact List.mem_of_getElem? ho)
      unfold Region.wanted
      cases hgo : o.guard with
      | none => rfl
      | some q => rw [hgo] at this; cases this
    · obtain ⟨d, v, h1, h2⟩ := hdl i o ho
      refine hop i d v o listed a w ho h1 ⟨fun j d' v' hj ha => ?_, fun k hk => hsee.old k hk⟩ hl hls hdeps hJ K' (fun w' h => ?_)
      · obtain ⟨e, hm, hb⟩ := List.any_eq_true.1 ha
        simp only [Bool.and_eq_true] at hb
        have ej : e.on = j := eq_of_beq hb.2
        have hjs : j < ops.size := by have := (List.getElem?_eq_some_iff.1 hj).1; omega
        obtain ⟨d2, v2, h3, h4⟩ := hdl j _ (Array.getElem?_eq_getElem hjs)
        rw [hj] at h3
        cases h3
        rw [hsee.full j _ d' ⟨e, hm, hb.1, ej⟩ (Array.getElem?_eq_getElem hjs) h4, hval j d' v' hj]
      · have := hK' w' h
        rw [h2] at this
        simp only [hval i d v h1] at this
        exact this
  · intro listed a w F hrd hJ
    have hall := hr listed F.lsz hrd
    rw [F.puts_eq hall l hn hs (fun j p d hp hpd => ?_) (fun q hq => ?_)]
    · exact hend listed w hall hJ
    · obtain ⟨d2, v2, h3, h4⟩ := hdl j p hp
      rw [hpd] at h4
      cases h4
      rw [hval j d v2 h3]
      exact List.mem_of_getElem? h3
    · obtain ⟨j, hj, e⟩ := List.mem_iff_getElem.1 hq
      have hjs : j < ops.size := by omega
      obtain ⟨d2, v2, h3, h4⟩ := hdl j _ (Array.getElem?_eq_getElem hjs)
      rw [List.getElem?_eq_getElem hj, e] at h3
      cases h3
      exact ⟨j, _, Array.getElem?_eq_getElem hjs, h4⟩
  · exact ⟨rfl, rfl, by simp, fun j p d hp hj => (by rw [hf j] at hj; exact absurd hj (by simp)), fun k hk => rfl⟩

/-- All have come up where nothing may: each follows those ahead of it. -/
theorem all_up {ops : Array Oper} (hback : (List.range ops.size).all (fun i => ((ops[i]?).map fun o => o.after.toList.all fun e => !Region.binds .any e || decide (e.on < i)).getD false) = true) (listed : Array Bool) (hls : listed.size = ops.size) (hr : Region.ready .any ops listed = []) : ∀ j, j < ops.size → listed.getD j false = true := by
  intro j
  induction j using Nat.strongRecOn with
  | _ j ih =>
    intro hj
    cases hl : listed.getD j false with
    | true => rfl
    | false =>
      exfalso
      have hm : j ∈ Region.ready .any ops listed := by
        unfold Region.ready
        refine List.mem_filter.2 ⟨List.mem_range.2 hj, ?_⟩
        have h1 := List.all_eq_true.1 hback j (List.mem_range.2 hj)
        have ho := Array.getElem?_eq_getElem hj
        rw [ho] at h1 ⊢
        simp only [Option.map_some, Option.getD_some, Bool.and_eq_true] at h1 ⊢
        refine ⟨?_, ?_⟩
        · have : listed.getD j true = false := by
            rw [Array.getD_eq_getD_getElem?] at hl ⊢
            rw [Array.getElem?_eq_getElem (by omega)] at hl ⊢
            exact hl
          rw [this]; rfl
        · rw [← Array.all_toList]
          refine List.all_eq_true.2 fun e he => ?_
          have h2 := List.all_eq_true.1 h1 e he
          cases hb : Region.binds .any e with
          | false => simp
          | true =>
            rw [hb] at h2
            simp at h2
            simp [ih e.on h2 (by omega)]
      rw [hr] at hm
      cases hm
end Go.Px

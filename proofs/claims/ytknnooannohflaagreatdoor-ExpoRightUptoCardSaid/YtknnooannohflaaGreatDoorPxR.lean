/- Regions whose order is open: whatever the order, the same comes of them. -/
import Derived.Test.YtknnooannohflaaGreatDoorPxU
namespace Go.Px
open Go.RowKit
set_option linter.unusedVariables false

section
variable {ops : Array Oper}

structure RegOK (ops : Array Oper) : Prop where
  uniq : ∀ (i k : Nat) d, dstOf ops i = some d → dstOf ops k = some d → i = k
  back : ∀ (k : Nat) o, ops[k]? = some o → ∀ e ∈ o.after, Region.binds .any e = true → e.on < k
  sel : ∀ (k : Nat) o cs b, ops[k]? = some o → o.op ≠ .select cs b
  sep : ∀ (k i : Nat) o p, ops[k]? = some o → ops[i]? = some p → i ≠ k → dirEdge i o = true ∨ dirEdge k p = true ∨ ∀ d, p.dst = some d → d ∉ o.looksAt ops

theorem filterMap_uniq : ∀ (l : List Oper), (l.filterMap (·.dst)).Nodup → ∀ (i k : Nat) d, (l[i]?).bind (·.dst) = some d → (l[k]?).bind (·.dst) = some d → i = k
  | [], _, i, k, d, hi, _ => by simp at hi
  | o :: l, hn, i, k, d, hi, hk => by
    cases ho : o.dst with
    | none =>
      simp only [List.filterMap_cons, ho] at hn
      cases i with
      | zero => simp [ho] at hi
      | succ i => cases k with
        | zero => simp [ho] at hk
        | succ k => rw [filterMap_uniq l hn i k d (by simpa using hi) (by simpa using hk)]
    | some x =>
      simp only [List.filterMap_cons, ho, List.nodup_cons] at hn
      have hmem : ∀ j : Nat, (l[j]?).bind (fun q : Oper => q.dst) = some x → False := fun j hj => by
        apply hn.1
        cases hl : l[j]? with
        | none => simp [hl] at hj
        | some q => simp [hl] at hj; exact List.mem_filterMap.2 ⟨q, List.mem_of_getElem? hl, hj⟩
      cases i with
      | zero =>
        simp [ho] at hi
        subst hi
        cases k with
        | zero => rfl
        | succ k => exact (hmem k (by simpa using hk)).elim
      | succ i => cases k with
        | zero => simp [ho] at hk; subst hk; exact (hmem i (by simpa using hi)).elim
        | succ k => rw [filterMap_uniq l hn.2 i k d (by simpa using hi) (by simpa using hk)]

theorem regionOK_spec (h : regionOK ops = true) : RegOK ops := by
  simp only [regionOK, Bool.and_eq_true, List.all_eq_true, List.mem_range] at h
  obtain ⟨h1, h2⟩ := h
  have lt : ∀ {k : Nat} {o : Oper}, ops[k]? = some o → k < ops.size := fun e => (Array.getElem?_eq_some_iff.1 e).1
  refine ⟨fun i k d hi hk => ?_, fun k o hk e he hb => ?_, fun k o cs b hk e => ?_, fun k i o p hk hi hne => ?_⟩
  · exact filterMap_uniq ops.toList (nodupB_spec h1) i k d (by simpa [dstOf] using hi) (by simpa [dstOf] using hk)
  · have := h2 k (lt hk)
    simp only [hk, Bool.and_eq_true, List.all_eq_true] at this
    have := this.1.1 e (by simpa using he)
    simp [hb] at this
    exact this
  · have := h2 k (lt hk)
    simp only [hk, Bool.and_eq_true] at this
    have := this.1.2
    rw [e] at this
    cases this
  · have := h2 k (lt hk)
    simp only [hk, Bool.and_eq_true, List.all_eq_true, List.mem_range] at this
    have := this.2 i (lt hi)
    simp only [hi, Bool.or_eq_true] at this
    rcases this with (h3 | h3) | h3
    · exact absurd (Nat.eq_of_beq_eq_true h3) hne
    · exact .inl h3
    · rcases h3 with h3 | h3
      · exact .inr (.inl h3)
      · refine .inr (.inr fun d hd hm => ?_)
        rw [hd] at h3
        simp only [Bool.not_eq_true', List.any_eq_false] at h3
        have := h3 d hm
        simp at this

theorem dirEdge_iff {i : Nat} {o : Oper} : dirEdge i o = true ↔ ∃ e ∈ o.after, Region.binds .any e = true ∧ e.on = i := by
  simp only [dirEdge, List.any_eq_true, Bool.and_eq_true]
  constructor
  · rintro ⟨e, he, hb, hi⟩; exact ⟨e, by simpa using he, hb, Nat.eq_of_beq_eq_true hi⟩
  · rintro ⟨e, he, hb, rfl⟩; exact ⟨e, by simpa using he, hb, Nat.beq_refl _⟩

/-- What has been carried out holds all that it hangs on. -/
def Closed (ops : Array Oper) (l : Array Bool) : Prop := l.size = ops.size ∧ ∀ (k : Nat) o, ops[k]? = some o → l.getD k false = true → ∀ i, dirEdge i o = true → l.getD i false = true

def In (l : Array Bool) (k : Nat) : Prop := l.getD k false = true

theorem in_set {l : Array Bool} {i k : Nat} (hi : i < l.size) : In (l.setIfInBounds i true) k ↔ k = i ∨ In l k := by
  unfold In
  by_cases h : k = i
  · subst h; simp [hi]
  · have : (l.setIfInBounds i true).getD k false = l.getD k false := by simp [Array.getElem?_setIfInBounds_ne (Ne.symm h)]
    rw [this]; simp [h]

theorem ready_iff {l : Array Bool} {i : Nat} (hs : l.size = ops.size) : i ∈ Region.ready .any ops l ↔ ¬ In l i ∧ ∃ o, ops[i]? = some o ∧ ∀ j, dirEdge j o = true → In l j := by
  rw [mem_ready]
  constructor
  · rintro ⟨h0, o, ho, hall⟩
    have hlt : i < l.size := by rw [hs]; exact (Array.getElem?_eq_some_iff.1 ho).1
    refine ⟨fun hin => ?_, o, ho, fun j hj => ?_⟩
    · unfold In at hin; simp [hlt] at h0 hin; rw [h0] at hin; cases hin
    · obtain ⟨e, he, hb, rfl⟩ := dirEdge_iff.1 hj; exact hall e he hb
  · rintro ⟨h0, o, ho, hall⟩
    have hlt : i < l.size := by rw [hs]; exact (Array.getElem?_eq_some_iff.1 ho).1
    refine ⟨?_, o, ho, fun e he hb => hall e.on (dirEdge_iff.2 ⟨e, he, hb, rfl⟩)⟩
    unfold In at h0
    simp [hlt] at h0 ⊢
    exact h0

theorem ready_nil (R : RegOK ops) {l : Array Bool} (hs : l.size = ops.size) (h : Region.ready .any ops l = []) : ∀ k, k < ops.size → In l k := by
  intro k
  induction k using Nat.strongRecOn with
  | _ k ih =>
    intro hk
    by_cases hin : In l k
    · exact hin
    · exfalso
      have : k ∈ Region.ready .any ops l := (ready_iff hs).2 ⟨hin, ops[k], Array.getElem?_eq_getElem hk, fun j hj => by
        obtain ⟨e, he, hb, rfl⟩ := dirEdge_iff.1 hj
        have hlt := R.back k _ (Array.getElem?_eq_getElem hk) e he hb
        exact ih e.on hlt (by omega)⟩
      rw [h] at this; cases this

theorem Closed.set {l : Array Bool} {i : Nat} {o : Oper} (c : Closed ops l) (ho : ops[i]? = some o) (hr : ∀ j, dirEdge j o = true → In l j) : Closed ops (l.setIfInBounds i true) := by
  have hi : i < l.size := by rw [c.1]; exact (Array.getElem?_eq_some_iff.1 ho).1
  refine ⟨by simp [c.1], fun k p hp hk j hj => ?_⟩
  have hk' : In (l.setIfInBounds i true) k := hk
  show In (l.setIfInBounds i true) j
  rw [in_set hi] at hk' ⊢
  rcases hk' with rfl | hk'
  · rw [ho] at hp; cases hp; exact .inr (hr j hj)
  · exact .inr (c.2 k p hp hk' j hj)

/-- Who has written a slot. -/
def wr (ops : Array Oper) (l : Array Bool) (t : Nat) : Option Nat := (List.range ops.size).find? fun k => l.getD k false && (dstOf ops k == some t)

theorem wr_some (R : RegOK ops) {l : Array Bool} {t k : Nat} (hk : In l k) (hd : dstOf ops k = some t) : wr ops l t = some k := by
  have hlt : k < ops.size := by
    unfold dstOf at hd
    rcases Nat.lt_or_ge k ops.size with h | h
    · exact h
    · rw [Array.getElem?_eq_none h] at hd; cases hd
  cases h : wr ops l t with
  | none =>
    have := List.find?_eq_none.1 h k (by simpa using hlt)
    unfold In at hk
    simp only [hk, hd] at this
    simp at this
  | some j =>
    have hj := List.find?_some h
    simp only [Bool.and_eq_true, beq_iff_eq] at hj
    rw [R.uniq j k t hj.2 hd]

theorem wr_none {l : Array Bool} {t : Nat} (h : ∀ k, In l k → dstOf ops k ≠ some t) : wr ops l t = none := by
  rw [wr, List.find?_eq_none]
  intro k _
  simp only [Bool.and_eq_true, beq_iff_eq]
  rintro ⟨h1, h2⟩
  exact h k h1 h2

theorem wr_inv {l : Array Bool} {t k : Nat} (h : wr ops l t = some k) : In l k ∧ dstOf ops k = some t := by
  have hj := List.find?_some h
  simp only [Bool.and_eq_true, beq_iff_eq] at hj
  exact hj

def slotV (ops : Array Oper) (a0 : Act) (u : Nat → Value) (l : Array Bool) (t : Nat) : Value :=
  match wr ops l t with
  | some k => u k
  | none => a0.tmps.getD t undef

/-- The activation when l has been carried out. -/
def actOf (ops : Array Oper) (a0 : Act) (u : Nat → Value) (l : Array Bool) : Act :=
  { tmps := ((List.range a0.tmps.size).map (slotV ops a0 u l)).toArray, defers := a0.defers }

theorem actOf_getD (a0 : Act) (u : Nat → Value) (l : Array Bool) (t : Nat) : (actOf ops a0 u l).tmps.getD t undef = if t < a0.tmps.size then slotV ops a0 u l t else undef := by
  simp only [actOf]
  by_cases h : t < a0.tmps.size
  · simp [h]
  · simp [h]

theorem actOf_put (R : RegOK ops) (a0 : Act) (u : Nat → Value) (l : Array Bool) (i : Nat) (o : Oper) (ho : ops[i]? = some o) (hs : l.size = ops.size) (hin : ¬ In l i) (v : Value) :
    (actOf ops a0 u l).put o.dst v = actOf ops a0 (fun k => if k = i then v else u k) (l.setIfInBounds i true) := by
  have hi : i < l.size := by rw [hs]; exact (Array.getElem?_eq_some_iff.1 ho).1
  have hother : ∀ t, o.dst ≠ some t → slotV ops a0 (fun k => if k = i then v else u k) (l.setIfInBounds i true) t = slotV ops a0 u l t := by
    intro t ht
    unfold slotV
    cases hw : wr ops l t with
    | some k =>
      obtain ⟨h1, h2⟩ := wr_inv hw
      rw [wr_some R ((in_set hi).2 (.inr h1)) h2]
      have : k ≠ i := fun e => hin (e ▸ h1)
      simp [this]
    | none =>
      rw [wr_none (fun k hk hd => ?_)]
      rcases (in_set hi).1 hk with rfl | hk
      · simp [dstOf, ho] at hd; exact ht hd
      · have := wr_some R hk hd; rw [hw] at this; cases this
  cases hd : o.dst with
  | none =>
    simp only [Act.put]
    unfold actOf
    congr 2
    apply List.map_congr_left
    intro t _
    exact (hother t (by simp [hd])).symm
  | some d =>
    simp only [Act.put]
    unfold actOf
    congr 1
    apply Array.ext'
    simp only [Array.toList_setIfInBounds]
    apply List.ext_getElem?
    intro t
    rw [List.getElem?_set]
    by_cases hdt : d = t
    · subst hdt
      by_cases hlt : d < a0.tmps.size
      · simp [hlt]
        have : wr ops (l.setIfInBounds i true) d = some i := wr_some R ((in_set hi).2 (.inl rfl)) (by simp [dstOf, ho, hd])
        simp [slotV, this]
      · simp [hlt]
    · simp only [hdt, if_false]
      by_cases hlt : t < a0.tmps.size
      · simp [hlt, hother t (by simp [hd, hdt])]
      · simp [hlt]

/-- Two times at which an operation could be carried out: what it looks at is the same. -/
theorem env_eq (R : RegOK ops) {a0 : Act} {u : Nat → Value} {l l' : Array Bool} {i : Nat} {o : Oper} (ho : ops[i]? = some o) (c : Closed ops l) (c' : Closed ops l')
    (hr : ∀ j, dirEdge j o = true → In l j) (hr' : ∀ j, dirEdge j o = true → In l' j) (hn : ¬ In l i) (hn' : ¬ In l' i) (t : Nat) (ht : t ∈ o.looksAt ops) :
    (actOf ops a0 u l).tmps.getD t undef = (actOf ops a0 u l').tmps.getD t undef := by
  rw [actOf_getD, actOf_getD]
  split
  · unfold slotV
    have key : ∀ {l : Array Bool}, Closed ops l → (∀ j, dirEdge j o = true → In l j) → ¬ In l i → ∀ k, dstOf ops k = some t → (In l k ↔ dirEdge k o = true) := by
      intro l c hr hn k hd
      cases hp : ops[k]? with
      | none => simp [dstOf, hp] at hd
      | some p =>
        have hpd : p.dst = some t := by simpa [dstOf, hp] using hd
        constructor
        · intro hk
          have hki : k ≠ i := fun e => hn (e ▸ hk)
          rcases R.sep i k o p ho hp hki with h | h | h
          · exact h
          · exact absurd (c.2 k p hp hk i h) hn
          · exact absurd ht (h t hpd)
        · exact hr k
    cases hw : wr ops l t with
    | some k =>
      obtain ⟨h1, h2⟩ := wr_inv hw
      have := (key c hr hn k h2).1 h1
      rw [wr_some R ((key c' hr' hn' k h2).2 this) h2]
    | none =>
      rw [wr_none (fun k hk hd => ?_)]
      have := (key c' hr' hn' k hd).1 hk
      have h3 := wr_some R ((key c hr hn k hd).2 this) hd
      rw [hw] at h3; cases h3
  · rfl

theorem eval_env {a a' : Act} {o : Oper} (h : ∀ t ∈ o.looksAt ops, a.tmps.getD t undef = a'.tmps.getD t undef) : ∀ x ∈ o.op.operands, a.eval x = a'.eval x := by
  intro x hx
  cases x with
  | tmp t => exact h t (List.mem_append_left _ (List.mem_filterMap.2 ⟨.tmp t, by simpa using hx, rfl⟩))
  | _ => rfl

theorem wanted_env {a a' : Act} {o : Oper} (h : ∀ t ∈ o.looksAt ops, a.tmps.getD t undef = a'.tmps.getD t undef) (hsz : a.tmps.size = a'.tmps.size) : Region.wanted o (yielded ops a.tmps) = Region.wanted o (yielded ops a'.tmps) := by
  unfold Region.wanted
  cases hg : o.guard with
  | none => rfl
  | some gw =>
    obtain ⟨g, b⟩ := gw
    have : yielded ops a.tmps g = yielded ops a'.tmps g := by
      unfold yielded
      cases ht : (ops[g]?).bind (·.dst) with
      | none => rfl
      | some t =>
        have e := h t (List.mem_append_right _ (by simp [hg, ht]))
        simp only [Option.bind_some]
        rw [Array.getD_eq_getD_getElem?, Array.getD_eq_getD_getElem?] at e
        by_cases hlt : t < a.tmps.size
        · have hlt' : t < a'.tmps.size := hsz ▸ hlt
          simp [hlt, hlt'] at e ⊢
          rw [e]
        · have hlt' : ¬ t < a'.tmps.size := hsz ▸ hlt
          simp [hlt, hlt']
    simp only [this]

end

section
variable {X : Cx} {P : Program} {ops : Array Oper}

/-- What is owed: an operation that is not loud, whose value is known. -/
def Owed (P : Program) (ops : Array Oper) (a0 : Act) (u : Nat → Value) (w : World) (k : Nat) (o : Oper) : Prop :=
  loud P o.op = false ∧ ∀ l, Closed ops l → (∀ j, dirEdge j o = true → In l j) → ¬ In l k →
    (Region.wanted o (yielded ops (actOf ops a0 u l).tmps) = true → ∀ w', SameB (fblk P (actOf ops a0 u l) o) w w' → (execOp (actOf ops a0 u l).eval o).run P w' = .ok (.value (u k)) w') ∧
    (Region.wanted o (yielded ops (actOf ops a0 u l).tmps) = false → u k = undef)

/-- The run has carried out la, the conditions lc. -/
structure Sim (P : Program) (Sg : FuncId → Sig) (Sv : TypeId → Sig) (ops : Array Oper) (X : Cx) (a0 : Act) (K : St → Prop) (u : Nat → Value) (la lc : Array Bool) (n : Nat) (st : St) (w : World) : Prop where
  ca : Closed ops la
  cc : Closed ops lc
  sub : ∀ k, In la k → In lc k
  fits : Fits X st (actOf ops a0 u lc) w
  owed : ∀ (k : Nat) o, ops[k]? = some o → In lc k → ¬ In la k → Owed P ops a0 u w k o
  vcs : vcAny P Sg Sv ops n lc st K

theorem conjAll_mem : ∀ {l : List Nat} {f : Nat → Prop}, conjAll l f → ∀ i ∈ l, f i
  | [], _, _, i, h => by cases h
  | [j], f, h, i, hi => by simp at hi; subst hi; exact h
  | j :: k :: l, f, h, i, hi => by
    rcases List.mem_cons.1 hi with rfl | hi
    · exact h.1
    · exact conjAll_mem h.2 i hi

theorem addrRead_mem {o : Op} {x : Operand} (h : addrRead P o = some x) : x ∈ o.operands := by
  unfold addrRead at h
  split at h
  · cases h; simp [Op.operands]
  · cases h; simp [Op.operands]
  · split at h
    · cases h; simp [Op.operands, Call.operands]
    · cases h
  · split at h
    · cases h; simp [Op.operands]
    · cases h
  · cases h

theorem fblk_env {a a' : Act} {o : Oper} (h : ∀ x ∈ o.op.operands, a.eval x = a'.eval x) : fblk P a o = fblk P a' o := by
  unfold fblk
  split
  · rfl
  · rename_i x heq
    rw [h x (addrRead_mem heq)]

theorem actOf_size (a0 : Act) (u : Nat → Value) (l : Array Bool) : (actOf ops a0 u l).tmps.size = a0.tmps.size := by simp [actOf]

/-- Values of what has not been carried out yet do not matter. -/
theorem actOf_congr {a0 : Act} {u u' : Nat → Value} {l : Array Bool} (h : ∀ k, In l k → u' k = u k) : actOf ops a0 u' l = actOf ops a0 u l := by
  unfold actOf
  congr 2
  apply List.map_congr_left
  intro t _
  unfold slotV
  cases hw : wr ops l t with
  | none => rfl
  | some k => exact h k (wr_inv hw).1

theorem Owed.of_env (R : RegOK ops) {a0 : Act} {u : Nat → Value} {w : World} {k : Nat} {o : Oper} (ho : ops[k]? = some o) (hl : loud P o.op = false) {l : Array Bool} (c : Closed ops l)
    (hr : ∀ j, dirEdge j o = true → In l j) (hn : ¬ In l k)
    (h1 : Region.wanted o (yielded ops (actOf ops a0 u l).tmps) = true → ∀ w', SameB (fblk P (actOf ops a0 u l) o) w w' → (execOp (actOf ops a0 u l).eval o).run P w' = .ok (.value (u k)) w')
    (h2 : Region.wanted o (yielded ops (actOf ops a0 u l).tmps) = false → u k = undef) : Owed P ops a0 u w k o := by
  refine ⟨hl, fun l' c' hr' hn' => ?_⟩
  have henv := env_eq R (a0 := a0) (u := u) ho c c' hr hr' hn hn'
  have hev := eval_env henv
  rw [← execOp_congr o (fun cs b => R.sel k o cs b ho) hev, ← fblk_env hev, ← wanted_env henv (by rw [actOf_size, actOf_size])]
  exact ⟨h1, h2⟩

/-- The condition goes on by one operation that is not loud. -/
theorem Sim.calm (R : RegOK ops) {Sg : FuncId → Sig} {Sv : TypeId → Sig} {a0 : Act} {K : St → Prop} {u : Nat → Value} {la lc : Array Bool} {n : Nat} {st : St} {w : World} (S : Sim P Sg Sv ops X a0 K u la lc (n + 1) st w)
    {i : Nat} {o : Oper} (ho : ops[i]? = some o) (hi : i ∈ Region.ready .any ops lc) (hl : loud P o.op = false)
    (hv : aop P Sg Sv ops o st fun st' => vcAny P Sg Sv ops n (lc.setIfInBounds i true) st' K) :
    ∃ u' st', (∀ k, In lc k → u' k = u k) ∧ Sim P Sg Sv ops X a0 K u' la (lc.setIfInBounds i true) n st' w := by
  obtain ⟨hni, o', ho', hr⟩ := (ready_iff S.cc.1).1 hi
  rw [ho] at ho'; cases ho'
  have hilt : i < lc.size := by rw [S.cc.1]; exact (Array.getElem?_eq_some_iff.1 ho).1
  obtain ⟨h, ρ, F⟩ := S.fits
  obtain ⟨v, h1, h2, st', F', hk⟩ := aop_calm F Sg Sv ops o _ hl hv
  have hu : ∀ k, In lc k → (fun k => if k = i then v else u k) k = u k := fun k hk => by
    have : k ≠ i := fun e => hni (e ▸ hk)
    simp [this]
  have hact := actOf_congr (ops := ops) (a0 := a0) hu
  refine ⟨fun k => if k = i then v else u k, st', hu, S.ca, S.cc.set ho hr, fun k hk => (in_set hilt).2 (.inr (S.sub k hk)), ?_, fun k p hp hkc hka => ?_, hk⟩
  · rw [← actOf_put R a0 u lc i o ho S.cc.1 hni v]; exact F'
  · rcases (in_set hilt).1 hkc with rfl | hkl
    · rw [ho] at hp; cases hp
      refine Owed.of_env R ho hl S.cc hr hni ?_ ?_
      · rw [hact]; simpa using h1
      · rw [hact]; simpa using h2
    · have hne : k ≠ i := fun e => hni (e ▸ hkl)
      obtain ⟨g1, g2⟩ := S.owed k p hp hkl hka
      refine ⟨g1, fun l c hrl hnl => ?_⟩
      have hcongr : ∀ t ∈ p.looksAt ops, (actOf ops a0 (fun k => if k = i then v else u k) l).tmps.getD t undef = (actOf ops a0 u l).tmps.getD t undef := by
        intro t ht
        rw [actOf_getD, actOf_getD]
        split
        · unfold slotV
          cases hw : wr ops l t with
          | none => rfl
          | some j =>
            obtain ⟨hj1, hj2⟩ := wr_inv hw
            have hji : j ≠ i := by
              intro e
              subst e
              have hod : o.dst = some t := by simpa [dstOf, ho] using hj2
              rcases R.sep k j p o hp ho (fun e => hnl (e ▸ hj1)) with h | h | h
              · exact hni (S.cc.2 k p hp hkl j h)
              · exact hnl (c.2 j o ho hj1 k h)
              · exact h t hod ht
            simp [hji]
        · rfl
      have hev := eval_env hcongr
      rw [execOp_congr p (fun cs b => R.sel k p cs b hp) hev, fblk_env hev, wanted_env hcongr (by rw [actOf_size, actOf_size])]
      have := g2 l c hrl hnl
      simpa [hne] using this

def blkOf : Value → Option Nat
  | .pointer (some ad) => some ad.block
  | .map (some r) => some r
  | .slice (some ad) (_ + 1) _ => some ad.block
  | _ => none

theorem fblk_some {a : Act} {o : Oper} {b : Nat} (h : fblk P a o = some b) : ∃ x, addrRead P o.op = some x ∧ blkOf (a.eval x) = some b := by
  unfold fblk at h
  split at h
  · cases h
  · rename_i x hx
    exact ⟨x, hx, h⟩

theorem okAddr_sound {st : St} {h : Hp} {ρ : Nat → Loc} {a : Act} {w : World} (F : FitsAt X h ρ st a w) {tids : List Nat} {y : Operand} (hk : okAddr st.objs tids (ev st y) = true)
    {b : Nat} (hy : blkOf (a.eval y) = some b) : b < w.heap.size ∧ ∀ id ∈ tids, live st.objs ρ id → (ρ id).blk ≠ b := by
  have own : ∀ id1, (!(tids.any (Nat.beq id1))) = true → live st.objs ρ id1 → b = (ρ id1).blk → b < w.heap.size ∧ ∀ id ∈ tids, live st.objs ρ id → (ρ id).blk ≠ b := by
    intro id1 hna hl e
    subst e
    obtain ⟨⟨o, ho⟩, hn⟩ := hl
    refine ⟨ObOK.blk_lt (F.obj id1 _ ho) hn, fun id hm hl' => F.inj id id1 hl' ⟨⟨o, ho⟩, hn⟩ fun e => ?_⟩
    subst e
    simp only [Bool.not_eq_true', List.any_eq_false] at hna
    have := hna id hm
    simp at this
  have fixd : ∀ x v, h b x = some v → b < w.heap.size ∧ ∀ id ∈ tids, live st.objs ρ id → (ρ id).blk ≠ b := fun x v e => by
    refine ⟨F.sub.lt e, fun id _ ⟨⟨o, ho⟩, hn⟩ e' => ?_⟩
    have := (F.obj id o ho).hno hn x
    rw [e', e] at this; cases this
  have key : ∀ s, okAddr st.objs tids s = true → Rep h ρ (a.eval y) s → b < w.heap.size ∧ ∀ id ∈ tids, live st.objs ρ id → (ρ id).blk ≠ b := by
    intro s
    cases s with
    | ptr id1 off =>
      intro hs r
      simp only [okAddr, Bool.and_eq_true] at hs
      rw [r.ptr_inv] at hy
      simp [blkOf] at hy
      have hs2 := hs.2
      split at hs2
      · rename_i o ho; exact own id1 hs.1 ⟨⟨_, ho⟩, (F.obj id1 _ ho).1⟩ hy.symm
      · rename_i kd m ns ho; exact own id1 hs.1 ⟨⟨_, ho⟩, (F.obj id1 _ ho).1⟩ hy.symm
      · cases hs2
    | aptr id1 i =>
      intro hs r
      simp only [okAddr, Bool.and_eq_true] at hs
      rw [r.aptr_inv] at hy
      simp [blkOf] at hy
      have hs2 := hs.2
      split at hs2
      · rename_i o ho; exact own id1 hs.1 ⟨⟨_, ho⟩, (F.obj id1 _ ho).1⟩ hy.symm
      · rename_i kd m ns ho; exact own id1 hs.1 ⟨⟨_, ho⟩, (F.obj id1 _ ho).1⟩ hy.symm
      · cases hs2
    | eptr id1 e i off =>
      intro hs r
      simp only [okAddr, Bool.and_eq_true] at hs
      obtain ⟨hn, hv⟩ := r.eptr_inv
      rw [hv] at hy
      simp [blkOf] at hy
      have hs2 := hs.2
      split at hs2
      · rename_i o ho; exact own id1 hs.1 ⟨⟨_, ho⟩, hn⟩ hy.symm
      · cases hs2
    | osl id1 =>
      intro hs r
      simp only [okAddr, Bool.and_eq_true] at hs
      have hs2 := hs.2
      split at hs2
      · rename_i o ho
        rcases r.osl_inv with ⟨_, p, hv⟩ | ⟨hn, hv⟩
        · rw [hv] at hy; cases p <;> simp [blkOf] at hy
        · rw [hv] at hy
          have : (ρ id1).blk = b := by
            cases hln : (ρ id1).len with
            | zero => rw [hln] at hy; simp [blkOf] at hy
            | succ n => rw [hln] at hy; simpa [blkOf] using hy
          exact own id1 hs.1 ⟨⟨_, ho⟩, hn⟩ this.symm
      · cases hs2
    | omp id1 =>
      intro hs r
      simp only [okAddr, Bool.and_eq_true] at hs
      rw [r.omp_inv] at hy
      simp [blkOf] at hy
      have hs2 := hs.2
      split at hs2
      · rename_i o ho; exact own id1 hs.1 ⟨⟨_, ho⟩, (F.obj id1 _ ho).1⟩ hy.symm
      · cases hs2
    | ref off cells =>
      intro hs r
      cases cells with
      | nil => simp [okAddr] at hs
      | cons c rest =>
        generalize a.eval y = v at r hy
        cases r with
        | pure _ _ hp =>
          cases hp with
          | ref b' base _ _ vs hh hr =>
            simp [blkOf] at hy
            subst hy
            exact fixd _ _ (hh 0 c rfl)
    | slice sz rows tok =>
      intro hs r
      generalize a.eval y = v at r hy
      cases r with
      | pure _ _ hp =>
        cases hp with
        | empty p cap _ _ ht h1 hn => cases p <;> simp [blkOf] at hy
        | slice b' off cap _ _ _ vs hpos hz hh hr ho ht h1 hle =>
          cases rows with
          | nil => simp [blkOf] at hy
          | cons r rs =>
            simp [blkOf] at hy
            subst hy
            have hl := hz 0 r rfl
            have hlt : 0 < r.length := by omega
            exact fixd _ _ (hh 0 r 0 r[0] rfl (List.getElem?_eq_getElem hlt))
    | gd t b s => intro hs r; exact r.not_gd.elim
    | _ => intro hs; simp [okAddr] at hs
  cases y with
  | tmp t =>
    simp only [ev, lget_eq] at hk
    cases hx : st.tmps[t]? with
    | none => simp [hx, okAddr] at hk
    | some s =>
      simp only [hx, Option.getD_some] at hk
      have r := F.tm t s hx
      by_cases hs : ∃ t w x, s = .gd t w x
      · obtain ⟨t', w', x, rfl⟩ := hs
        rcases r with ⟨_, r⟩ | ⟨_, e⟩
        · exact key x (by simpa [okAddr] using hk) r
        · simp only [Act.eval] at hy; rw [e] at hy; simp [undef, blkOf] at hy
      · exact key s hk (r.out fun t w x e => hs ⟨t, w, x, e⟩)
  | const v =>
    have := F.operand [] (by simp) (.const v)
    have hn : ∀ t w x, ev st (.const v) ≠ .gd t w x := by
      intro t w x
      unfold ev
      split <;> first | (simp; done) | (simp_all; done)
    rw [ungd_ne hn] at this
    exact key _ hk this
  | global g => exact key _ hk (.pure _ _ (F.global_rep g))
  | func f => simp [ev, okAddr] at hk

theorem skipG_sound {st : St} {h : Hp} {ρ : Nat → Loc} {a : Act} {w : World} (F : FitsAt X h ρ st a w) : ∀ (n t : Nat) (b : Bool), skipG n st t b = true → a.tmps.getD t undef ≠ .bool b
  | 0, _, _, h => by simp [skipG] at h
  | n + 1, t, b, h => by
    intro e
    simp only [skipG, lget_eq] at h
    cases hx : st.tmps[t]? with
    | none => simp [hx] at h
    | some s =>
      simp only [hx, Option.getD_some] at h
      have r := F.tm t s hx
      split at h
      · rename_i b'
        have := (show Rep _ _ _ _ from r).val_inv
        rw [this] at e
        cases e
        revert h
        cases b <;> simp
      · rename_i t2 w2 x
        rcases r with ⟨r1, _⟩ | ⟨_, r2⟩
        · exact skipG_sound F n t2 w2 h r1
        · rw [r2] at e; simp [undef] at e
      · cases h

theorem skipV_sound {st : St} {h : Hp} {ρ : Nat → Loc} {a : Act} {w : World} (F : FitsAt X h ρ st a w) {y : Operand} (hk : skipV st (ev st y) = true) : blkOf (a.eval y) = none := by
  cases y with
  | tmp t =>
    simp only [ev, lget_eq] at hk
    cases hx : st.tmps[t]? with
    | none => simp [hx, skipV] at hk
    | some s =>
      simp only [hx, Option.getD_some] at hk
      have r := F.tm t s hx
      cases s with
      | gd t' w' x =>
        rcases r with ⟨r1, _⟩ | ⟨_, e⟩
        · exact absurd r1 (skipG_sound F 5 t' w' hk)
        · simp only [Act.eval]; rw [e]; simp [undef, blkOf]
      | _ => simp [skipV] at hk
  | const v =>
    exfalso
    unfold ev at hk
    split at hk <;> simp_all [skipV]
  | global g =>
    exfalso
    simp only [ev] at hk
    rcases globSV_cases g globTab with e | ⟨cs, _, e⟩ <;> rw [e] at hk <;> simp [skipV] at hk
  | func f => simp [ev, skipV] at hk

/-- What is owed is so still behind an operation that is loud. -/
theorem Owed.loud (R : RegOK ops) {a0 : Act} {u u' : Nat → Value} {w w' : World} {k i : Nat} {o p : Oper} (hp : ops[k]? = some p) (ho : ops[i]? = some o) (hki : k ≠ i) {la lc : Array Bool} (cc : Closed ops lc)
    (hkc : In lc k) (hni : ¬ In lc i) (hka : ¬ In la k) (hri : ∀ j, dirEdge j o = true → In la j)
    (hu : ∀ j, j ≠ i → u' j = u j) (g : Owed P ops a0 u w k p)
    (hw : ∀ l, Closed ops l → (∀ j, dirEdge j p = true → In l j) → ¬ In l k → SameB (fblk P (actOf ops a0 u l) p) w w') : Owed P ops a0 u' w' k p := by
  obtain ⟨g1, g2⟩ := g
  refine ⟨g1, fun l c hrl hnl => ?_⟩
  have hcongr : ∀ t ∈ p.looksAt ops, (actOf ops a0 u' l).tmps.getD t undef = (actOf ops a0 u l).tmps.getD t undef := by
    intro t ht
    rw [actOf_getD, actOf_getD]
    split
    · unfold slotV
      cases hwr : wr ops l t with
      | none => rfl
      | some j =>
        obtain ⟨hj1, hj2⟩ := wr_inv hwr
        have hji : j ≠ i := by
          intro e
          have hod : o.dst = some t := by have := hj2; rw [e] at this; simpa [dstOf, ho] using this
          rcases R.sep k i p o hp ho (Ne.symm hki) with h | h | h
          · exact hni (cc.2 k p hp hkc i h)
          · exact hka (hri k h)
          · exact h t hod ht
        exact hu j hji
    · rfl
  have hev := eval_env hcongr
  rw [execOp_congr p (fun cs b => R.sel k p cs b hp) hev, fblk_env hev, wanted_env hcongr (by rw [actOf_size, actOf_size]), hu k hki]
  obtain ⟨e1, e2⟩ := g2 l c hrl hnl
  refine ⟨fun hwt w'' hs => e1 hwt w'' fun b hb => ?_, e2⟩
  rw [hs b hb]
  exact hw l c hrl hnl b hb

theorem find_congr {p q : Nat → Bool} : ∀ (l : List Nat), (∀ k ∈ l, p k = q k) → l.find? p = l.find? q
  | [], _ => rfl
  | x :: xs, h => by
    rw [List.find?_cons, List.find?_cons, h x (by simp), find_congr xs (fun k hk => h k (by simp [hk]))]

theorem put_defers' (a : Act) (d : Option Nat) (v : Value) : (a.put d v).defers = a.defers := by cases d <;> rfl

/-- An operand that nobody writes behind k. -/
theorem addr_env (R : RegOK ops) {a0 : Act} {u : Nat → Value} {l lc : Array Bool} {k : Nat} {p : Oper} (hp : ops[k]? = some p) {y : Operand} (hy : y ∈ p.op.operands) (hnl : noLater ops k y = true)
    (cc : Closed ops lc) (hk : In lc k) (hr : ∀ j, dirEdge j p = true → In l j) : (actOf ops a0 u lc).eval y = (actOf ops a0 u l).eval y := by
  cases y with
  | tmp t =>
    have ht : t ∈ p.looksAt ops := List.mem_append_left _ (List.mem_filterMap.2 ⟨.tmp t, by simpa using hy, rfl⟩)
    simp only [noLater, List.all_eq_true, List.mem_range] at hnl
    have hed : ∀ j, dstOf ops j = some t → dirEdge j p = true := by
      intro j hd
      cases hq : ops[j]? with
      | none => simp [dstOf, hq] at hd
      | some q =>
        have hqd : q.dst = some t := by simpa [dstOf, hq] using hd
        have h1 := hnl j (Array.getElem?_eq_some_iff.1 hq).1
        simp only [hq, hqd, Bool.or_eq_true, Bool.and_eq_true, Bool.not_eq_true'] at h1
        rcases h1 with h1 | ⟨h1, h2⟩
        · simp at h1
        · have hjk : j ≠ k := fun e => by subst e; simp at h2
          rcases R.sep k j p q hp hq hjk with h | h | h
          · exact h
          · rw [h1] at h; cases h
          · exact absurd ht (h t hqd)
    simp only [Act.eval]
    rw [actOf_getD, actOf_getD]
    split
    · unfold slotV
      cases hw : wr ops l t with
      | some j =>
        obtain ⟨_, h2⟩ := wr_inv hw
        rw [wr_some R (cc.2 k p hp hk j (hed j h2)) h2]
      | none =>
        rw [wr_none (fun j hj hd => ?_)]
        have := wr_some R (hr j (hed j hd)) hd
        rw [hw] at this; cases this
    · rfl
  | _ => rfl

/-- A run of an operation, seen from another activation that it cannot tell apart. -/
theorem upon_env {o : Oper} {a a' : Act} {next next' : Act → World → Prop} {Q : Exit → Act → World → Prop} {r : Result Next} (hn : ∀ v w, next (a.put o.dst v) w → next' (a'.put o.dst v) w)
    (hd : ∀ d w, next ({ a with defers := d :: a.defers }.put o.dst undef) w → next' ({ a' with defers := d :: a'.defers }.put o.dst undef) w)
    (hq : ∀ c w, Q (.panic c) a w → Q (.panic c) a' w) (h : o.upon P a next Q r) : o.upon P a' next' Q r := by
  cases r with
  | ok n w =>
    cases n <;> simp only [Oper.upon] at h ⊢
    case value v => exact hn v w h
    case skip => exact hn undef w h
    case defer d => exact hd d w h
    case enter f args =>
      refine Calls.mono h fun e w'' he => ?_
      cases e with
      | returned v => exact hn v w'' he
      | panicked c => exact hq c w'' he
      | outgrown => exact he
    case row row args => exact Rows.mono h fun v w'' he => hn v w'' he
  | halt x w =>
    cases x <;> simp only [Oper.upon] at h ⊢
    case panic v => exact hq _ w h

def noPanic (X : Cx) (K : St → Prop) (ops : Array Oper) (a0 : Act) : Exit → Act → World → Prop
  | .normal, a, w => Goes X K a w ∧ Fr (ops.toList.filterMap (·.dst)) a0 a
  | _, _, _ => False

theorem actOf_fr (a0 : Act) (u : Nat → Value) (l : Array Bool) : Fr (ops.toList.filterMap (·.dst)) a0 (actOf ops a0 u l) := by
  intro t ht
  rw [actOf_getD]
  by_cases hlt : t < a0.tmps.size
  · rw [if_pos hlt]
    unfold slotV
    rw [wr_none (fun k _ hd => ht ?_)]
    unfold dstOf at hd
    cases ho : ops[k]? with
    | none => simp [ho] at hd
    | some o => simp [ho] at hd; exact List.mem_filterMap.2 ⟨o, by rw [Array.mem_toList_iff]; exact Array.mem_of_getElem? ho, hd⟩
  · rw [if_neg hlt]
    simp [hlt]

def left (ops : Array Oper) (l : Array Bool) : Nat := ((List.range ops.size).filter fun k => !(l.getD k false)).length

theorem left_set {l : Array Bool} {i : Nat} (hs : l.size = ops.size) (hi : i < ops.size) (hn : ¬ In l i) : left ops (l.setIfInBounds i true) + 1 = left ops l := by
  unfold left
  have key : ∀ (m : List Nat), m.Nodup → i ∈ m → (m.filter fun k => !((l.setIfInBounds i true).getD k false)).length + 1 = (m.filter fun k => !(l.getD k false)).length := by
    intro m
    have hset : ∀ k, (l.setIfInBounds i true).getD k false = if k = i then true else l.getD k false := by
      intro k
      by_cases h : k = i
      · subst h; simp [hs, hi]
      · simp [h, Array.getElem?_setIfInBounds_ne (Ne.symm h)]
    have hni : l.getD i false = false := by simpa [In] using hn
    induction m with
    | nil => intro _ h; cases h
    | cons x xs ih =>
      intro hnd hm
      obtain ⟨hx, hnd'⟩ := List.nodup_cons.1 hnd
      by_cases hxi : x = i
      · subst hxi
        have hrest : (xs.filter fun k => !((l.setIfInBounds x true).getD k false)) = xs.filter fun k => !(l.getD k false) := by
          apply List.filter_congr
          intro k hk
          have : k ≠ x := fun e => hx (e ▸ hk)
          rw [hset, if_neg this]
        rw [List.filter_cons, List.filter_cons, hrest, hset]
        simp [hni]
      · have hm' : i ∈ xs := by
          rcases List.mem_cons.1 hm with e | e
          · exact absurd e.symm hxi
          · exact e
        have := ih hnd' hm'
        rw [List.filter_cons, List.filter_cons, hset, if_neg hxi]
        split <;> simp_all <;> omega
  exact key _ List.nodup_range (by simpa using hi)

theorem sim_any (R : RegOK ops) {Sg : FuncId → Sig} {Sv : TypeId → Sig} {a0 : Act} {K : St → Prop} :
    ∀ (m : Nat) (u : Nat → Value) (la lc : Array Bool) (n : Nat) (st : St) (w : World), Sim P Sg Sv ops X a0 K u la lc n st w → left ops la = m →
      wpAny P .any ops (noPanic X K ops a0) m la (actOf ops a0 u la) w := by
  intro m
  induction m with
  | zero =>
    intro u la lc n st w S hm
    have hall : ∀ k, k < ops.size → In la k := by
      intro k hk
      unfold left at hm
      have := List.length_eq_zero_iff.1 hm
      rw [List.filter_eq_nil_iff] at this
      have := this k (by simpa using hk)
      simpa [In] using this
    have hready : ∀ l : Array Bool, l.size = ops.size → (∀ k, k < ops.size → In l k) → Region.ready .any ops l = [] := by
      intro l hs h
      rw [List.eq_nil_iff_forall_not_mem]
      intro i hi
      obtain ⟨h1, o, ho, _⟩ := (ready_iff hs).1 hi
      exact h1 (h i (Array.getElem?_eq_some_iff.1 ho).1)
    refine ⟨hready la S.ca.1 hall, ?_⟩
    have hc : ∀ k, k < ops.size → In lc k := fun k hk => S.sub k (hall k hk)
    have e : actOf ops a0 u la = actOf ops a0 u lc := by
      unfold actOf
      congr 2
      apply List.map_congr_left
      intro t _
      unfold slotV
      have : wr ops la t = wr ops lc t := by
        unfold wr
        refine find_congr _ fun k hk => ?_
        have hk' : k < ops.size := by simpa using hk
        have e1 : la.getD k false = true := hall k hk'
        have e2 : lc.getD k false = true := hc k hk'
        rw [e1, e2]
      rw [this]
    have hv := S.vcs
    cases n with
    | zero => exact hv.elim
    | succ n =>
      simp only [vcAny, hready lc S.cc.1 hc] at hv
      rw [e]
      exact ⟨⟨st, S.fits, hv⟩, actOf_fr a0 u lc⟩
  | succ m ihm =>
    intro u la lc n st w S hm
    have hne : Region.ready .any ops la ≠ [] := by
      intro h
      have hall := ready_nil R S.ca.1 h
      have : left ops la = 0 := by
        unfold left
        rw [List.length_eq_zero_iff, List.filter_eq_nil_iff]
        intro k hk
        have := hall k (by simpa using hk)
        unfold In at this
        simp [this]
      omega
    refine ⟨fun h => absurd h hne, fun i hi => ?_⟩
    obtain ⟨hni, o, ho, hr⟩ := (ready_iff S.ca.1).1 hi
    have hilt : i < ops.size := (Array.getElem?_eq_some_iff.1 ho).1
    have hila : i < la.size := by rw [S.ca.1]; exact hilt
    have hleft : left ops (la.setIfInBounds i true) = m := by
      have := left_set S.ca.1 hilt hni; omega
    -- the operation is owed, or the condition comes to it
    have owedStep : ∀ (u : Nat → Value) (lc : Array Bool) (n : Nat) (st : St), Sim P Sg Sv ops X a0 K u la lc n st w → In lc i →
        wpOp P ops (noPanic X K ops a0) i (wpAny P .any ops (noPanic X K ops a0) m (la.setIfInBounds i true)) (actOf ops a0 u la) w := by
      intro u lc n st S hic
      obtain ⟨g1, g2⟩ := S.owed i o ho hic hni
      obtain ⟨e1, e2⟩ := g2 la S.ca hr hni
      have hgo : wpAny P .any ops (noPanic X K ops a0) m (la.setIfInBounds i true) ((actOf ops a0 u la).put o.dst (u i)) w := by
        rw [actOf_put R a0 u la i o ho S.ca.1 hni (u i)]
        have : actOf ops a0 (fun k => if k = i then u i else u k) (la.setIfInBounds i true) = actOf ops a0 u (la.setIfInBounds i true) := actOf_congr (fun k _ => by
          by_cases h : k = i
          · subst h; simp
          · simp [h])
        rw [this]
        refine ihm u (la.setIfInBounds i true) lc n st w ⟨S.ca.set ho hr, S.cc, fun k hk => ?_, S.fits, fun k p hp hkc hka => S.owed k p hp hkc (fun h => hka ((in_set hila).2 (.inr h))), S.vcs⟩ hleft
        rcases (in_set hila).1 hk with rfl | hk
        · exact hic
        · exact S.sub k hk
      unfold wpOp
      simp only [ho]
      by_cases hw : Region.wanted o (yielded ops (actOf ops a0 u la).tmps) = true
      · rw [if_pos hw]
        refine .inl ?_
        unfold Oper.wp
        rw [e1 hw w (SameB.refl _ w)]
        exact hgo
      · rw [if_neg hw]
        have hw' : Region.wanted o (yielded ops (actOf ops a0 u la).tmps) = false := by simpa using hw
        rw [← e2 hw']
        exact hgo
    -- the condition goes on till it has come to i
    have main : ∀ (d : Nat) (u : Nat → Value) (lc : Array Bool) (n : Nat) (st : St), left ops lc = d → Sim P Sg Sv ops X a0 K u la lc n st w →
        wpOp P ops (noPanic X K ops a0) i (wpAny P .any ops (noPanic X K ops a0) m (la.setIfInBounds i true)) (actOf ops a0 u la) w := by
      intro d
      induction d using Nat.strongRecOn with
      | _ d ihd =>
        intro u lc n st hd S
        by_cases hic : In lc i
        · exact owedStep u lc n st S hic
        · have hrc : i ∈ Region.ready .any ops lc := (ready_iff S.cc.1).2 ⟨hic, o, ho, fun j hj => S.sub j (hr j hj)⟩
          have hv := S.vcs
          cases n with
          | zero => exact hv.elim
          | succ n =>
            simp only [vcAny] at hv
            split at hv
            · rename_i hnil; rw [hnil] at hrc; cases hrc
            · rename_i i0 r hready
              rw [← hready] at hv
              split at hv
              · rename_i c hfind
                have hcm : c ∈ Region.ready .any ops lc := List.mem_of_find?_eq_some hfind
                have hcl := List.find?_some hfind
                split at hv
                · rename_i oc hoc
                  simp only [hoc, Bool.not_eq_true'] at hcl
                  obtain ⟨u', st', hu, S'⟩ := S.calm R hoc hcm hcl hv
                  have hclt : c < ops.size := (Array.getElem?_eq_some_iff.1 hoc).1
                  have hnc := ((ready_iff S.cc.1).1 hcm).1
                  have hd' := left_set S.cc.1 hclt hnc
                  have := ihd (left ops (lc.setIfInBounds c true)) (by omega) u' _ n st' rfl S'
                  rwa [actOf_congr (fun k hk => hu k (S.sub k hk))] at this
                · exact hv.elim
              · have hvi := conjAll_mem hv i hrc
                simp only [ho] at hvi
                cases hap : apartW P Sg Sv ops lc st i o with
                | false => simp [hap] at hvi
                | true =>
                  simp only [hap, cond_true] at hvi
                  obtain ⟨h, ρ, F⟩ := S.fits
                  have hsound := aop_sound F Sg Sv ops o _ hvi (noPanic X K ops a0)
                  have henv := env_eq R (a0 := a0) (u := u) ho S.cc S.ca (fun j hj => S.sub j (hr j hj)) hr hic hni
                  have hev := eval_env henv
                  have hwe := wanted_env henv (by rw [actOf_size, actOf_size])
                  have hsamew : ∀ (w' : World), (∀ b, b < w.heap.size → ¬ TouchedG Sg Sv ops st ρ o b → w'.heap[b]? = w.heap[b]?) → ∀ k p, ops[k]? = some p → In lc k → ¬ In la k → ∀ l, Closed ops l → (∀ j, dirEdge j p = true → In l j) → ¬ In l k → SameB (fblk P (actOf ops a0 u l) p) w w' := by
                    intro w' hbl k p hp hkc hka l _ hrl _ b hb
                    unfold apartW at hap
                    split at hap
                    · cases hap
                    · rename_i tids htids
                      simp only [Bool.and_eq_true] at hap
                      have hap := (List.all_eq_true.1 hap.2) k (by simpa using (Array.getElem?_eq_some_iff.1 hp).1)
                      simp only [hp, Bool.or_eq_true] at hap
                      obtain ⟨y, hy1, hy2⟩ := fblk_some hb
                      simp only [hy1, Bool.and_eq_true, Bool.or_eq_true] at hap
                      rcases hap with ((h1 | h1) | h1) | h1
                      · exact absurd (Nat.eq_of_beq_eq_true h1) (fun e => hka (e ▸ absurd hkc (e ▸ hic)))
                      · unfold In at hkc; rw [hkc] at h1; cases h1
                      · exact absurd (hr k h1) hka
                      · have hae := addr_env R (a0 := a0) (u := u) hp (addrRead_mem hy1) h1.2 S.cc hkc hrl
                        rw [← hae] at hy2
                        obtain ⟨hlt, hne⟩ := okAddr_sound F (h1.1.resolve_right fun hs => by rw [skipV_sound F hs] at hy2; cases hy2) hy2
                        refine hbl b hlt fun ht => ?_
                        obtain ⟨id, hm, hl, e⟩ := ht tids htids
                        exact hne id hm hl e
                  have go : ∀ (v : Value) (w' : World), After X (fun st' => vcAny P Sg Sv ops n (lc.setIfInBounds i true) st' K) o (actOf ops a0 u lc) w (TouchedG Sg Sv ops st ρ o) ((actOf ops a0 u lc).put o.dst v) w' →
                      wpAny P .any ops (noPanic X K ops a0) m (la.setIfInBounds i true) ((actOf ops a0 u la).put o.dst v) w' := by
                    rintro v w' ⟨⟨st', hF', hvc⟩, _, hsz, hbl⟩
                    have hilc : i < lc.size := by rw [S.cc.1]; exact hilt
                    rw [actOf_put R a0 u lc i o ho S.cc.1 hic v] at hF'
                    rw [actOf_put R a0 u la i o ho S.ca.1 hni v]
                    refine ihm _ _ (lc.setIfInBounds i true) n st' w' ⟨S.ca.set ho hr, S.cc.set ho (fun j hj => S.sub j (hr j hj)), fun k hk => ?_, hF', fun k p hp hkc hka => ?_, hvc⟩ hleft
                    · rcases (in_set hila).1 hk with rfl | hk
                      · exact (in_set hilc).2 (.inl rfl)
                      · exact (in_set hilc).2 (.inr (S.sub k hk))
                    · have hki : k ≠ i := fun e => hka ((in_set hila).2 (.inl e))
                      have hkl : In lc k := ((in_set hilc).1 hkc).resolve_left hki
                      have hkn : ¬ In la k := fun h => hka ((in_set hila).2 (.inr h))
                      exact Owed.loud R hp ho hki S.cc hkl hic hkn hr (fun j hj => by simp [hj]) (S.owed k p hp hkl hkn) (hsamew w' hbl k p hp hkl hkn)
                  unfold wpOp
                  simp only [ho]
                  rw [← hwe]
                  by_cases hw : Region.wanted o (yielded ops (actOf ops a0 u lc).tmps) = true
                  · rw [if_pos hw] at hsound ⊢
                    refine .inl ?_
                    unfold Oper.wp at hsound ⊢
                    rw [← execOp_congr o (fun cs b => R.sel i o cs b ho) hev]
                    refine upon_env (a := actOf ops a0 u lc) (fun v w' hg => go v w' hg) (fun d w' hg => ?_) (fun c w' hg => False.elim hg) hsound
                    obtain ⟨_, ⟨u', e⟩, _⟩ := hg
                    have e1 := congrArg Act.defers e
                    rw [put_defers', put_defers'] at e1
                    exact absurd e1 (by simp)
                  · rw [if_neg hw] at hsound ⊢
                    exact go undef w ⟨hsound, ⟨undef, rfl⟩, Nat.le_refl _, fun _ _ _ => rfl⟩
    exact main _ u lc n st rfl S

/-- A region whose order is open. -/
theorem any_sound (Sg : FuncId → Sig) (Sv : TypeId → Sig) (id : Nat) (ops : Array Oper) (hm : P.follows .mixedOrders = true) (hok : regionOK ops = true) (st : St) (a : Act) (w : World) (F : Fits X st a w) (K : St → Prop)
    (hv : vcAny P Sg Sv ops (ops.size + 1) (Array.replicate ops.size false) st K) (Q : Exit → Act → World → Prop) (hQ : ∀ st a' w, Fits X st a' w → Fr (ops.toList.filterMap (·.dst)) a a' → K st → Q .normal a' w) : (Code.region id ops true).wp P Q a w := by
  have R := regionOK_spec hok
  have hnone : ∀ k, ¬ In (Array.replicate ops.size false) k := fun k h => by
    unfold In at h
    by_cases hk : k < ops.size <;> simp [hk] at h
  have hact : actOf ops a (fun _ => undef) (Array.replicate ops.size false) = a := by
    unfold actOf
    have : ((List.range a.tmps.size).map (slotV ops a (fun _ => undef) (Array.replicate ops.size false))).toArray = a.tmps := by
      apply Array.ext'
      apply List.ext_getElem?
      intro t
      have hw : wr ops (Array.replicate ops.size false) t = none := wr_none (fun k hk => absurd hk (hnone k))
      by_cases ht : t < a.tmps.size
      · simp [ht, slotV, hw]
      · simp [ht]
    rw [this]
  refine wp_mono (wp_region_any (Q := noPanic X K ops a) hm ?_) (fun e a' w h => ?_)
  · have F' : Fits X st a { w with drawn := w.drawn + 1 } := by
      obtain ⟨h, ρ, F⟩ := F
      exact ⟨h, ρ, F.world (fun _ _ => rfl) ⟨F.kp.os, F.kp.tape, F.kp.output, F.kp.size, F.kp.block⟩⟩
    have S : Sim P Sg Sv ops X a K (fun _ => undef) (Array.replicate ops.size false) (Array.replicate ops.size false) (ops.size + 1) st { w with drawn := w.drawn + 1 } :=
      ⟨⟨by simp, fun k _ _ h => absurd h (hnone k)⟩, ⟨by simp, fun k _ _ h => absurd h (hnone k)⟩, fun _ h => h, by rw [hact]; exact F', fun k _ _ h => absurd h (hnone k), hv⟩
    have hl : left ops (Array.replicate ops.size false) = ops.size := by
      unfold left
      rw [List.filter_eq_self.2 (fun k _ => by simpa [In] using hnone k)]
      simp
    have := sim_any R ops.size _ _ _ _ _ _ S hl
    rwa [hact] at this
  · cases e with
    | normal => obtain ⟨⟨st, F, hk⟩, hfr⟩ := h; exact hQ st a' w F hfr hk
    | _ => exact False.elim h

end
end Go.Px

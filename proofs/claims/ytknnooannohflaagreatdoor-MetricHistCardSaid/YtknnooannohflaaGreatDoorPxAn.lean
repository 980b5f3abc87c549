/- Regions whose order is open: an invariant over what is listed. -/
import Derived.Test.YtknnooannohflaaGreatDoorPxB
import Derived.Test.YtknnooannohflaaGreatDoorPxC
namespace Go.Px
set_option linter.unusedVariables false

theorem conjAll_intro {f : Nat → Prop} : ∀ {l : List Nat}, (∀ i ∈ l, f i) → conjAll l f
 | [], _ => trivial
 | [i], h => h i (by simp)
 | i :: j :: is, h => ⟨h i (by simp), conjAll_intro fun k hk => h k (List.mem_cons_of_mem _ hk)⟩

def open_ (listed : Array Bool) : Nat := (listed.toList.filter (fun b => !b)).length

theorem open_set {listed : Array Bool} {i : Nat} (h : listed.getD i true = false) : open_ (listed.setIfInBounds i true) < open_ listed := by
 obtain ⟨l⟩ := listed
 simp only [open_, List.setIfInBounds_toArray]
 rw [Array.getD_eq_getD_getElem?] at h
 simp only [List.getElem?_toArray] at h
 induction l generalizing i with
 | nil => simp at h
 | cons b l ih =>
  cases i with
  | zero =>
   simp at h
   subst h
   simp
  | succ i =>
   have h : (l[i]?).getD true = false := by simpa using h
   have := ih h
   cases b <;> simp at this ⊢ <;> omega

theorem ready_mem {ops : Array Oper} {listed : Array Bool} {i : Nat} (h : i ∈ Region.ready .any ops listed) : i < ops.size ∧ listed.getD i true = false := by
 unfold Region.ready at h
 obtain ⟨h1, h2⟩ := List.mem_filter.1 h
 refine ⟨List.mem_range.1 h1, ?_⟩
 cases hg : listed.getD i true with
 | false => rfl
 | true => rw [hg] at h2; simp at h2

theorem vcAny_inv {P : Program} {Sg : FuncId → Sig} {Sv : TypeId → Sig} {ops : Array Oper} {K : St → Prop} (Inv : Array Bool → St → Prop)
  (hstep : ∀ listed st i o (K' : St → Prop), Inv listed st → i ∈ Region.ready .any ops listed → ops[i]? = some o → (∀ st', Inv (listed.setIfInBounds i true) st' → K' st') → aop P Sg Sv ops o st K')
  (hapart : ∀ listed st i o, Inv listed st → i ∈ Region.ready .any ops listed → ops[i]? = some o → loud P o.op = true → apartW P Sg Sv ops listed st i o = true)
  (hend : ∀ listed st, Inv listed st → Region.ready .any ops listed = [] → K st) :
  ∀ (n : Nat) (listed : Array Bool) (st : St), Inv listed st → open_ listed < n → vcAny P Sg Sv ops n listed st K := by
 intro n
 induction n with
 | zero => intro listed st _ h; omega
 | succ n ih =>
  intro listed st hI hn
  have next : ∀ i ∈ Region.ready .any ops listed, ∀ o, ops[i]? = some o → aop P Sg Sv ops o st fun st' => vcAny P Sg Sv ops n (listed.setIfInBounds i true) st' K := fun i hi o ho =>
   hstep listed st i o _ hI hi ho fun st' hI' => ih _ st' hI' (by have := open_set (ready_mem hi).2; omega)
  unfold vcAny
  split
  ·rename_i e; exact hend listed st hI e
  ·rename_i i0 r e
   split
   ·rename_i i hf
    have hi : i ∈ Region.ready .any ops listed := by rw [e]; exact List.mem_of_find?_eq_some hf
    have hs := (ready_mem hi).1
    rw [Array.getElem?_eq_getElem hs]
    exact next i hi _ (Array.getElem?_eq_getElem hs)
   ·rename_i hf
    refine conjAll_intro fun i hi => ?_
    have hi : i ∈ Region.ready .any ops listed := by rw [e]; exact hi
    have hs := (ready_mem hi).1
    have ho := Array.getElem?_eq_getElem hs
    rw [ho]
    have hl : loud P ops[i].op = true := by
     have := List.find?_eq_none.1 hf i (by rw [← e]; exact hi)
     rw [ho] at this
     simpa using this
    show bif _ then _ else _
    rw [hapart listed st i _ hI hi ho hl, cond_true]
    exact next i hi _ ho


theorem ungdAll_id (d : Nat) : ∀ (l : List SV), (∀ s ∈ l, ∀ t w v, s ≠ .gd t w v) → ungdAll d l = l
 | [], _ => rfl
 | s :: l, h => by
  have h1 : ungdBy d s = s := by
   have := h s (by simp)
   cases s <;> first | rfl | exact absurd rfl (this _ _ _)
  show ungdBy d s :: ungdAll d l = s :: l
  rw [h1, ungdAll_id d l fun x hx => h x (List.mem_cons_of_mem _ hx)]

theorem ungdBy_id {d : Nat} {s : SV} (h : ∀ t w v, s ≠ .gd t w v) : ungdBy d s = s := by
 cases s <;> first | rfl | exact absurd rfl (h _ _ _)

structure Filled (ops : Array Oper) (base : St) (val : Nat → SV) (listed : Array Bool) (st : St) : Prop where
 size : listed.size = ops.size
 closed : ∀ (i : Nat) (o : Oper), ops[i]? = some o → listed.getD i false = true → ∀ e ∈ o.after.toList, Region.binds .any e = true → listed.getD e.on false = true
 objs : st.objs = base.objs
 len : st.tmps.length = base.tmps.length
 full : ∀ (i : Nat) (o : Oper) (d : Nat), ops[i]? = some o → listed.getD i false = true → o.dst = some d → lget st.tmps d = val i
 rest : ∀ k : Nat, (∀ (i : Nat) (o : Oper), ops[i]? = some o → listed.getD i false = true → o.dst ≠ some k) → lget st.tmps k = lget base.tmps k

section
variable {P : Program} {Sg : FuncId → Sig} {Sv : TypeId → Sig} {ops : Array Oper} {base : St} {val : Nat → SV} {K : St → Prop}

theorem Filled.nogd {listed : Array Bool} {st : St} (F : Filled ops base val listed st) (hg0 : ∀ k t w v, lget base.tmps k ≠ .gd t w v) (hgv : ∀ i t w v, val i ≠ .gd t w v) : ∀ s ∈ st.tmps, ∀ t w v, s ≠ .gd t w v := by
 intro s hs t w v e
 obtain ⟨k, hk, rfl⟩ := List.getElem_of_mem hs
 have ek : lget st.tmps k = st.tmps[k] := by rw [lget_eq]; simp [hk]
 by_cases h : ∃ i o, ops[i]? = some o ∧ listed.getD i false = true ∧ o.dst = some k
 ·obtain ⟨i, o, h1, h2, h3⟩ := h
  have := F.full i o k h1 h2 h3
  rw [ek, e] at this
  exact hgv i t w v this.symm
 ·have := F.rest k fun i o h1 h2 h3 => h ⟨i, o, h1, h2, h3⟩
  rw [ek, e] at this
  exact hg0 k t w v this.symm

theorem getD_set {l : Array Bool} {i j : Nat} (hi : i < l.size) : (l.setIfInBounds i true).getD j false = if j = i then true else l.getD j false := by
 rw [Array.getD_eq_getD_getElem?, Array.getD_eq_getD_getElem?, Array.getElem?_setIfInBounds]
 by_cases e : j = i
 ·subst e; simp [hi]
 ·rw [if_neg (fun h => e h.symm), if_neg e]

structure Ready (ops : Array Oper) (base : St) (val : Nat → SV) (listed : Array Bool) (i : Nat) (o : Oper) (st : St) : Prop where
 objs : st.objs = base.objs
 len : st.tmps.length = base.tmps.length
 dep : ∀ (j : Nat) (p : Oper) (d : Nat), dirEdge j o = true → ops[j]? = some p → p.dst = some d → lget st.tmps d = val j
 out : ∀ k : Nat, (∀ (j : Nat) (p : Oper), ops[j]? = some p → p.dst ≠ some k) → lget st.tmps k = lget base.tmps k
 any : ∀ k : Nat, lget st.tmps k = lget base.tmps k ∨ ∃ j : Nat, lget st.tmps k = val j

theorem Filled.any {listed : Array Bool} {st : St} (F : Filled ops base val listed st) (k : Nat) : lget st.tmps k = lget base.tmps k ∨ ∃ j : Nat, lget st.tmps k = val j := by
 by_cases h : ∃ i o, ops[i]? = some o ∧ listed.getD i false = true ∧ o.dst = some k
 ·obtain ⟨i, o, h1, h2, h3⟩ := h
  exact .inr ⟨i, F.full i o k h1 h2 h3⟩
 ·exact .inl (F.rest k fun i o h1 h2 h3 => h ⟨i, o, h1, h2, h3⟩)

theorem vcAny_fill (hdst : ∀ (i : Nat) (o : Oper), ops[i]? = some o → ∃ d, o.dst = some d ∧ d < base.tmps.length)
  (hinj : ∀ (i j : Nat) (o p : Oper), ops[i]? = some o → ops[j]? = some p → o.dst = p.dst → i = j)
  (hback : ∀ (i : Nat) (o : Oper) (e : Edge), ops[i]? = some o → e ∈ o.after.toList → Region.binds .any e = true → e.on < i)
  (hg0 : ∀ k t w v, lget base.tmps k ≠ .gd t w v) (hgv : ∀ i t w v, val i ≠ .gd t w v)
  (hop : ∀ (i : Nat) (o : Oper) (listed : Array Bool) (st : St), ops[i]? = some o → Ready ops base val listed i o st → ∀ K' : St → Prop, K' (st.put o.dst (val i)) → aop P Sg Sv ops o st K')
  (hapart : ∀ (i : Nat) (o : Oper) (listed : Array Bool) (st : St), ops[i]? = some o → Filled ops base val listed st → Ready ops base val listed i o st → loud P o.op = true → apartW P Sg Sv ops listed st i o = true)
  (hK : ∀ st : St, st.objs = base.objs → st.tmps.length = base.tmps.length → (∀ (i : Nat) (o : Oper) (d : Nat), ops[i]? = some o → o.dst = some d → lget st.tmps d = val i) →
   (∀ k : Nat, (∀ (i : Nat) (o : Oper), ops[i]? = some o → o.dst ≠ some k) → lget st.tmps k = lget base.tmps k) → K st) :
  vcAny P Sg Sv ops (ops.size + 1) (Array.replicate ops.size false) base K := by
 have rdy : ∀ listed st i o, Filled ops base val listed st → i ∈ Region.ready .any ops listed → ops[i]? = some o → Ready ops base val listed i o st ∧ (∀ e ∈ o.after.toList, Region.binds .any e = true → listed.getD e.on false = true) := by
  intro listed st i o F hi ho
  have hd : ∀ e ∈ o.after.toList, Region.binds .any e = true → listed.getD e.on false = true := by
   unfold Region.ready at hi
   obtain ⟨_, h2⟩ := List.mem_filter.1 hi
   rw [ho] at h2
   simp only [Bool.and_eq_true, Option.map_some, Option.getD_some] at h2
   intro e he hb
   have h3 := h2.2
   rw [← Array.all_toList] at h3
   have := List.all_eq_true.1 h3 e he
   simpa [hb] using this
  refine ⟨⟨F.objs, F.len, fun j p d he hp hpd => ?_, fun k hk => F.rest k fun j p hp _ => hk j p hp, F.any⟩, hd⟩
  unfold dirEdge at he
  obtain ⟨e, hm, h⟩ := List.any_eq_true.1 he
  simp only [Bool.and_eq_true] at h
  have ej : e.on = j := Nat.eq_of_beq_eq_true h.2
  have := hd e hm h.1
  rw [ej] at this
  exact F.full j p d hp this hpd
 refine vcAny_inv (Filled ops base val) ?_ ?_ ?_ _ _ _ ?_ ?_
 ·intro listed st i o K' F hi ho hK'
  obtain ⟨R, hd⟩ := rdy listed st i o F hi ho
  obtain ⟨d, hod, hdl⟩ := hdst i o ho
  refine hop i o listed st ho R K' (hK' _ ?_)
  have hil : i < listed.size := by rw [F.size]; exact (ready_mem hi).1
  have hput : st.put o.dst (val i) = { st with tmps := st.tmps.set d (val i) } := by
   rw [hod]
   show { st with tmps := lset (ungdAll d st.tmps) d (ungdBy d (val i)) } = _
   rw [ungdAll_id d _ (F.nogd hg0 hgv), ungdBy_id (hgv i), lset_eq]
  rw [hput]
  have hdl' : d < st.tmps.length := by rw [F.len]; exact hdl
  have hget : ∀ k, lget (st.tmps.set d (val i)) k = if k = d then val i else lget st.tmps k := by
   intro k
   rw [lget_eq, lget_eq, List.getElem?_set]
   by_cases e : k = d
   ·subst e; simp [hdl']
   ·rw [if_neg (fun h => e h.symm), if_neg e]
  refine ⟨by rw [Array.size_setIfInBounds]; exact F.size, ?_, F.objs, by simp [F.len], ?_, ?_⟩
  ·intro j p hp hj e he hb
   rw [getD_set hil] at hj ⊢
   by_cases ej : e.on = i
   ·rw [if_pos ej]
   ·rw [if_neg ej]
    by_cases e2 : j = i
    ·subst e2
     rw [ho] at hp; cases hp
     exact hd e he hb
    ·rw [if_neg e2] at hj
     exact F.closed j p hp hj e he hb
  ·intro j p k hp hj hk
   show lget (st.tmps.set d (val i)) k = val j
   rw [hget]
   rw [getD_set hil] at hj
   by_cases e : j = i
   ·subst e
    rw [ho] at hp; cases hp
    rw [hod] at hk; cases hk
    rw [if_pos rfl]
   ·rw [if_neg e] at hj
    have : k ≠ d := fun h => by
     subst h
     exact e (hinj j i p o hp ho (by rw [hk, hod]))
    rw [if_neg this]
    exact F.full j p k hp hj hk
  ·intro k hk
   show lget (st.tmps.set d (val i)) k = _
   have : k ≠ d := fun h => by
    subst h
    exact hk i o ho (by rw [getD_set hil, if_pos rfl]) hod
   rw [hget, if_neg this]
   refine F.rest k fun j p hp hj => hk j p hp ?_
   rw [getD_set hil]
   split
   ·rfl
   ·exact hj
 ·intro listed st i o F hi ho hl
  exact hapart i o listed st ho F (rdy listed st i o F hi ho).1 hl
 ·intro listed st F he
  have all : ∀ i, i < ops.size → listed.getD i false = true := by
   intro i
   induction i using Nat.strongRecOn with
   | ind i ih =>
    intro hi
    cases hl : listed.getD i false with
    | true => rfl
    | false =>
     exfalso
     have ho := Array.getElem?_eq_getElem hi
     have hm : i ∈ Region.ready .any ops listed := by
      unfold Region.ready
      refine List.mem_filter.2 ⟨List.mem_range.2 hi, ?_⟩
      have hil : i < listed.size := by rw [F.size]; exact hi
      have hl2 : listed.getD i true = false := by
       rw [Array.getD_eq_getD_getElem?, Array.getElem?_eq_getElem hil] at hl ⊢
       exact hl
      rw [hl2, ho]
      simp only [Bool.not_false, Bool.true_and, Option.map_some, Option.getD_some]
      rw [← Array.all_toList]
      refine List.all_eq_true.2 fun e hem => ?_
      cases hb : Region.binds .any e with
      | false => rfl
      | true =>
       have hlt := hback i _ e ho hem hb
       rw [ih e.on hlt (by omega)]
       rfl
     rw [he] at hm; cases hm
  exact hK st F.objs F.len (fun i o d ho hd => F.full i o d ho (all i (by
   by_cases h : i < ops.size
   ·exact h
   ·rw [Array.getElem?_eq_none (by omega)] at ho; cases ho)) hd) (fun k hk => F.rest k fun i o ho _ => hk i o ho)
 ·have z : ∀ i, (Array.replicate ops.size false).getD i false = false := by
   intro i
   rw [Array.getD_eq_getD_getElem?, Array.getElem?_replicate]
   split <;> rfl
  refine ⟨by simp, fun i o _ h => (by rw [z] at h; cases h), rfl, rfl, fun i o d _ h => (by rw [z] at h; cases h), fun k _ => rfl⟩
 ·show (List.filter _ (Array.replicate ops.size false).toList).length < ops.size + 1
  have := List.length_filter_le (fun b : Bool => !b) (Array.replicate ops.size false).toList
  simp at this ⊢

end


theorem hmapL_same (g : SV → SV) : ∀ (l : List SV), (∀ s ∈ l, hmap g s = s) → hmapL g l = l
 | [], _ => rfl
 | s :: l, h => by
  show hmap g s :: hmapL g l = s :: l
  rw [h s (by simp), hmapL_same g l fun x hx => h x (List.mem_cons_of_mem _ hx)]

theorem oget_cons1 (id : Nat) (o : Ob) (l : List (Nat × Ob)) : oget ((id, o) :: l) id = some o := by
 show (bif Nat.beq id id then some o else oget l id) = _
 rw [Nat.beq_refl]; rfl
theorem odel_cons (id : Nat) (o : Ob) (l : List (Nat × Ob)) : odel ((id, o) :: l) id = odel l id := by
 show (bif Nat.beq id id then odel l id else (id, o) :: odel l id) = _
 rw [Nat.beq_refl]; rfl

theorem build_plain {st : St} {id sz d : Nat} {rows : List (List SV)} (hd : d < st.tmps.length)
  (h1 : ∀ s ∈ st.tmps, hmap (killG id) s = s) (h2 : ∀ s ∈ st.tmps, hmap (frzG id sz rows) s = s) (hg : ∀ s ∈ st.tmps, ∀ t w v, s ≠ .gd t w v)
  (h3 : hmapO (killG id) (odel st.objs id) = st.objs) (h4 : hmapO (frzG id sz rows) (odel st.objs id) = st.objs) :
  pureOps [.tmp d] ((st.bind id (.own sz rows)).put (some d) (.osl id)) = st.put (some d) (.slice sz rows 0) := by
 have e1 : st.bind id (.own sz rows) = ⟨st.tmps, (id, .own sz rows) :: st.objs⟩ := by
  unfold St.bind St.drop
  rw [hmapL_same _ _ h1, h3]; rfl
 have ep : ∀ (v : SV) (o : List (Nat × Ob)), (∀ t w x, v ≠ .gd t w x) → St.put ⟨st.tmps, o⟩ (some d) v = ⟨st.tmps.set d v, o⟩ := by
  intro v o hv
  show St.mk (lset (ungdAll d st.tmps) d (ungdBy d v)) o = _
  rw [ungdAll_id d _ hg, ungdBy_id hv, lset_eq]
 rw [e1, ep _ _ (by intros; simp), show st = ⟨st.tmps, st.objs⟩ from rfl, ep _ _ (by intros; simp)]
 have ev1 : (St.mk (st.tmps.set d (.osl id)) ((id, .own sz rows) :: st.objs)).val (.tmp d) = .osl id := by
  show ungd [] (lget (st.tmps.set d (.osl id)) d) = _
  rw [lget_eq, List.getElem?_set_self hd]; rfl
 have hx : pureOps [.tmp d] (St.mk (st.tmps.set d (.osl id)) ((id, .own sz rows) :: st.objs)) = (St.mk (st.tmps.set d (.osl id)) ((id, .own sz rows) :: st.objs)).frz id := by
  unfold pureOps
  rw [List.map_cons, ev1, List.map_nil]
  rfl
 have h5 : odel st.objs id = st.objs ∨ True := .inr trivial
 refine hx.trans ?_
 unfold St.frz
 show (match oget ((id, Ob.own sz rows) :: st.objs) id with | some (.own sz rows) => _ | _ => _) = _
 rw [oget_cons1]
 show St.mk (hmapL (frzG id sz rows) (st.tmps.set d (.osl id))) (hmapO (frzG id sz rows) (odel ((id, Ob.own sz rows) :: st.objs) id)) = _
 rw [odel_cons, h4]
 congr 1
 apply List.ext_getElem?
 intro k
 rw [hmapL_getElem?, List.getElem?_set, List.getElem?_set]
 by_cases e : d = k
 ·subst e
  rw [if_pos rfl, if_pos rfl, if_pos hd, if_pos hd]
  show some (hmap (frzG id sz rows) (.osl id)) = _
  show some (bif Nat.beq id id then SV.slice sz rows 0 else .osl id) = _
  rw [Nat.beq_refl]; rfl
 ·rw [if_neg e, if_neg e]
  cases hk : st.tmps[k]? with
  | none => rfl
  | some s =>
   have : s ∈ st.tmps := List.mem_of_getElem? hk
   show some (hmap _ s) = _
   rw [h2 s this]


theorem vc_open {P : Program} {Sg : FuncId → Sig} {Sv : TypeId → Sig} {L : Nat → Option LoopSpec} {id : Nat} {ops : Array Oper} {c : Code} {st : St} {Q : Ex → St → Prop}
  (hf : (P.follows .mixedOrders && regionOK ops) = true) (hL : L (1000000 + id) = none)
  (h : vcAny P Sg Sv ops (ops.size + 1) (Array.replicate ops.size false) st (fun st' => vc P Sg Sv L c st' Q)) : vc P Sg Sv L (.seq (.region id ops true) c) st Q := by
 unfold vc
 unfold vc
 rw [hf, cond_true, hL]
 exact h

def seqs : List Code → Code → Code
 | [], c => c
 | a :: l, c => .seq a (seqs l c)

def thenC (P : Program) (Sg : FuncId → Sig) (Sv : TypeId → Sig) (L : Nat → Option LoopSpec) (c : Code) (Q : Ex → St → Prop) : Ex → St → Prop := fun e st =>
 match e with
 | .normal => vc P Sg Sv L c st Q
 | e => Q e st

theorem vc_seqs (P : Program) (Sg : FuncId → Sig) (Sv : TypeId → Sig) (L : Nat → Option LoopSpec) (c : Code) (Q : Ex → St → Prop) :
  ∀ (l : List Code) (st : St), vc P Sg Sv L (seqs l c) st Q = vc P Sg Sv L (seqs l .skip) st (thenC P Sg Sv L c Q)
 | [], st => by
  show vc P Sg Sv L c st Q = vc P Sg Sv L .skip st (thenC P Sg Sv L c Q)
  conv => rhs; unfold vc
  rfl
 | a :: l, st => by
  show vc P Sg Sv L (.seq a (seqs l c)) st Q = vc P Sg Sv L (.seq a (seqs l .skip)) st (thenC P Sg Sv L c Q)
  conv => lhs; unfold vc
  conv => rhs; unfold vc
  congr 1
  funext e st'
  cases e with
  | normal => exact vc_seqs P Sg Sv L c Q l st'
  | _ => rfl

end Go.Px

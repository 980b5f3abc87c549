/- Regions whose order is open: an invariant over what is listed. -/
import Derived.Test.YtknnooannohflaaDoorPxB
import Derived.RegionTactic
namespace Go.Px
set_option linter.unusedVariables false

def open_ (listed : Array Bool) : Nat := (listed.toList.filter (fun b => !b)).length

theorem Zi5 {listed : Array Bool} {i : Nat} (h : listed.getD i true = false) : open_ (listed.setIfInBounds i true) < open_ listed := by
 obtain ⟨l⟩ := listed; simp only [open_, List.setIfInBounds_toArray]; rw [Array.getD_eq_getD_getElem?] at h; simp only [List.getElem?_toArray] at h
 induction l generalizing i with
 | nil => simp at h
 | cons b l ih =>
  cases i with
  | zero => simp at h; subst h; simp
  | succ i =>
   have h : (l[i]?).getD true = false := (by simpa using h); have := ih h
   cases b <;> simp at this ⊢ <;> omega

theorem Zc4 {ops : Array Oper} {listed : Array Bool} {i : Nat} (h : i ∈ Region.ready .any ops listed) : i < ops.size ∧ listed.getD i true = false := by
 unfold Region.ready at h; obtain ⟨h1, h2⟩ := List.mem_filter.1 h; refine ⟨List.mem_range.1 h1, ?_⟩
 cases hg : listed.getD i true with
 | false => rfl
 | true => rw [hg] at h2; simp at h2

end Go.Px

namespace Go.Px
open Go
set_option linter.unusedVariables false

def noDst (ops : Array Oper) (k : Nat) : Bool := ops.toList.all fun p => !(p.dst == some k)
theorem Zvp {ops : Array Oper} {k : Nat} (h : noDst ops k = true) (j : Nat) (p : Oper) (hp : ops[j]? = some p) : p.dst ≠ some k := by
 unfold noDst at h; have := List.all_eq_true.1 h p (by rw [← Array.getElem?_toList] at hp; exact List.mem_of_getElem? hp)
 simpa using this

structure ASee (ops : Array Oper) (base : Act) (val : Nat → Value) (i : Nat) (o : Oper) (a : Act) : Prop where
 defers : a.defers = base.defers
 full : ∀ (j : Nat) (p : Oper) (d : Nat), (∃ e ∈ o.after.toList, Region.binds .any e = true ∧ e.on = j) → ops[j]? = some p → p.dst = some d → a.tmps.getD d undef = val j
 rest : ∀ k : Nat, (∀ (j : Nat) (p : Oper), ops[j]? = some p → p.dst ≠ some k) → a.tmps.getD k undef = base.tmps.getD k undef

theorem ASee.old {ops : Array Oper} {base : Act} {val : Nat → Value} {i : Nat} {o : Oper} {a : Act} (h : ASee ops base val i o a) (k : Nat) (hk : noDst ops k = true) : a.tmps.getD k undef = base.tmps.getD k undef := h.rest k fun j p hp => Zvp hk j p hp

structure AFill (ops : Array Oper) (base : Act) (val : Nat → Value) (listed : Array Bool) (a : Act) : Prop where
 len : a.tmps.size = base.tmps.size
 defers : a.defers = base.defers
 lsz : listed.size = ops.size
 full : ∀ (j : Nat) (p : Oper) (d : Nat), ops[j]? = some p → listed.getD j false = true → p.dst = some d → a.tmps.getD d undef = val j
 rest : ∀ k : Nat, (∀ (j : Nat) (p : Oper), ops[j]? = some p → listed.getD j false = true → p.dst ≠ some k) → a.tmps.getD k undef = base.tmps.getD k undef

theorem Zan (l : Array Bool) (i j : Nat) (h : i < l.size) : (l.setIfInBounds i true).getD j false = if i = j then true else l.getD j false := by
 simp only [Array.getD_eq_getD_getElem?]; by_cases e : i = j
 ·subst e; rw [if_pos rfl]; simp [h]
 ·rw [if_neg e, Array.getElem?_setIfInBounds_ne e]
theorem Zf7 (t : Array Value) (d k : Nat) (v : Value) (h : d < t.size) : (t.setIfInBounds d v).getD k undef = if d = k then v else t.getD k undef := by
 simp only [Array.getD_eq_getD_getElem?]; by_cases e : d = k
 ·subst e; rw [if_pos rfl]; simp [h]
 ·rw [if_neg e, Array.getElem?_setIfInBounds_ne e]

theorem Zrw {P : Program} {ops : Array Oper} {Q : Exit → Act → World → Prop} {base : Act} {val : Nat → Value} (J : Array Bool → World → Prop)
  (hdst : ∀ (i : Nat) (o : Oper), ops[i]? = some o → ∃ d, o.dst = some d ∧ d < base.tmps.size)
  (hinj : ∀ (i j : Nat) (o p : Oper), ops[i]? = some o → ops[j]? = some p → o.dst = p.dst → i = j)
  (hop : ∀ (i : Nat) (o : Oper) (listed : Array Bool) (a : Act) (w : World), ops[i]? = some o → ASee ops base val i o a → listed.getD i false = false → listed.size = ops.size → (∀ e ∈ o.after.toList, Region.binds .any e = true → listed.getD e.on false = true) → J listed w →
   Region.wanted o (yielded ops a.tmps) = true ∧ ∀ K' : Act → World → Prop, (∀ w', J (listed.setIfInBounds i true) w' → K' (a.put o.dst (val i)) w') → Oper.wp P o a w K' Q)
  (hend : ∀ (listed : Array Bool) (a : Act) (w : World), AFill ops base val listed a → Region.ready .any ops listed = [] → J listed w → Q .normal a w) :
  ∀ (n : Nat) (listed : Array Bool) (a : Act) (w : World), AFill ops base val listed a → J listed w → open_ listed ≤ n → wpAny P .any ops Q n listed a w := by
 have rdy : ∀ listed i o, i ∈ Region.ready .any ops listed → ops[i]? = some o → listed.size = ops.size → listed.getD i false = false ∧ (∀ e ∈ o.after.toList, Region.binds .any e = true → listed.getD e.on false = true) := by
  intro listed i o hi ho hsz; have h1 := Zc4 hi; unfold Region.ready at hi; obtain ⟨_, h2⟩ := List.mem_filter.1 hi; rw [ho] at h2; simp only [Bool.and_eq_true, Option.map_some, Option.getD_some] at h2; refine ⟨?_, fun e he hb => ?_⟩
  ·have h3 := h1.2; simp only [Array.getD_eq_getD_getElem?] at h3 ⊢; rw [Array.getElem?_eq_getElem (by rw [hsz]; exact h1.1)] at h3 ⊢; exact h3
  ·have h3 := h2.2; rw [← Array.all_toList] at h3; have := List.all_eq_true.1 h3 e he
   simpa [hb] using this
 intro n
 induction n with
 | zero =>
  intro listed a w F hJ hn
  have hr : Region.ready .any ops listed = [] := by
   cases h : Region.ready .any ops listed with
   | nil => rfl
   | cons i r => have := Zi5 (Zc4 (ops := ops) (listed := listed) (i := i) (by rw [h]; simp)).2; omega
  exact ⟨hr, hend listed a w F hr hJ⟩
 | succ n ih =>
  intro listed a w F hJ hn; refine ⟨fun hr => hend listed a w F hr hJ, fun i hi => ?_⟩; have hlt := (Zc4 hi).1; have ho := Array.getElem?_eq_getElem hlt; obtain ⟨hl, hdeps⟩ := rdy listed i _ hi ho F.lsz; have hsee : ASee ops base val i ops[i] a := (by refine ⟨F.defers, fun j p d he hp hpd => ?_, fun k hk => F.rest k fun j p hp _ => hk j p hp⟩; obtain ⟨e, hm, hb, rfl⟩ := he; exact F.full _ p d hp (hdeps e hm hb) hpd); obtain ⟨hw, hstep⟩ := hop i _ listed a w ho hsee hl F.lsz hdeps hJ; refine wpOp_step ho fun K' hK => ?_; rw [if_pos hw]; refine hstep K' fun w' hJ' => hK _ _ (ih _ _ _ ?_ hJ' ?_)
  ·obtain ⟨d, hd, hdb⟩ := hdst i _ ho; rw [hd]; have hb : d < a.tmps.size := by rw [F.len]; exact hdb
   have hli : i < listed.size := (by rw [F.lsz]; exact hlt); refine ⟨by simp [Act.put, F.len], F.defers, by simp [F.lsz], fun j p k hp hj hpk => ?_, fun k hk => ?_⟩
   ·rw [Zan _ _ _ hli] at hj; show (a.tmps.setIfInBounds d (val i)).getD k undef = val j; rw [Zf7 _ _ _ _ hb]; by_cases e : i = j
    ·subst e; rw [ho] at hp
     cases hp
     rw [hd] at hpk
     cases hpk
     rw [if_pos rfl]
    ·rw [if_neg e] at hj; have hne : d ≠ k := fun q => e (hinj i j _ p ho hp (by rw [hd, hpk, q])); rw [if_neg hne]; exact F.full j p k hp hj hpk
   ·show (a.tmps.setIfInBounds d (val i)).getD k undef = _; rw [Zf7 _ _ _ _ hb]; have hne : d ≠ k := fun q => by refine hk i _ ho ?_ (by rw [hd, q]); rw [Zan _ _ _ hli, if_pos rfl]
    rw [if_neg hne]; refine F.rest k fun j p hp hj => hk j p hp ?_; rw [Zan _ _ _ hli]
    split
    ·rfl
    ·exact hj
  ·have := Zi5 (Zc4 hi).2; omega

theorem AFill.eq {ops : Array Oper} {base : Act} {val : Nat → Value} {listed : Array Bool} {a b : Act} (F : AFill ops base val listed a) (hall : ∀ j, j < ops.size → listed.getD j false = true)
  (hb : b.tmps.size = base.tmps.size) (hd : b.defers = base.defers) (hfull : ∀ (j : Nat) (p : Oper) (d : Nat), ops[j]? = some p → p.dst = some d → b.tmps.getD d undef = val j)
  (hrest : ∀ k : Nat, k < base.tmps.size → (∀ (j : Nat) (p : Oper), ops[j]? = some p → p.dst ≠ some k) → b.tmps.getD k undef = base.tmps.getD k undef) : a = b := by
 have ht : a.tmps = b.tmps := by
  apply Array.ext
  ·rw [F.len, hb]
  ·intro k h1 h2; have g1 : a.tmps[k] = a.tmps.getD k undef := (by simp [h1]); have g2 : b.tmps[k] = b.tmps.getD k undef := (by simp [h2]); rw [g1, g2]; by_cases e : ∃ (j : Nat) (p : Oper), ops[j]? = some p ∧ p.dst = some k
   ·obtain ⟨j, p, hp, hk⟩ := e; rw [F.full j p k hp (hall j (Array.getElem?_eq_some_iff.1 hp).1) hk, hfull j p k hp hk]
   ·have e2 : ∀ (j : Nat) (p : Oper), ops[j]? = some p → p.dst ≠ some k := fun j p hp hk => e ⟨j, p, hp, hk⟩; rw [F.rest k (fun j p hp _ => e2 j p hp), hrest k (by rw [← F.len]; exact h1) e2]
 have hdf : a.defers = b.defers := by rw [F.defers, hd]
 cases a; cases b; simp at ht hdf; subst ht; subst hdf; rfl

def puts : List (Nat × Value) → Act → Act
 | [], a => a
 | (d, v) :: l, a => puts l (a.put (some d) v)
theorem Zki : ∀ (l : List (Nat × Value)) (a : Act), (puts l a).tmps.size = a.tmps.size
 | [], _ => rfl
 | (d, v) :: l, a => (Zki l _).trans (by simp [Act.put])
theorem Zgr : ∀ (l : List (Nat × Value)) (a : Act), (puts l a).defers = a.defers
 | [], _ => rfl
 | (d, v) :: l, a => Zgr l _
theorem Zi6 : ∀ (l : List (Nat × Value)) (a : Act) (k : Nat), (∀ q ∈ l, q.1 ≠ k) → (∀ q ∈ l, q.1 < a.tmps.size) → (puts l a).tmps.getD k undef = a.tmps.getD k undef
 | [], _, _, _, _ => rfl
 | (d, v) :: l, a, k, h, hs => by have e : (a.put (some d) v).tmps.size = a.tmps.size := (by simp [Act.put]); rw [puts, Zi6 l _ k (fun q hq => h q (by simp [hq])) (fun q hq => by rw [e]; exact hs q (by simp [hq]))]; show (a.tmps.setIfInBounds d v).getD k undef = _; rw [Zf7 _ _ _ _ (hs (d, v) (by simp)), if_neg (h (d, v) (by simp))]
theorem Zmu : ∀ (l : List (Nat × Value)) (a : Act) (d : Nat) (v : Value), (d, v) ∈ l → (l.map (·.1)).Nodup → (∀ q ∈ l, q.1 < a.tmps.size) → (puts l a).tmps.getD d undef = v
 | [], _, _, _, h, _, _ => by cases h
 | (d', v') :: l, a, d, v, h, hn, hs => by
  have e : (a.put (some d') v').tmps.size = a.tmps.size := (by simp [Act.put]); obtain ⟨n1, n2⟩ := List.nodup_cons.1 hn; have hs2 : ∀ q ∈ l, q.1 < (a.put (some d') v').tmps.size := fun q hq => by rw [e]; exact hs q (by simp [hq])
  rcases List.mem_cons.1 h with h | h
  ·cases h
   rw [puts, Zi6 l _ _ (fun q hq he => n1 (List.mem_map.2 ⟨q, hq, he⟩)) hs2]; refine (Zf7 _ _ _ _ ?_).trans (if_pos rfl); exact hs (d', v') (List.mem_cons_self ..)
  ·rw [puts]; exact Zmu l _ d v h n2 hs2
theorem AFill.puts_eq {ops : Array Oper} {base : Act} {val : Nat → Value} {listed : Array Bool} {a : Act} (F : AFill ops base val listed a) (hall : ∀ j, j < ops.size → listed.getD j false = true) (l : List (Nat × Value))
  (hn : (l.map (·.1)).Nodup) (hs : ∀ q ∈ l, q.1 < base.tmps.size) (hl : ∀ (j : Nat) (p : Oper) (d : Nat), ops[j]? = some p → p.dst = some d → (d, val j) ∈ l) (hk : ∀ q ∈ l, ∃ (j : Nat) (p : Oper), ops[j]? = some p ∧ p.dst = some q.1) : a = puts l base := by
 refine F.eq hall (Zki _ _) (Zgr _ _) (fun j p d hp hd => Zmu l base d _ (hl j p d hp hd) hn hs) (fun k _ hno => Zi6 l base k (fun q hq e => ?_) hs); obtain ⟨j, p, hp, hd⟩ := hk q hq; exact hno j p hp (by rw [hd, e])

structure Sees (ops : Array Oper) (base : Act) (l : List (Nat × Value)) (o : Oper) (a : Act) : Prop where
 defers : a.defers = base.defers
 full : ∀ (j d : Nat) (v : Value), l[j]? = some (d, v) → (o.after.toList.any fun e => Region.binds .any e && e.on == j) = true → a.tmps.getD d undef = v
 old : ∀ k : Nat, noDst ops k = true → a.tmps.getD k undef = base.tmps.getD k undef

theorem Zkj {P : Program} {ops : Array Oper} {Q : Exit → Act → World → Prop} {base : Act} {w : World} (J : Array Bool → World → Prop) (l : List (Nat × Value))
  (hd : ops.toList.map (·.dst) = l.map fun q => some q.1) (hn : (l.map (·.1)).Nodup) (hs : ∀ q ∈ l, q.1 < base.tmps.size) (hg : ops.toList.all (fun o => o.guard.isNone) = true) (hJ : J (Array.replicate ops.size false) w)
  (hop : ∀ (i d : Nat) (v : Value) (o : Oper) (listed : Array Bool) (a : Act) (w : World), ops[i]? = some o → l[i]? = some (d, v) → Sees ops base l o a → listed.getD i false = false → listed.size = ops.size → (∀ e ∈ o.after.toList, Region.binds .any e = true → listed.getD e.on false = true) → J listed w →
   ∀ K' : Act → World → Prop, (∀ w', J (listed.setIfInBounds i true) w' → K' (a.put (some d) v) w') → Oper.wp P o a w K' Q)
  (hend : ∀ (listed : Array Bool) (w : World), (∀ j, j < ops.size → listed.getD j false = true) → J listed w → Q .normal (puts l base) w)
  (hr : ∀ listed : Array Bool, listed.size = ops.size → Region.ready .any ops listed = [] → ∀ j, j < ops.size → listed.getD j false = true) :
  wpAny P .any ops Q ops.size (Array.replicate ops.size false) base w := by
 have hsz : l.length = ops.size := (by have h := congrArg List.length hd; rw [List.length_map, List.length_map, Array.length_toList] at h; exact h.symm); have hdl : ∀ (i : Nat) (o : Oper), ops[i]? = some o → ∃ d v, l[i]? = some (d, v) ∧ o.dst = some d := (by intro i o ho; have hi := (Array.getElem?_eq_some_iff.1 ho).1; have h1 := congrArg (·[i]?) hd; simp only [List.getElem?_map, Array.getElem?_toList, ho] at h1; have h2 : l[i]? = some (l[i]'(by omega)) := List.getElem?_eq_getElem (by omega); rw [h2] at h1; exact ⟨l[i].1, l[i].2, h2, by simpa using h1⟩); have hval : ∀ (i d : Nat) (v : Value), l[i]? = some (d, v) → (l.getD i (0, undef)).2 = v := fun i d v h => by rw [List.getD_eq_getElem?_getD, h]; rfl
 have hno : open_ (Array.replicate ops.size false) ≤ ops.size := by unfold open_; have := List.length_filter_le (fun b => !b) (Array.replicate ops.size false).toList; simp
 have hf : ∀ j, (Array.replicate ops.size false).getD j false = false := fun j => by
  rw [Array.getD_eq_getD_getElem?, Array.getElem?_replicate]
  split <;> rfl
 refine Zrw (base := base) (val := fun i => (l.getD i (0, undef)).2) J ?_ ?_ ?_ ?_ ops.size _ base w ?_ hJ hno
 ·intro i o ho; obtain ⟨d, v, h1, h2⟩ := hdl i o ho; exact ⟨d, h2, hs _ (List.mem_of_getElem? h1)⟩
 ·intro i j o p ho hp e; obtain ⟨d, v, h1, h2⟩ := hdl i o ho; obtain ⟨d', v', h3, h4⟩ := hdl j p hp; have : d = d' := by rw [h2, h4] at e; exact Option.some.inj e
  subst this; have hi : i < (l.map (·.1)).length := by rw [List.length_map]; exact (List.getElem?_eq_some_iff.1 h1).1
  have g1 : (l.map (·.1))[i]? = some d := (by rw [List.getElem?_map, h1]; rfl); have g2 : (l.map (·.1))[j]? = some d := (by rw [List.getElem?_map, h3]; rfl); exact (List.getElem?_inj hi hn).1 (g1.trans g2.symm)
 ·intro i o listed a w ho hsee hl hls hdeps hJ; refine ⟨?_, fun K' hK' => ?_⟩
  ·have := List.all_eq_true.1 hg o (by rw [← Array.getElem?_toList] at ho; exact List.mem_of_getElem? ho); unfold Region.wanted
   cases hgo : o.guard with
   | none => rfl
   | some q => rw [hgo] at this; cases this
  ·obtain ⟨d, v, h1, h2⟩ := hdl i o ho; refine hop i d v o listed a w ho h1 ⟨hsee.defers, fun j d' v' hj ha => ?_, fun k hk => hsee.old k hk⟩ hl hls hdeps hJ K' (fun w' h => ?_)
   ·obtain ⟨e, hm, hb⟩ := List.any_eq_true.1 ha; simp only [Bool.and_eq_true] at hb; have ej : e.on = j := eq_of_beq hb.2; have hjs : j < ops.size := by have := (List.getElem?_eq_some_iff.1 hj).1; omega
    obtain ⟨d2, v2, h3, h4⟩ := hdl j _ (Array.getElem?_eq_getElem hjs); rw [hj] at h3
    cases h3
    rw [hsee.full j _ d' ⟨e, hm, hb.1, ej⟩ (Array.getElem?_eq_getElem hjs) h4, hval j d' v' hj]
   ·have := hK' w' h; rw [h2] at this; simp only [hval i d v h1] at this; exact this
 ·intro listed a w F hrd hJ; have hall := hr listed F.lsz hrd; rw [F.puts_eq hall l hn hs (fun j p d hp hpd => ?_) (fun q hq => ?_)]
  ·exact hend listed w hall hJ
  ·obtain ⟨d2, v2, h3, h4⟩ := hdl j p hp; rw [hpd] at h4
   cases h4
   rw [hval j d v2 h3]; exact List.mem_of_getElem? h3
  ·obtain ⟨j, hj, e⟩ := List.mem_iff_getElem.1 hq; have hjs : j < ops.size := (by omega); obtain ⟨d2, v2, h3, h4⟩ := hdl j _ (Array.getElem?_eq_getElem hjs); rw [List.getElem?_eq_getElem hj, e] at h3
   cases h3
   exact ⟨j, _, Array.getElem?_eq_getElem hjs, h4⟩
 ·exact ⟨rfl, rfl, by simp, fun j p d hp hj => (by rw [hf j] at hj; exact absurd hj (by simp)), fun k hk => rfl⟩

theorem Zd8 {ops : Array Oper} (hback : (List.range ops.size).all (fun i => ((ops[i]?).map fun o => o.after.toList.all fun e => !Region.binds .any e || decide (e.on < i)).getD false) = true) (listed : Array Bool) (hls : listed.size = ops.size) (hr : Region.ready .any ops listed = []) : ∀ j, j < ops.size → listed.getD j false = true := by
 intro j
 induction j using Nat.strongRecOn with
 | _ j ih =>
  intro hj
  cases hl : listed.getD j false with
  | true => rfl
  | false =>
   exfalso
   have hm : j ∈ Region.ready .any ops listed := by
    unfold Region.ready; refine List.mem_filter.2 ⟨List.mem_range.2 hj, ?_⟩; have h1 := List.all_eq_true.1 hback j (List.mem_range.2 hj); have ho := Array.getElem?_eq_getElem hj; rw [ho] at h1 ⊢; simp only [Option.map_some, Option.getD_some, Bool.and_eq_true] at h1 ⊢; refine ⟨?_, ?_⟩
    ·have : listed.getD j true = false := (by rw [Array.getD_eq_getD_getElem?] at hl ⊢; rw [Array.getElem?_eq_getElem (by omega)] at hl ⊢; exact hl); rw [this]; rfl
    ·rw [← Array.all_toList]; refine List.all_eq_true.2 fun e he => ?_; have h2 := List.all_eq_true.1 h1 e he
     cases hb : Region.binds .any e with
     | false => simp
     | true => rw [hb] at h2; simp at h2; simp [ih e.on h2 (by omega)]
   rw [hr] at hm
   cases hm

abbrev Told := List (Option (Nat × Value))
structure GFill (ops : Array Oper) (base : Act) (l : Told) (listed : Array Bool) (a : Act) : Prop where
 len : a.tmps.size = base.tmps.size
 defers : a.defers = base.defers
 lsz : listed.size = ops.size
 full : ∀ (j d : Nat) (v : Value), l[j]? = some (some (d, v)) → listed.getD j false = true → a.tmps.getD d undef = v
 rest : ∀ k : Nat, (∀ (j : Nat) (v : Value), l[j]? = some (some (k, v)) → listed.getD j false = false) → a.tmps.getD k undef = base.tmps.getD k undef
structure GSees (base : Act) (l : Told) (o : Oper) (a : Act) : Prop where
 size : a.tmps.size = base.tmps.size
 defers : a.defers = base.defers
 full : ∀ (j d : Nat) (v : Value), l[j]? = some (some (d, v)) → (o.after.toList.any fun e => Region.binds .any e && e.on == j) = true → a.tmps.getD d undef = v
 old : ∀ k : Nat, (l.all fun q => match q with | some p => p.1 != k | none => true) = true → a.tmps.getD k undef = base.tmps.getD k undef
def goPut (q : Option (Nat × Value)) (a : Act) : Act := match q with | some p => a.put (some p.1) p.2 | none => a

theorem GSees.fu {base a : Act} {l : Told} {o : Oper} (h : GSees base l o a) (j d : Nat) {v : Value} (h1 : l[j]? = some (some (d, v))) (h2 : (o.after.toList.any fun e => Region.binds .any e && e.on == j) = true) : a.tmps[d]?.getD undef = v := by
  have := h.full j d v h1 h2; rwa [Array.getD_eq_getD_getElem?] at this
theorem Zi7 {l : Told} (hn : ((l.filterMap id).map (·.1)).Nodup) : ∀ {i j d : Nat} {v u : Value}, l[i]? = some (some (d, v)) → l[j]? = some (some (d, u)) → i = j := by
 induction l with
 | nil => intro i j d v u h; cases h
 | cons q l ih =>
  intro i j d v u h1 h2
  have hmem : ∀ (j : Nat) (u : Value), l[j]? = some (some (d, u)) → d ∈ (l.filterMap id).map (·.1) := fun j u h =>
   List.mem_map.2 ⟨(d, u), List.mem_filterMap.2 ⟨some (d, u), List.mem_of_getElem? h, rfl⟩, rfl⟩
  have hn2 : ((l.filterMap id).map (·.1)).Nodup := by
   cases q with
   | none => simpa using hn
   | some p => exact (List.nodup_cons.1 (by simpa using hn)).2
  have hno : ∀ v', q = some (d, v') → ¬ d ∈ (l.filterMap id).map (·.1) := fun v' e => by subst e; have := (List.nodup_cons.1 (by simpa only [List.filterMap_cons, id, List.map_cons] using hn)).1; exact this
  cases i with
  | zero =>
   cases j with
   | zero => rfl
   | succ j => simp only [List.getElem?_cons_zero, Option.some.injEq, List.getElem?_cons_succ] at h1 h2; exact absurd (hmem j u h2) (hno v h1)
  | succ i =>
   cases j with
   | zero => simp only [List.getElem?_cons_zero, Option.some.injEq, List.getElem?_cons_succ] at h1 h2; exact absurd (hmem i v h1) (hno u h2)
   | succ j => simp only [List.getElem?_cons_succ] at h1 h2; rw [ih hn2 h1 h2]

theorem Ze9 {P : Program} {ops : Array Oper} {Q : Exit → Act → World → Prop} {base : Act} {w : World} (J : Array Bool → World → Prop) (l : Told)
  (hlen : l.length = ops.size) (hn : ((l.filterMap id).map (·.1)).Nodup) (hs : ∀ q ∈ l.filterMap id, q.1 < base.tmps.size)
  (hJ : J (Array.replicate ops.size false) w)
  (hop : ∀ (i : Nat) (o : Oper) (q : Option (Nat × Value)) (listed : Array Bool) (a : Act) (w : World), ops[i]? = some o → l[i]? = some q → GSees base l o a → (∀ k : Nat, (∀ (j : Nat) (v : Value), l[j]? = some (some (k, v)) → listed.getD j false = false) → a.tmps.getD k undef = base.tmps.getD k undef) → listed.getD i false = false → listed.size = ops.size → (∀ e ∈ o.after.toList, Region.binds .any e = true → listed.getD e.on false = true) → J listed w →
   (Region.wanted o (yielded ops a.tmps) = false ∧ q = o.dst.map (fun d => (d, undef)) ∧ J (listed.setIfInBounds i true) w) ∨
   (Region.wanted o (yielded ops a.tmps) = true ∧ ∀ K' : Act → World → Prop, (∀ w', J (listed.setIfInBounds i true) w' → K' (goPut q a) w') → Oper.wp P o a w K' Q))
  (hend : ∀ (listed : Array Bool) (w : World), (∀ j, j < ops.size → listed.getD j false = true) → J listed w → Q .normal (puts (l.filterMap id) base) w)
  (hr : ∀ listed : Array Bool, listed.size = ops.size → Region.ready .any ops listed = [] → ∀ j, j < ops.size → listed.getD j false = true) :
  wpAny P .any ops Q ops.size (Array.replicate ops.size false) base w := by
 have hfl : ∀ {j d : Nat} {v : Value}, l[j]? = some (some (d, v)) → (d, v) ∈ l.filterMap id := fun {j d v} h => List.mem_filterMap.2 ⟨some (d, v), List.mem_of_getElem? h, rfl⟩
 have rdy : ∀ listed i o, i ∈ Region.ready .any ops listed → ops[i]? = some o → listed.size = ops.size → listed.getD i false = false ∧ (∀ e ∈ o.after.toList, Region.binds .any e = true → listed.getD e.on false = true) := by
  intro listed i o hi ho hsz; have h1 := Zc4 hi; unfold Region.ready at hi; obtain ⟨_, h2⟩ := List.mem_filter.1 hi; rw [ho] at h2; simp only [Bool.and_eq_true, Option.map_some, Option.getD_some] at h2; refine ⟨?_, fun e he hb => ?_⟩
  ·have h3 := h1.2; simp only [Array.getD_eq_getD_getElem?] at h3 ⊢; rw [Array.getElem?_eq_getElem (by rw [hsz]; exact h1.1)] at h3 ⊢; exact h3
  ·have h3 := h2.2; rw [← Array.all_toList] at h3; have := List.all_eq_true.1 h3 e he
   simpa [hb] using this
 have fin : ∀ listed a w, GFill ops base l listed a → Region.ready .any ops listed = [] → J listed w → Q .normal a w := by
  intro listed a w F hrd hj; have hall := hr listed F.lsz hrd
  have e : a = puts (l.filterMap id) base := by
   have ht : a.tmps = (puts (l.filterMap id) base).tmps := by
    apply Array.ext
    ·rw [F.len, Zki]
    ·intro k h1 h2; have g1 : a.tmps[k] = a.tmps.getD k undef := (by simp [h1]); have g2 : (puts (l.filterMap id) base).tmps[k] = (puts (l.filterMap id) base).tmps.getD k undef := (by simp [h2]); rw [g1, g2]; by_cases ex : ∃ (j : Nat) (v : Value), l[j]? = some (some (k, v))
     ·obtain ⟨j, v, hj⟩ := ex; have hjs : j < ops.size := by have := (List.getElem?_eq_some_iff.1 hj).1; omega
      rw [F.full j k v hj (hall j hjs), Zmu _ _ k v (hfl hj) hn hs]
     ·rw [F.rest k (fun j v hj => absurd ⟨j, v, hj⟩ ex), Zi6 _ _ k (fun q hq e => ?_) hs]; obtain ⟨q', hq', e'⟩ := List.mem_filterMap.1 hq; obtain ⟨j, hj, rfl⟩ := List.mem_iff_getElem.1 hq'; obtain ⟨d, v⟩ := q; simp only at e; subst e; exact ex ⟨j, v, by rw [List.getElem?_eq_getElem hj]; exact congrArg some e'⟩
   have hd : a.defers = (puts (l.filterMap id) base).defers := by rw [F.defers, Zgr]
   cases a; cases hb : puts (l.filterMap id) base; rw [hb] at ht hd; simp at ht hd; subst ht; subst hd; rfl
  rw [e]; exact hend listed w hall hj
 have main : ∀ (n : Nat) (listed : Array Bool) (a : Act) (w : World), GFill ops base l listed a → J listed w → open_ listed ≤ n → wpAny P .any ops Q n listed a w := by
  intro n
  induction n with
  | zero =>
   intro listed a w F hJ ho
   have hrd : Region.ready .any ops listed = [] := by
    cases h : Region.ready .any ops listed with
    | nil => rfl
    | cons i r => have := Zi5 (Zc4 (ops := ops) (listed := listed) (i := i) (by rw [h]; simp)).2; omega
   exact ⟨hrd, fin listed a w F hrd hJ⟩
  | succ n ih =>
   intro listed a w F hJ hno; refine ⟨fun hrd => fin listed a w F hrd hJ, fun i hi => ?_⟩; have hlt := (Zc4 hi).1; have ho := Array.getElem?_eq_getElem hlt; obtain ⟨hl, hdeps⟩ := rdy listed i _ hi ho F.lsz; have hli : i < listed.size := by rw [F.lsz]; exact hlt
   have hq : l[i]? = some (l[i]'(by omega)) := List.getElem?_eq_getElem (by omega)
   have hsee : GSees base l ops[i] a := by
    refine ⟨F.len, F.defers, fun j d v hj ha => ?_, fun k hk => F.rest k fun j v hj => ?_⟩
    ·obtain ⟨e, hm, hb⟩ := List.any_eq_true.1 ha; simp only [Bool.and_eq_true] at hb; have ej : e.on = j := eq_of_beq hb.2; subst ej; exact F.full _ d v hj (hdeps e hm hb.1)
    ·have := List.all_eq_true.1 hk _ (List.mem_of_getElem? hj); simp at this
   have hop1 : open_ (listed.setIfInBounds i true) ≤ n := by have := Zi5 (Zc4 hi).2; omega
   have gf : GFill ops base l (listed.setIfInBounds i true) (goPut (l[i]'(by omega)) a) := by
    cases hqi : l[i]'(by omega) with
    | none =>
     rw [hqi] at hq; show GFill ops base l _ a; refine ⟨F.len, F.defers, by simp [F.lsz], fun j d v hj hlj => ?_, fun k hk => F.rest k fun j v hj => ?_⟩
     ·rw [Zan _ _ _ hli] at hlj; by_cases e : i = j
      ·subst e; rw [hq] at hj; cases hj
      ·rw [if_neg e] at hlj; exact F.full j d v hj hlj
     ·have := hk j v hj; rw [Zan _ _ _ hli] at this
      split at this
      ·cases this
      ·exact this
    | some p =>
     obtain ⟨d, v⟩ := p; rw [hqi] at hq; have hdb : d < a.tmps.size := by rw [F.len]; exact hs (d, v) (hfl hq)
     show GFill ops base l _ (a.put (some d) v); refine ⟨by simp [Act.put, F.len], F.defers, by simp [F.lsz], fun j k u hj hlj => ?_, fun k hk => ?_⟩
     ·rw [Zan _ _ _ hli] at hlj; show (a.tmps.setIfInBounds d v).getD k undef = u; rw [Zf7 _ _ _ _ hdb]; by_cases e : i = j
      ·subst e; rw [hq] at hj
       cases hj
       rw [if_pos rfl]
      ·rw [if_neg e] at hlj; have hne : d ≠ k := fun q => e (Zi7 hn hq (by rw [q]; exact hj)); rw [if_neg hne]; exact F.full j k u hj hlj
     ·show (a.tmps.setIfInBounds d v).getD k undef = _; rw [Zf7 _ _ _ _ hdb]
      have hne : d ≠ k := fun q => by
       have := hk i v (by rw [← q]; exact hq); rw [Zan _ _ _ hli, if_pos rfl] at this
       cases this
      rw [if_neg hne]; refine F.rest k fun j u hj => ?_; have := hk j u hj; rw [Zan _ _ _ hli] at this
      split at this
      ·cases this
      ·exact this
   refine wpOp_step ho fun K' hK => ?_
   rcases hop i _ _ listed a w ho hq hsee F.rest hl F.lsz hdeps hJ with ⟨hw, hqn, hJ'⟩ | ⟨hw, hstep⟩
   ·rw [if_neg (by rw [hw]; simp)]; refine hK _ _ (ih _ _ _ ?_ hJ' hop1)
    have e : goPut (l[i]'(by omega)) a = a.put ops[i].dst undef := by
     rw [hqn]
     cases ops[i].dst <;> rfl
    rw [← e]; exact gf
   ·rw [if_pos hw]; exact hstep K' fun w' hJ' => hK _ _ (ih _ _ _ gf hJ' hop1)
 have hf : ∀ j, (Array.replicate ops.size false).getD j false = false := fun j => by
  rw [Array.getD_eq_getD_getElem?, Array.getElem?_replicate]
  split <;> rfl
 refine main ops.size _ base w ⟨rfl, rfl, by simp, fun j d v hj h => (by rw [hf j] at h; cases h), fun k hk => rfl⟩ hJ ?_; unfold open_; have := List.length_filter_le (fun b => !b) (Array.replicate ops.size false).toList; simp

theorem Zcc {P : Program} {ops : Array Oper} {Q : Exit → Act → World → Prop} {base : Act} {w : World} (J : Array Bool → World → Prop) (l : Told)
  (hlen : l.length = ops.size) (hn : ((l.filterMap id).map (·.1)).Nodup) (hs : ∀ q ∈ l.filterMap id, q.1 < base.tmps.size)
  (hJ : J (Array.replicate ops.size false) w)
  (hop : ∀ (i : Nat) (o : Oper) (q : Option (Nat × Value)) (listed : Array Bool) (a : Act) (w : World), ops[i]? = some o → l[i]? = some q → GSees base l o a → listed.getD i false = false → listed.size = ops.size → (∀ e ∈ o.after.toList, Region.binds .any e = true → listed.getD e.on false = true) → J listed w →
   (Region.wanted o (yielded ops a.tmps) = false ∧ q = o.dst.map (fun d => (d, undef)) ∧ J (listed.setIfInBounds i true) w) ∨
   (Region.wanted o (yielded ops a.tmps) = true ∧ ∀ K' : Act → World → Prop, (∀ w', J (listed.setIfInBounds i true) w' → K' (goPut q a) w') → Oper.wp P o a w K' Q))
  (hend : ∀ (listed : Array Bool) (w : World), (∀ j, j < ops.size → listed.getD j false = true) → J listed w → Q .normal (puts (l.filterMap id) base) w)
  (hr : ∀ listed : Array Bool, listed.size = ops.size → Region.ready .any ops listed = [] → ∀ j, j < ops.size → listed.getD j false = true) :
  wpAny P .any ops Q ops.size (Array.replicate ops.size false) base w :=
 Ze9 J l hlen hn hs hJ (fun i o q listed a w h1 h2 h3 _ => hop i o q listed a w h1 h2 h3) hend hr
theorem Zqk {ops : Array Oper} {tmps : Array Value} {j d : Nat} {b : Bool} (h : (ops[j]?).bind (·.dst) = some d) (hv : tmps.getD d undef = .bool b) : yielded ops tmps j = some b := by
 unfold yielded; rw [h]
 have : tmps[d]? = some (.bool b) := by
  rw [Array.getD_eq_getD_getElem?] at hv
  cases e : tmps[d]? with
  | none => rw [e] at hv; cases hv
  | some v => rw [e] at hv; exact congrArg some hv
 simp [this]
theorem Zac {ops : Array Oper} {tmps : Array Value} {o : Oper} {j d : Nat} {want : Bool} (hg : o.guard = some (j, want)) (h : (ops[j]?).bind (·.dst) = some d) (_h2 : True = True) (hv : tmps.getD d undef = .bool want) : Region.wanted o (yielded ops tmps) = true := by
 unfold Region.wanted; rw [hg]; show (yielded ops tmps j == some want) = true; rw [Zqk h hv]; simp
theorem Za7 {ops : Array Oper} {tmps : Array Value} {o : Oper} {j d : Nat} {want b : Bool} (hg : o.guard = some (j, want)) (h : (ops[j]?).bind (·.dst) = some d) (_h2 : True = True) (hv : tmps.getD d undef = .bool b) (hne : (b == want) = false) : Region.wanted o (yielded ops tmps) = false := by
 unfold Region.wanted; rw [hg]; show (yielded ops tmps j == some want) = false; rw [Zqk h hv]
 cases b <;> cases want <;> simp_all
theorem tA {P : Program} {o : Oper} {a : Act} {q : Option (Nat × Value)} {y : Nat → Option Bool} {w : World} {Q : Exit → Act → World → Prop} {J' : World → Prop} {N : Prop} (hw : Region.wanted o y = true) (hj : J' w) (h : ∀ K' : Act → World → Prop, K' (goPut q a) w = Oper.wp P o a w K' Q) : N ∨ (Region.wanted o y = true ∧ ∀ K' : Act → World → Prop, (∀ w', J' w' → K' (goPut q a) w') → Oper.wp P o a w K' Q) :=
 .inr ⟨hw, fun K' hK => (h K') ▸ hK w hj⟩

structure J3 (a b c p : Nat) (G : World → Prop) (wA wB wC wD : World) (listed : Array Bool) (w : World) : Prop where
 eq : w = if listed.getD c false = true then wD else if listed.getD b false = true then wC else if listed.getD a false = true then wB else wA
 cb : listed.getD c false = true → listed.getD b false = true
 ba : listed.getD b false = true → listed.getD a false = true
 bp : listed.getD b false = true → listed.getD p false = true
 g : G w
theorem Zh5 (n j : Nat) : (Array.replicate n false).getD j false = false := by
 rw [Array.getD_eq_getD_getElem?, Array.getElem?_replicate]
 split <;> rfl
section
variable {a b c p : Nat} {G : World → Prop} {wA wB wC wD w : World} {listed : Array Bool}
theorem J3.start (n : Nat) (h : G wA) : J3 a b c p G wA wB wC wD (Array.replicate n false) wA := by
 refine ⟨?_, fun h => ?_, fun h => ?_, fun h => ?_, h⟩
 ·rw [Zh5, Zh5, Zh5]; rfl
 ·rw [Zh5] at h; cases h
 ·rw [Zh5] at h; cases h
 ·rw [Zh5] at h; cases h
theorem J3.other (h : J3 a b c p G wA wB wC wD listed w) (i : Nat) (hi : i < listed.size) (h1 : i ≠ a) (h2 : i ≠ b) (h3 : i ≠ c) : J3 a b c p G wA wB wC wD (listed.setIfInBounds i true) w := by
 have e : ∀ j, i ≠ j → (listed.setIfInBounds i true).getD j false = listed.getD j false := fun j hj => by rw [Zan _ _ _ hi, if_neg hj]
 refine ⟨?_, ?_, ?_, ?_, h.g⟩
 ·rw [e c h3, e b h2, e a h1]; exact h.eq
 ·rw [e c h3, e b h2]; exact h.cb
 ·rw [e b h2, e a h1]; exact h.ba
 ·rw [e b h2]; intro hb; rw [Zan _ _ _ hi]
  split
  ·rfl
  ·exact h.bp hb
theorem no_of {x y : Bool} (h : x = true → y = true) (hy : y = false) : x = false := by cases x with | false => rfl | true => rw [h rfl] at hy; cases hy
theorem J3.oth (h : J3 a b c p G wA wB wC wD listed w) (i : Nat) {n : Nat} (hs : listed.size = n) (hd : i < n ∧ i ≠ a ∧ i ≠ b ∧ i ≠ c) : J3 a b c p G wA wB wC wD (listed.setIfInBounds i true) w := h.other i (by rw [hs]; exact hd.1) hd.2.1 hd.2.2.1 hd.2.2.2
theorem J3.first (h : J3 a b c p G wA wB wC wD listed w) (hi : a < listed.size) (hl : listed.getD a false = false) (hab : a ≠ b) (hac : a ≠ c) : w = wA ∧ (G wB → J3 a b c p G wA wB wC wD (listed.setIfInBounds a true) wB) := by
 have hb := no_of h.ba hl; have hc := no_of h.cb hb; have e : ∀ j, a ≠ j → (listed.setIfInBounds a true).getD j false = listed.getD j false := fun j hj => by rw [Zan _ _ _ hi, if_neg hj]
 refine ⟨by rw [h.eq, hc, hb, hl]; rfl, fun g => ⟨?_, ?_, ?_, ?_, g⟩⟩
 ·rw [e c hac, e b hab, hc, hb, Zan _ _ _ hi, if_pos rfl]; rfl
 ·rw [e c hac, hc]; intro q; cases q
 ·rw [e b hab, hb]; intro q; cases q
 ·rw [e b hab, hb]; intro q; cases q
theorem J3.second (h : J3 a b c p G wA wB wC wD listed w) (hi : b < listed.size) (hl : listed.getD b false = false) (ha : listed.getD a false = true) (hp : listed.getD p false = true) (hab : b ≠ a) (hbc : b ≠ c) (hbp : b ≠ p) : w = wB ∧ (G wC → J3 a b c p G wA wB wC wD (listed.setIfInBounds b true) wC) := by
 have hc := no_of h.cb hl; have e : ∀ j, b ≠ j → (listed.setIfInBounds b true).getD j false = listed.getD j false := fun j hj => by rw [Zan _ _ _ hi, if_neg hj]
 refine ⟨by rw [h.eq, hc, hl, ha]; rfl, fun g => ⟨?_, ?_, ?_, ?_, g⟩⟩
 ·rw [e c hbc, hc, Zan _ _ _ hi, if_pos rfl]; rfl
 ·rw [e c hbc, hc]; intro q; cases q
 ·rw [e a hab]; exact fun _ => ha
 ·rw [e p hbp]; exact fun _ => hp
theorem J3.third (h : J3 a b c p G wA wB wC wD listed w) (hi : c < listed.size) (hl : listed.getD c false = false) (hb : listed.getD b false = true) (hca : c ≠ a) (hcb : c ≠ b) (hcp : c ≠ p) : w = wC ∧ (G wD → J3 a b c p G wA wB wC wD (listed.setIfInBounds c true) wD) := by
 have e : ∀ j, c ≠ j → (listed.setIfInBounds c true).getD j false = listed.getD j false := fun j hj => by rw [Zan _ _ _ hi, if_neg hj]
 refine ⟨by rw [h.eq, hl, hb]; rfl, fun g => ⟨?_, ?_, ?_, ?_, g⟩⟩
 ·rw [Zan _ _ _ hi, if_pos rfl]; rfl
 ·rw [e b hcb]; exact fun _ => hb
 ·rw [e b hcb, e a hca]; exact h.ba
 ·rw [e b hcb, e p hcp]; exact h.bp
theorem J3.early (h : J3 a b c p G wA wB wC wD listed w) (hl : listed.getD p false = false) : w = wA ∨ w = wB := by
 have hb := no_of h.bp hl; have hc := no_of h.cb hb; have := h.eq; rw [hc, hb] at this
 cases ha : listed.getD a false with
 | true => rw [ha] at this; exact .inr this
 | false => rw [ha] at this; exact .inl this
theorem J3.done (h : J3 a b c p G wA wB wC wD listed w) (hc : listed.getD c false = true) : w = wD := by rw [h.eq, hc]; rfl
end
end Go.Px

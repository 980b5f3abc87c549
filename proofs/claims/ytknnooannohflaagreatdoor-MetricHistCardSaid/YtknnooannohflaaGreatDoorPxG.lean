/- Handing over: arguments, results, what stands at a loop's head. -/
import Derived.Test.YtknnooannohflaaGreatDoorPxF
namespace Go.Px
open Go.RowKit
set_option linter.unusedVariables false

theorem oget_mem {l : List (Nat × Ob)} {c : Nat} {o : Ob} (e : oget l c = some o) : (c, o) ∈ l := by
 induction l with
 | nil => simp [oget] at e
 | cons x xs ih =>
  obtain ⟨k, p⟩ := x
  rw [oget_cons] at e
  split at e
  ·rename_i h; subst h; cases e; simp
  ·simp [ih e]

def Pulls (ids : List (Option Nat × Nat)) (ρ ρ' : Nat → Loc) : Prop :=
 ∀ p ∈ ids, match p.1 with
  | some id => ρ' p.2 = ρ id
  | none => (ρ' p.2).none = true

theorem Pulls.left {l1 l2 : List (Option Nat × Nat)} {ρ ρ' : Nat → Loc} (h : Pulls (l1 ++ l2) ρ ρ') : Pulls l1 ρ ρ' := fun p hp => h p (by simp [hp])
theorem Pulls.right {l1 l2 : List (Option Nat × Nat)} {ρ ρ' : Nat → Loc} (h : Pulls (l1 ++ l2) ρ ρ') : Pulls l2 ρ ρ' := fun p hp => h p (by simp [hp])

def pull : List (Option Nat × Nat) → (Nat → Loc) → (Nat → Loc) → Nat → Loc
 | [], ρ, ρ0, c => ρ0 c
 | (o, k) :: l, ρ, ρ0, c => if k = c then (match o with | some id => ρ id | none => noLoc) else pull l ρ ρ0 c

theorem nodupB_spec : ∀ {l : List Nat}, nodupB l = true → l.Nodup
 | [], _ => List.nodup_nil
 | x :: xs, h => by
  simp only [nodupB, Bool.and_eq_true, Bool.not_eq_true', List.any_eq_false] at h
  refine List.nodup_cons.2 ⟨fun hm => ?_, nodupB_spec h.2⟩
  have := h.1 x hm
  simp at this

theorem pulls_pull (ρ ρ0 : Nat → Loc) : ∀ {ids : List (Option Nat × Nat)}, (ids.map (·.2)).Nodup → Pulls ids ρ (pull ids ρ ρ0)
 | [], _ => by intro p hp; simp at hp
 | (o, k) :: l, h => by
  simp only [List.map_cons, List.nodup_cons] at h
  intro p hp
  rcases List.mem_cons.1 hp with rfl | hp
  ·cases o with
   | none => simp [pull, noLoc]
   | some id => simp [pull]
  ·have hne : k ≠ p.2 := fun e => h.1 (by rw [e]; exact List.mem_map_of_mem hp)
   have := pulls_pull ρ ρ0 h.2 p hp
   simp only [pull, if_neg hne]
   exact this

theorem pull_other (ρ ρ0 : Nat → Loc) : ∀ {ids : List (Option Nat × Nat)} {c : Nat}, (∀ p ∈ ids, p.2 ≠ c) → pull ids ρ ρ0 c = ρ0 c
 | [], c, _ => rfl
 | (o, k) :: l, c, h => by
  have := h (o, k) (by simp)
  simp only at this
  simp only [pull, if_neg this]
  exact pull_other ρ ρ0 (fun p hp => h p (by simp [hp]))

section
variable {h : Hp} {ρ ρ' : Nat → Loc} {objs : List (Nat × Ob)} {w : World} {P : Program}

structure PassOK (objs : List (Nat × Ob)) (h : Hp) (ρ' : Nat → Loc) (w : World) (ids : List (Option Nat × Nat)) (os : List (Nat × Ob)) : Prop where
 ob : ∀ c o, (c, o) ∈ os → ObOK h ρ' w c o
 at_ : ∀ c o, (c, o) ∈ os → ∃ p ∈ ids, p.2 = c
 here : ∀ id c, (some id, c) ∈ ids → ∃ o, oget objs id = some o

theorem PassOK.nil : PassOK objs h ρ' w [] [] := ⟨by simp, by simp, by simp⟩

theorem PassOK.append {l1 l2 : List (Option Nat × Nat)} {o1 o2 : List (Nat × Ob)} (a : PassOK objs h ρ' w l1 o1) (b : PassOK objs h ρ' w l2 o2) : PassOK objs h ρ' w (l1 ++ l2) (o1 ++ o2) where
 ob := fun c o hm => (List.mem_append.1 hm).elim (a.ob c o) (b.ob c o)
 at_ := fun c o hm => by
  rcases List.mem_append.1 hm with hm | hm
  ·obtain ⟨p, hp, e⟩ := a.at_ c o hm; exact ⟨p, by simp [hp], e⟩
  ·obtain ⟨p, hp, e⟩ := b.at_ c o hm; exact ⟨p, by simp [hp], e⟩
 here := fun id c hm => (List.mem_append.1 hm).elim (a.here id c) (b.here id c)

theorem fixSz_slice (t : TypeId) (sz : Nat) (rows : List (List SV)) (tok : Nat) : ∃ sz', fixSz P t (.slice sz rows tok) = .slice sz' rows tok ∧ (sz' = sz ∨ sz = 0) := by
 unfold fixSz
 split
 ·rename_i e sz1 rows1 tok1 hu heq
  cases heq
  refine ⟨_, rfl, ?_⟩
  cases hb : Nat.beq sz 0 with
  | false => exact .inl rfl
  | true => exact .inr (Nat.eq_of_beq_eq_true hb)
 ·exact ⟨sz, rfl, .inl rfl⟩

theorem fixSz_mapv (t : TypeId) (es : List (ByteArray × Int)) : fixSz P t (.mapv es) = .mapv es := by
 unfold fixSz
 split <;> simp_all

theorem passOwn_sound (hob : ∀ id o, oget objs id = some o → ObOK h ρ w id o) {cid : Nat} {s d : SV} {ids : List (Option Nat × Nat)} (e : passOwn objs cid s = some (d, ids)) (hp : Pulls ids ρ ρ') (t : TypeId) :
  ∃ hd o, ownH cid (fixSz P t d) = some (hd, o) ∧ (∀ v, Rep h ρ v s → Rep h ρ' v hd ∧ v.oneCell' = true) ∧ PassOK objs h ρ' w ids [(cid, o)] ∧ (∀ cs, o ≠ .box cs) ∧ (∀ t b x, hd ≠ .gd t b x) := by
 unfold passOwn at e
 split at e
 ·rename_i id
  split at e
  ·rename_i sz rows ho
   cases e
   obtain ⟨sz', hf, hz⟩ := fixSz_slice (P := P) t sz rows 0
   have hloc : ρ' cid = ρ id := hp (some id, cid) (by simp)
   have ob := hob id _ ho
   rw [hf]
   refine ⟨.osl cid, .own sz' rows, rfl, fun v r => ?_, ⟨fun c o hm => ?_, fun c o hm => ?_, fun i c hm => ?_⟩, by simp, by simp⟩
   ·rcases r.osl_inv with ⟨hn, p, rfl⟩ | ⟨hn, rfl⟩
    ·exact ⟨.osl0 cid p (by rw [hloc]; exact hn), rfl⟩
    ·refine ⟨?_, rfl⟩
     rw [← hloc] at hn ⊢
     exact .osl cid hn
   ·simp at hm
    obtain ⟨rfl, rfl⟩ := hm
    rcases ob with ⟨hn, rfl⟩ | ⟨hn, o⟩
    ·exact .inl ⟨by rw [hloc]; exact hn, rfl⟩
    ·have hzz : sz' = sz := hz.resolve_right (by have := o.pos; omega)
     subst hzz
     exact .inr ⟨by rw [hloc]; exact hn, by rw [hloc]; exact o⟩
   ·simp at hm; exact ⟨(some id, cid), by simp, hm.1.symm⟩
   ·simp at hm; rw [hm.1]; exact ⟨_, ho⟩
  ·cases e
 ·rename_i id
  split at e
  ·rename_i es ho
   cases e
   have hloc : ρ' cid = ρ id := hp (some id, cid) (by simp)
   obtain ⟨hn, ⟨ents, cl, hb, hm⟩, hno⟩ := hob id _ ho
   rw [fixSz_mapv]
   refine ⟨.omp cid, .mp es, rfl, fun v r => ?_, ⟨fun c o hm' => ?_, fun c o hm' => ?_, fun i c hm' => ?_⟩, by simp, by simp⟩
   ·rw [r.omp_inv, ← hloc]; exact ⟨.omp cid, rfl⟩
   ·simp at hm'
    obtain ⟨rfl, rfl⟩ := hm'
    exact ⟨by rw [hloc]; exact hn, ⟨ents, cl, by rw [hloc]; exact hb, hm⟩, by rw [hloc]; exact hno⟩
   ·simp at hm'; exact ⟨(some id, cid), by simp, hm'.1.symm⟩
   ·simp at hm'; rw [hm'.1]; exact ⟨_, ho⟩
  ·cases e
 ·rename_i sz
  cases e
  obtain ⟨sz', hf, _⟩ := fixSz_slice (P := P) t sz [] 0
  have hloc : (ρ' cid).none = true := hp (none, cid) (by simp)
  rw [hf]
  refine ⟨.osl cid, .own sz' [], rfl, fun v r => ?_, ⟨fun c o hm => ?_, fun c o hm => ?_, fun i c hm => ?_⟩, by simp, by simp⟩
  ·cases r with
   | pure _ _ hp' => cases hp' with
    | empty p cap _ _ ht h1 hn =>
     have := h1 rfl
     subst this
     exact ⟨.osl0 cid p hloc, rfl⟩
    | slice b off cap _ rows tok vs hpos hz hh hr ho ht h1 hle =>
     have := h1 rfl
     subst this
     exact ⟨.osl0 cid _ hloc, rfl⟩
  ·simp at hm; obtain ⟨rfl, rfl⟩ := hm; exact .inl ⟨hloc, rfl⟩
  ·simp at hm; exact ⟨(none, cid), by simp, hm.1.symm⟩
  ·simp at hm
 ·cases e

def fix0 (P : Program) (ts : List TypeId) (d : SV) : SV :=
 match ts with
 | [] => d
 | t :: _ => fixSz P t d

theorem passCells_sound (hob : ∀ id o, oget objs id = some o → ObOK h ρ w id o) (cid : Nat) : ∀ (cs : List SV) (j : Nat) (ms : List Bool) (ts : List TypeId) (ds : List SV) (ids : List (Option Nat × Nat)),
  passCells objs cid j ms cs = some (ds, ids) → Pulls ids ρ ρ' →
  ∃ cs' os, lendCells cid j ms (fixL' P ts ds) = some (cs', os) ∧ cs'.length = cs.length ∧ (∀ (i : Nat) v c c', cs[i]? = some c → cs'[i]? = some c' → Rep h ρ v c → Rep h ρ' v c') ∧
   PassOK objs h ρ' w ids os ∧ (∀ c o, (c, o) ∈ os → ∀ x, o ≠ .box x) ∧ (∀ (i : Nat) c', cs'[i]? = some c' → ∀ t b x, c' ≠ .gd t b x)
 | [], j, ms, ts, ds, ids, e, hp => by
  simp [passCells] at e
  obtain ⟨rfl, rfl⟩ := e
  have : fixL' P ts [] = [] := by cases ts <;> rfl
  rw [this]
  exact ⟨[], [], rfl, rfl, by simp, PassOK.nil, by simp, by simp⟩
 | c :: cs, j, ms, ts, ds, ids, e, hp => by
  simp only [passCells] at e
  split at e
  ·rename_i d l ds' ls h1 h2
   cases e
   obtain ⟨cs', os, e1, e2, e3, e4, e5, e6⟩ := passCells_sound hob cid cs (j + 1) ms.tail ts.tail ds' ls h2 hp.right
   have hfix : fixL' P ts (d :: ds') = (fix0 P ts d) :: fixL' P ts.tail ds' := by
    cases ts with
    | nil => simp [fixL', fix0]
    | cons t ts => simp [fixL', fix0]
   rw [hfix]
   cases hm : ms.headD false with
   | true =>
    simp only [hm, cond_true] at h1
    have key : ∃ hd o, ownH (cellId cid ms j) (fix0 P ts d) = some (hd, o) ∧ (∀ v, Rep h ρ v c → Rep h ρ' v hd ∧ v.oneCell' = true) ∧ PassOK objs h ρ' w l [(cellId cid ms j, o)] ∧ (∀ cs, o ≠ .box cs) ∧ (∀ t b x, hd ≠ .gd t b x) := by
     cases ts with
     | cons t ts => exact passOwn_sound (P := P) hob h1 hp.left t
     | nil =>
      -- a type that fixes nothing: the empty program's
      obtain ⟨hd, o, g1, g2⟩ := passOwn_sound (P := (default : Program)) hob h1 hp.left 0
      have hid : fixSz (default : Program) 0 d = d := by
       unfold fixSz
       split
       ·rename_i e _ _ _ hu
        have : (default : Program).underlying 0 = none := by rfl
        rw [this] at hu; cases hu
       ·rfl
      rw [hid] at g1
      exact ⟨hd, o, g1, g2⟩
    obtain ⟨hd, o, g1, g2, g3, g4, g5⟩ := key
    refine ⟨hd :: cs', (cellId cid ms j, o) :: os, by simp only [lendCells, e1, hm, cond_true, g1], by simp [e2], fun i v x x' hx hx' r => ?_, g3.append e4, fun x o' hm' => ?_, fun i c' hc' => ?_⟩
    ·cases i with
     | zero => simp at hx hx'; subst hx; subst hx'; exact (g2 v r).1
     | succ i => exact e3 i v x x' (by simpa using hx) (by simpa using hx') r
    ·rcases List.mem_cons.1 hm' with e' | hm'
     ·cases e'; exact g4
     ·exact e5 x o' hm'
    ·cases i with
     | zero => simp at hc'; subst hc'; exact g5
     | succ i => exact e6 i c' (by simpa using hc')
   | false =>
    simp only [hm, cond_false] at h1
    cases hpc : pureCell c with
    | none => simp [hpc] at h1
    | some c1 =>
     simp [hpc] at h1
     obtain ⟨rfl, rfl⟩ := h1
     refine ⟨fix0 P ts c1 :: cs', os, by simp only [lendCells, e1, hm, cond_false], by simp [e2], fun i v x x' hx hx' r => ?_, by simpa using e4, e5, fun i c' hc' => ?_⟩
     ·cases i with
      | zero =>
       simp at hx hx'
       subst hx
       have hpr := pureCell_sound r hpc
       cases ts with
       | nil => simp [fix0] at hx'; subst hx'; exact .pure _ _ hpr
       | cons t ts => simp [fix0] at hx'; subst hx'; exact .pure _ _ (fixSz_sound t hpr)
      | succ i => exact e3 i v x x' (by simpa using hx) (by simpa using hx') r
     ·cases i with
      | zero =>
       simp at hc'
       have hng : ∀ t b x, c1 ≠ .gd t b x := by
        intro t b x e'
        subst e'
        cases c <;> simp [pureCell] at hpc
        rename_i v; cases v <;> simp at hpc
       cases ts with
       | nil => simp [fix0] at hc'; subst hc'; exact hng
       | cons t ts =>
        simp [fix0] at hc'; subst hc'
        intro t' b x e'
        unfold fixSz at e'
        split at e'
        ·cases e'
        ·exact hng _ _ _ e'
      | succ i => exact e6 i c' (by simpa using hc')
  ·cases e

theorem fixL'_get : ∀ (ts : List TypeId) (cs : List SV), (fixL' P ts cs).length = cs.length ∧ ∀ (i : Nat) c', (fixL' P ts cs)[i]? = some c' → ∃ c t, cs[i]? = some c ∧ (c' = c ∨ c' = fixSz P t c)
 | [], cs => by simp only [fixL']; exact ⟨trivial, fun i c' h => ⟨c', 0, h, .inl rfl⟩⟩
 | t :: ts, [] => by simp [fixL']
 | t :: ts, c :: cs => by
  obtain ⟨l, g⟩ := fixL'_get ts cs
  simp only [fixL']
  refine ⟨by simp [l], fun i c' h => ?_⟩
  cases i with
  | zero => simp at h; exact ⟨c, t, by simp, .inr h.symm⟩
  | succ i => simpa using g i c' (by simpa using h)

theorem normT_sound {v : Value} {s : SV} (t : TypeId) (r : PRep h v s) : PRep h v (normT P t s) := by
 unfold normT
 split
 ·rename_i cs
  cases r with
  | agg vs _ hl hc =>
   obtain ⟨l, g⟩ := fixL'_get (P := P) (cellTypes P 8 t) cs
   refine .agg vs _ (by omega) fun i u c hu hc' => ?_
   obtain ⟨c0, t0, e, h1⟩ := g i c hc'
   have := hc i u c0 hu e
   rcases h1 with rfl | rfl
   ·exact this
   ·exact fixSz_sound t0 this
 ·exact fixSz_sound t r

theorem Rep.ptr_inv {v : Value} {id off : Nat} (r : Rep h ρ v (.ptr id off)) : v = .pointer (some ⟨(ρ id).blk, off, none⟩) := by
 cases r with
 | pure _ _ hp => cases hp
 | ptr => rfl

theorem passArg_sound (hob : ∀ id o, oget objs id = some o → ObOK h ρ w id o) {cid : Nat} {m : Md} {s d : SV} {ids : List (Option Nat × Nat)} (t : TypeId) (e : passArg objs cid m s = some (d, ids)) (hp : Pulls ids ρ ρ') :
  ∃ hd os, argH cid m (normM P m t d) = some (hd, os) ∧ (∀ v, Rep h ρ v s → Rep h ρ' v hd) ∧ PassOK objs h ρ' w ids os := by
 unfold passArg at e
 cases m with
 | pure =>
  simp at e
  obtain ⟨d', hd', rfl, rfl⟩ := e
  exact ⟨_, [], rfl, fun v r => .pure _ _ (by simp only [normM]; exact normT_sound t (pureArr_sound r hd')), PassOK.nil⟩
 | own =>
  simp only [] at e
  have hnorm : normM P .own t d = fixSz P t d := by
   unfold passOwn at e
   simp only [normM]
   unfold normT
   split
   ·split at e
    ·split at e <;> simp at e
    ·split at e <;> simp at e
    ·simp at e
    ·cases e
   ·rfl
  obtain ⟨hd, o, g1, g2, g3, _, _⟩ := passOwn_sound (P := P) hob e hp t
  refine ⟨hd, [(cid, o)], ?_, fun v r => (g2 v r).1, g3⟩
  rw [hnorm]
  simp [argH, g1]
 | lend ms =>
  simp only [] at e
  split at e
  ·rename_i id
   split at e
   ·rename_i cs ho
    simp at e
    obtain ⟨ds, ids', hpc, rfl, rfl⟩ := e
    have hp' : Pulls ids' ρ ρ' := fun p hp0 => hp p (by simp [hp0])
    have hloc : ρ' cid = ρ id := hp (some id, cid) (by simp)
    obtain ⟨cs', os, e1, e2, e3, e4, e5, _⟩ := passCells_sound (P := P) hob cid cs 0 ms (cellTypes P 8 (datT P (.lend ms) t)) ds ids' hpc hp'
    obtain ⟨hn, ⟨cv, ty, hb, hsz, hcell⟩, hno⟩ := hob id _ ho
    refine ⟨.ptr cid 0, (cid, .box cs') :: os, by simp [normM, argH, e1], fun v r => ?_, ⟨fun c o hm => ?_, fun c o hm => ?_, fun i c hm => ?_⟩⟩
    ·rw [r.ptr_inv, ← hloc]; exact .ptr cid 0
    ·rcases List.mem_cons.1 hm with e' | hm
     ·cases e'
      refine ⟨by rw [hloc]; exact hn, ⟨cv, ty, by rw [hloc]; exact hb, by rw [e2]; exact hsz, fun i v c hv hc => ?_⟩, by rw [hloc]; exact hno⟩
      have hi : i < cs.length := by have := (List.getElem?_eq_some_iff.1 hc).1; omega
      obtain ⟨r1, r2⟩ := hcell i v _ hv (List.getElem?_eq_getElem hi)
      exact ⟨e3 i v _ c (List.getElem?_eq_getElem hi) hc r1, r2⟩
     ·exact e4.ob c o hm
    ·rcases List.mem_cons.1 hm with e' | hm
     ·cases e'; exact ⟨(some id, cid), by simp, rfl⟩
     ·obtain ⟨p, hp0, e'⟩ := e4.at_ c o hm; exact ⟨p, by simp [hp0], e'⟩
    ·rcases List.mem_cons.1 hm with e' | hm
     ·cases e'; exact ⟨_, ho⟩
     ·exact e4.here i c hm
   ·cases e
  ·cases e

theorem passArgs_sound (hob : ∀ id o, oget objs id = some o → ObOK h ρ w id o) (idf : Nat → Nat) (ms : List Md) : ∀ (ts : List TypeId) (ss : List SV) (i : Nat) (ds : List SV) (ids : List (Option Nat × Nat)),
  passArgs P objs idf ms i ts ss = some (ds, ids) → Pulls ids ρ ρ' →
  ∃ hs os, argsH idf ms i ds = some (hs, os) ∧ hs.length = ss.length ∧ ds.length = ss.length ∧ (∀ (k : Nat) v s hd, ss[k]? = some s → hs[k]? = some hd → Rep h ρ v s → Rep h ρ' v hd) ∧ PassOK objs h ρ' w ids os
 | [], [], i, ds, ids, e, hp => by simp [passArgs] at e; obtain ⟨rfl, rfl⟩ := e; exact ⟨[], [], rfl, rfl, rfl, by simp, PassOK.nil⟩
 | [], _ :: _, i, ds, ids, e, hp => by simp [passArgs] at e
 | _ :: _, [], i, ds, ids, e, hp => by simp [passArgs] at e
 | t :: ts, s :: ss, i, ds, ids, e, hp => by
  simp only [passArgs] at e
  split at e
  ·rename_i d l ds' ls h1 h2
   cases e
   obtain ⟨hd, o1, g1, g2, g3⟩ := passArg_sound (P := P) hob t h1 hp.left
   obtain ⟨hs, os, e1, e2, e3, e4, e5⟩ := passArgs_sound hob idf ms ts ss (i + 1) ds' ls h2 hp.right
   refine ⟨hd :: hs, o1 ++ os, by simp only [argsH, g1, e1], by simp [e2], by simp [e3], fun k v s' hd' hs' hh' r => ?_, g3.append e5⟩
   cases k with
   | zero => simp at hs' hh'; subst hs'; subst hh'; exact g2 v r
   | succ k => exact e4 k v s' hd' (by simpa using hs') (by simpa using hh') r
  ·cases e

theorem argsH_append (idf : Nat → Nat) (ms : List Md) : ∀ (as bs : List SV) (i : Nat) (hs : List SV) (os : List (Nat × Ob)), argsH idf ms i as = some (hs, os) → ms.length ≤ i + as.length → argsH idf ms i (as ++ bs) = some (hs ++ bs, os)
 | [], bs, i, hs, os, e, hl => by
  simp [argsH] at e
  obtain ⟨rfl, rfl⟩ := e
  have : ∀ (bs : List SV) (i : Nat), ms.length ≤ i → argsH idf ms i bs = some (bs, []) := by
   intro bs
   induction bs with
   | nil => intro i _; rfl
   | cons b bs ih =>
    intro i hi
    have hm : mdAt ms i = .pure := by
     have : ∀ (ms : List Md) (i : Nat), ms.length ≤ i → mdAt ms i = .pure := by
      intro ms
      induction ms with
      | nil => intro i _; rfl
      | cons m ms ih => intro i hi; cases i with
       | zero => simp at hi
       | succ i => exact ih i (by simpa using hi)
     exact this ms i hi
    simp [argsH, hm, argH, ih (i + 1) (by omega)]
  simpa using this bs i (by simpa using hl)
 | a :: as, bs, i, hs, os, e, hl => by
  simp only [argsH] at e
  split at e
  ·rename_i hd o hs' os' h1 h2
   cases e
   have := argsH_append idf ms as bs (i + 1) hs' os' h2 (by simp at hl; omega)
   simp [argsH, h1, this]
  ·cases e

theorem pass_inj {ids : List (Option Nat × Nat)} {os : List (Nat × Ob)} (hk : PassOK objs h ρ' w ids os) (hp : Pulls ids ρ ρ') (hn1 : (ids.filterMap (·.1)).Nodup)
  (hinj : ∀ i j, live objs ρ i → live objs ρ j → i ≠ j → (ρ i).blk ≠ (ρ j).blk) : ∀ i j, live os ρ' i → live os ρ' j → i ≠ j → (ρ' i).blk ≠ (ρ' j).blk := by
 have key : ∀ i, live os ρ' i → ∃ id, (some id, i) ∈ ids ∧ ρ' i = ρ id ∧ live objs ρ id := by
  rintro i ⟨⟨o, e⟩, hn⟩
  obtain ⟨p, hpm, rfl⟩ := hk.at_ i o (oget_mem e)
  have hpp := hp p hpm
  obtain ⟨o1, c⟩ := p
  cases o1 with
  | none => simp only at hpp; rw [hpp] at hn; cases hn
  | some id => exact ⟨id, hpm, hpp, hk.here id c hpm, by rw [← hpp]; exact hn⟩
 intro i j hi hj hij
 obtain ⟨a, ha, ea, la⟩ := key i hi
 obtain ⟨b, hb, eb, lb⟩ := key j hj
 rw [ea, eb]
 refine hinj a b la lb fun e => ?_
 subst e
 -- the same number twice
 have : ∀ (ids : List (Option Nat × Nat)), (ids.filterMap (·.1)).Nodup → (some a, i) ∈ ids → (some a, j) ∈ ids → i = j := by
  intro ids
  induction ids with
  | nil => intro _ h1; simp at h1
  | cons p ids ih =>
   intro hnd h1 h2
   obtain ⟨o, c⟩ := p
   cases o with
   | none =>
    simp only [List.filterMap_cons] at hnd
    exact ih hnd (by simpa using h1) (by simpa using h2)
   | some x =>
    simp only [List.filterMap_cons, List.nodup_cons] at hnd
    have hno : ∀ k, (some x, k) ∈ ids → False := fun k hk => hnd.1 (List.mem_filterMap.2 ⟨_, hk, rfl⟩)
    rcases List.mem_cons.1 h1 with e1 | h3
    ·cases e1
     rcases List.mem_cons.1 h2 with e2 | h4
     ·cases e2; rfl
     ·exact (hno _ h4).elim
    ·rcases List.mem_cons.1 h2 with e2 | h4
     ·cases e2; exact (hno _ h3).elim
     ·exact ih hnd.2 h3 h4
 exact hij (this ids hn1 ha hb)

theorem pass_holds {ids : List (Option Nat × Nat)} {os : List (Nat × Ob)} (hk : PassOK objs h ρ' w ids os) (hp : Pulls ids ρ ρ') (hn1 : (ids.filterMap (·.1)).Nodup) (hsub : HSub h w)
  (hinj : ∀ i j, live objs ρ i → live objs ρ j → i ≠ j → (ρ i).blk ≠ (ρ j).blk) : Holds h ρ' os w :=
 ⟨hsub, fun c o e => hk.ob c o e, pass_inj hk hp hn1 hinj⟩

theorem pass_Gv {ids : List (Option Nat × Nat)} {os : List (Nat × Ob)} (hk : PassOK objs h ρ' w ids os) (hp : Pulls ids ρ ρ') {b : Nat} (hg : Gv os ρ' b) : ∃ id c, (some id, c) ∈ ids ∧ live objs ρ id ∧ (ρ id).blk = b := by
 obtain ⟨i, ⟨⟨o, e⟩, hn⟩, rfl⟩ := hg
 obtain ⟨p, hpm, rfl⟩ := hk.at_ i o (oget_mem e)
 have hpp := hp p hpm
 obtain ⟨o1, c⟩ := p
 cases o1 with
 | none => simp only at hpp; rw [hpp] at hn; cases hn
 | some id => exact ⟨id, c, hpm, ⟨hk.here id c hpm, by rw [← hpp]; exact hn⟩, by simp only at hpp; rw [hpp]⟩

end
end Go.Px

/- Layer 28: families in memory; the last one; whether it is whole. -/
import Derived.Test.YtknnooannohflaaDoorPrK1
import Derived.Test.YtknnooannohflaaDoorPaA1
import Derived.Test.YtknnooannohflaaDoorRpO1
namespace Go.Proofs.YtknnooannohflaaDoor.Prs
open Go Go.Proofs Go.RowKit Go.Px Trm Exp Met
set_option linter.unusedVariables false

def Zdb (l : List (SmD × Value)) : List Value := l.flatMap fun p => [.string p.1.nm, p.2, .int .i64 p.1.v]
def Za4 (l : List (FaD × Value)) : List Value := l.flatMap fun p => [.string p.1.nm, .string p.1.hp, .int .i64 p.1.ty, p.2]
theorem Zd1 (l : List (FaD × Value)) : (Za4 l).length = l.length * 4 := by
 induction l with
 | nil => rfl
 | cons p l ih => unfold Za4 at *; rw [List.flatMap_cons, List.length_append, ih]; simp; omega
theorem Zg4 (l : List (SmD × Value)) (p : SmD × Value) : Zdb (l ++ [p]) = Zdb l ++ [.string p.1.nm, p.2, .int .i64 p.1.v] := by
 unfold Zdb; rw [List.flatMap_append]; rfl
theorem Zbo (l : List (FaD × Value)) (p : FaD × Value) : Za4 (l ++ [p]) = Za4 l ++ [.string p.1.nm, .string p.1.hp, .int .i64 p.1.ty, p.2] := by
 unfold Za4; rw [List.flatMap_append]; rfl
structure SamM (w : World) (B : Nat) (sv : Value) (l : List (SmD × Value)) : Prop where
 row : w.ownsRow B 63 3 sv l.length (Zdb l)
 lab : ∀ p ∈ l, w.ownsRow B 65 2 p.2 p.1.ls.length (Za9 p.1.ls)
structure FamM (w : World) (B : Nat) (fv : Value) (l : List (FaD × Value)) : Prop where
 row : w.ownsRow B 60 4 fv l.length (Za4 l)
 sam : ∀ p ∈ l, ∃ q : List (SmD × Value), p.1.ss = q.map (·.1) ∧ SamM w B p.2 q
 sep : l.Pairwise fun p q => p.2.ownBlock = none ∨ p.2.ownBlock ≠ q.2.ownBlock

theorem Zez {w : World} {base : Nat} {e : TypeId} {size : Nat} {v : Value} {n : Nat} {xs : List Value} (h : w.ownsRow base e size v n xs) {k : Nat} (hk : v.ownBlock = some k) : base ≤ k ∧ k < w.heap.size ∧ ∃ cur, w.heap[k]? = some (.cells cur e (0, 0)) := by
 obtain ⟨h1, h2⟩ := h.lt k hk; refine ⟨h1, h2, ?_⟩
 rcases h.2 with ⟨rfl, _⟩ | ⟨g, cap, cur, rfl, _, hg, _⟩
 ·cases hk
 ·have : g = k := (by simpa [Value.ownBlock] using hk); subst this; exact ⟨cur, hg⟩
theorem Zc0 {w : World} {b1 b2 : Nat} {e1 e2 : TypeId} {s1 s2 : Nat} {v1 v2 : Value} {n1 n2 : Nat} {x1 x2 : List Value} (h1 : w.ownsRow b1 e1 s1 v1 n1 x1) (h2 : w.ownsRow b2 e2 s2 v2 n2 x2) (hne : e1 ≠ e2) : v1.ownBlock = none ∨ v1.ownBlock ≠ v2.ownBlock := by
 cases ho : v1.ownBlock with
 | none => exact .inl rfl
 | some k => refine .inr fun e => ?_; obtain ⟨_, _, c1, g1⟩ := Zez h1 ho; obtain ⟨_, _, c2, g2⟩ := Zez h2 e.symm; rw [g1] at g2; simp only [Option.some.injEq, Obj.cells.injEq] at g2; exact hne g2.2.1
theorem SamM.grown {w w' : World} {B : Nat} {sv : Value} {l : List (SmD × Value)} {row : Option Nat} (h : SamM w B sv l) (hg : w.grownBy w' row) (h1 : sv.ownBlock = none ∨ sv.ownBlock ≠ row) (h2 : ∀ p ∈ l, p.2.ownBlock = none ∨ p.2.ownBlock ≠ row) : SamM w' B sv l :=
 ⟨h.row.kept hg h1, fun p hp => (h.lab p hp).kept hg (h2 p hp)⟩
theorem Zdg {B : Nat} {w w' : World} (h : Below w.heap.size w w') : w.grownBy w' none := ⟨h.os, h.tape, h.output, h.size, fun k hk _ => h.block k hk⟩
theorem Zb4 (o : Option Nat) : o = none ∨ o ≠ none := by cases o <;> simp
theorem FamM.below {w w' : World} {B : Nat} {fv : Value} {l : List (FaD × Value)} (h : FamM w B fv l) (hb : Below w.heap.size w w') : FamM w' B fv l := by
 have hg := Zdg (B := 0) hb; refine ⟨h.row.kept hg (Zb4 _), fun p hp => ?_, h.sep⟩; obtain ⟨q, e, hq⟩ := h.sam p hp; exact ⟨q, e, hq.grown hg (Zb4 _) fun _ _ => Zb4 _⟩

structure RdM (w : World) (R B : Nat) (l : List (FaD × Value)) : Prop where
 lt : R < B
 rd : ∃ fv, w.heap[R]? = some (.cells #[fv] 69 (0, 0)) ∧ FamM w B fv l
theorem RdM.below {w w' : World} {R B : Nat} {l : List (FaD × Value)} (h : RdM w R B l) (hb : Below w.heap.size w w') : RdM w' R B l := by
 obtain ⟨fv, h1, h2⟩ := h.rd; exact ⟨h.lt, fv, (hb.block _ (Array.getElem?_eq_some_iff.1 h1).1).trans h1, h2.below hb⟩

theorem Zjo {w : World} {B : Nat} {fv : Value} {l : List (FaD × Value)} (h : FamM w B fv l) : (l = [] ∧ fv = .slice none 0 0) ∨ ∃ g cap, fv = .slice (some ⟨g, 0, none⟩) l.length cap ∧ B ≤ g ∧ l.length ≤ cap := by
 rcases h.row.2 with ⟨e, h0⟩ | ⟨g, cap, cur, e, hb, _, hc, _⟩
 ·exact .inl ⟨List.length_eq_zero_iff.1 h0, e⟩
 ·exact .inr ⟨g, cap, e, hb, hc⟩
theorem Zjp {gs : List (FaD × Value)} {p : FaD × Value} (j : Nat) (hj : j < 4) : (Za4 (gs ++ [p]))[gs.length * 4 + j]? = [Value.string p.1.nm, .string p.1.hp, .int .i64 p.1.ty, p.2][j]? := by
 rw [Zbo, List.getElem?_append_right (by rw [Zd1]; omega), Zd1]; congr 1; omega

set_option maxHeartbeats 1000000 in
set_option maxRecDepth 100000 in
theorem Zg5 (R B : Nat) (w : World) (h : RdM w R B []) : Calls Tryd.prog 79 #[.pointer (some ⟨R, 0, none⟩)] w fun e w' => e = .returned (.pointer none) ∧ w' = w := by
 obtain ⟨hlt, fv, h1, h2⟩ := h
 have hs : ∃ p c, fv = .slice p 0 c := by
  rcases Zjo h2 with ⟨_, e⟩ | ⟨g, cap, e, _⟩
  ·exact ⟨_, _, e⟩
  ·exact ⟨_, _, e⟩
 obtain ⟨p, c, rfl⟩ := hs; have c0 := Zab h1 0; simp only [List.getElem?_toArray, List.getElem?_cons_zero] at c0; clear h1 h2
 go_enter Tryd.func79, Tryd.ntmps79
 go_wp2; go_ret; exact ⟨rfl, rfl⟩
set_option maxHeartbeats 1000000 in
set_option maxRecDepth 100000 in
theorem Zg6 (R : Nat) (n cap g : Nat) (w : World) (h1 : w.heap[R]? = some (.cells #[.slice (some ⟨g, 0, none⟩) (n + 1) cap] 69 (0, 0))) (hn : n < 1000) : Calls Tryd.prog 79 #[.pointer (some ⟨R, 0, none⟩)] w fun e w' => e = .returned (.pointer (some ⟨g, n * 4, none⟩)) ∧ w' = w.drew := by
 have c0 := Zab h1 0; simp only [List.getElem?_toArray, List.getElem?_cons_zero] at c0; have i1 : (((n + 1 : Nat) : Int) == 0) = false := (by simp; omega); clear h1
 go_enter Tryd.func79, Tryd.ntmps79
 go_wp2; go_region
 all_goals go_wp2
 go_ret; exact ⟨rfl, rfl⟩

structure LastAt (w : World) (R B g n cap : Nat) (p : FaD × Value) : Prop where
 rd : w.heap[R]? = some (.cells #[.slice (some ⟨g, 0, none⟩) (n + 1) cap] 69 (0, 0))
 c0 : w.cell? ⟨g, n * 4, none⟩ = some (.string p.1.nm)
 c1 : w.cell? ⟨g, n * 4 + 1, none⟩ = some (.string p.1.hp)
 c2 : w.cell? ⟨g, n * 4 + 2, none⟩ = some (.int .i64 p.1.ty)
 c3 : w.cell? ⟨g, n * 4 + 3, none⟩ = some p.2
 fz : ∀ i, w.frozen? ⟨g, i, none⟩ = false
 sv : ∃ pp c, p.2 = .slice pp p.1.ss.length c
theorem RdM.last {w : World} {R B : Nat} {gs : List (FaD × Value)} {p : FaD × Value} (h : RdM w R B (gs ++ [p])) : ∃ g cap, LastAt w R B g gs.length cap p := by
 obtain ⟨hlt, fv, h1, h2⟩ := h
 rcases Zjo h2 with ⟨e, _⟩ | ⟨g, cap, rfl, hb, hc⟩
 ·simp at e
 ·have hr := h2.row; have hlen : (gs ++ [p]).length = gs.length + 1 := (by simp); have at_ : ∀ j, j < 4 → w.cell? ⟨g, gs.length * 4 + j, none⟩ = [Value.string p.1.nm, .string p.1.hp, .int .i64 p.1.ty, p.2][j]? := fun j hj => by rw [hr.cellAt (gs.length * 4 + j) (by rw [hlen]; omega), Zjp j hj]
  rw [hlen] at h1; refine ⟨g, cap, h1, at_ 0 (by omega), at_ 1 (by omega), at_ 2 (by omega), at_ 3 (by omega), fun i => hr.frozenAt i, ?_⟩; obtain ⟨q, e, hq⟩ := h2.sam p (by simp); have hq2 := hq.row; rw [e, List.length_map]
  rcases hq2.2 with ⟨e1, h0⟩ | ⟨g', cap', cur, e1, _⟩
  ·exact ⟨_, _, by rw [e1, h0]⟩
  ·exact ⟨_, _, e1⟩

set_option maxHeartbeats 1000000 in
set_option maxRecDepth 100000 in
theorem Zk9 (R B : Nat) (w : World) (h : RdM w R B []) : Calls Tryd.prog 32 #[.pointer (some ⟨R, 0, none⟩)] w fun e w' => e = .returned (.bool true) ∧ w' = w := by
 have hL := Zg5 R B w h; clear h
 go_enter Tryd.func32, Tryd.ntmps32
 go_wp2_with (go_at_call 79; refine hL.mono ?_; rintro e w' ⟨rfl, rfl⟩)
 go_ret; exact ⟨rfl, rfl⟩
set_option maxHeartbeats 1000000 in
set_option maxRecDepth 100000 in
theorem Zla (R B g n cap : Nat) (p : FaD × Value) (w : World) (h : LastAt w R B g n cap p) (hn : n < 1000) (hs : p.1.ss.length ≤ 4000000) : Calls Tryd.prog 32 #[.pointer (some ⟨R, 0, none⟩)] w fun e w' => e = .returned (.bool (Zb8 p.1)) ∧ w' = w.drew := by
 have hL := Zg6 R n cap g w h.rd hn; have c2 := h.c2; have c3 := h.c3; obtain ⟨pp, c, hv⟩ := h.sv; rw [hv] at c3; clear h hv; unfold Zb8; generalize p.1.ss.length = m at *; generalize p.1.ty = ty at *; by_cases hm : m = 0
 ·subst hm
  go_enter Tryd.func32, Tryd.ntmps32
  go_wp2_with (go_at_call 79; refine hL.mono ?_; rintro e w' ⟨rfl, rfl⟩)
  go_ret; exact ⟨by simp, rfl⟩
 ·have i1 : ((m : Int) == 0) = false := (by simp; omega); by_cases ht : ty = 3
  ·subst ht
   go_enter Tryd.func32, Tryd.ntmps32
   go_wp2_with (go_at_call 79; refine hL.mono ?_; rintro e w' ⟨rfl, rfl⟩)
   go_ret; refine ⟨congrArg (fun b => Ending.returned (Value.bool b)) ?_, rfl⟩; rw [Bool.eq_iff_iff]; simp; omega
  ·have i2 : (ty != 3) = true := by simp [ht]
   go_enter Tryd.func32, Tryd.ntmps32
   go_wp2_with (go_at_call 79; refine hL.mono ?_; rintro e w' ⟨rfl, rfl⟩)
   go_ret; refine ⟨congrArg (fun b => Ending.returned (Value.bool b)) ?_, rfl⟩; simp [ht]; omega

structure KeptB (R B : Nat) (w w' : World) : Prop where
 os : w'.os = w.os
 tape : w'.tape = w.tape
 output : w'.output = w.output
 size : w.heap.size ≤ w'.heap.size
 block : ∀ k, k < B → k ≠ R → w'.heap[k]? = w.heap[k]?
def fsts (l : List (FaD × Value)) : List FaD := l.map (·.1)
def TkOut (R B : Nat) (w : World) (r : Option (List FaD)) (e : Ending) (w' : World) : Prop := KeptB R B w w' ∧ match r with
 | none => e = .returned (.bool false)
 | some fs => e = .returned (.bool true) ∧ ∃ l, fs = fsts l ∧ RdM w' R B l
theorem KeptB.of_below {R B : Nat} {w w' : World} (h : Below w.heap.size w w') (hB : B ≤ w.heap.size) : KeptB R B w w' := ⟨h.os, h.tape, h.output, h.size, fun k hk _ => h.block k (by omega)⟩
theorem KeptB.trans {R B : Nat} {a b c : World} (h : KeptB R B a b) (k : KeptB R B b c) : KeptB R B a c := ⟨k.os.trans h.os, k.tape.trans h.tape, k.output.trans h.output, Nat.le_trans h.size k.size, fun i hi hc => (k.block i hi hc).trans (h.block i hi hc)⟩
theorem Zdh {R B : Nat} {w w' : World} {r : Option (List FaD)} (hr : r = none) (h : KeptB R B w w') : TkOut R B w r (.returned (.bool false)) w' := by subst hr; exact ⟨h, rfl⟩
theorem Zmd {R B : Nat} {w w' : World} {r : Option (List FaD)} {l : List (FaD × Value)} (hr : r = some (fsts l)) (h : KeptB R B w w') (hR : RdM w' R B l) : TkOut R B w r (.returned (.bool true)) w' := by subst hr; exact ⟨h, rfl, l, rfl, hR⟩

def tkH (fs : List FaD) (l : LnD) : Option (List FaD) := if Zbt fs = true ∧ fs.length < 40 ∧ l.nm.size ≤ 64 ∧ l.hp.size ≤ 200 ∧ Zd9 fs l.nm = true then some (fs ++ [⟨l.nm, l.hp, 0, []⟩]) else none

theorem Zcg {P : Program} {o : Oper} {a : Act} {K : Act → World → Prop} {Q : Exit → Act → World → Prop} {w : World} (s x : Operand) (t : TypeId)
  (ho : o.op = .call { callee := .builtin .append, args := #[s, x], argTypes := #[t, t] }) (v u v' : Value) (w' : World) (hs : a.eval s = v) (hx : a.eval x = u)
  (hr : (Builtin.append_ #[t, t] o.type #[v, u]).run P w = .ok v' w') (h : K (a.put o.dst v') w') : o.wp P a w K Q := by
 unfold Oper.wp execOp; simp only [ho, resolve, invoke, builtin, Sem.run_bind, Sem.run_pure, Result.andThen_ok, List.map_toArray, List.map_cons, List.map_nil, hs, hx, hr]; exact h
theorem Zv5 : (Tryd.prog.info? 60).map (fun i => (i.zero, i.size, i.bytes)) = some (some (.agg #[.string ⟨#[]⟩, .string ⟨#[]⟩, .int .i64 0, .slice none 0 0]), 4, 64) := by kernel_rfl
theorem Zv6 : (Tryd.prog.info? 63).map (fun i => (i.zero, i.size, i.bytes)) = some (some (.agg #[.string ⟨#[]⟩, .slice none 0 0, .int .i64 0]), 3, 48) := by kernel_rfl
theorem Zsf : Tryd.prog.underlying 23 = some (.slice 60) := by kernel_rfl
theorem Zsg : Tryd.prog.underlying 58 = some (.slice 63) := by kernel_rfl
theorem Zg7 (w : World) (cs : Array Value) (e : TypeId) (j : Nat) (u : Value) (h : cs.toList[j]? = some u) : (w.alloc (.cells cs e)).cell? ((⟨w.heap.size, 0, none⟩ : Addr).add j) = some u := by
 have := Zab (heap_alloc_new w (.cells cs e)) j; rw [Array.getElem?_toList] at h; rw [h] at this; rw [show (⟨w.heap.size, 0, none⟩ : Addr).add j = ⟨w.heap.size, j, none⟩ from by cases j <;> simp [Addr.add]]; exact this
theorem Zax {w w' : World} {row : Option Nat} (h : w.grownBy w' row) {k : Nat} (hk : k < w.heap.size) (hne : some k ≠ row) : w'.heap[k]? = w.heap[k]? := h.block k hk hne
theorem Zsh (wA : World) (R B : Nat) (fv : Value) (l : List (FaD × Value)) (nm hp : ByteArray) (hR : R < B) (hB : B ≤ wA.heap.size) (h1 : wA.heap[R]? = some (.cells #[fv] 69 (0, 0))) (h2 : FamM wA B fv l) (hl : l.length ≤ 1000) :
  ∃ v' wC, (Builtin.append_ #[23, 23] 23 #[fv, .slice (some ⟨wA.heap.size, 0, none⟩) 1 1]).run Tryd.prog (wA.alloc (.cells #[.string nm, .string hp, .int .i64 0, .slice none 0 0] 60)) = .ok v' wC ∧
   (∀ (k t : Nat) a, wA.heap[k]? = some (.cells a t (0, 0)) → t ≠ 60 → wC.heap[k]? = wA.heap[k]?) ∧ (∃ p n c, v' = .slice p n c) ∧
   RdM (wC.setCell ⟨R, 0, none⟩ v') R B (l ++ [(⟨nm, hp, 0, []⟩, .slice none 0 0)]) ∧ KeptB R B wA (wC.setCell ⟨R, 0, none⟩ v') := by
 obtain ⟨i0, hi, hz0, hz1, hz2⟩ := info_parts Zv5; have hgA : wA.grownBy (wA.alloc (.cells #[.string nm, .string hp, .int .i64 0, .slice none 0 0] 60)) none := World.grownBy_alloc wA _ none; have hrowA := h2.row.alloc (.cells #[.string nm, .string hp, .int .i64 0, .slice none 0 0] 60); obtain ⟨v', wC, hrun, hown, hgr, _⟩ := run_append_own (P := Tryd.prog) (wA.alloc (.cells #[.string nm, .string hp, .int .i64 0, .slice none 0 0] 60)) B 23 23 60 i0 _ 4 64 Zsf hi hz0 hz1 hz2 rfl (by decide) fv l.length (Za4 l) hrowA ⟨wA.heap.size, 0, none⟩ 1 1 [.string nm, .string hp, .int .i64 0, .slice none 0 0] rfl (fun j u h => Zg7 wA _ 60 j u h) (by intro u hu; simp at hu; rcases hu with rfl | rfl | rfl | rfl <;> rfl) (by unfold maxLen; omega) (by omega) (by simp; omega); have hsz : wA.heap.size < (wA.alloc (.cells #[.string nm, .string hp, .int .i64 0, .slice none 0 0] 60)).heap.size := (by simp); generalize wA.alloc (.cells #[.string nm, .string hp, .int .i64 0, .slice none 0 0] 60) = wB at *; have hkeep : ∀ (k t : Nat) a, wA.heap[k]? = some (.cells a t (0, 0)) → t ≠ 60 → wC.heap[k]? = wA.heap[k]? := fun k t a hk ht => by have hks := (Array.getElem?_eq_some_iff.1 hk).1; have hkB := Zax hgA hks (by simp); refine (Zax hgr (by omega) (fun e => ?_)).trans hkB; obtain ⟨_, _, cur, hc⟩ := Zez hrowA e.symm; rw [hkB, hk] at hc; simp only [Option.some.injEq, Obj.cells.injEq] at hc; exact ht hc.2.1
 have hRC : wC.heap[R]? = some (.cells #[fv] 69 (0, 0)) := (hkeep R 69 _ h1 (by decide)).trans h1; have hone : ∃ p n c, v' = .slice p n c := Za5 hown; have hRb : fv.ownBlock ≠ some R := fun e => by have := (h2.row.lt R e).1; omega
 refine ⟨v', wC, hrun, hkeep, hone, ⟨hR, v', Zbg hRC 0 v', ?_, ?_, ?_⟩, ?_⟩
 ·have h := ownsRow_setCell_below hown (a := ⟨R, 0, none⟩) hR v'; rw [Zbo, List.length_append]; exact h
 ·intro p hpm
  rcases List.mem_append.1 hpm with hpm | hpm
  ·obtain ⟨q, e, hq⟩ := h2.sam p hpm; refine ⟨q, e, ?_, fun x hx => ?_⟩
   ·refine ownsRow_setCell_below ?_ hR v'; refine ((hq.row.kept hgA (Zb4 _)).kept hgr ?_); exact Zc0 hq.row h2.row (by decide)
   ·refine ownsRow_setCell_below ?_ hR v'; refine (((hq.lab x hx).kept hgA (Zb4 _)).kept hgr ?_); exact Zc0 (hq.lab x hx) h2.row (by decide)
  ·have : p = (⟨nm, hp, 0, []⟩, .slice none 0 0) := (by simpa using hpm); subst this; exact ⟨[], rfl, World.ownsRow_nil _ _ _ _, fun x hx => absurd hx (by simp)⟩
 ·refine List.pairwise_append.2 ⟨h2.sep, by simp, fun p hpm q hq => ?_⟩; have : q = (⟨nm, hp, 0, []⟩, .slice none 0 0) := (by simpa using hq); subst this
  cases hb : p.2.ownBlock with
  | none => exact .inl rfl
  | some k => exact .inr (by simp [Value.ownBlock])
 ·refine ⟨hgr.os.trans hgA.os, hgr.tape.trans hgA.tape, hgr.output.trans hgA.output, ?_, fun k hk hne => ?_⟩
  ·have := hgr.size; simp [World.setCell]; omega
  ·rw [Below.heap_setCell _ _ _ _ hne]; refine (Zax hgr (by omega) (fun e => ?_)).trans (Zax hgA (by omega) (by simp)); have := (h2.row.lt k e.symm).1; omega

theorem RdM.drew {w : World} {R B : Nat} {l : List (FaD × Value)} (h : RdM w R B l) : RdM w.drew R B l := h.below (Below.refl _ _).drew
theorem KeptB.drew {R B : Nat} {a w : World} (h : KeptB R B a w) : KeptB R B a w.drew := ⟨h.os, h.tape, h.output, h.size, h.block⟩
set_option maxHeartbeats 1000000 in
set_option maxRecDepth 100000 in
theorem Zni (R B : Nat) (ln : LnD) (v : Value) (w : World) (h : RdM w R B []) (hB : B ≤ w.heap.size) (hs : ln.nm.size ≤ 200000000 ∧ ln.hp.size ≤ 200000000) :
  Calls Tryd.prog 78 #[.pointer (some ⟨R, 0, none⟩), lnV ln v] w (TkOut R B w (tkH [] ln)) := by
 have hb1 : Below w.heap.size w (w.alloc (.cells #[.int .i64 ln.kd, .string ln.nm, .string ln.hp, .int .i64 ln.of, .string ln.sm.nm, v, .int .i64 ln.sm.v] 73)) := (Below.refl _ _).alloc (Nat.le_refl _) _; have hR1 := h.below hb1; have hl1 := heap_alloc_new w (.cells #[.int .i64 ln.kd, .string ln.nm, .string ln.hp, .int .i64 ln.of, .string ln.sm.nm, v, .int .i64 ln.sm.v] 73)
 go_enter Tryd.func78, Tryd.ntmps78
 go_wp2_with (go_at_call 32; fail)
 generalize w.alloc (.cells #[.int .i64 ln.kd, .string ln.nm, .string ln.hp, .int .i64 ln.of, .string ln.sm.nm, v, .int .i64 ln.sm.v] 73) = w1 at *; have hW := Zk9 R B w1 hR1; have hL := Zg5 R B w1 hR1; refine hW.mono ?_; rintro e w2 ⟨rfl, h⟩; obtain rfl := h.symm; obtain ⟨hlt, fv, h1, h2⟩ := hR1
 have hsl : ∃ p c, fv = .slice p 0 c := by
  rcases Zjo h2 with ⟨_, e⟩ | ⟨g, cap, e, _⟩
  ·exact ⟨_, _, e⟩
  ·exact ⟨_, _, e⟩
 obtain ⟨pp, pc, rfl⟩ := hsl; have c0 := Zab h1 0; have bx1 := Zab hl1 1; have bx2 := Zab hl1 2; simp only [List.getElem?_toArray, List.getElem?_cons_succ, List.getElem?_cons_zero] at c0 bx1 bx2; have K1 := KeptB.of_below (R := R) hb1 hB; have hbs : w.heap.size < w1.heap.size := (Array.getElem?_eq_some_iff.1 hl1).1; clear hW h; by_cases s1 : ln.nm.size ≤ 64
 ·have n1 : ¬ 64 < ln.nm.size := (by omega); by_cases s2 : ln.hp.size ≤ 200
  ·have n2 : ¬ 200 < ln.hp.size := by omega
   go_wp2_with (go_at_call 79; refine hL.mono ?_; rintro e w' ⟨rfl, h⟩; obtain rfl := h.symm)
   go_region; go_wp2; have hRq : RdM w1.drew R B [] := RdM.drew ⟨hlt, _, h1, h2⟩; have hlq : w1.drew.heap[w.heap.size]? = _ := hl1; have Kq := K1.drew; have hBq : B ≤ w1.drew.heap.size := Nat.le_trans hB hb1.size; have h1q : w1.drew.heap[R]? = _ := h1; have h2q := h2.below (Below.refl _ w1).drew; clear hL h1 h2 K1 hl1 c0 bx1 bx2 hb1; generalize w1.drew = wq at *; generalize hbx : w.heap.size = bx at *; have hRA := hRq.drew; have hlA : wq.drew.heap[bx]? = some (.cells #[.int .i64 ln.kd, .string ln.nm, .string ln.hp, .int .i64 ln.of, .string ln.sm.nm, v, .int .i64 ln.sm.v] 73 (0, 0)) := hlq; have KA := Kq.drew; have hBA : B ≤ wq.drew.heap.size := hBq; have h1A : wq.drew.heap[R]? = some (.cells #[.slice pp 0 pc] 69 (0, 0)) := h1q; have h2A : FamM wq.drew B (.slice pp 0 pc) ([] : List (FaD × Value)) := h2q.below (Below.refl _ _).drew; generalize hwA : wq.drew = wA at *; obtain ⟨v', wC, hrun, hkeep, ⟨vp, vn, vc, rfl⟩, hRD, hKD⟩ := Zsh wA R B (.slice pp 0 pc) ([] : List (FaD × Value)) ln.nm ln.hp hRA.lt hBA h1A h2A (by simp); have hlC := (hkeep bx 73 _ hlA (by decide)).trans hlA; have h1C := (hkeep R 69 _ h1A (by decide)).trans h1A; have cA := Zab h1A 0; have cC := Zab h1C 0; have fC : wC.frozen? ⟨R, 0, none⟩ = false := (by simp [World.frozen?, h1C]); have bB : Below wA.heap.size wA (wA.alloc (.cells #[.string ln.nm, .string ln.hp, .int .i64 0, .slice none 0 0] 60)) := (Below.refl _ _).alloc (Nat.le_refl _) _; have h1B := (bB.block _ (Array.getElem?_eq_some_iff.1 h1A).1).trans h1A; have hlB := (bB.block _ (Array.getElem?_eq_some_iff.1 hlA).1).trans hlA; have cB := Zab h1B 0; simp only [List.getElem?_toArray, List.getElem?_cons_zero] at cA cB cC; have hbR : bx ≠ R := by intro e; subst e; rw [h1A] at hlA; simp at hlA
   have hlD := (Below.heap_setCell wC ⟨R, 0, none⟩ (.slice vp vn vc) bx hbR).trans hlC; have gA1 := Zab hlA 1; have gA2 := Zab hlA 2; have gB1 := Zab hlB 1; have gB2 := Zab hlB 2; have gC1 := Zab hlC 1; have gC2 := Zab hlC 2; have gD1 := Zab hlD 1; have gD2 := Zab hlD 2; simp only [List.getElem?_toArray, List.getElem?_cons_succ, List.getElem?_cons_zero] at gA1 gA2 gB1 gB2 gC1 gC2 gD1 gD2; have gA := And.intro gA1 gA2; have gB := And.intro gB1 gB2; have gC := And.intro gC1 gC2; have gD := And.intro gD1 gD2; clear gA1 gA2 gB1 gB2 gC1 gC2 gD1 gD2 h1B hlB bB hlD hlC hlA h1A h1C; refine wp_region_any (by kernel_rfl) ?_; rw [show ({ heap := wq.heap, tape := wq.tape, drawn := wq.drawn + 1, os := wq.os, output := wq.output } : World) = wA from hwA]; refine Zcc (J3 10 11 14 4 (fun w => w.cell? ⟨bx, 1, none⟩ = some (.string ln.nm) ∧ w.cell? ⟨bx, 2, none⟩ = some (.string ln.hp)) wA (wA.alloc (.cells #[.string ln.nm, .string ln.hp, .int .i64 0, .slice none 0 0] 60)) wC (wC.setCell ⟨R, 0, none⟩ (.slice vp vn vc))) [some (40, .pointer (some ⟨R, 0, none⟩)), some (41, .pointer (some ⟨R, 0, none⟩)), some (42, .pointer (some ⟨R, 0, none⟩)), some (43, .pointer (some ⟨R, 0, none⟩)), some (44, .slice pp 0 pc), some (45, .pointer (some ⟨bx, 1, none⟩)), some (46, .string ln.nm), some (47, .pointer (some ⟨bx, 2, none⟩)), some (48, .string ln.hp), some (49, .agg #[.string ln.nm, .string ln.hp, .int .i64 0, .slice none 0 0]), some (50, .slice (some ⟨wA.heap.size, 0, none⟩) 1 1), some (51, .slice vp vn vc), some (52, .pointer (some ⟨R, 0, none⟩)), some (53, .pointer (some ⟨R, 0, none⟩)), none] rfl (by show List.Nodup [40, 41, 42, 43, 44, 45, 46, 47, 48, 49, 50, 51, 52, 53]; decide) (by simp) (J3.start _ gA) ?_ ?_ (Zd8 rfl)
   ·intro i o q listed act w1 ho hq hsee hl0 hls hdeps hJ
    match i, ho, hq, hl0 with
    | 0, ho, hq, hl0 => simp at ho hq; subst hq; subst ho; have e0 : act.tmps.getD 0 undef = _ := hsee.old 0 rfl; simp at e0; exact tA rfl (hJ.oth 0 hls (by decide)) fun _ => by simp [goPut, Oper.wp, execOp, Act.eval, e0, go_sem]
    | 1, ho, hq, hl0 => simp at ho hq; subst hq; subst ho; have e0 : act.tmps.getD 0 undef = _ := hsee.old 0 rfl; simp at e0; exact tA rfl (hJ.oth 1 hls (by decide)) fun _ => by simp [goPut, Oper.wp, execOp, Act.eval, e0, go_sem]
    | 2, ho, hq, hl0 => simp at ho hq; subst hq; subst ho; have e0 := hsee.fu 1 41 rfl rfl; exact tA rfl (hJ.oth 2 hls (by decide)) fun _ => by simp [goPut, Oper.wp, execOp, Act.eval, e0, go_sem]
    | 3, ho, hq, hl0 => simp at ho hq; subst hq; subst ho; have e0 := hsee.fu 2 42 rfl rfl; exact tA rfl (hJ.oth 3 hls (by decide)) fun _ => by simp [goPut, Oper.wp, execOp, Act.eval, e0, go_sem]
    | 4, ho, hq, hl0 =>
     simp at ho hq; subst hq; subst ho; have e0 := hsee.fu 3 43 rfl rfl; have c0 : w1.cell? ⟨R, 0, none⟩ = some (.slice pp 0 pc) := by rcases hJ.early hl0 with rfl | rfl; exact cA; exact cB
     exact tA rfl (hJ.oth 4 hls (by decide)) fun _ => by simp [goPut, Oper.wp, execOp, Act.eval, e0, go_sem, c0]
    | 5, ho, hq, hl0 => simp at ho hq; subst hq; subst ho; have e0 : act.tmps.getD 3 undef = _ := hsee.old 3 rfl; simp at e0; exact tA rfl (hJ.oth 5 hls (by decide)) fun _ => by simp [goPut, Oper.wp, execOp, Act.eval, e0, go_sem]
    | 6, ho, hq, hl0 => simp at ho hq; subst hq; subst ho; have e0 := hsee.fu 5 45 rfl rfl; have c1 := hJ.g.1; exact tA rfl (hJ.oth 6 hls (by decide)) fun _ => by simp [goPut, Oper.wp, execOp, Act.eval, e0, go_sem, c1]
    | 7, ho, hq, hl0 => simp at ho hq; subst hq; subst ho; have e0 : act.tmps.getD 3 undef = _ := hsee.old 3 rfl; simp at e0; exact tA rfl (hJ.oth 7 hls (by decide)) fun _ => by simp [goPut, Oper.wp, execOp, Act.eval, e0, go_sem]
    | 8, ho, hq, hl0 => simp at ho hq; subst hq; subst ho; have e0 := hsee.fu 7 47 rfl rfl; have c2 := hJ.g.2; exact tA rfl (hJ.oth 8 hls (by decide)) fun _ => by simp [goPut, Oper.wp, execOp, Act.eval, e0, go_sem, c2]
    | 9, ho, hq, hl0 => simp at ho hq; subst hq; subst ho; have e0 := hsee.fu 6 46 rfl rfl; have e1 := hsee.fu 8 48 rfl rfl; exact tA rfl (hJ.oth 9 hls (by decide)) fun _ => by simp [goPut, Oper.wp, execOp, Act.eval, e0, e1, go_sem]
    | 10, ho, hq, hl0 =>
     simp at ho hq; subst hq; subst ho; have e0 := hsee.fu 9 49 rfl rfl; refine .inr ⟨rfl, fun K' hK' => ?_⟩; obtain ⟨hw1, hn⟩ := hJ.first (by rw [hls]; decide) hl0 (by decide) (by decide)
     subst hw1; refine cast ?_ (hK' _ (hn gB)); simp [goPut, Oper.wp, execOp, Act.eval, e0, go_sem]
    | 11, ho, hq, hl0 => simp at ho hq; subst hq; subst ho; have e0 := hsee.fu 4 44 rfl rfl; have e1 := hsee.fu 10 50 rfl rfl; refine .inr ⟨rfl, fun K' hK' => ?_⟩; obtain ⟨hw1, hn⟩ := hJ.second (by rw [hls]; decide) hl0 (hdeps ⟨10, .data⟩ (by simp) rfl) (hdeps ⟨4, .data⟩ (by simp) rfl) (by decide) (by decide) (by decide); subst hw1; exact Zcg (.tmp 44) (.tmp 50) 23 rfl (.slice pp 0 pc) (.slice (some ⟨wA.heap.size, 0, none⟩) 1 1) (.slice vp vn vc) wC (by simp [Act.eval, e0]) (by simp [Act.eval, e1]) hrun (hK' wC (hn gC))
    | 12, ho, hq, hl0 => simp at ho hq; subst hq; subst ho; have e0 := hsee.fu 0 40 rfl rfl; exact tA rfl (hJ.oth 12 hls (by decide)) fun _ => by simp [goPut, Oper.wp, execOp, Act.eval, e0, go_sem]
    | 13, ho, hq, hl0 => simp at ho hq; subst hq; subst ho; have e0 := hsee.fu 12 52 rfl rfl; exact tA rfl (hJ.oth 13 hls (by decide)) fun _ => by simp [goPut, Oper.wp, execOp, Act.eval, e0, go_sem]
    | 14, ho, hq, hl0 => simp at ho hq; subst hq; subst ho; have e0 := hsee.fu 13 53 rfl rfl; have e1 := hsee.fu 11 51 rfl rfl; refine .inr ⟨rfl, fun K' hK' => ?_⟩; obtain ⟨hw1, hn⟩ := hJ.third (by rw [hls]; decide) hl0 (hdeps ⟨11, .data⟩ (by simp) rfl) (by decide) (by decide) (by decide); subst hw1; refine cast ?_ (hK' _ (hn gD)); simp [goPut, Oper.wp, execOp, Act.eval, e0, e1, cC, fC, go_sem]
    | i + 15, ho, hq, hl0 => simp at ho
   ·intro listed w2 hall hJ; have hw2 := hJ.done (hall 14 (by decide)); subst hw2; simp only [List.filterMap_cons, List.filterMap_nil, id, puts, Act.put, List.setIfInBounds_toArray, List.set_cons_succ, List.set_cons_zero]; clear cA cB cC fC gA gB gC gD; go_wp2; go_ret; exact Zmd (l := ([] : List (FaD × Value)) ++ [(⟨ln.nm, ln.hp, 0, []⟩, .slice none 0 0)]) (by unfold tkH; rw [if_pos ⟨rfl, by decide, s1, s2, rfl⟩]; rfl) (KA.trans hKD) hRD
  ·have n2 : 200 < ln.hp.size := (by omega); go_wp2; go_ret; exact Zdh (by unfold tkH; rw [if_neg (by simp [s2])]) K1
 ·have n1 : 64 < ln.nm.size := (by omega); go_wp2; go_ret; exact Zdh (by unfold tkH; rw [if_neg (by simp [s1])]) K1

set_option maxHeartbeats 2000000 in
set_option maxRecDepth 100000 in
theorem Zme (R B : Nat) (gs : List (FaD × Value)) (p : FaD × Value) (ln : LnD) (v : Value) (w : World) (h : RdM w R B (gs ++ [p])) (hB : B ≤ w.heap.size) (hn : gs.length < 100) (hss : p.1.ss.length ≤ 4000000) (hs : ln.nm.size ≤ 200000000 ∧ ln.hp.size ≤ 200000000) :
  Calls Tryd.prog 78 #[.pointer (some ⟨R, 0, none⟩), lnV ln v] w (TkOut R B w (tkH (fsts (gs ++ [p])) ln)) := by
 have hb1 : Below w.heap.size w (w.alloc (.cells #[.int .i64 ln.kd, .string ln.nm, .string ln.hp, .int .i64 ln.of, .string ln.sm.nm, v, .int .i64 ln.sm.v] 73)) := (Below.refl _ _).alloc (Nat.le_refl _) _; have hR1 := h.below hb1; have hl1 := heap_alloc_new w (.cells #[.int .i64 ln.kd, .string ln.nm, .string ln.hp, .int .i64 ln.of, .string ln.sm.nm, v, .int .i64 ln.sm.v] 73); have hlw : Zbt (fsts (gs ++ [p])) = Zb8 p.1 := (by unfold Zbt fsts; simp); have hla : Zd9 (fsts (gs ++ [p])) ln.nm = !sge p.1.nm ln.nm := (by unfold Zd9 fsts; simp); have hlen : (fsts (gs ++ [p])).length = gs.length + 1 := by unfold fsts; simp
 go_enter Tryd.func78, Tryd.ntmps78
 go_wp2_with (go_at_call 32; fail)
 generalize w.alloc (.cells #[.int .i64 ln.kd, .string ln.nm, .string ln.hp, .int .i64 ln.of, .string ln.sm.nm, v, .int .i64 ln.sm.v] 73) = w1 at *; obtain ⟨g, cap, hLa⟩ := hR1.last; have hW := Zla R B g gs.length cap p w1 hLa (by omega) hss; have K1 := KeptB.of_below (R := R) hb1 hB; have hbs : w.heap.size < w1.heap.size := (Array.getElem?_eq_some_iff.1 hl1).1; have hBq : B ≤ w1.heap.size := Nat.le_trans hB hb1.size; clear h; refine hW.mono ?_; clear hW; rintro e w2 ⟨rfl, h⟩; obtain rfl := h.symm; have c0 := Zab (w := w1) hLa.rd 0; have bx1 := Zab (w := w1) hl1 1; have bx2 := Zab (w := w1) hl1 2; simp only [List.getElem?_toArray, List.getElem?_cons_succ, List.getElem?_cons_zero] at c0 bx1 bx2
 cases hwf : Zb8 p.1 with
 | false => go_wp2; go_ret; exact Zdh (by unfold tkH; rw [if_neg (by rw [hlw, hwf]; simp)]) K1.drew
 | true =>
  by_cases s0 : gs.length + 1 < 40
  ·have n0 : ¬ 40 ≤ gs.length + 1 := (by omega); by_cases s1 : ln.nm.size ≤ 64
   ·have n1 : ¬ 64 < ln.nm.size := (by omega); by_cases s2 : ln.hp.size ≤ 200
    ·have n2 : ¬ 200 < ln.hp.size := (by omega); have hL := Zg6 R gs.length cap g w1.drew hLa.rd (by omega); have d0 := hLa.c0; have hcmp : ∀ w : World, (binOp BinOp.geq 9 (.string p.1.nm) (.string ln.nm)).run Tryd.prog w = .ok (.bool (sge p.1.nm ln.nm)) w := fun _ => rfl
     go_wp2_with (go_at_call 79; refine hL.mono ?_; rintro e w' ⟨rfl, h⟩; obtain rfl := h.symm)
     cases hge : sge p.1.nm ln.nm with
     | true => rw [hge] at hcmp; go_region; go_wp2; go_ret; exact Zdh (by unfold tkH; rw [if_neg (by rw [hla, hge]; simp)]) K1.drew.drew.drew
     | false =>
      rw [hge] at hcmp; go_region; go_wp2; have hRq : RdM w1.drew.drew.drew R B (gs ++ [p]) := hR1.drew.drew.drew; have hlq : w1.drew.drew.drew.heap[w.heap.size]? = _ := hl1; have Kq := K1.drew.drew.drew; have hBq : B ≤ w1.drew.drew.drew.heap.size := hBq; have h1q : w1.drew.drew.drew.heap[R]? = _ := hLa.rd; have h2q : FamM w1.drew.drew.drew B (.slice (some ⟨g, 0, none⟩) (gs.length + 1) cap) (gs ++ [p]) := (by obtain ⟨_, fv, e1, e2⟩ := hRq; rw [h1q] at e1; simp only [Option.some.injEq, Obj.cells.injEq, Array.mk.injEq, List.cons.injEq, and_true] at e1; rw [e1]; exact e2); clear hL K1 hLa hR1 hl1 c0 bx1 bx2 hb1 d0 hcmp; generalize w1.drew.drew.drew = wq at *; generalize hbx : w.heap.size = bx at *; have hRA := hRq.drew; have hlA : wq.drew.heap[bx]? = some (.cells #[.int .i64 ln.kd, .string ln.nm, .string ln.hp, .int .i64 ln.of, .string ln.sm.nm, v, .int .i64 ln.sm.v] 73 (0, 0)) := hlq; have KA := Kq.drew; have hBA : B ≤ wq.drew.heap.size := hBq; have h1A : wq.drew.heap[R]? = some (.cells #[.slice (some ⟨g, 0, none⟩) (gs.length + 1) cap] 69 (0, 0)) := h1q; have h2A : FamM wq.drew B (.slice (some ⟨g, 0, none⟩) (gs.length + 1) cap) (gs ++ [p]) := h2q.below (Below.refl _ _).drew; generalize hwA : wq.drew = wA at *; obtain ⟨v', wC, hrun, hkeep, ⟨vp, vn, vc, rfl⟩, hRD, hKD⟩ := Zsh wA R B (.slice (some ⟨g, 0, none⟩) (gs.length + 1) cap) (gs ++ [p]) ln.nm ln.hp hRA.lt hBA h1A h2A (by simp; omega); have hlC := (hkeep bx 73 _ hlA (by decide)).trans hlA; have h1C := (hkeep R 69 _ h1A (by decide)).trans h1A; have cA := Zab h1A 0; have cC := Zab h1C 0; have fC : wC.frozen? ⟨R, 0, none⟩ = false := (by simp [World.frozen?, h1C]); have bB : Below wA.heap.size wA (wA.alloc (.cells #[.string ln.nm, .string ln.hp, .int .i64 0, .slice none 0 0] 60)) := (Below.refl _ _).alloc (Nat.le_refl _) _; have h1B := (bB.block _ (Array.getElem?_eq_some_iff.1 h1A).1).trans h1A; have hlB := (bB.block _ (Array.getElem?_eq_some_iff.1 hlA).1).trans hlA; have cB := Zab h1B 0; simp only [List.getElem?_toArray, List.getElem?_cons_zero] at cA cB cC; have hbR : bx ≠ R := (by intro e; subst e; rw [h1A] at hlA; simp at hlA); have hlD := (Below.heap_setCell wC ⟨R, 0, none⟩ (.slice vp vn vc) bx hbR).trans hlC; have gA1 := Zab hlA 1; have gA2 := Zab hlA 2; have gB1 := Zab hlB 1; have gB2 := Zab hlB 2; have gC1 := Zab hlC 1; have gC2 := Zab hlC 2; have gD1 := Zab hlD 1; have gD2 := Zab hlD 2; simp only [List.getElem?_toArray, List.getElem?_cons_succ, List.getElem?_cons_zero] at gA1 gA2 gB1 gB2 gC1 gC2 gD1 gD2; have gA := And.intro gA1 gA2; have gB := And.intro gB1 gB2; have gC := And.intro gC1 gC2; have gD := And.intro gD1 gD2; clear gA1 gA2 gB1 gB2 gC1 gC2 gD1 gD2 h1B hlB bB hlD hlC hlA h1A h1C; refine wp_region_any (by kernel_rfl) ?_; rw [show ({ heap := wq.heap, tape := wq.tape, drawn := wq.drawn + 1, os := wq.os, output := wq.output } : World) = wA from hwA]; refine Zcc (J3 10 11 14 4 (fun w => w.cell? ⟨bx, 1, none⟩ = some (.string ln.nm) ∧ w.cell? ⟨bx, 2, none⟩ = some (.string ln.hp)) wA (wA.alloc (.cells #[.string ln.nm, .string ln.hp, .int .i64 0, .slice none 0 0] 60)) wC (wC.setCell ⟨R, 0, none⟩ (.slice vp vn vc))) [some (40, .pointer (some ⟨R, 0, none⟩)), some (41, .pointer (some ⟨R, 0, none⟩)), some (42, .pointer (some ⟨R, 0, none⟩)), some (43, .pointer (some ⟨R, 0, none⟩)), some (44, .slice (some ⟨g, 0, none⟩) (gs.length + 1) cap), some (45, .pointer (some ⟨bx, 1, none⟩)), some (46, .string ln.nm), some (47, .pointer (some ⟨bx, 2, none⟩)), some (48, .string ln.hp), some (49, .agg #[.string ln.nm, .string ln.hp, .int .i64 0, .slice none 0 0]), some (50, .slice (some ⟨wA.heap.size, 0, none⟩) 1 1), some (51, .slice vp vn vc), some (52, .pointer (some ⟨R, 0, none⟩)), some (53, .pointer (some ⟨R, 0, none⟩)), none] rfl (by show List.Nodup [40, 41, 42, 43, 44, 45, 46, 47, 48, 49, 50, 51, 52, 53]; decide) (by simp) (J3.start _ gA) ?_ ?_ (Zd8 rfl)
      ·intro i o q listed act w1 ho hq hsee hl0 hls hdeps hJ
       match i, ho, hq, hl0 with
       | 0, ho, hq, hl0 => simp at ho hq; subst hq; subst ho; have e0 : act.tmps.getD 0 undef = _ := hsee.old 0 rfl; simp at e0; exact tA rfl (hJ.oth 0 hls (by decide)) fun _ => by simp [goPut, Oper.wp, execOp, Act.eval, e0, go_sem]
       | 1, ho, hq, hl0 => simp at ho hq; subst hq; subst ho; have e0 : act.tmps.getD 0 undef = _ := hsee.old 0 rfl; simp at e0; exact tA rfl (hJ.oth 1 hls (by decide)) fun _ => by simp [goPut, Oper.wp, execOp, Act.eval, e0, go_sem]
       | 2, ho, hq, hl0 => simp at ho hq; subst hq; subst ho; have e0 := hsee.fu 1 41 rfl rfl; exact tA rfl (hJ.oth 2 hls (by decide)) fun _ => by simp [goPut, Oper.wp, execOp, Act.eval, e0, go_sem]
       | 3, ho, hq, hl0 => simp at ho hq; subst hq; subst ho; have e0 := hsee.fu 2 42 rfl rfl; exact tA rfl (hJ.oth 3 hls (by decide)) fun _ => by simp [goPut, Oper.wp, execOp, Act.eval, e0, go_sem]
       | 4, ho, hq, hl0 =>
        simp at ho hq; subst hq; subst ho; have e0 := hsee.fu 3 43 rfl rfl; have c0 : w1.cell? ⟨R, 0, none⟩ = some (.slice (some ⟨g, 0, none⟩) (gs.length + 1) cap) := by rcases hJ.early hl0 with rfl | rfl; exact cA; exact cB
        exact tA rfl (hJ.oth 4 hls (by decide)) fun _ => by simp [goPut, Oper.wp, execOp, Act.eval, e0, go_sem, c0]
       | 5, ho, hq, hl0 => simp at ho hq; subst hq; subst ho; have e0 : act.tmps.getD 3 undef = _ := hsee.old 3 rfl; simp at e0; exact tA rfl (hJ.oth 5 hls (by decide)) fun _ => by simp [goPut, Oper.wp, execOp, Act.eval, e0, go_sem]
       | 6, ho, hq, hl0 => simp at ho hq; subst hq; subst ho; have e0 := hsee.fu 5 45 rfl rfl; have c1 := hJ.g.1; exact tA rfl (hJ.oth 6 hls (by decide)) fun _ => by simp [goPut, Oper.wp, execOp, Act.eval, e0, go_sem, c1]
       | 7, ho, hq, hl0 => simp at ho hq; subst hq; subst ho; have e0 : act.tmps.getD 3 undef = _ := hsee.old 3 rfl; simp at e0; exact tA rfl (hJ.oth 7 hls (by decide)) fun _ => by simp [goPut, Oper.wp, execOp, Act.eval, e0, go_sem]
       | 8, ho, hq, hl0 => simp at ho hq; subst hq; subst ho; have e0 := hsee.fu 7 47 rfl rfl; have c2 := hJ.g.2; exact tA rfl (hJ.oth 8 hls (by decide)) fun _ => by simp [goPut, Oper.wp, execOp, Act.eval, e0, go_sem, c2]
       | 9, ho, hq, hl0 => simp at ho hq; subst hq; subst ho; have e0 := hsee.fu 6 46 rfl rfl; have e1 := hsee.fu 8 48 rfl rfl; exact tA rfl (hJ.oth 9 hls (by decide)) fun _ => by simp [goPut, Oper.wp, execOp, Act.eval, e0, e1, go_sem]
       | 10, ho, hq, hl0 =>
        simp at ho hq; subst hq; subst ho; have e0 := hsee.fu 9 49 rfl rfl; refine .inr ⟨rfl, fun K' hK' => ?_⟩; obtain ⟨hw1, hn⟩ := hJ.first (by rw [hls]; decide) hl0 (by decide) (by decide)
        subst hw1; refine cast ?_ (hK' _ (hn gB)); simp [goPut, Oper.wp, execOp, Act.eval, e0, go_sem]
       | 11, ho, hq, hl0 => simp at ho hq; subst hq; subst ho; have e0 := hsee.fu 4 44 rfl rfl; have e1 := hsee.fu 10 50 rfl rfl; refine .inr ⟨rfl, fun K' hK' => ?_⟩; obtain ⟨hw1, hn⟩ := hJ.second (by rw [hls]; decide) hl0 (hdeps ⟨10, .data⟩ (by simp) rfl) (hdeps ⟨4, .data⟩ (by simp) rfl) (by decide) (by decide) (by decide); subst hw1; exact Zcg (.tmp 44) (.tmp 50) 23 rfl (.slice (some ⟨g, 0, none⟩) (gs.length + 1) cap) (.slice (some ⟨wA.heap.size, 0, none⟩) 1 1) (.slice vp vn vc) wC (by simp [Act.eval, e0]) (by simp [Act.eval, e1]) hrun (hK' wC (hn gC))
       | 12, ho, hq, hl0 => simp at ho hq; subst hq; subst ho; have e0 := hsee.fu 0 40 rfl rfl; exact tA rfl (hJ.oth 12 hls (by decide)) fun _ => by simp [goPut, Oper.wp, execOp, Act.eval, e0, go_sem]
       | 13, ho, hq, hl0 => simp at ho hq; subst hq; subst ho; have e0 := hsee.fu 12 52 rfl rfl; exact tA rfl (hJ.oth 13 hls (by decide)) fun _ => by simp [goPut, Oper.wp, execOp, Act.eval, e0, go_sem]
       | 14, ho, hq, hl0 => simp at ho hq; subst hq; subst ho; have e0 := hsee.fu 13 53 rfl rfl; have e1 := hsee.fu 11 51 rfl rfl; refine .inr ⟨rfl, fun K' hK' => ?_⟩; obtain ⟨hw1, hn⟩ := hJ.third (by rw [hls]; decide) hl0 (hdeps ⟨11, .data⟩ (by simp) rfl) (by decide) (by decide) (by decide); subst hw1; refine cast ?_ (hK' _ (hn gD)); simp [goPut, Oper.wp, execOp, Act.eval, e0, e1, cC, fC, go_sem]
       | i + 15, ho, hq, hl0 => simp at ho
      ·intro listed w2 hall hJ; have hw2 := hJ.done (hall 14 (by decide)); subst hw2; simp only [List.filterMap_cons, List.filterMap_nil, id, puts, Act.put, List.setIfInBounds_toArray, List.set_cons_succ, List.set_cons_zero]; clear cA cB cC fC gA gB gC gD; go_wp2; go_ret; exact Zmd (l := (gs ++ [p]) ++ [(⟨ln.nm, ln.hp, 0, []⟩, .slice none 0 0)]) (by unfold tkH; rw [if_pos ⟨by rw [hlw, hwf], by rw [hlen]; exact s0, s1, s2, by rw [hla, hge]; rfl⟩]; simp [fsts]) (KA.trans hKD) hRD
    ·have n2 : 200 < ln.hp.size := (by omega); go_wp2; go_ret; exact Zdh (by unfold tkH; rw [if_neg (by simp [s2])]) K1.drew
   ·have n1 : 64 < ln.nm.size := (by omega); go_wp2; go_ret; exact Zdh (by unfold tkH; rw [if_neg (by simp [s1])]) K1.drew
  ·have n0 : 40 ≤ gs.length + 1 := (by omega); go_wp2; go_ret; exact Zdh (by unfold tkH; rw [if_neg (by rw [hlen]; simp [s0])]) K1.drew

structure RdZ (l : List (FaD × Value)) : Prop where
 le : l.length ≤ 90
 ss : ∀ p ∈ l, p.1.ss.length ≤ 4000000
theorem Zmf (R B : Nat) (l : List (FaD × Value)) (ln : LnD) (v : Value) (w : World) (h : RdM w R B l) (hB : B ≤ w.heap.size) (hz : RdZ l) (hs : ln.nm.size ≤ 200000000 ∧ ln.hp.size ≤ 200000000) :
  Calls Tryd.prog 78 #[.pointer (some ⟨R, 0, none⟩), lnV ln v] w (TkOut R B w (tkH (fsts l) ln)) := by
 rcases List.eq_nil_or_concat l with rfl | ⟨gs, p, rfl⟩
 ·exact Zni R B ln v w h hB hs
 ·rw [List.concat_eq_append] at *; exact Zme R B gs p ln v w h hB (by have := hz.le; simp at this; omega) (hz.ss p (by simp)) hs
theorem Zdi (fs : List FaD) (nm hp : ByteArray) (of : Int) (sm : SmD) : tk fs ⟨1, nm, hp, of, sm⟩ = tkH fs ⟨1, nm, hp, of, sm⟩ := by unfold tk tkH; rw [if_pos rfl]
theorem TkOut.from {R B : Nat} {w w1 : World} {r : Option (List FaD)} {e : Ending} {w' : World} (h : TkOut R B w1 r e w') (k : KeptB R B w w1) : TkOut R B w r e w' := ⟨k.trans h.1, h.2⟩

set_option maxHeartbeats 1000000 in
set_option maxRecDepth 100000 in
theorem Zsi (R B : Nat) (l : List (FaD × Value)) (nm hp : ByteArray) (of : Int) (sm : SmD) (v : Value) (hv : ∃ p n c, v = .slice p n c) (w : World) (h : RdM w R B l) (hB : B ≤ w.heap.size) (hz : RdZ l) (hs : nm.size ≤ 200000000 ∧ hp.size ≤ 200000000) :
  Calls Tryd.prog 31 #[.pointer (some ⟨R, 0, none⟩), lnV ⟨1, nm, hp, of, sm⟩ v] w (TkOut R B w (tk (fsts l) ⟨1, nm, hp, of, sm⟩)) := by
 obtain ⟨vp, vn, vc, rfl⟩ := hv; rw [Zdi]; have hb1 : Below w.heap.size w (w.alloc (.cells #[.int .i64 1, .string nm, .string hp, .int .i64 of, .string sm.nm, .slice vp vn vc, .int .i64 sm.v] 73)) := (Below.refl _ _).alloc (Nat.le_refl _) _; have hR1 := h.below hb1; have hl1 := heap_alloc_new w (.cells #[.int .i64 1, .string nm, .string hp, .int .i64 of, .string sm.nm, .slice vp vn vc, .int .i64 sm.v] 73); have K1 := KeptB.of_below (R := R) hb1 hB; have hB1 : B ≤ (w.alloc (.cells #[.int .i64 1, .string nm, .string hp, .int .i64 of, .string sm.nm, .slice vp vn vc, .int .i64 sm.v] 73)).heap.size := Nat.le_trans hB hb1.size; have hW := Zmf R B l ⟨1, nm, hp, of, sm⟩ (.slice vp vn vc) _ hR1 hB1 hz hs; have bxc := fun i => Zab hl1 i; have b0 := bxc 0; have b1 := bxc 1; have b2 := bxc 2; have b3 := bxc 3; have b4 := bxc 4; have b5 := bxc 5; have b6 := bxc 6; simp only [List.getElem?_toArray, List.getElem?_cons_succ, List.getElem?_cons_zero] at b0 b1 b2 b3 b4 b5 b6; clear bxc hl1 h hR1
 go_enter Tryd.func31, Tryd.ntmps31
 go_wp2_with (go_at_call 78; fail)
 refine hW.mono ?_; rintro e w2 hT; have hT2 := hT.from K1; clear hW hT
 cases hr : tkH (fsts l) ⟨1, nm, hp, of, sm⟩ with
 | none => rw [hr] at hT2; have he : e = .returned (.bool false) := hT2.2; subst he; clear K1 hB1 hb1; go_wp2; go_ret; rw [hr]; exact hT2
 | some fs => rw [hr] at hT2; have he : e = .returned (.bool true) := hT2.2.1; subst he; clear K1 hB1 hb1; go_wp2; go_ret; rw [hr]; exact hT2

theorem Zaf {w w' : World} (hb : Below w.heap.size w w') {a : Addr} {v : Value} (h : w.cell? a = some v) : w'.cell? a = some v :=
 (hb.cell (World.block_lt_of_cell? w _ h)).trans h
theorem Zwy {w : World} {R B g cap : Nat} {gs : List (FaD × Value)} {p : FaD × Value} (hR : R < B) (h1 : w.heap[R]? = some (.cells #[.slice (some ⟨g, 0, none⟩) (gs.length + 1) cap] 69 (0, 0))) (h2 : FamM w B (.slice (some ⟨g, 0, none⟩) (gs.length + 1) cap) (gs ++ [p])) (j : Nat) (u : Value) (q : FaD × Value)
  (hq : (Za4 (gs ++ [p])).set (gs.length * 4 + j) u = Za4 (gs ++ [q])) (hsam : ∃ l : List (SmD × Value), q.1.ss = l.map (·.1) ∧ SamM w B q.2 l) (hsep : ∀ x ∈ gs, x.2.ownBlock = none ∨ x.2.ownBlock ≠ q.2.ownBlock) :
  RdM (w.setCell ⟨g, gs.length * 4 + j, none⟩ u) R B (gs ++ [q]) ∧ KeptB R B w (w.setCell ⟨g, gs.length * 4 + j, none⟩ u) := by
 have hlen : (gs ++ [p]).length = gs.length + 1 := (by simp); have hlen2 : (gs ++ [q]).length = gs.length + 1 := (by simp); have hr := h2.row; rw [hlen] at hr; obtain ⟨s1, s2⟩ := hr.stored (gs.length * 4 + j) u; have hgB : B ≤ g := (hr.lt g rfl).1; have hkeep : ∀ {b e sz n : Nat} {v : Value} {xs : List Value}, e ≠ 60 → w.ownsRow b e sz v n xs → (w.setCell ⟨g, gs.length * 4 + j, none⟩ u).ownsRow b e sz v n xs := fun he h => h.kept s2 (Zc0 h hr he); refine ⟨⟨hR, .slice (some ⟨g, 0, none⟩) (gs.length + 1) cap, (Below.heap_setCell _ _ _ _ (by show R ≠ g; omega)).trans h1, ?_, fun x hx => ?_, ?_⟩, ?_⟩
 ·rw [hlen2, ← hq]; exact s1
 ·rcases List.mem_append.1 hx with hx | hx
  ·obtain ⟨l, e, hl⟩ := h2.sam x (by simp [hx]); exact ⟨l, e, hkeep (by decide) hl.row, fun y hy => hkeep (by decide) (hl.lab y hy)⟩
  ·have : x = q := (by simpa using hx); subst this; obtain ⟨l, e, hl⟩ := hsam; exact ⟨l, e, hkeep (by decide) hl.row, fun y hy => hkeep (by decide) (hl.lab y hy)⟩
 ·refine List.pairwise_append.2 ⟨(List.pairwise_append.1 h2.sep).1, by simp, fun x hx y hy => ?_⟩; have : y = q := (by simpa using hy); subst this; exact hsep x hx
 ·exact ⟨rfl, rfl, rfl, by simp [World.setCell], fun k hk _ => Below.heap_setCell _ _ _ _ (by show k ≠ g; omega)⟩
theorem RdM.lastF {w : World} {R B : Nat} {gs : List (FaD × Value)} {p : FaD × Value} {g n cap : Nat} (h : RdM w R B (gs ++ [p])) (hL : LastAt w R B g n cap p) (hn : n = gs.length) : FamM w B (.slice (some ⟨g, 0, none⟩) (gs.length + 1) cap) (gs ++ [p]) := by
 subst hn; obtain ⟨_, fv, e1, e2⟩ := h; rw [hL.rd] at e1; simp only [Option.some.injEq, Obj.cells.injEq, Array.mk.injEq, List.cons.injEq, and_true] at e1; rw [e1]; exact e2
theorem Zd2 (gs : List (FaD × Value)) (p : FaD × Value) (j : Nat) (u : Value) : (Za4 (gs ++ [p])).set (gs.length * 4 + j) u = Za4 gs ++ [Value.string p.1.nm, .string p.1.hp, .int .i64 p.1.ty, p.2].set j u := by
 rw [Zbo, List.set_append_right _ _ (by rw [Zd1]; omega), Zd1]; congr 2; omega
theorem LastAt.below {w w' : World} {R B g n cap : Nat} {p : FaD × Value} (h : LastAt w R B g n cap p) (hb : Below w.heap.size w w') : LastAt w' R B g n cap p :=
 ⟨(hb.block _ (Array.getElem?_eq_some_iff.1 h.rd).1).trans h.rd, Zaf hb h.c0, Zaf hb h.c1, Zaf hb h.c2, Zaf hb h.c3, fun i => (hb.frozen (p := ⟨g, i, none⟩) (World.block_lt_of_cell? w ⟨g, n * 4, none⟩ h.c0)).trans (h.fz i), h.sv⟩

set_option maxHeartbeats 1000000 in
set_option maxRecDepth 100000 in
theorem Zmg (R B : Nat) (nm hp : ByteArray) (of : Int) (sm : SmD) (v : Value) (hv : ∃ p n c, v = .slice p n c) (w : World) (h : RdM w R B []) (hB : B ≤ w.heap.size) :
  Calls Tryd.prog 31 #[.pointer (some ⟨R, 0, none⟩), lnV ⟨2, nm, hp, of, sm⟩ v] w (TkOut R B w (tk [] ⟨2, nm, hp, of, sm⟩)) := by
 obtain ⟨vp, vn, vc, rfl⟩ := hv; have hb1 : Below w.heap.size w (w.alloc (.cells #[.int .i64 2, .string nm, .string hp, .int .i64 of, .string sm.nm, .slice vp vn vc, .int .i64 sm.v] 73)) := (Below.refl _ _).alloc (Nat.le_refl _) _; have hR1 := h.below hb1; have hl1 := heap_alloc_new w (.cells #[.int .i64 2, .string nm, .string hp, .int .i64 of, .string sm.nm, .slice vp vn vc, .int .i64 sm.v] 73); have K1 := KeptB.of_below (R := R) hb1 hB; have hL := Zg5 R B _ hR1; have b0 := Zab hl1 0; simp only [List.getElem?_toArray, List.getElem?_cons_zero] at b0; clear hl1 h hR1
 go_enter Tryd.func31, Tryd.ntmps31
 go_wp2_with (go_at_call 79; refine hL.mono ?_; rintro e w' ⟨rfl, h⟩; subst h)
 go_region; go_wp2; go_ret; exact Zdh rfl K1.drew
set_option maxHeartbeats 1000000 in
set_option maxRecDepth 100000 in
theorem Zkt (R B : Nat) (gs : List (FaD × Value)) (p : FaD × Value) (nm hp : ByteArray) (of : Int) (sm : SmD) (v : Value) (hv : ∃ p n c, v = .slice p n c) (w : World) (h : RdM w R B (gs ++ [p])) (hB : B ≤ w.heap.size) (hn : gs.length < 100) :
  Calls Tryd.prog 31 #[.pointer (some ⟨R, 0, none⟩), lnV ⟨2, nm, hp, of, sm⟩ v] w (TkOut R B w (tk (fsts (gs ++ [p])) ⟨2, nm, hp, of, sm⟩)) := by
 obtain ⟨vp, vn, vc, rfl⟩ := hv; have htk : tk (fsts (gs ++ [p])) ⟨2, nm, hp, of, sm⟩ = if p.1.ty = 0 ∧ p.1.nm = nm then some (fsts gs ++ [⟨p.1.nm, p.1.hp, of, p.1.ss⟩]) else none := (by unfold tk fsts; rw [if_neg (by show ¬ (2 : Int) = 1; decide)]; simp); have hb1 : Below w.heap.size w (w.alloc (.cells #[.int .i64 2, .string nm, .string hp, .int .i64 of, .string sm.nm, .slice vp vn vc, .int .i64 sm.v] 73)) := (Below.refl _ _).alloc (Nat.le_refl _) _; have hR1 := h.below hb1; have hl1 := heap_alloc_new w (.cells #[.int .i64 2, .string nm, .string hp, .int .i64 of, .string sm.nm, .slice vp vn vc, .int .i64 sm.v] 73); have K1 := KeptB.of_below (R := R) hb1 hB; obtain ⟨g, cap, hLa⟩ := hR1.last; have hF := hR1.lastF hLa rfl; have hL := Zg6 R gs.length cap g _ hLa.rd (by omega); have b0 := Zab hl1 0; have b1 := Zab hl1 1; have b3 := Zab hl1 3; simp only [List.getElem?_toArray, List.getElem?_cons_succ, List.getElem?_cons_zero] at b0 b1 b3; have c0 := hLa.c0; have c2 := hLa.c2; have fz := hLa.fz (gs.length * 4 + 2); have hRl := hR1.lt; rw [htk]; by_cases h0 : p.1.ty = 0
 ·by_cases hm : p.1.nm = nm
  ·subst hm; rw [if_pos ⟨h0, rfl⟩]
   have hset := Zwy (w := (w.alloc (.cells #[.int .i64 2, .string p.1.nm, .string hp, .int .i64 of, .string sm.nm, .slice vp vn vc, .int .i64 sm.v] 73)).drew.drew) hRl hLa.rd (hF.below ((Below.refl _ _).drew.drew)) 2 (.int .i64 of) (⟨p.1.nm, p.1.hp, of, p.1.ss⟩, p.2) (by rw [Zd2, Zbo]; rfl) (by
     obtain ⟨l, e, hl⟩ := (hF.below ((Below.refl _ _).drew.drew)).sam p (by simp)
     exact ⟨l, e, hl⟩) (fun x hx => (List.pairwise_append.1 hF.sep).2.2 x hx p (by simp))
   obtain ⟨r1, r2⟩ := hset; rw [h0] at c2; have K2 := K1.drew.drew.trans r2; clear hl1 h hR1 hF hLa K1 r2
   go_enter Tryd.func31, Tryd.ntmps31
   go_wp2_with (go_at_call 79; refine hL.mono ?_; rintro e w' ⟨rfl, h⟩; subst h)
   go_region; go_wp2; go_ret; exact Zmd (by simp [fsts]) K2 r1
  ·rw [if_neg (fun e => hm e.2)]; rw [h0] at c2; have hne : (p.1.nm.toList == nm.toList) = false := (by rw [show (p.1.nm.toList == nm.toList) = seq p.1.nm nm from rfl, Go.Px.seq_d]; simp [hm]); clear hl1 h hR1 hF hLa
   go_enter Tryd.func31, Tryd.ntmps31
   go_wp2_with (go_at_call 79; refine hL.mono ?_; rintro e w' ⟨rfl, h⟩; subst h)
   go_region; go_wp2; go_ret; exact Zdh rfl K1.drew.drew
 ·have i0 : (p.1.ty != 0) = true := (by simp [h0]); rw [if_neg (fun e => h0 e.1)]; clear hl1 h hR1 hF hLa
  go_enter Tryd.func31, Tryd.ntmps31
  go_wp2_with (go_at_call 79; refine hL.mono ?_; rintro e w' ⟨rfl, h⟩; subst h)
  go_region; go_wp2; go_ret; exact Zdh rfl K1.drew.drew
end Go.Proofs.YtknnooannohflaaDoor.Prs

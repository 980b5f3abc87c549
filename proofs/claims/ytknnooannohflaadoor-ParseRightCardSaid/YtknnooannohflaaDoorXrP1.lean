/- Layer 28: what the parse side says of a line that does not end is what it says of one that does, or its length. -/
import Derived.Test.YtknnooannohflaaDoorPaA1
import Derived.Test.YtknnooannohflaaDoorPsI1
import Derived.Test.YtknnooannohflaaDoorXrG1
namespace Go.Proofs.YtknnooannohflaaDoor.Prs
open Go Go.Proofs Go.RowKit Go.Px Trm Exp Met
set_option linter.unusedVariables false

theorem Zuz {t : Tx} {l : LnD} {b : Nat} (hp : pLine t = .ok (l, b)) (ht : 10 ∉ t) (hb2 : ¬ b < t.length) : b = t.length := by
 have ht0 : 10 ∉ t.drop 0 := ht; unfold pLine at hp
 cases hx : t[0]? with
 | none => rw [hx] at hp; cases hp
 | some x =>
  rw [hx] at hp; simp only at hp
  split at hp
  ·cases h1 : pNeed t [35, 32] 0 with
   | error e => rw [h1] at hp; cases hp
   | ok q1 =>
    obtain ⟨u1, b1⟩ := q1; rw [h1] at hp; simp only at hp
    cases hy : t[b1]? with
    | none => rw [hy] at hp; cases hp
    | some y =>
     rw [hy] at hp; simp only at hp
     split at hp
     ·unfold pHelp at hp
      cases h2 : pNeed t Zdt b1 with
      | error e => rw [h2] at hp; cases hp
      | ok q2 =>
       obtain ⟨u2, b2⟩ := q2; rw [h2] at hp; simp only at hp
       cases h3 : pName t b2 with
       | error e => rw [h3] at hp; cases hp
       | ok q3 =>
        obtain ⟨nm, b3⟩ := q3; rw [h3] at hp; simp only at hp
        cases h4 : pNeed t [32] b3 with
        | error e => rw [h4] at hp; cases hp
        | ok q4 =>
         obtain ⟨u4, b4⟩ := q4; rw [h4] at hp; simp only at hp; obtain ⟨m1, m2⟩ := Zct h4
         cases h5 : pEsc false t b4 with
         | error e => rw [h5] at hp; cases hp
         | ok q5 =>
          obtain ⟨hp', b5⟩ := q5; rw [h5] at hp
          cases hp
          obtain ⟨r, e1, e2, e3⟩ := Zn2 _ (Nat.le_refl _) h5 (Zfr (Nat.zero_le _) ht0)
          have er : r = [] := by
           rcases e3 with e3 | ⟨e3, _⟩
           ·exact e3
           ·cases e3
          subst er; rw [List.append_nil] at e1; have l1 := congrArg List.length e1; have l2 := congrArg List.length m2; simp only [List.length_drop, List.length_append, List.length_singleton] at l1 l2 m1; omega
     ·unfold pType at hp
      cases h2 : pNeed t Zhp b1 with
      | error e => rw [h2] at hp; cases hp
      | ok q2 =>
       obtain ⟨u2, b2⟩ := q2; rw [h2] at hp; simp only at hp
       cases h3 : pName t b2 with
       | error e => rw [h3] at hp; cases hp
       | ok q3 =>
        obtain ⟨nm, b3⟩ := q3; rw [h3] at hp; simp only at hp
        cases h4 : pNeed t [32] b3 with
        | error e => rw [h4] at hp; cases hp
        | ok q4 =>
         obtain ⟨u4, b4⟩ := q4; rw [h4] at hp; simp only at hp; obtain ⟨m1, m2⟩ := Zct h4
         cases h5 : pKind t b4 with
         | error e => rw [h5] at hp; cases hp
         | ok q5 =>
          obtain ⟨k, b5⟩ := q5; rw [h5] at hp
          cases hp
          obtain ⟨e1, e2, e3⟩ := Ztk h5; have l1 := congrArg List.length e2; have l2 := congrArg List.length m2; simp only [List.length_drop, List.length_append, List.length_singleton] at l1 l2 m1; omega
  ·cases h1 : pSamp t 0 with
   | error e => rw [h1] at hp; cases hp
   | ok q1 =>
    obtain ⟨x1, b1⟩ := q1; rw [h1] at hp
    cases hp
    obtain ⟨g1, g2, g3⟩ := Ztj h1 ht; rw [g3, ← Ztl g2 g3 hb2]
theorem Zu0 {t : Tx} (ht : 10 ∉ t) : pRead t false = .error (match pRead t true with | .error b => b | .ok _ => t.length) := by
 unfold pRead
 cases hp : pLine t with
 | error e => rfl
 | ok q =>
  obtain ⟨l, b⟩ := q; simp only; rw [if_pos (.inr trivial)]; by_cases hb : b < t.length
  ·rw [if_pos (.inl hb)]
  ·rw [if_neg (by rintro (h | h); exact hb h; cases h)]; simp only; rw [Zuz hp ht hb]
theorem Zu1 {t : Tx} (h : Zbu t = []) : Zak t = t ∧ 10 ∉ t := by
 have h1 := List.takeWhile_append_dropWhile (p := (· != 10)) (l := t); unfold Zbu at h; rw [h, List.append_nil] at h1; refine ⟨h1, fun hm => ?_⟩; rw [← h1] at hm; have := Zql hm; simp at this

def StQ (la : Int) (fs : List FaD) : Prop := match fs.getLast? with
 | none => la = 0
 | some f => if f.ty = 0 then la = 1 else la = 2 ∨ la = 3
theorem Ziz {la : Int} {gs : List FaD} {f : FaD} (h : StQ la (gs ++ [f])) : if f.ty = 0 then la = 1 else la = 2 ∨ la = 3 := by
 unfold StQ at h
 simpa using h
theorem stQ_to {la : Int} {gs : List FaD} {f : FaD} (h : if f.ty = 0 then la = 1 else la = 2 ∨ la = 3) : StQ la (gs ++ [f]) := by
 unfold StQ
 simpa using h
end Go.Proofs.YtknnooannohflaaDoor.Prs

namespace Go.Proofs.YtknnooannohflaaDoor.Prs
open Go Go.Proofs Go.RowKit Go.Px Trm Exp Met
set_option linter.unusedVariables false
set_option maxRecDepth 100000

def offM (M : Hp) (v : Value) : Prop := ∀ k, v.ownBlock = some k → ∀ o, M k o = none
structure SamQ (w : World) (M : Hp) (B : Nat) (sv : Value) (l : List (SmD × Value)) : Prop where
 row : w.ownsRow B 63 3 sv l.length (Zdb l)
 lab : ∀ p ∈ l, PRep M p.2 (SL 2 (laR p.1.ls)) ∧ p.2.oneCell' = true
structure FamQ (w : World) (M : Hp) (B : Nat) (fv : Value) (l : List (FaD × Value)) : Prop where
 row : w.ownsRow B 60 4 fv l.length (Za4 l)
 sam : ∀ p ∈ l, ∃ q : List (SmD × Value), p.1.ss = q.map (·.1) ∧ SamQ w M B p.2 q
 sep : l.Pairwise fun p q => p.2.ownBlock = none ∨ p.2.ownBlock ≠ q.2.ownBlock
 offF : offM M fv
 offS : ∀ p ∈ l, offM M p.2
 sub : HSub M w

theorem Zp3 (M : Hp) : offM M (.slice none 0 0) := fun k h => by simp [Value.ownBlock] at h
theorem SamQ.grown {w w' : World} {M : Hp} {B : Nat} {sv : Value} {l : List (SmD × Value)} {row : Option Nat} (h : SamQ w M B sv l) (hg : w.grownBy w' row) (h1 : sv.ownBlock = none ∨ sv.ownBlock ≠ row) : SamQ w' M B sv l := ⟨h.row.kept hg h1, h.lab⟩
theorem SamQ.le {w : World} {M M' : Hp} {B : Nat} {sv : Value} {l : List (SmD × Value)} (h : SamQ w M B sv l) (hm : HLe M M') : SamQ w M' B sv l := ⟨h.row, fun p hp => ⟨(h.lab p hp).1.mono hm, (h.lab p hp).2⟩⟩
theorem FamQ.step {w w' : World} {M M' : Hp} {B : Nat} {fv : Value} {l : List (FaD × Value)} (h : FamQ w M B fv l) (hb : Below w.heap.size w w') (hm : HLe M M') (hs : HSub M' w') (ho : ∀ b, b < w.heap.size → ∀ o, M b o = none → M' b o = none) : FamQ w' M' B fv l := by
 have hg := Zdg (B := 0) hb; refine ⟨h.row.kept hg (Zb4 _), fun p hp => ?_, h.sep, fun k hk o => ho k (h.row.lt k hk).2 o (h.offF k hk o), fun p hp k hk o => ?_, hs⟩
 ·obtain ⟨q, e, hq⟩ := h.sam p hp; exact ⟨q, e, (hq.grown hg (Zb4 _)).le hm⟩
 ·obtain ⟨q, e, hq⟩ := h.sam p hp; exact ho k (hq.row.lt k hk).2 o (h.offS p hp k hk o)
theorem FamQ.below {w w' : World} {M : Hp} {B : Nat} {fv : Value} {l : List (FaD × Value)} (h : FamQ w M B fv l) (hb : Below w.heap.size w w') : FamQ w' M B fv l :=
 h.step hb (HLe.refl M) (Zeq h.sub fun b hb' => hb.block b hb') fun _ _ _ e => e
theorem Zen {w : World} {M : Hp} {B : Nat} {fv : Value} {l : List (FaD × Value)} (h : FamQ w M B fv l) : (l = [] ∧ fv = .slice none 0 0) ∨ ∃ g cap, fv = .slice (some ⟨g, 0, none⟩) l.length cap ∧ B ≤ g ∧ l.length ≤ cap := by
 rcases h.row.2 with ⟨e, h0⟩ | ⟨g, cap, cur, e, hb, _, hc, _⟩
 ·exact .inl ⟨List.length_eq_zero_iff.1 h0, e⟩
 ·exact .inr ⟨g, cap, e, hb, hc⟩

structure LastQ (w : World) (g n : Nat) (p : FaD × Value) : Prop where
 c0 : w.cell? ⟨g, n * 4, none⟩ = some (.string p.1.nm)
 c1 : w.cell? ⟨g, n * 4 + 1, none⟩ = some (.string p.1.hp)
 c2 : w.cell? ⟨g, n * 4 + 2, none⟩ = some (.int .i64 p.1.ty)
 c3 : w.cell? ⟨g, n * 4 + 3, none⟩ = some p.2
 fz : ∀ i, w.frozen? ⟨g, i, none⟩ = false
 sv : ∃ pp c, p.2 = .slice pp p.1.ss.length c
theorem FamQ.last {w : World} {M : Hp} {B : Nat} {fv : Value} {gs : List (FaD × Value)} {p : FaD × Value} (h : FamQ w M B fv (gs ++ [p])) : ∃ g cap, fv = .slice (some ⟨g, 0, none⟩) (gs.length + 1) cap ∧ B ≤ g ∧ LastQ w g gs.length p := by
 rcases Zen h with ⟨e, _⟩ | ⟨g, cap, rfl, hb, hc⟩
 ·simp at e
 ·have hr := h.row; have hlen : (gs ++ [p]).length = gs.length + 1 := (by simp); have at_ : ∀ j, j < 4 → w.cell? ⟨g, gs.length * 4 + j, none⟩ = [Value.string p.1.nm, .string p.1.hp, .int .i64 p.1.ty, p.2][j]? := fun j hj => by rw [hr.cellAt (gs.length * 4 + j) (by rw [hlen]; omega), Zjp j hj]
  refine ⟨g, cap, by rw [hlen], hb, at_ 0 (by omega), at_ 1 (by omega), at_ 2 (by omega), at_ 3 (by omega), fun i => hr.frozenAt i, ?_⟩; obtain ⟨q, e, hq⟩ := h.sam p (by simp); have hq2 := hq.row; rw [e, List.length_map]
  rcases hq2.2 with ⟨e1, h0⟩ | ⟨g', cap', cur, e1, _⟩
  ·exact ⟨_, _, by rw [e1, h0]⟩
  ·exact ⟨_, _, e1⟩
theorem LastQ.below {w w' : World} {g n : Nat} {p : FaD × Value} (h : LastQ w g n p) (hb : Below w.heap.size w w') : LastQ w' g n p :=
 ⟨Zaf hb h.c0, Zaf hb h.c1, Zaf hb h.c2, Zaf hb h.c3, fun i => (hb.frozen (p := ⟨g, i, none⟩) (World.block_lt_of_cell? w ⟨g, n * 4, none⟩ h.c0)).trans (h.fz i), h.sv⟩

theorem Zmi {M : Hp} {w w' : World} (hs : HSub M w) (hk : ∀ b, (∃ o v, M b o = some v) → w'.heap[b]? = w.heap[b]?) : HSub M w' := fun b o v e => by
 have := hs b o v e; exact (World.cell?_of_block (w := w) (a := ⟨b, o, none⟩) (hk b ⟨o, v, e⟩)).trans this
theorem offM.ne {M : Hp} {v : Value} (h : offM M v) {b : Nat} (hb : ∃ o u, M b o = some u) : some b ≠ v.ownBlock := fun e => by
 obtain ⟨o, u, hu⟩ := hb; rw [h b e.symm o] at hu; cases hu
theorem Zp4 {w : World} {M : Hp} {B g cap : Nat} {gs : List (FaD × Value)} {p : FaD × Value} (hr : w.ownsRow B 60 4 (.slice (some ⟨g, 0, none⟩) (gs.length + 1) cap) (gs.length + 1) (Za4 (gs ++ [p])))
  (hs : ∀ x ∈ gs, ∃ l : List (SmD × Value), x.1.ss = l.map (·.1) ∧ SamQ w M B x.2 l) (hp : gs.Pairwise fun p q => p.2.ownBlock = none ∨ p.2.ownBlock ≠ q.2.ownBlock) (hof : offM M (.slice (some ⟨g, 0, none⟩) (gs.length + 1) cap)) (hos : ∀ x ∈ gs, offM M x.2) (hsub : HSub M w) (j : Nat) (u : Value) (q : FaD × Value)
  (hq : (Za4 (gs ++ [p])).set (gs.length * 4 + j) u = Za4 (gs ++ [q])) (hsam : ∃ l : List (SmD × Value), q.1.ss = l.map (·.1) ∧ SamQ w M B q.2 l) (hsep : ∀ x ∈ gs, x.2.ownBlock = none ∨ x.2.ownBlock ≠ q.2.ownBlock) (hoq : offM M q.2) :
  FamQ (w.setCell ⟨g, gs.length * 4 + j, none⟩ u) M B (.slice (some ⟨g, 0, none⟩) (gs.length + 1) cap) (gs ++ [q]) ∧ Below B w (w.setCell ⟨g, gs.length * 4 + j, none⟩ u) := by
 have hlen2 : (gs ++ [q]).length = gs.length + 1 := (by simp); obtain ⟨s1, s2⟩ := hr.stored (gs.length * 4 + j) u; have hgB : B ≤ g := (hr.lt g rfl).1; have hkeep : ∀ {b e sz n : Nat} {v : Value} {xs : List Value}, e ≠ 60 → w.ownsRow b e sz v n xs → (w.setCell ⟨g, gs.length * 4 + j, none⟩ u).ownsRow b e sz v n xs := fun he h => h.kept s2 (Zc0 h hr he); refine ⟨⟨by rw [hlen2, ← hq]; exact s1, fun x hx => ?_, ?_, hof, fun x hx => ?_, Zmi hsub fun b hb => Below.heap_setCell _ _ _ _ fun e => ?_⟩, ?_⟩
 ·rcases List.mem_append.1 hx with hx | hx
  ·obtain ⟨l, e, hl⟩ := hs x hx; exact ⟨l, e, hkeep (by decide) hl.row, hl.lab⟩
  ·have : x = q := (by simpa using hx); subst this; obtain ⟨l, e, hl⟩ := hsam; exact ⟨l, e, hkeep (by decide) hl.row, hl.lab⟩
 ·refine List.pairwise_append.2 ⟨hp, by simp, fun x hx y hy => ?_⟩; have : y = q := (by simpa using hy); subst this; exact hsep x hx
 ·rcases List.mem_append.1 hx with hx | hx
  ·exact hos x hx
  ·have : x = q := (by simpa using hx); subst this; exact hoq
 ·exact hof.ne hb (by rw [e]; rfl)
 ·exact ⟨rfl, rfl, rfl, by simp [World.setCell], fun k hk => Below.heap_setCell _ _ _ _ (by show k ≠ g; omega)⟩
theorem Zjs {w : World} {M : Hp} {B g cap : Nat} {gs : List (FaD × Value)} {p : FaD × Value} (h : FamQ w M B (.slice (some ⟨g, 0, none⟩) (gs.length + 1) cap) (gs ++ [p])) (t : Int) :
  FamQ (w.setCell ⟨g, gs.length * 4 + 2, none⟩ (.int .i64 t)) M B (.slice (some ⟨g, 0, none⟩) (gs.length + 1) cap) (gs ++ [(⟨p.1.nm, p.1.hp, t, p.1.ss⟩, p.2)]) ∧ Below B w (w.setCell ⟨g, gs.length * 4 + 2, none⟩ (.int .i64 t)) := by
 have hr := h.row; rw [show (gs ++ [p]).length = gs.length + 1 by simp] at hr; obtain ⟨l, e, hl⟩ := h.sam p (by simp); exact Zp4 hr (fun x hx => h.sam x (by simp [hx])) (List.pairwise_append.1 h.sep).1 h.offF (fun x hx => h.offS x (by simp [hx])) h.sub 2 _ (⟨p.1.nm, p.1.hp, t, p.1.ss⟩, p.2) (by rw [Zd2, Zbo]; rfl) ⟨l, e, hl⟩ (fun x hx => (List.pairwise_append.1 h.sep).2.2 x hx p (by simp)) (h.offS p (by simp))

theorem Zu2 (wA : World) (M : Hp) (B : Nat) (fv : Value) (l : List (FaD × Value)) (nm hp : ByteArray) (hB : B ≤ wA.heap.size) (h2 : FamQ wA M B fv l) (hl : l.length ≤ 1000) :
  ∃ v' wC, (Builtin.append_ #[23, 23] 23 #[fv, .slice (some ⟨wA.heap.size, 0, none⟩) 1 1]).run Tryd.prog (wA.alloc (.cells #[.string nm, .string hp, .int .i64 0, .slice none 0 0] 60)) = .ok v' wC ∧
   (∀ (k t : Nat) a, wA.heap[k]? = some (.cells a t (0, 0)) → t ≠ 60 → wC.heap[k]? = wA.heap[k]?) ∧ (∃ p n c, v' = .slice p n c) ∧
   FamQ wC M B v' (l ++ [(⟨nm, hp, 0, []⟩, .slice none 0 0)]) ∧ Below B wA wC := by
 obtain ⟨i0, hi, hz0, hz1, hz2⟩ := info_parts Zv5; have hgA : wA.grownBy (wA.alloc (.cells #[.string nm, .string hp, .int .i64 0, .slice none 0 0] 60)) none := World.grownBy_alloc wA _ none; have hrowA := h2.row.alloc (.cells #[.string nm, .string hp, .int .i64 0, .slice none 0 0] 60); obtain ⟨v', wC, hrun, hown, hgr, hblk⟩ := Zdl (P := Tryd.prog) (wA.alloc (.cells #[.string nm, .string hp, .int .i64 0, .slice none 0 0] 60)) B 23 23 60 i0 _ 4 64 Zsf hi hz0 hz1 hz2 rfl (by decide) fv l.length (Za4 l) hrowA ⟨wA.heap.size, 0, none⟩ 1 [.string nm, .string hp, .int .i64 0, .slice none 0 0] rfl (fun j u h => Zg7 wA _ 60 j u h) (by intro u hu; simp at hu; rcases hu with rfl | rfl | rfl | rfl <;> rfl) (by omega) (by omega) (by decide) (by simp; omega); have hsz : wA.heap.size < (wA.alloc (.cells #[.string nm, .string hp, .int .i64 0, .slice none 0 0] 60)).heap.size := (by simp); generalize wA.alloc (.cells #[.string nm, .string hp, .int .i64 0, .slice none 0 0] 60) = wB at *; have hkeep : ∀ (k t : Nat) a, wA.heap[k]? = some (.cells a t (0, 0)) → t ≠ 60 → wC.heap[k]? = wA.heap[k]? := fun k t a hk ht => by have hks := (Array.getElem?_eq_some_iff.1 hk).1; have hkB := Zax hgA hks (by simp); refine (Zax hgr (by omega) (fun e => ?_)).trans hkB; obtain ⟨_, _, cur, hc⟩ := Zez hrowA e.symm; rw [hkB, hk] at hc; simp only [Option.some.injEq, Obj.cells.injEq] at hc; exact ht hc.2.1
 have hMlt : ∀ b, (∃ o u, M b o = some u) → b < wA.heap.size := fun b hb => by obtain ⟨o, u, hu⟩ := hb; exact World.block_lt_of_cell? wA ⟨b, o, none⟩ (h2.sub b o u hu)
 refine ⟨v', wC, hrun, hkeep, Za5 hown, ⟨?_, fun p hpm => ?_, ?_, fun k hk o => ?_, fun p hpm => ?_, Zmi h2.sub fun b hb => ?_⟩, ?_⟩
 ·rw [Zbo, List.length_append]; exact hown
 ·rcases List.mem_append.1 hpm with hpm | hpm
  ·obtain ⟨q, e, hq⟩ := h2.sam p hpm; exact ⟨q, e, (hq.row.kept hgA (Zb4 _)).kept hgr (Zc0 hq.row h2.row (by decide)), hq.lab⟩
  ·have : p = (⟨nm, hp, 0, []⟩, .slice none 0 0) := (by simpa using hpm); subst this; exact ⟨[], rfl, World.ownsRow_nil _ _ _ _, fun x hx => absurd hx (by simp)⟩
 ·refine List.pairwise_append.2 ⟨h2.sep, by simp, fun p hpm q hq => ?_⟩; have : q = (⟨nm, hp, 0, []⟩, .slice none 0 0) := (by simpa using hq); subst this
  cases hb : p.2.ownBlock with
  | none => exact .inl rfl
  | some k => exact .inr (by simp [Value.ownBlock])
 ·rcases hblk with hb | hb
  ·exact h2.offF k (hb.symm.trans hk) o
  ·rw [hb] at hk
   cases he : M k o with
   | none => rfl
   | some u => have := hMlt k ⟨o, u, he⟩; have hk : wB.heap.size = k := (by simpa using hk); omega
 ·rcases List.mem_append.1 hpm with hpm | hpm
  ·exact h2.offS p hpm
  ·have : p = (⟨nm, hp, 0, []⟩, .slice none 0 0) := (by simpa using hpm); subst this; exact Zp3 M
 ·have := hMlt b hb; exact (Zax hgr (by omega) (h2.offF.ne hb)).trans (Zax hgA this (by simp))
 ·refine ⟨hgr.os.trans hgA.os, hgr.tape.trans hgA.tape, hgr.output.trans hgA.output, by have := hgr.size; omega, fun k hk => ?_⟩; refine (Zax hgr (by omega) (fun e => ?_)).trans (Zax hgA (by omega) (by simp)); have := (h2.row.lt k e.symm).1; omega
theorem Zu3 (wA : World) (M : Hp) (B g cap : Nat) (gs : List (FaD × Value)) (p : FaD × Value) (x : SmD) (v : Value) (hB : B ≤ wA.heap.size) (h2 : FamQ wA M B (.slice (some ⟨g, 0, none⟩) (gs.length + 1) cap) (gs ++ [p])) (hv : PRep M v (SL 2 (laR x.ls)) ∧ v.oneCell' = true) (hl : p.1.ss.length ≤ 1000) :
  ∃ v' wC, (Builtin.append_ #[58, 58] 58 #[p.2, .slice (some ⟨wA.heap.size, 0, none⟩) 1 1]).run Tryd.prog (wA.alloc (.cells #[.string x.nm, v, .int .i64 x.v] 63)) = .ok v' wC ∧
   (∀ (k t : Nat) a, wA.heap[k]? = some (.cells a t (0, 0)) → t ≠ 63 → wC.heap[k]? = wA.heap[k]?) ∧ (∃ p n c, v' = .slice p n c) ∧
   FamQ (wC.setCell ⟨g, gs.length * 4 + 3, none⟩ v') M B (.slice (some ⟨g, 0, none⟩) (gs.length + 1) cap) (gs ++ [(⟨p.1.nm, p.1.hp, p.1.ty, p.1.ss ++ [x]⟩, v')]) ∧ Below B wA (wC.setCell ⟨g, gs.length * 4 + 3, none⟩ v') := by
 obtain ⟨q, eq, hq⟩ := h2.sam p (by simp); obtain ⟨i0, hi, hz0, hz1, hz2⟩ := info_parts Zv6; have hql : q.length = p.1.ss.length := by rw [eq]; simp
 have hgA : wA.grownBy (wA.alloc (.cells #[.string x.nm, v, .int .i64 x.v] 63)) none := World.grownBy_alloc wA _ none; have hrowA := hq.row.alloc (.cells #[.string x.nm, v, .int .i64 x.v] 63)
 have hone : ∀ u ∈ [Value.string x.nm, v, .int .i64 x.v], u.oneCell' = true := by
  intro u hu; simp only [List.mem_cons, List.not_mem_nil, or_false] at hu
  rcases hu with rfl | rfl | rfl
  ·rfl
  ·exact hv.2
  ·rfl
 obtain ⟨v', wC, hrun, hown, hgr, hblk⟩ := Zdl (P := Tryd.prog) (wA.alloc (.cells #[.string x.nm, v, .int .i64 x.v] 63)) B 58 58 63 i0 _ 3 48 Zsg hi hz0 hz1 hz2 rfl (by decide) p.2 q.length (Zdb q) hrowA ⟨wA.heap.size, 0, none⟩ 1 [.string x.nm, v, .int .i64 x.v] rfl (fun j u h => Zg7 wA _ 63 j u h) hone (by omega) (by omega) (by decide) (by simp; omega); have hsz : wA.heap.size < (wA.alloc (.cells #[.string x.nm, v, .int .i64 x.v] 63)).heap.size := (by simp); generalize wA.alloc (.cells #[.string x.nm, v, .int .i64 x.v] 63) = wB at *; have hkeep : ∀ (k t : Nat) a, wA.heap[k]? = some (.cells a t (0, 0)) → t ≠ 63 → wC.heap[k]? = wA.heap[k]? := fun k t a hk ht => by have hks := (Array.getElem?_eq_some_iff.1 hk).1; have hkB := Zax hgA hks (by simp); refine (Zax hgr (by omega) (fun e => ?_)).trans hkB; obtain ⟨_, _, cur, hc⟩ := Zez hrowA e.symm; rw [hkB, hk] at hc; simp only [Option.some.injEq, Obj.cells.injEq] at hc; exact ht hc.2.1
 have hMlt : ∀ b, (∃ o u, M b o = some u) → b < wA.heap.size := fun b hb => by obtain ⟨o, u, hu⟩ := hb; exact World.block_lt_of_cell? wA ⟨b, o, none⟩ (h2.sub b o u hu)
 have hown2 : ∀ {b e sz n : Nat} {u : Value} {xs : List Value}, e ≠ 63 → wA.ownsRow b e sz u n xs → wC.ownsRow b e sz u n xs := fun he h => (h.kept hgA (Zb4 _)).kept hgr (Zc0 h hq.row he); have hlen : (gs ++ [p]).length = gs.length + 1 := (by simp); have hrow28 := h2.row; rw [hlen] at hrow28; have hsepo := (List.pairwise_append.1 h2.sep).2.2; have hofp := h2.offS p (by simp); have hkp : ∀ y ∈ gs, ∃ l : List (SmD × Value), y.1.ss = l.map (·.1) ∧ SamQ wC M B y.2 l := fun y hy => by obtain ⟨l, e, hl⟩ := h2.sam y (by simp [hy]); exact ⟨l, e, (hl.row.kept hgA (Zb4 _)).kept hgr (hsepo y hy p (by simp)), hl.lab⟩
 have hsam : SamQ wC M B v' (q ++ [(x, v)]) := by
  refine ⟨?_, fun u hu => ?_⟩
  ·rw [Zg4, List.length_append]; exact hown
  ·rcases List.mem_append.1 hu with hu | hu
   ·exact hq.lab u hu
   ·have : u = (x, v) := (by simpa using hu); subst this; exact hv
 have hsep : ∀ y ∈ gs, y.2.ownBlock = none ∨ y.2.ownBlock ≠ v'.ownBlock := fun y hy => by
  rcases hblk with hb | hb
  ·rw [hb]; exact hsepo y hy p (by simp)
  ·rw [hb]
   cases ho : y.2.ownBlock with
   | none => exact .inl rfl
   | some k => refine .inr fun e => ?_; obtain ⟨l, _, hl⟩ := h2.sam y (by simp [hy]); have := (hl.row.lt k ho).2; have e2 : k = wB.heap.size := (by simpa using e); omega
 have hoq : offM M v' := fun k hk o => by
  rcases hblk with hb | hb
  ·exact hofp k (hb.symm.trans hk) o
  ·rw [hb] at hk
   cases he : M k o with
   | none => rfl
   | some u => have := hMlt k ⟨o, u, he⟩; have hk : wB.heap.size = k := (by simpa using hk); omega
 have hsubC : HSub M wC := Zmi h2.sub fun b hb => by have := hMlt b hb; exact (Zax hgr (by omega) (hofp.ne hb)).trans (Zax hgA this (by simp))
 have hset := Zp4 (w := wC) (hown2 (by decide) hrow28) hkp (List.pairwise_append.1 h2.sep).1 h2.offF (fun y hy => h2.offS y (by simp [hy])) hsubC 3 v' (⟨p.1.nm, p.1.hp, p.1.ty, p.1.ss ++ [x]⟩, v') (by rw [Zd2, Zbo]; rfl) ⟨q ++ [(x, v)], by rw [eq]; simp, hsam⟩ hsep hoq; refine ⟨v', wC, hrun, hkeep, Za5 hown, hset.1, Below.trans ⟨hgr.os.trans hgA.os, hgr.tape.trans hgA.tape, hgr.output.trans hgA.output, by have := hgr.size; omega, fun k hk => ?_⟩ hset.2⟩; refine (Zax hgr (by omega) (fun e => ?_)).trans (Zax hgA (by omega) (by simp)); have := (hq.row.lt k e.symm).1; omega

/- What they are as plain data. -/
theorem Zlb {h : Hp} {w : World} {M : Hp} {B : Nat} {v : Value} {q : List (SmD × Value)} (hh : ∀ g, B ≤ g → ∀ o, h g o = w.cell? ⟨g, o, none⟩) (hm : HLe M h) (ho : SamQ w M B v q) : PRep h v (SL 3 (smR (q.map (·.1)))) := by
 refine Zfk hh ho.row (smR (q.map (·.1))) (by decide) (by simp) (fun r hr => by obtain ⟨p, _, rfl⟩ := List.mem_map.1 hr; rfl) fun i r j c hi hj => ?_; obtain ⟨p, hp, rfl⟩ : ∃ p, q[i]? = some p ∧ r = SmD.row p.1 := by simp only [smR, List.map_map, List.getElem?_map, Option.map_eq_some_iff] at hi; obtain ⟨p, h1, h2⟩ := hi; exact ⟨p, h1, h2.symm⟩
 have hj2 : j < 3 := (List.getElem?_eq_some_iff.1 hj).1; have hat := Zh1 (f := fun p : SmD × Value => [Value.string p.1.nm, p.2, .int .i64 p.1.v]) (k := 3) (l := q) (fun _ _ => rfl) i j p hj2 hp; have hat' : (Zdb q)[i * 3 + j]? = _ := hat; have hl := ho.lab p (List.mem_of_getElem? hp)
 match j, hj with
 | 0, hj => cases hj; exact ⟨_, hat', .val _, rfl⟩
 | 1, hj =>
  cases hj
  exact ⟨_, hat', hl.1.mono hm, hl.2⟩
 | 2, hj => cases hj; exact ⟨_, hat', .val _, rfl⟩
theorem Zrf {h : Hp} {w : World} {M : Hp} {B : Nat} {v : Value} {q : List (FaD × Value)} (hh : ∀ g, B ≤ g → ∀ o, h g o = w.cell? ⟨g, o, none⟩) (hm : HLe M h) (ho : FamQ w M B v q) : PRep h v (SL 4 (faR (fsts q))) := by
 refine Zfk hh ho.row (faR (fsts q)) (by decide) (by simp [fsts]) (fun r hr => by obtain ⟨p, _, rfl⟩ := List.mem_map.1 hr; rfl) fun i r j c hi hj => ?_; obtain ⟨p, hp, rfl⟩ : ∃ p, q[i]? = some p ∧ r = FaD.row p.1 := by simp only [faR, fsts, List.map_map, List.getElem?_map, Option.map_eq_some_iff] at hi; obtain ⟨p, h1, h2⟩ := hi; exact ⟨p, h1, h2.symm⟩
 have hj2 : j < 4 := (List.getElem?_eq_some_iff.1 hj).1; have hat := Zh1 (f := fun p : FaD × Value => [Value.string p.1.nm, .string p.1.hp, .int .i64 p.1.ty, p.2]) (k := 4) (l := q) (fun _ _ => rfl) i j p hj2 hp; have hat' : (Za4 q)[i * 4 + j]? = _ := hat; obtain ⟨l, e, hl⟩ := ho.sam p (List.mem_of_getElem? hp)
 match j, hj with
 | 0, hj => cases hj; exact ⟨_, hat', .val _, rfl⟩
 | 1, hj => cases hj; exact ⟨_, hat', .val _, rfl⟩
 | 2, hj => cases hj; exact ⟨_, hat', .val _, rfl⟩
 | 3, hj =>
  cases hj
  refine ⟨_, hat', ?_, ?_⟩
  ·rw [e]; exact Zlb hh hm hl
  ·obtain ⟨a, n, c, e⟩ := Za5 hl.row; show p.2.oneCell' = true; rw [e]; rfl
theorem Zeo {w : World} {M : Hp} {B : Nat} {v : Value} {f : FaD} {q : List (SmD × Value)} (hs : HSub M w) (e : f.ss = q.map (·.1)) (h : SamQ w M B v q) : PRep (hAll w) (.agg #[.string f.nm, .string f.hp, .int .i64 f.ty, v]) (.agg f.row) := by
 refine .agg _ _ rfl fun i u c hu hc => ?_
 match i, hu, hc with
 | 0, hu, hc => cases hu; cases hc; exact .val _
 | 1, hu, hc => cases hu; cases hc; exact .val _
 | 2, hu, hc => cases hu; cases hc; exact .val _
 | 3, hu, hc => cases hu; cases hc; rw [e]; exact Zlb (fun _ _ _ => rfl) hs h
 | i + 4, hu, hc => simp at hu
theorem Zlc {h : Hp} {v : Value} {x : SmD} (r : PRep h v (SL 2 (laR x.ls))) : PRep h (.agg #[.string x.nm, v, .int .i64 x.v]) (.agg x.row) := by
 refine .agg _ _ rfl fun i u c hu hc => ?_
 match i, hu, hc with
 | 0, hu, hc => cases hu; cases hc; exact .val _
 | 1, hu, hc => cases hu; cases hc; exact r
 | 2, hu, hc => cases hu; cases hc; exact .val _
 | i + 3, hu, hc => simp at hu

theorem Zfh {P : Program} {f : FuncId} {args : List SV} {s : SV} (hc : Ct P f {} args (fun r => r = [s])) (hsp : Za1 s = true) {h : Hp} {w : World} (hs : HSub h w) (hg : Gl h w) {ρ : Nat → Px.Loc} {vs : Array Value} (hr : Zgh h ρ vs.toList args) :
  Calls P f vs w fun e w' => Below w.heap.size w w' ∧ ∃ v h', e = .returned v ∧ PRep h' v s ∧ HLe h h' ∧ HSub h' w' ∧ ∀ b, b < w.heap.size → ∀ o, h b o = none → h' b o = none := by
 obtain ⟨_, hc⟩ := hc; refine (hc args [] (Zaz _ _ _) h ρ w vs ⟨hs, fun id o hm => (by simp at hm), fun i j hi => by obtain ⟨⟨o, e⟩, _⟩ := hi; simp [oget] at e⟩ hg hr).mono ?_; rintro e w' ⟨vr, h', ρ', rs, hr', objs', rfl, rfl, he, hrep, hh, _, _, hle, hext, hk⟩; have hno : ∀ b, ¬ Gv [] ρ b := fun b hb => by obtain ⟨i, ⟨⟨o, e⟩, _⟩, _⟩ := hb; simp [oget] at e
 have hB : Below w.heap.size w w' := ⟨hk.os, hk.tape, hk.output, hk.size, fun k hk' => hk.block k hk' (hno k)⟩
 unfold endH at he; rw [Zaz] at he
 match vr, he, hrep with
 | [], he, hrep => simp [lentH] at he
 | [v], he, hrep => simp [lentH] at he; obtain ⟨rfl, rfl⟩ := he; exact ⟨hB, v, h', rfl, (hrep.2 0 v _ rfl rfl).toPure hsp, hle, hh.sub, fun b hb o e => hext b hb (hno b) o e⟩
 | v :: u :: vr, he, hrep =>
  have h1 := hrep.1
  cases hl : lentH 0 ({} : Sig).ps (List.drop (v :: u :: vr).length [s]) with
  | none => rw [hl] at he; simp at he
  | some os => rw [hl] at he; simp at he; obtain ⟨rfl, rfl⟩ := he; simp at h1
theorem Gl.keep3 {M : Hp} {w w' : World} (h : Gl M w) (hk : ∀ k, k < 3 → w'.heap[k]? = w.heap[k]?) : Gl M w' := by
 refine ⟨h.cells, fun p hp => ?_⟩; obtain ⟨h1, cs, t, fz, h2, h3⟩ := h.size p hp; exact ⟨h1, cs, t, fz, (hk p.1 (Zi0 p hp).1).trans h2, h3⟩

structure LnAt (M : Hp) (e : Ending) (k : Int) (nm tx sn : ByteArray) (ls : List LaD) (v col : Int) : Prop where
 out : ∃ p n c, e = .returned (.agg #[.int .i64 k, .string nm, .string tx, .string sn, .slice p n c, .int .i64 v, .int .i64 col]) ∧ PRep M (.slice p n c) (SL 2 (laR ls))
theorem Zom {M : Hp} {u : Value} {k : Int} {nm tx sn : ByteArray} {ls : List LaD} {v col : Int} (h : PRep M u (.agg [I k, S nm, S tx, S sn, SL 2 (laR ls), I v, I col])) : LnAt M (.returned u) k nm tx sn ls v col := by
 obtain ⟨vs, rfl, hl, hc⟩ := Rep.agg_inv' (Rep.pure (ρ := fun _ => noLoc) _ _ h); obtain ⟨l⟩ := vs
 match l, hl with
 | [a, b, c, d, e, f, g], _ => have h0 := (hc 0 a _ rfl rfl).val_inv; have h1 := (hc 1 b _ rfl rfl).val_inv; have h2 := (hc 2 c _ rfl rfl).val_inv; have h3 := (hc 3 d _ rfl rfl).val_inv; have h4 := (hc 4 e _ rfl rfl).toPure rfl; have h5 := (hc 5 f _ rfl rfl).val_inv; have h6 := (hc 6 g _ rfl rfl).val_inv; obtain ⟨p, q, h7⟩ := Rep.slice_inv (Rep.pure (ρ := fun _ => noLoc) _ _ h4); subst h0 h1 h2 h3 h5 h6 h7; exact ⟨_, _, _, rfl, h4⟩
theorem Zrg (t : Tx) (hl : t.length ≤ 60000) {M : Hp} {w : World} (hS : HSub M w) (hG : Gl M w) :
  Calls Tryd.prog 33 #[.string (bA t)] w fun e w' => Below w.heap.size w w' ∧ ∃ M', HLe M M' ∧ HSub M' w' ∧ (∀ b, b < w.heap.size → ∀ o, M b o = none → M' b o = none) ∧ match pRead t true with
   | .error b => LnAt M' e 0 eT eT eT [] 0 ((b : Int) + 1)
   | .ok l => if l.kd = 3 then LnAt M' e 3 l.sm.nm eT l.sm.nm l.sm.ls l.sm.v 0 else LnAt M' e l.kd l.nm (if l.kd = 1 then l.hp else bA (wrdT l.of)) eT [] 0 0 := by
 have hX := Zvo (bA t) (by rw [ba_sz]; exact hl); rw [Zbh] at hX; have hr : Zgh M (fun _ => noLoc) (#[Value.string (bA t)] : Array Value).toList [S (bA t)] := rep1 (.val _)
 cases hp : pRead t true with
 | error b => rw [hp] at hX; refine (Zfh hX rfl hS hG hr).mono ?_; rintro e w' ⟨hb, v, h', rfl, h1, h2, h3, h4⟩; exact ⟨hb, h', h2, h3, h4, Zom h1⟩
 | ok l =>
  rw [hp] at hX; simp only; by_cases hk : l.kd = 3
  ·unfold lnR at hX; simp only at hX; rw [if_pos hk] at hX; simp only [if_pos hk]; refine (Zfh hX rfl hS hG hr).mono ?_; rintro e w' ⟨hb, v, h', rfl, h1, h2, h3, h4⟩; exact ⟨hb, h', h2, h3, h4, Zom h1⟩
  ·unfold lnR at hX; simp only at hX; rw [if_neg hk] at hX; simp only [if_neg hk]; refine (Zfh hX rfl hS hG hr).mono ?_; rintro e w' ⟨hb, v, h', rfl, h1, h2, h3, h4⟩; exact ⟨hb, h', h2, h3, h4, Zom h1⟩
end Go.Proofs.YtknnooannohflaaDoor.Prs

/- Code that goes over an iterator: what lies ahead of it, and what follows; a function's end when marks of such a loop are taken up. -/
import Derived.Test.YtknnooannohflaaGreatDoorPxI
import Derived.RangeFuncLeaves
namespace Go.Px
open Go.RowKit
set_option linter.unusedVariables false

def backWp (P : Program) : Code → (Exit → Act → World → Prop) → Act → World → Prop
  | .seq x y, Q => bif hasRF x then backWp P x (Exit.then (y.wp P Q) Q) else backWp P y Q
  | c, Q => c.wp P Q

def spineEnd : Code → Bool
  | .seq x y => !hasRF x && spineEnd y
  | _ => true
def spineOne : Code → Bool
  | .seq x y => bif hasRF x then spineEnd x else spineOne y
  | _ => false

open Classical in
/-- A function's end. -/
theorem fin_key {P : Program} {fn : Func} {sg : Sig} {Q : List SV → Prop} {objs : List (Nat × Ob)} {h : Hp} {ρ : Nat → Loc} {w w' : World} {ds : List Deferred} {st0 : St} {a : Act}
    (hF : Fits { w := w, h := h, G := Gv objs ρ, pin := fun id => if (∃ i ms, sg.ps[i]? = some (.lend ms) ∧ id = pId i) ∨ id ∈ staysOf 0 sg.ps then some (ρ id) else none, df := ds } st0 a w') (hfin : finC P fn sg Q st0) :
    a.defers = ds ∧ ∃ v, (results fn a.tmps).run P w' = .ok v w' ∧ Back sg objs h ρ w Q (.returned v) w' := by
  obtain ⟨h1, ρe, F1⟩ := hF
  unfold finC at hfin
  split at hfin
  · exact hfin.elim
  · rename_i ss0 hss0
    obtain ⟨h2, _, F2⟩ := F1.frzAll (frzArgs st0.objs sg.rs 0 ss0 ++ frzLent st0.objs 0 sg.ps)
    simp only [] at hfin
    generalize St.frzAll (frzArgs st0.objs sg.rs 0 ss0 ++ frzLent st0.objs 0 sg.ps) st0 = st at hfin F2
    split at hfin
    · exact hfin.elim
    · rename_i ss hss
      split at hfin
      · rename_i rs l1 ls l2 hp1 hp2
        cases hnd : (nodupB ((l1 ++ l2).filterMap (·.1)) && nodupB ((l1 ++ l2).map (·.2)) && stayOK l2 (staysOf 0 sg.ps)) with
        | false => simp only [hnd, cond_false] at hfin
        | true =>
          simp only [hnd, cond_true] at hfin
          simp only [Bool.and_eq_true] at hnd
          have hst := hnd.2
          have hnd := hnd.1
          have hn1 := nodupB_spec hnd.1
          have hn2 := nodupB_spec hnd.2
          let ρ' := pull (l1 ++ l2) ρe (fun _ => noLoc)
          have hpl : Pulls (l1 ++ l2) ρe ρ' := pulls_pull ρe _ hn2
          obtain ⟨vr, hrun, hl, hr⟩ := resAll_sound F2 _ _ hss
          obtain ⟨hr', os1, e1, e2, e3, e4, e5⟩ := passArgs_sound (P := P) (ρ' := ρ') F2.obj rId sg.rs fn.resultTypes.toList ss 0 rs l1 hp1 hpl.left
          obtain ⟨os2, g1, g2, g3⟩ := passLent_sound (P := P) (ρ' := ρ') F2.obj fn.params.toList sg.ps 0 ls l2 hp2 hpl.right
          have hrl : vr.length = rs.length := by omega
          have PA := e5.append g2
          refine ⟨F2.df, rets vr, results_run hrun, vr, h2, ρ', rs ++ ls, hr', os1 ++ os2, rfl, hfin, ?_, ⟨by omega, fun i v s hv hs' => ?_⟩, pass_holds PA hpl hn1 F2.sub F2.inj, fun i hi => ?_, ⟨fun i ms hi => ?_, fun id hid => ?_⟩, F2.mono, F2.ext, F2.kp⟩
          · simp only [endH, hrl]
            simp [e1, g1]
          · have hi : i < ss.length := by have := (List.getElem?_eq_some_iff.1 hv).1; omega
            exact e4 i v _ s (List.getElem?_eq_getElem hi) hs' (hr i v _ hv (List.getElem?_eq_getElem hi))
          · obtain ⟨id, c, hm, hlv, eb⟩ := pass_Gv PA hpl ⟨i, hi, rfl⟩
            rw [← eb]
            exact F2.own id hlv
          · obtain ⟨q1, cs, q2⟩ := g3 i ms hi
            rw [Nat.zero_add] at q1 q2
            have hpin := F2.pin (pId i) (ρ (pId i)) (by simp only []; rw [if_pos (.inl ⟨i, ms, hi, rfl⟩)])
            have hloc : ρ' (pId i) = ρe (pId i) := hpl (some (pId i), pId i) (by simp [q1])
            have hn := (F2.obj _ _ q2).1
            rw [hpin.1] at hn hloc
            exact ⟨hn, by rw [hloc]⟩
          · have hpin := F2.pin id (ρ id) (by simp only []; rw [if_pos (.inr hid)])
            have hloc : ρ' id = ρe id := hpl (some id, id) (List.mem_append_right _ (stayOK_mem hst hid))
            rw [hloc, hpin.1]
      · exact hfin.elim

/-- A state seen from where it stands, with marks. -/
theorem FitsAt.restand {X : Cx} {h : Hp} {ρ : Nat → Loc} {st : St} {a : Act} {w : World} (F : FitsAt X h ρ st a w) (ds : List Deferred) : FitsAt { w := w, h := h, G := Gv st.objs ρ, pin := X.pin, df := ds } h ρ st { a with defers := ds } w :=
  { F with df := rfl, own := fun i hi => .inr ⟨i, hi, rfl⟩, mono := HLe.refl _, ext := fun _ _ _ _ e => e, kp := Keeps.refl _ _, gl := ⟨F.glob, F.glob.off (fun i ⟨⟨o, e⟩, hn⟩ => ObOK.hnone (F.obj i o e) hn)⟩ }

theorem FitsAt.based {X : Cx} {h h' : Hp} {ρ ρ' : Nat → Loc} {st st' : St} {a a' : Act} {w w' : World} {ds : List Deferred} (F0 : FitsAt X h ρ st a w) (F : FitsAt { w := w, h := h, G := Gv st.objs ρ, pin := X.pin, df := ds } h' ρ' st' a' w') :
    FitsAt { X with df := ds } h' ρ' st' a' w' := by
  have hG : ∀ b, Gv st.objs ρ b → X.w.heap.size ≤ b ∨ X.G b := by
    rintro b ⟨i, hi, rfl⟩; exact F0.own i hi
  have hsz := F0.kp.size
  refine { F with df := F.df, own := fun i hi => ?_, mono := F0.mono.trans F.mono, ext := fun b hb hg o e => ?_, kp := ?_, gl := F0.gl }
  · rcases F.own i hi with h1 | h1
    · exact .inl (Nat.le_trans hsz h1)
    · exact hG _ h1
  · refine F.ext b (Nat.lt_of_lt_of_le hb hsz) (fun hb2 => ?_) o (F0.ext b hb hg o e)
    rcases hG b hb2 with h1 | h1
    · exact absurd hb (Nat.not_lt.2 h1)
    · exact hg h1
  · refine ⟨F.kp.os.trans F0.kp.os, F.kp.tape.trans F0.kp.tape, F.kp.output.trans F0.kp.output, Nat.le_trans hsz F.kp.size, fun k hk hg => ?_⟩
    rw [F.kp.block k (Nat.lt_of_lt_of_le hk hsz) (fun hb2 => ?_), F0.kp.block k hk hg]
    rcases hG k hb2 with h1 | h1
    · exact absurd hk (Nat.not_lt.2 h1)
    · exact hg h1

end Go.Px

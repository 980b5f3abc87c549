/- The conditions of regions and of code inside a round of a loop over an iterator. -/
import Derived.Test.YtknnooannohflaaGreatDoorPxUV
import Derived.RangeFuncWrites
import Derived.OrdersIn
import Derived.TacticsIn
import Derived.OwnWalkIn
import Derived.RangeFuncCalls
import Derived.Test.YtknnooannohflaaGreatDoorPxIK
import Derived.RangeFuncLeaves
namespace Go.Px
open Go Go.RowKit
set_option linter.unusedVariables false

theorem noDef_op {o : Oper} (h : (match o.op with | .defer _ => false | _ => true) = true) : ∀ c, o.op ≠ .defer c := by
 intro c e; rw [e] at h; simp at h

theorem op_inRd {P : Program} {o : Oper} {a : Act} {w : World} {next : Act → World → Prop} {Q : Exit → Act → World → Prop} (l n : Nat) (hd : ∀ c, o.op ≠ .defer c) (h : o.wp P a w next Q) :
  o.wpIn (Fence.wide.inRound l) n P a w next Q := by
 refine ⟨fun _ _ => trivial, ?_⟩
 rw [Oper.semAt_eq _ _ _ hd]
 unfold Oper.wp at h
 generalize (execOp a.eval o).run P w = r at h ⊢
 cases r with
 | ok v w' =>
  cases v with
  | value v => exact h
  | skip => exact h
  | defer d => exact h
  | enter f args => exact ⟨(fun h => by cases h), (callsIn_wide (n := n - 1)).2 h⟩
  | row row args =>
   refine ⟨(fun h => by cases h), fun c cs _ => ?_⟩
   obtain ⟨v, w'', h1, h2⟩ := h c cs
   exact ⟨v, w'', h1, stepsIn_wide.2 h2⟩
  | _ => exact h.elim
 | halt e w' =>
  cases e with
  | panic v => exact h
  | _ => exact h.elim

theorem any_inRd {P : Program} {md : Region.Mode} {ops : Array Oper} {Q : Exit → Act → World → Prop} (l n : Nat) (hd : noDef ops = true) (hL : ¬ LetsOut Q) : ∀ (fuel : Nat) (listed : Array Bool) (a : Act) (w : World),
  wpAny P md ops Q fuel listed a w → wpAnyIn (Fence.wide.inRound l) n P md ops Q fuel listed a w
 | 0, _, _, _, h => h
 | fuel + 1, listed, a, w, h => by
  refine ⟨h.1, fun i hi => ?_⟩
  have h2 := h.2 i hi
  unfold wpOp at h2
  unfold wpOpIn
  split
  ·rename_i e; simp only [e] at h2; exact any_inRd l n hd hL fuel _ a w h2
  ·rename_i o e
   simp only [e] at h2
   have ho := List.all_eq_true.1 hd o (List.mem_of_getElem? (by rw [Array.getElem?_toList]; exact e))
   split
   ·rename_i hw
    simp only [hw, if_true] at h2
    rcases h2 with h2 | h2
    ·exact Oper.wpIn_mono (fun a w h => any_inRd l n hd hL fuel _ a w h) (op_inRd l n (noDef_op ho) h2)
    ·exact absurd h2.2 hL
   ·rename_i hw
    simp only [hw] at h2
    exact ⟨fun _ _ => trivial, any_inRd l n hd hL fuel _ _ w h2⟩

theorem list_inRd {P : Program} {ops : Array Oper} {Q : Exit → Act → World → Prop} (l n : Nat) (hL : ¬ LetsOut Q) : ∀ (os : List Oper) (hd : ∀ o ∈ os, ∀ c, o.op ≠ .defer c) (a : Act) (w : World),
  wpList P ops Q os a w → wpListIn (Fence.wide.inRound l) n P ops Q os a w
 | [], _, _, _, h => h
 | o :: os, hd, a, w, h => by
  unfold wpList at h
  unfold wpListIn
  split
  ·rename_i hw
   simp only [hw, if_true] at h
   rcases h with h | h
   ·exact Oper.wpIn_mono (fun a w h => list_inRd l n hL os (fun o ho => hd o (List.mem_cons_of_mem _ ho)) a w h) (op_inRd l n (hd o (by simp)) h)
   ·exact absurd h.2 hL
  ·rename_i hw
   simp only [hw] at h
   exact ⟨fun _ _ => trivial, list_inRd l n hL os (fun o ho => hd o (List.mem_cons_of_mem _ ho)) _ w h⟩

section
variable {P : Program} {X : Cx}

theorem any_soundIn (l n : Nat) (Sg : FuncId → Sig) (Sv : TypeId → Sig) (id : Nat) (ops : Array Oper) (hm : P.follows .mixedOrders = true) (hok : regionOK ops = true) (hd : noDef ops = true) (st : St) (a : Act) (w : World)
  (F : Fits X st a w) (K : St → Prop) (hv : vcAny P Sg Sv ops (ops.size + 1) (Array.replicate ops.size false) st K) (Q : Exit → Act → World → Prop)
  (hQ : ∀ st a' w, Fits X st a' w → Fr (ops.toList.filterMap (·.dst)) a a' → K st → Q .normal a' w) : (Code.region id ops true).wpIn (Fence.wide.inRound l) n P Q a w := by
 have R := regionOK_spec hok
 have hnone : ∀ k, ¬ In (Array.replicate ops.size false) k := fun k h => by
  unfold In at h
  by_cases hk : k < ops.size <;> simp [hk] at h
 have hact : actOf ops a (fun _ => undef) (Array.replicate ops.size false) = a := by
  unfold actOf
  have : ((List.range a.tmps.size).map (slotV ops a (fun _ => undef) (Array.replicate ops.size false))).toArray = a.tmps := by
   apply Array.ext'
   apply List.ext_getElem?
   intro t
   have hw : wr ops (Array.replicate ops.size false) t = none := wr_none (fun k hk => absurd hk (hnone k))
   by_cases ht : t < a.tmps.size
   ·simp [ht, slotV, hw]
   ·simp [ht]
  rw [this]
 refine wpIn_mono (wpIn_region_any (Q := noPanic X K ops a) hm (any_inRd l n hd (by rintro ⟨_, _, h⟩; exact h) _ _ _ _ ?_)) (fun e a' w h => ?_)
 ·have F' : Fits X st a { w with drawn := w.drawn + 1 } := by
   obtain ⟨h, ρ, F⟩ := F
   exact ⟨h, ρ, F.world (fun _ _ => rfl) ⟨F.kp.os, F.kp.tape, F.kp.output, F.kp.size, F.kp.block⟩⟩
  have S : Sim P Sg Sv ops X a K (fun _ => undef) (Array.replicate ops.size false) (Array.replicate ops.size false) (ops.size + 1) st { w with drawn := w.drawn + 1 } :=
   ⟨⟨by simp, fun k _ _ h => absurd h (hnone k)⟩, ⟨by simp, fun k _ _ h => absurd h (hnone k)⟩, fun _ h => h, by rw [hact]; exact F', fun k _ _ h => absurd h (hnone k), hv⟩
  have hl : left ops (Array.replicate ops.size false) = ops.size := by
   unfold left
   rw [List.filter_eq_self.2 (fun k _ => by simpa [In] using hnone k)]
   simp
  have := sim_any R ops.size _ _ _ _ _ _ S hl
  rwa [hact] at this
 ·cases e with
  | normal => obtain ⟨⟨st, F, hk⟩, hfr⟩ := h; exact hQ st a' w F hfr hk
  | _ => exact False.elim h

def onlyN (Q : Exit → Act → World → Prop) : Exit → Act → World → Prop
 | .normal, a, w => Q .normal a w
 | _, _, _ => False

theorem vc_soundIn (l n : Nat) (Sg : FuncId → Sig) (Sv : TypeId → Sig) (L : Nat → Option LoopSpec) (hLc : ∀ c, L (condKey c) = none) (hLb : ∀ id, L (2000000 + id) = none) : ∀ (c : Code), rndOK c = true → ∀ (X : Cx) (st : St) (a : Act) (w : World) (QA : Ex → St → Prop) (Q : Exit → Act → World → Prop),
  (∀ e st a' w, Fits X st a' w → Fr (writes c) a a' → QA e st → Q e.to a' w) → Fits X st a w → vc P Sg Sv L c st QA → c.wpIn (Fence.wide.inRound l) n P Q a w := by
 intro c
 induction c with
 | skip => intro _ X st a w QA Q hQ F hv; exact wpIn_skip (hQ .normal st a w F (Fr.refl _ _) hv)
 | region id ops draw =>
  intro hr X st a w QA Q hQ F hv
  cases draw with
  | true =>
   simp only [vc] at hv
   cases hok : (P.follows .mixedOrders && regionOK ops) with
   | false => simp [hok] at hv
   | true =>
    simp only [hok, cond_true] at hv
    simp only [Bool.and_eq_true] at hok
    split at hv
    ·exact any_soundIn l n Sg Sv id ops hok.1 hok.2 hr st a w F _ hv Q (fun st a w F hf hk => hQ .normal st a w F hf hk)
    ·rename_i sp _
     obtain ⟨h0, ρ0, F0⟩ := F
     have Fb := F0.rebase
     unfold cutC at hv
     cases hs0 : (fixedAt (keepIds sp) st.objs sp.fixed).isSome with
     | false => simp only [hs0, cond_false] at hv
     | true =>
      simp only [hs0, cond_true] at hv
      obtain ⟨I, m, h1, h2⟩ := hv
      refine any_soundIn l n Sg Sv id ops hok.1 hok.2 hr st a w ⟨_, _, Fb⟩ _ h1 Q (fun st1 a1 w1 F1 hf hk => ?_)
      split at hk
      ·exact hk.elim
      ·rename_i vals' ids' hhx
       cases hb : (headOK sp (unP sp.ptrs (ops.toList.filterMap (·.dst))) ids' && keptTmps (keepTmps (unP sp.ptrs (ops.toList.filterMap (·.dst))) (keepIds sp) 0 (setP sp.ptrs st.tmps)) (St.frzAll (headFrz st1 sp) st1).tmps) with
       | false => simp only [hb, cond_false] at hk
       | true =>
        simp only [hb, cond_true] at hk
        simp only [Bool.and_eq_true] at hb
        obtain ⟨hx, ρx, Fx⟩ := F1
        obtain ⟨hy, _, Fy⟩ := Fx.frzAll (headFrz st1 sp)
        obtain ⟨hd, ⟨hz, ρz, Fz⟩, hk2⟩ := enter_head F0 hs0 Fy hf hhx hb.1 hb.2 hk.1 h2 hk.2
        exact hQ .normal hd a1 w1 ⟨hz, ρz, F0.unbase Fz⟩ hf hk2
  | false =>
   simp only [vc] at hv
   have go : ∀ (K : St → Prop), vcOps P Sg Sv ops ops.toList st K → ∀ (Y : Cx), Fits Y st a w → (∀ st1 a1 w1, Fits Y st1 a1 w1 → Fr (writes (.region id ops false)) a a1 → K st1 → Q .normal a1 w1) → (Code.region id ops false).wpIn (Fence.wide.inRound l) n P Q a w := by
    intro K hv Y F hK
    refine wpIn_mono (Q := onlyN Q) (wpIn_region_list (list_inRd l n (by rintro ⟨_, _, h⟩; exact h) ops.toList (fun o ho => noDef_op (List.all_eq_true.1 hr o ho)) a w
     (vcOps_sound Sg Sv ops (onlyN Q) _ (writes (.region id ops false)) a (fun st a w F hf hk => hK st a w F hf hk) ops.toList st a w (fun o ho t ht => List.mem_filterMap.2 ⟨o, ho, ht⟩) (Fr.refl _ _) F hv))) (fun e a w h => ?_)
    cases e with
    | normal => exact h
    | _ => exact h.elim
   split at hv
   ·exact go _ hv X F (fun st a w F hf hk => hQ .normal st a w F hf hk)
   ·rename_i sp _
    obtain ⟨h0, ρ0, F0⟩ := F
    have Fb := F0.rebase
    unfold cutC at hv
    cases hs0 : (fixedAt (keepIds sp) st.objs sp.fixed).isSome with
    | false => simp only [hs0, cond_false] at hv
    | true =>
     simp only [hs0, cond_true] at hv
     obtain ⟨I, m, h1, h2⟩ := hv
     refine go _ h1 _ ⟨_, _, Fb⟩ (fun st1 a1 w1 F1 hf hk => ?_)
     split at hk
     ·exact hk.elim
     ·rename_i vals' ids' hhx
      cases hb : (headOK sp (unP sp.ptrs (ops.toList.filterMap (·.dst))) ids' && keptTmps (keepTmps (unP sp.ptrs (ops.toList.filterMap (·.dst))) (keepIds sp) 0 (setP sp.ptrs st.tmps)) (St.frzAll (headFrz st1 sp) st1).tmps) with
      | false => simp only [hb, cond_false] at hk
      | true =>
       simp only [hb, cond_true] at hk
       simp only [Bool.and_eq_true] at hb
       obtain ⟨hx, ρx, Fx⟩ := F1
       obtain ⟨hy, _, Fy⟩ := Fx.frzAll (headFrz st1 sp)
       obtain ⟨hd, ⟨hz, ρz, Fz⟩, hk2⟩ := enter_head F0 hs0 Fy hf hhx hb.1 hb.2 hk.1 h2 hk.2
       exact hQ .normal hd a1 w1 ⟨hz, ρz, F0.unbase Fz⟩ hf hk2
 | seq x y ihx ihy =>
  intro hr X st a w QA Q hQ F hv
  simp only [rndOK, Bool.and_eq_true] at hr
  refine wpIn_seq (ihx hr.1 X st a w _ _ ?_ F hv)
  intro e st' a' w' F' hf he
  have hf1 : Fr (writes (.seq x y)) a a' := hf.mono (fun t ht => by simp [writes, ht])
  cases e with
  | normal => exact ihy hr.2 X st' a' w' QA Q (fun e st2 a2 w2 F2 hf2 h2 => hQ e st2 a2 w2 F2 (hf1.trans (hf2.mono (fun t ht => by simp [writes, ht]))) h2) F' he
  | exit id => exact hQ (.exit id) st' a' w' F' hf1 he
  | ret => exact hQ .ret st' a' w' F' hf1 he
 | cond c x y ihx ihy =>
  intro hr X st a w QA Q hQ F hv
  simp only [rndOK, Bool.and_eq_true] at hr
  simp only [vc] at hv
  split at hv
  ·rename_i b hb
   obtain ⟨h, ρ, F'⟩ := F
   have r := F'.operand [] (by simp) c
   rw [hb] at r
   rw [hLc] at hv
   exact wpIn_cond_split r.val_inv (fun e => ihx hr.1 X st a w QA Q (fun e st a' w F hf => hQ e st a' w F (hf.mono (fun t ht => by simp [writes, ht]))) ⟨h, ρ, F'⟩ (by subst e; exact hv))
    (fun e => ihy hr.2 X st a w QA Q (fun e st a' w F hf => hQ e st a' w F (hf.mono (fun t ht => by simp [writes, ht]))) ⟨h, ρ, F'⟩ (by subst e; exact hv))
  ·exact hv.elim
 | block id body ih =>
  intro hr X st a w QA Q hQ F hv
  simp only [vc, hLb] at hv
  refine wpIn_block (ih hr X st a w _ _ ?_ F hv)
  intro e st' a' w' F' hf he
  cases e with
  | normal => exact hQ .normal st' a' w' F' hf he
  | exit i =>
   simp only [Ex.to, Exit.inBlock]
   by_cases hi : i = id
   ·subst hi; simp only [Nat.beq_refl, cond_true] at he; rw [if_pos rfl]; exact hQ .normal st' a' w' F' hf he
   ·simp only [beq_false hi, cond_false] at he; rw [if_neg hi]; exact hQ (.exit i) st' a' w' F' hf he
  | ret => exact hQ .ret st' a' w' F' hf he
 | exit id => intro _ X st a w QA Q hQ F hv; exact wpIn_exit (hQ (.exit id) st a w F (Fr.refl _ _) hv)
 | ret => intro _ X st a w QA Q hQ F hv; exact wpIn_ret (hQ .ret st a w F (Fr.refl _ _) hv)
 | _ => intro hr; simp [rndOK] at hr

end

end Go.Px

namespace Go.Px
open Go.RowKit
set_option linter.unusedVariables false

def backWp (P : Program) : Code → (Exit → Act → World → Prop) → Act → World → Prop
 | .seq x y, Q => bif hasRF x then backWp P x (Exit.then (y.wp P Q) Q) else backWp P y Q
 | c, Q => c.wp P Q

def spineEnd : Code → Bool
 | .seq x y => !hasRF x && spineEnd y
 | _ => true
def spineOne : Code → Bool
 | .seq x y => bif hasRF x then spineEnd x else spineOne y
 | _ => false

open Classical in
theorem fin_key {P : Program} {fn : Func} {sg : Sig} {Q : List SV → Prop} {objs : List (Nat × Ob)} {h : Hp} {ρ : Nat → Loc} {w w' : World} {ds : List Deferred} {st0 : St} {a : Act}
  (hF : Fits { w := w, h := h, G := Gv objs ρ, pin := fun id => if (∃ i ms, sg.ps[i]? = some (.lend ms) ∧ id = pId i) ∨ id ∈ staysOf 0 sg.ps then some (ρ id) else none, df := ds } st0 a w') (hfin : finC P fn sg Q st0) :
  a.defers = ds ∧ ∃ v, (results fn a.tmps).run P w' = .ok v w' ∧ Back sg objs h ρ w Q (.returned v) w' := by
 obtain ⟨h1, ρe, F1⟩ := hF
 unfold finC at hfin
 split at hfin
 ·exact hfin.elim
 ·rename_i ss0 hss0
  obtain ⟨h2, _, F2⟩ := F1.frzAll (frzArgs st0.objs sg.rs 0 ss0 ++ frzLent st0.objs 0 sg.ps)
  simp only [] at hfin
  generalize St.frzAll (frzArgs st0.objs sg.rs 0 ss0 ++ frzLent st0.objs 0 sg.ps) st0 = st at hfin F2
  split at hfin
  ·exact hfin.elim
  ·rename_i ss hss
   split at hfin
   ·rename_i rs l1 ls l2 hp1 hp2
    cases hnd : (nodupB ((l1 ++ l2).filterMap (·.1)) && nodupB ((l1 ++ l2).map (·.2)) && stayOK l2 (staysOf 0 sg.ps)) with
    | false => simp only [hnd, cond_false] at hfin
    | true =>
     simp only [hnd, cond_true] at hfin
     simp only [Bool.and_eq_true] at hnd
     have hst := hnd.2
     have hnd := hnd.1
     have hn1 := nodupB_spec hnd.1
     have hn2 := nodupB_spec hnd.2
     let ρ' := pull (l1 ++ l2) ρe (fun _ => noLoc)
     have hpl : Pulls (l1 ++ l2) ρe ρ' := pulls_pull ρe _ hn2
     obtain ⟨vr, hrun, hl, hr⟩ := resAll_sound F2 _ _ hss
     obtain ⟨hr', os1, e1, e2, e3, e4, e5⟩ := passArgs_sound (P := P) (ρ' := ρ') F2.obj rId sg.rs fn.resultTypes.toList ss 0 rs l1 hp1 hpl.left
     obtain ⟨os2, g1, g2, g3⟩ := passLent_sound (P := P) (ρ' := ρ') F2.obj fn.params.toList sg.ps 0 ls l2 hp2 hpl.right
     have hrl : vr.length = rs.length := by omega
     have PA := e5.append g2
     refine ⟨F2.df, rets vr, results_run hrun, vr, h2, ρ', rs ++ ls, hr', os1 ++ os2, rfl, hfin, ?_, ⟨by omega, fun i v s hv hs' => ?_⟩, pass_holds PA hpl hn1 F2.sub F2.inj, fun i hi => ?_, ⟨fun i ms hi => ?_, fun id hid => ?_⟩, F2.mono, F2.ext, F2.kp⟩
     ·simp only [endH, hrl]
      simp [e1, g1]
     ·have hi : i < ss.length := by have := (List.getElem?_eq_some_iff.1 hv).1; omega
      exact e4 i v _ s (List.getElem?_eq_getElem hi) hs' (hr i v _ hv (List.getElem?_eq_getElem hi))
     ·obtain ⟨id, c, hm, hlv, eb⟩ := pass_Gv PA hpl ⟨i, hi, rfl⟩
      rw [← eb]
      exact F2.own id hlv
     ·obtain ⟨q1, cs, q2⟩ := g3 i ms hi
      rw [Nat.zero_add] at q1 q2
      have hpin := F2.pin (pId i) (ρ (pId i)) (by simp only []; rw [if_pos (.inl ⟨i, ms, hi, rfl⟩)])
      have hloc : ρ' (pId i) = ρe (pId i) := hpl (some (pId i), pId i) (by simp [q1])
      have hn := (F2.obj _ _ q2).1
      rw [hpin.1] at hn hloc
      exact ⟨hn, by rw [hloc]⟩
     ·have hpin := F2.pin id (ρ id) (by simp only []; rw [if_pos (.inr hid)])
      have hloc : ρ' id = ρe id := hpl (some id, id) (List.mem_append_right _ (stayOK_mem hst hid))
      rw [hloc, hpin.1]
   ·exact hfin.elim

theorem FitsAt.restand {X : Cx} {h : Hp} {ρ : Nat → Loc} {st : St} {a : Act} {w : World} (F : FitsAt X h ρ st a w) (ds : List Deferred) : FitsAt { w := w, h := h, G := Gv st.objs ρ, pin := X.pin, df := ds } h ρ st { a with defers := ds } w :=
 { F with df := rfl, own := fun i hi => .inr ⟨i, hi, rfl⟩, mono := HLe.refl _, ext := fun _ _ _ _ e => e, kp := Keeps.refl _ _, gl := ⟨F.glob, F.glob.off (fun i ⟨⟨o, e⟩, hn⟩ => ObOK.hnone (F.obj i o e) hn)⟩ }

theorem FitsAt.based {X : Cx} {h h' : Hp} {ρ ρ' : Nat → Loc} {st st' : St} {a a' : Act} {w w' : World} {ds : List Deferred} (F0 : FitsAt X h ρ st a w) (F : FitsAt { w := w, h := h, G := Gv st.objs ρ, pin := X.pin, df := ds } h' ρ' st' a' w') :
  FitsAt { X with df := ds } h' ρ' st' a' w' := by
 have hG : ∀ b, Gv st.objs ρ b → X.w.heap.size ≤ b ∨ X.G b := by
  rintro b ⟨i, hi, rfl⟩; exact F0.own i hi
 have hsz := F0.kp.size
 refine { F with df := F.df, own := fun i hi => ?_, mono := F0.mono.trans F.mono, ext := fun b hb hg o e => ?_, kp := ?_, gl := F0.gl }
 ·rcases F.own i hi with h1 | h1
  ·exact .inl (Nat.le_trans hsz h1)
  ·exact hG _ h1
 ·refine F.ext b (Nat.lt_of_lt_of_le hb hsz) (fun hb2 => ?_) o (F0.ext b hb hg o e)
  rcases hG b hb2 with h1 | h1
  ·exact absurd hb (Nat.not_lt.2 h1)
  ·exact hg h1
 ·refine ⟨F.kp.os.trans F0.kp.os, F.kp.tape.trans F0.kp.tape, F.kp.output.trans F0.kp.output, Nat.le_trans hsz F.kp.size, fun k hk hg => ?_⟩
  rw [F.kp.block k (Nat.lt_of_lt_of_le hk hsz) (fun hb2 => ?_), F0.kp.block k hk hg]
  rcases hG k hb2 with h1 | h1
  ·exact absurd hk (Nat.not_lt.2 h1)
  ·exact hg h1

end Go.Px

namespace Go.Px
open Go Go.RowKit
set_option linter.unusedVariables false

def BackOK (P : Program) (f : FuncId) (el : (Nat → Value) → Value) (sz : Nat) : Prop :=
 (∀ args w, (callFunc f args).run P w = .ok (.enter f args) w) ∧
 ∀ (l Bs bo : Nat) (p : Option Addr) (b off len cap : Nat) (ce : Nat → Nat → Value) (_ : 0 < len → p = some ⟨b, off, none⟩) (_ : len ≤ 4611686018427387904)
  (J : Nat → World → Prop) (Kp : World → World → Prop) (_ : ∀ W, Kp W W) (_ : ∀ {A B C : World}, Kp A B → Kp B C → Kp A C)
  (_ : ∀ k W, J k W → k < len → YieldAt Fence.wide 1 P l #[.int .i64 ((len : Int) - 1 - k), el (ce (len - 1 - k))] W fun e W' => e = .returned (.bool true) ∧ J (k + 1) W' ∧ Kp W W')
  (W : World) (_ : ∀ W', Kp W W' → W'.cell? ⟨Bs, bo, none⟩ = some (.slice p len cap)) (_ : ∀ j, j < len → ∀ i, i < sz → ∀ W', Kp W W' → W'.cell? ⟨b, off + j * sz + i, none⟩ = some (ce j i)) (_ : J 0 W),
  CallsIn Fence.wide 2 P f #[.func (.yield l) #[] #[], .pointer (some ⟨Bs, bo, none⟩)] W fun e W' => (∃ v, e = .returned v) ∧ J len W'

section
variable {P : Program}

def isRec : Obj → Bool
 | .loop _ | .deferred _ => true
 | _ => false

def KeepRec (B : Nat) (W W' : World) : Prop := W.heap.size ≤ W'.heap.size ∧ ∀ (k : Nat) (o : Obj), B ≤ k → W.heap[k]? = some o → isRec o = true → W'.heap[k]? = some o

def rndPost (B : Nat) (Kp : World → World → Prop) (I : World → Prop) (W : World) : Exit → Act → World → Prop
 | .normal, _, W' => KeepRec B W W' ∧ Kp W W' ∧ I W'
 | _, _, _ => False

end



section
variable {P : Program} {X : Cx}

theorem mkHead_tmps {sp : LoopSpec} {wr : List Nat} {st hd : St} {vs : List SV} (hs : sp.slots = []) (hm : mkHead sp wr st vs = some hd) : hd.tmps = keepTmps wr (keepIds sp) 0 st.tmps := by
 unfold mkHead at hm
 rw [hs] at hm
 simp only [mkSlots] at hm
 split at hm
 ·split at hm
  ·cases hm; rfl
  ·cases hm
 ·cases hm

def AtHead (X : Cx) (sp : LoopSpec) (wr : List Nat) (st : St) (a : Act) (I : ITy (shapes sp) Prop) (W : World) : Prop :=
 ∃ st1 a1 h ρ vals ids, FitsAt X h ρ st1 a1 W ∧ Fr wr a a1 ∧ headOf sp st1 = some (vals, ids) ∧ headOK sp wr ids = true ∧ keptTmps (keepTmps wr (keepIds sp) 0 st.tmps) st1.tmps = true ∧
  fixedAt (keepIds sp) st1.objs sp.fixed = fixedAt (keepIds sp) st.objs sp.fixed ∧ applyI (shapes sp) I vals (fun p => p)

theorem AtHead.made {sp : LoopSpec} {wr : List Nat} {st : St} {a : Act} {I : ITy (shapes sp) Prop} {W W' : World} (A : AtHead X sp wr st a I W) (hk : Keeps (fun _ => False) W W') : AtHead X sp wr st a I W' := by
 obtain ⟨st1, a1, h, ρ, vals, ids, F, r⟩ := A
 exact ⟨st1, a1, h, ρ, vals, ids, F.made hk, r⟩

theorem rec_none {h : Hp} {W : World} {l : Nat} {o : Obj} (hs : HSub h W) (hl : W.heap[l]? = some o) (ho : isRec o = true) : ∀ x, h l x = none := by
 intro x
 cases e : h l x with
 | none => rfl
 | some v =>
  have := hs _ _ _ e
  cases o <;> simp [isRec] at ho <;> simp [World.cell?, hl] at this

theorem rec_live {h : Hp} {ρ : Nat → Loc} {st : St} {a : Act} {W : World} {l : Nat} {o : Obj} (F : FitsAt X h ρ st a W) (hl : W.heap[l]? = some o) (ho : isRec o = true) : ∀ i, live st.objs ρ i → (ρ i).blk ≠ l := by
 rintro i ⟨⟨ob, e⟩, hn⟩ rfl
 have k := F.obj i ob e
 cases ob with
 | box cells => obtain ⟨_, ⟨cs, t, e, _⟩, _⟩ := k; rw [hl] at e; cases e; simp [isRec] at ho
 | own sz rows =>
  rcases k with ⟨h1, _⟩ | ⟨_, k⟩
  ·rw [h1] at hn; cases hn
  ·obtain ⟨cs, t, fz, e, _⟩ := k.hblk; rw [hl] at e; cases e; simp [isRec] at ho
 | mp es => obtain ⟨_, ⟨ents, cl, e, _⟩, _⟩ := k; rw [hl] at e; cases e; simp [isRec] at ho
 | arr kd m ns => obtain ⟨_, ⟨cs, t, e, _⟩, _⟩ := k; rw [hl] at e; cases e; simp [isRec] at ho

theorem FitsAt.putRec {h : Hp} {ρ : Nat → Loc} {st : St} {a : Act} {W : World} {l : Nat} {o : Obj} (o' : Obj) (F : FitsAt X h ρ st a W) (hX : X.w.heap.size ≤ l) (hl : W.heap[l]? = some o) (ho : isRec o = true) : FitsAt X h ρ st a (W.putObj l o') :=
 F.touch l (rec_live F hl ho) (rec_none F.sub hl ho) (.inl hX) (fun k hk => World.putObj_heap_other hk) ⟨rfl, rfl, rfl, by simp, fun k _ hk => World.putObj_heap_other hk⟩

theorem FitsAt.restand0 {h : Hp} {ρ : Nat → Loc} {st : St} {a : Act} {w : World} (F : FitsAt X h ρ st a w) (hdf : X.df = []) : FitsAt { w := w, h := h, G := Gv st.objs ρ, pin := X.pin, df := [] } h ρ st a w := by
 have e : { a with defers := [] } = a := by
  have := F.df.trans hdf
  cases a; cases this; rfl
 have := F.restand []
 rw [e] at this
 exact this

theorem keepRec_of {h : Hp} {ρ : Nat → Loc} {st : St} {a : Act} {W W' : World} (B : Nat) (F : FitsAt X h ρ st a W) (kp : Keeps (Gv st.objs ρ) W W') : KeepRec B W W' := by
 refine ⟨kp.size, fun k o _ hk ho => ?_⟩
 rw [kp.block k (Array.getElem?_eq_some_iff.1 hk).1 (fun hg => ?_)]
 ·exact hk
 ·obtain ⟨i, hi, e⟩ := hg
  exact rec_live F hk ho i hi e

theorem keptTmps_self (wr ids : List Nat) : ∀ (l : List SV) (t : Nat), keptTmps (keepTmps wr ids t l) l = true
 | [], t => rfl
 | c :: cs, t => by
  simp only [keepTmps, keptTmps, keptTmps_self wr ids cs, Bool.and_true]
  cases hh : hasN wr t with
  | true => rfl
  | false =>
   simp only [cond_false]
   rcases keepV_cases ids c with e | ⟨e, _⟩
   ·rw [e]; cases c <;> rfl
   ·rw [e]; cases c <;> simp [keptV]

theorem enter_rf {h0 : Hp} {ρ00 : Nat → Loc} {st : St} {a0 : Act} {w0 W : World} (F0 : FitsAt X h0 ρ00 st a0 w0) (hX : X.h = h0) {sp : LoopSpec} {wr : List Nat} (hsl : sp.slots = []) (hs0 : (fixedAt (keepIds sp) st.objs sp.fixed).isSome = true)
  {I : ITy (shapes sp) Prop} {m : ITy (shapes sp) Nat} {K : St → Prop} (A : AtHead X sp wr st a0 I W)
  (h2 : allI (shapes sp) I m fun vs _ => match mkHead sp wr st vs with | none => False | some hd => K hd) :
  ∃ hd h ρ, FitsAt X h ρ hd a0 W ∧ K hd ∧ hd.tmps = keepTmps wr (keepIds sp) 0 st.tmps := by
 obtain ⟨st1, a1, h, ρ, vals, ids, F1, hfr, hh, hok1, hkept, hfx, hi⟩ := A
 obtain ⟨vs', k, hn, hk, hm⟩ := allI_get _ I m _ _ h2 hi
 split at hk
 ·exact hk.elim
 ·rename_i hd hmk
  obtain ⟨g1, g2⟩ := keptTmps_get _ _ hkept
  obtain ⟨k1, k2⟩ := keepTmps_get wr (keepIds sp) st.tmps 0
  obtain ⟨ρ', F'⟩ := head_fits F1 hh hok1 hn (fun t s hs => by
   obtain ⟨c, hc, hcase⟩ := k2 t s hs
   rcases hcase with rfl | ⟨hnw, rfl⟩
   ·exact .pure _ _ (.unk _)
   ·rw [Nat.zero_add] at hnw
    rcases keepV_cases (keepIds sp) c with e | ⟨e, hcs⟩
    ·rw [e]; exact .pure _ _ (.unk _)
    ·have hlt : t < st1.tmps.length := by rw [g1]; exact (List.getElem?_eq_some_iff.1 hs).1
     have hkv := g2 t _ _ hs (List.getElem?_eq_getElem hlt)
     rw [e] at hkv ⊢
     rcases hcs with hp | hcs
     ·rw [hfr t hnw]
      have ht := F0.tm t c hc
      have hr : Rep h0 ρ00 (a0.tmps.getD t undef) c := ht.out (fun t' b x e' => by subst e'; simp [pureDat] at hp)
      exact .pure _ _ ((hr.toPure hp).mono (hX ▸ F1.mono))
     ·have he := keptV_eq hkv (by
       rcases hcs with ⟨id, off, e, _⟩ | ⟨id, e, _⟩ | ⟨id, e, _⟩
       ·exact .inl ⟨id, off, e⟩
       ·exact .inr (.inl ⟨id, e⟩)
       ·exact .inr (.inr ⟨id, e⟩))
      have ht := F1.tm t _ (List.getElem?_eq_getElem hlt)
      rw [he] at ht
      exact ht.out (fun t' b x e' => by rcases hcs with ⟨id, off, e, _⟩ | ⟨id, e, _⟩ | ⟨id, e, _⟩ <;> rw [e] at e' <;> cases e')) (by rw [g1, k1]) hs0 hfx hmk
  have htm := mkHead_tmps hsl hmk
  refine ⟨hd, h, ρ', { F' with size := ?_, tm := fun t s hs => ?_, df := F0.df }, hk, htm⟩
  ·rw [htm, k1]; exact F0.size
  ·have r := F'.tm t s hs
   rw [htm] at hs
   obtain ⟨c, hc, hcase⟩ := k2 t s hs
   rcases hcase with rfl | ⟨hnw, rfl⟩
   ·exact TRep.rep_unk _ _
   ·rw [Nat.zero_add] at hnw
    rw [hfr t hnw] at r
    refine TRep.of_rep' (r.out (fun t' b x e' => ?_))
    rcases keepV_cases (keepIds sp) c with e | ⟨e, hcs⟩
    ·rw [e] at e'; cases e'
    ·rw [e] at e'
     subst e'
     rcases hcs with hp | ⟨_, _, e, _⟩ | ⟨_, e, _⟩ | ⟨_, e, _⟩
     ·simp [pureDat] at hp
     all_goals cases e

def elOf (P : Program) (e : TypeId) (z : Nat) : (Nat → Value) → Value := bif isAggT P e then fun c => .agg ((List.range z).map c).toArray else fun c => c 0

theorem atHead_back {sp : LoopSpec} {wr : List Nat} {st st2 : St} {a0 a3 : Act} {W : World} {h : Hp} {ρ : Nat → Loc} {I : ITy (shapes sp) Prop} (F : FitsAt X h ρ st2 a3 W) (hfr : Fr wr a0 a3) (hb : backAt sp wr st I st2) : AtHead X sp wr st a0 I W := by
 unfold backAt at hb
 obtain ⟨h', _, F'⟩ := F.frzAll (headFrz st2 sp)
 split at hb
 ·exact hb.elim
 ·rename_i vals ids hh
  cases hc : (headOK sp wr ids && keptTmps (keepTmps wr (keepIds sp) 0 st.tmps) (St.frzAll (headFrz st2 sp) st2).tmps) with
  | false => simp only [hc, cond_false] at hb
  | true =>
   simp only [hc, cond_true] at hb
   simp only [Bool.and_eq_true] at hc
   exact ⟨_, a3, h', ρ, vals, ids, F', hfr, hh, hc.1, hc.2, hb.1, hb.2⟩

theorem Fr.df {ws : List Nat} {a b : Act} {ds : List Deferred} (x : Fr ws { a with defers := ds } b) : Fr ws a b := x

end


def mkD (D : Nat) : Deferred := { target := .collected D, args := #[] }

def MFits (X : Cx) (st : St) (a : Act) (w : World) : Prop :=
 ∃ Ds : List Nat, Ds.Nodup ∧ (∀ D ∈ Ds, w.heap[D]? = some (.deferred (some [])) ∧ X.w.heap.size ≤ D) ∧ Fits { X with df := Ds.map mkD ++ X.df } st a w

section
variable {P : Program}

theorem FitsAt.restand' {X : Cx} {h : Hp} {ρ : Nat → Loc} {st : St} {a : Act} {w : World} (F : FitsAt X h ρ st a w) : FitsAt { w := w, h := h, G := Gv st.objs ρ, pin := X.pin, df := X.df } h ρ st a w := by
 have e : { a with defers := X.df } = a := by
  have := F.df
  cases a; cases this; rfl
 have := F.restand X.df
 rw [e] at this
 exact this

theorem marks_stay {X : Cx} {h : Hp} {ρ : Nat → Loc} {st : St} {a : Act} {w w' : World} (F : FitsAt X h ρ st a w) (kp : Keeps (Gv st.objs ρ) w w') {D : Nat} (hD : w.heap[D]? = some (.deferred (some []))) : w'.heap[D]? = some (.deferred (some [])) := by
 rw [kp.block D (Array.getElem?_eq_some_iff.1 hD).1 (fun ⟨i, hi, e⟩ => rec_live F hD rfl i hi e)]
 exact hD

theorem vcR_vc (Sg : FuncId → Sig) (Sv : TypeId → Sig) (L : Nat → Option LoopSpec) (c : Code) (X : Cx) (st : St) (a : Act) (w : World) (QA : Ex → St → Prop) (Q : Exit → Act → World → Prop)
  (hQ : ∀ e st a' w, MFits X st a' w → QA e st → Q e.to a' w) (F : MFits X st a w) (hv : vc P Sg Sv L c st QA) : c.wp P Q a w := by
 obtain ⟨Ds, hn, hD, h, ρ, F⟩ := F
 refine vc_sound Sg Sv L c _ st a w QA Q ?_ ⟨h, ρ, F.restand'⟩ hv
 rintro e st1 a1 w1 ⟨h1, ρ1, F1⟩ _ he
 have G := F.based F1
 exact hQ e st1 a1 w1 ⟨Ds, hn, fun D hd => ⟨marks_stay F F1.kp (hD D hd).1, (hD D hd).2⟩, h1, ρ1, G⟩ he

theorem leaves_marks {X : Cx} {h : Hp} {ρ : Nat → Loc} {st : St} {a : Act} {fn : Func} {R : Ending → World → Prop} (key : ∀ w, FitsAt X h ρ st a w → ∃ v, (results fn a.tmps).run P w = .ok v w ∧ R (.returned v) w) :
  ∀ (Ds : List Nat) (w : World), Ds.Nodup → (∀ D ∈ Ds, w.heap[D]? = some (.deferred (some [])) ∧ X.w.heap.size ≤ D) → FitsAt X h ρ st a w → LeavesInM Fence.wide 3 P fn a.tmps R (Ds.map mkD) .returning w
 | [], w, _, _, F => key w F
 | D :: Ds, w, hn, hD, F => by
  obtain ⟨h1, h2⟩ := hD D (by simp)
  obtain ⟨hn1, hn2⟩ := List.nodup_cons.1 hn
  exact ⟨by simp, .inl ⟨D, _, rfl, run_takeDeferred h1, leaves_marks key Ds _ hn2 (fun E hE => ⟨(World.putObj_heap_other (by rintro rfl; exact hn1 hE)).trans (hD E (by simp [hE])).1, (hD E (by simp [hE])).2⟩) (F.putRec _ h2 h1 rfl)⟩⟩

open Classical in
end


def ItOK (P : Program) (f : FuncId) (h : Hp) (caps : Array Value) (N : Nat) (ys : Nat → Value) : Prop :=
 (∀ args w, (callFunc f args).run P w = .ok (.enter f args) w) ∧
 ∀ (l : Nat) (J : Nat → World → Prop) (Jx : World → Prop) (_ : ∀ k W, J k W → HSub h W)
  (_ : ∀ k W, J k W → k < N → YieldAt Fence.wide 1 P l #[ys k] W fun e W' => (e = .returned (.bool true) ∧ J (k + 1) W') ∨ (e = .returned (.bool false) ∧ Jx W'))
  (W : World) (_ : J 0 W),
  CallsIn Fence.wide 2 P f (#[.func (.yield l) #[] #[]] ++ caps) W fun e W' => (∃ v, e = .returned v) ∧ (J N W' ∨ Jx W')

section
variable {P : Program}

def rndPostG (B : Nat) (I R : World → Prop) (W : World) : Exit → Act → World → Prop
 | .normal, _, W' => KeepRec B W W' ∧ I W'
 | .ret, _, W' => KeepRec B W W' ∧ R W'
 | _, _, _ => False

theorem rf_lawG {g : Operand} {ps : Array Tmp} {assign body : Code} {Q : Exit → Act → World → Prop} {a : Act} {w : World} {f : FuncId} {h : Hp} {caps : Array Value} {N : Nat} {ys : Nat → Value} (hB : ItOK P f h caps N ys)
  (hg : a.eval g = .func (.func f) #[] caps) (hps : ps.size = 1)
  (I : Nat → World → Prop) (R : World → Prop) (hIh : ∀ k W, I k W → HSub h W)
  (hIa : ∀ k W o, I k W → I k (W.alloc o)) (hIp : ∀ k W l o o', w.heap.size ≤ l → I k W → W.heap[l]? = some o → isRec o = true → I k (W.putObj l o'))
  (hRp : ∀ W l o o', w.heap.size ≤ l → R W → W.heap[l]? = some o → isRec o = true → R (W.putObj l o')) (h0 : I 0 w)
  (hround : ∀ (l k : Nat) (W : World), w.heap.size ≤ l → I k W → k < N →
   assign.wpIn (Fence.wide.inRound l) 1 P (Exit.then (fun a' W' => KeepRec w.heap.size W W' ∧ ∀ o o', W'.heap[l]? = some o → isRec o = true →
     body.wpIn (Fence.wide.inRound l) 1 P (rndPostG w.heap.size (I (k + 1)) R (W'.putObj l o')) a' (W'.putObj l o')) (fun _ _ _ => False))
    { tmps := (ps.zip #[ys k]).foldl (fun t (p, v) => t.setIfInBounds p v) a.tmps, defers := [] } W)
  (hdone : ∀ (D : Nat) (W : World), w.heap.size ≤ D → I N W → W.heap[D]? = some (.deferred (some [])) → Q .normal { a with defers := { target := .collected D, args := #[] } :: a.defers } W)
  (hret : ∀ (D : Nat) (W : World), w.heap.size ≤ D → R W → W.heap[D]? = some (.deferred (some [])) → Q .ret { a with defers := { target := .collected D, args := #[] } :: a.defers } W) :
  (Code.rangeFunc g ps assign body).wpIn Fence.wide 3 P Q a w := by
 refine wpIn_rangeFunc fun fn _ => ?_
 obtain ⟨rec, hrec⟩ : ∃ rec : LoopState → Option Code → Loop, rec = fun st p => { state := st, pending := p, fn, tmps := a.tmps, params := ps, assign, body, defers := w.heap.size } := ⟨_, rfl⟩
 obtain ⟨W1, hW1⟩ : ∃ W1, (w.alloc (.deferred (some []))).alloc (.loop (rec .ready none)) = W1 := ⟨_, rfl⟩
 have hL : W1.heap[w.heap.size + 1]? = some (.loop (rec .ready none)) := by
  rw [← hW1]; have := World.alloc_heap_new (w.alloc (.deferred (some []))) (.loop (rec .ready none)); rwa [World.size_alloc] at this
 have hD : W1.heap[w.heap.size]? = some (.deferred (some [])) := by
  rw [← hW1]; exact (Below.heap_alloc _ _ _ (by simp)).trans (World.alloc_heap_new w _)
 have hI1 : I 0 W1 := by rw [← hW1]; exact hIa _ _ _ (hIa _ _ _ h0)
 refine ⟨w.heap.size + 1, [{ target := .collected w.heap.size, args := #[] }], W1, { target := .fn (.func f) caps, args := #[.func (.yield (w.heap.size + 1)) #[] #[]] }, W1, f,
  #[.func (.yield (w.heap.size + 1)) #[] #[]] ++ caps, W1, ?_, ?_, fun f' hf' => trivial, ?_, fun h => (by cases h), ?_⟩
 ·rw [← hW1, hrec]; exact run_enterLoop_outer _ _ _ _ _
 ·simp only [resolve, hg]
  simp [go_sem]
 ·simp [invoke, go_sem, hB.1]
 ·refine (hB.2 (w.heap.size + 1) (fun k W => I k W ∧ W.heap[w.heap.size + 1]? = some (.loop (rec .ready none)) ∧ W.heap[w.heap.size]? = some (.deferred (some [])))
   (fun W => R W ∧ W.heap[w.heap.size + 1]? = some (.loop (rec .done (some .ret))) ∧ W.heap[w.heap.size]? = some (.deferred (some []))) (fun k W h => hIh k W h.1) ?_ W1 ⟨hI1, hL, hD⟩).mono ?_
  ·rintro k W ⟨hi, hl, hd⟩ hk
   have hy := run_yield (P := P) (args := #[ys k]) hl (by rw [hrec]; simp [hps])
   rw [hrec] at hy
   refine ⟨fn, _, assign, body, hy, roundIn_of_wpIn trivial (wpIn_mono (hround (w.heap.size + 1) k W (by omega) hi hk) ?_)⟩
   rintro e a1 W2 hq
   cases e with
   | normal =>
    obtain ⟨kr, hb⟩ := hq
    have hl2 := kr.2 _ _ (by omega) hl rfl
    have hd2 := kr.2 _ _ (Nat.le_refl _) hd rfl
    refine ⟨_, run_beginRound hl2 (by rw [hrec]), wpIn_mono (hb _ (.loop { rec .ready none with state := .busy }) hl2 rfl) ?_⟩
    have hlt : w.heap.size + 1 < W2.heap.size := (Array.getElem?_eq_some_iff.1 hl2).1
    have hl3 : (W2.putObj (w.heap.size + 1) (.loop { rec .ready none with state := .busy })).heap[w.heap.size + 1]? = some (.loop { rec .ready none with state := .busy }) := World.putObj_heap_same hlt
    have hd3 : (W2.putObj (w.heap.size + 1) (.loop { rec .ready none with state := .busy })).heap[w.heap.size]? = some (.deferred (some [])) := (World.putObj_heap_other (by omega)).trans hd2
    rintro e a3 W3 h3
    cases e with
    | normal =>
     obtain ⟨kr3, hi3⟩ := h3
     have hl4 := kr3.2 _ _ (by omega) hl3 rfl
     have hd4 := kr3.2 _ _ (Nat.le_refl _) hd3 rfl
     refine ⟨_, _, run_endRound none hl4, .inl ⟨rfl, hIp _ _ _ _ _ (by omega) hi3 hl4 rfl, ?_, (World.putObj_heap_other (by omega)).trans hd4⟩⟩
     rw [World.putObj_heap_same (Array.getElem?_eq_some_iff.1 hl4).1, hrec]
     rfl
    | ret =>
     obtain ⟨kr3, hi3⟩ := h3
     have hl4 := kr3.2 _ _ (by omega) hl3 rfl
     have hd4 := kr3.2 _ _ (Nat.le_refl _) hd3 rfl
     refine ⟨_, _, run_endRound (some .ret) hl4, .inr ⟨rfl, hRp _ _ _ _ (by omega) hi3 hl4 rfl, ?_, (World.putObj_heap_other (by omega)).trans hd4⟩⟩
     rw [World.putObj_heap_same (Array.getElem?_eq_some_iff.1 hl4).1, hrec]
     rfl
    | _ => exact h3.elim
   | _ => exact hq.elim
  ·rintro e W2 ⟨⟨v, rfl⟩, (⟨hi, hl, hd⟩ | ⟨hi, hl, hd⟩)⟩
   ·have := run_endLoop (P := P) hl (by rw [hrec]; simp)
    rw [hrec] at this
    exact ⟨none, _, this, hdone _ _ (Nat.le_refl _) (hIp _ _ _ _ _ (by omega) hi hl rfl) ((World.putObj_heap_other (by omega)).trans hd)⟩
   ·have := run_endLoop (P := P) hl (by rw [hrec]; simp)
    rw [hrec] at this
    exact ⟨some .ret, _, this, wpIn_ret (hret _ _ (Nat.le_refl _) (hRp _ _ _ _ (by omega) hi hl rfl) ((World.putObj_heap_other (by omega)).trans hd))⟩

end

def ItSpec (P : Program) (fid : FuncId) (it : ItT) : Prop :=
 ∀ rows (h : Hp) (v : Value), PRep h v (.clo fid (it.caps rows)) → ∃ (caps : Array Value) (N : Nat) (yv : Nat → Value), v = .func (.func fid) #[] caps ∧ (N : Int) = it.cnt rows ∧ (∀ k, k < N → PRep h (yv k) (it.ys rows (k : Int))) ∧ ItOK P fid h caps N yv

section
variable {P : Program} {X : Cx}

theorem cutsR_cond (L : Nat → Option LoopSpec) (c : Operand) : cutsR L (condKey c) = none := by
 cases c with
 | tmp t =>
  show (bif Nat.blt (4000000 + t) 2000000 then L (4000000 + t) else none) = none
  have : Nat.blt (4000000 + t) 2000000 = false := by
   cases h : Nat.blt (4000000 + t) 2000000 with
   | false => rfl
   | true => rw [Nat.blt_eq] at h; omega
  rw [this]; rfl
 | _ => rfl
theorem cutsR_block (L : Nat → Option LoopSpec) (id : Nat) : cutsR L (2000000 + id) = none := by
 unfold cutsR
 have : Nat.blt (2000000 + id) 2000000 = false := by
  cases h : Nat.blt (2000000 + id) 2000000 with
  | false => rfl
  | true => rw [Nat.blt_eq] at h; omega
 rw [this]; rfl

set_option maxHeartbeats 1000000 in
theorem vcG0_sound (Sg : FuncId → Sig) (Sv : TypeId → Sig) (L : Nat → Option LoopSpec) {fid : FuncId} {it : ItT} (hIt : ItSpec P fid it) {sp : LoopSpec} {g : Operand} {ps : Array Tmp} {assign body : Code}
  {h00 : Hp} {ρ00 : Nat → Loc} {st00 : St} {a : Act} {w : World} (F00 : FitsAt X h00 ρ00 st00 a w) {K Kr : St → Prop} (hv : vcG0 P Sg Sv L fid it sp g ps assign body st00 K Kr) {Q : Exit → Act → World → Prop}
  (hQ : ∀ (D : Nat) (st' : St) (W : World), w.heap.size ≤ D → Fits X st' a W → K st' → W.heap[D]? = some (.deferred (some [])) → Q .normal { a with defers := { target := .collected D, args := #[] } :: a.defers } W)
  (hR : ∀ (D : Nat) (st' : St) (W : World), w.heap.size ≤ D → Fits X st' a W → Kr st' → W.heap[D]? = some (.deferred (some [])) → Q .ret { a with defers := { target := .collected D, args := #[] } :: a.defers } W) :
  (Code.rangeFunc g ps assign body).wpIn Fence.wide 3 P Q a w := by
 unfold vcG0 vcG1 at hv
 obtain ⟨h0, _, F0⟩ := F00.frzAll (headFrz st00 sp)
 generalize St.frzAll (headFrz st00 sp) st00 = st at hv F0
 generalize hwr : ps.toList ++ (writes assign ++ writes body) = wr at hv
 try simp only [] at hv
 split at hv
 ·rename_i f cl q hg hpq hsl
  split at hv
  ·rename_i vals ids hh
   cases hc : (rndOK assign && rndOK body && Nat.blt q (lenN st.tmps) && headOK sp wr ids && (fixedAt (keepIds sp) st.objs sp.fixed).isSome) with
   | false => simp only [hc, cond_false] at hv
   | true =>
    simp only [hc, cond_true] at hv
    simp only [Bool.and_eq_true] at hc
    obtain ⟨⟨⟨⟨c3, c4⟩, c7⟩, c8⟩, c9⟩ := hc
    have c7 : q < st.tmps.length := by have := c7; rw [lenN_eq] at this; simpa [Nat.blt_eq] using this
    obtain ⟨rfl, rows, rfl, I, R, hI0, hround, hdone, hret⟩ := hv
    obtain ⟨psl⟩ := ps
    simp only at hpq
    subst hpq
    have hqw : q ∈ wr := by rw [← hwr]; simp
    have haw : ∀ t, t ∈ writes assign → t ∈ wr := fun t ht => by rw [← hwr]; simp [ht]
    have hbw : ∀ t, t ∈ writes body → t ∈ wr := fun t ht => by rw [← hwr]; simp [ht]
    have rg := F0.operand [] (by simp) g
    rw [hg] at rg
    obtain ⟨caps, N, yv, eg, hN, hyr, hB⟩ := hIt rows h0 _ (rg.toPure (by rfl))
    let a0 : Act := { a with defers := [] }
    let Y : Cx := { X with h := h0, df := [] }
    have FY : FitsAt Y h0 ρ00 st a0 w := { F0.rebase with df := rfl }
    have hYw : Y.w.heap.size ≤ w.heap.size := FY.kp.size
    refine rf_lawG (f := f) (h := h0) (caps := caps) (N := N) (ys := yv) hB eg rfl (fun k W => AtHead Y sp wr st a0 (I (k : Int)) W) (fun W => AtHead Y sp wr st a0 R W) ?_ ?_ ?_ ?_ ?_ ?_ ?_ ?_
    ·rintro k W ⟨st1, a1, h, ρ, vals, ids, F, r⟩ b o v hb
     exact F.sub _ _ _ (F.mono _ _ _ hb)
    ·intro k W o A
     exact A.made ⟨rfl, rfl, rfl, by simp, fun k hk _ => Below.heap_alloc _ _ _ hk⟩
    ·rintro k W l o o' hl ⟨st1, a1, h, ρ, vals, ids, F, r⟩ ho hro
     exact ⟨st1, a1, h, ρ, vals, ids, F.putRec o' (by omega) ho hro, r⟩
    ·rintro W l o o' hl ⟨st1, a1, h, ρ, vals, ids, F, r⟩ ho hro
     exact ⟨st1, a1, h, ρ, vals, ids, F.putRec o' (by omega) ho hro, r⟩
    ·exact ⟨st, a0, h0, ρ00, vals, ids, FY, Fr.refl _ _, hh, c8, keptTmps_self _ _ _ _, rfl, hI0⟩
    ·intro l k W hl A hk
     obtain ⟨hd, h, ρ, F, hva, htm⟩ := enter_rf FY rfl hsl c9 A (hround k (by omega) (by omega))
     have rv2 := hyr k hk
     have ktm := keepTmps_get wr (keepIds sp) st.tmps 0
     have hlt : hd.tmps.length = st.tmps.length := by rw [htm, ktm.1]
     have hsz : a.tmps.size = st.tmps.length := F0.size
     have hqa : q < a.tmps.size := by rw [hsz]; exact c7
     have hqh : q < hd.tmps.length := by rw [hlt]; exact c7
     let ar : Act := { tmps := a.tmps.setIfInBounds q (yv k), defers := [] }
     let hdr : St := { hd with tmps := lset hd.tmps q (it.ys rows k) }
     have hget : ∀ t, t ≠ q → ar.tmps.getD t undef = a.tmps.getD t undef := fun t h2 => by
      simp only [ar, Array.getD_eq_getD_getElem?]
      rw [Array.getElem?_setIfInBounds_ne (Ne.symm h2)]
     have hgq : ar.tmps.getD q undef = yv k := by
      simp only [ar, Array.getD_eq_getD_getElem?]
      rw [Array.getElem?_setIfInBounds_self_of_lt hqa]
      rfl
     have Fr0 : FitsAt Y h ρ hdr ar W := { F with
      size := by simp [ar, hdr, lset_eq, hlt, hsz]
      df := rfl
      tm := fun t s hs => by
       simp only [hdr, lset_eq] at hs
       by_cases hq : t = q
       ·subst hq
        rw [List.getElem?_set_self (by simpa using hqh)] at hs
        cases hs
        rw [hgq]
        exact TRep.of_rep' (.pure _ _ (rv2.mono F.mono))
       ·rw [List.getElem?_set_ne (Ne.symm hq)] at hs
        rw [hget t hq]
        have r := F.tm t s hs
        rw [htm] at hs
        obtain ⟨c, hc, hcase⟩ := ktm.2 t s hs
        refine TRep.of_rep' (r.out (fun t' b x e' => ?_))
        rcases hcase with e2 | ⟨_, e2⟩
        ·rw [e2] at e'; cases e'
        ·rcases keepV_cases (keepIds sp) c with e | ⟨e, hcs⟩
         ·rw [e2, e] at e'; cases e'
         ·rw [e2, e] at e'
          subst e'
          rcases hcs with hp | ⟨_, _, e, _⟩ | ⟨_, e, _⟩ | ⟨_, e, _⟩
          ·simp [pureDat] at hp
          all_goals cases e }
     have Ffr : Fr wr a0 ar := fun t ht => hget t (fun e => ht (e ▸ hqw))
     have hfold : ((⟨[q]⟩ : Array Tmp).zip #[yv k]).foldl (fun t (p, v) => t.setIfInBounds p v) a.tmps = ar.tmps := by simp [ar]
     show assign.wpIn _ _ _ _ { tmps := _, defers := [] } W
     rw [hfold]
     refine vc_soundIn l 1 Sg Sv (cutsR L) (cutsR_cond L) (cutsR_block L) assign c3 _ hdr ar W _ _ ?_ ⟨h, ρ, Fr0.restand0 rfl⟩ hva
     rintro ex st1 a1 W1 ⟨h1, ρ1, F1⟩ hf1 he
     cases ex with
     | exit id => exact he.elim
     | ret => exact he.elim
     | normal =>
      have G1 : FitsAt Y h1 ρ1 st1 a1 W1 := Fr0.based F1
      refine ⟨keepRec_of _ Fr0 F1.kp, fun o o' ho hro => ?_⟩
      have G2 := G1.putRec o' (by omega) ho hro
      refine vc_soundIn l 1 Sg Sv (cutsR L) (cutsR_cond L) (cutsR_block L) body c4 _ st1 a1 _ _ _ ?_ ⟨h1, ρ1, G2.restand0 rfl⟩ he
      rintro ex st2 a2 W2 ⟨h2, ρ2, F2⟩ hf2 he2
      have G3 : FitsAt Y h2 ρ2 st2 a2 W2 := G2.based F2
      cases ex with
      | exit id => exact he2.elim
      | ret => exact ⟨keepRec_of _ G2 F2.kp, atHead_back G3 (Ffr.trans ((hf1.mono haw).trans (hf2.mono hbw))) he2⟩
      | normal => exact ⟨keepRec_of _ G2 F2.kp, atHead_back G3 (Ffr.trans ((hf1.mono haw).trans (hf2.mono hbw))) he2⟩
    ·intro D W hD A hDd
     obtain ⟨hd, h, ρ, F, hk, _⟩ := enter_rf FY rfl hsl c9 A (hN ▸ hdone)
     exact hQ D hd W hD ⟨h, ρ, F0.unbase (a := a) { F with df := F0.df }⟩ hk hDd
    ·intro D W hD A hDd
     obtain ⟨hd, h, ρ, F, hk, _⟩ := enter_rf FY rfl hsl c9 A hret
     exact hR D hd W hD ⟨h, ρ, F0.unbase (a := a) { F with df := F0.df }⟩ hk hDd
  ·exact hv.elim
 ·exact hv.elim

theorem vcG_sound (Sg : FuncId → Sig) (Sv : TypeId → Sig) (L : Nat → Option LoopSpec) {It : Nat → Option (FuncId × ItT)} (hIt : ∀ p f it, It p = some (f, it) → ItSpec P f it) :
  ∀ (c : Code) (X : Cx) (st : St) (a : Act) (w : World) (QA : Ex → St → Prop) (Q : Exit → Act → World → Prop),
  (∀ e st a' w, MFits X st a' w → QA e st → Q e.to a' w) → MFits X st a w → vcG P Sg Sv L It c st QA → c.wp P Q a w := by
 intro c
 induction c with
 | seq x y ihx ihy =>
  intro X st a w QA Q hQ F hv
  unfold vcG at hv
  cases hb : (hasRF x || hasRF y) with
  | false => simp only [hb, cond_false] at hv; exact vcR_vc Sg Sv L _ X st a w QA Q hQ F hv
  | true =>
   simp only [hb, cond_true] at hv
   refine wp_seq (ihx X st a w _ _ ?_ F hv)
   intro e st1 a1 w1 F1 he
   cases e with
   | normal => exact ihy X st1 a1 w1 QA Q hQ F1 he
   | exit id => exact hQ (.exit id) st1 a1 w1 F1 he
   | ret => exact hQ .ret st1 a1 w1 F1 he
 | block id b ih =>
  intro X st a w QA Q hQ F hv
  unfold vcG at hv
  cases hb : hasRF b with
  | false => simp only [hb, cond_false] at hv; exact vcR_vc Sg Sv L _ X st a w QA Q hQ F hv
  | true =>
   simp only [hb, cond_true] at hv
   refine wp_block (ih X st a w _ _ ?_ F hv)
   intro e st1 a1 w1 F1 he
   cases e with
   | normal => exact hQ .normal st1 a1 w1 F1 he
   | exit i =>
    simp only [Ex.to, Exit.inBlock]
    by_cases hi : i = id
    ·subst hi; simp only [Nat.beq_refl, cond_true] at he; rw [if_pos rfl]; exact hQ .normal st1 a1 w1 F1 he
    ·simp only [beq_false hi, cond_false] at he; rw [if_neg hi]; exact hQ (.exit i) st1 a1 w1 F1 he
   | ret => exact hQ .ret st1 a1 w1 F1 he
 | rangeFunc g ps assign body =>
  intro X st a w QA Q hQ F hv
  unfold vcG at hv
  split at hv
  ·rename_i sp fid it _ hite
   obtain ⟨Ds, hn, hD, h, ρ, F⟩ := F
   have mk : ∀ (D : Nat) (st1 : St) (w1 : World), w.heap.size ≤ D → Fits { w := w, h := h, G := Gv st.objs ρ, pin := X.pin, df := Ds.map mkD ++ X.df } st1 a w1 → w1.heap[D]? = some (.deferred (some [])) → MFits X st1 { a with defers := { target := .collected D, args := #[] } :: a.defers } w1 := by
    rintro D st1 w1 hDw ⟨h1, ρ1, F1⟩ hDd
    have G := F.based F1
    have hlt : ∀ E ∈ Ds, E < w.heap.size := fun E hE => (Array.getElem?_eq_some_iff.1 (hD E hE).1).1
    refine ⟨D :: Ds, List.nodup_cons.2 ⟨fun hm => Nat.lt_irrefl _ (Nat.lt_of_lt_of_le (hlt D hm) hDw), hn⟩, fun E hE => ?_, h1, ρ1, { G with df := ?_ }⟩
    ·rcases List.mem_cons.1 hE with rfl | hE
     ·exact ⟨hDd, Nat.le_trans F.kp.size hDw⟩
     ·exact ⟨marks_stay F F1.kp (hD E hE).1, (hD E hE).2⟩
    ·have := G.df
     simp only [List.map_cons, List.cons_append]
     exact congrArg (mkD D :: ·) this
   refine (wpIn_wide (n := 3)).1 (vcG0_sound Sg Sv L (hIt _ fid it hite) F.restand' hv ?_ ?_)
   ·intro D st1 w1 hDw F1 hk hDd
    exact hQ .normal st1 _ w1 (mk D st1 w1 hDw F1 hDd) hk
   ·intro D st1 w1 hDw F1 hk hDd
    exact hQ .ret st1 _ w1 (mk D st1 w1 hDw F1 hDd) hk
  ·exact hv.elim
 | _ =>
  intro X st a w QA Q hQ F hv
  exact vcR_vc Sg Sv L _ X st a w QA Q hQ F (by simpa only [vcG] using hv)

open Classical in
theorem fnG_of {P : Program} (Sg : FuncId → Sig) (Sv : TypeId → Sig) (L : Nat → Option LoopSpec) {It : Nat → Option (FuncId × ItT)} (hIt : ∀ p f it, It p = some (f, it) → ItSpec P f it)
  {f : FuncId} {sg : Sig} {args : List SV} {Q : List SV → Prop} {Y : Prop} (fn : Func) (hf : P.funcs[f]? = some fn) (hname : (fn.name == "runtime.NumGoroutine") = false)
  (e : Y = vcFG P Sg Sv L It fn sg args Q) (hY : Y) : Ct P f sg args Q := by
 have hv := e.mp hY
 unfold vcFG at hv
 split at hv
 ·rename_i c hb
  have hname : fn.name ≠ "runtime.NumGoroutine" := by intro e; rw [e] at hname; simp at hname
  refine ⟨⟨fn, hf, by rw [hb]; rfl, hname⟩, fun hs objs hargs h ρ w vs hH hgl hrep => ?_⟩
  refine (callsIn_wide (n := 3)).1 (callsIn_of_wp_marks hf hb trivial ((wpIn_wide).2 ?_) rfl)
  have hst : start fn sg args = { tmps := hs ++ List.replicate (fn.ntmps - hs.length) .unk, objs := objs } := by
   simp only [start, hargs]
  rw [hst] at hv
  have hlen : vs.size = hs.length := by have := hrep.1; simpa using this
  let X : Cx := { w := w, h := h, G := Gv objs ρ, pin := fun id => if (∃ i ms, sg.ps[i]? = some (.lend ms) ∧ id = pId i) ∨ id ∈ staysOf 0 sg.ps then some (ρ id) else none }
  have F : FitsAt X h ρ { tmps := hs ++ List.replicate (fn.ntmps - hs.length) .unk, objs := objs } { tmps := vs ++ Array.replicate (fn.ntmps - vs.size) undef, defers := [] } w := by
   refine ⟨by simp [hlen], fun t s hs' => ?_, rfl, hH.sub, fun id o ho => hH.obj id o (oget_mem ho), hH.inj, fun i hi => .inr ⟨i, hi, rfl⟩, HLe.refl _, fun _ _ _ _ e => e, Keeps.refl _ _, fun id l hp => ?_, hgl, hgl.off (fun i ⟨⟨o, e⟩, hn⟩ => ObOK.hnone (hH.obj i o (oget_mem e)) hn)⟩
   ·simp only [] at hs'
    rw [List.getElem?_append] at hs'
    by_cases ht : t < hs.length
    ·rw [if_pos ht] at hs'
     have hv' : (vs ++ Array.replicate (fn.ntmps - vs.size) undef).getD t undef = vs[t]'(by omega) := by
      simp [Array.getElem?_append, hlen, ht]
     simp only [hv']
     exact TRep.of_rep' (hrep.2 t _ s (by simp) hs')
    ·rw [if_neg ht] at hs'
     rw [List.getElem?_replicate] at hs'
     split at hs'
     ·cases hs'; exact TRep.rep_unk _ _
     ·cases hs'
   ·simp only [X] at hp
    split at hp
    ·rename_i hx
     rcases hx with ⟨i, ms, _, rfl⟩ | hx
     ·cases hp
      exact ⟨rfl, idOK_pId i⟩
     ·cases hp
      exact ⟨rfl, idOK_stay hx⟩
    ·cases hp
  refine vcG_sound Sg Sv L hIt c X _ _ _ _ _ ?_ ⟨[], List.nodup_nil, fun _ h => (by simp at h), h, ρ, F⟩ hv
  intro e st a w' hM he
  have key : closeV fn.results.toList st (finC P fn sg Q) → LeavesInM Fence.wide 3 P fn a.tmps (Back sg objs h ρ w Q) a.defers .returning w' := by
   intro hcl
   obtain ⟨Ds, hn, hD, h1, ρ1, F1⟩ := hM
   have edf : a.defers = Ds.map mkD := by have := F1.df; simpa [X] using this
   rw [edf]
   refine leaves_marks (X := { X with df := Ds.map mkD ++ X.df }) (fun w2 F2 => ?_) Ds w' hn hD F1
   obtain ⟨st4, hF4, hq4⟩ := close_sound _ ⟨h1, ρ1, F2⟩ hcl
   obtain ⟨_, v, q2, q3⟩ := fin_key (ds := Ds.map mkD) (by simpa [X] using hF4) hq4
   exact ⟨v, q2, q3⟩
  cases e with
  | normal => exact key he
  | ret => exact key he
  | exit id => exact he.elim
 ·exact hv.elim

end

end Go.Px

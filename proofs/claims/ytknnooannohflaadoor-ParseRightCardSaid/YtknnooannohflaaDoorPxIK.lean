/- A function's contract out of its body's conditions. -/
import Derived.Test.YtknnooannohflaaDoorPxUV
import Derived.ProofKit
import Derived.JoinedCond
namespace Go.Px
open Go.RowKit
set_option linter.unusedVariables false

section
variable {X : Cx} {h : Hp} {ρ ρ' : Nat → Loc} {st : St} {a : Act} {w : World} {P : Program} {objs : List (Nat × Ob)}

def Zjt (tmps : Array Value) : ResultVar → Sem Value
 | .tmp t => pure (tmps.getD t undef)
 | .cell a t => do loadVar t (← asAddr (tmps.getD a undef))

theorem Zon (F : FitsAt X h ρ st a w) (r : ResultVar) {s : SV} (hs : resOf P st r = some s) : ∃ v, (Zjt a.tmps r).run P w = .ok v w ∧ Rep h ρ v s := by
 cases r with
 | tmp t =>
  simp only [resOf] at hs
  split at hs
  ·cases hs
  ·cases hs
   exact ⟨_, by simp [Zjt], F.slot [] (by simp) t⟩
 | cell t ty =>
  simp only [resOf] at hs
  split at hs
  ·rename_i s' hs'
   cases hs
   unfold Zwk at hs'
   split at hs'
   ·rename_i id hxs
    split at hs'
    ·rename_i kd m ns kd' m' ho hbig
     cases hb : (decide (kd = kd') && Nat.beq m m') with
     | false => simp only [hb, cond_false] at hs'; cases hs'
     | true =>
      simp only [hb, cond_true] at hs'
      cases hs'
      simp only [Bool.and_eq_true, decide_eq_true_eq] at hb; obtain ⟨rfl, b1⟩ := hb; have h1 : m = m' := Nat.eq_of_beq_eq_true b1; subst h1; obtain ⟨hlen, hcells⟩ := Zhh F ho; obtain ⟨vs, hvs, hl⟩ := Zqa (P := P) (w := w) hbig hlen hcells; have hr := F.slot [] (by simp) t; rw [hxs] at hr; have hv := hr.ptr_inv; refine ⟨.agg vs, ?_, .pure _ _ (.arr _ kd m ns hlen hvs)⟩; simp [Zjt, hv, asAddr, hl w rfl]
    ·cases hs'
   ·cases hs'
  obtain ⟨u, ad, _, hu, r⟩ := Zij F (F.slot [] (by simp) t) hs; refine ⟨u, ?_, r⟩; have hu := hu w rfl; simp only [Zjt, Sem.run_bind]; simp only [Instr.loadAt, Sem.run_bind] at hu; generalize a.tmps.getD t undef = x at *
  cases x with
  | pointer p => cases p with
   | none => simp [Instr.sureAddr] at hu
   | some ad => simp [Instr.sureAddr] at hu; simp [asAddr, hu]
  | _ => simp [Instr.sureAddr] at hu

theorem Zid (F : FitsAt X h ρ st a w) : ∀ (l : List ResultVar) (ss : List SV), Zlx P st l = some ss →
  ∃ vs : List Value, (l.mapM (Zjt a.tmps)).run P w = .ok vs w ∧ vs.length = ss.length ∧ ∀ (i : Nat) v s, vs[i]? = some v → ss[i]? = some s → Rep h ρ v s
 | [], ss, e => by simp [Zlx] at e; subst e; exact ⟨[], by simp, rfl, by simp⟩
 | r :: rs, ss, e => by
  simp only [Zlx] at e
  split at e
  ·rename_i s ss' h1 h2
   cases e
   obtain ⟨v, hv, rv⟩ := Zon F r h1; obtain ⟨vs, hvs, hl, hr⟩ := Zid F rs ss' h2; refine ⟨v :: vs, by simp [List.mapM_cons, hv, hvs], by simp [hl], fun i u c hu hc => ?_⟩
   cases i with
   | zero => simp at hu hc; subst hu; subst hc; exact rv
   | succ i => exact hr i u c (by simpa using hu) (by simpa using hc)
  ·cases e

theorem Zoo {fn : Func} {vs : List Value} {tmps : Array Value} (h : (fn.results.toList.mapM (Zjt tmps)).run P w = .ok vs w) : (results fn tmps).run P w = .ok (rets vs) w := by
 have e : results fn tmps = (do let vs ← fn.results.mapM (Zjt tmps); pure (if h : vs.size = 1 then vs[0] else .tuple vs)) := (by unfold results; rfl); rw [e, Array.mapM_eq_mapM_toList]; simp only [Sem.run_bind, Sem.run_map, h, Result.andThen_ok, Sem.run_pure]; congr 1
 match vs with
 | [] => rfl
 | [v] => rfl
 | v :: v' :: vs => simp [rets]

theorem Zcw (hob : ∀ id o, oget objs id = some o → ObOK h ρ w id o) (pts : List TypeId) : ∀ (ms : List Md) (i : Nat) (ds : List SV) (ids : List (Option Nat × Nat)), Zec P objs pts i ms = some (ds, ids) → Pulls ids ρ ρ' →
  ∃ os, lentH i ms ds = some os ∧ PassOK objs h ρ' w ids os ∧ ∀ (k : Nat) m, ms[k]? = some (.lend m) → (some (pId (i + k)), pId (i + k)) ∈ ids ∧ ∃ cs, oget objs (pId (i + k)) = some (.box cs)
 | [], i, ds, ids, e, hp => by simp [Zec] at e; obtain ⟨rfl, rfl⟩ := e; exact ⟨[], rfl, PassOK.nil, by simp⟩
 | .pure :: r, i, ds, ids, e, hp => by
  obtain ⟨os, e1, e2, e3⟩ := Zcw hob pts r (i + 1) ds ids (by simpa [Zec] using e) hp; refine ⟨os, by simpa [lentH] using e1, e2, fun k m hk => ?_⟩
  cases k with
  | zero => simp at hk
  | succ k => rw [show i + (k + 1) = i + 1 + k by omega]; exact e3 k m (by simpa using hk)
 | .own :: r, i, ds, ids, e, hp => by
  obtain ⟨os, e1, e2, e3⟩ := Zcw hob pts r (i + 1) ds ids (by simpa [Zec] using e) hp; refine ⟨os, by simpa [lentH] using e1, e2, fun k m hk => ?_⟩
  cases k with
  | zero => simp at hk
  | succ k => rw [show i + (k + 1) = i + 1 + k by omega]; exact e3 k m (by simpa using hk)
 | .lend ms :: r, i, ds, ids, e, hp => by
  simp only [Zec] at e
  split at e
  ·rename_i d l ds2 ls h1 h2
   cases e
   obtain ⟨hd, os1, g1, _, g3⟩ := Zhl (P := P) hob (pts.getD i 0) h1 hp.left; obtain ⟨os, e1, e2, e3⟩ := Zcw hob pts r (i + 1) ds2 ls h2 hp.right
   have hd1 : ∃ cs cs2 l2, d = .agg cs ∧ oget objs (pId i) = some (.box cs2) ∧ l = (some (pId i), pId i) :: l2 := by
    unfold Zfu at h1; simp only [] at h1
    split at h1
    ·rename_i cs2 ho; simp at h1; obtain ⟨ds3, l3, _, rfl, rfl⟩ := h1; exact ⟨_, _, _, rfl, ho, rfl⟩
    ·cases h1
   obtain ⟨cs, cs2, l2, rfl, hob2, rfl⟩ := hd1; simp only [normM, argH] at g1
   split at g1
   ·rename_i cs' os' hl
    cases g1
    refine ⟨(pId i, .box cs') :: os' ++ os, by simp only [normM, lentH, e1, hl], g3.append e2, fun k m hk => ?_⟩
    cases k with
    | zero => exact ⟨by simp, cs2, hob2⟩
    | succ k => rw [show i + (k + 1) = i + 1 + k by omega]; obtain ⟨q1, q2⟩ := e3 k m (by simpa using hk); exact ⟨by simp [q1], q2⟩
   ·cases g1
  ·cases e

end

theorem Ze0 {X : Cx} {a : Act} {w : World} {K : St → Prop} : ∀ (rs : List ResultVar) {st : St}, Fits X st a w → Zks rs st K → ∃ st', Fits X st' a w ∧ K st'
 | [], st, F, hx => ⟨st, F, hx⟩
 | .cell _ _ :: rs, st, F, hx => Ze0 rs F hx
 | .tmp t :: rs, st, F, hx => by
  unfold Zks at hx
  split at hx
  ·rename_i id hh c hs
   split at hx
   ·rename_i sz rows ho
    cases hid : idOK id with
    | false => simp only [hid, cond_false] at hx
    | true =>
     simp only [hid, cond_true] at hx; obtain ⟨hle, hx⟩ := hx; refine Ze0 rs ?_ hx; obtain ⟨h, ρ, F⟩ := F
     have hlt : st.tmps[t]? = some (.osv id (.ofNat 0) hh c) := by
      rw [Zco] at hs
      cases e : st.tmps[t]? with
      | none => rw [e] at hs; simp at hs
      | some s => rw [e] at hs; simp at hs; rw [hs]; rfl
     have hrep : Rep h ρ (a.tmps.getD t undef) (.osv id 0 hh c) := F.tm t _ hlt; obtain ⟨p, hv, h0, h1, h2, hc, hp⟩ := hrep.osv_inv; simp only [rlen, Int.ofNat_eq_natCast] at hle
     have fin : ∀ (l : Loc), FitsAt X h (upd ρ id l) (st.bind id (.own sz (rsub rows 0 hh))) a w → Rep h (upd ρ id l) (a.tmps.getD t undef) (.osl id) → Fits X (st.close t id sz (rsub rows 0 hh)) a w := fun l F1 r => by
      refine ⟨h, _, F1.weaken _ (by simp [St.close, Zfl]) (fun t' s' hs' => ?_) (fun _ _ e => e)⟩; simp only [St.close, Zfl, List.getElem?_set] at hs'
      split at hs'
      ·rename_i e; subst e
       split at hs'
       ·cases hs'; exact TRep.of_rep' r
       ·cases hs'
      ·exact F1.tm t' s' hs'
     by_cases hc0 : c = 0
     ·have e1 : hh = 0 := (by omega); have e2 : rsub rows 0 hh = [] := (by subst e1; simp [rsub]); refine fin noLoc (F.bind id hid _ noLoc (.inl ⟨by rw [Zad]; rfl, e2⟩) (by simp [noLoc]) (by simp [noLoc])) ?_; rw [hv, e1, hc0]; exact .osl0 id p (by rw [Zad]; rfl)
     ·obtain ⟨hn, own, hcc⟩ := Zh8 F ho hc (by omega); have e2 : rsub rows 0 hh = rows.take hh.toNat := (by simp [rsub]); have hown := own.first hh.toNat (by omega)
      refine fin { ρ id with len := hh.toNat } (F.bind id hid _ { ρ id with len := hh.toNat } (.inr ⟨by rw [Zad]; exact hn, by rw [Zad, e2]; exact hown⟩) (fun _ => F.own id ⟨⟨_, ho⟩, hn⟩) (fun _ i hi hl => F.inj i id hl ⟨⟨_, ho⟩, hn⟩ hi)) ?_; rw [hv, hp (by omega), hcc]; have := Rep.osl (h := h) (ρ := upd ρ id { ρ id with len := hh.toNat }) id (by rw [Zad]; exact hn); rw [Zad] at this
      simpa using this
   ·exact hx.elim
  ·exact Ze0 rs F hx

open Classical in
theorem Zu4 {P : Program} (Sg : FuncId → Sig) (Sv : TypeId → Sig) (L : Nat → Option LoopSpec) {f : FuncId} {fn : Func} {c : Code} {sg : Sig} {args : List SV} {Q : List SV → Prop} (hf : P.funcs[f]? = some fn) (hb : fn.body = some c) (hname : fn.name ≠ "runtime.NumGoroutine")
  (hv : vc P Sg Sv L c (Zq3 L fn sg args) (fin P fn sg Q)) : Ct P f sg args Q := by
 refine ⟨⟨fn, hf, by rw [hb]; rfl, hname⟩, fun hs objs hargs h ρ w vs hH hgl hrep => ?_⟩; refine calls_of_wp hf hb ?_; have hst : start fn sg args = { tmps := hs ++ List.replicate (fn.ntmps - hs.length) .unk, objs := objs } := (by simp only [start, hargs]); have hlen : vs.size = hs.length := by have := hrep.1; simpa using this
 let X : Cx := { w := w, h := h, G := Gv objs ρ, pin := fun id => if (∃ i ms, sg.ps[i]? = some (.lend ms) ∧ id = pId i) ∨ id ∈ Zdu 0 sg.ps then some (ρ id) else none }
 have F : FitsAt X h ρ { tmps := hs ++ List.replicate (fn.ntmps - hs.length) .unk, objs := objs } { tmps := vs ++ Array.replicate (fn.ntmps - vs.size) undef, defers := [] } w := by
  refine ⟨by simp [hlen], fun t s hs' => ?_, rfl, hH.sub, fun id o ho => hH.obj id o (Zd4 ho), hH.inj, fun i hi => .inr ⟨i, hi, rfl⟩, HLe.refl _, fun _ _ _ _ e => e, Keeps.refl _ _, fun id l hp => ?_, hgl, hgl.off (fun i ⟨⟨o, e⟩, hn⟩ => ObOK.hnone (hH.obj i o (Zd4 e)) hn)⟩
  ·simp only [] at hs'; rw [List.getElem?_append] at hs'; by_cases ht : t < hs.length
   ·rw [if_pos ht] at hs'; have hv' : (vs ++ Array.replicate (fn.ntmps - vs.size) undef).getD t undef = vs[t]'(by omega) := (by simp [Array.getElem?_append, hlen, ht]); simp only [hv']; exact TRep.of_rep' (hrep.2 t _ s (by simp) hs')
   ·rw [if_neg ht] at hs'; rw [List.getElem?_replicate] at hs'
    split at hs'
    ·cases hs'; exact TRep.rep_unk _ _
    ·cases hs'
  ·simp only [X] at hp
   split at hp
   ·rename_i hx
    rcases hx with ⟨i, ms, _, rfl⟩ | hx
    ·cases hp
     exact ⟨rfl, Zp8 i⟩
    ·cases hp
     exact ⟨rfl, Zno hx⟩
   ·cases hp
 have FM : Fits X (Zq3 L fn sg args) { tmps := vs ++ Array.replicate (fn.ntmps - vs.size) undef, defers := [] } w := by
  unfold Zq3; rw [hst]
  cases (L 3000003).isSome with
  | true => exact ⟨h, _, F.bind 6 (by decide) (.own 0 []) noLoc (.inl ⟨by rw [Zad]; rfl, rfl⟩) (by simp [noLoc]) (by simp [noLoc])⟩
  | false => cases (L 3000002).isSome with
  | true => exact ⟨h, _, F.bind 5 (by decide) (.own 0 []) noLoc (.inl ⟨by rw [Zad]; rfl, rfl⟩) (by simp [noLoc]) (by simp [noLoc])⟩
  | false => cases (L 3000001).isSome with
  | true => exact ⟨h, _, F.bind 4 (by decide) (.own 0 []) noLoc (.inl ⟨by rw [Zad]; rfl, rfl⟩) (by simp [noLoc]) (by simp [noLoc])⟩
  | false => cases (L 3000000).isSome with
  | false => exact ⟨h, ρ, F⟩
  | true => exact ⟨h, _, F.bind 3 (by decide) (.own 0 []) noLoc (.inl ⟨by rw [Zad]; rfl, rfl⟩) (by simp [noLoc]) (by simp [noLoc])⟩
 refine Zuf Sg Sv L c X _ _ _ _ _ ?_ FM hv; intro e st00 a w' hF0 _ he
 have key0 : Zks fn.results.toList st00 (finC P fn sg Q) → a.defers = [] ∧ ∃ v, (results fn a.tmps).run P w' = .ok v w' ∧ Back sg objs h ρ w Q (.returned v) w' := by
  intro hcl; obtain ⟨st0, hF, hfin0⟩ := Ze0 _ hF0 hcl
  have key : finC P fn sg Q st0 → a.defers = [] ∧ ∃ v, (results fn a.tmps).run P w' = .ok v w' ∧ Back sg objs h ρ w Q (.returned v) w' := by
   intro hfin; obtain ⟨h1, ρe, F1⟩ := hF; unfold finC at hfin
   split at hfin
   ·exact hfin.elim
   ·rename_i ss0 hss0; obtain ⟨h2, _, F2⟩ := F1.frzAll (Zej st0.objs sg.rs 0 ss0 ++ Zkr st0.objs 0 sg.ps); simp only [] at hfin; generalize St.frzAll (Zej st0.objs sg.rs 0 ss0 ++ Zkr st0.objs 0 sg.ps) st0 = st at hfin F2
    split at hfin
    ·exact hfin.elim
    ·rename_i ss hss
     split at hfin
     ·rename_i rs l1 ls l2 hp1 hp2
      cases hnd : (Zcd ((l1 ++ l2).filterMap (·.1)) && Zcd ((l1 ++ l2).map (·.2)) && Zq2 l2 (Zdu 0 sg.ps)) with
      | false => simp only [hnd, cond_false] at hfin
      | true =>
       simp only [hnd, cond_true] at hfin; simp only [Bool.and_eq_true] at hnd; have hst := hnd.2; have hnd := hnd.1; have hn1 := Zbm hnd.1; have hn2 := Zbm hnd.2
       let ρ' := pull (l1 ++ l2) ρe (fun _ => noLoc)
       have hpl : Pulls (l1 ++ l2) ρe ρ' := Zf4 ρe _ hn2; obtain ⟨vr, hrun, hl, hr⟩ := Zid F2 _ _ hss; obtain ⟨hr', os1, e1, e2, e3, e4, e5⟩ := Zeg (P := P) (ρ' := ρ') F2.obj rId sg.rs fn.resultTypes.toList ss 0 rs l1 hp1 hpl.left; obtain ⟨os2, g1, g2, g3⟩ := Zcw (P := P) (ρ' := ρ') F2.obj fn.params.toList sg.ps 0 ls l2 hp2 hpl.right; have hrl : vr.length = rs.length := (by omega); have PA := e5.append g2; refine ⟨F2.df, rets vr, Zoo hrun, vr, h2, ρ', rs ++ ls, hr', os1 ++ os2, rfl, hfin, ?_, ⟨by omega, fun i v s hv hs' => ?_⟩, pass_holds PA hpl hn1 F2.sub F2.inj, fun i hi => ?_, ⟨fun i ms hi => ?_, fun id hid => ?_⟩, F2.mono, F2.ext, F2.kp⟩
       ·simp only [endH, hrl]; simp [e1, g1]
       ·have hi : i < ss.length := (by have := (List.getElem?_eq_some_iff.1 hv).1; omega); exact e4 i v _ s (List.getElem?_eq_getElem hi) hs' (hr i v _ hv (List.getElem?_eq_getElem hi))
       ·obtain ⟨id, c, hm, hlv, eb⟩ := Zo2 PA hpl ⟨i, hi, rfl⟩; rw [← eb]; exact F2.own id hlv
       ·obtain ⟨q1, cs, q2⟩ := g3 i ms hi; rw [Nat.zero_add] at q1 q2; have hpin := F2.pin (pId i) (ρ (pId i)) (by simp only [X]; rw [if_pos (.inl ⟨i, ms, hi, rfl⟩)]); have hloc : ρ' (pId i) = ρe (pId i) := hpl (some (pId i), pId i) (by simp [q1]); have hn := (F2.obj _ _ q2).1; rw [hpin.1] at hn hloc; exact ⟨hn, by rw [hloc]⟩
       ·have hpin := F2.pin id (ρ id) (by simp only [X]; rw [if_pos (.inr hid)]); have hloc : ρ' id = ρe id := hpl (some id, id) (List.mem_append_right _ (Zrh hst hid)); rw [hloc, hpin.1]
     ·exact hfin.elim
  exact key hfin0
 cases e with
 | normal => exact key0 he
 | ret => exact key0 he
 | exit id => exact he.elim

theorem fn_of {P : Program} (Sg : FuncId → Sig) (Sv : TypeId → Sig) (L : Nat → Option LoopSpec) {f : FuncId} {sg : Sig} {args : List SV} {Q : List SV → Prop} {X : Prop} (fn : Func) (hf : P.funcs[f]? = some fn) (hname : (fn.name == "runtime.NumGoroutine") = false)
  (e : X = vcF P Sg Sv L fn sg args Q) (h : X) : Ct P f sg args Q := by
 have hv := e.mp h; unfold vcF at hv
 split at hv
 ·rename_i c hc; exact Zu4 Sg Sv L hf hc (fun e => by rw [e] at hname; simp at hname) hv
 ·exact hv.elim

end Go.Px

namespace Go.Px
open Go.RowKit Go.ChangeShapes Go.WideShapes Go.ChangeAt
set_option linter.unusedVariables false

def hof (w : World) : Hp := fun b o => w.cell? ⟨b, o, none⟩

theorem Zw7 (w : World) : HSub (hof w) w := fun _ _ _ e => e

def Zju {α : Type} (Q : α → List SV → Prop) : List α → List SV → Prop
 | [], ss => ss = []
 | x :: xs, ss => ∃ a b, ss = a ++ b ∧ Q x a ∧ Zju Q xs b

def Typ (P : Program) : Nat → TypeId → List SV → Prop
 | 0, _, _ => True
 | n + 1, t, ss => match P.underlying t with
  | some .bool => ∃ b, ss = [.val (.bool b)]
  | some (.int k) => ∃ x : Int, ss = [.val (.int k x)] ∧ (Lit.int k x).wf = true
  | some .string => ∃ s : ByteArray, ss = [.val (.string s)] ∧ s.size ≤ maxLen
  | some (.slice e) => ∃ rows, ss = [.slice (P.cellsOf e) rows 0] ∧ rows.length ≤ maxLen ∧ ∀ r ∈ rows, Typ P n e r
  | some (.struct fs) => Zju (fun f s => Typ P n f s) (fs.toList.map (·.type)) ss
  | some (.array m e) => Zju (fun f s => Typ P n f s) (List.replicate m e) ss
  | _ => True

def Zp5 (P : Program) : Nat → List Field → Bool
 | _, [] => true
 | off, f :: fs => Nat.beq f.offset off && Zp5 P (off + P.cellsOf f.type) fs

def lay (P : Program) : Nat → TypeId → Bool
 | 0, _ => false
 | n + 1, t => match P.underlying t with
  | some (.slice e) => Nat.ble 1 (P.cellsOf e) && lay P n e
  | some (.struct fs) => Zp5 P 0 fs.toList && Nat.beq (P.cellsOf t) ((fs.toList.map fun f => P.cellsOf f.type).foldr (· + ·) 0) && fs.toList.all fun f => lay P n f.type
  | some (.array m e) => Nat.beq (P.cellsOf t) (m * P.cellsOf e) && lay P n e
  | _ => true

section
variable {H : Type} {enc : TypeId × Value → H} {P : Program} {w : World} {spare : Nat → Bool} {held : Bool}

def Reads (w : World) (cs : List Value) (ss : List SV) : Prop := ss.length = cs.length ∧ ∀ (i : Nat) v s, cs[i]? = some v → ss[i]? = some s → PRep (hof w) v s ∧ v.oneCell' = true

theorem Reads.val (v : Value) (h : v.oneCell' = true) : Reads w [v] [.val v] :=
 ⟨rfl, fun i u s hv hs => by cases i with
  | zero => simp at hv hs; subst hv; subst hs; exact ⟨.val v, h⟩
  | succ i => simp at hv⟩

theorem Reads.append {c1 c2 : List Value} {s1 s2 : List SV} (h1 : Reads w c1 s1) (h2 : Reads w c2 s2) : Reads w (c1 ++ c2) (s1 ++ s2) := by
 refine ⟨by simp [h1.1, h2.1], fun i v s hv hs => ?_⟩; rw [List.getElem?_append] at hv hs; rw [h1.1] at hs
 split at hv
 ·rename_i hlt; rw [if_pos hlt] at hs; exact h1.2 i v s hv hs
 ·rename_i hlt; rw [if_neg hlt] at hs; exact h2.2 _ v s hv hs

theorem Reads.one {v : Value} {s : SV} (h : PRep (hof w) v s) (ho : v.oneCell' = true) : Reads w [v] [s] :=
 ⟨rfl, fun i u c hu hc => by cases i with
  | zero => simp at hu hc; subst hu; subst hc; exact ⟨h, ho⟩
  | succ i => simp at hu⟩

theorem Zp6 {α β : Type} {f : α → Option β} : ∀ {l : List α} {r : List β}, l.mapM f = some r → r.length = l.length ∧ ∀ (i : Nat) y, r[i]? = some y → ∃ x, l[i]? = some x ∧ f x = some y
 | [], r, h => by simp at h; subst h; simp
 | a :: l, r, h => by
  rw [List.mapM_cons] at h; simp only [bind, Option.bind_eq_some_iff, pure, Option.some.injEq] at h; obtain ⟨y, hy, ys, hys, rfl⟩ := h; obtain ⟨h1, h2⟩ := Zp6 hys; refine ⟨by simp [h1], fun i z hz => ?_⟩
  cases i with
  | zero => simp at hz; subst hz; exact ⟨a, by simp, hy⟩
  | succ i => simpa using h2 i z (by simpa using hz)

theorem Zjv {α : Type} (Q : Nat → α → Prop) : ∀ (n : Nat), (∀ i, i < n → ∃ x, Q i x) → ∃ l : List α, l.length = n ∧ ∀ (i : Nat) x, l[i]? = some x → Q i x
 | 0, _ => ⟨[], rfl, by simp⟩
 | n + 1, h => by
  obtain ⟨l, hl, hq⟩ := Zjv Q n (fun i hi => h i (by omega)); obtain ⟨x, hx⟩ := h n (by omega); refine ⟨l ++ [x], by simp [hl], fun i y hy => ?_⟩; rw [List.getElem?_append] at hy
  split at hy
  ·exact hq i y hy
  ·rename_i hge; have hin : i = n := (by have := (List.getElem?_eq_some_iff.1 hy).1; simp at this; omega); subst hin; simp [hl] at hy; subst hy; exact hx

def TypV (P : Program) (n : Nat) (t : TypeId) (s : SV) : Prop := ∃ ss, Typ P n t ss ∧ (Zbb P t = true → s = .agg ss) ∧ (Zbb P t = false → ss = [s])

def TypAll (P : Program) (n : Nat) : List TypeId → List SV → Prop
 | [], ss => ss = []
 | t :: ts, ss => ∃ s rest, ss = s :: rest ∧ TypV P n t s ∧ TypAll P n ts rest

theorem Zop {base : Nat} {t : TypeId} {v : Value} (h : Value.okWide P w .any base t v) : (Zbb P t = true → ∃ vs, v = .agg vs) ∧ (Zbb P t = false → v.cells = #[v]) := by
 have key : Zbb P t = false → Cell.okWide P w .any base t v → v.cells = #[v] := by
  intro _ h
  cases v with
  | agg cs =>
   exfalso; unfold Cell.okWide at h
   split at h <;> first | (rename_i e; cases e; done) | skip
   unfold Cell.ok at h
   split at h <;> first | exact h | (rename_i e; cases e; done)
  | _ => rfl
 unfold Value.okWide at h
 cases hu : P.underlying t with
 | none => have hagg : Zbb P t = false := (by simp [Zbb, hu]); rw [hu] at h; exact ⟨fun e => by (rw [hagg] at e; cases e), fun e => key e h⟩
 | some d =>
  rw [hu] at h
  cases d with
  | struct fs => have hagg : Zbb P t = true := (by simp [Zbb, hu]); obtain ⟨cs, e, _⟩ := h; exact ⟨fun _ => ⟨cs, e⟩, fun e => by (rw [hagg] at e; cases e)⟩
  | array n e => have hagg : Zbb P t = true := (by simp [Zbb, hu]); obtain ⟨cs, e, _⟩ := h; exact ⟨fun _ => ⟨cs, e⟩, fun e => by (rw [hagg] at e; cases e)⟩
  | _ => have hagg : Zbb P t = false := (by simp [Zbb, hu]); exact ⟨fun e => by (rw [hagg] at e; cases e), fun e => key e h⟩

theorem Zg8 {W W' : World} (hlo : laidOutB P = true) (hb : Below W.heap.size W W') : ∀ (ts : List TypeId) (vs : List Value) (ds : List (DataW H)) (ps : List MemPlace),
  (∀ t ∈ ts, P.readableRec t = true ∧ t < P.types.size) → (∀ x ∈ ps, x.block < W.heap.size) → DataW.TrodAll enc P W 0 (fun _ => true) true ts vs ds ps →
  DataW.TrodAll enc P W' 0 (fun b => decide (b < W.heap.size)) true ts vs ds ps
 | [], [], [], ps, _, _, h => h
 | t :: ts, v :: vs, d :: ds, ps, hr, hlt, h => by
  obtain ⟨p, q, h1, h2, rfl⟩ := h
  exact ⟨p, q, Below.trod hlo (hr t (by simp)).1 (hr t (by simp)).2 h1 hb (fun x hx => hlt x (by simp [hx])),
   Zg8 hlo hb ts vs ds q (fun t ht => hr t (by simp [ht])) (fun x hx => hlt x (by simp [hx])) h2, rfl⟩
 | [], _ :: _, _, _, _, _, h => by simp [DataW.TrodAll] at h
 | [], [], _ :: _, _, _, _, h => by simp [DataW.TrodAll] at h
 | _ :: _, [], _, _, _, _, h => by simp [DataW.TrodAll] at h
 | _ :: _, _ :: _, [], _, _, _, h => by simp [DataW.TrodAll] at h

theorem Zgc {spare : Nat → Bool} {held : Bool} {w : World} : ∀ (ts : List TypeId) (vs : List Value) (ds : List (DataW H)) (ps : List MemPlace), DataW.TrodAll enc P w 0 spare held ts vs ds ps → ds.length = ts.length
 | [], [], [], _, _ => rfl
 | t :: ts, v :: vs, d :: ds, ps, h => by obtain ⟨p, q, _, h2, _⟩ := h; simp [Zgc ts vs ds q h2]
 | [], _ :: _, _, _, h => by simp [DataW.TrodAll] at h
 | [], [], _ :: _, _, h => by simp [DataW.TrodAll] at h
 | _ :: _, [], _, _, h => by simp [DataW.TrodAll] at h
 | _ :: _, _ :: _, [], _, h => by simp [DataW.TrodAll] at h

end
end Go.Px

namespace Go.Px
open Go.RowKit

abbrev I (n : Int) : SV := .val (.int .i64 n)
abbrev B (b : Bool) : SV := .val (.bool b)
abbrev S (s : ByteArray) : SV := .val (.string s)

theorem Zaa {b : Bool} {x y : Prop} (h1 : b = true → x) (h2 : b = false → y) : ifB b x y := by
 cases b
 ·exact h2 rfl
 ·exact h1 rfl

abbrev U8 (n : Int) : SV := .val (.int .u8 n)
abbrev U64 (n : Int) : SV := .val (.int .u64 n)
abbrev SL (z : Nat) (rows : List (List SV)) : SV := .slice z rows 0
abbrev sP : Sig := {}
abbrev sO : Sig := ⟨[], [.own]⟩

theorem Cl.of {P : Program} {f : FuncId} {sg : Sig} {as R : List SV} {K : List SV → Prop} (h : Ct P f sg as (fun r => r = R)) (k : K R) : Cl P f sg as K :=
 ⟨_, h, fun _ e => e ▸ k⟩

theorem Cl.ofQ {P : Program} {f : FuncId} {sg : Sig} {as : List SV} {Q K : List SV → Prop} (h : Ct P f sg as Q) (k : ∀ r, Q r → K r) : Cl P f sg as K :=
 ⟨_, h, k⟩

theorem Ct.mono {P : Program} {f : FuncId} {sg : Sig} {as : List SV} {Q Q' : List SV → Prop} (h : Ct P f sg as Q) (k : ∀ r, Q r → Q' r) : Ct P f sg as Q' := by
 refine ⟨h.1, fun hs objs ha hp ρ w vs h1 hg h2 => (h.2 hs objs ha hp ρ w vs h1 hg h2).mono ?_⟩; rintro e w' ⟨vr, h', ρ', rs, hr, objs', e1, hq, rest⟩; exact ⟨vr, h', ρ', rs, hr, objs', e1, k rs hq, rest⟩

@[simp] theorem ieq_eq (a b : Int) : ieq a b = decide (a = b) := by unfold ieq; by_cases h : a = b <;> simp [h]
@[simp] theorem ine_eq (a b : Int) : ine a b = !decide (a = b) := by unfold ine; by_cases h : a = b <;> simp [h]
@[simp] theorem ilt_eq (a b : Int) : ilt a b = decide (a < b) := rfl
@[simp] theorem ile_eq (a b : Int) : ile a b = decide (a ≤ b) := rfl
@[simp] theorem igt_eq (a b : Int) : igt a b = decide (b < a) := rfl
@[simp] theorem ige_eq (a b : Int) : ige a b = decide (b ≤ a) := rfl
@[simp] theorem imin_eq (a b : Int) : imin a b = min a b := by unfold imin; rw [Int.min_def]; split <;> split <;> omega
@[simp] theorem imax_eq (a b : Int) : imax a b = max a b := by unfold imax; rw [Int.max_def]; split <;> split <;> omega
@[simp] theorem bnot_eq (b : Bool) : bnot b = !b := rfl
@[simp] theorem band_eq (a b : Bool) : band a b = (a && b) := rfl
@[simp] theorem beqB_eq (a b : Bool) : beqB a b = (a == b) := rfl
@[simp] theorem bpick_eq (p a b : Bool) : bpick p a b = (if p then a else b) := by cases p <;> rfl
@[simp] theorem seq_eq (a b : ByteArray) : seq a b = (a.toList == b.toList) := rfl
@[simp] theorem sne_eq (a b : ByteArray) : sne a b = !(a.toList == b.toList) := rfl
@[simp] theorem rlen_eq (l : List (List SV)) : rlen l = (l.length : Int) := rfl
@[simp] theorem lsum_eq (a b : Int) : lsum a b = a + b := rfl
@[simp] theorem slen_eq (s : ByteArray) : slen s = (s.size : Int) := rfl

theorem Za0 {a b : Int} (h1 : -9223372036854775808 ≤ a + b) (h2 : a + b ≤ 9223372036854775807) : wadd .i64 a b = a + b := Zhn h1 h2
theorem Zcn {a b : Int} (h1 : -9223372036854775808 ≤ a - b) (h2 : a - b ≤ 9223372036854775807) : wsub .i64 a b = a - b := Zhn h1 h2

/-- Rows. -/
abbrev LL := List (List SV)
/-- A thing is itself. -/
abbrev Sm {α : Type} (x : α) : Prop := x = x
end Go.Px

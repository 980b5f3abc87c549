/- How an activation goes on fitting its abstract state. -/
import Derived.Test.YtknnooannohflaaGreatDoorPxC
namespace Go.Px
open Go.RowKit
set_option linter.unusedVariables false

theorem TRep.of_rep {h : Hp} {ρ : Nat → Loc} {tmps : Array Value} {v : Value} {s : SV} (hs : ∀ t w x, s ≠ .gd t w x) (r : Rep h ρ v s) : TRep h ρ tmps v s := by
 cases s <;> first | exact r | exact absurd rfl (hs _ _ _)

theorem TRep.of_rep' {h : Hp} {ρ : Nat → Loc} {tm : Array Value} {v : Value} {s : SV} (r : Rep h ρ v s) : TRep h ρ tm v s :=
 .of_rep (fun t w x e => by subst e; exact r.not_gd) r

theorem TRep.rep_unk {h : Hp} {ρ : Nat → Loc} (tmps : Array Value) (v : Value) : TRep h ρ tmps v .unk := Rep.pure _ _ (.unk _)

theorem TRep.carry {h h' : Hp} {ρ ρ' : Nat → Loc} {tm tm' : Array Value} {v : Value} {s s' : SV}
  (hg : ∀ t w x, s = .gd t w x → s' = .unk ∨ ∃ x', s' = .gd t w x' ∧ tm'.getD t undef = tm.getD t undef ∧ (Rep h ρ v x → Rep h' ρ' v x'))
  (hr : (∀ t w x, s ≠ .gd t w x) → (∀ t w x, s' ≠ .gd t w x) ∧ (Rep h ρ v s → Rep h' ρ' v s')) (r : TRep h ρ tm v s) : TRep h' ρ' tm' v s' := by
 by_cases hs : ∃ t w x, s = .gd t w x
 ·obtain ⟨t, w, x, rfl⟩ := hs
  rcases hg t w x rfl with rfl | ⟨x', rfl, ht, hx⟩
  ·exact .rep_unk _ _
  ·simp only [TRep] at r ⊢
   rw [ht]
   exact r.elim (fun ⟨a, b⟩ => Or.inl ⟨a, hx b⟩) Or.inr
 ·have hn : ∀ t w x, s ≠ .gd t w x := fun t w x e => hs ⟨t, w, x, e⟩
  obtain ⟨hn', hx⟩ := hr hn
  refine .of_rep hn' (hx ?_)
  cases s <;> first | exact r | exact absurd rfl (hn _ _ _)

theorem TRep.turn {h h' : Hp} {ρ ρ' : Nat → Loc} {tm : Array Value} {v : Value} {s : SV} {g : SV → SV} (hg : ∀ s, Rep h ρ v s → Rep h' ρ' v (hmap g s)) (r : TRep h ρ tm v s) : TRep h' ρ' tm v (hmap g s) := by
 by_cases hs : ∃ t w x, s = .gd t w x
 ·obtain ⟨t, w, x, rfl⟩ := hs
  simp only [TRep, hmap] at r ⊢
  exact r.elim (fun ⟨a, b⟩ => Or.inl ⟨a, hg x b⟩) Or.inr
 ·have hn : ∀ t w x, s ≠ .gd t w x := fun t w x e => hs ⟨t, w, x, e⟩
  refine TRep.of_rep' (hg s ?_)
  cases s <;> first | exact r | exact absurd rfl (hn _ _ _)

theorem TRep.mono {h h' : Hp} {ρ : Nat → Loc} {tm : Array Value} {v : Value} {s : SV} (hle : HLe h h') (r : TRep h ρ tm v s) : TRep h' ρ tm v s :=
 r.carry (fun t w x e => .inr ⟨x, e, rfl, fun r => r.mono hle⟩) (fun hn => ⟨hn, fun r => r.mono hle⟩)

theorem ungdBy_ne {d : Nat} {s : SV} (hs : ∀ t w x, s ≠ .gd t w x) : ungdBy d s = s := by
 cases s <;> first | rfl | exact absurd rfl (hs _ _ _)

theorem ungdBy_gd_same (d : Nat) (w : Bool) (x : SV) : ungdBy d (.gd d w x) = .unk := by simp [ungdBy]
theorem ungdBy_gd_ne {d t : Nat} (h : d ≠ t) (w : Bool) (x : SV) : ungdBy d (.gd t w x) = .gd t w x := by simp [ungdBy, beq_false h]

theorem getD_set_ne' {tm : Array Value} {d t : Nat} (v : Value) (h : d ≠ t) : (tm.setIfInBounds d v).getD t undef = tm.getD t undef := by
 simp [Array.getElem?_setIfInBounds_ne h]

def upd (ρ : Nat → Loc) (id : Nat) (l : Loc) : Nat → Loc := fun i => if i = id then l else ρ i

theorem upd_same (ρ : Nat → Loc) (id : Nat) (l : Loc) : upd ρ id l id = l := by simp [upd]
theorem upd_ne (ρ : Nat → Loc) {id i : Nat} (l : Loc) (h : i ≠ id) : upd ρ id l i = ρ i := by simp [upd, h]

section
variable {X : Cx} {h : Hp} {ρ : Nat → Loc} {st : St} {a : Act} {w : World}

theorem FitsAt.put (F : FitsAt X h ρ st a w) (d : Option Nat) {v : Value} {s : SV} (r : TRep h ρ a.tmps v s) : FitsAt X h ρ (st.put d s) (a.put d v) w := by
 cases d with
 | none => exact F
 | some d =>
  refine { F with size := ?_, tm := ?_, df := F.df }
  ·simp [St.put, Act.put, lset_eq, ungdAll_length, F.size]
  ·intro t s' hs'
   simp only [St.put, lset_eq, Act.put] at hs' ⊢
   rw [List.getElem?_set] at hs'
   by_cases hdt : d = t
   ·subst hdt
    simp only [if_true] at hs'
    split at hs'
    ·rename_i hlt
     cases hs'
     have hlt' : d < a.tmps.size := by rw [F.size]; rwa [ungdAll_length] at hlt
     have hv : (a.tmps.setIfInBounds d v).getD d undef = v := by simp [hlt']
     rw [hv]
     refine r.carry (fun t w x e => ?_) (fun hn => ?_)
     ·subst e
      by_cases hd : d = t
      ·subst hd; exact .inl (ungdBy_gd_same _ _ _)
      ·exact .inr ⟨x, ungdBy_gd_ne hd _ _, getD_set_ne' _ hd, id⟩
     ·rw [ungdBy_ne hn]; exact ⟨hn, id⟩
    ·cases hs'
   ·simp only [hdt, if_false] at hs'
    rw [ungdAll_getElem?] at hs'
    cases hx : st.tmps[t]? with
    | none => simp [hx] at hs'
    | some x =>
     simp [hx] at hs'
     subst hs'
     rw [getD_set_ne' _ hdt]
     refine (F.tm t x hx).carry (fun t' w' y e => ?_) (fun hn => ?_)
     ·subst e
      by_cases hd : d = t'
      ·subst hd; exact .inl (ungdBy_gd_same _ _ _)
      ·exact .inr ⟨y, ungdBy_gd_ne hd _ _, getD_set_ne' _ hd, id⟩
     ·rw [ungdBy_ne hn]; exact ⟨hn, id⟩

theorem OwnOK.mono {h' : Hp} {w' : World} {l : Loc} {sz : Nat} {rows : List (List SV)} (r : OwnOK h w l sz rows) (hle : HLe h h') (hb : w'.heap[l.blk]? = w.heap[l.blk]?)
  (hno : ∀ o, h l.blk o = none → h' l.blk o = none) : OwnOK h' w' l sz rows := by
 obtain ⟨cs, t, fz, hc, hs, hf, hv⟩ := r.hblk
 exact { r with hblk := ⟨cs, t, fz, by rw [hb]; exact hc, hs, hf, fun i r' j c h1 h2 => by
  obtain ⟨v, e1, e2, e3⟩ := hv i r' j c h1 h2; exact ⟨v, e1, e2.mono hle, e3⟩⟩, hh := fun o => hno o (r.hh o), hfz := fun cs t fz e => r.hfz cs t fz (by rw [← hb]; exact e), hcm := r.hcm }

theorem ObOK.turn {h' : Hp} {ρ' : Nat → Loc} {w' : World} {id : Nat} {o : Ob} {g : SV → SV} (hrep : ∀ v s, Rep h ρ v s → Rep h' ρ' v (hmap g s)) (hle : HLe h h') (hρ : ρ' id = ρ id)
  (hb : (ρ id).none = false → w'.heap[(ρ id).blk]? = w.heap[(ρ id).blk]?) (hh : (ρ id).none = false → ∀ x, h (ρ id).blk x = none → h' (ρ id).blk x = none)
  (r : ObOK h ρ w id o) : ObOK h' ρ' w' id (hmapOb g o) := by
 cases o with
 | box cells =>
  obtain ⟨hn, ⟨cs, t, hc, hsz, hcell⟩, hno⟩ := r
  refine ⟨by rw [hρ]; exact hn, ⟨cs, t, by rw [hρ, hb hn]; exact hc, by rw [hmapL_length]; exact hsz, fun i v c hv hc => ?_⟩, fun x => by rw [hρ]; exact hh hn x (hno x)⟩
  rw [hmapL_getElem?] at hc
  cases hx : cells[i]? with
  | none => simp [hx] at hc
  | some y =>
   simp [hx] at hc
   subst hc
   obtain ⟨p, q⟩ := hcell i v y hv hx
   exact ⟨hrep _ _ p, q⟩
 | own sz rows =>
  rcases r with ⟨hn, e⟩ | ⟨hn, r⟩
  ·exact .inl ⟨by rw [hρ]; exact hn, e⟩
  ·refine .inr ⟨by rw [hρ]; exact hn, ?_⟩
   rw [hρ]
   exact r.mono hle (hb hn) (hh hn)
 | mp es =>
  obtain ⟨hn, ⟨ents, cl, hc, hm⟩, hno⟩ := r
  exact ⟨by rw [hρ]; exact hn, ⟨ents, cl, by rw [hρ, hb hn]; exact hc, hm⟩, fun x => by rw [hρ]; exact hh hn x (hno x)⟩
 | arr kd m ns =>
  obtain ⟨hn, ⟨cs, t, hc, hm⟩, hno⟩ := r
  exact ⟨by rw [hρ]; exact hn, ⟨cs, t, by rw [hρ, hb hn]; exact hc, hm⟩, fun x => by rw [hρ]; exact hh hn x (hno x)⟩

mutual
theorem hmap_id : ∀ (s : SV), hmap (fun s => s) s = s
 | .agg cs => by simp [hmap, hmapL_id cs]
 | .tup cs => by simp [hmap, hmapL_id cs]
 | .gd t w v => by simp [hmap, hmap_id v]
 | .val _ | .slice .. | .mapv _ | .ref .. | .clo .. | .ifc .. | .ptr .. | .bsl .. | .osl _ | .eptr .. | .osv .. | .omp _ | .arr .. | .aptr .. | .asl .. | .unk => by simp [hmap]
theorem hmapL_id : ∀ (l : List SV), hmapL (fun s => s) l = l
 | [] => rfl
 | c :: cs => by simp [hmapL, hmap_id c, hmapL_id cs]
end

theorem hmapOb_id (o : Ob) : hmapOb (fun s => s) o = o := by cases o <;> simp [hmapOb, hmapL_id]

theorem ObOK.carry {h' : Hp} {w' : World} {id : Nat} {o : Ob} (hle : HLe h h')
  (hb : (ρ id).none = false → w'.heap[(ρ id).blk]? = w.heap[(ρ id).blk]?) (hh : (ρ id).none = false → ∀ x, h (ρ id).blk x = none → h' (ρ id).blk x = none)
  (r : ObOK h ρ w id o) : ObOK h' ρ w' id o := by
 have := r.turn (ρ' := ρ) (g := fun s => s) (fun v s q => by rw [hmap_id]; exact q.mono hle) hle rfl hb hh
 rwa [hmapOb_id] at this

theorem ObOK.blk_lt {id : Nat} {o : Ob} (r : ObOK h ρ w id o) (hn : (ρ id).none = false) : (ρ id).blk < w.heap.size := by
 have : ∀ x, w.heap[(ρ id).blk]? = some x → (ρ id).blk < w.heap.size := fun x hx => (Array.getElem?_eq_some_iff.1 hx).1
 cases o with
 | box cells => obtain ⟨_, ⟨cs, t, hc, _⟩, _⟩ := r; exact this _ hc
 | own sz rows =>
  rcases r with ⟨e, _⟩ | ⟨_, r⟩
  ·rw [e] at hn; cases hn
  ·obtain ⟨cs, t, fz, hc, _⟩ := r.hblk; exact this _ hc
 | mp es => obtain ⟨_, ⟨ents, cl, hc, _⟩, _⟩ := r; exact this _ hc
 | arr kd m ns => obtain ⟨_, ⟨cs, t, hc, _⟩, _⟩ := r; exact this _ hc

theorem ObOK.hno {id : Nat} {o : Ob} (r : ObOK h ρ w id o) (hn : (ρ id).none = false) : ∀ x, h (ρ id).blk x = none := by
 cases o with
 | box cells => exact r.2.2
 | own sz rows =>
  rcases r with ⟨e, _⟩ | ⟨_, r⟩
  ·rw [e] at hn; cases hn
  ·exact r.hh
 | mp es => exact r.2.2
 | arr kd m ns => exact r.2.2

theorem hsub_carry {w' : World} (hs : HSub h w) (hk : ∀ b, b < w.heap.size → w'.heap[b]? = w.heap[b]?) : HSub h w' := fun b o v e => by
 have := hs b o v e
 have hlt := hs.lt e
 unfold World.cell? at this ⊢
 simp only [] at this ⊢
 rw [hk b hlt]; exact this

theorem Gl.le {h h' : Hp} {w : World} (g : Gl h w) (hle : HLe h h') : Gl h' w :=
 ⟨fun p hp i c e => by
  obtain ⟨v, h1, h2⟩ := g.cells p hp i c e
  exact ⟨v, hle _ _ _ h1, h2.mono hle⟩, g.size⟩

theorem Gl.off {h : Hp} {w : World} (g : Gl h w) {objs : List (Nat × Ob)} {ρ : Nat → Loc} (hn : ∀ i, live objs ρ i → ∀ o, h (ρ i).blk o = none) : ∀ p ∈ globTab, ¬ Gv objs ρ p.1 := by
 rintro p hp ⟨i, hi, e⟩
 obtain ⟨hpos, _⟩ := g.size p hp
 obtain ⟨v, h1, _⟩ := g.cells p hp 0 _ (List.getElem?_eq_getElem hpos)
 rw [← e, hn i hi 0] at h1
 cases h1

theorem ObOK.hnone {h : Hp} {ρ : Nat → Loc} {w : World} {id : Nat} {o : Ob} (k : ObOK h ρ w id o) (hn : (ρ id).none = false) : ∀ x, h (ρ id).blk x = none := by
 cases o with
 | box cells => exact k.2.2
 | own sz rows =>
  rcases k with ⟨h1, _⟩ | ⟨_, h2⟩
  ·rw [h1] at hn; cases hn
  ·exact h2.hh
 | mp es => exact k.2.2
 | arr kd m ns => exact k.2.2

theorem FitsAt.glob (F : FitsAt X h ρ st a w) : Gl h w := by
 refine ⟨(F.gl.1.le F.mono).cells, fun p hp => ?_⟩
 obtain ⟨h1, cs, t, fz, h2, h3⟩ := F.gl.1.size p hp
 refine ⟨h1, cs, t, fz, ?_, h3⟩
 rw [F.kp.block p.1 (by
  have := Array.getElem?_eq_some_iff.1 h2
  exact this.1) (F.gl.2 p hp)]
 exact h2

theorem FitsAt.grow {h' : Hp} {w' : World} (F : FitsAt X h ρ st a w) (hle : HLe h h') (hk : ∀ b, b < w.heap.size → w'.heap[b]? = w.heap[b]?)
  (hold : ∀ b, b < w.heap.size → ∀ o, h b o = none → h' b o = none) (hsub : HSub h' w') (hkp : Keeps X.G X.w w') : FitsAt X h' ρ st a w' := by
 have lt := fun id o ho hn => ObOK.blk_lt (F.obj id o ho) hn
 refine { F with tm := fun t s hs => (F.tm t s hs).mono hle, sub := hsub, obj := fun id o ho => ?_, mono := F.mono.trans hle, ext := fun b hb hg o e => ?_, kp := hkp }
 ·exact (F.obj id o ho).carry hle (fun hn => hk _ (lt id o ho hn)) (fun hn x => hold _ (lt id o ho hn) x)
 ·exact hold b (Nat.lt_of_lt_of_le hb F.kp.size) o (F.ext b hb hg o e)

theorem FitsAt.world {w' : World} (F : FitsAt X h ρ st a w) (hk : ∀ b, b < w.heap.size → w'.heap[b]? = w.heap[b]?) (hkp : Keeps X.G X.w w') : FitsAt X h ρ st a w' :=
 F.grow (HLe.refl h) hk (fun _ _ _ e => e) (hsub_carry F.sub hk) hkp

theorem FitsAt.turn {h' : Hp} {ρ' : Nat → Loc} {w' : World} (F : FitsAt X h ρ st a w) (g : SV → SV) (objs' : List (Nat × Ob)) (hrep : ∀ v s, Rep h ρ v s → Rep h' ρ' v (hmap g s))
  (hobj : ∀ id o, oget objs' id = some o → ObOK h' ρ' w' id o) (hlive : ∀ i, live objs' ρ' i → live st.objs ρ i ∧ (ρ' i).blk = (ρ i).blk)
  (hsub : HSub h' w') (hle : HLe h h') (hext : ∀ b, b < X.w.heap.size → ¬ X.G b → ∀ o, h b o = none → h' b o = none) (hkp : Keeps X.G X.w w') (hpin : ∀ i, idOK i = false → ρ' i = ρ i) :
  FitsAt X h' ρ' { tmps := hmapL g st.tmps, objs := objs' } a w' where
 size := by simp [hmapL_length, F.size]
 tm := fun t s hs => by
  simp only [hmapL_getElem?] at hs
  cases hx : st.tmps[t]? with
  | none => simp [hx] at hs
  | some x => simp [hx] at hs; subst hs; exact (F.tm t x hx).turn (fun s r => hrep _ s r)
 df := F.df
 sub := hsub
 obj := hobj
 inj := fun i j hi hj hij => by rw [(hlive i hi).2, (hlive j hj).2]; exact F.inj i j (hlive i hi).1 (hlive j hj).1 hij
 own := fun i hi => by rw [(hlive i hi).2]; exact F.own i (hlive i hi).1
 mono := F.mono.trans hle
 ext := fun b hb hg o e => hext b hb hg o (F.ext b hb hg o e)
 kp := hkp
 pin := fun i l e => ⟨by rw [hpin i (F.pin i l e).2]; exact (F.pin i l e).1, (F.pin i l e).2⟩
 gl := F.gl

theorem oget_hmapO_some {g : SV → SV} {xs : List (Nat × Ob)} {m : Nat} {o : Ob} (e : oget (hmapO g xs) m = some o) : ∃ o', oget xs m = some o' ∧ o = hmapOb g o' := by
 rw [oget_hmapO] at e
 cases h : oget xs m with
 | none => simp [h] at e
 | some o' => simp [h] at e; exact ⟨o', rfl, e.symm⟩

theorem oget_odel_some {xs : List (Nat × Ob)} {n m : Nat} {o : Ob} (e : oget (odel xs n) m = some o) : m ≠ n ∧ oget xs m = some o := by
 rw [oget_odel] at e
 split at e
 ·cases e
 ·rename_i h; exact ⟨fun x => h x.symm, e⟩

theorem FitsAt.drop (F : FitsAt X h ρ st a w) (id : Nat) {ρ' : Nat → Loc} (hρ : ∀ i, i ≠ id → ρ' i = ρ i) (hid : idOK id = true ∨ ρ' id = ρ id) : FitsAt X h ρ' (st.drop id) a w := by
 refine F.turn (killG id) _ (fun v s r => r.kill id (HLe.refl h) hρ) (fun i o e => ?_) (fun i hi => ?_) F.sub (HLe.refl h) (fun _ _ _ _ e => e) F.kp (fun i hi => ?_)
 ·obtain ⟨o', e', rfl⟩ := oget_hmapO_some e
  obtain ⟨hne, e''⟩ := oget_odel_some e'
  exact (F.obj i o' e'').turn (fun v s r => r.kill id (HLe.refl h) hρ) (HLe.refl h) (hρ i hne) (fun _ => rfl) (fun _ _ e => e)
 ·obtain ⟨⟨o, e⟩, hn⟩ := hi
  obtain ⟨o', e', rfl⟩ := oget_hmapO_some e
  obtain ⟨hne, e''⟩ := oget_odel_some e'
  rw [hρ i hne] at hn ⊢
  exact ⟨⟨⟨o', e''⟩, hn⟩, rfl⟩
 ·by_cases e : i = id
  ·subst e
   rcases hid with h | h
   ·rw [hi] at h; cases h
   ·exact h
  ·exact hρ i e

theorem FitsAt.add (F : FitsAt X h ρ st a w) (id : Nat) (o : Ob) (hno : oget st.objs id = none) (ho : ObOK h ρ w id o)
  (hown : (ρ id).none = false → X.w.heap.size ≤ (ρ id).blk ∨ X.G (ρ id).blk) (hnew : (ρ id).none = false → ∀ i, live st.objs ρ i → (ρ i).blk ≠ (ρ id).blk) :
  FitsAt X h ρ { st with objs := (id, o) :: st.objs } a w := by
 have hcase : ∀ i, live ((id, o) :: st.objs) ρ i → i = id ∨ live st.objs ρ i := by
  rintro i ⟨⟨x, hx⟩, hn⟩
  rw [oget_cons] at hx
  split at hx
  ·rename_i e; exact .inl e.symm
  ·exact .inr ⟨⟨x, hx⟩, hn⟩
 refine { F with obj := fun i x hx => ?_, inj := fun i j hi hj hij => ?_, own := fun i hi => ?_ }
 ·simp only [oget_cons] at hx
  split at hx
  ·rename_i e; subst e; cases hx; exact ho
  ·exact F.obj i x hx
 ·rcases hcase i hi with rfl | hi'
  ·rcases hcase j hj with rfl | hj'
   ·exact absurd rfl hij
   ·exact Ne.symm (hnew hi.2 j hj')
  ·rcases hcase j hj with rfl | hj'
   ·exact hnew hj.2 i hi'
   ·exact F.inj i j hi' hj' hij
 ·rcases hcase i hi with rfl | hi'
  ·exact hown hi.2
  ·exact F.own i hi'

theorem oget_drop_self (st : St) (id : Nat) : oget (st.drop id).objs id = none := by simp [St.drop, oget_hmapO, oget_odel]

theorem FitsAt.bind (F : FitsAt X h ρ st a w) (id : Nat) (hid : idOK id = true) (o : Ob) (l : Loc) (ho : ObOK h (upd ρ id l) w id (hmapOb (killG id) o))
  (hown : l.none = false → X.w.heap.size ≤ l.blk ∨ X.G l.blk) (hnew : l.none = false → ∀ i, i ≠ id → live st.objs ρ i → (ρ i).blk ≠ l.blk) :
  FitsAt X h (upd ρ id l) (st.bind id o) a w := by
 have F1 := F.drop id (ρ' := upd ρ id l) (fun i hi => upd_ne ρ l hi) (.inl hid)
 refine F1.add id _ (oget_drop_self st id) ho (by rw [upd_same]; exact hown) (fun hn i hi => ?_)
 rw [upd_same] at hn ⊢
 obtain ⟨⟨o', e⟩, hn'⟩ := hi
 obtain ⟨o'', e', rfl⟩ := oget_hmapO_some e
 obtain ⟨hne, e''⟩ := oget_odel_some e'
 rw [upd_ne ρ l hne] at hn' ⊢
 exact hnew hn i hne ⟨⟨o'', e''⟩, hn'⟩

theorem FitsAt.setOb (F : FitsAt X h ρ st a w) (id : Nat) (o o' : Ob) (w' : World) (ho : oget st.objs id = some o) (hn : (ρ id).none = false) (ho' : ObOK h ρ w' id o')
  (hoth : ∀ b, b ≠ (ρ id).blk → w'.heap[b]? = w.heap[b]?) (hkp : Keeps (fun b => b = (ρ id).blk) w w') : FitsAt X h ρ { st with objs := oput st.objs id o' } a w' := by
 have hlv : live st.objs ρ id := ⟨⟨_, ho⟩, hn⟩
 have hno := (F.obj id _ ho).hno hn
 have hlive : ∀ i, live (oput st.objs id o') ρ i → live st.objs ρ i := by
  rintro i ⟨⟨x, hx⟩, hni⟩
  rw [oget_oput] at hx
  split at hx
  ·rename_i e; subst e; exact hlv
  ·exact ⟨⟨x, hx⟩, hni⟩
 refine { F with tm := F.tm, sub := fun b o v e => ?_, obj := fun i x hi => ?_, inj := fun i j hi hj => F.inj i j (hlive i hi) (hlive j hj), own := fun i hi => F.own i (hlive i hi), kp := ?_ }
 ·have hb : b ≠ (ρ id).blk := fun hb => by subst hb; rw [hno o] at e; cases e
  have := F.sub b o v e
  unfold World.cell? at this ⊢
  simp only [] at this ⊢
  rw [hoth b hb]; exact this
 ·simp only [oget_oput] at hi
  by_cases hii : id = i
  ·subst hii
   rw [if_pos rfl, ho] at hi
   cases hi
   exact ho'
  ·rw [if_neg hii] at hi
   refine (F.obj i x hi).carry (HLe.refl h) (fun hni => hoth _ ?_) (fun _ _ e => e)
   exact F.inj i id ⟨⟨x, hi⟩, hni⟩ hlv (Ne.symm hii)
 ·refine F.kp.step hkp (fun k hk => ?_)
  subst hk
  exact F.own id hlv

end
end Go.Px

/- How an activation goes on fitting its abstract state. -/
import Derived.Test.YtggfbmcdodbchaaPxC
namespace Go.Px
open Go.RowKit

theorem TRep.of_rep {h : Hp} {ρ : Nat → Loc} {tmps : Array Value} {v : Value} {s : SV} (hs : ∀ t w x, s ≠ .gd t w x) (r : Rep h ρ v s) : TRep h ρ tmps v s := by
  cases s <;> first | exact r | exact absurd rfl (hs _ _ _)

theorem TRep.rep_unk {h : Hp} {ρ : Nat → Loc} (tmps : Array Value) (v : Value) : TRep h ρ tmps v .unk := Rep.pure _ _ (.unk _)

/-- A reading of a slot is carried over to another h, ρ and other slots where its guard's slot is the same. -/
theorem TRep.carry {h h' : Hp} {ρ ρ' : Nat → Loc} {tm tm' : Array Value} {v : Value} {s s' : SV}
    (hg : ∀ t w x, s = .gd t w x → s' = .unk ∨ ∃ x', s' = .gd t w x' ∧ tm'.getD t undef = tm.getD t undef ∧ (Rep h ρ v x → Rep h' ρ' v x'))
    (hr : (∀ t w x, s ≠ .gd t w x) → (∀ t w x, s' ≠ .gd t w x) ∧ (Rep h ρ v s → Rep h' ρ' v s')) (r : TRep h ρ tm v s) : TRep h' ρ' tm' v s' := by
  by_cases hs : ∃ t w x, s = .gd t w x
  · obtain ⟨t, w, x, rfl⟩ := hs
    rcases hg t w x rfl with rfl | ⟨x', rfl, ht, hx⟩
    · exact .rep_unk _ _
    · simp only [TRep] at r ⊢
      rw [ht]
      exact r.elim (fun ⟨a, b⟩ => Or.inl ⟨a, hx b⟩) Or.inr
  · have hn : ∀ t w x, s ≠ .gd t w x := fun t w x e => hs ⟨t, w, x, e⟩
    obtain ⟨hn', hx⟩ := hr hn
    refine .of_rep hn' (hx ?_)
    cases s <;> first | exact r | exact absurd rfl (hn _ _ _)

theorem ungdBy_ne {d : Nat} {s : SV} (hs : ∀ t w x, s ≠ .gd t w x) : ungdBy d s = s := by
  cases s <;> first | rfl | exact absurd rfl (hs _ _ _)

theorem ungdBy_gd_same (d : Nat) (w : Bool) (x : SV) : ungdBy d (.gd d w x) = .unk := by simp [ungdBy]
theorem ungdBy_gd_ne {d t : Nat} (h : d ≠ t) (w : Bool) (x : SV) : ungdBy d (.gd t w x) = .gd t w x := by simp [ungdBy, beq_false h]

theorem getD_set_ne' {tm : Array Value} {d t : Nat} (v : Value) (h : d ≠ t) : (tm.setIfInBounds d v).getD t undef = tm.getD t undef := by
  simp [Array.getElem?_setIfInBounds_ne h]

section
variable {w0 : World} {h0 h : Hp} {ρ : Nat → Loc} {st : St} {a : Act} {w : World}

/-- A slot is written. -/
theorem FitsAt.put (F : FitsAt w0 h0 h ρ st a w) (d : Option Nat) {v : Value} {s : SV} (r : TRep h ρ a.tmps v s) : FitsAt w0 h0 h ρ (st.put d s) (a.put d v) w := by
  cases d with
  | none => exact F
  | some d =>
    refine { F with size := ?_, tm := ?_, df := F.df }
    · simp [St.put, Act.put, lset_eq, ungdAll_length, F.size]
    · intro t s' hs'
      simp only [St.put, lset_eq, Act.put] at hs' ⊢
      rw [List.getElem?_set] at hs'
      by_cases hdt : d = t
      · subst hdt
        simp only [if_true] at hs'
        split at hs'
        · rename_i hlt
          cases hs'
          have hlt' : d < a.tmps.size := by rw [F.size]; rwa [ungdAll_length] at hlt
          have hv : (a.tmps.setIfInBounds d v).getD d undef = v := by simp [hlt']
          rw [hv]
          refine r.carry (fun t w x e => ?_) (fun hn => ?_)
          · subst e
            by_cases hd : d = t
            · subst hd; exact .inl (ungdBy_gd_same _ _ _)
            · exact .inr ⟨x, ungdBy_gd_ne hd _ _, getD_set_ne' _ hd, id⟩
          · rw [ungdBy_ne hn]; exact ⟨hn, id⟩
        · cases hs'
      · simp only [hdt, if_false] at hs'
        rw [ungdAll_getElem?] at hs'
        cases hx : st.tmps[t]? with
        | none => simp [hx] at hs'
        | some x =>
          simp [hx] at hs'
          subst hs'
          rw [getD_set_ne' _ hdt]
          refine (F.tm t x hx).carry (fun t' w' y e => ?_) (fun hn => ?_)
          · subst e
            by_cases hd : d = t'
            · subst hd; exact .inl (ungdBy_gd_same _ _ _)
            · exact .inr ⟨y, ungdBy_gd_ne hd _ _, getD_set_ne' _ hd, id⟩
          · rw [ungdBy_ne hn]; exact ⟨hn, id⟩

theorem kill_gd (n t : Nat) (w : Bool) (x : SV) : kill n (.gd t w x) = .gd t w (kill n x) := rfl
theorem kill_ne_gd {n : Nat} {s : SV} (hs : ∀ t w x, s ≠ .gd t w x) : ∀ t w x, kill n s ≠ .gd t w x := by
  intro t w x
  cases s with
  | gd t' w' v => exact absurd rfl (hs t' w' v)
  | ptr id off => simp only [kill]; cases hb : Nat.beq id n <;> simp
  | bsl id off k => simp only [kill]; cases hb : Nat.beq id n <;> simp
  | _ => simp [kill]

/-- Objects are read alike in another world that has their blocks. -/
theorem ObOK.carry {h' : Hp} {ρ' : Nat → Loc} {w' : World} {id : Nat} {o : Ob} (hle : HLe h h') (hρ : ρ' id = ρ id)
    (hb : (ρ id).none = false → w'.heap[(ρ id).blk]? = w.heap[(ρ id).blk]?) (hh : (ρ id).none = false → ∀ x, h (ρ id).blk x = none → h' (ρ id).blk x = none) (n : Nat)
    (hρn : ∀ i, i ≠ n → ρ' i = ρ i) (r : ObOK h ρ w id o) : ObOK h' ρ' w' id (killOb n o) := by
  cases o with
  | box cells =>
    obtain ⟨hn, ⟨cs, t, hc, hsz, hcell⟩, hno⟩ := r
    refine ⟨by rw [hρ]; exact hn, ⟨cs, t, by rw [hρ, hb hn]; exact hc, by rw [killL_length]; exact hsz, fun i v c hv hc => ?_⟩, fun x => by rw [hρ]; exact hh hn x (hno x)⟩
    rw [killL_getElem?] at hc
    cases hx : cells[i]? with
    | none => simp [hx] at hc
    | some y =>
      simp [hx] at hc
      subst hc
      obtain ⟨p, q⟩ := hcell i v y hv hx
      exact ⟨(p.mono hle).kill n hρn, q⟩
  | tip =>
    simp only [ObOK, killOb, hρ] at r ⊢
    rcases r with r | ⟨⟨cs, t, fz, hc, hsz, hf⟩, hno⟩
    · exact .inl r
    · cases hnn : (ρ id).none with
      | true => exact .inl rfl
      | false => exact .inr ⟨⟨cs, t, fz, by rw [hb hnn]; exact hc, hsz, hf⟩, fun o ho => hh hnn o (hno o ho)⟩

theorem HSub.lt {b o : Nat} {v : Value} (hs : HSub h w) (e : h b o = some v) : b < w.heap.size := by
  have := hs b o v e
  unfold World.cell? at this
  simp only [] at this
  rcases Nat.lt_or_ge b w.heap.size with h' | h'
  · exact h'
  · rw [Array.getElem?_eq_none h'] at this; cases this

theorem ObOK.blk_lt {id : Nat} {o : Ob} (r : ObOK h ρ w id o) (hn : (ρ id).none = false) : (ρ id).blk < w.heap.size := by
  have : ∀ x, w.heap[(ρ id).blk]? = some x → (ρ id).blk < w.heap.size := fun x hx => (Array.getElem?_eq_some_iff.1 hx).1
  cases o with
  | box cells => obtain ⟨_, ⟨cs, t, hc, _⟩, _⟩ := r; exact this _ hc
  | tip =>
    rcases r with r | ⟨⟨cs, t, fz, hc, _⟩, _⟩
    · rw [r] at hn; cases hn
    · exact this _ hc

/-- The world turns elsewhere: other blocks than those of the objects, and of h. -/
theorem FitsAt.world {w' : World} (F : FitsAt w0 h0 h ρ st a w) (hk : ∀ b, b < w.heap.size → w'.heap[b]? = w.heap[b]?) (hb : Below w0.heap.size w0 w') : FitsAt w0 h0 h ρ st a w' := by
  have hsub : HSub h w' := fun b o v e => by
    have := F.sub b o v e
    have hlt := F.sub.lt e
    unfold World.cell? at this ⊢
    simp only [] at this ⊢
    rw [hk b hlt]; exact this
  refine { F with sub := hsub, obj := fun id o ho => ?_, bel := hb }
  have r := F.obj id o ho
  cases o with
  | box cells =>
    obtain ⟨hn, ⟨cs, t, hc, hsz, hcell⟩, hno⟩ := r
    exact ⟨hn, ⟨cs, t, by rw [hk _ (ObOK.blk_lt (F.obj id _ ho) hn)]; exact hc, hsz, hcell⟩, hno⟩
  | tip =>
    rcases r with r | ⟨⟨cs, t, fz, hc, hsz, hf⟩, hno⟩
    · exact .inl r
    · cases hnn : (ρ id).none with
      | true => exact .inl hnn
      | false => exact .inr ⟨⟨cs, t, fz, by rw [hk _ (ObOK.blk_lt (F.obj id _ ho) hnn)]; exact hc, hsz, hf⟩, hno⟩

/-- h grows by cells of new blocks or of blocks that nobody owns. -/
theorem FitsAt.grow {h' : Hp} {w' : World} (F : FitsAt w0 h0 h ρ st a w) (hle : HLe h h') (hk : ∀ b, b < w.heap.size → w'.heap[b]? = w.heap[b]?)
    (hold : ∀ b, b < w.heap.size → ∀ o, h' b o = h b o) (hsub : HSub h' w') (hb : Below w0.heap.size w0 w') : FitsAt w0 h0 h' ρ st a w' := by
  have F1 := F.world hk hb
  refine { F1 with tm := fun t s hs => ?_, sub := hsub, obj := fun id o ho => ?_, ext := fun b hlt o => ?_ }
  · exact (F.tm t s hs).carry (fun t w x e => .inr ⟨x, e, rfl, fun r => r.mono hle⟩) (fun hn => ⟨hn, fun r => r.mono hle⟩)
  · have r := F1.obj id o ho
    have lt := fun hn => ObOK.blk_lt (F.obj id _ ho) hn
    cases o with
    | box cells =>
      obtain ⟨hn, ⟨cs, t, hc, hsz, hcell⟩, hno⟩ := r
      exact ⟨hn, ⟨cs, t, hc, hsz, fun i v c hv hc => ⟨(hcell i v c hv hc).1.mono hle, (hcell i v c hv hc).2⟩⟩, fun x => by rw [hold _ (lt hn)]; exact hno x⟩
    | tip =>
      rcases r with r | ⟨⟨cs, t, fz, hc, hsz, hf⟩, hno⟩
      · exact .inl r
      · cases hnn : (ρ id).none with
        | true => exact .inl hnn
        | false => exact .inr ⟨⟨cs, t, fz, hc, hsz, hf⟩, fun o ho => by rw [hold _ (lt hnn)]; exact hno o ho⟩
  · rw [hold b (Nat.lt_of_lt_of_le hlt F.bel.size)]; exact F.ext b hlt o

def upd (ρ : Nat → Loc) (id : Nat) (l : Loc) : Nat → Loc := fun i => if i = id then l else ρ i

theorem upd_same (ρ : Nat → Loc) (id : Nat) (l : Loc) : upd ρ id l id = l := by simp [upd]
theorem upd_ne (ρ : Nat → Loc) {id i : Nat} (l : Loc) (h : i ≠ id) : upd ρ id l i = ρ i := by simp [upd, h]

/-- An object of one's own is named. Its block is nobody's else. -/
theorem FitsAt.bind (F : FitsAt w0 h0 h ρ st a w) (id : Nat) (o : Ob) (l : Loc) (ho : ObOK h (upd ρ id l) w id (killOb id o))
    (hown : l.none = false → w0.heap.size ≤ l.blk) (hnew : l.none = false → ∀ i, i ≠ id → live st.objs ρ i → (ρ i).blk ≠ l.blk) :
    FitsAt w0 h0 h (upd ρ id l) (st.bind id o) a w := by
  have hρ : ∀ i, i ≠ id → upd ρ id l i = ρ i := fun i hi => upd_ne ρ l hi
  have hlive : ∀ i, i ≠ id → live (st.bind id o).objs (upd ρ id l) i → live st.objs ρ i := by
    rintro i hi ⟨⟨x, hx⟩, hn⟩
    rw [oget_bind, if_neg (Ne.symm hi)] at hx
    cases hy : oget st.objs i with
    | none => simp [hy] at hx
    | some y => exact ⟨⟨y, hy⟩, by rw [hρ i hi] at hn; exact hn⟩
  refine { F with size := ?_, tm := fun t s hs => ?_, obj := fun i x hx => ?_, inj := fun i j hi hj hij => ?_, own := fun i hi => ?_ }
  · simp [St.bind, killL_length, F.size]
  · simp only [St.bind, killL_getElem?] at hs
    cases hx : st.tmps[t]? with
    | none => simp [hx] at hs
    | some x =>
      simp [hx] at hs
      subst hs
      refine (F.tm t x hx).carry (fun t w y e => ?_) (fun hn => ⟨kill_ne_gd hn, fun r => r.kill id hρ⟩)
      subst e
      exact .inr ⟨kill id y, kill_gd _ _ _ _, rfl, fun r => r.kill id hρ⟩
  · rw [oget_bind] at hx
    by_cases hi : id = i
    · subst hi; simp at hx; subst hx; exact ho
    · rw [if_neg hi] at hx
      cases hy : oget st.objs i with
      | none => simp [hy] at hx
      | some y =>
        simp [hy] at hx
        subst hx
        exact (F.obj i y hy).carry (HLe.refl h) (hρ i (Ne.symm hi)) (fun _ => rfl) (fun _ _ e => e) id hρ
  · by_cases hii : i = id
    · subst hii
      have hjl := hlive j (Ne.symm hij) hj
      rw [upd_same, hρ j (Ne.symm hij)]
      exact Ne.symm (hnew (by have := hi.2; rwa [upd_same] at this) j (Ne.symm hij) hjl)
    · by_cases hjj : j = id
      · subst hjj
        have hil := hlive i hii hi
        rw [upd_same, hρ i hii]
        exact hnew (by have := hj.2; rwa [upd_same] at this) i hii hil
      · rw [hρ i hii, hρ j hjj]
        exact F.inj i j (hlive i hii hi) (hlive j hjj hj) hij
  · by_cases hii : i = id
    · subst hii; rw [upd_same]; exact hown (by have := hi.2; rwa [upd_same] at this)
    · rw [hρ i hii]; exact F.own i (hlive i hii hi)

end
end Go.Px
